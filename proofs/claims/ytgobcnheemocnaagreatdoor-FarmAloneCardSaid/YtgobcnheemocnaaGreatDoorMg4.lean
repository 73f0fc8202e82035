/-
  Several texts in one: The reckoned run: regions that draw their order; code; calls. No condition. What the reckoned run's values and memory stand for; operations that look at no memory. No condition. Operations that look at no memory: what the reckoned run says of them is so. No condition.
-/
import Derived.Test.YtgobcnheemocnaaGreatDoorEvBG
import Derived.Laws.Tables
import Derived.Orders
section
namespace Go.Proofs.YtgobcnheemocnaaGreatDoor
open Go
set_option linter.unusedSimpArgs false
set_option linter.unusedVariables false
noncomputable section

/-- Which operations come ahead of which, whatever order is drawn. -/
def maskOf (t : Tr Nat) (o : Oper) : Nat :=
  o.after.toList.foldl (fun s e => bif Region.binds .any e then Nat.lor (Nat.lor s (2 ^ e.on)) ((t.get e.on).getD 0) else s) 0
def masks : List Oper → Nat → Tr Nat → Tr Nat
  | [], _, t => t
  | o :: l, i, t => masks l (i + 1) (t.put i (some (maskOf t o)))
/-- j comes ahead of i. -/
def ahead (t : Tr Nat) (i j : Nat) : Bool := ((t.get i).getD 0).testBit j
/-- 0: neither writes nor makes memory; 1: may; 2: makes some. -/
def kindA (P : Program) (o : Oper) : Nat :=
  match o.op with
  | .move _ | .assign _ | .pick .. | .nilCheck _ | .binOp .. | .unOp .. | .makeInterface .. | .makeFunc .. | .fieldAddr .. | .field .. | .indexAddr ..
  | .index .. | .slice .. | .typeAssert .. | .extract .. | .build .. | .load .. => 0
  | .convert _ d _ => match P.underlying d with
    | some (.slice _) => 1
    | some _ => 0
    | none => 1
  | .call { callee := .builtin .len, .. } | .call { callee := .builtin .cap, .. } | .call { callee := .builtin .max, .. } | .call { callee := .builtin .min, .. }
  | .call { callee := .builtin .unsafeSliceData, .. } => 0
  | .alloc _ => match o.guard with
    | none => 2
    | some _ => 1
  | _ => 1

def allIx {α : Type} (p : Nat → α → Bool) : List α → Nat → Bool
  | [], _ => true
  | x :: l, i => p i x && allIx p l (i + 1)
/-- The region's form: edges go back; what names a slot that another one writes is ordered with it; what writes memory is in one chain, but for an allocation that may come early: then nobody looks at it ahead of its place in the chain. -/
def drawOK (P : Program) (ops : List Oper) (t : Tr Nat) : Bool :=
  allIx (fun i x => (x.after.toList.all fun e => !Region.binds .any e || Nat.blt e.on i) &&
    allIx (fun j y => !Nat.blt i j || (ahead t j i ||
      (Oper.apart ops.toArray x y && (Nat.beq (kindA P x) 0 || (Nat.beq (kindA P y) 0 ||
        (Nat.beq (kindA P y) 2 && allIx (fun k z => Nat.beq k j || (Oper.apart ops.toArray y z || ahead t k i)) ops 0)))))) ops 0) ops 0
/-- A record of the walk in the listed order. cls 0: looks at no memory, or wasn't wanted; 1: a link of the chain; 2: reads. -/
structure Rc where
  fr : Fr
  cls : Nat
  r : AR
  H : AH
def passA (P : Program) (call : CallF) (ops : List Oper) : List Oper → Fr → AH → Option (List Rc × Fr × AH)
  | [], fr, H => some ([], fr, H)
  | o :: l, fr, H =>
    let go (cls : Nat) (r : AR) (H' : AH) : Option (List Rc × Fr × AH) := match fr.put o.dst r with
      | some fr' => (passA P call ops l fr' H').map fun (rs, x) => (⟨fr, cls, r, H⟩ :: rs, x)
      | none => none
    match wantedA ops fr o with
    | none => none
    | some false => go (bif Nat.beq (kindA P o) 0 then 0 else 1) (.tup []) H
    | some true =>
      bif Nat.beq (kindA P o) 0 then
        match pureA P fr.ev o with
        | some r => go 0 r H
        | none => match readA P H fr.ev o with
          | some r => go 2 r H
          | none => none
      else match opF P call fr.ev H o with
        | some (.ret r, H') => go 1 r H'
        | _ => none
/-- Where the chain may stand: ahead of each link, and behind the last. -/
def stopsA : List Rc → Nat → AH → List (Option Nat × AH)
  | [], _, H => [(none, H)]
  | c :: l, i, H => bif Nat.beq c.cls 1 then (some i, c.H) :: stopsA l (i + 1) H else stopsA l (i + 1) H
def Value.same : Value → Value → Bool
  | .bool a, .bool b => a == b
  | .int j a, .int k b => j == k && a == b
  | .string a, .string b => a.data.toList == b.data.toList
  | .pointer a, .pointer b => a == b
  | .slice none a b, .slice none c d => a == c && b == d
  | .nilIface, .nilIface => true
  | .nilFunc, .nilFunc => true
  | .map none, .map none => true
  | _, _ => false
def AC.same : AC → AC → Bool
  | .lit v, .lit u => Value.same v u
  | .ptr a b, .ptr c d => Nat.beq a c && Nat.beq b d
  | .sl a b c d e f, .sl a' b' c' d' e' f' => Nat.beq a a' && (Nat.beq b b' && (Nat.beq c c' && (Nat.beq d d' && (Nat.beq e e' && f == f'))))
  | .ifc t c, .ifc u d => Nat.beq t u && c.same d
  | .fn f, .fn g => f == g
  | .cap a b, .cap c d => a.same c && b.same d
  | .fst a b, .fst c d => a.same c && b.same d
  | _, _ => false
def sameAll : List AC → List AC → Bool
  | [], [] => true
  | x :: l, y :: m => x.same y && sameAll l m
  | _, _ => false
def AV.same : AV → AV → Bool
  | .c x, .c y => x.same y
  | .agg l, .agg m => sameAll l m
  | _, _ => false
def readsAs (P : Program) (H : AH) (ev : Ev) (o : Oper) (r : AR) : Bool :=
  match readA P H ev o, r with
  | some (.one x), .one y => x.same y
  | _, _ => false
/-- A read tells the same wherever the chain may stand when it is its turn. -/
def chkA (P : Program) (t : Tr Nat) (i : Nat) (ev : Ev) (o : Oper) (r : AR) : List (Option Nat × AH) → Bool
  | [] => true
  | (none, H) :: _ => readsAs P H ev o r
  | (some c, H) :: l => (ahead t i c || readsAs P H ev o r) && (ahead t c i || chkA P t i ev o r l)
def chkAll (P : Program) (t : Tr Nat) (stops : List (Option Nat × AH)) : List Oper → List Rc → Nat → Bool
  | o :: l, c :: rs, i => (!Nat.beq c.cls 2 || chkA P t i c.fr.ev o c.r stops) && chkAll P t stops l rs (i + 1)
  | _, _, _ => true
def drawA (P : Program) (call : CallF) (ops : List Oper) (fr : Fr) (H : AH) : Option (Ex × Fr × AH) :=
  let t := masks ops 0 .nil
  bif drawOK P ops t then
    match passA P call ops ops fr H with
    | some (rs, fr', H') =>
      bif chkAll P t (stopsA rs 0 H') ops rs 0 then some (.normal, fr', H') else none
    | none => none
  else none

/-- Code, by a table of closed alternatives. -/
abbrev CodeF := Code → Fr → AH → LR
abbrev CdK := Program → CallF → CodeF → Fr → AH → LR
def goNormal (k : Fr → AH → LR) (r : LR) : LR := match r with
  | some (.normal, fr, H) => k fr H
  | r => r
def goBlock (id : Nat) (r : LR) : LR := match r with
  | some (.exit k, fr, H) => bif Nat.beq k id then some (.normal, fr, H) else some (.exit k, fr, H)
  | r => r
def seqK (a b : Code) : CdK := fun _ _ ih fr H => goNormal (ih b) (ih a fr H)
def condK (x : Operand) (a b : Code) : CdK := fun _ _ ih fr H => match fr.ev x with
  | .one (.c (.lit (.bool t))) => bif t then ih a fr H else ih b fr H
  | _ => none
def blockK (id : Nat) (b : Code) : CdK := fun _ _ ih fr H => goBlock id (ih b fr H)
def loopK (b : Code) : CdK := fun _ _ ih fr H => goNormal (ih (.loop b)) (ih b fr H)
def exitK (e : Ex) : CdK := fun _ _ _ fr H => some (e, fr, H)
def listK (ops : Array Oper) : CdK := fun P call _ fr H => goFlush (listA P call ops.toList ops.toList fr H)
def drawK (ops : Array Oper) : CdK := fun P call _ fr H => goFlush (drawA P call ops.toList fr H)
def noK : CdK := fun _ _ _ _ _ => none
def codeTab : Code → CdK
  | .skip => exitK .normal
  | .label _ => exitK .normal
  | .seq a b => seqK a b
  | .cond x a b => condK x a b
  | .block id b => blockK id b
  | .loop b => loopK b
  | .exit id => exitK (.exit id)
  | .ret => exitK .ret
  | .region _ ops d => bif d then drawK ops else listK ops
  | _ => noK
def codeA (P : Program) (call : CallF) (n : Nat) : CodeF := @Nat.rec (fun _ => CodeF) (fun _ _ _ => none) (fun _ ih c fr H => codeTab c P call ih fr H) n
theorem codeA_zero (P : Program) (call : CallF) (c : Code) (fr : Fr) (H : AH) : codeA P call 0 c fr H = none := rfl
theorem codeA_succ (P : Program) (call : CallF) (n : Nat) (c : Code) (fr : Fr) (H : AH) : codeA P call (n + 1) c fr H = match c with
    | .skip | .label _ => some (.normal, fr, H)
    | .seq a b => match codeA P call n a fr H with
      | some (.normal, fr, H) => codeA P call n b fr H
      | r => r
    | .cond x a b => match fr.ev x with
      | .one (.c (.lit (.bool t))) => bif t then codeA P call n a fr H else codeA P call n b fr H
      | _ => none
    | .block id b => match codeA P call n b fr H with
      | some (.exit k, fr, H) => bif Nat.beq k id then some (.normal, fr, H) else some (.exit k, fr, H)
      | r => r
    | .loop b => match codeA P call n b fr H with
      | some (.normal, fr, H) => codeA P call n (.loop b) fr H
      | r => r
    | .exit id => some (.exit id, fr, H)
    | .ret => some (.ret, fr, H)
    | .region _ ops false => goFlush (listA P call ops.toList ops.toList fr H)
    | .region _ ops true => goFlush (drawA P call ops.toList fr H)
    | _ => none := by
  cases c with
  | region id ops d => cases d <;> rfl
  | _ => rfl
def usesOf (l : List Operand) : Nat := l.foldr (fun x m => match x with
  | .tmp t => Nat.lor m (Nat.shiftLeft 1 t)
  | _ => m) 0
/-- The slots that a list of operations reads ahead of any of its own that writes them (from behind). -/
def opsLive (ops : List Oper) : Nat := ops.foldr (fun o m =>
  let m := match o.dst with
    | some d => bif bitOf m d then Nat.xor m (Nat.shiftLeft 1 d) else m
    | none => m
  Nat.lor m (usesOf o.op.operands.toList)) 0
def codeLive : Code → Nat
  | .region _ ops _ => opsLive ops.toList
  | .seq a b => Nat.lor (codeLive a) (codeLive b)
  | .cond x a b => Nat.lor (usesOf [x]) (Nat.lor (codeLive a) (codeLive b))
  | .block _ b => codeLive b
  | .loop b => codeLive b
  | _ => 0
def resLive (l : List ResultVar) : Nat := l.foldr (fun x m => match x with
  | .tmp t => Nat.lor m (Nat.shiftLeft 1 t)
  | .cell a _ => Nat.lor m (Nat.shiftLeft 1 a)) 0
def liveOf (fn : Func) : Nat := match fn.body with
  | some c => Nat.lor (codeLive c) (resLive fn.results.toList)
  | none => 0
def enterLog : List AV → Nat → Log → Log
  | [], _, t => t
  | a :: l, i, t => enterLog l (i + 1) (.cons i (.one a) t)
def enterA (az : List AV) (n m : Nat) : Fr := ⟨enterLog az 0 .nil, .nil, m, Nat.max az.length n⟩
def resA (P : Program) (fr : Fr) (H : AH) : List ResultVar → Option (List AV)
  | [] => some []
  | .tmp t :: l => match fr.get t, resA P fr H l with
    | .one x, some r => some (x :: r)
    | _, _ => none
  | .cell a t :: l => match fr.get a, resA P fr H l with
    | .one (.c (.ptr id off)), some r => ((H.get id).bind fun b => partOf P t b.cells off).map (· :: r)
    | _, _ => none
def resultA (P : Program) (fr : Fr) (H : AH) (rs : List ResultVar) : Option AR :=
  match resA P fr H rs with
  | some [x] => some (.one x)
  | some l => some (.tup l)
  | none => none
/-- A deferred call: which function, with what. -/
abbrev DF := List (FuncId × List AV)
def defA (P : Program) (ev : Ev) (o : Oper) : Option (FuncId × List AV) :=
  match o.op with
  | .defer { callee := .value f, args, argTypes } => calleeA P ev { o with op := .call { callee := .value f, args, argTypes } }
  | _ => none
def listD (P : Program) (call : CallF) (ops : List Oper) : List Oper → Fr → AH → DF → Option (Ex × Fr × AH × DF)
  | [], fr, H, ds => some (.normal, fr, H, ds)
  | o :: l, fr, H, ds => match wantedA ops fr o with
    | some true => match opF P call fr.ev H o with
      | some (.ret r, H) => match fr.put o.dst r with
        | some fr => listD P call ops l fr H ds
        | none => none
      | some (.pan v, H) => some (.pan v, fr, H, ds)
      | none => match defA P fr.ev o with
        | some d => match fr.put o.dst (.tup []) with
          | some fr => listD P call ops l fr H (d :: ds)
          | none => none
        | none => none
    | some false => match fr.put o.dst (.tup []) with
      | some fr => listD P call ops l fr H ds
      | none => none
    | none => none
def noDef (l : List Oper) : Bool := l.all fun o => match o.op with
  | .defer _ => false
  | _ => true
abbrev DR := Option (Ex × Fr × AH × DF)
abbrev CodeDF := Code → Fr → AH → DF → DR
abbrev CdDK := Program → CallF → CodeF → CodeDF → Fr → AH → DF → DR
def goNormalD (k : Fr → AH → DF → DR) (r : DR) : DR := match r with
  | some (.normal, fr, H, ds) => k fr H ds
  | r => r
def withD (ds : DF) (r : LR) : DR := match r with
  | some (e, fr, H) => some (e, fr, H, ds)
  | none => none
def flushD : DR → DR
  | some (e, fr, H, ds) => some (e, fr.flush, H, ds)
  | none => none
theorem flushD_some {r : DR} {x : Ex × Fr × AH × DF} (h : flushD r = some x) : ∃ e fr H ds, r = some (e, fr, H, ds) ∧ x = (e, fr.flush, H, ds) := by
  rcases r with _ | ⟨e, fr, H, ds⟩
  · simp [flushD] at h
  · simp only [flushD, Option.some.injEq] at h; exact ⟨e, fr, H, ds, rfl, h.symm⟩
def seqD (a b : Code) : CdDK := fun _ _ _ ih fr H ds => goNormalD (ih b) (ih a fr H ds)
def condD (x : Operand) (a b : Code) : CdDK := fun _ _ _ ih fr H ds => match fr.ev x with
  | .one (.c (.lit (.bool t))) => bif t then ih a fr H ds else ih b fr H ds
  | _ => none
def regD (ops : Array Oper) : CdDK := fun P call _ _ fr H ds => flushD (listD P call ops.toList ops.toList fr H ds)
def elseD (c : Code) : CdDK := fun _ _ ia _ fr H ds => withD ds (ia c fr H)
def codeTabD : Code → CdDK
  | .seq a b => seqD a b
  | .cond x a b => condD x a b
  | .region id ops d => bif d || noDef ops.toList then elseD (.region id ops d) else regD ops
  | c => elseD c
/-- Code that may defer. -/
def codeD (P : Program) (call : CallF) (n : Nat) : CodeDF := @Nat.rec (fun _ => CodeDF) (fun _ _ _ _ => none) (fun n ih c fr H ds => codeTabD c P call (codeA P call n) ih fr H ds) n
theorem codeD_zero (P : Program) (call : CallF) (c : Code) (fr : Fr) (H : AH) (ds : DF) : codeD P call 0 c fr H ds = none := rfl
theorem codeD_succ (P : Program) (call : CallF) (n : Nat) (c : Code) (fr : Fr) (H : AH) (ds : DF) : codeD P call (n + 1) c fr H ds = match c with
    | .seq a b => match codeD P call n a fr H ds with
      | some (.normal, fr, H, ds) => codeD P call n b fr H ds
      | r => r
    | .cond x a b => match fr.ev x with
      | .one (.c (.lit (.bool t))) => bif t then codeD P call n a fr H ds else codeD P call n b fr H ds
      | _ => none
    | .region id ops d => bif d || noDef ops.toList then (match codeA P call n (.region id ops d) fr H with
        | some (e, fr, H) => some (e, fr, H, ds)
        | none => none)
      else flushD (listD P call ops.toList ops.toList fr H ds)
    | c => match codeA P call n c fr H with
      | some (e, fr, H) => some (e, fr, H, ds)
      | none => none := by
  cases c with
  | region id ops d =>
    show codeTabD (.region id ops d) P call (codeA P call n) (codeD P call n) fr H ds = _
    simp only [codeTabD]
    cases d || noDef ops.toList <;> rfl
  | _ => rfl
/-- How the caller of a deferred call stands: it returns; it panics; it panicked, and was recovered. -/
inductive PM where
  | no
  | live (x : AV)
  | done (x : AV)
def PM.rec? : PM → AR × PM
  | .live x => (.one x, .done x)
  | p => (.one (.c (.lit .nilIface)), p)
def PM.settle : PM → PM
  | .done _ => .no
  | p => p
def isRec (o : Oper) : Bool := match o.op with
  | .call { callee := .builtin .recover, .. } => true
  | _ => false
def listR (P : Program) (call : CallF) (ops : List Oper) : List Oper → Fr → AH → PM → Option (Ex × Fr × AH × PM)
  | [], fr, H, pm => some (.normal, fr, H, pm)
  | o :: l, fr, H, pm => match wantedA ops fr o with
    | some true => match opF P call fr.ev H o with
      | some (.ret r, H) => match fr.put o.dst r with
        | some fr => listR P call ops l fr H pm
        | none => none
      | some (.pan v, H) => some (.pan v, fr, H, pm)
      | none => bif isRec o then (match fr.put o.dst pm.rec?.1 with
          | some fr => listR P call ops l fr H pm.rec?.2
          | none => none)
        else none
    | some false => match fr.put o.dst (.tup []) with
      | some fr => listR P call ops l fr H pm
      | none => none
    | none => none
def flushR : Option (Ex × Fr × AH × PM) → Option (Ex × Fr × AH × PM)
  | some (e, fr, H, pm) => some (e, fr.flush, H, pm)
  | none => none
theorem flushR_some {r : Option (Ex × Fr × AH × PM)} {x : Ex × Fr × AH × PM} (h : flushR r = some x) : ∃ e fr H pm, r = some (e, fr, H, pm) ∧ x = (e, fr.flush, H, pm) := by
  rcases r with _ | ⟨e, fr, H, pm⟩
  · simp [flushR] at h
  · simp only [flushR, Option.some.injEq] at h; exact ⟨e, fr, H, pm, rfl, h.symm⟩
/-- A deferred function's code: it may recover. -/
def codeR (P : Program) (call : CallF) : Nat → Code → Fr → AH → PM → Option (Ex × Fr × AH × PM)
  | 0, _, _, _, _ => none
  | n + 1, c, fr, H, pm => match c with
    | .seq a b => match codeR P call n a fr H pm with
      | some (.normal, fr, H, pm) => codeR P call n b fr H pm
      | r => r
    | .cond x a b => match fr.ev x with
      | .one (.c (.lit (.bool t))) => bif t then codeR P call n a fr H pm else codeR P call n b fr H pm
      | _ => none
    | .region _ ops false => flushR (listR P call ops.toList ops.toList fr H pm)
    | c => match codeA P call n c fr H with
      | some (e, fr, H) => some (e, fr, H, pm)
      | none => none
def leaveA (P : Program) (call : CallF) (n : Nat) : DF → AH → PM → Option (AH × PM)
  | [], H, pm => some (H, pm)
  | (f, az) :: ds, H, pm => match P.funcs[f]? with
    | none => none
    | some fn => match fn.body with
      | none => none
      | some c => match codeR P call n c (enterA az fn.ntmps (liveOf fn)) H pm with
        | some (.normal, fr, H, pm) => match resultA P fr H fn.results.toList with
          | some _ => leaveA P call n ds H pm.settle
          | none => none
        | some (.ret, fr, H, pm) => match resultA P fr H fn.results.toList with
          | some _ => leaveA P call n ds H pm.settle
          | none => none
        | _ => none
def endA (P : Program) (call : CallF) (n : Nat) (rs : List ResultVar) (fr : Fr) (H : AH) (ds : DF) (pm : PM) : Option (Out × AH) :=
  match leaveA P call n ds H pm with
  | some (H, .no) => match resultA P fr H rs with
    | some r => some (.ret r, H)
    | none => none
  | some (H, .live v) => some (.pan v, H)
  | _ => none
def callA (P : Program) : Nat → CallF
  | 0, _, _, _ => none
  | n + 1, f, az, H => match P.funcs[f]? with
    | none => none
    | some fn => match fn.body with
      | none => none
      | some c => match codeD P (callA P n) n c (enterA az fn.ntmps (liveOf fn)) H [] with
        | some (.normal, fr, H, ds) => endA P (callA P n) n fn.results.toList fr H ds .no
        | some (.ret, fr, H, ds) => endA P (callA P n) n fn.results.toList fr H ds .no
        | some (.pan v, fr, H, ds) => endA P (callA P n) n fn.results.toList fr H ds (.live v)
        | _ => none
end
end Go.Proofs.YtgobcnheemocnaaGreatDoor
end
section
namespace Go.Proofs.YtgobcnheemocnaaGreatDoor
open Go
set_option linter.unusedSimpArgs false
set_option linter.unusedVariables false

def All2 {α β : Type} (R : α → β → Prop) : List α → List β → Prop
  | [], [] => True
  | x :: l, y :: m => R x y ∧ All2 R l m
  | _, _ => False
namespace All2
variable {α β : Type} {R S : α → β → Prop}
theorem len : ∀ {l : List α} {m : List β}, All2 R l m → l.length = m.length
  | [], [], _ => rfl
  | _ :: _, _ :: _, h => by simp [len h.2]
  | [], _ :: _, h => h.elim
  | _ :: _, [], h => h.elim
theorem mono (f : ∀ x y, R x y → S x y) : ∀ {l : List α} {m : List β}, All2 R l m → All2 S l m
  | [], [], _ => trivial
  | _ :: _, _ :: _, h => ⟨f _ _ h.1, mono f h.2⟩
  | [], _ :: _, h => h.elim
  | _ :: _, [], h => h.elim
theorem app : ∀ {l : List α} {m : List β} {l' : List α} {m' : List β}, All2 R l m → All2 R l' m' → All2 R (l ++ l') (m ++ m')
  | [], [], _, _, _, h => h
  | _ :: _, _ :: _, _, _, h, h' => ⟨h.1, app h.2 h'⟩
  | [], _ :: _, _, _, h, _ => h.elim
  | _ :: _, [], _, _, h, _ => h.elim
theorem get : ∀ {l : List α} {m : List β}, All2 R l m → ∀ {i : Nat} {x : α}, l[i]? = some x → ∃ y, m[i]? = some y ∧ R x y
  | [], [], _, i, x, h => by simp at h
  | a :: l, b :: m, h, 0, x, e => by simp at e; subst e; exact ⟨b, rfl, h.1⟩
  | a :: l, b :: m, h, i + 1, x, e => by simpa using get h.2 (by simpa using e)
  | [], _ :: _, h, _, _, _ => h.elim
  | _ :: _, [], h, _, _, _ => h.elim
theorem of : ∀ {l : List α} {m : List β}, l.length = m.length → (∀ (i : Nat) (x : α) (y : β), l[i]? = some x → m[i]? = some y → R x y) → All2 R l m
  | [], [], _, _ => trivial
  | a :: l, b :: m, h, f => ⟨f 0 a b rfl rfl, of (by simpa using h) fun i x y hx hy => f (i + 1) x y (by simpa using hx) (by simpa using hy)⟩
  | [], _ :: _, h, _ => by simp at h
  | _ :: _, [], h, _ => by simp at h
theorem take : ∀ (n : Nat) {l : List α} {m : List β}, All2 R l m → All2 R (l.take n) (m.take n)
  | 0, _, _, _ => by simp [All2]
  | n + 1, [], [], _ => by simp [All2]
  | n + 1, _ :: _, _ :: _, h => ⟨h.1, take n h.2⟩
  | n + 1, [], _ :: _, h => h.elim
  | n + 1, _ :: _, [], h => h.elim
theorem drop : ∀ (n : Nat) {l : List α} {m : List β}, All2 R l m → All2 R (l.drop n) (m.drop n)
  | 0, _, _, h => by simpa using h
  | n + 1, [], [], _ => by simp [All2]
  | n + 1, _ :: _, _ :: _, h => by simpa using drop n h.2
  | n + 1, [], _ :: _, h => h.elim
  | n + 1, _ :: _, [], h => h.elim
theorem rev : ∀ {l : List α} {m : List β}, All2 R l m → All2 R l.reverse m.reverse
  | [], [], _ => by simp [All2]
  | _ :: _, _ :: _, h => by simpa using app (l' := [_]) (m' := [_]) (rev h.2) ⟨h.1, trivial⟩
  | [], _ :: _, h => h.elim
  | _ :: _, [], h => h.elim
end All2

/-- Where own blocks lie: a block's number, where in it the known cells begin, how many cells it has. -/
structure Rho where
  blk : Nat → Nat
  base : Nat → Nat
  size : Nat → Nat
structure Ext (ρ ρ' : Rho) (n : Nat) : Prop where
  blk : ∀ i, i < n → ρ'.blk i = ρ.blk i
  base : ∀ i, i < n → ρ'.base i = ρ.base i
  size : ∀ i, i < n → ρ'.size i = ρ.size i
theorem Ext.refl (ρ : Rho) (n : Nat) : Ext ρ ρ n := ⟨fun _ _ => rfl, fun _ _ => rfl, fun _ _ => rfl⟩
theorem Ext.trans {a b c : Rho} {n m : Nat} (h : Ext a b n) (k : Ext b c m) (hm : n ≤ m) : Ext a c n :=
  ⟨fun i hi => (k.blk i (by omega)).trans (h.blk i hi), fun i hi => (k.base i (by omega)).trans (h.base i hi), fun i hi => (k.size i (by omega)).trans (h.size i hi)⟩

def AC.den (ρ : Rho) (n : Nat) : AC → Value → Prop
  | .lit v, u => u = v ∧ v.oneCell' = true
  | .ptr id off, u => id < n ∧ u = .pointer (some ⟨ρ.blk id, ρ.base id + off, none⟩)
  | .sl id off len cp es ex, u => id < n ∧ len ≤ cp ∧ ∃ o c, u = .slice (some ⟨ρ.blk id, o, none⟩) len c ∧ (c ≠ 0 → o = ρ.base id + off) ∧
      (ex = true → c = cp) ∧ (ex = false → cp ≤ c ∧ o + c * es ≤ ρ.size id)
  | .ifc t x, u => ∃ y, u = .iface t y ∧ x.den ρ n y
  | .fn f, u => u = .func f #[] #[]
  | .cap r x, u => ∃ f fs cs y, r.den ρ n (.func f fs cs) ∧ x.den ρ n y ∧ u = .func f fs (cs.push y)
  | .fst r x, u => ∃ f fs cs y, r.den ρ n (.func f fs cs) ∧ x.den ρ n y ∧ u = .func f (fs.push y) cs
def AV.den (ρ : Rho) (n : Nat) : AV → Value → Prop
  | .c x, u => x.den ρ n u
  | .agg xs, u => ∃ cs, u = .agg cs ∧ All2 (AC.den ρ n) xs cs.toList
def AR.den (ρ : Rho) (n : Nat) : AR → Value → Prop
  | .one x, u => x.den ρ n u
  | .tup xs, u => ∃ vs, u = .tuple vs ∧ All2 (AV.den ρ n) xs vs.toList
  | .any, _ => True

theorem AC.den_mono {ρ ρ' : Rho} {n m : Nat} (h : Ext ρ ρ' n) (hm : n ≤ m) : ∀ (x : AC) (u : Value), x.den ρ n u → x.den ρ' m u
  | .lit v, u, d => d
  | .ptr id off, u, ⟨hl, he⟩ => ⟨by omega, by rw [h.blk _ hl, h.base _ hl]; exact he⟩
  | .sl id off len cp es ex, u, ⟨hl, hc, o, c, he, ho, hx, hy⟩ => ⟨by omega, hc, o, c, by rw [h.blk _ hl]; exact he, by rw [h.base _ hl]; exact ho, hx, by rw [h.size _ hl]; exact hy⟩
  | .ifc t x, u, ⟨y, he, hy⟩ => ⟨y, he, AC.den_mono h hm x y hy⟩
  | .fn f, u, d => d
  | .cap r x, u, ⟨f, fs, cs, y, h1, h2, h3⟩ => ⟨f, fs, cs, y, AC.den_mono h hm r _ h1, AC.den_mono h hm x _ h2, h3⟩
  | .fst r x, u, ⟨f, fs, cs, y, h1, h2, h3⟩ => ⟨f, fs, cs, y, AC.den_mono h hm r _ h1, AC.den_mono h hm x _ h2, h3⟩
theorem AV.den_mono {ρ ρ' : Rho} {n m : Nat} (h : Ext ρ ρ' n) (hm : n ≤ m) : ∀ (x : AV) (u : Value), x.den ρ n u → x.den ρ' m u
  | .c x, u, d => AC.den_mono h hm x u d
  | .agg xs, u, ⟨cs, he, hc⟩ => ⟨cs, he, hc.mono (AC.den_mono h hm)⟩
theorem AR.den_mono {ρ ρ' : Rho} {n m : Nat} (h : Ext ρ ρ' n) (hm : n ≤ m) : ∀ (x : AR) (u : Value), x.den ρ n u → x.den ρ' m u
  | .one x, u, d => AV.den_mono h hm x u d
  | .tup xs, u, ⟨cs, he, hc⟩ => ⟨cs, he, hc.mono (AV.den_mono h hm)⟩
  | .any, _, _ => trivial
theorem AC.den_one {ρ : Rho} {n : Nat} : ∀ {x : AC} {u : Value}, x.den ρ n u → u.oneCell' = true
  | .lit v, u, d => by obtain ⟨rfl, h⟩ := d; exact h
  | .ptr .., u, d => by rw [d.2]; rfl
  | .sl .., u, ⟨_, _, _, _, he, _⟩ => by rw [he]; rfl
  | .ifc .., u, ⟨_, he, _⟩ => by rw [he]; rfl
  | .fn _, u, d => by rw [show u = _ from d]; rfl
  | .cap .., u, ⟨_, _, _, _, _, _, he⟩ => by rw [he]; rfl
  | .fst .., u, ⟨_, _, _, _, _, _, he⟩ => by rw [he]; rfl
theorem one_cellsE {u : Value} (h : u.oneCell' = true) : u.cells = #[u] := by cases u <;> first | rfl | (simp [Value.oneCell'] at h)
/-- A value's cells stand for its cells. -/
theorem AV.den_cells {ρ : Rho} {n : Nat} : ∀ {x : AV} {u : Value}, x.den ρ n u → All2 (AC.den ρ n) x.cells u.cells.toList
  | .c x, u, d => by rw [one_cellsE (AC.den_one d)]; exact ⟨d, trivial⟩
  | .agg xs, u, ⟨cs, he, hc⟩ => by rw [he]; exact hc

theorem litAll_den (ρ : Rho) (n : Nat) : ∀ (l : List Value) (r : List AC), litAll l = some r → All2 (AC.den ρ n) r l
  | [], r, h => by simp [litAll] at h; subst h; trivial
  | v :: l, r, h => by
    cases v <;> simp only [litAll, reduceCtorEq, Option.map_eq_some_iff] at h <;>
      (obtain ⟨a, h1, rfl⟩ := h; exact ⟨⟨rfl, rfl⟩, litAll_den ρ n l a h1⟩)
theorem AV.of_den (ρ : Rho) (n : Nat) (v : Value) (x : AV) (h : AV.of? v = some x) : x.den ρ n v := by
  cases v <;> simp only [AV.of?, reduceCtorEq, Option.some.injEq, Option.map_eq_some_iff] at h
  case agg cs => obtain ⟨a, h1, rfl⟩ := h; exact ⟨cs, rfl, litAll_den ρ n _ _ h1⟩
  all_goals (subst h; exact ⟨rfl, rfl⟩)
theorem ofAll_den (ρ : Rho) (n : Nat) : ∀ (l : List Value) (r : List AV), ofAll l = some r → All2 (AV.den ρ n) r l
  | [], r, h => by simp [ofAll] at h; subst h; trivial
  | v :: l, r, h => by
    simp only [ofAll] at h
    split at h
    · rename_i x hx
      simp only [Option.map_eq_some_iff] at h
      obtain ⟨a, h1, rfl⟩ := h
      exact ⟨AV.of_den ρ n v x hx, ofAll_den ρ n l a h1⟩
    · simp at h
theorem AR.of_den (ρ : Rho) (n : Nat) (v : Value) (x : AR) (h : AR.of? v = some x) : x.den ρ n v := by
  cases v <;> simp only [AR.of?, Option.map_eq_some_iff] at h
  case tuple vs => obtain ⟨a, h1, rfl⟩ := h; exact ⟨vs, rfl, ofAll_den ρ n _ _ h1⟩
  all_goals (obtain ⟨a, h1, rfl⟩ := h; exact AV.of_den ρ n _ _ h1)
theorem AC.val_den {ρ : Rho} {n : Nat} : ∀ {x : AC} {v u : Value}, x.val? = some v → x.den ρ n u → u = v
  | .lit v, _, u, h, d => by simp [AC.val?] at h; rw [← h]; exact d.1
  | .ifc t c, v, u, h, d => by
    simp only [AC.val?, Option.map_eq_some_iff] at h
    obtain ⟨a, h1, rfl⟩ := h
    obtain ⟨y, rfl, hy⟩ := d
    rw [AC.val_den h1 hy]
  | .fn f, _, u, h, d => by simp [AC.val?] at h; rw [← h]; exact d
  | .ptr .., _, _, h, _ => by simp [AC.val?] at h
  | .sl .., _, _, h, _ => by simp [AC.val?] at h
  | .cap .., _, _, h, _ => by simp [AC.val?] at h
  | .fst .., _, _, h, _ => by simp [AC.val?] at h
theorem valAll_den {ρ : Rho} {n : Nat} : ∀ {l : List AC} {r us : List Value}, valAll l = some r → All2 (AC.den ρ n) l us → us = r
  | [], r, [], h, _ => by simp [valAll] at h; exact h.symm
  | x :: l, r, u :: us, h, d => by
    simp only [valAll] at h
    split at h
    · rename_i v hv
      simp only [Option.map_eq_some_iff] at h
      obtain ⟨a, h1, rfl⟩ := h
      rw [AC.val_den hv d.1, valAll_den h1 d.2]
    · simp at h
  | [], _, _ :: _, _, d => d.elim
  | _ :: _, _, [], _, d => d.elim
theorem AR.val_den {ρ : Rho} {n : Nat} : ∀ {x : AR} {v u : Value}, x.val? = some v → x.den ρ n u → u = v
  | .one (.c x), v, u, h, d => AC.val_den (x := x) h d
  | .one (.agg xs), v, u, h, d => by
    simp only [AR.val?, AV.val?, Option.map_eq_some_iff] at h
    obtain ⟨a, h1, rfl⟩ := h
    obtain ⟨cs, rfl, hc⟩ := d
    rw [← valAll_den h1 hc]
  | .tup [], v, u, h, d => by
    simp [AR.val?] at h; subst h
    obtain ⟨vs, rfl, hv⟩ := d
    have : vs.toList = [] := by cases hl : vs.toList with
      | nil => rfl
      | cons a l => rw [hl] at hv; exact hv.elim
    rw [show vs = #[] from Array.toList_inj.1 (by simpa using this)]; rfl
  | .tup (_ :: _), v, u, h, d => by simp [AR.val?] at h
  | .any, v, u, h, d => by simp [AR.val?] at h

/-- Operands stand for values. -/
def EvOK (ρ : Rho) (n : Nat) (ev : Ev) (e : Operand → Value) (l : List Operand) : Prop := ∀ x ∈ l, (ev x).den ρ n (e x)
theorem scalOK_all {ev : Ev} : ∀ {l : List Operand}, scalOK ev l = true → ∀ x ∈ l, ∃ v, (ev x).val? = some v
  | [], _, x, hx => by simp at hx
  | y :: l, h, x, hx => by
    simp only [scalOK, Bool.and_eq_true] at h
    rcases List.mem_cons.1 hx with rfl | hx
    · exact Option.isSome_iff_exists.1 h.1
    · exact scalOK_all h.2 x hx
theorem scal_sound {P : Program} {ev : Ev} {o : Oper} {r : AR} (h : scal P ev o = some r) {ρ : Rho} {n : Nat} {e : Operand → Value}
    (he : EvOK ρ n ev e o.op.operands.toList) (w : World) : ∃ v, (execOp e o).run P w = .ok (.value v) w ∧ r.den ρ n v := by
  unfold scal at h
  cases hs : (notSel o && scalOK ev o.op.operands.toList) with
  | false => simp [hs] at h
  | true =>
    simp only [hs, cond_true] at h
    simp only [Bool.and_eq_true] at hs
    have hc : execOp e o = execOp (fun x => ((ev x).val?).getD undef) o := by
      refine execOp_congr o (fun cs b hb => by simp [notSel, hb] at hs) fun x hx => ?_
      obtain ⟨v, hv⟩ := scalOK_all hs.2 x (by simpa using hx)
      rw [hv, AR.val_den hv (he x (by simpa using hx))]; rfl
    split at h
    · rename_i v hq
      exact ⟨v, by rw [hc]; exact qrun_run P _ _ hq w, AR.of_den ρ n v r h⟩
    · simp at h
end Go.Proofs.YtgobcnheemocnaaGreatDoor
end
section
namespace Go.Proofs.YtgobcnheemocnaaGreatDoor
open Go
set_option linter.unusedSimpArgs false
set_option linter.unusedVariables false

section
variable {P : Program} {ρ : Rho} {n : Nat} {e : Operand → Value}

theorem run_size {t : TypeId} {k : Nat} (h : szOf P t = some k) (w : World) : (sizeOf t).run P w = .ok k w := by
  simp only [szOf, Option.map_eq_some_iff] at h
  obtain ⟨i, hi, rfl⟩ := h
  simp [sizeOf, typeInfo, hi]
theorem run_agg {t : TypeId} {b : Bool} (h : aggOf P t = some b) (w : World) : (isAgg t).run P w = .ok b w := by
  unfold aggOf at h
  cases hu : P.underlying t with
  | none => simp [hu] at h
  | some d =>
    simp only [hu] at h
    simp only [isAgg, Sem.run_bind, run_underlying hu, Result.andThen_ok]
    cases d <;> simp at h <;> subst h <;> rfl
theorem cut_den {R : AC → Value → Prop} {l : List AC} {m : List Value} {off k : Nat} {r : List AC} (h : cut l off k = some r) (d : All2 R l m) :
    All2 R r ((m.drop off).take k) ∧ r.length = k ∧ off + k ≤ l.length ∨ k = 0 ∧ r = [] := by
  unfold cut at h
  cases hb : Nat.beq ((l.drop off).take k).length k with
  | false => simp only [hb, cond_false, reduceCtorEq] at h
  | true =>
    simp only [hb, cond_true, Option.some.injEq] at h
    subst h
    have hk : ((l.drop off).take k).length = k := Nat.eq_of_beq_eq_true hb
    by_cases h0 : k = 0
    · right; subst h0; simp
    · left
      refine ⟨(d.drop off).take k, hk, ?_⟩
      simp only [List.length_take, List.length_drop] at hk
      omega
theorem cut_len {l : List AC} {off k : Nat} {r : List AC} (h : cut l off k = some r) : r.length = k := by
  unfold cut at h
  cases hb : Nat.beq ((l.drop off).take k).length k with
  | false => simp only [hb, cond_false, reduceCtorEq] at h
  | true => simp only [hb, cond_true, Option.some.injEq] at h; subst h; exact Nat.eq_of_beq_eq_true hb
theorem cut_all {R : AC → Value → Prop} {l : List AC} {m : List Value} {off k : Nat} {r : List AC} (h : cut l off k = some r) (d : All2 R l m) :
    All2 R r ((m.drop off).take k) := by
  rcases cut_den h d with h | ⟨rfl, rfl⟩
  · exact h.1
  · simp [All2]
theorem run_part {t : TypeId} {cs : List AC} {vs : Array Value} {off : Nat} {x : AV} (h : partOf P t cs off = some x) (d : All2 (AC.den ρ n) cs vs.toList) (w : World) :
    ∃ v, (part t vs off).run P w = .ok v w ∧ x.den ρ n v := by
  unfold partOf at h
  simp only [nthR_eq] at h
  cases ha : aggOf P t with
  | none => simp [ha] at h
  | some b =>
    cases hs : szOf P t with
    | none => simp [ha, hs] at h
    | some k =>
      cases b with
      | true =>
        simp only [ha, hs, Option.map_eq_some_iff] at h
        obtain ⟨r, hr, rfl⟩ := h
        refine ⟨.agg (vs.extract off (off + k)), by simp [part, run_agg ha, run_size hs], _, rfl, ?_⟩
        have := cut_all hr d
        have e : (vs.extract off (off + k)).toList = (vs.toList.drop off).take k := by
          rw [Array.toList_extract]; simp [List.extract, Nat.add_sub_cancel_left]
        rwa [e]
      | false =>
        simp only [ha, hs, Option.map_eq_some_iff] at h
        obtain ⟨c, hc, rfl⟩ := h
        obtain ⟨y, hy, hd⟩ := d.get hc
        have hy' : vs[off]? = some y := by simpa using hy
        exact ⟨y, by simp [part, run_agg ha, hy'], hd⟩
theorem fieldOf_spec {s : TypeId} {f off ft k : Nat} (h : fieldOf P s f = some (off, ft, k)) :
    ∃ fields x, P.underlying s = some (.struct fields) ∧ fields[f]? = some x ∧ x.offset = off ∧ x.type = ft ∧ szOf P x.type = some k := by
  unfold fieldOf at h
  split at h
  · rename_i fields hu
    split at h
    · rename_i x hx
      simp only [Option.map_eq_some_iff, Prod.mk.injEq] at h
      obtain ⟨k', hk, h1, h2, h3⟩ := h
      exact ⟨fields, x, hu, hx, h1, h2, h3 ▸ hk⟩
    · simp at h
  · simp at h

theorem fill_list (off : Nat) : ∀ (vs : List Value) (k : Nat) (cs : Array Value), off + k + vs.length ≤ cs.size →
    ((vs.zipIdx k).foldl (fun (cs : Array Value) (p : Value × Nat) => cs.setIfInBounds (off + p.2) p.1) cs).toList =
      cs.toList.take (off + k) ++ (vs ++ cs.toList.drop (off + k + vs.length))
  | [], k, cs, _ => by simp
  | v :: vs, k, cs, h => by
    simp only [List.zipIdx_cons, List.foldl_cons]
    rw [fill_list off vs (k + 1) _ (by simp at h ⊢; omega)]
    simp only [Array.toList_setIfInBounds]
    have h1 : off + k < cs.toList.length := by simp at h ⊢; omega
    apply List.ext_getElem?
    intro i
    simp only [List.getElem?_append, List.length_take, List.length_set, List.getElem?_take, List.getElem?_drop, List.getElem?_set, List.length_cons]
    have hl : cs.toList.length = cs.size := by simp
    simp only [List.length_cons] at h
    by_cases c1 : i < off + k
    · rw [if_pos (by omega), if_pos (by omega), if_neg (by omega), if_pos (by omega), if_pos c1]
    · by_cases c2 : i = off + k
      · subst c2
        rw [if_pos (by omega), if_pos (by omega), if_pos rfl, if_pos h1, if_neg (by omega), if_pos (by omega)]
        have : off + k - min (off + k) cs.size = 0 := by omega
        simp [this]
      · have e1 : i - min (off + (k + 1)) cs.toList.length = i - (off + k) - 1 := by omega
        have e2 : i - min (off + k) cs.toList.length = (i - (off + k) - 1) + 1 := by omega
        rw [if_neg (show ¬ i < min (off + (k + 1)) cs.toList.length by omega), if_neg (show ¬ i < min (off + k) cs.toList.length by omega), e1, e2]
        by_cases c3 : i - (off + k) - 1 < vs.length
        · rw [if_pos c3, if_pos (show i - (off + k) - 1 + 1 < vs.length + 1 by omega)]; simp
        · rw [if_neg c3, if_neg (show ¬ i - (off + k) - 1 + 1 < vs.length + 1 by omega), if_neg (by omega)]
          congr 1; omega
theorem splice_den {R : AC → Value → Prop} {l : List AC} {m : List Value} {vs : List AC} {us : List Value} (off : Nat) (d : All2 R l m) (dv : All2 R vs us) :
    All2 R (splice l off vs) (m.take off ++ (us ++ m.drop (off + us.length))) := by
  rw [splice_eq]; rw [dv.len]; exact (d.take off).app (dv.app (d.drop _))
theorem splice_len {l vs : List AC} {off : Nat} (h : off + vs.length ≤ l.length) : (splice l off vs).length = l.length := by
  rw [splice_eq]; simp; omega
theorem fill_den {R : AC → Value → Prop} (pl : Nat → Option (Nat × Nat)) : ∀ (ps : List (Nat × List AC)) (qs : List (Nat × Value)) (z l : List AC) (zc : Array Value),
    fillA pl z ps = some l → All2 R z zc.toList → All2 (fun p q => p.1 = q.1 ∧ All2 R p.2 q.2.cells.toList) ps qs →
    ∃ cells, Instr.fill pl zc qs = some cells ∧ All2 R l cells.toList
  | [], [], z, l, zc, h, hz, _ => by simp [fillA] at h; subst h; exact ⟨zc, rfl, hz⟩
  | (i, v) :: ps, (j, u) :: qs, z, l, zc, h, hz, d => by
    obtain ⟨⟨hij, hv⟩, hr⟩ := d
    simp only at hij hv
    subst hij
    simp only [fillA] at h
    simp only [Instr.fill]
    cases hp : pl i with
    | none => simp [hp] at h
    | some x =>
      obtain ⟨off, size⟩ := x
      simp only [hp] at h ⊢
      cases hb : (Nat.beq v.length size && Nat.ble (off + v.length) z.length) with
      | false => simp [hb] at h
      | true =>
        simp only [hb, cond_true] at h
        simp only [Bool.and_eq_true, Nat.beq_eq, Nat.ble_eq] at hb
        have hlen : u.cells.size = v.length := by have := hv.len; simp at this; omega
        have hzl : zc.size = z.length := by have := hz.len; simp at this; omega
        rw [if_neg (by simp [hlen, hb.1]; omega)]
        refine fill_den pl ps qs (splice z off v) l _ h ?_ hr
        have := fill_list off u.cells.toList 0 zc (by simp [hlen]; omega)
        have e : (u.cells.zipIdx.foldl (fun cs x => match x with | (c, j) => cs.setIfInBounds (off + j) c) zc).toList =
            zc.toList.take off ++ (u.cells.toList ++ zc.toList.drop (off + u.cells.toList.length)) := by
          rw [← Array.foldl_toList, Array.toList_zipIdx]; simpa using this
        rw [e]
        exact splice_den off hz hv
  | [], _ :: _, _, _, _, _, _, d => d.elim
  | _ :: _, [], _, _, _, _, _, d => d.elim
theorem parts_den {ev : Ev} : ∀ {l : List (Nat × Operand)} {r : List (Nat × List AC)}, partsA ev l = some r → EvOK ρ n ev e (l.map (·.2)) →
    All2 (fun p q => p.1 = q.1 ∧ All2 (AC.den ρ n) p.2 q.2.cells.toList) r (l.map fun x => (x.1, e x.2))
  | [], r, h, _ => by simp [partsA] at h; subst h; trivial
  | (i, x) :: l, r, h, he => by
    simp only [partsA] at h
    split at h
    · rename_i a r' ha hr
      simp only [Option.some.injEq] at h
      subst h
      have hx := he x (by simp)
      rw [ha] at hx
      exact ⟨⟨rfl, AV.den_cells hx⟩, parts_den hr fun y hy => he y (by simp at hy ⊢; exact .inr hy)⟩
    · simp at h
theorem zero_den {t : TypeId} {z : List AC} (h : zeroCells? P t = some z) (ρ : Rho) (n : Nat) :
    ∃ i v, P.info? t = some i ∧ i.zero = some v ∧ All2 (AC.den ρ n) z v.cells.toList := by
  unfold zeroCells? at h
  cases hi : P.info? t with
  | none => simp [hi] at h
  | some i =>
    cases hz : i.zero with
    | none => simp [hi, hz] at h
    | some v =>
      simp only [hi, Option.bind_some, hz, Option.map_eq_some_iff] at h
      obtain ⟨a, ha, rfl⟩ := h
      exact ⟨i, v, rfl, hz, AV.den_cells (AV.of_den ρ n v a ha)⟩
end
end Go.Proofs.YtgobcnheemocnaaGreatDoor
end
