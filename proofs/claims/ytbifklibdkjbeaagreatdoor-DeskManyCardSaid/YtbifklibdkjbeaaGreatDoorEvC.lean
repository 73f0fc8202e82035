/-
  The reckoned run: regions that draw their order; code; calls. No condition.
-/
import Derived.Test.YtbifklibdkjbeaaGreatDoorEvB
namespace Go.Proofs.YtbifklibdkjbeaaGreatDoor
open Go
set_option linter.unusedSimpArgs false
set_option linter.unusedVariables false
noncomputable section

/-- Which operations come ahead of which, whatever order is drawn. -/
def maskOf (t : Tr Nat) (o : Oper) : Nat :=
  o.after.toList.foldl (fun s e => bif Region.binds .any e then Nat.lor (Nat.lor s (2 ^ e.on)) ((t.get e.on).getD 0) else s) 0
def masks : List Oper → Nat → Tr Nat → Tr Nat
  | [], _, t => t
  | o :: l, i, t => masks l (i + 1) (t.put i (some (maskOf t o)))
/-- j comes ahead of i. -/
def ahead (t : Tr Nat) (i j : Nat) : Bool := ((t.get i).getD 0).testBit j
/-- 0: neither writes nor makes memory; 1: may; 2: makes some. -/
def kindA (P : Program) (o : Oper) : Nat :=
  match o.op with
  | .move _ | .assign _ | .pick .. | .nilCheck _ | .binOp .. | .unOp .. | .makeInterface .. | .makeFunc .. | .fieldAddr .. | .field .. | .indexAddr ..
  | .index .. | .slice .. | .typeAssert .. | .extract .. | .build .. | .load .. => 0
  | .convert _ d _ => match P.underlying d with
    | some (.slice _) => 1
    | some _ => 0
    | none => 1
  | .call { callee := .builtin .len, .. } | .call { callee := .builtin .cap, .. } | .call { callee := .builtin .max, .. } | .call { callee := .builtin .min, .. }
  | .call { callee := .builtin .unsafeSliceData, .. } => 0
  | .alloc _ => match o.guard with
    | none => 2
    | some _ => 1
  | _ => 1

def allIx {α : Type} (p : Nat → α → Bool) : List α → Nat → Bool
  | [], _ => true
  | x :: l, i => p i x && allIx p l (i + 1)
/-- The region's form: edges go back; what names a slot that another one writes is ordered with it; what writes memory is in one chain, but for an allocation that may come early: then nobody looks at it ahead of its place in the chain. -/
def drawOK (P : Program) (ops : List Oper) (t : Tr Nat) : Bool :=
  allIx (fun i x => (x.after.toList.all fun e => !Region.binds .any e || Nat.blt e.on i) &&
    allIx (fun j y => !Nat.blt i j || (ahead t j i ||
      (Oper.apart ops.toArray x y && (Nat.beq (kindA P x) 0 || (Nat.beq (kindA P y) 0 ||
        (Nat.beq (kindA P y) 2 && allIx (fun k z => Nat.beq k j || (Oper.apart ops.toArray y z || ahead t k i)) ops 0)))))) ops 0) ops 0
/-- A record of the walk in the listed order. cls 0: looks at no memory, or wasn't wanted; 1: a link of the chain; 2: reads. -/
structure Rc where
  fr : Fr
  cls : Nat
  r : AR
  H : AH
def passA (P : Program) (call : CallF) (ops : List Oper) : List Oper → Fr → AH → Option (List Rc × Fr × AH)
  | [], fr, H => some ([], fr, H)
  | o :: l, fr, H =>
    let go (cls : Nat) (r : AR) (H' : AH) : Option (List Rc × Fr × AH) := match fr.put o.dst r with
      | some fr' => (passA P call ops l fr' H').map fun (rs, x) => (⟨fr, cls, r, H⟩ :: rs, x)
      | none => none
    match wantedA ops fr o with
    | none => none
    | some false => go (bif Nat.beq (kindA P o) 0 then 0 else 1) (.tup []) H
    | some true =>
      bif Nat.beq (kindA P o) 0 then
        match pureA P fr.ev o with
        | some r => go 0 r H
        | none => match readA P H fr.ev o with
          | some r => go 2 r H
          | none => none
      else match opF P call fr.ev H o with
        | some (.ret r, H') => go 1 r H'
        | _ => none
/-- Where the chain may stand: ahead of each link, and behind the last. -/
def stopsA : List Rc → Nat → AH → List (Option Nat × AH)
  | [], _, H => [(none, H)]
  | c :: l, i, H => bif Nat.beq c.cls 1 then (some i, c.H) :: stopsA l (i + 1) H else stopsA l (i + 1) H
def Value.same : Value → Value → Bool
  | .bool a, .bool b => a == b
  | .int j a, .int k b => j == k && a == b
  | .string a, .string b => a.data.toList == b.data.toList
  | .pointer a, .pointer b => a == b
  | .slice none a b, .slice none c d => a == c && b == d
  | .nilIface, .nilIface => true
  | .nilFunc, .nilFunc => true
  | .map none, .map none => true
  | _, _ => false
def AC.same : AC → AC → Bool
  | .lit v, .lit u => Value.same v u
  | .ptr a b, .ptr c d => Nat.beq a c && Nat.beq b d
  | .sl a b c d e f, .sl a' b' c' d' e' f' => Nat.beq a a' && (Nat.beq b b' && (Nat.beq c c' && (Nat.beq d d' && (Nat.beq e e' && f == f'))))
  | .ifc t c, .ifc u d => Nat.beq t u && c.same d
  | .fn f, .fn g => f == g
  | .cap a b, .cap c d => a.same c && b.same d
  | .fst a b, .fst c d => a.same c && b.same d
  | _, _ => false
def sameAll : List AC → List AC → Bool
  | [], [] => true
  | x :: l, y :: m => x.same y && sameAll l m
  | _, _ => false
def AV.same : AV → AV → Bool
  | .c x, .c y => x.same y
  | .agg l, .agg m => sameAll l m
  | _, _ => false
def readsAs (P : Program) (H : AH) (ev : Ev) (o : Oper) (r : AR) : Bool :=
  match readA P H ev o, r with
  | some (.one x), .one y => x.same y
  | _, _ => false
/-- A read tells the same wherever the chain may stand when it is its turn. -/
def chkA (P : Program) (t : Tr Nat) (i : Nat) (ev : Ev) (o : Oper) (r : AR) : List (Option Nat × AH) → Bool
  | [] => true
  | (none, H) :: _ => readsAs P H ev o r
  | (some c, H) :: l => (ahead t i c || readsAs P H ev o r) && (ahead t c i || chkA P t i ev o r l)
def chkAll (P : Program) (t : Tr Nat) (stops : List (Option Nat × AH)) : List Oper → List Rc → Nat → Bool
  | o :: l, c :: rs, i => (!Nat.beq c.cls 2 || chkA P t i c.fr.ev o c.r stops) && chkAll P t stops l rs (i + 1)
  | _, _, _ => true
def drawA (P : Program) (call : CallF) (ops : List Oper) (fr : Fr) (H : AH) : Option (Ex × Fr × AH) :=
  let t := masks ops 0 .nil
  bif drawOK P ops t then
    match passA P call ops ops fr H with
    | some (rs, fr', H') =>
      bif chkAll P t (stopsA rs 0 H') ops rs 0 then some (.normal, fr', H') else none
    | none => none
  else none

/-- Code, by a table of closed alternatives. -/
abbrev CodeF := Code → Fr → AH → LR
abbrev CdK := Program → CallF → CodeF → Fr → AH → LR
def goNormal (k : Fr → AH → LR) (r : LR) : LR := match r with
  | some (.normal, fr, H) => k fr H
  | r => r
def goBlock (id : Nat) (r : LR) : LR := match r with
  | some (.exit k, fr, H) => bif Nat.beq k id then some (.normal, fr, H) else some (.exit k, fr, H)
  | r => r
def seqK (a b : Code) : CdK := fun _ _ ih fr H => goNormal (ih b) (ih a fr H)
def condK (x : Operand) (a b : Code) : CdK := fun _ _ ih fr H => match fr.ev x with
  | .one (.c (.lit (.bool t))) => bif t then ih a fr H else ih b fr H
  | _ => none
def blockK (id : Nat) (b : Code) : CdK := fun _ _ ih fr H => goBlock id (ih b fr H)
def loopK (b : Code) : CdK := fun _ _ ih fr H => goNormal (ih (.loop b)) (ih b fr H)
def exitK (e : Ex) : CdK := fun _ _ _ fr H => some (e, fr, H)
def listK (ops : Array Oper) : CdK := fun P call _ fr H => goFlush (listA P call ops.toList ops.toList fr H)
def drawK (ops : Array Oper) : CdK := fun P call _ fr H => goFlush (drawA P call ops.toList fr H)
def noK : CdK := fun _ _ _ _ _ => none
def codeTab : Code → CdK
  | .skip => exitK .normal
  | .label _ => exitK .normal
  | .seq a b => seqK a b
  | .cond x a b => condK x a b
  | .block id b => blockK id b
  | .loop b => loopK b
  | .exit id => exitK (.exit id)
  | .ret => exitK .ret
  | .region _ ops d => bif d then drawK ops else listK ops
  | _ => noK
def codeA (P : Program) (call : CallF) (n : Nat) : CodeF := @Nat.rec (fun _ => CodeF) (fun _ _ _ => none) (fun _ ih c fr H => codeTab c P call ih fr H) n
theorem codeA_zero (P : Program) (call : CallF) (c : Code) (fr : Fr) (H : AH) : codeA P call 0 c fr H = none := rfl
theorem codeA_succ (P : Program) (call : CallF) (n : Nat) (c : Code) (fr : Fr) (H : AH) : codeA P call (n + 1) c fr H = match c with
    | .skip | .label _ => some (.normal, fr, H)
    | .seq a b => match codeA P call n a fr H with
      | some (.normal, fr, H) => codeA P call n b fr H
      | r => r
    | .cond x a b => match fr.ev x with
      | .one (.c (.lit (.bool t))) => bif t then codeA P call n a fr H else codeA P call n b fr H
      | _ => none
    | .block id b => match codeA P call n b fr H with
      | some (.exit k, fr, H) => bif Nat.beq k id then some (.normal, fr, H) else some (.exit k, fr, H)
      | r => r
    | .loop b => match codeA P call n b fr H with
      | some (.normal, fr, H) => codeA P call n (.loop b) fr H
      | r => r
    | .exit id => some (.exit id, fr, H)
    | .ret => some (.ret, fr, H)
    | .region _ ops false => goFlush (listA P call ops.toList ops.toList fr H)
    | .region _ ops true => goFlush (drawA P call ops.toList fr H)
    | _ => none := by
  cases c with
  | region id ops d => cases d <;> rfl
  | _ => rfl
def usesOf (l : List Operand) : Nat := l.foldr (fun x m => match x with
  | .tmp t => Nat.lor m (Nat.shiftLeft 1 t)
  | _ => m) 0
/-- The slots that a list of operations reads ahead of any of its own that writes them (from behind). -/
def opsLive (ops : List Oper) : Nat := ops.foldr (fun o m =>
  let m := match o.dst with
    | some d => bif bitOf m d then Nat.xor m (Nat.shiftLeft 1 d) else m
    | none => m
  Nat.lor m (usesOf o.op.operands.toList)) 0
def codeLive : Code → Nat
  | .region _ ops _ => opsLive ops.toList
  | .seq a b => Nat.lor (codeLive a) (codeLive b)
  | .cond x a b => Nat.lor (usesOf [x]) (Nat.lor (codeLive a) (codeLive b))
  | .block _ b => codeLive b
  | .loop b => codeLive b
  | _ => 0
def resLive (l : List ResultVar) : Nat := l.foldr (fun x m => match x with
  | .tmp t => Nat.lor m (Nat.shiftLeft 1 t)
  | .cell a _ => Nat.lor m (Nat.shiftLeft 1 a)) 0
def liveOf (fn : Func) : Nat := match fn.body with
  | some c => Nat.lor (codeLive c) (resLive fn.results.toList)
  | none => 0
def enterLog : List AV → Nat → Log → Log
  | [], _, t => t
  | a :: l, i, t => enterLog l (i + 1) (.cons i (.one a) t)
def enterA (az : List AV) (n m : Nat) : Fr := ⟨enterLog az 0 .nil, .nil, m, Nat.max az.length n⟩
def resA (P : Program) (fr : Fr) (H : AH) : List ResultVar → Option (List AV)
  | [] => some []
  | .tmp t :: l => match fr.get t, resA P fr H l with
    | .one x, some r => some (x :: r)
    | _, _ => none
  | .cell a t :: l => match fr.get a, resA P fr H l with
    | .one (.c (.ptr id off)), some r => ((H.get id).bind fun b => partOf P t b.cells off).map (· :: r)
    | _, _ => none
def resultA (P : Program) (fr : Fr) (H : AH) (rs : List ResultVar) : Option AR :=
  match resA P fr H rs with
  | some [x] => some (.one x)
  | some l => some (.tup l)
  | none => none
/-- A deferred call: which function, with what. -/
abbrev DF := List (FuncId × List AV)
def defA (P : Program) (ev : Ev) (o : Oper) : Option (FuncId × List AV) :=
  match o.op with
  | .defer { callee := .value f, args, argTypes } => calleeA P ev { o with op := .call { callee := .value f, args, argTypes } }
  | _ => none
def listD (P : Program) (call : CallF) (ops : List Oper) : List Oper → Fr → AH → DF → Option (Ex × Fr × AH × DF)
  | [], fr, H, ds => some (.normal, fr, H, ds)
  | o :: l, fr, H, ds => match wantedA ops fr o with
    | some true => match opF P call fr.ev H o with
      | some (.ret r, H) => match fr.put o.dst r with
        | some fr => listD P call ops l fr H ds
        | none => none
      | some (.pan v, H) => some (.pan v, fr, H, ds)
      | none => match defA P fr.ev o with
        | some d => match fr.put o.dst (.tup []) with
          | some fr => listD P call ops l fr H (d :: ds)
          | none => none
        | none => none
    | some false => match fr.put o.dst (.tup []) with
      | some fr => listD P call ops l fr H ds
      | none => none
    | none => none
def noDef (l : List Oper) : Bool := l.all fun o => match o.op with
  | .defer _ => false
  | _ => true
abbrev DR := Option (Ex × Fr × AH × DF)
abbrev CodeDF := Code → Fr → AH → DF → DR
abbrev CdDK := Program → CallF → CodeF → CodeDF → Fr → AH → DF → DR
def goNormalD (k : Fr → AH → DF → DR) (r : DR) : DR := match r with
  | some (.normal, fr, H, ds) => k fr H ds
  | r => r
def withD (ds : DF) (r : LR) : DR := match r with
  | some (e, fr, H) => some (e, fr, H, ds)
  | none => none
def flushD : DR → DR
  | some (e, fr, H, ds) => some (e, fr.flush, H, ds)
  | none => none
theorem flushD_some {r : DR} {x : Ex × Fr × AH × DF} (h : flushD r = some x) : ∃ e fr H ds, r = some (e, fr, H, ds) ∧ x = (e, fr.flush, H, ds) := by
  rcases r with _ | ⟨e, fr, H, ds⟩
  · simp [flushD] at h
  · simp only [flushD, Option.some.injEq] at h; exact ⟨e, fr, H, ds, rfl, h.symm⟩
def seqD (a b : Code) : CdDK := fun _ _ _ ih fr H ds => goNormalD (ih b) (ih a fr H ds)
def condD (x : Operand) (a b : Code) : CdDK := fun _ _ _ ih fr H ds => match fr.ev x with
  | .one (.c (.lit (.bool t))) => bif t then ih a fr H ds else ih b fr H ds
  | _ => none
def regD (ops : Array Oper) : CdDK := fun P call _ _ fr H ds => flushD (listD P call ops.toList ops.toList fr H ds)
def elseD (c : Code) : CdDK := fun _ _ ia _ fr H ds => withD ds (ia c fr H)
def codeTabD : Code → CdDK
  | .seq a b => seqD a b
  | .cond x a b => condD x a b
  | .region id ops d => bif d || noDef ops.toList then elseD (.region id ops d) else regD ops
  | c => elseD c
/-- Code that may defer. -/
def codeD (P : Program) (call : CallF) (n : Nat) : CodeDF := @Nat.rec (fun _ => CodeDF) (fun _ _ _ _ => none) (fun n ih c fr H ds => codeTabD c P call (codeA P call n) ih fr H ds) n
theorem codeD_zero (P : Program) (call : CallF) (c : Code) (fr : Fr) (H : AH) (ds : DF) : codeD P call 0 c fr H ds = none := rfl
theorem codeD_succ (P : Program) (call : CallF) (n : Nat) (c : Code) (fr : Fr) (H : AH) (ds : DF) : codeD P call (n + 1) c fr H ds = match c with
    | .seq a b => match codeD P call n a fr H ds with
      | some (.normal, fr, H, ds) => codeD P call n b fr H ds
      | r => r
    | .cond x a b => match fr.ev x with
      | .one (.c (.lit (.bool t))) => bif t then codeD P call n a fr H ds else codeD P call n b fr H ds
      | _ => none
    | .region id ops d => bif d || noDef ops.toList then (match codeA P call n (.region id ops d) fr H with
        | some (e, fr, H) => some (e, fr, H, ds)
        | none => none)
      else flushD (listD P call ops.toList ops.toList fr H ds)
    | c => match codeA P call n c fr H with
      | some (e, fr, H) => some (e, fr, H, ds)
      | none => none := by
  cases c with
  | region id ops d =>
    show codeTabD (.region id ops d) P call (codeA P call n) (codeD P call n) fr H ds = _
    simp only [codeTabD]
    cases d || noDef ops.toList <;> rfl
  | _ => rfl
/-- How the caller of a deferred call stands: it returns; it panics; it panicked, and was recovered. -/
inductive PM where
  | no
  | live (x : AV)
  | done (x : AV)
def PM.rec? : PM → AR × PM
  | .live x => (.one x, .done x)
  | p => (.one (.c (.lit .nilIface)), p)
def PM.settle : PM → PM
  | .done _ => .no
  | p => p
def isRec (o : Oper) : Bool := match o.op with
  | .call { callee := .builtin .recover, .. } => true
  | _ => false
def listR (P : Program) (call : CallF) (ops : List Oper) : List Oper → Fr → AH → PM → Option (Ex × Fr × AH × PM)
  | [], fr, H, pm => some (.normal, fr, H, pm)
  | o :: l, fr, H, pm => match wantedA ops fr o with
    | some true => match opF P call fr.ev H o with
      | some (.ret r, H) => match fr.put o.dst r with
        | some fr => listR P call ops l fr H pm
        | none => none
      | some (.pan v, H) => some (.pan v, fr, H, pm)
      | none => bif isRec o then (match fr.put o.dst pm.rec?.1 with
          | some fr => listR P call ops l fr H pm.rec?.2
          | none => none)
        else none
    | some false => match fr.put o.dst (.tup []) with
      | some fr => listR P call ops l fr H pm
      | none => none
    | none => none
def flushR : Option (Ex × Fr × AH × PM) → Option (Ex × Fr × AH × PM)
  | some (e, fr, H, pm) => some (e, fr.flush, H, pm)
  | none => none
theorem flushR_some {r : Option (Ex × Fr × AH × PM)} {x : Ex × Fr × AH × PM} (h : flushR r = some x) : ∃ e fr H pm, r = some (e, fr, H, pm) ∧ x = (e, fr.flush, H, pm) := by
  rcases r with _ | ⟨e, fr, H, pm⟩
  · simp [flushR] at h
  · simp only [flushR, Option.some.injEq] at h; exact ⟨e, fr, H, pm, rfl, h.symm⟩
/-- A deferred function's code: it may recover. -/
def codeR (P : Program) (call : CallF) : Nat → Code → Fr → AH → PM → Option (Ex × Fr × AH × PM)
  | 0, _, _, _, _ => none
  | n + 1, c, fr, H, pm => match c with
    | .seq a b => match codeR P call n a fr H pm with
      | some (.normal, fr, H, pm) => codeR P call n b fr H pm
      | r => r
    | .cond x a b => match fr.ev x with
      | .one (.c (.lit (.bool t))) => bif t then codeR P call n a fr H pm else codeR P call n b fr H pm
      | _ => none
    | .region _ ops false => flushR (listR P call ops.toList ops.toList fr H pm)
    | c => match codeA P call n c fr H with
      | some (e, fr, H) => some (e, fr, H, pm)
      | none => none
def leaveA (P : Program) (call : CallF) (n : Nat) : DF → AH → PM → Option (AH × PM)
  | [], H, pm => some (H, pm)
  | (f, az) :: ds, H, pm => match P.funcs[f]? with
    | none => none
    | some fn => match fn.body with
      | none => none
      | some c => match codeR P call n c (enterA az fn.ntmps (liveOf fn)) H pm with
        | some (.normal, fr, H, pm) => match resultA P fr H fn.results.toList with
          | some _ => leaveA P call n ds H pm.settle
          | none => none
        | some (.ret, fr, H, pm) => match resultA P fr H fn.results.toList with
          | some _ => leaveA P call n ds H pm.settle
          | none => none
        | _ => none
def endA (P : Program) (call : CallF) (n : Nat) (rs : List ResultVar) (fr : Fr) (H : AH) (ds : DF) (pm : PM) : Option (Out × AH) :=
  match leaveA P call n ds H pm with
  | some (H, .no) => match resultA P fr H rs with
    | some r => some (.ret r, H)
    | none => none
  | some (H, .live v) => some (.pan v, H)
  | _ => none
def callA (P : Program) : Nat → CallF
  | 0, _, _, _ => none
  | n + 1, f, az, H => match P.funcs[f]? with
    | none => none
    | some fn => match fn.body with
      | none => none
      | some c => match codeD P (callA P n) n c (enterA az fn.ntmps (liveOf fn)) H [] with
        | some (.normal, fr, H, ds) => endA P (callA P n) n fn.results.toList fr H ds .no
        | some (.ret, fr, H, ds) => endA P (callA P n) n fn.results.toList fr H ds .no
        | some (.pan v, fr, H, ds) => endA P (callA P n) n fn.results.toList fr H ds (.live v)
        | _ => none
end
end Go.Proofs.YtbifklibdkjbeaaGreatDoor
