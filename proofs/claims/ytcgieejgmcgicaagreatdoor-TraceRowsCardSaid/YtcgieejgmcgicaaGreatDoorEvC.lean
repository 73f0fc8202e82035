/-
  The reckoned run: regions that draw their order; code; calls. No condition.
-/
import Derived.Test.YtcgieejgmcgicaaGreatDoorEvB
namespace Go.Proofs.YtcgieejgmcgicaaGreatDoor
open Go
set_option linter.unusedSimpArgs false
set_option linter.unusedVariables false

/-- Which operations come ahead of which, whatever order is drawn. -/
def maskOf (t : Tr Nat) (o : Oper) : Nat :=
  o.after.toList.foldl (fun s e => bif Region.binds .any e then Nat.lor (Nat.lor s (2 ^ e.on)) ((t.get e.on).getD 0) else s) 0
def masks : List Oper → Nat → Tr Nat → Tr Nat
  | [], _, t => t
  | o :: l, i, t => masks l (i + 1) (t.put i (some (maskOf t o)))
/-- j comes ahead of i. -/
def ahead (t : Tr Nat) (i j : Nat) : Bool := ((t.get i).getD 0).testBit j
/-- 0: neither writes nor makes memory; 1: may; 2: makes some. -/
def kindA (P : Program) (o : Oper) : Nat :=
  match o.op with
  | .move _ | .assign _ | .pick .. | .nilCheck _ | .binOp .. | .unOp .. | .makeInterface .. | .makeFunc .. | .fieldAddr .. | .field .. | .indexAddr ..
  | .index .. | .slice .. | .typeAssert .. | .extract .. | .build .. | .load .. => 0
  | .convert _ d _ => match P.underlying d with
    | some (.slice _) => 1
    | some _ => 0
    | none => 1
  | .call { callee := .builtin .len, .. } | .call { callee := .builtin .cap, .. } | .call { callee := .builtin .max, .. } | .call { callee := .builtin .min, .. }
  | .call { callee := .builtin .unsafeSliceData, .. } => 0
  | .alloc _ => match o.guard with
    | none => 2
    | some _ => 1
  | _ => 1

def allIx {α : Type} (p : Nat → α → Bool) : List α → Nat → Bool
  | [], _ => true
  | x :: l, i => p i x && allIx p l (i + 1)
/-- The region's form: edges go back; what names a slot that another one writes is ordered with it; what writes memory is in one chain, but for an allocation that may come early: then nobody looks at it ahead of its place in the chain. -/
def drawOK (P : Program) (ops : List Oper) (t : Tr Nat) : Bool :=
  allIx (fun i x => (x.after.toList.all fun e => !Region.binds .any e || Nat.blt e.on i) &&
    allIx (fun j y => !Nat.blt i j || (ahead t j i ||
      (Oper.apart ops.toArray x y && (Nat.beq (kindA P x) 0 || (Nat.beq (kindA P y) 0 ||
        (Nat.beq (kindA P y) 2 && allIx (fun k z => Nat.beq k j || (Oper.apart ops.toArray y z || ahead t k i)) ops 0)))))) ops 0) ops 0
/-- A record of the walk in the listed order. cls 0: looks at no memory, or wasn't wanted; 1: a link of the chain; 2: reads. -/
structure Rc where
  fr : Fr
  cls : Nat
  r : AR
  H : AH
def passA (P : Program) (call : CallF) (ops : List Oper) : List Oper → Fr → AH → Option (List Rc × Fr × AH)
  | [], fr, H => some ([], fr, H)
  | o :: l, fr, H =>
    let go (cls : Nat) (r : AR) (H' : AH) : Option (List Rc × Fr × AH) := match fr.put o.dst r with
      | some fr' => (passA P call ops l fr' H').map fun (rs, x) => (⟨fr, cls, r, H⟩ :: rs, x)
      | none => none
    match wantedA ops fr o with
    | none => none
    | some false => go (bif Nat.beq (kindA P o) 0 then 0 else 1) (.tup []) H
    | some true =>
      bif Nat.beq (kindA P o) 0 then
        match pureA P fr.ev o with
        | some r => go 0 r H
        | none => match readA P H fr.ev o with
          | some r => go 2 r H
          | none => none
      else match opA P call fr.ev H o with
        | some (.ret r, H') => go 1 r H'
        | _ => none
/-- Where the chain may stand: ahead of each link, and behind the last. -/
def stopsA : List Rc → Nat → AH → List (Option Nat × AH)
  | [], _, H => [(none, H)]
  | c :: l, i, H => bif Nat.beq c.cls 1 then (some i, c.H) :: stopsA l (i + 1) H else stopsA l (i + 1) H
def Value.same : Value → Value → Bool
  | .bool a, .bool b => a == b
  | .int j a, .int k b => j == k && a == b
  | .string a, .string b => a.data.toList == b.data.toList
  | .pointer a, .pointer b => a == b
  | .slice none a b, .slice none c d => a == c && b == d
  | .nilIface, .nilIface => true
  | .nilFunc, .nilFunc => true
  | .map none, .map none => true
  | _, _ => false
def AC.same : AC → AC → Bool
  | .lit v, .lit u => Value.same v u
  | .ptr a b, .ptr c d => Nat.beq a c && Nat.beq b d
  | .sl a b c d e f, .sl a' b' c' d' e' f' => Nat.beq a a' && (Nat.beq b b' && (Nat.beq c c' && (Nat.beq d d' && (Nat.beq e e' && f == f'))))
  | .ifc t c, .ifc u d => Nat.beq t u && c.same d
  | .fn f, .fn g => f == g
  | .cap a b, .cap c d => a.same c && b.same d
  | .fst a b, .fst c d => a.same c && b.same d
  | _, _ => false
def sameAll : List AC → List AC → Bool
  | [], [] => true
  | x :: l, y :: m => x.same y && sameAll l m
  | _, _ => false
def AV.same : AV → AV → Bool
  | .c x, .c y => x.same y
  | .agg l, .agg m => sameAll l m
  | _, _ => false
def readsAs (P : Program) (H : AH) (ev : Ev) (o : Oper) (r : AR) : Bool :=
  match readA P H ev o, r with
  | some (.one x), .one y => x.same y
  | _, _ => false
/-- A read tells the same wherever the chain may stand when it is its turn. -/
def chkA (P : Program) (t : Tr Nat) (i : Nat) (ev : Ev) (o : Oper) (r : AR) : List (Option Nat × AH) → Bool
  | [] => true
  | (none, H) :: _ => readsAs P H ev o r
  | (some c, H) :: l => (ahead t i c || readsAs P H ev o r) && (ahead t c i || chkA P t i ev o r l)
def chkAll (P : Program) (t : Tr Nat) (stops : List (Option Nat × AH)) : List Oper → List Rc → Nat → Bool
  | o :: l, c :: rs, i => (!Nat.beq c.cls 2 || chkA P t i c.fr.ev o c.r stops) && chkAll P t stops l rs (i + 1)
  | _, _, _ => true
def drawA (P : Program) (call : CallF) (ops : List Oper) (fr : Fr) (H : AH) : Option (Ex × Fr × AH) :=
  let t := masks ops 0 .nil
  bif drawOK P ops t then
    match passA P call ops ops fr H with
    | some (rs, fr', H') =>
      bif chkAll P t (stopsA rs 0 H') ops rs 0 then some (.normal, fr', H') else none
    | none => none
  else none

def codeA (P : Program) (call : CallF) : Nat → Code → Fr → AH → Option (Ex × Fr × AH)
  | 0, _, _, _ => none
  | n + 1, c, fr, H => match c with
    | .skip | .label _ => some (.normal, fr, H)
    | .seq a b => match codeA P call n a fr H with
      | some (.normal, fr, H) => codeA P call n b fr H
      | r => r
    | .cond x a b => match fr.ev x with
      | .one (.c (.lit (.bool t))) => bif t then codeA P call n a fr H else codeA P call n b fr H
      | _ => none
    | .block id b => match codeA P call n b fr H with
      | some (.exit k, fr, H) => bif Nat.beq k id then some (.normal, fr, H) else some (.exit k, fr, H)
      | r => r
    | .loop b => match codeA P call n b fr H with
      | some (.normal, fr, H) => codeA P call n (.loop b) fr H
      | r => r
    | .exit id => some (.exit id, fr, H)
    | .ret => some (.ret, fr, H)
    | .region _ ops false => listA P call ops.toList ops.toList fr H
    | .region _ ops true => drawA P call ops.toList fr H
    | _ => none
def enterA (as : List AV) (n : Nat) : Fr :=
  let rec go : List AV → Nat → Tr AR → Tr AR
    | [], _, t => t
    | a :: l, i, t => go l (i + 1) (t.put i (some (.one a)))
  ⟨go as 0 .nil, Nat.max as.length n⟩
def resA (P : Program) (fr : Fr) (H : AH) : List ResultVar → Option (List AV)
  | [] => some []
  | .tmp t :: l => match fr.get t, resA P fr H l with
    | .one x, some r => some (x :: r)
    | _, _ => none
  | .cell a t :: l => match fr.get a, resA P fr H l with
    | .one (.c (.ptr id off)), some r => ((H.get id).bind fun b => partOf P t b.cells off).map (· :: r)
    | _, _ => none
def resultA (P : Program) (fr : Fr) (H : AH) (rs : List ResultVar) : Option AR :=
  match resA P fr H rs with
  | some [x] => some (.one x)
  | some l => some (.tup l)
  | none => none
def callA (P : Program) : Nat → CallF
  | 0, _, _, _ => none
  | n + 1, f, as, H => match P.funcs[f]? with
    | none => none
    | some fn => match fn.body with
      | none => none
      | some c => match codeA P (callA P n) n c (enterA as fn.ntmps) H with
        | some (.normal, fr, H) => (resultA P fr H fn.results.toList).map fun r => (.ret r, H)
        | some (.ret, fr, H) => (resultA P fr H fn.results.toList).map fun r => (.ret r, H)
        | some (.pan v, _, H) => some (.pan v, H)
        | _ => none
end Go.Proofs.YtcgieejgmcgicaaGreatDoor
