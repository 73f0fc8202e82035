/-
  A run of a closed call, reckoned: words for memory and values without addresses, and a function that runs a program on them (the kernel reckons it). No condition.
-/
import Derived.WalkKit
namespace Go.Proofs.YtapmdhejgnplaaaGreat
open Go.RowKit
set_option linter.unusedVariables false
set_option linter.unusedSimpArgs false
set_option maxRecDepth 100000
section
open Go
noncomputable section
inductive Tr (α : Type) where
 | nil : Tr α
 | node (l : Tr α) (v : Option α) (r : Tr α) : Tr α
def Tr.get {α : Type} : Tr α -> Nat -> Option α
 | .nil, _ => none
 | .node l v r, i =>
  match i with
  | 0 => v
  | k + 1 => bif Nat.beq (k % 2) 0 then l.get (k / 2) else r.get (k / 2)
def Tr.set {α : Type} : Nat -> Tr α -> Nat -> Option α -> Tr α
 | 0, t, _, _ => t
 | f + 1, .nil, i, o =>
  match i with
  | 0 => .node .nil o .nil
  | k + 1 => bif Nat.beq (k % 2) 0 then .node (Tr.set f .nil (k / 2) o) none .nil else .node .nil none (Tr.set f .nil (k / 2) o)
 | f + 1, .node l v r, i, o =>
  match i with
  | 0 => .node l o r
  | k + 1 => bif Nat.beq (k % 2) 0 then .node (Tr.set f l (k / 2) o) v r else .node l v (Tr.set f r (k / 2) o)
def Tr.getR {α : Type} (t : Tr α) : Nat -> Option α := @Tr.rec α (fun _ => Nat -> Option α) (fun _ => none) (fun l v r gl gr i => @Nat.rec (fun _ => Option α) v (fun k _ => @Bool.rec (fun _ => Option α) (gr (Nat.div k 2)) (gl (Nat.div k 2)) (Nat.beq (Nat.mod k 2) 0)) i) t
def Tr.setR {α : Type} (f : Nat) : Tr α -> Nat -> Option α -> Tr α := @Nat.rec (fun _ => Tr α -> Nat -> Option α -> Tr α) (fun t _ _ => t) (fun f ih t i o => @Tr.rec α (fun _ => Tr α) (@Nat.rec (fun _ => Tr α) (.node .nil o .nil) (fun k _ => @Bool.rec (fun _ => Tr α) (.node .nil none (ih .nil (Nat.div k 2) o)) (.node (ih .nil (Nat.div k 2) o) none .nil) (Nat.beq (Nat.mod k 2) 0)) i) (fun l v r _ _ => @Nat.rec (fun _ => Tr α) (.node l o r) (fun k _ => @Bool.rec (fun _ => Tr α) (.node l v (ih r (Nat.div k 2) o)) (.node (ih l (Nat.div k 2) o) v r) (Nat.beq (Nat.mod k 2) 0)) i) t) f
theorem Tr.getR_eq {α : Type} : ∀ (t : Tr α) (i : Nat), t.getR i = t.get i
 | .nil, i => rfl
 | .node l v r, 0 => rfl
 | .node l v r, k + 1 => by
  have h1 := Tr.getR_eq l (k / 2)
  have h2 := Tr.getR_eq r (k / 2)
  show @Bool.rec (fun _ => Option α) (r.getR (k / 2)) (l.getR (k / 2)) (Nat.beq (k % 2) 0) = bif Nat.beq (k % 2) 0 then l.get (k / 2) else r.get (k / 2)
  rw [h1, h2]
  cases Nat.beq (k % 2) 0 <;> rfl
theorem Tr.setR_eq {α : Type} (o : Option α) : ∀ (f : Nat) (t : Tr α) (i : Nat), Tr.setR f t i o = Tr.set f t i o
 | 0, t, i => rfl
 | f + 1, .nil, 0 => rfl
 | f + 1, .node l v r, 0 => rfl
 | f + 1, .nil, k + 1 => by
  have h1 := Tr.setR_eq o f .nil (k / 2)
  show @Bool.rec (fun _ => Tr α) (.node .nil none (Tr.setR f .nil (k / 2) o)) (.node (Tr.setR f .nil (k / 2) o) none .nil) (Nat.beq (k % 2) 0) = bif Nat.beq (k % 2) 0 then .node (Tr.set f .nil (k / 2) o) none .nil else .node .nil none (Tr.set f .nil (k / 2) o)
  rw [h1]
  cases Nat.beq (k % 2) 0 <;> rfl
 | f + 1, .node l v r, k + 1 => by
  have h1 := Tr.setR_eq o f l (k / 2)
  have h2 := Tr.setR_eq o f r (k / 2)
  show @Bool.rec (fun _ => Tr α) (.node l v (Tr.setR f r (k / 2) o)) (.node (Tr.setR f l (k / 2) o) v r) (Nat.beq (k % 2) 0) = bif Nat.beq (k % 2) 0 then .node (Tr.set f l (k / 2) o) v r else .node l v (Tr.set f r (k / 2) o)
  rw [h1, h2]
  cases Nat.beq (k % 2) 0 <;> rfl
def Tr.put {α : Type} (t : Tr α) (i : Nat) (o : Option α) : Tr α := Tr.setR (i + 1) t i o
theorem Tr.get_set {α : Type} (o : Option α) : ∀ (f : Nat) (t : Tr α) (i j : Nat), i < f -> (Tr.set f t i o).get j = if j = i then o else t.get j := by
 have half : ∀ k m : Nat, k % 2 = m % 2 -> (k / 2 = m / 2 ↔ k = m) := by omega
 have odd : ∀ k : Nat, ¬ k % 2 = 0 -> Nat.beq (k % 2) 0 = false := fun k h => by have : k % 2 = 1 := (by omega); rw [this]; rfl
 intro f
 induction f with
 | zero => intro t i j h; omega
 | succ f ih =>
  intro t i j h
  cases t with
  | nil =>
   cases i with
   | zero => cases j <;> simp [Tr.set, Tr.get]
   | succ k =>
    simp only [Tr.set]
    by_cases hk : k % 2 = 0
    · simp only [hk, Nat.beq_refl, cond_true]
      cases j with
      | zero => simp [Tr.get]
      | succ m =>
       simp only [Tr.get]
       by_cases hm : m % 2 = 0
       · simp only [hm, Nat.beq_refl, cond_true]
         rw [ih _ _ _ (by omega)]
         have := half m k (by omega)
         simp [Tr.get, this]
       have := odd m hm
       simp only [this, cond_false, Tr.get]
       have : m ≠ k := (by intro e; subst e; omega)
       simp [this]
    have := odd k hk
    simp only [this, cond_false]
    cases j with
    | zero => simp [Tr.get]
    | succ m =>
     simp only [Tr.get]
     by_cases hm : m % 2 = 0
     · simp only [hm, Nat.beq_refl, cond_true]
       have : m ≠ k := (by intro e; subst e; omega)
       simp [Tr.get, this]
     have := odd m hm
     simp only [this, cond_false]
     rw [ih _ _ _ (by omega)]
     have := half m k (by omega)
     simp [Tr.get, this]
  | node l v r =>
   cases i with
   | zero => cases j <;> simp [Tr.set, Tr.get]
   | succ k =>
    simp only [Tr.set]
    by_cases hk : k % 2 = 0
    · simp only [hk, Nat.beq_refl, cond_true]
      cases j with
      | zero => simp [Tr.get]
      | succ m =>
       simp only [Tr.get]
       by_cases hm : m % 2 = 0
       · simp only [hm, Nat.beq_refl, cond_true]
         rw [ih _ _ _ (by omega)]
         have := half m k (by omega)
         simp [this]
       have := odd m hm
       simp only [this, cond_false]
       have : m ≠ k := by intro e; omega
       simp [this]
    have := odd k hk
    simp only [this, cond_false]
    cases j with
    | zero => simp [Tr.get]
    | succ m =>
     simp only [Tr.get]
     by_cases hm : m % 2 = 0
     · simp only [hm, Nat.beq_refl, cond_true]
       have : m ≠ k := by intro e; omega
       simp [this]
     have := odd m hm
     simp only [this, cond_false]
     rw [ih _ _ _ (by omega)]
     have := half m k (by omega)
     simp [this]
theorem Tr.get_put {α : Type} (t : Tr α) (i : Nat) (o : Option α) (j : Nat) : (t.put i o).get j = if j = i then o else t.get j := by unfold Tr.put; rw [Tr.setR_eq]; exact Tr.get_set o _ _ _ _ (Nat.lt_succ_self i)
inductive AC where
 | lit (v : Value)
 | ptr (id off : Nat)
 | sl (id off len cap es : Nat) (ex : Bool)
 | ifc (t : TypeId) (c : AC)
 | fn (f : Fn)
 | cap (r c : AC)
 | fst (r c : AC)
inductive AV where
 | c (x : AC)
 | agg (xs : List AC)
inductive AR where
 | one (x : AV)
 | tup (xs : List AV)
 | any
def AV.cells : AV -> List AC
 | .c x => [x]
 | .agg xs => xs
def xgX : List Value -> Option (List AC)
 | [] => some []
 | v :: l => match v with
  | .agg _ | .tuple _ => none
  | v => (xgX l).map (.lit v :: ·)
def AV.of? : Value -> Option AV
 | .agg cs => (xgX cs.toList).map .agg
 | .tuple _ => none
 | v => some (.c (.lit v))
def xls : List Value -> Option (List AV)
 | [] => some []
 | v :: l => match AV.of? v with
  | some x => (xls l).map (x :: ·)
  | none => none
def AR.of? : Value -> Option AR
 | .tuple vs => (xls vs.toList).map .tup
 | v => (AV.of? v).map .one
def AC.val? : AC -> Option Value
 | .lit v => some v
 | .ifc t c => c.val?.map (.iface t ·)
 | .fn f => some (.func f #[] #[])
 | _ => none
def xgs : List AC -> Option (List Value)
 | [] => some []
 | x :: l => match x.val? with
  | some v => (xgs l).map (v :: ·)
  | none => none
def AV.val? : AV -> Option Value
 | .c x => x.val?
 | .agg xs => (xgs xs).map fun l => .agg l.toArray
def AR.val? : AR -> Option Value
 | .one x => x.val?
 | .tup [] => some undef
 | _ => none
structure Blk where
 cells : List AC
 elem : TypeId
 whole : Bool
structure AH where
 heap : Tr Blk
 next : Nat
def AH.get (H : AH) (id : Nat) : Option Blk := H.heap.getR id
def AH.new (H : AH) (b : Blk) : AH := @AH.rec (fun _ => AH) (fun h n => ⟨h.put n (some b), n + 1⟩) H
def AH.set (H : AH) (id : Nat) (b : Option Blk) : AH := @AH.rec (fun _ => AH) (fun h n => ⟨h.put id b, n⟩) H
theorem AH.set_next (H : AH) (id : Nat) (b : Option Blk) : (H.set id b).next = H.next := rfl
def AH.empty : AH := ⟨.nil, 0⟩
def nthR (l : List AC) : Nat -> Option AC := @List.rec AC (fun _ => Nat -> Option AC) (fun _ => none) (fun h _ ih i => @Nat.rec (fun _ => Option AC) (some h) (fun k _ => ih k) i) l
theorem xhR : ∀ (l : List AC) (i : Nat), nthR l i = l[i]?
 | [], i => by simp; rfl
 | h :: t, 0 => rfl
 | h :: t, k + 1 => by
  have h1 := xhR t k
  show nthR t k = _
  rw [h1]; simp
def putR (v : AC) (k : Nat) : List AC -> List AC := @Nat.rec (fun _ => List AC -> List AC) (fun l => @List.rec AC (fun _ => List AC) [v] (fun _ t _ => v :: t) l) (fun _ ih l => @List.rec AC (fun _ => List AC) [v] (fun h t _ => h :: ih t) l) k
theorem xlb (v : AC) : ∀ (k : Nat) (l : List AC), putR v k l = l.take k ++ (v :: l.drop (k + 1))
 | 0, [] => rfl
 | 0, _ :: _ => rfl
 | k + 1, [] => rfl
 | k + 1, h :: t => by
  have h1 := xlb v k t
  show h :: putR v k t = _
  rw [h1]; rfl
def xcm (l : List AC) (off : Nat) (vs : List AC) : List AC := match vs with
 | [v] => putR v off l
 | vs => l.take off ++ (vs ++ l.drop (off + vs.length))
theorem xer (l : List AC) (off : Nat) (vs : List AC) : xcm l off vs = l.take off ++ (vs ++ l.drop (off + vs.length)) := by
 unfold xcm
 split
 · rw [xlb]; rfl
 rfl
inductive Log where
 | nil
 | cons (k : Nat) (r : AR) (l : Log)
def Log.find (l : Log) (t : Nat) (d : AR) : AR := @Log.rec (fun _ => AR) d (fun k r _ ih => @Bool.rec (fun _ => AR) ih r (Nat.beq k t)) l
def xd9 (m t : Nat) : Bool := Nat.beq (Nat.land (Nat.shiftRight m t) 1) 1
def Log.into (m : Nat) (l : Log) (b : Tr AR) : Tr AR := @Log.rec (fun _ => Tr AR) b (fun k r _ ih => @Bool.rec (fun _ => Tr AR) ih (ih.put k (some r)) (xd9 m k)) l
structure Fr where
 log : Log
 base : Tr AR
 mask : Nat
 size : Nat
def xfa : Option AR -> AR
 | some r => r
 | none => .any
def lowC (base : Tr AR) (mask t : Nat) : AR := bif xd9 mask t then xfa (base.getR t) else .any
def Fr.get (fr : Fr) (t : Nat) : AR := @Fr.rec (fun _ => AR) (fun log base mask _ => log.find t (lowC base mask t)) fr
def putC (d : Tmp) (r : AR) (fr : Fr) : Option Fr := @Fr.rec (fun _ => Option Fr) (fun log base mask size => bif Nat.ble (Nat.succ d) size then some ⟨.cons d r log, base, mask, size⟩ else none) fr
def Fr.put (fr : Fr) (d : Option Tmp) (r : AR) : Option Fr :=
 match d with
 | none => some fr
 | some d => putC d r fr
theorem Fr.put_def (fr : Fr) (d : Option Tmp) (r : AR) : fr.put d r = match d with
 | none => some fr
 | some d => bif Nat.blt d fr.size then some ⟨.cons d r fr.log, fr.base, fr.mask, fr.size⟩ else none := by cases d <;> rfl
def Fr.flush (fr : Fr) : Fr := @Fr.rec (fun _ => Fr) (fun log base mask size => ⟨.nil, log.into mask base, mask, size⟩) fr
theorem Log.find_cons (k : Nat) (r : AR) (l : Log) (t : Nat) (d : AR) : (Log.cons k r l).find t d = if t = k then r else l.find t d := by
 show @Bool.rec (fun _ => AR) (l.find t d) r (Nat.beq k t) = _
 by_cases h : t = k
 · subst h; rw [Nat.beq_refl, if_pos rfl]
 have : Nat.beq k t = false := by
  cases hb : Nat.beq k t with
  | false => rfl
  | true => exact absurd (Nat.eq_of_beq_eq_true hb).symm h
 rw [this, if_neg h]
theorem Fr.get_put (fr : Fr) (d : Nat) (r : AR) (t : Nat) : (⟨.cons d r fr.log, fr.base, fr.mask, fr.size⟩ : Fr).get t = if t = d then r else fr.get t := Log.find_cons _ _ _ _ _
theorem Log.into_get (m : Nat) (b : Tr AR) (t : Nat) (h : xd9 m t = true) : ∀ l : Log, xfa ((Log.into m l b).getR t) = l.find t (xfa (b.getR t))
 | .nil => rfl
 | .cons k r l => by
  have ih := Log.into_get m b t h l
  rw [Log.find_cons]
  show xfa ((@Bool.rec (fun _ => Tr AR) (l.into m b) ((l.into m b).put k (some r)) (xd9 m k)).getR t) = _
  by_cases ht : t = k
  · subst ht
    rw [h, if_pos rfl]
    show xfa (((l.into m b).put t (some r)).getR t) = r
    rw [Tr.getR_eq, Tr.get_put, if_pos rfl]; rfl
  rw [if_neg ht]
  cases hk : xd9 m k with
  | false => exact ih
  | true =>
   show xfa (((l.into m b).put k (some r)).getR t) = _
   rw [Tr.getR_eq, Tr.get_put, if_neg ht, <- Tr.getR_eq]; exact ih
theorem Fr.get_flush (fr : Fr) (t : Nat) : fr.flush.get t = fr.get t \/ fr.flush.get t = .any := by
 show (bif xd9 fr.mask t then xfa ((fr.log.into fr.mask fr.base).getR t) else .any) = _ \/ (bif xd9 fr.mask t then xfa ((fr.log.into fr.mask fr.base).getR t) else .any) = _
 cases h : xd9 fr.mask t with
 | false => exact .inr rfl
 | true =>
  refine .inl ?_
  rw [cond_true, Log.into_get _ _ _ h]
  show _ = fr.log.find t (bif xd9 fr.mask t then xfa (fr.base.getR t) else .any)
  rw [h]; rfl
def qrun {α : Type} (P : Program) : Sem α -> Option α
 | .pure a => some a
 | .program k => qrun P (k P)
 | .mark _ k => qrun P k
 | _ => none
theorem xmY {α : Type} (P : Program) (s : Sem α) (a : α) (h : qrun P s = some a) (w : World) : s.run P w = .ok a w := by
 induction s with
 | pure b => simp only [qrun, Option.some.injEq] at h; subst h; rfl
 | program k ih => exact ih P h
 | mark m k ih => exact ih h
 | _ => simp [qrun] at h
abbrev Ev := Operand -> AR
def Fr.ev (fr : Fr) : Ev
 | .tmp t => fr.get t
 | .const v => (AR.of? v).getD .any
 | .global g => .one (.c (.lit (.pointer (some ⟨g, 0, none⟩))))
 | .func f => .one (.c (.fn (.func f)))
def szOf (P : Program) (t : TypeId) : Option Nat := (P.info? t).map (·.size)
def xmw (P : Program) (t : TypeId) : Option Bool :=
 match P.underlying t with
 | some (.struct _) | some (.array _ _) => some true
 | some _ => some false
 | none => none
def zeroCells? (P : Program) (t : TypeId) : Option (List AC) :=
 match (P.info? t).bind (·.zero) with
 | some z => (AV.of? z).map AV.cells
 | none => none
def xcn (ev : Ev) : List Operand -> Bool
 | [] => true
 | x :: l => (ev x).val?.isSome && xcn ev l
def xgK (o : Oper) : Bool := match o.op with
 | .select .. => false
 | _ => true
def scal (P : Program) (ev : Ev) (o : Oper) : Option AR :=
 bif xgK o && xcn ev o.op.operands.toList then
  match qrun P (execOp (fun x => ((ev x).val?).getD undef) o) with
  | some (.value v) => AR.of? v
  | _ => none
 else none
def xd3 : AR -> Option Int
 | .one (.c (.lit (.int _ n))) => some n
 | _ => none
def xeT (P : Program) (s : TypeId) (f : Nat) : Option (Nat × TypeId × Nat) :=
 match P.underlying s with
 | some (.struct fields) => match fields[f]? with
  | some x => (szOf P x.type).map fun n => (x.offset, x.type, n)
  | none => none
 | _ => none
def cut (l : List AC) (off n : Nat) : Option (List AC) :=
 let cs := (l.drop off).take n
 bif Nat.beq cs.length n then some cs else none
def xd2 (P : Program) (t : TypeId) (cs : List AC) (off : Nat) : Option AV :=
 match xmw P t, szOf P t with
 | some true, some n => (cut cs off n).map .agg
 | some false, some _ => (nthR cs off).map .c
 | _, _ => none
def xhn (f : Fn) : List AR -> Option AC
 | [] => some (.fn f)
 | .one (.c x) :: l => (xhn f l).map fun r => .cap r x
 | _ :: _ => none
def xg7 (f : Fn) : List AR -> Option AC
 | [] => some (.fn f)
 | .one (.c x) :: l => (xg7 f l).map fun r => .fst r x
 | _ :: _ => none
def AC.fn? : AC -> Option (Fn × List AC × List AC)
 | .fn f => some (f, [], [])
 | .cap r x => r.fn?.map fun (f, a, l) => (f, a, x :: l)
 | .fst r x => r.fn?.map fun (f, a, l) => (f, x :: a, l)
 | _ => none
def xhp (x : Option AR) : Option (Option Int) :=
 match x with
 | none => some none
 | some r => (xd3 r).map some
def xkd (place : Nat -> Option (Nat × Nat)) (cells : List AC) : List (Nat × List AC) -> Option (List AC)
 | [] => some cells
 | (i, v) :: rest => match place i with
  | none => none
  | some (off, size) => bif Nat.beq v.length size && Nat.ble (off + v.length) cells.length then xkd place (xcm cells off v) rest else none
def xfv (ev : Ev) : List (Nat × Operand) -> Option (List (Nat × List AC))
 | [] => some []
 | (i, x) :: l => match ev x, xfv ev l with
  | .one a, some r => some ((i, a.cells) :: r)
  | _, _ => none
def xiB (P : Program) (t : TypeId) : Option (Nat -> Option (Nat × Nat)) :=
 match P.underlying t with
 | some (.struct fields) => (fields.toList.mapM (fun f => (P.info? f.type).map fun i => (f.offset, i.size))).map fun pl => (pl[·]?)
 | some (.array _ e) => (szOf P e).map fun s => fun i => some (i * s, s)
 | _ => none
def xlA (P : Program) (t : TypeId) (x y : AR) : Option Bool :=
 match P.underlying t, x, y with
 | some (.pointer _), .one (.c (.ptr _ _)), .one (.c (.lit (.pointer none))) => some false
 | some (.pointer _), .one (.c (.lit (.pointer none))), .one (.c (.ptr _ _)) => some false
 | some (.pointer e), .one (.c (.ptr i o)), .one (.c (.ptr j p)) => match szOf P e with
  | some (_ + 1) => bif Nat.beq i j then some (Nat.beq o p) else none
  | _ => none
 | some (.slice _), .one (.c (.sl ..)), .one (.c (.lit (.slice none _ _))) => some false
 | some (.slice _), .one (.c (.lit (.slice none _ _))), .one (.c (.sl ..)) => some false
 | some (.interface _), .one (.c (.ifc _ _)), .one (.c (.lit .nilIface)) => some false
 | some (.interface _), .one (.c (.lit .nilIface)), .one (.c (.ifc _ _)) => some false
 | some (.func _ _ _), .one (.c (.cap _ _)), .one (.c (.lit .nilFunc)) => some false
 | some (.func _ _ _), .one (.c (.fst _ _)), .one (.c (.lit .nilFunc)) => some false
 | _, _, _ => none
def xjW (fn : Func) : Bool := fn.body.isNone && (fn.name == "internal/abi.NoEscape" && fn.origin == "")
def xaP (P : Program) (ev : Ev) (o : Oper) : Option AR :=
 match o.op with
 | .move x | .assign x => some (ev x)
 | .pick c a b => match ev c with
  | .one (.c (.lit (.bool t))) => some (bif t then ev a else ev b)
  | _ => none
 | .nilCheck x => match ev x with
  | .one (.c (.ptr id off)) => some (.one (.c (.ptr id off)))
  | .one (.c (.cap r c)) => match (AC.cap r c).fn? with
   | some (.func _, _) => some (.one (.c (.cap r c)))
   | _ => none
  | .one (.c (.fn (.func f))) => some (.one (.c (.fn (.func f))))
  | .one (.c (.fst r c)) => match (AC.fst r c).fn? with
   | some (.func _, _) => some (.one (.c (.fst r c)))
   | _ => none
  | .one (.c (.ifc t c)) => some (.one (.c (.ifc t c)))
  | _ => none
 | .binOp op t x y _ => match scal P ev o with
  | some r => some r
  | none =>
   match op, xlA P t (ev x) (ev y) with
   | .eql, some b => some (.one (.c (.lit (.bool b))))
   | .neq, some b => some (.one (.c (.lit (.bool !b))))
   | _, _ => none
 | .makeInterface t x => match scal P ev o with
  | some r => some r
  | none => match P.underlying t, ev x with
   | some (.interface _), _ => none
   | some _, .one (.c c) => some (.one (.c (.ifc t c)))
   | _, _ => none
 | .makeFunc f first captured =>
  match first.toList with
  | [] => (xhn f (captured.toList.map ev).reverse).map fun c => .one (.c c)
  | l => match captured.toList with
   | [] => (xg7 f (l.map ev).reverse).map fun c => .one (.c c)
   | _ => none
 | .fieldAddr s x f => match xeT P s f, ev x with
  | some (off, _, n + 1), .one (.c (.ptr id o)) => some (.one (.c (.ptr id (o + off))))
  | _, _ => none
 | .field t x f => match P.underlying t, ev x with
  | some (.struct fields), .one (.agg cs) => match fields[f]? with
   | some x => (xd2 P x.type cs x.offset).map .one
   | none => none
  | _, _ => none
 | .indexAddr t x i => match xd3 (ev i) with
  | some (.ofNat k) => match P.underlying t, ev x with
   | some (.array n e), .one (.c (.ptr id off)) => match szOf P e with
    | some s => bif Nat.blt k n then some (.one (.c (.ptr id (off + k * s)))) else none
    | none => none
   | some (.slice e), .one (.c (.sl id off len _ es _)) => match szOf P e with
    | some s => bif Nat.blt k len && Nat.beq s es then some (.one (.c (.ptr id (off + k * s)))) else none
    | none => none
   | _, _ => none
  | _ => none
 | .index t x i => match scal P ev o with
  | some r => some r
  | none => match xd3 (ev i), P.underlying t, ev x with
   | some (.ofNat k), some (.array n e), .one (.agg cs) => match szOf P e with
    | some s => bif Nat.blt k n then (xd2 P e cs (k * s)).map .one else none
    | none => none
   | _, _, _ => none
 | .slice t x lo hi mx => match scal P ev o with
  | some r => some r
  | none => match P.underlying t, ev x, xhp (lo.map ev), xhp (hi.map ev), xhp (mx.map ev) with
   | some (.slice e), .one (.c (.sl id off len cap es ex)), some lo, some hi, some mx => match szOf P e with
    | some s => bif Nat.beq s es then
     let h := hi.getD len
     let l := lo.getD 0
     let m := mx.getD cap
     bif (decide (0 <= l) && (decide (l <= h) && (decide (h <= m) && decide (m <= cap)))) && (hi.isSome || !mx.isSome) then
      some (.one (.c (.sl id (off + l.toNat * s) (h - l).toNat (m - l).toNat s (mx.isSome || ex))))
     else none
     else none
    | none => none
   | some (.array n e), .one (.c (.ptr id off)), some lo, some hi, some mx => match szOf P e with
    | some s =>
     let h := hi.getD n
     let l := lo.getD 0
     let m := mx.getD n
     bif (decide (0 <= l) && (decide (l <= h) && (decide (h <= m) && decide (m <= n)))) && (hi.isSome || !mx.isSome) then
      some (.one (.c (.sl id (off + l.toNat * s) (h - l).toNat (m - l).toNat s true)))
     else none
    | none => none
   | _, _, _, _, _ => none
 | .typeAssert x xt t ok => match scal P ev o with
  | some r => some r
  | none => match P.underlying t, ev x with
   | some (.interface want), .one (.c (.ifc u c)) => match P.info? u with
    | some i => match Instr.missingMethod want i.methods with
     | none => some (bif ok then .tup [.c (.ifc u c), .c (.lit (.bool true))] else .one (.c (.ifc u c)))
     | some _ => none
    | none => none
   | some _, .one (.c (.ifc u c)) => bif Nat.beq u t then some (bif ok then .tup [.c c, .c (.lit (.bool true))] else .one (.c c)) else none
   | _, _ => none
 | .extract x i => match ev x with
  | .tup vs => (vs[i]?).map .one
  | _ => none
 | .call { callee := .builtin .len, args, argTypes } => match scal P ev o with
  | some r => some r
  | none => match argTypes[0]?, args[0]? with
   | some t, some x => match P.underlying t, ev x with
    | some (.slice _), .one (.c (.sl _ _ len _ _ _)) => some (.one (.c (.lit (.int .i64 len))))
    | some (.array n _), _ => some (.one (.c (.lit (.int .i64 n))))
    | some (.pointer a), .one (.c (.ptr _ _)) => match P.underlying a with
     | some (.array n _) => some (.one (.c (.lit (.int .i64 n))))
     | _ => none
    | _, _ => none
   | _, _ => none
 | .convert s d x => match scal P ev o with
  | some r => some r
  | none => none
 | .build t parts => match scal P ev o with
  | some r => some r
  | none => match zeroCells? P t, xiB P t, xfv ev parts.toList with
   | some z, some pl, some ps => (xkd pl z ps).map fun l => .one (.agg l)
   | _, _, _ => none
 | .call { callee := .builtin _, .. } | .unOp .. => scal P ev o
 | .call { callee := .value f, args, .. } => match ev f, args.toList with
  | .one (.c (.fn (.func g))), [x] => match P.funcs[g]? with
   | some fn => bif xjW fn then (match ev x with
    | .one (.c (.ptr id o)) => some (.one (.c (.ptr id o)))
    | _ => none) else none
   | none => none
  | _, _ => none
 | _ => none
end
end
end Go.Proofs.YtapmdhejgnplaaaGreat
