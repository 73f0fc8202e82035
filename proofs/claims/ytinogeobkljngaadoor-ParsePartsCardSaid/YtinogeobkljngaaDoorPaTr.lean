/-
  Trees as data, and where they lie in memory.
-/
import Derived.Test.YtinogeobkljngaaDoorPaSt
import Derived.Test.YtinogeobkljngaaDoorSetRef
namespace Go.Proofs.YtinogeobkljngaaDoor
open Go.RowKit
set_option linter.unusedVariables false
set_option linter.unusedSimpArgs false
set_option maxRecDepth 100000

/-- A row of trees: each one's sign, set, counts, kids; and those behind it. -/
inductive F where
  | nil : F
  | cons (op : Int) (set : List (Int × Int)) (mn mx : Int) (kids rest : F) : F
  deriving DecidableEq
structure T where
  op : Int
  set : List (Int × Int)
  mn : Int
  mx : Int
  kids : F
  deriving DecidableEq
def F.toL : F → List T
  | .nil => []
  | .cons a b c d k r => ⟨a, b, c, d, k⟩ :: r.toL
def F.ofL : List T → F
  | [] => .nil
  | t :: l => .cons t.op t.set t.mn t.mx t.kids (F.ofL l)
theorem F.of_to (f : F) : F.ofL f.toL = f := by
  induction f with
  | nil => rfl
  | cons a b c d k r ih1 ih2 => simp only [F.toL, F.ofL, ih2]
theorem F.to_of (l : List T) : (F.ofL l).toL = l := by
  induction l with
  | nil => rfl
  | cons t l ih => simp only [F.ofL, F.toL, ih]
theorem F.ofL_inj {a b : List T} (h : F.ofL a = F.ofL b) : a = b := by rw [← F.to_of a, ← F.to_of b, h]

/-- A node's own five cells. -/
structure NV where
  op : Int
  sv : Value
  mn : Int
  mx : Int
  kv : Value
def encN (v : NV) (j : Nat) : Value := if j = 0 then .int .i64 v.op else if j = 1 then v.sv else if j = 2 then .int .i64 v.mn else if j = 3 then .int .i64 v.mx else v.kv
def NV.val (v : NV) : Value := .agg #[.int .i64 v.op, v.sv, .int .i64 v.mn, .int .i64 v.mx, v.kv]
theorem encN_cells (v : NV) : (List.range 5).map (encN v) = [.int .i64 v.op, v.sv, .int .i64 v.mn, .int .i64 v.mx, v.kv] := rfl

/-- The row of trees f lies in w: these are its nodes' cells; all their own blocks are of P. -/
def FAt (w : World) (P : Nat → Prop) : F → List NV → Prop
  | .nil, vs => vs = []
  | .cons op set mn mx kids rest, vs => ∃ v vs', vs = v :: vs' ∧ (v.op = op ∧ v.mn = mn ∧ v.mx = mx ∧ in64 mn ∧ in64 mx) ∧ (RSl w v.sv set ∧ (∀ b, v.sv.ownBlock = some b → P b)) ∧
      (∃ ks, (SlOf 5 encN w v.kv ks ∧ (∀ b, v.kv.ownBlock = some b → P b)) ∧ FAt w P kids ks) ∧ FAt w P rest vs'
structure TAt (w : World) (P : Nat → Prop) (v : NV) (t : T) : Prop where
  op : v.op = t.op
  mn : v.mn = t.mn
  mx : v.mx = t.mx
  nn : in64 t.mn
  nx : in64 t.mx
  set : RSl w v.sv t.set
  sb : ∀ b, v.sv.ownBlock = some b → P b
  kids : ∃ ks, SlOf 5 encN w v.kv ks ∧ FAt w P t.kids ks
  kb : ∀ b, v.kv.ownBlock = some b → P b
theorem FAt.cons_iff {w : World} {P : Nat → Prop} {t : T} {l : List T} {vs : List NV} : FAt w P (F.ofL (t :: l)) vs ↔ ∃ v vs', vs = v :: vs' ∧ TAt w P v t ∧ FAt w P (F.ofL l) vs' := by
  constructor
  · rintro ⟨v, vs', rfl, ⟨h1, h2, h3, g1, g2⟩, ⟨h4, h5⟩, ⟨ks, ⟨h6, h7⟩, h8⟩, h9⟩
    exact ⟨v, vs', rfl, ⟨h1, h2, h3, g1, g2, h4, h5, ⟨ks, h6, h8⟩, h7⟩, h9⟩
  · rintro ⟨v, vs', rfl, ⟨h1, h2, h3, g1, g2, h4, h5, ⟨ks, h6, h8⟩, h7⟩, h9⟩
    exact ⟨v, vs', rfl, ⟨h1, h2, h3, g1, g2⟩, ⟨h4, h5⟩, ⟨ks, ⟨h6, h7⟩, h8⟩, h9⟩
theorem RSl.keeps {S : Nat → Prop} {w w' : World} {v : Value} {l : List (Int × Int)} (h : RSl w v l) (K : Keeps S w w') (hs : ∀ b, v.ownBlock = some b → ¬ S b) : RSl w' v l := ⟨h.1.keeps K hs, h.2⟩
theorem FAt.keepsTo {S P Q : Nat → Prop} {w w' : World} (K : Keeps S w w') (hs : ∀ b, P b → ¬ S b) (hq : ∀ b, P b → Q b) : ∀ {f : F} {vs : List NV}, FAt w P f vs → FAt w' Q f vs := by
  intro f
  induction f with
  | nil => intro vs h; exact h
  | cons a b c d k r ih1 ih2 =>
    rintro vs ⟨v, vs', rfl, h1, ⟨h4, h5⟩, ⟨ks, ⟨h6, h7⟩, h8⟩, h9⟩
    exact ⟨v, vs', rfl, h1, ⟨h4.keeps K (fun b hb => hs b (h5 b hb)), fun b hb => hq b (h5 b hb)⟩, ⟨ks, ⟨h6.keeps K (fun b hb => hs b (h7 b hb)), fun b hb => hq b (h7 b hb)⟩, ih1 h8⟩, ih2 h9⟩
theorem TAt.keepsTo {S P Q : Nat → Prop} {w w' : World} {v : NV} {t : T} (h : TAt w P v t) (K : Keeps S w w') (hs : ∀ b, P b → ¬ S b) (hq : ∀ b, P b → Q b) : TAt w' Q v t := by
  obtain ⟨ks, h6, h8⟩ := h.kids
  exact ⟨h.op, h.mn, h.mx, h.nn, h.nx, h.set.keeps K (fun b hb => hs b (h.sb b hb)), fun b hb => hq b (h.sb b hb), ⟨ks, h6.keeps K (fun b hb => hs b (h.kb b hb)), h8.keepsTo K hs hq⟩, fun b hb => hq b (h.kb b hb)⟩
theorem FAt.len {w : World} {P : Nat → Prop} : ∀ {l : List T} {vs : List NV}, FAt w P (F.ofL l) vs → vs.length = l.length := by
  intro l
  induction l with
  | nil => intro vs h; rw [show vs = [] from h]; rfl
  | cons t l ih => intro vs h; obtain ⟨v, vs', rfl, _, h2⟩ := FAt.cons_iff.1 h; simp [ih h2]
theorem FAt.snoc {w : World} {P : Nat → Prop} {t : T} {v : NV} : ∀ {l : List T} {vs : List NV}, FAt w P (F.ofL l) vs → TAt w P v t → FAt w P (F.ofL (l ++ [t])) (vs ++ [v]) := by
  intro l
  induction l with
  | nil => intro vs h ht; rw [show vs = [] from h]; exact FAt.cons_iff.2 ⟨v, [], rfl, ht, rfl⟩
  | cons u l ih =>
    intro vs h ht
    obtain ⟨v', vs', rfl, h1, h2⟩ := FAt.cons_iff.1 h
    exact FAt.cons_iff.2 ⟨v', vs' ++ [v], rfl, h1, ih h2 ht⟩
theorem FAt.get {w : World} {P : Nat → Prop} : ∀ {l : List T} {vs : List NV} {i : Nat} {t : T}, FAt w P (F.ofL l) vs → l[i]? = some t → ∃ v, vs[i]? = some v ∧ TAt w P v t := by
  intro l
  induction l with
  | nil => intro vs i t h hi; simp at hi
  | cons u l ih =>
    intro vs i t h hi
    obtain ⟨v', vs', rfl, h1, h2⟩ := FAt.cons_iff.1 h
    cases i with
    | zero => simp at hi; subst hi; exact ⟨v', rfl, h1⟩
    | succ i => simp at hi; obtain ⟨v, h3, h4⟩ := ih h2 hi; exact ⟨v, by simpa using h3, h4⟩

end Go.Proofs.YtinogeobkljngaaDoor
