/-
  Several texts in one: Trees as data, and where they lie in memory. The parser's char, join. How many nodes a tree has: the program's Size, the document's Size. Are two trees the same: the program's Same (and slices.EqualFunc). Where a text stands in another: the borders' way, in plain Lean.
-/
import Derived.Test.YtinogeobkljngaaMg2
import Derived.Test.YtinogeobkljngaaMg4
import Derived.BigRegion
import Derived.Handy
import Derived.Deep.QuietTactic
import Derived.BigQuiet
import Derived.Test.YtinogeobkljngaaMg5
import Derived.Test.YtinogeobkljngaaMg1
section
namespace Go.Proofs.Ytinogeobkljngaa
open Go.RowKit
set_option linter.unusedVariables false
set_option linter.unusedSimpArgs false
set_option maxRecDepth 100000

/-- A row of trees: each one's sign, set, counts, kids; and those behind it. -/
inductive F where
  | nil : F
  | cons (op : Int) (set : List (Int × Int)) (mn mx : Int) (kids rest : F) : F
  deriving DecidableEq
structure T where
  op : Int
  set : List (Int × Int)
  mn : Int
  mx : Int
  kids : F
  deriving DecidableEq
def F.toL : F → List T
  | .nil => []
  | .cons a b c d k r => ⟨a, b, c, d, k⟩ :: r.toL
def F.ofL : List T → F
  | [] => .nil
  | t :: l => .cons t.op t.set t.mn t.mx t.kids (F.ofL l)
theorem F.of_to (f : F) : F.ofL f.toL = f := by
  induction f with
  | nil => rfl
  | cons a b c d k r ih1 ih2 => simp only [F.toL, F.ofL, ih2]
theorem F.to_of (l : List T) : (F.ofL l).toL = l := by
  induction l with
  | nil => rfl
  | cons t l ih => simp only [F.ofL, F.toL, ih]
theorem F.ofL_inj {a b : List T} (h : F.ofL a = F.ofL b) : a = b := by rw [← F.to_of a, ← F.to_of b, h]

/-- A node's own five cells. -/
structure NV where
  op : Int
  sv : Value
  mn : Int
  mx : Int
  kv : Value
def encN (v : NV) (j : Nat) : Value := if j = 0 then .int .i64 v.op else if j = 1 then v.sv else if j = 2 then .int .i64 v.mn else if j = 3 then .int .i64 v.mx else v.kv
def NV.val (v : NV) : Value := .agg #[.int .i64 v.op, v.sv, .int .i64 v.mn, .int .i64 v.mx, v.kv]
theorem encN_cells (v : NV) : (List.range 5).map (encN v) = [.int .i64 v.op, v.sv, .int .i64 v.mn, .int .i64 v.mx, v.kv] := rfl

/-- The row of trees f lies in w: these are its nodes' cells; all their own blocks are of P. -/
def FAt (w : World) (P : Nat → Prop) : F → List NV → Prop
  | .nil, vs => vs = []
  | .cons op set mn mx kids rest, vs => ∃ v vs', vs = v :: vs' ∧ (v.op = op ∧ v.mn = mn ∧ v.mx = mx ∧ in64 mn ∧ in64 mx) ∧ (RSl w v.sv set ∧ (∀ b, v.sv.ownBlock = some b → P b)) ∧
      (∃ ks, (SlOf 5 encN w v.kv ks ∧ (∀ b, v.kv.ownBlock = some b → P b)) ∧ FAt w P kids ks) ∧ FAt w P rest vs'
structure TAt (w : World) (P : Nat → Prop) (v : NV) (t : T) : Prop where
  op : v.op = t.op
  mn : v.mn = t.mn
  mx : v.mx = t.mx
  nn : in64 t.mn
  nx : in64 t.mx
  set : RSl w v.sv t.set
  sb : ∀ b, v.sv.ownBlock = some b → P b
  kids : ∃ ks, SlOf 5 encN w v.kv ks ∧ FAt w P t.kids ks
  kb : ∀ b, v.kv.ownBlock = some b → P b
theorem FAt.cons_iff {w : World} {P : Nat → Prop} {t : T} {l : List T} {vs : List NV} : FAt w P (F.ofL (t :: l)) vs ↔ ∃ v vs', vs = v :: vs' ∧ TAt w P v t ∧ FAt w P (F.ofL l) vs' := by
  constructor
  · rintro ⟨v, vs', rfl, ⟨h1, h2, h3, g1, g2⟩, ⟨h4, h5⟩, ⟨ks, ⟨h6, h7⟩, h8⟩, h9⟩
    exact ⟨v, vs', rfl, ⟨h1, h2, h3, g1, g2, h4, h5, ⟨ks, h6, h8⟩, h7⟩, h9⟩
  · rintro ⟨v, vs', rfl, ⟨h1, h2, h3, g1, g2, h4, h5, ⟨ks, h6, h8⟩, h7⟩, h9⟩
    exact ⟨v, vs', rfl, ⟨h1, h2, h3, g1, g2⟩, ⟨h4, h5⟩, ⟨ks, ⟨h6, h7⟩, h8⟩, h9⟩
theorem RSl.keeps {S : Nat → Prop} {w w' : World} {v : Value} {l : List (Int × Int)} (h : RSl w v l) (K : Keeps S w w') (hs : ∀ b, v.ownBlock = some b → ¬ S b) : RSl w' v l := ⟨h.1.keeps K hs, h.2⟩
theorem FAt.keepsTo {S P Q : Nat → Prop} {w w' : World} (K : Keeps S w w') (hs : ∀ b, P b → ¬ S b) (hq : ∀ b, P b → Q b) : ∀ {f : F} {vs : List NV}, FAt w P f vs → FAt w' Q f vs := by
  intro f
  induction f with
  | nil => intro vs h; exact h
  | cons a b c d k r ih1 ih2 =>
    rintro vs ⟨v, vs', rfl, h1, ⟨h4, h5⟩, ⟨ks, ⟨h6, h7⟩, h8⟩, h9⟩
    exact ⟨v, vs', rfl, h1, ⟨h4.keeps K (fun b hb => hs b (h5 b hb)), fun b hb => hq b (h5 b hb)⟩, ⟨ks, ⟨h6.keeps K (fun b hb => hs b (h7 b hb)), fun b hb => hq b (h7 b hb)⟩, ih1 h8⟩, ih2 h9⟩
theorem TAt.keepsTo {S P Q : Nat → Prop} {w w' : World} {v : NV} {t : T} (h : TAt w P v t) (K : Keeps S w w') (hs : ∀ b, P b → ¬ S b) (hq : ∀ b, P b → Q b) : TAt w' Q v t := by
  obtain ⟨ks, h6, h8⟩ := h.kids
  exact ⟨h.op, h.mn, h.mx, h.nn, h.nx, h.set.keeps K (fun b hb => hs b (h.sb b hb)), fun b hb => hq b (h.sb b hb), ⟨ks, h6.keeps K (fun b hb => hs b (h.kb b hb)), h8.keepsTo K hs hq⟩, fun b hb => hq b (h.kb b hb)⟩
theorem FAt.len {w : World} {P : Nat → Prop} : ∀ {l : List T} {vs : List NV}, FAt w P (F.ofL l) vs → vs.length = l.length := by
  intro l
  induction l with
  | nil => intro vs h; rw [show vs = [] from h]; rfl
  | cons t l ih => intro vs h; obtain ⟨v, vs', rfl, _, h2⟩ := FAt.cons_iff.1 h; simp [ih h2]
theorem FAt.snoc {w : World} {P : Nat → Prop} {t : T} {v : NV} : ∀ {l : List T} {vs : List NV}, FAt w P (F.ofL l) vs → TAt w P v t → FAt w P (F.ofL (l ++ [t])) (vs ++ [v]) := by
  intro l
  induction l with
  | nil => intro vs h ht; rw [show vs = [] from h]; exact FAt.cons_iff.2 ⟨v, [], rfl, ht, rfl⟩
  | cons u l ih =>
    intro vs h ht
    obtain ⟨v', vs', rfl, h1, h2⟩ := FAt.cons_iff.1 h
    exact FAt.cons_iff.2 ⟨v', vs' ++ [v], rfl, h1, ih h2 ht⟩
theorem FAt.get {w : World} {P : Nat → Prop} : ∀ {l : List T} {vs : List NV} {i : Nat} {t : T}, FAt w P (F.ofL l) vs → l[i]? = some t → ∃ v, vs[i]? = some v ∧ TAt w P v t := by
  intro l
  induction l with
  | nil => intro vs i t h hi; simp at hi
  | cons u l ih =>
    intro vs i t h hi
    obtain ⟨v', vs', rfl, h1, h2⟩ := FAt.cons_iff.1 h
    cases i with
    | zero => simp at hi; subst hi; exact ⟨v', rfl, h1⟩
    | succ i => simp at hi; obtain ⟨v, h3, h4⟩ := ih h2 hi; exact ⟨v, by simpa using h3, h4⟩

end Go.Proofs.Ytinogeobkljngaa
end
section
namespace Go.Proofs.Ytinogeobkljngaa
open Go.RowKit
set_option linter.unusedVariables false
set_option linter.unusedSimpArgs false
set_option maxRecDepth 100000

theorem zero64 : in64 0 := by unfold in64; decide
theorem info_node : (Try.prog.info? 31).map (fun i => (i.zero, i.size, i.bytes)) = some (some (.agg #[.int .i64 0, .slice none 0 0, .int .i64 0, .int .i64 0, .slice none 0 0]), 5, 72) := by kernel_rfl
def zeroT : T := ⟨0, [], 0, 0, .nil⟩
def charT (s : List (Int × Int)) : T := ⟨1, s, 0, 0, .nil⟩
def joinT (op : Int) (l : List T) : T :=
  match l with
  | [] => zeroT
  | [t] => t
  | l => ⟨op, [], 0, 0, F.ofL l⟩
theorem TAt.zero (w : World) (P : Nat → Prop) : TAt w P ⟨0, .slice none 0 0, 0, 0, .slice none 0 0⟩ zeroT :=
  ⟨rfl, rfl, rfl, by unfold in64; decide, by unfold in64; decide, ⟨SlOf.nil _ _ _, fun p hp => by cases hp⟩, fun b hb => by simp [Value.ownBlock] at hb, ⟨[], SlOf.nil _ _ _, rfl⟩, fun b hb => by simp [Value.ownBlock] at hb⟩
theorem RSl.form {w : World} {v : Value} {l : List (Int × Int)} (h : RSl w v l) : ∃ a cap, v = .slice a l.length cap := by
  obtain ⟨⟨a, cap, rfl, _⟩, _⟩ := h; exact ⟨a, cap, rfl⟩
theorem SlOf.form {α : Type} {k : Nat} {enc : α → Nat → Value} {w : World} {v : Value} {l : List α} (h : SlOf k enc w v l) : ∃ a cap, v = .slice a l.length cap := by
  obtain ⟨a, cap, rfl, _⟩ := h; exact ⟨a, cap, rfl⟩
end Go.Proofs.Ytinogeobkljngaa
end
section
namespace Go.Proofs.Ytinogeobkljngaa
open Go.RowKit
set_option linter.unusedVariables false
set_option linter.unusedSimpArgs false
set_option maxRecDepth 100000

def sizeF : F → Int
  | .nil => 0
  | .cons _ _ _ _ k r => 1 + sizeF k + sizeF r
theorem sizeF_nonneg (f : F) : 0 ≤ sizeF f := by
  induction f with
  | nil => simp [sizeF]
  | cons a b c d k r ih1 ih2 => simp only [sizeF]; omega
theorem sizeF_snoc (l : List T) (t : T) : sizeF (F.ofL (l ++ [t])) = sizeF (F.ofL l) + 1 + sizeF t.kids := by
  induction l with
  | nil => simp only [List.nil_append, F.ofL, sizeF]; omega
  | cons u l ih => simp only [List.cons_append, F.ofL, sizeF, ih]; omega
theorem sizeF_app (l m : List T) : sizeF (F.ofL (l ++ m)) = sizeF (F.ofL l) + sizeF (F.ofL m) := by
  induction l with
  | nil => simp [F.ofL, sizeF]
  | cons u l ih => simp only [List.cons_append, F.ofL, sizeF, ih]; omega
theorem sizeF_take (l : List T) (i : Nat) : sizeF (F.ofL (l.take i)) ≤ sizeF (F.ofL l) := by
  have h := sizeF_app (l.take i) (l.drop i)
  rw [List.take_append_drop] at h
  have := sizeF_nonneg (F.ofL (l.drop i))
  omega
theorem take_one {α : Type} {l : List α} {i : Nat} {x : α} (h : l[i]? = some x) : l.take (i + 1) = l.take i ++ [x] := by
  obtain ⟨hi, rfl⟩ := List.getElem?_eq_some_iff.1 h
  rw [List.take_add_one, List.getElem?_eq_getElem hi]; rfl
/-- Of all trees of a row. -/
def AllF (C : T → Prop) : F → Prop
  | .nil => True
  | .cons a b c d k r => C ⟨a, b, c, d, k⟩ ∧ AllF C r
theorem AllF.get {C : T → Prop} : ∀ {l : List T}, AllF C (F.ofL l) → ∀ {i : Nat} {t : T}, l[i]? = some t → C t := by
  intro l
  induction l with
  | nil => intro _ i t h; simp at h
  | cons u l ih =>
    intro h i t hi
    cases i with
    | zero => simp at hi; subst hi; exact h.1
    | succ i => simp at hi; exact ih h.2 hi
/-- Trees by induction: a node when all its kids are. -/
theorem T.ind {C : T → Prop} (h : ∀ (t : T), (∀ (i : Nat) (k : T), t.kids.toL[i]? = some k → C k) → C t) (t : T) : C t := by
  have key : ∀ f : F, AllF C f := by
    intro f
    induction f with
    | nil => trivial
    | cons a b c d k r ih1 ih2 =>
      refine ⟨h _ (fun i t hi => ?_), ih2⟩
      rw [← F.of_to k] at ih1
      exact ih1.get hi
  refine h t (fun i k hi => ?_)
  have := key t.kids
  rw [← F.of_to t.kids] at this
  exact this.get hi
/-- The node's kids, opened: a slice of as many as there are, each one's five cells. -/
theorem TAt.open {w : World} {P : Nat → Prop} {v : NV} {t : T} (h : TAt w P v t) : ∃ a1 n1 c1 a2 c2, v.sv = .slice a1 n1 c1 ∧ v.kv = .slice a2 t.kids.toL.length c2 ∧ t.kids.toL.length ≤ 4611686018427387904 ∧
    (0 < t.kids.toL.length → ∃ b off, a2 = some ⟨b, off, none⟩ ∧ ∀ i k, t.kids.toL[i]? = some k → ∃ u : NV, TAt w P u k ∧ (∃ d1 e1 f1, u.sv = .slice d1 e1 f1) ∧ (∃ d2 e2 f2, u.kv = .slice d2 e2 f2) ∧
      w.cell? ⟨b, off + i * 5, none⟩ = some (.int .i64 u.op) ∧ w.cell? ⟨b, off + i * 5 + 1, none⟩ = some u.sv ∧ w.cell? ⟨b, off + i * 5 + 2, none⟩ = some (.int .i64 u.mn) ∧ w.cell? ⟨b, off + i * 5 + 3, none⟩ = some (.int .i64 u.mx) ∧ w.cell? ⟨b, off + i * 5 + 4, none⟩ = some u.kv) := by
  obtain ⟨a1, c1, e1⟩ := h.set.form
  obtain ⟨ks, hk, hf⟩ := h.kids
  rw [← F.of_to t.kids] at hf
  have hl := hf.len
  obtain ⟨a2, c2, e2, hcap, hl2, hc⟩ := hk
  rw [hl] at e2 hl2 hc
  refine ⟨a1, _, c1, a2, c2, e1, e2, hl2, fun h0 => ?_⟩
  obtain ⟨b, off, rfl, hcc⟩ := hc h0
  refine ⟨b, off, rfl, fun i k hi => ?_⟩
  obtain ⟨u, hu, hut⟩ := hf.get hi
  obtain ⟨d1, f1, g1⟩ := hut.set.form
  obtain ⟨ks', hk', _⟩ := hut.kids
  obtain ⟨d2, f2, g2⟩ := hk'.form
  exact ⟨u, hut, ⟨_, _, _, g1⟩, ⟨_, _, _, g2⟩, hcc i u hu 0 (by omega), hcc i u hu 1 (by omega), hcc i u hu 2 (by omega), hcc i u hu 3 (by omega), hcc i u hu 4 (by omega)⟩

end Go.Proofs.Ytinogeobkljngaa
end
section
namespace Go.Proofs.Ytinogeobkljngaa
open Go.RowKit
set_option linter.unusedVariables false
set_option linter.unusedSimpArgs false
set_option maxRecDepth 100000

/-- A row of nodes that is read: of each its five cells. -/
def KRow (w : World) (P : Nat → Prop) (a : Option Addr) (L : List T) : Prop :=
  0 < L.length → ∃ b off, a = some ⟨b, off, none⟩ ∧ ∀ i k, L[i]? = some k → ∃ u : NV, TAt w P u k ∧ (∃ d1 e1 f1, u.sv = .slice d1 e1 f1) ∧ (∃ d2 e2 f2, u.kv = .slice d2 e2 f2) ∧
      w.cell? ⟨b, off + i * 5, none⟩ = some (.int .i64 u.op) ∧ w.cell? ⟨b, off + i * 5 + 1, none⟩ = some u.sv ∧ w.cell? ⟨b, off + i * 5 + 2, none⟩ = some (.int .i64 u.mn) ∧ w.cell? ⟨b, off + i * 5 + 3, none⟩ = some (.int .i64 u.mx) ∧ w.cell? ⟨b, off + i * 5 + 4, none⟩ = some u.kv
theorem TAt.krow {w : World} {P : Nat → Prop} {v : NV} {t : T} (h : TAt w P v t) : ∃ a1 n1 c1 a2 c2, v.sv = .slice a1 n1 c1 ∧ v.kv = .slice a2 t.kids.toL.length c2 ∧ t.kids.toL.length ≤ 4611686018427387904 ∧ KRow w P a2 t.kids.toL := h.open
theorem KRow.keep {w w' : World} {P : Nat → Prop} {a : Option Addr} {L : List T} (h : KRow w P a L) (K : Keeps (fun _ => False) w w') : KRow w' P a L := by
  intro h0
  obtain ⟨b, off, rfl, hc⟩ := h h0
  refine ⟨b, off, rfl, fun i k hi => ?_⟩
  obtain ⟨u, h1, h2, h3, x0, x1, x2, x3, x4⟩ := hc i k hi
  exact ⟨u, h1.keepsTo K (fun _ _ => id) (fun _ h => h), h2, h3, K.cell x0 id, K.cell x1 id, K.cell x2 id, K.cell x3 id, K.cell x4 id⟩
/-- One element, with its value written out. -/
theorem KRow.at {w : World} {P : Nat → Prop} {a : Option Addr} {L : List T} (h : KRow w P a L) {i : Nat} {k : T} (hi : L[i]? = some k) : ∃ b off uo d1 f1 g1 um ux d2 f2 g2, a = some ⟨b, off, none⟩ ∧
    TAt w P ⟨uo, .slice d1 f1 g1, um, ux, .slice d2 f2 g2⟩ k ∧ b < w.heap.size ∧
    w.cell? ⟨b, off + i * 5, none⟩ = some (.int .i64 uo) ∧ w.cell? ⟨b, off + i * 5 + 1, none⟩ = some (.slice d1 f1 g1) ∧ w.cell? ⟨b, off + i * 5 + 2, none⟩ = some (.int .i64 um) ∧ w.cell? ⟨b, off + i * 5 + 3, none⟩ = some (.int .i64 ux) ∧ w.cell? ⟨b, off + i * 5 + 4, none⟩ = some (.slice d2 f2 g2) := by
  have h0 : 0 < L.length := by
    have := (List.getElem?_eq_some_iff.1 hi).1; omega
  obtain ⟨b, off, rfl, hc⟩ := h h0
  obtain ⟨⟨uo, us, um, ux, uk⟩, h1, ⟨d1, f1, g1, q1⟩, ⟨d2, f2, g2, q2⟩, x0, x1, x2, x3, x4⟩ := hc i k hi
  obtain rfl := q1
  obtain rfl := q2
  exact ⟨b, off, uo, d1, f1, g1, um, ux, d2, f2, g2, rfl, h1, lt_of_cell x0, x0, x1, x2, x3, x4⟩

theorem T.eq_iff {t t' : T} : t = t' ↔ t.op = t'.op ∧ t.mn = t'.mn ∧ t.mx = t'.mx ∧ t.set = t'.set ∧ t.kids.toL = t'.kids.toL := by
  constructor
  · rintro rfl; exact ⟨rfl, rfl, rfl, rfl, rfl⟩
  · obtain ⟨a, b, c, d, e⟩ := t
    obtain ⟨a', b', c', d', e'⟩ := t'
    rintro ⟨rfl, rfl, rfl, rfl, h⟩
    have : e = e' := by have h1 := congrArg F.ofL h; rw [F.of_to, F.of_to] at h1; exact h1
    rw [this]
end Go.Proofs.Ytinogeobkljngaa
end
section
namespace Go.Proofs.Ytinogeobkljngaa
open Go.RowKit
set_option linter.unusedVariables false
set_option linter.unusedSimpArgs false

/-- The first k of p are what t has ahead of i, from f on. -/
def SufM (p t : Nat → UInt8) (f i k : Nat) : Prop := f + k ≤ i ∧ ∀ x, x < k → p x = t (i - k + x)
/-- The longest. -/
structure Lgst (m : Nat) (p t : Nat → UInt8) (f i k : Nat) : Prop where
  suf : SufM p t f i k
  le : k ≤ m
  max : ∀ k', SufM p t f i k' → k' ≤ m → k' ≤ k
/-- Within the search for it. -/
structure Inn (m : Nat) (p t : Nat → UInt8) (f i k : Nat) : Prop where
  suf : SufM p t f i k
  le : k ≤ m
  max : ∀ k', SufM p t f i k' → k' < m → p k' = t i → k' ≤ k
theorem Lgst.inn {m : Nat} {p t : Nat → UInt8} {f i k : Nat} (h : Lgst m p t f i k) : Inn m p t f i k := ⟨h.suf, h.le, fun k' a b _ => h.max k' a (by omega)⟩
theorem Lgst.start (m : Nat) (p t : Nat → UInt8) (f : Nat) : Lgst m p t f f 0 := ⟨⟨by omega, fun x hx => by omega⟩, by omega, fun k' h _ => by have := h.1; omega⟩
theorem Inn.step {m : Nat} {p t : Nat → UInt8} {f i k b : Nat} (h : Inn m p t f i k) (h0 : 0 < k) (hk : k = m ∨ p k ≠ t i) (hb : Lgst m p p 1 k b) : Inn m p t f i b := by
  have s1 := h.suf.1
  have b1 := hb.suf.1
  refine ⟨⟨by omega, fun x hx => ?_⟩, hb.le, fun k' hs hm he => ?_⟩
  · rw [hb.suf.2 x hx, h.suf.2 (k - b + x) (by omega)]; congr 1; omega
  · have h1 := h.max k' hs hm he
    have h2 : k' ≠ k := by
      rintro rfl
      rcases hk with rfl | hk
      · omega
      · exact hk he
    refine hb.max k' ⟨by omega, fun x hx => ?_⟩ (by omega)
    rw [hs.2 x hx, h.suf.2 (k - k' + x) (by omega)]; congr 1; omega
theorem Inn.hit {m : Nat} {p t : Nat → UInt8} {f i k : Nat} (h : Inn m p t f i k) (hm : k < m) (he : p k = t i) : Lgst m p t f (i + 1) (k + 1) := by
  have s1 := h.suf.1
  refine ⟨⟨by omega, fun x hx => ?_⟩, by omega, fun k' hs hk => ?_⟩
  · by_cases hx2 : x < k
    · rw [h.suf.2 x hx2]; congr 1; omega
    · obtain rfl : x = k := by omega
      rw [he]; congr 1; omega
  · rcases k' with _ | j
    · omega
    · have h1 := hs.1
      have := h.max j ⟨by omega, fun x hx => by rw [hs.2 x (by omega)]; congr 1; omega⟩ (by omega) (by rw [hs.2 j (by omega)]; congr 1; omega)
      omega
theorem Inn.miss {m : Nat} {p t : Nat → UInt8} {f i : Nat} (h : Inn m p t f i 0) (he : p 0 ≠ t i) : Lgst m p t f (i + 1) 0 := by
  have s1 := h.suf.1
  refine ⟨⟨by omega, fun x hx => by omega⟩, by omega, fun k' hs hk => ?_⟩
  rcases k' with _ | j
  · omega
  · have h1 := hs.1
    have h2 := h.max j ⟨by omega, fun x hx => by rw [hs.2 x (by omega)]; congr 1; omega⟩ (by omega) (by rw [hs.2 j (by omega)]; congr 1; omega)
    obtain rfl : j = 0 := by omega
    exact absurd (by rw [hs.2 0 (by omega)]; congr 1) he
/-- It stands at a. -/
def mtB (m n : Nat) (p t : Nat → UInt8) (a : Nat) : Bool := decide (a + m ≤ n) && (List.range m).all fun x => decide (p x = t (a + x))
theorem mtB_iff {m n : Nat} {p t : Nat → UInt8} {a : Nat} : mtB m n p t a = true ↔ a + m ≤ n ∧ ∀ x, x < m → p x = t (a + x) := by
  unfold mtB; simp [List.all_eq_true]
theorem Lgst.full {m n : Nat} {p t : Nat → UInt8} {f i k : Nat} (h : Lgst m p t f i k) (hi : i ≤ n) : k = m ↔ f + m ≤ i ∧ mtB m n p t (i - m) = true := by
  rw [mtB_iff]
  constructor
  · rintro rfl
    have := h.suf.1
    exact ⟨this, by omega, h.suf.2⟩
  · rintro ⟨h1, h2, h3⟩
    have := h.max m ⟨h1, h3⟩ (Nat.le_refl _)
    have := h.le
    omega
/-- The first place from f on. -/
def IdxAt (mt : Nat → Bool) (n f : Nat) (z : Int) : Prop :=
  (z = -1 ∧ ∀ a, f ≤ a → a ≤ n → mt a = false) ∨ ∃ a : Nat, z = a ∧ f ≤ a ∧ a ≤ n ∧ mt a = true ∧ ∀ b, f ≤ b → b < a → mt b = false
/-- At how many places ahead of c. -/
def cntM (mt : Nat → Bool) (c : Nat) : Nat := (List.range c).countP mt
theorem cntM_succ (mt : Nat → Bool) (c : Nat) : cntM mt (c + 1) = cntM mt c + if mt c = true then 1 else 0 := by
  unfold cntM; rw [List.range_succ, List.countP_append]; simp [List.countP_cons]
theorem cntM_le (mt : Nat → Bool) (c : Nat) : cntM mt c ≤ c := by unfold cntM; exact Nat.le_trans List.countP_le_length (by simp)
theorem cntM_skip (mt : Nat → Bool) (a : Nat) : ∀ d, (∀ b, a ≤ b → b < a + d → mt b = false) → cntM mt (a + d) = cntM mt a := by
  intro d
  induction d with
  | zero => intro _; rfl
  | succ d ih =>
    intro h
    rw [← Nat.add_assoc, cntM_succ, ih (fun b h1 h2 => h b h1 (by omega)), h (a + d) (by omega) (by omega)]; simp
theorem cntM_to (mt : Nat → Bool) {a b : Nat} (hab : a ≤ b) (h : ∀ c, a ≤ c → c < b → mt c = false) : cntM mt b = cntM mt a := by
  obtain ⟨d, rfl⟩ : ∃ d, b = a + d := ⟨b - a, by omega⟩
  exact cntM_skip mt a d h
theorem idx_none {mt : Nat → Bool} {n f : Nat} {z : Int} (h : IdxAt mt n f z) (hz : z < 0) : ∀ a, f ≤ a → a ≤ n → mt a = false := by
  rcases h with ⟨_, h⟩ | ⟨a, h, _⟩
  · exact h
  · omega
theorem idx_some {mt : Nat → Bool} {n f : Nat} {z : Int} (h : IdxAt mt n f z) (hz : 0 ≤ z) : ∃ a : Nat, z = a ∧ f ≤ a ∧ a ≤ n ∧ mt a = true ∧ ∀ b, f ≤ b → b < a → mt b = false := by
  rcases h with ⟨h, _⟩ | h
  · omega
  · exact h
/-- All places, where each is one (of one octet again and again). -/
theorem cntM_all {mt : Nat → Bool} {c : Nat} (h : ∀ a, a < c → mt a = true) : cntM mt c = c := by
  induction c with
  | zero => rfl
  | succ c ih => rw [cntM_succ, ih (fun a ha => h a (by omega)), h c (by omega)]; simp
theorem cntM_zeros {m n : Nat} {p t : Nat → UInt8} (h : ∀ x, p x = t 0) (h2 : ∀ x, t x = t 0) : cntM (mtB m n p t) (n + 1) = n + 1 - m := by
  by_cases hm : m ≤ n
  · rw [cntM_to (a := n + 1 - m) (mtB m n p t) (by omega) (fun c h1 h2 => by unfold mtB; simp; intro h3; omega)]
    exact cntM_all fun a ha => mtB_iff.2 ⟨by omega, fun x _ => by rw [h, h2 (a + x)]⟩
  · rw [cntM_to (a := 0) (mtB m n p t) (by omega) (fun c h1 h2 => by unfold mtB; simp; intro h3; omega)]
    have : n + 1 - m = 0 := by omega
    rw [this]; rfl
end Go.Proofs.Ytinogeobkljngaa
end
