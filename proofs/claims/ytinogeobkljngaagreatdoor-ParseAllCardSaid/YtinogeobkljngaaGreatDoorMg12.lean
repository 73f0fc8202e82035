/-
  Several texts in one: Trees as data, and where they lie in memory. The parser's char, join. The parser's functions on trees as plain words (atom, counted, pieces, alternatives), and where they end. How many nodes a tree has: the program's Size, the document's Size.
-/
import Derived.Test.YtinogeobkljngaaGreatDoorMg3
import Derived.Test.YtinogeobkljngaaGreatDoorMg6
import Derived.BigRegion
import Derived.Handy
import Derived.Test.YtinogeobkljngaaGreatDoorPaClsG
import Derived.Test.YtinogeobkljngaaGreatDoorMg5
import Derived.Deep.QuietTactic
import Derived.BigQuiet
section
namespace Go.Proofs.YtinogeobkljngaaGreatDoor
open Go.RowKit
set_option linter.unusedVariables false
set_option linter.unusedSimpArgs false
set_option maxRecDepth 100000

/-- A row of trees: each one's sign, set, counts, kids; and those behind it. -/
inductive F where
  | nil : F
  | cons (op : Int) (set : List (Int × Int)) (mn mx : Int) (kids rest : F) : F
  deriving DecidableEq
structure T where
  op : Int
  set : List (Int × Int)
  mn : Int
  mx : Int
  kids : F
  deriving DecidableEq
def F.toL : F → List T
  | .nil => []
  | .cons a b c d k r => ⟨a, b, c, d, k⟩ :: r.toL
def F.ofL : List T → F
  | [] => .nil
  | t :: l => .cons t.op t.set t.mn t.mx t.kids (F.ofL l)
theorem F.of_to (f : F) : F.ofL f.toL = f := by
  induction f with
  | nil => rfl
  | cons a b c d k r ih1 ih2 => simp only [F.toL, F.ofL, ih2]
theorem F.to_of (l : List T) : (F.ofL l).toL = l := by
  induction l with
  | nil => rfl
  | cons t l ih => simp only [F.ofL, F.toL, ih]
theorem F.ofL_inj {a b : List T} (h : F.ofL a = F.ofL b) : a = b := by rw [← F.to_of a, ← F.to_of b, h]

/-- A node's own five cells. -/
structure NV where
  op : Int
  sv : Value
  mn : Int
  mx : Int
  kv : Value
def encN (v : NV) (j : Nat) : Value := if j = 0 then .int .i64 v.op else if j = 1 then v.sv else if j = 2 then .int .i64 v.mn else if j = 3 then .int .i64 v.mx else v.kv
def NV.val (v : NV) : Value := .agg #[.int .i64 v.op, v.sv, .int .i64 v.mn, .int .i64 v.mx, v.kv]
theorem encN_cells (v : NV) : (List.range 5).map (encN v) = [.int .i64 v.op, v.sv, .int .i64 v.mn, .int .i64 v.mx, v.kv] := rfl

/-- The row of trees f lies in w: these are its nodes' cells; all their own blocks are of P. -/
def FAt (w : World) (P : Nat → Prop) : F → List NV → Prop
  | .nil, vs => vs = []
  | .cons op set mn mx kids rest, vs => ∃ v vs', vs = v :: vs' ∧ (v.op = op ∧ v.mn = mn ∧ v.mx = mx ∧ in64 mn ∧ in64 mx) ∧ (RSl w v.sv set ∧ (∀ b, v.sv.ownBlock = some b → P b)) ∧
      (∃ ks, (SlOf 5 encN w v.kv ks ∧ (∀ b, v.kv.ownBlock = some b → P b)) ∧ FAt w P kids ks) ∧ FAt w P rest vs'
structure TAt (w : World) (P : Nat → Prop) (v : NV) (t : T) : Prop where
  op : v.op = t.op
  mn : v.mn = t.mn
  mx : v.mx = t.mx
  nn : in64 t.mn
  nx : in64 t.mx
  set : RSl w v.sv t.set
  sb : ∀ b, v.sv.ownBlock = some b → P b
  kids : ∃ ks, SlOf 5 encN w v.kv ks ∧ FAt w P t.kids ks
  kb : ∀ b, v.kv.ownBlock = some b → P b
theorem FAt.cons_iff {w : World} {P : Nat → Prop} {t : T} {l : List T} {vs : List NV} : FAt w P (F.ofL (t :: l)) vs ↔ ∃ v vs', vs = v :: vs' ∧ TAt w P v t ∧ FAt w P (F.ofL l) vs' := by
  constructor
  · rintro ⟨v, vs', rfl, ⟨h1, h2, h3, g1, g2⟩, ⟨h4, h5⟩, ⟨ks, ⟨h6, h7⟩, h8⟩, h9⟩
    exact ⟨v, vs', rfl, ⟨h1, h2, h3, g1, g2, h4, h5, ⟨ks, h6, h8⟩, h7⟩, h9⟩
  · rintro ⟨v, vs', rfl, ⟨h1, h2, h3, g1, g2, h4, h5, ⟨ks, h6, h8⟩, h7⟩, h9⟩
    exact ⟨v, vs', rfl, ⟨h1, h2, h3, g1, g2⟩, ⟨h4, h5⟩, ⟨ks, ⟨h6, h7⟩, h8⟩, h9⟩
theorem RSl.keeps {S : Nat → Prop} {w w' : World} {v : Value} {l : List (Int × Int)} (h : RSl w v l) (K : Keeps S w w') (hs : ∀ b, v.ownBlock = some b → ¬ S b) : RSl w' v l := ⟨h.1.keeps K hs, h.2⟩
theorem FAt.keepsTo {S P Q : Nat → Prop} {w w' : World} (K : Keeps S w w') (hs : ∀ b, P b → ¬ S b) (hq : ∀ b, P b → Q b) : ∀ {f : F} {vs : List NV}, FAt w P f vs → FAt w' Q f vs := by
  intro f
  induction f with
  | nil => intro vs h; exact h
  | cons a b c d k r ih1 ih2 =>
    rintro vs ⟨v, vs', rfl, h1, ⟨h4, h5⟩, ⟨ks, ⟨h6, h7⟩, h8⟩, h9⟩
    exact ⟨v, vs', rfl, h1, ⟨h4.keeps K (fun b hb => hs b (h5 b hb)), fun b hb => hq b (h5 b hb)⟩, ⟨ks, ⟨h6.keeps K (fun b hb => hs b (h7 b hb)), fun b hb => hq b (h7 b hb)⟩, ih1 h8⟩, ih2 h9⟩
theorem TAt.keepsTo {S P Q : Nat → Prop} {w w' : World} {v : NV} {t : T} (h : TAt w P v t) (K : Keeps S w w') (hs : ∀ b, P b → ¬ S b) (hq : ∀ b, P b → Q b) : TAt w' Q v t := by
  obtain ⟨ks, h6, h8⟩ := h.kids
  exact ⟨h.op, h.mn, h.mx, h.nn, h.nx, h.set.keeps K (fun b hb => hs b (h.sb b hb)), fun b hb => hq b (h.sb b hb), ⟨ks, h6.keeps K (fun b hb => hs b (h.kb b hb)), h8.keepsTo K hs hq⟩, fun b hb => hq b (h.kb b hb)⟩
theorem FAt.len {w : World} {P : Nat → Prop} : ∀ {l : List T} {vs : List NV}, FAt w P (F.ofL l) vs → vs.length = l.length := by
  intro l
  induction l with
  | nil => intro vs h; rw [show vs = [] from h]; rfl
  | cons t l ih => intro vs h; obtain ⟨v, vs', rfl, _, h2⟩ := FAt.cons_iff.1 h; simp [ih h2]
theorem FAt.snoc {w : World} {P : Nat → Prop} {t : T} {v : NV} : ∀ {l : List T} {vs : List NV}, FAt w P (F.ofL l) vs → TAt w P v t → FAt w P (F.ofL (l ++ [t])) (vs ++ [v]) := by
  intro l
  induction l with
  | nil => intro vs h ht; rw [show vs = [] from h]; exact FAt.cons_iff.2 ⟨v, [], rfl, ht, rfl⟩
  | cons u l ih =>
    intro vs h ht
    obtain ⟨v', vs', rfl, h1, h2⟩ := FAt.cons_iff.1 h
    exact FAt.cons_iff.2 ⟨v', vs' ++ [v], rfl, h1, ih h2 ht⟩
theorem FAt.get {w : World} {P : Nat → Prop} : ∀ {l : List T} {vs : List NV} {i : Nat} {t : T}, FAt w P (F.ofL l) vs → l[i]? = some t → ∃ v, vs[i]? = some v ∧ TAt w P v t := by
  intro l
  induction l with
  | nil => intro vs i t h hi; simp at hi
  | cons u l ih =>
    intro vs i t h hi
    obtain ⟨v', vs', rfl, h1, h2⟩ := FAt.cons_iff.1 h
    cases i with
    | zero => simp at hi; subst hi; exact ⟨v', rfl, h1⟩
    | succ i => simp at hi; obtain ⟨v, h3, h4⟩ := ih h2 hi; exact ⟨v, by simpa using h3, h4⟩

end Go.Proofs.YtinogeobkljngaaGreatDoor
end
section
namespace Go.Proofs.YtinogeobkljngaaGreatDoor
open Go.RowKit
set_option linter.unusedVariables false
set_option linter.unusedSimpArgs false
set_option maxRecDepth 100000

theorem zero64 : in64 0 := by unfold in64; decide
theorem info_node : (Tryz.prog.info? 26).map (fun i => (i.zero, i.size, i.bytes)) = some (some (.agg #[.int .i64 0, .slice none 0 0, .int .i64 0, .int .i64 0, .slice none 0 0]), 5, 72) := by kernel_rfl
theorem char_any (a : Option Addr) (n cap : Nat) (w : World) : Calls Tryz.prog 61 #[.slice a n cap] w fun e w' => e = .returned (NV.val ⟨1, .slice a n cap, 0, 0, .slice none 0 0⟩) ∧ Keeps (fun _ => False) w w' := by
  go_enter Tryz.func61, Tryz.ntmps61
  go_wp2_with fail
  go_returns
  exact ⟨rfl, by (repeat' (with_reducible first | exact Keeps.refl _ _ | assumption | refine Keeps.drawN ?_ _ | refine Keeps.drew ?_ | refine Keeps.setCell ?_ ?_ _ | refine Keeps.alloc ?_ _)) <;> (first | exact Or.inr (Nat.le_refl _) | exact Or.inl rfl | exact Or.inl (Or.inl rfl) | exact Or.inl (Or.inr rfl) | (right; simp; done) | (right; simp; omega))⟩
def zeroT : T := ⟨0, [], 0, 0, .nil⟩
def charT (s : List (Int × Int)) : T := ⟨1, s, 0, 0, .nil⟩
def joinT (op : Int) (l : List T) : T :=
  match l with
  | [] => zeroT
  | [t] => t
  | l => ⟨op, [], 0, 0, F.ofL l⟩
theorem TAt.zero (w : World) (P : Nat → Prop) : TAt w P ⟨0, .slice none 0 0, 0, 0, .slice none 0 0⟩ zeroT :=
  ⟨rfl, rfl, rfl, by unfold in64; decide, by unfold in64; decide, ⟨SlOf.nil _ _ _, fun p hp => by cases hp⟩, fun b hb => by simp [Value.ownBlock] at hb, ⟨[], SlOf.nil _ _ _, rfl⟩, fun b hb => by simp [Value.ownBlock] at hb⟩
theorem RSl.form {w : World} {v : Value} {l : List (Int × Int)} (h : RSl w v l) : ∃ a cap, v = .slice a l.length cap := by
  obtain ⟨⟨a, cap, rfl, _⟩, _⟩ := h; exact ⟨a, cap, rfl⟩
theorem SlOf.form {α : Type} {k : Nat} {enc : α → Nat → Value} {w : World} {v : Value} {l : List α} (h : SlOf k enc w v l) : ∃ a cap, v = .slice a l.length cap := by
  obtain ⟨a, cap, rfl, _⟩ := h; exact ⟨a, cap, rfl⟩
set_option maxHeartbeats 1000000 in
theorem join_any (op : Int) (kv : Value) (vs : List NV) (l : List T) (P : Nat → Prop) (w : World) (hk : SlOf 5 encN w kv vs) (hf : FAt w P (F.ofL l) vs) (hb : ∀ b, kv.ownBlock = some b → P b) :
    Calls Tryz.prog 22 #[.int .i64 op, kv] w fun e w' => ∃ v : NV, e = .returned v.val ∧ TAt w' P v (joinT op l) ∧ Keeps (fun _ => False) w w' := by
  have hlen := hf.len
  obtain ⟨a, cap, rfl⟩ := hk.form
  rcases l with _ | ⟨t, _ | ⟨t2, l⟩⟩
  · obtain rfl : vs = [] := List.length_eq_zero_iff.1 hlen
    go_enter Tryz.func22, Tryz.ntmps22
    go_wp2_with fail
    go_returns
    exact ⟨⟨0, .slice none 0 0, 0, 0, .slice none 0 0⟩, rfl, TAt.zero _ _, by (repeat' (with_reducible first | exact Keeps.refl _ _ | assumption | refine Keeps.drawN ?_ _ | refine Keeps.drew ?_ | refine Keeps.setCell ?_ ?_ _ | refine Keeps.alloc ?_ _)) <;> (first | exact Or.inr (Nat.le_refl _) | exact Or.inl rfl | exact Or.inl (Or.inl rfl) | exact Or.inl (Or.inr rfl) | (right; simp; done) | (right; simp; omega))⟩
  · obtain ⟨v, rfl⟩ : ∃ v, vs = [v] := List.length_eq_one_iff.1 hlen
    obtain ⟨v', vs', he, ht, _⟩ := FAt.cons_iff.1 hf
    obtain ⟨rfl, rfl⟩ := List.cons.inj he
    obtain ⟨b, off, rfl, hc⟩ := (by obtain ⟨a', cap', he, _, _, hc⟩ := hk; obtain ⟨rfl, _, rfl⟩ := Value.slice.inj he; exact hc (by simp) : ∃ b off, a = some ⟨b, off, none⟩ ∧ ∀ i x, [v][i]? = some x → ∀ j, j < 5 → w.cell? ⟨b, off + i * 5 + j, none⟩ = some (encN x j))
    have x0 : w.cell? ⟨b, off, none⟩ = some (.int .i64 v.op) := by simpa [encN] using hc 0 v rfl 0 (by omega)
    have x1 : w.cell? ⟨b, off + 1, none⟩ = some v.sv := by simpa [encN] using hc 0 v rfl 1 (by omega)
    have x2 : w.cell? ⟨b, off + 2, none⟩ = some (.int .i64 v.mn) := by simpa [encN] using hc 0 v rfl 2 (by omega)
    have x3 : w.cell? ⟨b, off + 3, none⟩ = some (.int .i64 v.mx) := by simpa [encN] using hc 0 v rfl 3 (by omega)
    have x4 : w.cell? ⟨b, off + 4, none⟩ = some v.kv := by simpa [encN] using hc 0 v rfl 4 (by omega)
    clear hc
    have hlt : b < w.heap.size := lt_of_cell x0
    obtain ⟨vo, vsv, vm, vx, vk⟩ := v
    obtain ⟨a1, c1, e1⟩ := ht.set.form
    obtain ⟨ks, hks, _⟩ := ht.kids
    obtain ⟨a2, c2, e2⟩ := hks.form
    obtain rfl := e1
    obtain rfl := e2
    generalize ks.length = n2 at *
    generalize t.set.length = n1 at *
    have HT := Lib.hid ht
    clear ht hf hk hb hks
    go_enter Tryz.func22, Tryz.ntmps22
    go_wp2_with fail
    go_returns
    have K : Keeps (fun _ => False) w (w.alloc (.cells #[.int .i64 vo, .slice a1 n1 c1, .int .i64 vm, .int .i64 vx, .slice a2 n2 c2] 26)) := by (repeat' (with_reducible first | exact Keeps.refl _ _ | assumption | refine Keeps.drawN ?_ _ | refine Keeps.drew ?_ | refine Keeps.setCell ?_ ?_ _ | refine Keeps.alloc ?_ _)) <;> (first | exact Or.inr (Nat.le_refl _) | exact Or.inl rfl | exact Or.inl (Or.inl rfl) | exact Or.inl (Or.inr rfl) | (right; simp; done) | (right; simp; omega))
    exact ⟨_, rfl, HT.out.keepsTo K (fun _ _ => id) (fun _ h => h), K⟩
  · have hl2 : 2 ≤ vs.length := by rw [hlen]; simp
    have HK := Lib.hid hk
    have HF := Lib.hid hf
    have HB := Lib.hid hb
    have g1 : ((vs.length : Int) == 0) = false := beq_eq_false_iff_ne.2 (by omega)
    have g2 : ((vs.length : Int) == 1) = false := beq_eq_false_iff_ne.2 (by omega)
    clear hk hf hb hlen hl2
    generalize vs.length = N at *
    go_enter Tryz.func22, Tryz.ntmps22
    go_wp2_with fail
    go_returns
    have K : Keeps (fun _ => False) w (w.alloc (.cells #[.int .i64 op, .slice none 0 0, .int .i64 0, .int .i64 0, .slice a N cap] 26)) := by (repeat' (with_reducible first | exact Keeps.refl _ _ | assumption | refine Keeps.drawN ?_ _ | refine Keeps.drew ?_ | refine Keeps.setCell ?_ ?_ _ | refine Keeps.alloc ?_ _)) <;> (first | exact Or.inr (Nat.le_refl _) | exact Or.inl rfl | exact Or.inl (Or.inl rfl) | exact Or.inl (Or.inr rfl) | (right; simp; done) | (right; simp; omega))
    exact ⟨⟨op, .slice none 0 0, 0, 0, _⟩, rfl, ⟨rfl, rfl, rfl, zero64, zero64, ⟨SlOf.nil _ _ _, fun p hp => by cases hp⟩, fun b hb => by simp [Value.ownBlock] at hb, ⟨_, HK.out.keep K, HF.out.keepsTo K (fun _ _ => id) (fun _ h => h)⟩, HB.out⟩, K⟩
end Go.Proofs.YtinogeobkljngaaGreatDoor
end
section
namespace Go.Proofs.YtinogeobkljngaaGreatDoor
open Go.RowKit
set_option linter.unusedVariables false
set_option linter.unusedSimpArgs false
set_option maxRecDepth 100000

/-! ### The parser's functions on trees -/
noncomputable def atomP (alts : PS → T × PS) (rs : List Int) (s : PS) : T × PS :=
  if pk rs s = 40 then
    ((alts ⟨s.pos + 1, s.deep + 1, (nx rs s).bad || decide (10 < s.deep + 1)⟩).1,
      ⟨(wt rs 41 (alts ⟨s.pos + 1, s.deep + 1, (nx rs s).bad || decide (10 < s.deep + 1)⟩).2).pos, (wt rs 41 (alts ⟨s.pos + 1, s.deep + 1, (nx rs s).bad || decide (10 < s.deep + 1)⟩).2).deep - 1, (wt rs 41 (alts ⟨s.pos + 1, s.deep + 1, (nx rs s).bad || decide (10 < s.deep + 1)⟩).2).bad⟩)
  else if pk rs s = 94 then (⟨2, [], 0, 0, .nil⟩, nx rs s)
  else if pk rs s = 36 then (⟨3, [], 0, 0, .nil⟩, nx rs s)
  else if pk rs s = 46 then (charT [(0, 9), (11, 1114111)], nx rs s)
  else if pk rs s = 91 then (charT (clsL rs (nx rs s)), (clsR rs (nx rs s)).2)
  else if pk rs s = 92 then (charT (escL rs (nx rs s)), escS rs (nx rs s))
  else (charT [(pk rs s, pk rs s)], ⟨s.pos + 1, s.deep, (nx rs s).bad || amg sgL (pk rs s)⟩)
noncomputable def countedP (alts : PS → T × PS) (rs : List Int) (s : PS) : T × PS :=
  if (cntV rs (atomP alts rs s).2).2.2 then
    (⟨6, [], (cntV rs (atomP alts rs s).2).1, (cntV rs (atomP alts rs s).2).2.1, F.ofL [(atomP alts rs s).1]⟩,
      ⟨(cntS rs (atomP alts rs s).2).pos, (cntS rs (atomP alts rs s).2).deep, (cntS rs (atomP alts rs s).2).bad || (decide (pk rs s = 94) || decide (pk rs s = 36))⟩)
  else ((atomP alts rs s).1, cntS rs (atomP alts rs s).2)
/-- Does a piece stand here? -/
def isPc (r : Int) : Bool := decide (0 ≤ r) && (!decide (r = 124) && !decide (r = 41))
noncomputable def pcsGo (alts : PS → T × PS) (rs : List Int) : Nat → PS → List T → List T × PS
  | 0, s, l => (l, s)
  | n + 1, s, l => if isPc (pk rs s) then pcsGo alts rs n (countedP alts rs s).2 (l ++ [(countedP alts rs s).1]) else (l, s)
noncomputable def pcsR (alts : PS → T × PS) (rs : List Int) (s : PS) : List T × PS := pcsGo alts rs (rs.length + 9) s []
noncomputable def piecesP (alts : PS → T × PS) (rs : List Int) (s : PS) : T × PS := (joinT 4 (pcsR alts rs s).1, (pcsR alts rs s).2)
noncomputable def altGo (alts : PS → T × PS) (rs : List Int) : Nat → PS → List T → List T × PS
  | 0, s, l => (l, s)
  | n + 1, s, l => if pk rs s = 124 then altGo alts rs n (piecesP alts rs (tk rs 124 s)).2 (l ++ [(piecesP alts rs (tk rs 124 s)).1]) else (l, s)
noncomputable def altR (alts : PS → T × PS) (rs : List Int) (s : PS) : List T × PS := altGo alts rs (rs.length + 9) (piecesP alts rs s).2 [(piecesP alts rs s).1]
noncomputable def altsP (alts : PS → T × PS) (rs : List Int) (s : PS) : T × PS := (joinT 5 (altR alts rs s).1, (altR alts rs s).2)
noncomputable def alts (rs : List Int) : Nat → PS → T × PS
  | 0 => altsP (fun s => (zeroT, s)) rs
  | n + 1 => altsP (alts rs n) rs

/-! ### Where they end -/
/-- The place is within the text, or it has failed not far behind its end. -/
structure Inv (rs : List Int) (s : PS) : Prop where
  a : s.pos ≤ rs.length + 20
  b : s.bad = false → s.pos ≤ rs.length
/-- From s to s'. -/
structure Go1 (rs : List Int) (s s' : PS) : Prop where
  pos : s.pos ≤ s'.pos
  deep : s'.deep = s.deep
  bad : s.bad = true → s'.bad = true
  inv : Inv rs s → Inv rs s'
theorem Go1.refl (rs : List Int) (s : PS) : Go1 rs s s := ⟨Nat.le_refl _, rfl, id, id⟩
theorem Go1.trans {rs : List Int} {a b c : PS} (h : Go1 rs a b) (k : Go1 rs b c) : Go1 rs a c := ⟨Nat.le_trans h.pos k.pos, k.deep.trans h.deep, fun x => k.bad (h.bad x), fun x => k.inv (h.inv x)⟩
theorem tk_go (rs : List Int) (r : Int) (s : PS) (hr : 0 ≤ r) : Go1 rs s (tk rs r s) := by
  unfold tk
  split
  · rename_i h
    have := pk_room (rs := rs) (s := s) (by omega)
    exact ⟨by simp, rfl, fun h => h, fun hi => ⟨by simp; omega, fun _ => by simp; omega⟩⟩
  · exact Go1.refl _ _
theorem wt_go (rs : List Int) (r : Int) (s : PS) (hr : 0 ≤ r) : Go1 rs s (wt rs r s) := by
  unfold wt
  split
  · rename_i h
    have := pk_room (rs := rs) (s := s) (by omega)
    exact ⟨by simp, rfl, fun h => h, fun hi => ⟨by simp; omega, fun _ => by simp; omega⟩⟩
  · exact ⟨Nat.le_refl _, rfl, fun _ => rfl, fun hi => ⟨hi.a, fun h => by cases h⟩⟩
theorem numS_go (rs : List Int) (s : PS) : Go1 rs s (numS rs s) := by
  unfold numS
  split
  · rename_i h
    have h0 : 0 ≤ pk rs s := by simp [dig] at h; omega
    have := pk_room h0
    split
    · rename_i h2
      have h3 : 0 ≤ pk rs ⟨s.pos + 1, s.deep, s.bad⟩ := by simp [dig] at h2; omega
      have h4 := (pk_room h3).1
      simp only at h4
      exact ⟨by simp, rfl, fun h => by simp [h], fun hi => ⟨by simp; omega, fun _ => by simp; omega⟩⟩
    · exact ⟨by simp, rfl, fun h => h, fun hi => ⟨by simp; omega, fun _ => by simp; omega⟩⟩
  · exact ⟨Nat.le_refl _, rfl, fun _ => rfl, fun hi => ⟨hi.a, fun h => by cases h⟩⟩
theorem or_go (rs : List Int) (s : PS) (x : Bool) : Go1 rs s ⟨s.pos, s.deep, s.bad || x⟩ :=
  ⟨Nat.le_refl _, rfl, fun h => by simp [h], fun hi => ⟨hi.a, fun h => by simp at h; exact hi.b h.1⟩⟩
theorem one_go {rs : List Int} {s : PS} (h0 : 0 ≤ pk rs s) : Go1 rs s ⟨s.pos + 1, s.deep, s.bad⟩ := by
  have := pk_room h0
  exact ⟨by simp, rfl, fun h => h, fun hi => ⟨by simp; omega, fun _ => by simp; omega⟩⟩
theorem brS_go (rs : List Int) (s : PS) : Go1 rs s (brS rs s) := by
  unfold brS
  have h1 := numS_go rs s
  split
  · rename_i h
    have h2 : Go1 rs (numS rs s) (br3 rs s) := one_go (by omega)
    split
    · exact (h1.trans h2).trans (wt_go _ _ _ (by omega))
    · have h3 := numS_go rs (br3 rs s)
      exact (((h1.trans h2).trans h3).trans (or_go _ _ _)).trans (wt_go _ _ _ (by omega))
  · exact h1.trans (wt_go _ _ _ (by omega))
theorem cntS_go (rs : List Int) (s : PS) : Go1 rs s (cntS rs s) := by
  unfold cntS
  split
  · rename_i h; exact one_go (by omega)
  · split
    · rename_i h; exact (one_go (by omega)).trans (brS_go _ _)
    · exact Go1.refl _ _
theorem nx_ok {rs : List Int} {s : PS} (h : 0 ≤ pk rs s) : nx rs s = ⟨s.pos + 1, s.deep, s.bad⟩ := by
  unfold nx
  rw [show decide (pk rs s < 0) = false by simp; omega]
  simp
theorem clsGo_go (rs : List Int) : ∀ n f s l, (f = true → s.bad = false) → Inv rs s → s.pos ≤ (clsGo rs n f s l).2.pos ∧ (clsGo rs n f s l).2.deep = s.deep ∧ Inv rs (clsGo rs n f s l).2 := by
  intro n
  induction n with
  | zero => intro f s l _ hi; exact ⟨Nat.le_refl _, rfl, hi⟩
  | succ n ih =>
    intro f s l hf hi
    unfold clsGo
    split
    · have := tk_go rs 93 s (by omega)
      exact ⟨this.pos, this.deep, this.inv hi⟩
    · rename_i hc
      have hb : s.bad = false := by
        cases f with
        | true => exact hf rfl
        | false =>
          cases hs : s.bad with
          | false => rfl
          | true => exact absurd ⟨rfl, Or.inl hs⟩ hc
      have h1 := parS_pos rs s
      have h2 := hi.b hb
      have h3 := ih false (parS rs s) (l ++ parL rs s) (fun h => by cases h) ⟨by omega, fun hb => (parS_bad hb).1⟩
      exact ⟨by omega, h3.2.1.trans h1.2.2, h3.2.2⟩
theorem clsR_go {rs : List Int} {s : PS} (hb : s.bad = false) (hi : Inv rs s) : s.pos ≤ (clsR rs s).2.pos ∧ (clsR rs s).2.deep = s.deep ∧ Inv rs (clsR rs s).2 := by
  unfold clsR
  have h1 := tk_go rs 94 s (by omega)
  have h2 := clsGo_go rs (rs.length + 9) true (tk rs 94 s) [] (fun _ => by rw [(tk_pos rs 94 s (by omega)).2.2.1]; exact hb) (h1.inv hi)
  exact ⟨Nat.le_trans h1.pos h2.1, h2.2.1.trans h1.deep, h2.2.2⟩
theorem atomP_go {alts : PS → T × PS} {rs : List Int} (ha : ∀ s, Go1 rs s (alts s).2) {s : PS} (h : 0 ≤ pk rs s) : s.pos + 1 ≤ (atomP alts rs s).2.pos ∧ (atomP alts rs s).2.deep = s.deep ∧ Inv rs (atomP alts rs s).2 := by
  have hr := pk_room h
  have hn := nx_ok h
  have hi : Inv rs (nx rs s) := by rw [hn]; exact ⟨by simp; omega, fun _ => by simp; omega⟩
  have hnb : (nx rs s).bad = false := by rw [hn]; exact hr.2
  have hnp : (nx rs s).pos = s.pos + 1 := by rw [hn]
  have hnd : (nx rs s).deep = s.deep := by rw [hn]
  unfold atomP
  split
  · have h1 := ha ⟨s.pos + 1, s.deep + 1, (nx rs s).bad || decide (10 < s.deep + 1)⟩
    have h2 := wt_go rs 41 (alts ⟨s.pos + 1, s.deep + 1, (nx rs s).bad || decide (10 < s.deep + 1)⟩).2 (by omega)
    have h3 := h1.trans h2
    have h4 : Inv rs ⟨s.pos + 1, s.deep + 1, (nx rs s).bad || decide (10 < s.deep + 1)⟩ := ⟨by simp; omega, fun _ => by simp; omega⟩
    have h5 := h3.inv h4
    exact ⟨h3.pos, by simp only; rw [h3.deep]; simp, h5.a, h5.b⟩
  split
  · exact ⟨by rw [hnp]; exact Nat.le_refl _, hnd, hi⟩
  split
  · exact ⟨by rw [hnp]; exact Nat.le_refl _, hnd, hi⟩
  split
  · exact ⟨by rw [hnp]; exact Nat.le_refl _, hnd, hi⟩
  split
  · have := clsR_go hnb hi
    exact ⟨by rw [hnp] at this; exact this.1, this.2.1.trans hnd, this.2.2⟩
  split
  · have := escS_pos rs (nx rs s)
    refine ⟨by simp only; rw [this.1, hnp]; omega, this.2.trans hnd, by simp only; rw [this.1, hnp]; omega, fun hb => ?_⟩
    have hb := nx_bad (escS_bad hb)
    simp only; rw [this.1]; exact hb.1
  · exact ⟨by simp, rfl, by simp; omega, fun _ => by simp; omega⟩
theorem countedP_go {alts : PS → T × PS} {rs : List Int} (ha : ∀ s, Go1 rs s (alts s).2) {s : PS} (h : 0 ≤ pk rs s) : s.pos + 1 ≤ (countedP alts rs s).2.pos ∧ (countedP alts rs s).2.deep = s.deep ∧ Inv rs (countedP alts rs s).2 := by
  have h1 := atomP_go ha h
  have h2 := cntS_go rs (atomP alts rs s).2
  unfold countedP
  split
  · have h3 := h2.trans (or_go rs _ (decide (pk rs s = 94) || decide (pk rs s = 36)))
    exact ⟨Nat.le_trans h1.1 h3.pos, h3.deep.trans h1.2.1, h3.inv h1.2.2⟩
  · exact ⟨Nat.le_trans h1.1 h2.pos, h2.deep.trans h1.2.1, h2.inv h1.2.2⟩
theorem counted_go1 {alts : PS → T × PS} {rs : List Int} (ha : ∀ s, Go1 rs s (alts s).2) {s : PS} (h : 0 ≤ pk rs s) : Go1 rs s (countedP alts rs s).2 := by
  have h1 := countedP_go ha h
  exact ⟨by omega, h1.2.1, fun hb => (by rw [(pk_room h).2] at hb; cases hb), fun _ => h1.2.2⟩
theorem isPc_pos {r : Int} (h : isPc r = true) : 0 ≤ r := by simp [isPc] at h; exact h.1
theorem pcsGo_go {alts : PS → T × PS} {rs : List Int} (ha : ∀ s, Go1 rs s (alts s).2) : ∀ n s l, Go1 rs s (pcsGo alts rs n s l).2 := by
  intro n
  induction n with
  | zero => intro s l; exact Go1.refl _ _
  | succ n ih =>
    intro s l
    unfold pcsGo
    split
    · rename_i h
      exact (counted_go1 ha (isPc_pos h)).trans (ih _ _)
    · exact Go1.refl _ _
theorem piecesP_go {alts : PS → T × PS} {rs : List Int} (ha : ∀ s, Go1 rs s (alts s).2) (s : PS) : Go1 rs s (piecesP alts rs s).2 := pcsGo_go ha _ _ _
theorem altGo_go {alts : PS → T × PS} {rs : List Int} (ha : ∀ s, Go1 rs s (alts s).2) : ∀ n s l, Go1 rs s (altGo alts rs n s l).2 := by
  intro n
  induction n with
  | zero => intro s l; exact Go1.refl _ _
  | succ n ih =>
    intro s l
    unfold altGo
    split
    · exact ((tk_go rs 124 s (by omega)).trans (piecesP_go ha _)).trans (ih _ _)
    · exact Go1.refl _ _
theorem altsP_go {alts : PS → T × PS} {rs : List Int} (ha : ∀ s, Go1 rs s (alts s).2) (s : PS) : Go1 rs s (altsP alts rs s).2 := (piecesP_go ha s).trans (altGo_go ha _ _ _)
theorem alts_go (rs : List Int) : ∀ n s, Go1 rs s (alts rs n s).2 := by
  intro n
  induction n with
  | zero => exact fun s => altsP_go (fun s => Go1.refl _ _) s
  | succ n ih => exact fun s => altsP_go ih s
end Go.Proofs.YtinogeobkljngaaGreatDoor
end
section
namespace Go.Proofs.YtinogeobkljngaaGreatDoor
open Go.RowKit
set_option linter.unusedVariables false
set_option linter.unusedSimpArgs false
set_option maxRecDepth 100000

def sizeF : F → Int
  | .nil => 0
  | .cons _ _ _ _ k r => 1 + sizeF k + sizeF r
theorem sizeF_nonneg (f : F) : 0 ≤ sizeF f := by
  induction f with
  | nil => simp [sizeF]
  | cons a b c d k r ih1 ih2 => simp only [sizeF]; omega
theorem sizeF_snoc (l : List T) (t : T) : sizeF (F.ofL (l ++ [t])) = sizeF (F.ofL l) + 1 + sizeF t.kids := by
  induction l with
  | nil => simp only [List.nil_append, F.ofL, sizeF]; omega
  | cons u l ih => simp only [List.cons_append, F.ofL, sizeF, ih]; omega
theorem sizeF_app (l m : List T) : sizeF (F.ofL (l ++ m)) = sizeF (F.ofL l) + sizeF (F.ofL m) := by
  induction l with
  | nil => simp [F.ofL, sizeF]
  | cons u l ih => simp only [List.cons_append, F.ofL, sizeF, ih]; omega
theorem sizeF_take (l : List T) (i : Nat) : sizeF (F.ofL (l.take i)) ≤ sizeF (F.ofL l) := by
  have h := sizeF_app (l.take i) (l.drop i)
  rw [List.take_append_drop] at h
  have := sizeF_nonneg (F.ofL (l.drop i))
  omega
theorem take_one {α : Type} {l : List α} {i : Nat} {x : α} (h : l[i]? = some x) : l.take (i + 1) = l.take i ++ [x] := by
  obtain ⟨hi, rfl⟩ := List.getElem?_eq_some_iff.1 h
  rw [List.take_add_one, List.getElem?_eq_getElem hi]; rfl
/-- Of all trees of a row. -/
def AllF (C : T → Prop) : F → Prop
  | .nil => True
  | .cons a b c d k r => C ⟨a, b, c, d, k⟩ ∧ AllF C r
theorem AllF.get {C : T → Prop} : ∀ {l : List T}, AllF C (F.ofL l) → ∀ {i : Nat} {t : T}, l[i]? = some t → C t := by
  intro l
  induction l with
  | nil => intro _ i t h; simp at h
  | cons u l ih =>
    intro h i t hi
    cases i with
    | zero => simp at hi; subst hi; exact h.1
    | succ i => simp at hi; exact ih h.2 hi
/-- Trees by induction: a node when all its kids are. -/
theorem T.ind {C : T → Prop} (h : ∀ (t : T), (∀ (i : Nat) (k : T), t.kids.toL[i]? = some k → C k) → C t) (t : T) : C t := by
  have key : ∀ f : F, AllF C f := by
    intro f
    induction f with
    | nil => trivial
    | cons a b c d k r ih1 ih2 =>
      refine ⟨h _ (fun i t hi => ?_), ih2⟩
      rw [← F.of_to k] at ih1
      exact ih1.get hi
  refine h t (fun i k hi => ?_)
  have := key t.kids
  rw [← F.of_to t.kids] at this
  exact this.get hi
/-- The node's kids, opened: a slice of as many as there are, each one's five cells. -/
theorem TAt.open {w : World} {P : Nat → Prop} {v : NV} {t : T} (h : TAt w P v t) : ∃ a1 n1 c1 a2 c2, v.sv = .slice a1 n1 c1 ∧ v.kv = .slice a2 t.kids.toL.length c2 ∧ t.kids.toL.length ≤ 4611686018427387904 ∧
    (0 < t.kids.toL.length → ∃ b off, a2 = some ⟨b, off, none⟩ ∧ ∀ i k, t.kids.toL[i]? = some k → ∃ u : NV, TAt w P u k ∧ (∃ d1 e1 f1, u.sv = .slice d1 e1 f1) ∧ (∃ d2 e2 f2, u.kv = .slice d2 e2 f2) ∧
      w.cell? ⟨b, off + i * 5, none⟩ = some (.int .i64 u.op) ∧ w.cell? ⟨b, off + i * 5 + 1, none⟩ = some u.sv ∧ w.cell? ⟨b, off + i * 5 + 2, none⟩ = some (.int .i64 u.mn) ∧ w.cell? ⟨b, off + i * 5 + 3, none⟩ = some (.int .i64 u.mx) ∧ w.cell? ⟨b, off + i * 5 + 4, none⟩ = some u.kv) := by
  obtain ⟨a1, c1, e1⟩ := h.set.form
  obtain ⟨ks, hk, hf⟩ := h.kids
  rw [← F.of_to t.kids] at hf
  have hl := hf.len
  obtain ⟨a2, c2, e2, hcap, hl2, hc⟩ := hk
  rw [hl] at e2 hl2 hc
  refine ⟨a1, _, c1, a2, c2, e1, e2, hl2, fun h0 => ?_⟩
  obtain ⟨b, off, rfl, hcc⟩ := hc h0
  refine ⟨b, off, rfl, fun i k hi => ?_⟩
  obtain ⟨u, hu, hut⟩ := hf.get hi
  obtain ⟨d1, f1, g1⟩ := hut.set.form
  obtain ⟨ks', hk', _⟩ := hut.kids
  obtain ⟨d2, f2, g2⟩ := hk'.form
  exact ⟨u, hut, ⟨_, _, _, g1⟩, ⟨_, _, _, g2⟩, hcc i u hu 0 (by omega), hcc i u hu 1 (by omega), hcc i u hu 2 (by omega), hcc i u hu 3 (by omega), hcc i u hu 4 (by omega)⟩

end Go.Proofs.YtinogeobkljngaaGreatDoor
end
