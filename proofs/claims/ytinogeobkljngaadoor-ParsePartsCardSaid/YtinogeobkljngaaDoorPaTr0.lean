/-
  The parser's functions on trees as plain words (atom, counted, pieces, alternatives), and where they end.
-/
import Derived.Test.YtinogeobkljngaaDoorPaCls
import Derived.Test.YtinogeobkljngaaDoorPaCnt
import Derived.Test.YtinogeobkljngaaDoorPaJn
namespace Go.Proofs.YtinogeobkljngaaDoor
open Go.RowKit
set_option linter.unusedVariables false
set_option linter.unusedSimpArgs false
set_option maxRecDepth 100000

/-! ### The parser's functions on trees -/
noncomputable def atomP (alts : PS → T × PS) (rs : List Int) (s : PS) : T × PS :=
  if pk rs s = 40 then
    ((alts ⟨s.pos + 1, s.deep + 1, (nx rs s).bad || decide (10 < s.deep + 1)⟩).1,
      ⟨(wt rs 41 (alts ⟨s.pos + 1, s.deep + 1, (nx rs s).bad || decide (10 < s.deep + 1)⟩).2).pos, (wt rs 41 (alts ⟨s.pos + 1, s.deep + 1, (nx rs s).bad || decide (10 < s.deep + 1)⟩).2).deep - 1, (wt rs 41 (alts ⟨s.pos + 1, s.deep + 1, (nx rs s).bad || decide (10 < s.deep + 1)⟩).2).bad⟩)
  else if pk rs s = 94 then (⟨2, [], 0, 0, .nil⟩, nx rs s)
  else if pk rs s = 36 then (⟨3, [], 0, 0, .nil⟩, nx rs s)
  else if pk rs s = 46 then (charT [(0, 9), (11, 1114111)], nx rs s)
  else if pk rs s = 91 then (charT (clsL rs (nx rs s)), (clsR rs (nx rs s)).2)
  else if pk rs s = 92 then (charT (escL rs (nx rs s)), escS rs (nx rs s))
  else (charT [(pk rs s, pk rs s)], ⟨s.pos + 1, s.deep, (nx rs s).bad || amg sgL (pk rs s)⟩)
noncomputable def countedP (alts : PS → T × PS) (rs : List Int) (s : PS) : T × PS :=
  if (cntV rs (atomP alts rs s).2).2.2 then
    (⟨6, [], (cntV rs (atomP alts rs s).2).1, (cntV rs (atomP alts rs s).2).2.1, F.ofL [(atomP alts rs s).1]⟩,
      ⟨(cntS rs (atomP alts rs s).2).pos, (cntS rs (atomP alts rs s).2).deep, (cntS rs (atomP alts rs s).2).bad || (decide (pk rs s = 94) || decide (pk rs s = 36))⟩)
  else ((atomP alts rs s).1, cntS rs (atomP alts rs s).2)
/-- Does a piece stand here? -/
def isPc (r : Int) : Bool := decide (0 ≤ r) && (!decide (r = 124) && !decide (r = 41))
noncomputable def pcsGo (alts : PS → T × PS) (rs : List Int) : Nat → PS → List T → List T × PS
  | 0, s, l => (l, s)
  | n + 1, s, l => if isPc (pk rs s) then pcsGo alts rs n (countedP alts rs s).2 (l ++ [(countedP alts rs s).1]) else (l, s)
noncomputable def pcsR (alts : PS → T × PS) (rs : List Int) (s : PS) : List T × PS := pcsGo alts rs (rs.length + 9) s []
noncomputable def piecesP (alts : PS → T × PS) (rs : List Int) (s : PS) : T × PS := (joinT 4 (pcsR alts rs s).1, (pcsR alts rs s).2)
noncomputable def altGo (alts : PS → T × PS) (rs : List Int) : Nat → PS → List T → List T × PS
  | 0, s, l => (l, s)
  | n + 1, s, l => if pk rs s = 124 then altGo alts rs n (piecesP alts rs (tk rs 124 s)).2 (l ++ [(piecesP alts rs (tk rs 124 s)).1]) else (l, s)
noncomputable def altR (alts : PS → T × PS) (rs : List Int) (s : PS) : List T × PS := altGo alts rs (rs.length + 9) (piecesP alts rs s).2 [(piecesP alts rs s).1]
noncomputable def altsP (alts : PS → T × PS) (rs : List Int) (s : PS) : T × PS := (joinT 5 (altR alts rs s).1, (altR alts rs s).2)
noncomputable def alts (rs : List Int) : Nat → PS → T × PS
  | 0 => altsP (fun s => (zeroT, s)) rs
  | n + 1 => altsP (alts rs n) rs

/-! ### Where they end -/
/-- The place is within the text, or it has failed not far behind its end. -/
structure Inv (rs : List Int) (s : PS) : Prop where
  a : s.pos ≤ rs.length + 20
  b : s.bad = false → s.pos ≤ rs.length
/-- From s to s'. -/
structure Go1 (rs : List Int) (s s' : PS) : Prop where
  pos : s.pos ≤ s'.pos
  deep : s'.deep = s.deep
  bad : s.bad = true → s'.bad = true
  inv : Inv rs s → Inv rs s'
theorem Go1.refl (rs : List Int) (s : PS) : Go1 rs s s := ⟨Nat.le_refl _, rfl, id, id⟩
theorem Go1.trans {rs : List Int} {a b c : PS} (h : Go1 rs a b) (k : Go1 rs b c) : Go1 rs a c := ⟨Nat.le_trans h.pos k.pos, k.deep.trans h.deep, fun x => k.bad (h.bad x), fun x => k.inv (h.inv x)⟩
theorem tk_go (rs : List Int) (r : Int) (s : PS) (hr : 0 ≤ r) : Go1 rs s (tk rs r s) := by
  unfold tk
  split
  · rename_i h
    have := pk_room (rs := rs) (s := s) (by omega)
    exact ⟨by simp, rfl, fun h => h, fun hi => ⟨by simp; omega, fun _ => by simp; omega⟩⟩
  · exact Go1.refl _ _
theorem wt_go (rs : List Int) (r : Int) (s : PS) (hr : 0 ≤ r) : Go1 rs s (wt rs r s) := by
  unfold wt
  split
  · rename_i h
    have := pk_room (rs := rs) (s := s) (by omega)
    exact ⟨by simp, rfl, fun h => h, fun hi => ⟨by simp; omega, fun _ => by simp; omega⟩⟩
  · exact ⟨Nat.le_refl _, rfl, fun _ => rfl, fun hi => ⟨hi.a, fun h => by cases h⟩⟩
theorem numS_go (rs : List Int) (s : PS) : Go1 rs s (numS rs s) := by
  unfold numS
  split
  · rename_i h
    have h0 : 0 ≤ pk rs s := by simp [dig] at h; omega
    have := pk_room h0
    split
    · rename_i h2
      have h3 : 0 ≤ pk rs ⟨s.pos + 1, s.deep, s.bad⟩ := by simp [dig] at h2; omega
      have h4 := (pk_room h3).1
      simp only at h4
      exact ⟨by simp, rfl, fun h => by simp [h], fun hi => ⟨by simp; omega, fun _ => by simp; omega⟩⟩
    · exact ⟨by simp, rfl, fun h => h, fun hi => ⟨by simp; omega, fun _ => by simp; omega⟩⟩
  · exact ⟨Nat.le_refl _, rfl, fun _ => rfl, fun hi => ⟨hi.a, fun h => by cases h⟩⟩
theorem or_go (rs : List Int) (s : PS) (x : Bool) : Go1 rs s ⟨s.pos, s.deep, s.bad || x⟩ :=
  ⟨Nat.le_refl _, rfl, fun h => by simp [h], fun hi => ⟨hi.a, fun h => by simp at h; exact hi.b h.1⟩⟩
theorem one_go {rs : List Int} {s : PS} (h0 : 0 ≤ pk rs s) : Go1 rs s ⟨s.pos + 1, s.deep, s.bad⟩ := by
  have := pk_room h0
  exact ⟨by simp, rfl, fun h => h, fun hi => ⟨by simp; omega, fun _ => by simp; omega⟩⟩
theorem brS_go (rs : List Int) (s : PS) : Go1 rs s (brS rs s) := by
  unfold brS
  have h1 := numS_go rs s
  split
  · rename_i h
    have h2 : Go1 rs (numS rs s) (br3 rs s) := one_go (by omega)
    split
    · exact (h1.trans h2).trans (wt_go _ _ _ (by omega))
    · have h3 := numS_go rs (br3 rs s)
      exact (((h1.trans h2).trans h3).trans (or_go _ _ _)).trans (wt_go _ _ _ (by omega))
  · exact h1.trans (wt_go _ _ _ (by omega))
theorem cntS_go (rs : List Int) (s : PS) : Go1 rs s (cntS rs s) := by
  unfold cntS
  split
  · rename_i h; exact one_go (by omega)
  · split
    · rename_i h; exact (one_go (by omega)).trans (brS_go _ _)
    · exact Go1.refl _ _
theorem nx_ok {rs : List Int} {s : PS} (h : 0 ≤ pk rs s) : nx rs s = ⟨s.pos + 1, s.deep, s.bad⟩ := by
  unfold nx
  rw [show decide (pk rs s < 0) = false by simp; omega]
  simp
theorem clsGo_go (rs : List Int) : ∀ n f s l, (f = true → s.bad = false) → Inv rs s → s.pos ≤ (clsGo rs n f s l).2.pos ∧ (clsGo rs n f s l).2.deep = s.deep ∧ Inv rs (clsGo rs n f s l).2 := by
  intro n
  induction n with
  | zero => intro f s l _ hi; exact ⟨Nat.le_refl _, rfl, hi⟩
  | succ n ih =>
    intro f s l hf hi
    unfold clsGo
    split
    · have := tk_go rs 93 s (by omega)
      exact ⟨this.pos, this.deep, this.inv hi⟩
    · rename_i hc
      have hb : s.bad = false := by
        cases f with
        | true => exact hf rfl
        | false =>
          cases hs : s.bad with
          | false => rfl
          | true => exact absurd ⟨rfl, Or.inl hs⟩ hc
      have h1 := parS_pos rs s
      have h2 := hi.b hb
      have h3 := ih false (parS rs s) (l ++ parL rs s) (fun h => by cases h) ⟨by omega, fun hb => (parS_bad hb).1⟩
      exact ⟨by omega, h3.2.1.trans h1.2.2, h3.2.2⟩
theorem clsR_go {rs : List Int} {s : PS} (hb : s.bad = false) (hi : Inv rs s) : s.pos ≤ (clsR rs s).2.pos ∧ (clsR rs s).2.deep = s.deep ∧ Inv rs (clsR rs s).2 := by
  unfold clsR
  have h1 := tk_go rs 94 s (by omega)
  have h2 := clsGo_go rs (rs.length + 9) true (tk rs 94 s) [] (fun _ => by rw [(tk_pos rs 94 s (by omega)).2.2.1]; exact hb) (h1.inv hi)
  exact ⟨Nat.le_trans h1.pos h2.1, h2.2.1.trans h1.deep, h2.2.2⟩
theorem atomP_go {alts : PS → T × PS} {rs : List Int} (ha : ∀ s, Go1 rs s (alts s).2) {s : PS} (h : 0 ≤ pk rs s) : s.pos + 1 ≤ (atomP alts rs s).2.pos ∧ (atomP alts rs s).2.deep = s.deep ∧ Inv rs (atomP alts rs s).2 := by
  have hr := pk_room h
  have hn := nx_ok h
  have hi : Inv rs (nx rs s) := by rw [hn]; exact ⟨by simp; omega, fun _ => by simp; omega⟩
  have hnb : (nx rs s).bad = false := by rw [hn]; exact hr.2
  have hnp : (nx rs s).pos = s.pos + 1 := by rw [hn]
  have hnd : (nx rs s).deep = s.deep := by rw [hn]
  unfold atomP
  split
  · have h1 := ha ⟨s.pos + 1, s.deep + 1, (nx rs s).bad || decide (10 < s.deep + 1)⟩
    have h2 := wt_go rs 41 (alts ⟨s.pos + 1, s.deep + 1, (nx rs s).bad || decide (10 < s.deep + 1)⟩).2 (by omega)
    have h3 := h1.trans h2
    have h4 : Inv rs ⟨s.pos + 1, s.deep + 1, (nx rs s).bad || decide (10 < s.deep + 1)⟩ := ⟨by simp; omega, fun _ => by simp; omega⟩
    have h5 := h3.inv h4
    exact ⟨h3.pos, by simp only; rw [h3.deep]; simp, h5.a, h5.b⟩
  split
  · exact ⟨by rw [hnp]; exact Nat.le_refl _, hnd, hi⟩
  split
  · exact ⟨by rw [hnp]; exact Nat.le_refl _, hnd, hi⟩
  split
  · exact ⟨by rw [hnp]; exact Nat.le_refl _, hnd, hi⟩
  split
  · have := clsR_go hnb hi
    exact ⟨by rw [hnp] at this; exact this.1, this.2.1.trans hnd, this.2.2⟩
  split
  · have := escS_pos rs (nx rs s)
    refine ⟨by simp only; rw [this.1, hnp]; omega, this.2.trans hnd, by simp only; rw [this.1, hnp]; omega, fun hb => ?_⟩
    have hb := nx_bad (escS_bad hb)
    simp only; rw [this.1]; exact hb.1
  · exact ⟨by simp, rfl, by simp; omega, fun _ => by simp; omega⟩
theorem countedP_go {alts : PS → T × PS} {rs : List Int} (ha : ∀ s, Go1 rs s (alts s).2) {s : PS} (h : 0 ≤ pk rs s) : s.pos + 1 ≤ (countedP alts rs s).2.pos ∧ (countedP alts rs s).2.deep = s.deep ∧ Inv rs (countedP alts rs s).2 := by
  have h1 := atomP_go ha h
  have h2 := cntS_go rs (atomP alts rs s).2
  unfold countedP
  split
  · have h3 := h2.trans (or_go rs _ (decide (pk rs s = 94) || decide (pk rs s = 36)))
    exact ⟨Nat.le_trans h1.1 h3.pos, h3.deep.trans h1.2.1, h3.inv h1.2.2⟩
  · exact ⟨Nat.le_trans h1.1 h2.pos, h2.deep.trans h1.2.1, h2.inv h1.2.2⟩
theorem counted_go1 {alts : PS → T × PS} {rs : List Int} (ha : ∀ s, Go1 rs s (alts s).2) {s : PS} (h : 0 ≤ pk rs s) : Go1 rs s (countedP alts rs s).2 := by
  have h1 := countedP_go ha h
  exact ⟨by omega, h1.2.1, fun hb => (by rw [(pk_room h).2] at hb; cases hb), fun _ => h1.2.2⟩
theorem isPc_pos {r : Int} (h : isPc r = true) : 0 ≤ r := by simp [isPc] at h; exact h.1
theorem pcsGo_go {alts : PS → T × PS} {rs : List Int} (ha : ∀ s, Go1 rs s (alts s).2) : ∀ n s l, Go1 rs s (pcsGo alts rs n s l).2 := by
  intro n
  induction n with
  | zero => intro s l; exact Go1.refl _ _
  | succ n ih =>
    intro s l
    unfold pcsGo
    split
    · rename_i h
      exact (counted_go1 ha (isPc_pos h)).trans (ih _ _)
    · exact Go1.refl _ _
theorem piecesP_go {alts : PS → T × PS} {rs : List Int} (ha : ∀ s, Go1 rs s (alts s).2) (s : PS) : Go1 rs s (piecesP alts rs s).2 := pcsGo_go ha _ _ _
theorem altGo_go {alts : PS → T × PS} {rs : List Int} (ha : ∀ s, Go1 rs s (alts s).2) : ∀ n s l, Go1 rs s (altGo alts rs n s l).2 := by
  intro n
  induction n with
  | zero => intro s l; exact Go1.refl _ _
  | succ n ih =>
    intro s l
    unfold altGo
    split
    · exact ((tk_go rs 124 s (by omega)).trans (piecesP_go ha _)).trans (ih _ _)
    · exact Go1.refl _ _
theorem altsP_go {alts : PS → T × PS} {rs : List Int} (ha : ∀ s, Go1 rs s (alts s).2) (s : PS) : Go1 rs s (altsP alts rs s).2 := (piecesP_go ha s).trans (altGo_go ha _ _ _)
theorem alts_go (rs : List Int) : ∀ n s, Go1 rs s (alts rs n s).2 := by
  intro n
  induction n with
  | zero => exact fun s => altsP_go (fun s => Go1.refl _ _) s
  | succ n ih => exact fun s => altsP_go ih s
end Go.Proofs.YtinogeobkljngaaDoor
