/-
  Several texts in one: The parser's functions on trees as plain words (atom, counted, pieces, alternatives), and where they end. The parser at texts of one piece: plain Lean.
-/
import Derived.Test.YtpcbfmbpbegjgaaGreatPaClsG
import Derived.Test.YtpcbfmbpbegjgaaGreatMg3
import Derived.Test.YtpcbfmbpbegjgaaGreatMg9
import Derived.Test.YtpcbfmbpbegjgaaGreatMg2
section
namespace Go.Proofs.YtpcbfmbpbegjgaaGreat
open Go.RowKit
set_option linter.unusedVariables false
set_option linter.unusedSimpArgs false
set_option maxRecDepth 100000

/-! ### The parser's functions on trees -/
noncomputable def atomP (alts : PS → T × PS) (rs : List Int) (s : PS) : T × PS :=
  if pk rs s = 40 then
    ((alts ⟨s.pos + 1, s.deep + 1, (nx rs s).bad || decide (10 < s.deep + 1)⟩).1,
      ⟨(wt rs 41 (alts ⟨s.pos + 1, s.deep + 1, (nx rs s).bad || decide (10 < s.deep + 1)⟩).2).pos, (wt rs 41 (alts ⟨s.pos + 1, s.deep + 1, (nx rs s).bad || decide (10 < s.deep + 1)⟩).2).deep - 1, (wt rs 41 (alts ⟨s.pos + 1, s.deep + 1, (nx rs s).bad || decide (10 < s.deep + 1)⟩).2).bad⟩)
  else if pk rs s = 94 then (⟨2, [], 0, 0, .nil⟩, nx rs s)
  else if pk rs s = 36 then (⟨3, [], 0, 0, .nil⟩, nx rs s)
  else if pk rs s = 46 then (charT [(0, 9), (11, 1114111)], nx rs s)
  else if pk rs s = 91 then (charT (clsL rs (nx rs s)), (clsR rs (nx rs s)).2)
  else if pk rs s = 92 then (charT (escL rs (nx rs s)), escS rs (nx rs s))
  else (charT [(pk rs s, pk rs s)], ⟨s.pos + 1, s.deep, (nx rs s).bad || amg sgL (pk rs s)⟩)
noncomputable def countedP (alts : PS → T × PS) (rs : List Int) (s : PS) : T × PS :=
  if (cntV rs (atomP alts rs s).2).2.2 then
    (⟨6, [], (cntV rs (atomP alts rs s).2).1, (cntV rs (atomP alts rs s).2).2.1, F.ofL [(atomP alts rs s).1]⟩,
      ⟨(cntS rs (atomP alts rs s).2).pos, (cntS rs (atomP alts rs s).2).deep, (cntS rs (atomP alts rs s).2).bad || (decide (pk rs s = 94) || decide (pk rs s = 36))⟩)
  else ((atomP alts rs s).1, cntS rs (atomP alts rs s).2)
/-- Does a piece stand here? -/
def isPc (r : Int) : Bool := decide (0 ≤ r) && (!decide (r = 124) && !decide (r = 41))
noncomputable def pcsGo (alts : PS → T × PS) (rs : List Int) : Nat → PS → List T → List T × PS
  | 0, s, l => (l, s)
  | n + 1, s, l => if isPc (pk rs s) then pcsGo alts rs n (countedP alts rs s).2 (l ++ [(countedP alts rs s).1]) else (l, s)
noncomputable def pcsR (alts : PS → T × PS) (rs : List Int) (s : PS) : List T × PS := pcsGo alts rs (rs.length + 9) s []
noncomputable def piecesP (alts : PS → T × PS) (rs : List Int) (s : PS) : T × PS := (joinT 4 (pcsR alts rs s).1, (pcsR alts rs s).2)
noncomputable def altGo (alts : PS → T × PS) (rs : List Int) : Nat → PS → List T → List T × PS
  | 0, s, l => (l, s)
  | n + 1, s, l => if pk rs s = 124 then altGo alts rs n (piecesP alts rs (tk rs 124 s)).2 (l ++ [(piecesP alts rs (tk rs 124 s)).1]) else (l, s)
noncomputable def altR (alts : PS → T × PS) (rs : List Int) (s : PS) : List T × PS := altGo alts rs (rs.length + 9) (piecesP alts rs s).2 [(piecesP alts rs s).1]
noncomputable def altsP (alts : PS → T × PS) (rs : List Int) (s : PS) : T × PS := (joinT 5 (altR alts rs s).1, (altR alts rs s).2)
noncomputable def alts (rs : List Int) : Nat → PS → T × PS
  | 0 => altsP (fun s => (zeroT, s)) rs
  | n + 1 => altsP (alts rs n) rs

/-! ### Where they end -/
/-- The place is within the text, or it has failed not far behind its end. -/
structure Inv (rs : List Int) (s : PS) : Prop where
  a : s.pos ≤ rs.length + 20
  b : s.bad = false → s.pos ≤ rs.length
/-- From s to s'. -/
structure Go1 (rs : List Int) (s s' : PS) : Prop where
  pos : s.pos ≤ s'.pos
  deep : s'.deep = s.deep
  bad : s.bad = true → s'.bad = true
  inv : Inv rs s → Inv rs s'
theorem Go1.refl (rs : List Int) (s : PS) : Go1 rs s s := ⟨Nat.le_refl _, rfl, id, id⟩
theorem Go1.trans {rs : List Int} {a b c : PS} (h : Go1 rs a b) (k : Go1 rs b c) : Go1 rs a c := ⟨Nat.le_trans h.pos k.pos, k.deep.trans h.deep, fun x => k.bad (h.bad x), fun x => k.inv (h.inv x)⟩
theorem tk_go (rs : List Int) (r : Int) (s : PS) (hr : 0 ≤ r) : Go1 rs s (tk rs r s) := by
  unfold tk
  split
  · rename_i h
    have := pk_room (rs := rs) (s := s) (by omega)
    exact ⟨by simp, rfl, fun h => h, fun hi => ⟨by simp; omega, fun _ => by simp; omega⟩⟩
  · exact Go1.refl _ _
theorem wt_go (rs : List Int) (r : Int) (s : PS) (hr : 0 ≤ r) : Go1 rs s (wt rs r s) := by
  unfold wt
  split
  · rename_i h
    have := pk_room (rs := rs) (s := s) (by omega)
    exact ⟨by simp, rfl, fun h => h, fun hi => ⟨by simp; omega, fun _ => by simp; omega⟩⟩
  · exact ⟨Nat.le_refl _, rfl, fun _ => rfl, fun hi => ⟨hi.a, fun h => by cases h⟩⟩
theorem numS_go (rs : List Int) (s : PS) : Go1 rs s (numS rs s) := by
  unfold numS
  split
  · rename_i h
    have h0 : 0 ≤ pk rs s := by simp [dig] at h; omega
    have := pk_room h0
    split
    · rename_i h2
      have h3 : 0 ≤ pk rs ⟨s.pos + 1, s.deep, s.bad⟩ := by simp [dig] at h2; omega
      have h4 := (pk_room h3).1
      simp only at h4
      exact ⟨by simp, rfl, fun h => by simp [h], fun hi => ⟨by simp; omega, fun _ => by simp; omega⟩⟩
    · exact ⟨by simp, rfl, fun h => h, fun hi => ⟨by simp; omega, fun _ => by simp; omega⟩⟩
  · exact ⟨Nat.le_refl _, rfl, fun _ => rfl, fun hi => ⟨hi.a, fun h => by cases h⟩⟩
theorem or_go (rs : List Int) (s : PS) (x : Bool) : Go1 rs s ⟨s.pos, s.deep, s.bad || x⟩ :=
  ⟨Nat.le_refl _, rfl, fun h => by simp [h], fun hi => ⟨hi.a, fun h => by simp at h; exact hi.b h.1⟩⟩
theorem one_go {rs : List Int} {s : PS} (h0 : 0 ≤ pk rs s) : Go1 rs s ⟨s.pos + 1, s.deep, s.bad⟩ := by
  have := pk_room h0
  exact ⟨by simp, rfl, fun h => h, fun hi => ⟨by simp; omega, fun _ => by simp; omega⟩⟩
theorem brS_go (rs : List Int) (s : PS) : Go1 rs s (brS rs s) := by
  unfold brS
  have h1 := numS_go rs s
  split
  · rename_i h
    have h2 : Go1 rs (numS rs s) (br3 rs s) := one_go (by omega)
    split
    · exact (h1.trans h2).trans (wt_go _ _ _ (by omega))
    · have h3 := numS_go rs (br3 rs s)
      exact (((h1.trans h2).trans h3).trans (or_go _ _ _)).trans (wt_go _ _ _ (by omega))
  · exact h1.trans (wt_go _ _ _ (by omega))
theorem cntS_go (rs : List Int) (s : PS) : Go1 rs s (cntS rs s) := by
  unfold cntS
  split
  · rename_i h; exact one_go (by omega)
  · split
    · rename_i h; exact (one_go (by omega)).trans (brS_go _ _)
    · exact Go1.refl _ _
theorem nx_ok {rs : List Int} {s : PS} (h : 0 ≤ pk rs s) : nx rs s = ⟨s.pos + 1, s.deep, s.bad⟩ := by
  unfold nx
  rw [show decide (pk rs s < 0) = false by simp; omega]
  simp
theorem clsGo_go (rs : List Int) : ∀ n f s l, (f = true → s.bad = false) → Inv rs s → s.pos ≤ (clsGo rs n f s l).2.pos ∧ (clsGo rs n f s l).2.deep = s.deep ∧ Inv rs (clsGo rs n f s l).2 := by
  intro n
  induction n with
  | zero => intro f s l _ hi; exact ⟨Nat.le_refl _, rfl, hi⟩
  | succ n ih =>
    intro f s l hf hi
    unfold clsGo
    split
    · have := tk_go rs 93 s (by omega)
      exact ⟨this.pos, this.deep, this.inv hi⟩
    · rename_i hc
      have hb : s.bad = false := by
        cases f with
        | true => exact hf rfl
        | false =>
          cases hs : s.bad with
          | false => rfl
          | true => exact absurd ⟨rfl, Or.inl hs⟩ hc
      have h1 := parS_pos rs s
      have h2 := hi.b hb
      have h3 := ih false (parS rs s) (l ++ parL rs s) (fun h => by cases h) ⟨by omega, fun hb => (parS_bad hb).1⟩
      exact ⟨by omega, h3.2.1.trans h1.2.2, h3.2.2⟩
theorem clsR_go {rs : List Int} {s : PS} (hb : s.bad = false) (hi : Inv rs s) : s.pos ≤ (clsR rs s).2.pos ∧ (clsR rs s).2.deep = s.deep ∧ Inv rs (clsR rs s).2 := by
  unfold clsR
  have h1 := tk_go rs 94 s (by omega)
  have h2 := clsGo_go rs (rs.length + 9) true (tk rs 94 s) [] (fun _ => by rw [(tk_pos rs 94 s (by omega)).2.2.1]; exact hb) (h1.inv hi)
  exact ⟨Nat.le_trans h1.pos h2.1, h2.2.1.trans h1.deep, h2.2.2⟩
theorem atomP_go {alts : PS → T × PS} {rs : List Int} (ha : ∀ s, Go1 rs s (alts s).2) {s : PS} (h : 0 ≤ pk rs s) : s.pos + 1 ≤ (atomP alts rs s).2.pos ∧ (atomP alts rs s).2.deep = s.deep ∧ Inv rs (atomP alts rs s).2 := by
  have hr := pk_room h
  have hn := nx_ok h
  have hi : Inv rs (nx rs s) := by rw [hn]; exact ⟨by simp; omega, fun _ => by simp; omega⟩
  have hnb : (nx rs s).bad = false := by rw [hn]; exact hr.2
  have hnp : (nx rs s).pos = s.pos + 1 := by rw [hn]
  have hnd : (nx rs s).deep = s.deep := by rw [hn]
  unfold atomP
  split
  · have h1 := ha ⟨s.pos + 1, s.deep + 1, (nx rs s).bad || decide (10 < s.deep + 1)⟩
    have h2 := wt_go rs 41 (alts ⟨s.pos + 1, s.deep + 1, (nx rs s).bad || decide (10 < s.deep + 1)⟩).2 (by omega)
    have h3 := h1.trans h2
    have h4 : Inv rs ⟨s.pos + 1, s.deep + 1, (nx rs s).bad || decide (10 < s.deep + 1)⟩ := ⟨by simp; omega, fun _ => by simp; omega⟩
    have h5 := h3.inv h4
    exact ⟨h3.pos, by simp only; rw [h3.deep]; simp, h5.a, h5.b⟩
  split
  · exact ⟨by rw [hnp]; exact Nat.le_refl _, hnd, hi⟩
  split
  · exact ⟨by rw [hnp]; exact Nat.le_refl _, hnd, hi⟩
  split
  · exact ⟨by rw [hnp]; exact Nat.le_refl _, hnd, hi⟩
  split
  · have := clsR_go hnb hi
    exact ⟨by rw [hnp] at this; exact this.1, this.2.1.trans hnd, this.2.2⟩
  split
  · have := escS_pos rs (nx rs s)
    refine ⟨by simp only; rw [this.1, hnp]; omega, this.2.trans hnd, by simp only; rw [this.1, hnp]; omega, fun hb => ?_⟩
    have hb := nx_bad (escS_bad hb)
    simp only; rw [this.1]; exact hb.1
  · exact ⟨by simp, rfl, by simp; omega, fun _ => by simp; omega⟩
theorem countedP_go {alts : PS → T × PS} {rs : List Int} (ha : ∀ s, Go1 rs s (alts s).2) {s : PS} (h : 0 ≤ pk rs s) : s.pos + 1 ≤ (countedP alts rs s).2.pos ∧ (countedP alts rs s).2.deep = s.deep ∧ Inv rs (countedP alts rs s).2 := by
  have h1 := atomP_go ha h
  have h2 := cntS_go rs (atomP alts rs s).2
  unfold countedP
  split
  · have h3 := h2.trans (or_go rs _ (decide (pk rs s = 94) || decide (pk rs s = 36)))
    exact ⟨Nat.le_trans h1.1 h3.pos, h3.deep.trans h1.2.1, h3.inv h1.2.2⟩
  · exact ⟨Nat.le_trans h1.1 h2.pos, h2.deep.trans h1.2.1, h2.inv h1.2.2⟩
theorem counted_go1 {alts : PS → T × PS} {rs : List Int} (ha : ∀ s, Go1 rs s (alts s).2) {s : PS} (h : 0 ≤ pk rs s) : Go1 rs s (countedP alts rs s).2 := by
  have h1 := countedP_go ha h
  exact ⟨by omega, h1.2.1, fun hb => (by rw [(pk_room h).2] at hb; cases hb), fun _ => h1.2.2⟩
theorem isPc_pos {r : Int} (h : isPc r = true) : 0 ≤ r := by simp [isPc] at h; exact h.1
theorem pcsGo_go {alts : PS → T × PS} {rs : List Int} (ha : ∀ s, Go1 rs s (alts s).2) : ∀ n s l, Go1 rs s (pcsGo alts rs n s l).2 := by
  intro n
  induction n with
  | zero => intro s l; exact Go1.refl _ _
  | succ n ih =>
    intro s l
    unfold pcsGo
    split
    · rename_i h
      exact (counted_go1 ha (isPc_pos h)).trans (ih _ _)
    · exact Go1.refl _ _
theorem piecesP_go {alts : PS → T × PS} {rs : List Int} (ha : ∀ s, Go1 rs s (alts s).2) (s : PS) : Go1 rs s (piecesP alts rs s).2 := pcsGo_go ha _ _ _
theorem altGo_go {alts : PS → T × PS} {rs : List Int} (ha : ∀ s, Go1 rs s (alts s).2) : ∀ n s l, Go1 rs s (altGo alts rs n s l).2 := by
  intro n
  induction n with
  | zero => intro s l; exact Go1.refl _ _
  | succ n ih =>
    intro s l
    unfold altGo
    split
    · exact ((tk_go rs 124 s (by omega)).trans (piecesP_go ha _)).trans (ih _ _)
    · exact Go1.refl _ _
theorem altsP_go {alts : PS → T × PS} {rs : List Int} (ha : ∀ s, Go1 rs s (alts s).2) (s : PS) : Go1 rs s (altsP alts rs s).2 := (piecesP_go ha s).trans (altGo_go ha _ _ _)
theorem alts_go (rs : List Int) : ∀ n s, Go1 rs s (alts rs n s).2 := by
  intro n
  induction n with
  | zero => exact fun s => altsP_go (fun s => Go1.refl _ _) s
  | succ n ih => exact fun s => altsP_go ih s
end Go.Proofs.YtpcbfmbpbegjgaaGreat
end
section
namespace Go.Proofs.YtpcbfmbpbegjgaaGreat
open Go.RowKit
set_option linter.unusedVariables false
set_option linter.unusedSimpArgs false
set_option maxRecDepth 100000

theorem getP_ascii (c : UInt8) (l : List UInt8) (h : c.toNat < 128) : getP (c :: l) = ((c.toNat : Int), 1) := by
  have h1 : lenP c.toNat = 1 := by unfold lenP; rw [if_pos h]
  rw [getP_eq, h1]
  have h2 : headP c = c.toNat := by unfold headP; rw [h1]; simp
  have h3 : sizP (c.toNat : Int) = 1 := by
    have : isB (c.toNat : Int) = true := by simp [isB]; omega
    unfold sizP; rw [this]; simp; omega
  simp [tailP, h2, h3]
theorem ptsP_ascii : ∀ (l : List UInt8) (n : Nat), l.length ≤ n → (∀ c ∈ l, c.toNat < 128) → ptsP n l = some (l.map fun c => (c.toNat : Int)) := by
  intro l
  induction l with
  | nil => intro n _ _; cases n <;> simp [ptsP]
  | cons c l ih =>
    intro n hn h
    obtain ⟨m, rfl⟩ : ∃ m, n = m + 1 := ⟨n - 1, by simp at hn; omega⟩
    have hc := h c (by simp)
    rw [ptsP, if_neg (by simp), getP_ascii c l hc, if_pos (by
      have : isB (c.toNat : Int) = true := by simp [isB]; omega
      unfold sizP; rw [this]; simp; omega)]
    rw [show (c :: l).drop 1 = l from rfl, ih m (by simpa using hn) (fun x hx => h x (by simp [hx]))]
    rfl
theorem pts_ascii {l : List UInt8} (h : ∀ c ∈ l, c.toNat < 128) : pts l = some (l.map fun c => (c.toNat : Int)) := ptsP_ascii l _ (Nat.le_refl _) h

/-- What Parse answers. -/
noncomputable def parseR (rs : List Int) : T × Int :=
  if (alts rs 11 ⟨0, 0, false⟩).2.bad = true ∨ (alts rs 11 ⟨0, 0, false⟩).2.pos ≠ rs.length then (zeroT, 15) else ((alts rs 11 ⟨0, 0, false⟩).1, 0)
noncomputable def parseP (l : List UInt8) : T × Int :=
  if 200 < l.length then (zeroT, 16) else match pts l with | none => (zeroT, 15) | some rs => parseR rs

/-- Nothing stands here any more. -/
theorem pcsGo_stop {f : PS → T × PS} {rs : List Int} {s : PS} (n : Nat) (l : List T) (h : isPc (pk rs s) = false) : pcsGo f rs n s l = (l, s) := by
  cases n with
  | zero => rfl
  | succ n => unfold pcsGo; rw [h]; rfl
theorem pcsGo_step {f : PS → T × PS} {rs : List Int} {s : PS} (n : Nat) (l : List T) (h : isPc (pk rs s) = true) : pcsGo f rs (n + 1) s l = pcsGo f rs n (countedP f rs s).2 (l ++ [(countedP f rs s).1]) := by
  conv => lhs; unfold pcsGo
  rw [h]; rfl
theorem altGo_stop {f : PS → T × PS} {rs : List Int} {s : PS} (n : Nat) (l : List T) (h : ¬ pk rs s = 124) : altGo f rs n s l = (l, s) := by
  cases n with
  | zero => rfl
  | succ n => unfold altGo; rw [if_neg h]
theorem altGo_step {f : PS → T × PS} {rs : List Int} {s : PS} (n : Nat) (l : List T) (h : pk rs s = 124) : altGo f rs (n + 1) s l = altGo f rs n (piecesP f rs (tk rs 124 s)).2 (l ++ [(piecesP f rs (tk rs 124 s)).1]) := by
  conv => lhs; unfold altGo
  rw [if_pos h]
theorem pk_end {rs : List Int} {s : PS} (h : s.bad = true ∨ rs.length ≤ s.pos) : pk rs s = -1 := by
  unfold pk
  split
  · rfl
  · rcases h with h | h
    · rename_i h2; exact absurd h h2
    · rw [List.getD_eq_getElem?_getD, List.getElem?_eq_none h]; rfl
theorem isPc_end : isPc (-1) = false := by decide
/-- One piece alone. -/
theorem pieces_one {f : PS → T × PS} {rs : List Int} {s s1 : PS} {t : T} (h : isPc (pk rs s) = true) (hc : countedP f rs s = (t, s1)) (h1 : isPc (pk rs s1) = false) : piecesP f rs s = (t, s1) := by
  unfold piecesP pcsR
  rw [show rs.length + 9 = (rs.length + 8) + 1 from rfl, pcsGo_step _ _ h, hc, pcsGo_stop _ _ h1]
  rfl
theorem alts_one {f : PS → T × PS} {rs : List Int} {s s1 : PS} {t : T} (h : piecesP f rs s = (t, s1)) (h1 : ¬ pk rs s1 = 124) : altsP f rs s = (t, s1) := by
  unfold altsP altR
  rw [h, altGo_stop _ _ h1]
  rfl
theorem one_end {f : PS → T × PS} {rs : List Int} {s s1 : PS} {t : T} (h : isPc (pk rs s) = true) (hc : countedP f rs s = (t, s1)) (h1 : s1.bad = true ∨ rs.length ≤ s1.pos) : altsP f rs s = (t, s1) := by
  have h2 := pk_end h1
  exact alts_one (pieces_one h hc (by rw [h2]; exact isPc_end)) (by rw [h2]; decide)
/-- A point that is no sign. -/
theorem atom_plain {f : PS → T × PS} {rs : List Int} {s : PS} {r : Int} (h : pk rs s = r) (hr : 0 ≤ r) (hs : amg sgL r = false) : atomP f rs s = (charT [(r, r)], ⟨s.pos + 1, s.deep, false⟩) := by
  have hb : s.bad = false := (pk_room (rs := rs) (s := s) (by omega)).2
  have hne : ∀ c : Fin 128, amg sgL (c.val : Int) = false → ¬ ((c.val : Int) = 40 ∨ (c.val : Int) = 94 ∨ (c.val : Int) = 36 ∨ (c.val : Int) = 46 ∨ (c.val : Int) = 91 ∨ (c.val : Int) = 92) := of_decide_eq_true (by kernel_rfl)
  have h6 : ¬ (r = 40 ∨ r = 94 ∨ r = 36 ∨ r = 46 ∨ r = 91 ∨ r = 92) := by
    by_cases h1 : r < 128
    · have := hne ⟨r.toNat, by omega⟩ (by simpa [Int.toNat_of_nonneg hr] using hs)
      simpa [Int.toNat_of_nonneg hr] using this
    · omega
  unfold atomP
  rw [if_neg (by omega), if_neg (by omega), if_neg (by omega), if_neg (by omega), if_neg (by omega), if_neg (by omega), nx_ok (by omega), h, hs, hb]
  rfl

/-! ### Counts -/
theorem pk_at {rs : List Int} {p : Nat} {d : Int} : pk rs ⟨p, d, false⟩ = rs.getD p (-1) := rfl
theorem num_two {rs : List Int} {p : Nat} {d : Int} {a b : Int} (h1 : rs.getD p (-1) = 48 + a) (h2 : rs.getD (p + 1) (-1) = 48 + b) (ha : 0 ≤ a ∧ a ≤ 9) (hb : 0 ≤ b ∧ b ≤ 9) :
    numN rs ⟨p, d, false⟩ = a * 10 + b ∧ numS rs ⟨p, d, false⟩ = ⟨p + 2, d, decide (50 < a * 10 + b)⟩ := by
  have d1 : dig (pk rs ⟨p, d, false⟩) = true := by rw [pk_at, h1]; simp [dig]; omega
  have d2 : dig (pk rs ⟨p + 1, d, false⟩) = true := by rw [pk_at, h2]; simp [dig]; omega
  have hN : numN rs ⟨p, d, false⟩ = a * 10 + b := by
    unfold numN
    rw [if_pos d1, if_pos d2, pk_at, pk_at, h1, h2]; omega
  refine ⟨hN, ?_⟩
  unfold numS
  rw [if_pos d1, if_pos d2, hN]; simp
/-- The digits of a number up to 120. -/
def twoI (k : Int) : List Int := if 99 < k then [49, 48 + k / 10 % 10, 48 + k % 10] else [48 + k / 10 % 10, 48 + k % 10]
theorem wt_no {rs : List Int} {s : PS} {r : Int} (h : ¬ pk rs s = r) : (wt rs r s).bad = true := by unfold wt; rw [if_neg h]
/-- What the count is worth. -/
theorem counts_braces (n m : Int) (open' : Bool) (hn : 0 ≤ n ∧ n ≤ 120) (hm : 0 ≤ m ∧ m ≤ 120) (rs : List Int) (hrs : rs = [120, 123] ++ twoI n ++ (if open' then [44, 125] else 44 :: (twoI m ++ [125]))) :
    if (if open' then n ≤ 50 else n ≤ 50 ∧ m ≤ 50 ∧ n ≤ m) then brS rs ⟨2, 0, false⟩ = ⟨rs.length, 0, false⟩ ∧ brA rs ⟨2, 0, false⟩ = n ∧ brB rs ⟨2, 0, false⟩ = (if open' then -1 else m)
    else (brS rs ⟨2, 0, false⟩).bad = true := by
  by_cases h99 : 99 < n
  · -- three digits
    have e : twoI n = [49, 48 + n / 10 % 10, 48 + n % 10] := if_pos h99
    obtain ⟨tl, htl⟩ : ∃ tl, rs = 120 :: 123 :: 49 :: (48 + n / 10 % 10) :: (48 + n % 10) :: tl := ⟨_, by rw [hrs, e]; rfl⟩
    obtain ⟨hN, hS⟩ := num_two (rs := rs) (p := 2) (d := 0) (a := 1) (b := n / 10 % 10) (by rw [htl]; rfl) (by rw [htl]; rfl) (by omega) (by omega)
    have hb : (brS rs ⟨2, 0, false⟩).bad = true := by
      have hx : decide (50 < (1 : Int) * 10 + n / 10 % 10) = false := by simp; omega
      rw [hx] at hS
      have hp : pk rs (numS rs ⟨2, 0, false⟩) = 48 + n % 10 := by rw [hS, pk_at, htl]; rfl
      unfold brS
      rw [if_neg (by rw [hp]; omega)]
      exact wt_no (by rw [hp]; omega)
    rw [if_neg (by split <;> omega)]
    exact hb
  · have e : twoI n = [48 + n / 10 % 10, 48 + n % 10] := if_neg h99
    obtain ⟨tl, htl, htl2⟩ : ∃ tl, rs = 120 :: 123 :: (48 + n / 10 % 10) :: (48 + n % 10) :: 44 :: tl ∧ tl = (if open' then [125] else twoI m ++ [125]) := ⟨_, by rw [hrs, e]; cases open' <;> rfl, rfl⟩
    obtain ⟨hN, hS⟩ := num_two (rs := rs) (p := 2) (d := 0) (a := n / 10 % 10) (b := n % 10) (by rw [htl]; rfl) (by rw [htl]; rfl) (by omega) (by omega)
    have e10 : n / 10 % 10 * 10 + n % 10 = n := by omega
    rw [e10] at hN hS
    by_cases h50 : 50 < n
    · rw [show decide (50 < n) = true by simpa using h50] at hS
      have hp : pk rs (numS rs ⟨2, 0, false⟩) = -1 := by rw [hS]; rfl
      rw [if_neg (by split <;> omega)]
      unfold brS
      rw [if_neg (by rw [hp]; omega)]
      exact wt_no (by rw [hp]; omega)
    · rw [show decide (50 < n) = false by simpa using h50] at hS
      have hp : pk rs (numS rs ⟨2, 0, false⟩) = 44 := by rw [hS, pk_at, htl]; rfl
      have h3 : br3 rs ⟨2, 0, false⟩ = ⟨5, 0, false⟩ := by unfold br3; rw [hS]
      unfold brS brB brA
      rw [if_pos hp, if_pos hp, h3]
      cases open' with
      | true =>
        simp only [if_true] at htl2
        subst htl2
        have hp2 : pk rs ⟨5, 0, false⟩ = 125 := by rw [pk_at, htl]; rfl
        rw [if_pos (by simp; omega), if_pos hp2, if_pos hp2, hN]
        refine ⟨?_, (by first | rfl | trivial), (by first | rfl | trivial)⟩
        unfold wt
        rw [if_pos hp2, htl]
        rfl
      | false =>
        simp only [Bool.false_eq_true, if_false] at htl2 ⊢
        by_cases hm99 : 99 < m
        · have e2 : twoI m = [49, 48 + m / 10 % 10, 48 + m % 10] := if_pos hm99
          rw [e2] at htl2
          subst htl2
          obtain ⟨hN2, hS2⟩ := num_two (rs := rs) (p := 5) (d := 0) (a := 1) (b := m / 10 % 10) (by rw [htl]; rfl) (by rw [htl]; rfl) (by omega) (by omega)
          have hp2 : ¬ pk rs ⟨5, 0, false⟩ = 125 := by rw [pk_at, htl]; show ¬ (49 : Int) = 125; omega
          rw [if_neg (by omega), if_neg hp2]
          have hx : decide (50 < (1 : Int) * 10 + m / 10 % 10) = false := by simp; omega
          rw [hx] at hS2
          refine wt_no ?_
          rw [hS2]
          unfold pk
          split
          · omega
          · rw [htl]; show ¬ 48 + m % 10 = 125; omega
        · have e2 : twoI m = [48 + m / 10 % 10, 48 + m % 10] := if_neg hm99
          rw [e2] at htl2
          subst htl2
          obtain ⟨hN2, hS2⟩ := num_two (rs := rs) (p := 5) (d := 0) (a := m / 10 % 10) (b := m % 10) (by rw [htl]; rfl) (by rw [htl]; rfl) (by omega) (by omega)
          have e11 : m / 10 % 10 * 10 + m % 10 = m := by omega
          rw [e11] at hN2 hS2
          have hp2 : ¬ pk rs ⟨5, 0, false⟩ = 125 := by rw [pk_at, htl]; show ¬ 48 + m / 10 % 10 = 125; omega
          rw [if_neg hp2, if_neg hp2, hS2, hN2, hN]
          simp only
          by_cases hm50 : 50 < m
          · rw [if_neg (by omega), show decide (50 < m) = true by simpa using hm50]
            exact wt_no (by show ¬ (-1 : Int) = 125; omega)
          · rw [show decide (50 < m) = false by simpa using hm50]
            by_cases hlt : m < n
            · rw [if_neg (by omega), show decide (m < n) = true by simpa using hlt]
              exact wt_no (by show ¬ (-1 : Int) = 125; omega)
            · rw [if_pos (by omega), show decide (m < n) = false by simpa using hlt]
              refine ⟨?_, (by first | rfl | trivial), (by first | rfl | trivial)⟩
              have hp3 : pk rs ⟨7, 0, false⟩ = 125 := by rw [pk_at, htl]; rfl
              unfold wt
              rw [show (⟨5 + 2, 0, false || false⟩ : PS) = ⟨7, 0, false⟩ from rfl, if_pos hp3, htl]
              rfl
/-- The answer at a text of one counted x. -/
theorem parse_counts (n m : Int) (open' : Bool) (hn : 0 ≤ n ∧ n ≤ 120) (hm : 0 ≤ m ∧ m ≤ 120) (rs : List Int) (hrs : rs = [120, 123] ++ twoI n ++ (if open' then [44, 125] else 44 :: (twoI m ++ [125]))) :
    parseR rs = if (if open' then n ≤ 50 else n ≤ 50 ∧ m ≤ 50 ∧ n ≤ m) then (⟨6, [], n, (if open' then -1 else m), F.ofL [charT [(120, 120)]]⟩, 0) else (zeroT, 15) := by
  have hb := counts_braces n m open' hn hm rs hrs
  obtain ⟨tl, htl⟩ : ∃ tl, rs = 120 :: 123 :: tl := ⟨_, by rw [hrs]; rfl⟩
  have h0 : pk rs ⟨0, 0, false⟩ = 120 := by rw [pk_at, htl]; rfl
  have h1 : pk rs ⟨1, 0, false⟩ = 123 := by rw [pk_at, htl]; rfl
  have hat : atomP (alts rs 10) rs ⟨0, 0, false⟩ = (charT [(120, 120)], ⟨1, 0, false⟩) := atom_plain (f := alts rs 10) h0 (by omega) (by decide +kernel)
  have hV : cntV rs ⟨1, 0, false⟩ = (brA rs ⟨2, 0, false⟩, brB rs ⟨2, 0, false⟩, true) := by
    unfold cntV; rw [h1]; rfl
  have hS : cntS rs ⟨1, 0, false⟩ = brS rs ⟨2, 0, false⟩ := by
    unfold cntS; rw [h1]; rfl
  have hc : countedP (alts rs 10) rs ⟨0, 0, false⟩ = (⟨6, [], brA rs ⟨2, 0, false⟩, brB rs ⟨2, 0, false⟩, F.ofL [charT [(120, 120)]]⟩, brS rs ⟨2, 0, false⟩) := by
    unfold countedP
    rw [hat]
    simp only
    rw [hV, hS, h0]
    simp
  have hpc : isPc (pk rs ⟨0, 0, false⟩) = true := by rw [h0]; decide
  unfold parseR
  by_cases hok : (if open' then n ≤ 50 else n ≤ 50 ∧ m ≤ 50 ∧ n ≤ m)
  · rw [if_pos hok] at hb ⊢
    obtain ⟨b1, b2, b3⟩ := hb
    rw [b1, b2, b3] at hc
    have := one_end hpc hc (Or.inr (Nat.le_refl _))
    rw [show alts rs 11 = altsP (alts rs 10) rs from rfl, this]
    simp
  · rw [if_neg hok] at hb ⊢
    have := one_end hpc hc (Or.inl hb)
    rw [show alts rs 11 = altsP (alts rs 10) rs from rfl, this, if_pos (Or.inl hb)]
/-! ### The document's examples -/
theorem cnt_none {rs : List Int} {s : PS} (h : pk rs s ≠ 63 ∧ pk rs s ≠ 43 ∧ pk rs s ≠ 42 ∧ pk rs s ≠ 123) : cntV rs s = (0, 0, false) ∧ cntS rs s = s := by
  unfold cntV cntS
  rw [if_neg h.1, if_neg h.2.1, if_neg h.2.2.1, if_neg h.2.2.2, if_neg (by omega), if_neg h.2.2.2]
  exact ⟨rfl, rfl⟩
theorem counted_none {f : PS → T × PS} {rs : List Int} {s s1 : PS} {t : T} (h : atomP f rs s = (t, s1)) (h1 : pk rs s1 ≠ 63 ∧ pk rs s1 ≠ 43 ∧ pk rs s1 ≠ 42 ∧ pk rs s1 ≠ 123) : countedP f rs s = (t, s1) := by
  have h2 := cnt_none h1
  unfold countedP
  rw [h]
  simp only
  rw [h2.1, h2.2]
  rfl
theorem counted_star {f : PS → T × PS} {rs : List Int} {s s1 : PS} {t : T} (h : atomP f rs s = (t, s1)) (h1 : pk rs s1 = 42) (h2 : pk rs s ≠ 94 ∧ pk rs s ≠ 36) : countedP f rs s = (⟨6, [], 0, -1, F.ofL [t]⟩, ⟨s1.pos + 1, s1.deep, s1.bad⟩) := by
  have hV : cntV rs s1 = (0, -1, true) := by unfold cntV; rw [h1]; rfl
  have hS : cntS rs s1 = ⟨s1.pos + 1, s1.deep, s1.bad⟩ := by unfold cntS; rw [h1]; rfl
  unfold countedP
  rw [h]
  simp only
  rw [hV, hS]
  simp [h2.1, h2.2]
def awakeT : T := ⟨5, [], 0, 0, F.ofL [charT [(97, 97)], ⟨6, [], 0, -1, F.ofL [charT [(98, 98)]]⟩]⟩
theorem parse_awake1 : parseR [97, 124, 98, 42] = (awakeT, 0) := by
  have a0 : atomP (alts [97, 124, 98, 42] 10) [97, 124, 98, 42] ⟨0, 0, false⟩ = (charT [(97, 97)], ⟨1, 0, false⟩) := atom_plain (f := alts [97, 124, 98, 42] 10) (rs := [97, 124, 98, 42]) (s := ⟨0, 0, false⟩) (r := 97) rfl (by omega) (by decide +kernel)
  have c0 := counted_none a0 (by decide)
  have p0 := pieces_one (by decide) c0 (by decide)
  have a2 : atomP (alts [97, 124, 98, 42] 10) [97, 124, 98, 42] ⟨2, 0, false⟩ = (charT [(98, 98)], ⟨3, 0, false⟩) := atom_plain (f := alts [97, 124, 98, 42] 10) (rs := [97, 124, 98, 42]) (s := ⟨2, 0, false⟩) (r := 98) rfl (by omega) (by decide +kernel)
  have c2 : countedP (alts [97, 124, 98, 42] 10) [97, 124, 98, 42] ⟨2, 0, false⟩ = (⟨6, [], 0, -1, F.ofL [charT [(98, 98)]]⟩, ⟨4, 0, false⟩) := counted_star a2 (by decide) (by decide)
  have p2 := pieces_one (by decide) c2 (by decide)
  have h : alts [97, 124, 98, 42] 11 ⟨0, 0, false⟩ = (awakeT, ⟨4, 0, false⟩) := by
    rw [show alts [97, 124, 98, 42] 11 = altsP (alts [97, 124, 98, 42] 10) [97, 124, 98, 42] from rfl]
    unfold altsP altR
    rw [p0]
    rw [show ([97, 124, 98, 42] : List Int).length + 9 = 12 + 1 from rfl, altGo_step _ _ (by decide), show tk [97, 124, 98, 42] 124 ⟨1, 0, false⟩ = ⟨2, 0, false⟩ from rfl, p2, altGo_stop _ _ (by decide)]
    rfl
  unfold parseR
  rw [h]
  rfl
theorem counted_bad {f : PS → T × PS} {rs : List Int} {s : PS} (h : (atomP f rs s).2.bad = true) : (countedP f rs s).2.bad = true := by
  have h2 := (cntS_go rs (atomP f rs s).2).bad h
  unfold countedP
  split
  · simp [h2]
  · exact h2
theorem parse_awake2 : parseR [97, 42, 42] = (zeroT, 15) := by
  have a0 : atomP (alts [97, 42, 42] 10) [97, 42, 42] ⟨0, 0, false⟩ = (charT [(97, 97)], ⟨1, 0, false⟩) := atom_plain (f := alts [97, 42, 42] 10) (rs := [97, 42, 42]) (s := ⟨0, 0, false⟩) (r := 97) rfl (by omega) (by decide +kernel)
  have c0 : countedP (alts [97, 42, 42] 10) [97, 42, 42] ⟨0, 0, false⟩ = (⟨6, [], 0, -1, F.ofL [charT [(97, 97)]]⟩, ⟨2, 0, false⟩) := counted_star a0 (by decide) (by decide)
  have ab : (atomP (alts [97, 42, 42] 10) [97, 42, 42] ⟨2, 0, false⟩).2.bad = true := by
    unfold atomP
    rw [if_neg (by decide), if_neg (by decide), if_neg (by decide), if_neg (by decide), if_neg (by decide), if_neg (by decide)]
    simp only [Bool.or_eq_true]
    right
    decide +kernel
  have cb := counted_bad ab
  have h : (alts [97, 42, 42] 11 ⟨0, 0, false⟩).2.bad = true := by
    rw [show alts [97, 42, 42] 11 = altsP (alts [97, 42, 42] 10) [97, 42, 42] from rfl]
    unfold altsP altR
    refine (altGo_go (alts_go _ _) _ _ _).bad ?_
    unfold piecesP pcsR
    rw [show ([97, 42, 42] : List Int).length + 9 = 10 + 1 + 1 from rfl, pcsGo_step _ _ (by decide), c0]
    rw [pcsGo_step _ _ (by decide)]
    exact (pcsGo_go (alts_go _ _) _ _ _).bad cb
  unfold parseR
  rw [if_pos (Or.inl h)]
end Go.Proofs.YtpcbfmbpbegjgaaGreat
end
