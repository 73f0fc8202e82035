/-
  The parser at texts of one piece: plain Lean.
-/
import Derived.Test.YtinogeobkljngaaMg10
import Derived.Test.YtinogeobkljngaaMg2
namespace Go.Proofs.Ytinogeobkljngaa
open Go.RowKit
set_option linter.unusedVariables false
set_option linter.unusedSimpArgs false
set_option maxRecDepth 100000

theorem getP_ascii (c : UInt8) (l : List UInt8) (h : c.toNat < 128) : getP (c :: l) = ((c.toNat : Int), 1) := by
  have h1 : lenP c.toNat = 1 := by unfold lenP; rw [if_pos h]
  rw [getP_eq, h1]
  have h2 : headP c = c.toNat := by unfold headP; rw [h1]; simp
  have h3 : sizP (c.toNat : Int) = 1 := by
    have : isB (c.toNat : Int) = true := by simp [isB]; omega
    unfold sizP; rw [this]; simp; omega
  simp [tailP, h2, h3]
theorem ptsP_ascii : ∀ (l : List UInt8) (n : Nat), l.length ≤ n → (∀ c ∈ l, c.toNat < 128) → ptsP n l = some (l.map fun c => (c.toNat : Int)) := by
  intro l
  induction l with
  | nil => intro n _ _; cases n <;> simp [ptsP]
  | cons c l ih =>
    intro n hn h
    obtain ⟨m, rfl⟩ : ∃ m, n = m + 1 := ⟨n - 1, by simp at hn; omega⟩
    have hc := h c (by simp)
    rw [ptsP, if_neg (by simp), getP_ascii c l hc, if_pos (by
      have : isB (c.toNat : Int) = true := by simp [isB]; omega
      unfold sizP; rw [this]; simp; omega)]
    rw [show (c :: l).drop 1 = l from rfl, ih m (by simpa using hn) (fun x hx => h x (by simp [hx]))]
    rfl
theorem pts_ascii {l : List UInt8} (h : ∀ c ∈ l, c.toNat < 128) : pts l = some (l.map fun c => (c.toNat : Int)) := ptsP_ascii l _ (Nat.le_refl _) h

/-- What Parse answers. -/
noncomputable def parseR (rs : List Int) : T × Int :=
  if (alts rs 11 ⟨0, 0, false⟩).2.bad = true ∨ (alts rs 11 ⟨0, 0, false⟩).2.pos ≠ rs.length then (zeroT, 15) else ((alts rs 11 ⟨0, 0, false⟩).1, 0)
noncomputable def parseP (l : List UInt8) : T × Int :=
  if 200 < l.length then (zeroT, 16) else match pts l with | none => (zeroT, 15) | some rs => parseR rs

/-- Nothing stands here any more. -/
theorem pcsGo_stop {f : PS → T × PS} {rs : List Int} {s : PS} (n : Nat) (l : List T) (h : isPc (pk rs s) = false) : pcsGo f rs n s l = (l, s) := by
  cases n with
  | zero => rfl
  | succ n => unfold pcsGo; rw [h]; rfl
theorem pcsGo_step {f : PS → T × PS} {rs : List Int} {s : PS} (n : Nat) (l : List T) (h : isPc (pk rs s) = true) : pcsGo f rs (n + 1) s l = pcsGo f rs n (countedP f rs s).2 (l ++ [(countedP f rs s).1]) := by
  conv => lhs; unfold pcsGo
  rw [h]; rfl
theorem altGo_stop {f : PS → T × PS} {rs : List Int} {s : PS} (n : Nat) (l : List T) (h : ¬ pk rs s = 124) : altGo f rs n s l = (l, s) := by
  cases n with
  | zero => rfl
  | succ n => unfold altGo; rw [if_neg h]
theorem altGo_step {f : PS → T × PS} {rs : List Int} {s : PS} (n : Nat) (l : List T) (h : pk rs s = 124) : altGo f rs (n + 1) s l = altGo f rs n (piecesP f rs (tk rs 124 s)).2 (l ++ [(piecesP f rs (tk rs 124 s)).1]) := by
  conv => lhs; unfold altGo
  rw [if_pos h]
theorem pk_end {rs : List Int} {s : PS} (h : s.bad = true ∨ rs.length ≤ s.pos) : pk rs s = -1 := by
  unfold pk
  split
  · rfl
  · rcases h with h | h
    · rename_i h2; exact absurd h h2
    · rw [List.getD_eq_getElem?_getD, List.getElem?_eq_none h]; rfl
theorem isPc_end : isPc (-1) = false := by decide
/-- One piece alone. -/
theorem pieces_one {f : PS → T × PS} {rs : List Int} {s s1 : PS} {t : T} (h : isPc (pk rs s) = true) (hc : countedP f rs s = (t, s1)) (h1 : isPc (pk rs s1) = false) : piecesP f rs s = (t, s1) := by
  unfold piecesP pcsR
  rw [show rs.length + 9 = (rs.length + 8) + 1 from rfl, pcsGo_step _ _ h, hc, pcsGo_stop _ _ h1]
  rfl
theorem alts_one {f : PS → T × PS} {rs : List Int} {s s1 : PS} {t : T} (h : piecesP f rs s = (t, s1)) (h1 : ¬ pk rs s1 = 124) : altsP f rs s = (t, s1) := by
  unfold altsP altR
  rw [h, altGo_stop _ _ h1]
  rfl
theorem one_end {f : PS → T × PS} {rs : List Int} {s s1 : PS} {t : T} (h : isPc (pk rs s) = true) (hc : countedP f rs s = (t, s1)) (h1 : s1.bad = true ∨ rs.length ≤ s1.pos) : altsP f rs s = (t, s1) := by
  have h2 := pk_end h1
  exact alts_one (pieces_one h hc (by rw [h2]; exact isPc_end)) (by rw [h2]; decide)
/-- A point that is no sign. -/
theorem atom_plain {f : PS → T × PS} {rs : List Int} {s : PS} {r : Int} (h : pk rs s = r) (hr : 0 ≤ r) (hs : amg sgL r = false) : atomP f rs s = (charT [(r, r)], ⟨s.pos + 1, s.deep, false⟩) := by
  have hb : s.bad = false := (pk_room (rs := rs) (s := s) (by omega)).2
  have hne : ∀ c : Fin 128, amg sgL (c.val : Int) = false → ¬ ((c.val : Int) = 40 ∨ (c.val : Int) = 94 ∨ (c.val : Int) = 36 ∨ (c.val : Int) = 46 ∨ (c.val : Int) = 91 ∨ (c.val : Int) = 92) := of_decide_eq_true (by kernel_rfl)
  have h6 : ¬ (r = 40 ∨ r = 94 ∨ r = 36 ∨ r = 46 ∨ r = 91 ∨ r = 92) := by
    by_cases h1 : r < 128
    · have := hne ⟨r.toNat, by omega⟩ (by simpa [Int.toNat_of_nonneg hr] using hs)
      simpa [Int.toNat_of_nonneg hr] using this
    · omega
  unfold atomP
  rw [if_neg (by omega), if_neg (by omega), if_neg (by omega), if_neg (by omega), if_neg (by omega), if_neg (by omega), nx_ok (by omega), h, hs, hb]
  rfl

/-! ### Counts -/
theorem pk_at {rs : List Int} {p : Nat} {d : Int} : pk rs ⟨p, d, false⟩ = rs.getD p (-1) := rfl
theorem num_two {rs : List Int} {p : Nat} {d : Int} {a b : Int} (h1 : rs.getD p (-1) = 48 + a) (h2 : rs.getD (p + 1) (-1) = 48 + b) (ha : 0 ≤ a ∧ a ≤ 9) (hb : 0 ≤ b ∧ b ≤ 9) :
    numN rs ⟨p, d, false⟩ = a * 10 + b ∧ numS rs ⟨p, d, false⟩ = ⟨p + 2, d, decide (50 < a * 10 + b)⟩ := by
  have d1 : dig (pk rs ⟨p, d, false⟩) = true := by rw [pk_at, h1]; simp [dig]; omega
  have d2 : dig (pk rs ⟨p + 1, d, false⟩) = true := by rw [pk_at, h2]; simp [dig]; omega
  have hN : numN rs ⟨p, d, false⟩ = a * 10 + b := by
    unfold numN
    rw [if_pos d1, if_pos d2, pk_at, pk_at, h1, h2]; omega
  refine ⟨hN, ?_⟩
  unfold numS
  rw [if_pos d1, if_pos d2, hN]; simp
/-- The digits of a number up to 120. -/
def twoI (k : Int) : List Int := if 99 < k then [49, 48 + k / 10 % 10, 48 + k % 10] else [48 + k / 10 % 10, 48 + k % 10]
theorem wt_no {rs : List Int} {s : PS} {r : Int} (h : ¬ pk rs s = r) : (wt rs r s).bad = true := by unfold wt; rw [if_neg h]
/-- What the count is worth. -/
theorem counts_braces (n m : Int) (open' : Bool) (hn : 0 ≤ n ∧ n ≤ 120) (hm : 0 ≤ m ∧ m ≤ 120) (rs : List Int) (hrs : rs = [120, 123] ++ twoI n ++ (if open' then [44, 125] else 44 :: (twoI m ++ [125]))) :
    if (if open' then n ≤ 50 else n ≤ 50 ∧ m ≤ 50 ∧ n ≤ m) then brS rs ⟨2, 0, false⟩ = ⟨rs.length, 0, false⟩ ∧ brA rs ⟨2, 0, false⟩ = n ∧ brB rs ⟨2, 0, false⟩ = (if open' then -1 else m)
    else (brS rs ⟨2, 0, false⟩).bad = true := by
  by_cases h99 : 99 < n
  · -- three digits
    have e : twoI n = [49, 48 + n / 10 % 10, 48 + n % 10] := if_pos h99
    obtain ⟨tl, htl⟩ : ∃ tl, rs = 120 :: 123 :: 49 :: (48 + n / 10 % 10) :: (48 + n % 10) :: tl := ⟨_, by rw [hrs, e]; rfl⟩
    obtain ⟨hN, hS⟩ := num_two (rs := rs) (p := 2) (d := 0) (a := 1) (b := n / 10 % 10) (by rw [htl]; rfl) (by rw [htl]; rfl) (by omega) (by omega)
    have hb : (brS rs ⟨2, 0, false⟩).bad = true := by
      have hx : decide (50 < (1 : Int) * 10 + n / 10 % 10) = false := by simp; omega
      rw [hx] at hS
      have hp : pk rs (numS rs ⟨2, 0, false⟩) = 48 + n % 10 := by rw [hS, pk_at, htl]; rfl
      unfold brS
      rw [if_neg (by rw [hp]; omega)]
      exact wt_no (by rw [hp]; omega)
    rw [if_neg (by split <;> omega)]
    exact hb
  · have e : twoI n = [48 + n / 10 % 10, 48 + n % 10] := if_neg h99
    obtain ⟨tl, htl, htl2⟩ : ∃ tl, rs = 120 :: 123 :: (48 + n / 10 % 10) :: (48 + n % 10) :: 44 :: tl ∧ tl = (if open' then [125] else twoI m ++ [125]) := ⟨_, by rw [hrs, e]; cases open' <;> rfl, rfl⟩
    obtain ⟨hN, hS⟩ := num_two (rs := rs) (p := 2) (d := 0) (a := n / 10 % 10) (b := n % 10) (by rw [htl]; rfl) (by rw [htl]; rfl) (by omega) (by omega)
    have e10 : n / 10 % 10 * 10 + n % 10 = n := by omega
    rw [e10] at hN hS
    by_cases h50 : 50 < n
    · rw [show decide (50 < n) = true by simpa using h50] at hS
      have hp : pk rs (numS rs ⟨2, 0, false⟩) = -1 := by rw [hS]; rfl
      rw [if_neg (by split <;> omega)]
      unfold brS
      rw [if_neg (by rw [hp]; omega)]
      exact wt_no (by rw [hp]; omega)
    · rw [show decide (50 < n) = false by simpa using h50] at hS
      have hp : pk rs (numS rs ⟨2, 0, false⟩) = 44 := by rw [hS, pk_at, htl]; rfl
      have h3 : br3 rs ⟨2, 0, false⟩ = ⟨5, 0, false⟩ := by unfold br3; rw [hS]
      unfold brS brB brA
      rw [if_pos hp, if_pos hp, h3]
      cases open' with
      | true =>
        simp only [if_true] at htl2
        subst htl2
        have hp2 : pk rs ⟨5, 0, false⟩ = 125 := by rw [pk_at, htl]; rfl
        rw [if_pos (by simp; omega), if_pos hp2, if_pos hp2, hN]
        refine ⟨?_, (by first | rfl | trivial), (by first | rfl | trivial)⟩
        unfold wt
        rw [if_pos hp2, htl]
        rfl
      | false =>
        simp only [Bool.false_eq_true, if_false] at htl2 ⊢
        by_cases hm99 : 99 < m
        · have e2 : twoI m = [49, 48 + m / 10 % 10, 48 + m % 10] := if_pos hm99
          rw [e2] at htl2
          subst htl2
          obtain ⟨hN2, hS2⟩ := num_two (rs := rs) (p := 5) (d := 0) (a := 1) (b := m / 10 % 10) (by rw [htl]; rfl) (by rw [htl]; rfl) (by omega) (by omega)
          have hp2 : ¬ pk rs ⟨5, 0, false⟩ = 125 := by rw [pk_at, htl]; show ¬ (49 : Int) = 125; omega
          rw [if_neg (by omega), if_neg hp2]
          have hx : decide (50 < (1 : Int) * 10 + m / 10 % 10) = false := by simp; omega
          rw [hx] at hS2
          refine wt_no ?_
          rw [hS2]
          unfold pk
          split
          · omega
          · rw [htl]; show ¬ 48 + m % 10 = 125; omega
        · have e2 : twoI m = [48 + m / 10 % 10, 48 + m % 10] := if_neg hm99
          rw [e2] at htl2
          subst htl2
          obtain ⟨hN2, hS2⟩ := num_two (rs := rs) (p := 5) (d := 0) (a := m / 10 % 10) (b := m % 10) (by rw [htl]; rfl) (by rw [htl]; rfl) (by omega) (by omega)
          have e11 : m / 10 % 10 * 10 + m % 10 = m := by omega
          rw [e11] at hN2 hS2
          have hp2 : ¬ pk rs ⟨5, 0, false⟩ = 125 := by rw [pk_at, htl]; show ¬ 48 + m / 10 % 10 = 125; omega
          rw [if_neg hp2, if_neg hp2, hS2, hN2, hN]
          simp only
          by_cases hm50 : 50 < m
          · rw [if_neg (by omega), show decide (50 < m) = true by simpa using hm50]
            exact wt_no (by show ¬ (-1 : Int) = 125; omega)
          · rw [show decide (50 < m) = false by simpa using hm50]
            by_cases hlt : m < n
            · rw [if_neg (by omega), show decide (m < n) = true by simpa using hlt]
              exact wt_no (by show ¬ (-1 : Int) = 125; omega)
            · rw [if_pos (by omega), show decide (m < n) = false by simpa using hlt]
              refine ⟨?_, (by first | rfl | trivial), (by first | rfl | trivial)⟩
              have hp3 : pk rs ⟨7, 0, false⟩ = 125 := by rw [pk_at, htl]; rfl
              unfold wt
              rw [show (⟨5 + 2, 0, false || false⟩ : PS) = ⟨7, 0, false⟩ from rfl, if_pos hp3, htl]
              rfl
/-- The answer at a text of one counted x. -/
theorem parse_counts (n m : Int) (open' : Bool) (hn : 0 ≤ n ∧ n ≤ 120) (hm : 0 ≤ m ∧ m ≤ 120) (rs : List Int) (hrs : rs = [120, 123] ++ twoI n ++ (if open' then [44, 125] else 44 :: (twoI m ++ [125]))) :
    parseR rs = if (if open' then n ≤ 50 else n ≤ 50 ∧ m ≤ 50 ∧ n ≤ m) then (⟨6, [], n, (if open' then -1 else m), F.ofL [charT [(120, 120)]]⟩, 0) else (zeroT, 15) := by
  have hb := counts_braces n m open' hn hm rs hrs
  obtain ⟨tl, htl⟩ : ∃ tl, rs = 120 :: 123 :: tl := ⟨_, by rw [hrs]; rfl⟩
  have h0 : pk rs ⟨0, 0, false⟩ = 120 := by rw [pk_at, htl]; rfl
  have h1 : pk rs ⟨1, 0, false⟩ = 123 := by rw [pk_at, htl]; rfl
  have hat : atomP (alts rs 10) rs ⟨0, 0, false⟩ = (charT [(120, 120)], ⟨1, 0, false⟩) := atom_plain (f := alts rs 10) h0 (by omega) (by decide +kernel)
  have hV : cntV rs ⟨1, 0, false⟩ = (brA rs ⟨2, 0, false⟩, brB rs ⟨2, 0, false⟩, true) := by
    unfold cntV; rw [h1]; rfl
  have hS : cntS rs ⟨1, 0, false⟩ = brS rs ⟨2, 0, false⟩ := by
    unfold cntS; rw [h1]; rfl
  have hc : countedP (alts rs 10) rs ⟨0, 0, false⟩ = (⟨6, [], brA rs ⟨2, 0, false⟩, brB rs ⟨2, 0, false⟩, F.ofL [charT [(120, 120)]]⟩, brS rs ⟨2, 0, false⟩) := by
    unfold countedP
    rw [hat]
    simp only
    rw [hV, hS, h0]
    simp
  have hpc : isPc (pk rs ⟨0, 0, false⟩) = true := by rw [h0]; decide
  unfold parseR
  by_cases hok : (if open' then n ≤ 50 else n ≤ 50 ∧ m ≤ 50 ∧ n ≤ m)
  · rw [if_pos hok] at hb ⊢
    obtain ⟨b1, b2, b3⟩ := hb
    rw [b1, b2, b3] at hc
    have := one_end hpc hc (Or.inr (Nat.le_refl _))
    rw [show alts rs 11 = altsP (alts rs 10) rs from rfl, this]
    simp
  · rw [if_neg hok] at hb ⊢
    have := one_end hpc hc (Or.inl hb)
    rw [show alts rs 11 = altsP (alts rs 10) rs from rfl, this, if_pos (Or.inl hb)]
/-! ### The document's examples -/
theorem cnt_none {rs : List Int} {s : PS} (h : pk rs s ≠ 63 ∧ pk rs s ≠ 43 ∧ pk rs s ≠ 42 ∧ pk rs s ≠ 123) : cntV rs s = (0, 0, false) ∧ cntS rs s = s := by
  unfold cntV cntS
  rw [if_neg h.1, if_neg h.2.1, if_neg h.2.2.1, if_neg h.2.2.2, if_neg (by omega), if_neg h.2.2.2]
  exact ⟨rfl, rfl⟩
theorem counted_none {f : PS → T × PS} {rs : List Int} {s s1 : PS} {t : T} (h : atomP f rs s = (t, s1)) (h1 : pk rs s1 ≠ 63 ∧ pk rs s1 ≠ 43 ∧ pk rs s1 ≠ 42 ∧ pk rs s1 ≠ 123) : countedP f rs s = (t, s1) := by
  have h2 := cnt_none h1
  unfold countedP
  rw [h]
  simp only
  rw [h2.1, h2.2]
  rfl
theorem counted_star {f : PS → T × PS} {rs : List Int} {s s1 : PS} {t : T} (h : atomP f rs s = (t, s1)) (h1 : pk rs s1 = 42) (h2 : pk rs s ≠ 94 ∧ pk rs s ≠ 36) : countedP f rs s = (⟨6, [], 0, -1, F.ofL [t]⟩, ⟨s1.pos + 1, s1.deep, s1.bad⟩) := by
  have hV : cntV rs s1 = (0, -1, true) := by unfold cntV; rw [h1]; rfl
  have hS : cntS rs s1 = ⟨s1.pos + 1, s1.deep, s1.bad⟩ := by unfold cntS; rw [h1]; rfl
  unfold countedP
  rw [h]
  simp only
  rw [hV, hS]
  simp [h2.1, h2.2]
def awakeT : T := ⟨5, [], 0, 0, F.ofL [charT [(97, 97)], ⟨6, [], 0, -1, F.ofL [charT [(98, 98)]]⟩]⟩
theorem parse_awake1 : parseR [97, 124, 98, 42] = (awakeT, 0) := by
  have a0 : atomP (alts [97, 124, 98, 42] 10) [97, 124, 98, 42] ⟨0, 0, false⟩ = (charT [(97, 97)], ⟨1, 0, false⟩) := atom_plain (f := alts [97, 124, 98, 42] 10) (rs := [97, 124, 98, 42]) (s := ⟨0, 0, false⟩) (r := 97) rfl (by omega) (by decide +kernel)
  have c0 := counted_none a0 (by decide)
  have p0 := pieces_one (by decide) c0 (by decide)
  have a2 : atomP (alts [97, 124, 98, 42] 10) [97, 124, 98, 42] ⟨2, 0, false⟩ = (charT [(98, 98)], ⟨3, 0, false⟩) := atom_plain (f := alts [97, 124, 98, 42] 10) (rs := [97, 124, 98, 42]) (s := ⟨2, 0, false⟩) (r := 98) rfl (by omega) (by decide +kernel)
  have c2 : countedP (alts [97, 124, 98, 42] 10) [97, 124, 98, 42] ⟨2, 0, false⟩ = (⟨6, [], 0, -1, F.ofL [charT [(98, 98)]]⟩, ⟨4, 0, false⟩) := counted_star a2 (by decide) (by decide)
  have p2 := pieces_one (by decide) c2 (by decide)
  have h : alts [97, 124, 98, 42] 11 ⟨0, 0, false⟩ = (awakeT, ⟨4, 0, false⟩) := by
    rw [show alts [97, 124, 98, 42] 11 = altsP (alts [97, 124, 98, 42] 10) [97, 124, 98, 42] from rfl]
    unfold altsP altR
    rw [p0]
    rw [show ([97, 124, 98, 42] : List Int).length + 9 = 12 + 1 from rfl, altGo_step _ _ (by decide), show tk [97, 124, 98, 42] 124 ⟨1, 0, false⟩ = ⟨2, 0, false⟩ from rfl, p2, altGo_stop _ _ (by decide)]
    rfl
  unfold parseR
  rw [h]
  rfl
theorem counted_bad {f : PS → T × PS} {rs : List Int} {s : PS} (h : (atomP f rs s).2.bad = true) : (countedP f rs s).2.bad = true := by
  have h2 := (cntS_go rs (atomP f rs s).2).bad h
  unfold countedP
  split
  · simp [h2]
  · exact h2
theorem parse_awake2 : parseR [97, 42, 42] = (zeroT, 15) := by
  have a0 : atomP (alts [97, 42, 42] 10) [97, 42, 42] ⟨0, 0, false⟩ = (charT [(97, 97)], ⟨1, 0, false⟩) := atom_plain (f := alts [97, 42, 42] 10) (rs := [97, 42, 42]) (s := ⟨0, 0, false⟩) (r := 97) rfl (by omega) (by decide +kernel)
  have c0 : countedP (alts [97, 42, 42] 10) [97, 42, 42] ⟨0, 0, false⟩ = (⟨6, [], 0, -1, F.ofL [charT [(97, 97)]]⟩, ⟨2, 0, false⟩) := counted_star a0 (by decide) (by decide)
  have ab : (atomP (alts [97, 42, 42] 10) [97, 42, 42] ⟨2, 0, false⟩).2.bad = true := by
    unfold atomP
    rw [if_neg (by decide), if_neg (by decide), if_neg (by decide), if_neg (by decide), if_neg (by decide), if_neg (by decide)]
    simp only [Bool.or_eq_true]
    right
    decide +kernel
  have cb := counted_bad ab
  have h : (alts [97, 42, 42] 11 ⟨0, 0, false⟩).2.bad = true := by
    rw [show alts [97, 42, 42] 11 = altsP (alts [97, 42, 42] 10) [97, 42, 42] from rfl]
    unfold altsP altR
    refine (altGo_go (alts_go _ _) _ _ _).bad ?_
    unfold piecesP pcsR
    rw [show ([97, 42, 42] : List Int).length + 9 = 10 + 1 + 1 from rfl, pcsGo_step _ _ (by decide), c0]
    rw [pcsGo_step _ _ (by decide)]
    exact (pcsGo_go (alts_go _ _) _ _ _).bad cb
  unfold parseR
  rw [if_pos (Or.inl h)]
end Go.Proofs.Ytinogeobkljngaa
