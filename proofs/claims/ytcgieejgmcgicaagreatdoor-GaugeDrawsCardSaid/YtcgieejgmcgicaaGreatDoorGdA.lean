/-
  GaugeDraws, the plain law: bars.
-/
import Derived.Test.YtcgieejgmcgicaaGreatDoorLib
import Derived.Lib.ItoaNum
namespace Go.Proofs.YtcgieejgmcgicaaGreatDoor
open Go
set_option linter.unusedVariables false
set_option linter.unusedSimpArgs false

/-- A number within its ends. -/
def cl (x : Int) : Nat := (min (max x 0) 1099511627776).toNat
theorem cl_le (x : Int) : cl x ≤ 1099511627776 := by unfold cl; omega
theorem cl_int (x : Int) : ((cl x : Nat) : Int) = min (max x 0) 1099511627776 := by unfold cl; omega
def clAt (l : List Int) (i : Nat) : Nat := cl (l.getD i 0)
theorem clAt_le (l : List Int) (i : Nat) : clAt l i ≤ 1099511627776 := cl_le _
/-- Twice as great, till it is enough. -/
def up : Nat → Nat → Nat → Nat
  | 0, _, k => k
  | f + 1, n, k => if 40 * k < n then up f n (2 * k) else k
def scaleN (l : List Int) : Nat → Nat
  | 0 => 1
  | i + 1 => up 64 (clAt l i) (scaleN l i)
theorem up_ge : ∀ (f n k : Nat), n ≤ 40 * (k * 2 ^ f) → n ≤ 40 * up f n k
  | 0, n, k, h => by simpa [up] using h
  | f + 1, n, k, h => by
    unfold up
    split
    · exact up_ge f n (2 * k) (by
        have : 2 * k * 2 ^ f = k * 2 ^ (f + 1) := by rw [Nat.pow_succ, Nat.mul_comm 2 k, Nat.mul_assoc, Nat.mul_comm 2 (2 ^ f)]
        rw [this]; exact h)
    · omega
theorem up_mono : ∀ (f n k : Nat), k ≤ up f n k
  | 0, n, k => Nat.le_refl _
  | f + 1, n, k => by
    unfold up
    split
    · exact Nat.le_trans (by omega) (up_mono f n (2 * k))
    · exact Nat.le_refl _
theorem up_last : ∀ (f n k : Nat), up f n k = k ∨ ∃ h, up f n k = 2 * h ∧ 40 * h < n ∧ k ≤ h
  | 0, n, k => .inl rfl
  | f + 1, n, k => by
    unfold up
    split
    · rename_i hk
      rcases up_last f n (2 * k) with h | ⟨h, h1, h2, h3⟩
      · exact .inr ⟨k, h, hk, Nat.le_refl _⟩
      · exact .inr ⟨h, h1, h2, by omega⟩
    · exact .inl rfl
theorem scale_pos (l : List Int) : ∀ i, 1 ≤ scaleN l i
  | 0 => Nat.le_refl _
  | i + 1 => Nat.le_trans (scale_pos l i) (up_mono _ _ _)
theorem scale_le (l : List Int) : ∀ i, scaleN l i ≤ 54975581388
  | 0 => by unfold scaleN; decide
  | i + 1 => by
    have h0 := scale_le l i
    have hc := clAt_le l i
    unfold scaleN
    rcases up_last 64 (clAt l i) (scaleN l i) with h | ⟨h, h1, h2, h3⟩
    · rw [h]; exact h0
    · rw [h1]; omega
theorem scale_up (l : List Int) (i : Nat) : clAt l i ≤ 40 * scaleN l (i + 1) := by
  unfold scaleN
  refine up_ge 64 _ _ ?_
  have h0 := scale_pos l i
  have hc := clAt_le l i
  have : 1 * 2 ^ 64 ≤ scaleN l i * 2 ^ 64 := Nat.mul_le_mul_right _ h0
  have h2 : (2 : Nat) ^ 64 = 18446744073709551616 := by decide
  rw [h2] at this ⊢
  omega
theorem scale_mono (l : List Int) {i : Nat} : ∀ j, i ≤ j → scaleN l i ≤ scaleN l j
  | 0, h => by rw [Nat.le_zero.1 h]; exact Nat.le_refl _
  | j + 1, h => by
    by_cases hj : i = j + 1
    · rw [hj]; exact Nat.le_refl _
    · exact Nat.le_trans (scale_mono l j (by omega)) (up_mono _ _ _)
theorem scale_enough (l : List Int) {i n : Nat} (h : i < n) : clAt l i ≤ 40 * scaleN l n :=
  Nat.le_trans (scale_up l i) (Nat.mul_le_mul_left _ (scale_mono l n h))
theorem scale_last (l : List Int) : ∀ m, scaleN l m = 1 ∨ ∃ h j, j < m ∧ scaleN l m = 2 * h ∧ 40 * h < clAt l j ∧ 1 ≤ h
  | 0 => .inl rfl
  | m + 1 => by
    unfold scaleN
    rcases up_last 64 (clAt l m) (scaleN l m) with h | ⟨h, h1, h2, h3⟩
    · rw [h]
      rcases scale_last l m with g | ⟨h, j, g1, g2, g3, g4⟩
      · exact .inl g
      · exact .inr ⟨h, j, by omega, g2, g3, g4⟩
    · exact .inr ⟨h, m, by omega, h1, h2, Nat.le_trans (scale_pos l m) h3⟩
/-- How many signs a bar has. -/
def barN (c k : Nat) : Nat := if c = 0 then 0 else (c - 1) / k + 1
theorem bar_lt {c k j : Nat} (hk : 1 ≤ k) : j * k < c ↔ j < barN c k := by
  unfold barN
  by_cases hc : c = 0
  · rw [if_pos hc]; omega
  · rw [if_neg hc, Nat.lt_succ_iff, Nat.le_div_iff_mul_le (by omega)]; omega
theorem bar_le {c k : Nat} (hk : 1 ≤ k) (h : c ≤ 40 * k) : barN c k ≤ 40 := by
  by_cases h1 : 40 < barN c k
  · have := (bar_lt hk).2 h1; omega
  · omega
theorem bar_pos {c k : Nat} : 0 < barN c k ↔ 0 < c := by
  unfold barN
  split
  · omega
  · exact ⟨fun _ => by omega, fun _ => Nat.succ_pos _⟩
theorem bar_one (c : Nat) : barN c 1 = c := by
  unfold barN
  split
  · omega
  · rw [Nat.div_one]; omega
theorem cl_pos (x : Int) : 0 < cl x ↔ 0 < x := by unfold cl; omega
def wide (l : List Int) (K : Nat) : Nat → Nat
  | 0 => 0
  | i + 1 => max (wide l K i) (barN (clAt l i) K)
def great (l : List Int) : Nat → Int
  | 0 => 0
  | i + 1 => max (great l i) (l.getD i 0)
theorem great_nn (l : List Int) : ∀ i, 0 ≤ great l i
  | 0 => Int.le_refl _
  | i + 1 => by have := great_nn l i; unfold great; omega
theorem great_ge (l : List Int) {i : Nat} : ∀ n, i < n → l.getD i 0 ≤ great l n
  | 0, h => by omega
  | n + 1, h => by
    unfold great
    by_cases hi : i = n
    · subst hi; omega
    · have := great_ge l n (by omega : i < n); omega
theorem great_at (l : List Int) : ∀ n, 0 < great l n → ∃ i, i < n ∧ l.getD i 0 = great l n
  | 0, h => by simp [great] at h
  | n + 1, h => by
    unfold great at h ⊢
    by_cases hm : great l n ≤ l.getD n 0
    · exact ⟨n, by omega, by omega⟩
    · obtain ⟨i, h1, h2⟩ := great_at l n (by omega)
      exact ⟨i, by omega, by omega⟩
theorem wide_ge (l : List Int) (K : Nat) {i : Nat} : ∀ n, i < n → barN (clAt l i) K ≤ wide l K n
  | 0, h => by omega
  | n + 1, h => by
    unfold wide
    by_cases hi : i = n
    · subst hi; exact Nat.le_max_right _ _
    · exact Nat.le_trans (wide_ge l K n (by omega)) (Nat.le_max_left _ _)
theorem wide_le (l : List Int) (K : Nat) (hK : 1 ≤ K) : ∀ n, (∀ i, i < n → clAt l i ≤ 40 * K) → wide l K n ≤ 40
  | 0, h => by unfold wide; omega
  | n + 1, h => by
    unfold wide
    exact Nat.max_le.2 ⟨wide_le l K hK n fun i hi => h i (by omega), bar_le hK (h n (by omega))⟩
theorem drawn_fine (l : List Int) (n : Nat) : (great l n ≤ 40 ∧ ((wide l (scaleN l n) n : Nat) : Int) = max (great l n) 0) ∨ (40 < great l n ∧ 20 < wide l (scaleN l n) n) := by
  by_cases hg : great l n ≤ 40
  · refine .inl ⟨hg, ?_⟩
    have hc : ∀ i, i < n → clAt l i ≤ 40 := fun i hi => by
      have := great_ge l n hi
      unfold clAt cl; omega
    have hs : ∀ m, m ≤ n → scaleN l m = 1 := by
      intro m
      induction m with
      | zero => intro _; rfl
      | succ m ih =>
        intro h
        have := hc m (by omega)
        unfold scaleN
        rw [ih (by omega)]
        unfold up
        rw [if_neg (by omega)]
    rw [hs n (Nat.le_refl _)]
    have hw : ∀ m, m ≤ n → ((wide l 1 m : Nat) : Int) = great l m := by
      intro m
      induction m with
      | zero => intro _; rfl
      | succ m ih =>
        intro h
        have h1 := ih (by omega)
        have h2 := hc m (by omega)
        have h3 := great_nn l m
        unfold wide great
        rw [bar_one]
        unfold clAt cl at h2 ⊢
        omega
    rw [hw n (Nat.le_refl _)]
    have := great_nn l n
    omega
  · refine .inr ⟨by omega, ?_⟩
    obtain ⟨i, hi, he⟩ := great_at l n (by omega)
    have hci : 40 < clAt l i := by unfold clAt cl; omega
    have hen := scale_enough l hi
    rcases scale_last l n with h | ⟨h, j, g1, g2, g3, g4⟩
    · rw [h] at hen; omega
    · have hw := wide_ge l (scaleN l n) n g1
      have hb : 20 < barN (clAt l j) (scaleN l n) := (bar_lt (by omega)).1 (by rw [g2]; omega)
      omega
/-- A line. -/
def lineN (c k : Nat) : List UInt8 := Lib.decDigits c ++ (if c = 0 then [] else 32 :: List.replicate (barN c k) 35)
def lineR (c j : Nat) : List UInt8 := Lib.decDigits c ++ (if j = 0 then [] else 32 :: List.replicate j 35)
theorem line_eq (c k : Nat) : lineN c k = lineR c (barN c k) := by
  unfold lineN lineR
  by_cases hc : c = 0
  · subst hc; simp [barN]
  · have : barN c k ≠ 0 := by have := (@bar_pos c k).2 (by omega); omega
    rw [if_neg hc, if_neg this]
end Go.Proofs.YtcgieejgmcgicaaGreatDoor
