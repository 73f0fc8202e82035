/-
  TraceRows, plain words: where marks of a name begin and end, how many, the longest row; no program in sight.
-/
import Derived.Test.YtcgieejgmcgicaaGreatDoorSl
namespace Go.Proofs.YtcgieejgmcgicaaGreatDoor
set_option linter.unusedVariables false
set_option linter.unusedSimpArgs false

/-- Upwards: the first and the last place where q holds. -/
def spanU (q : Nat → Bool) : Nat → Int × Int
  | 0 => (-1, -1)
  | k + 1 => if q k = true then ((if (spanU q k).1 < 0 then (k : Int) else (spanU q k).1), (k : Int)) else spanU q k
/-- Downwards, d places done. -/
def spanD (q : Nat → Bool) (n : Nat) : Nat → Int × Int
  | 0 => (-1, -1)
  | d + 1 => if q (n - 1 - d) = true then (((n - 1 - d : Nat) : Int), (if (spanD q n d).2 < 0 then ((n - 1 - d : Nat) : Int) else (spanD q n d).2)) else spanD q n d
/-- What both say of the places from a on, below b. -/
def Spans (q : Nat → Bool) (a b : Nat) (x : Int × Int) : Prop :=
  (x = (-1, -1) ∧ ∀ m, a ≤ m → m < b → q m = false) ∨
  ∃ i j : Nat, x = ((i : Int), (j : Int)) ∧ a ≤ i ∧ i ≤ j ∧ j < b ∧ q i = true ∧ q j = true ∧ (∀ m, a ≤ m → m < i → q m = false) ∧ (∀ m, j < m → m < b → q m = false)
theorem spanU_spans (q : Nat → Bool) : ∀ k, Spans q 0 k (spanU q k)
  | 0 => .inl ⟨rfl, fun m _ h => by omega⟩
  | k + 1 => by
    have ih := spanU_spans q k
    simp only [spanU]
    by_cases hq : q k = true
    · rw [if_pos hq]
      right
      rcases ih with ⟨h1, h2⟩ | ⟨i, j, h1, h2, h3, h4, h5, h6, h7, h8⟩
      · exact ⟨k, k, by rw [h1]; simp, by omega, by omega, by omega, hq, hq, fun m a b => h2 m a b, fun m a b => by omega⟩
      · refine ⟨i, k, ?_, by omega, by omega, by omega, h5, hq, h7, fun m a b => by omega⟩
        rw [h1]; simp only [Prod.mk.injEq, and_true]; rw [if_neg (by omega)]
    · rw [if_neg hq]
      have hq' : q k = false := by simpa using hq
      rcases ih with ⟨h1, h2⟩ | ⟨i, j, h1, h2, h3, h4, h5, h6, h7, h8⟩
      · exact .inl ⟨h1, fun m a b => by by_cases hm : m = k; · rw [hm]; exact hq'
                                        · exact h2 m a (by omega)⟩
      · exact .inr ⟨i, j, h1, h2, h3, by omega, h5, h6, h7, fun m a b => by by_cases hm : m = k; · rw [hm]; exact hq'
                                                                            · exact h8 m a (by omega)⟩
theorem spanD_spans (q : Nat → Bool) (n : Nat) : ∀ d, d ≤ n → Spans q (n - d) n (spanD q n d)
  | 0, _ => .inl ⟨rfl, fun m _ h => by omega⟩
  | d + 1, hd => by
    have ih := spanD_spans q n d (by omega)
    simp only [spanD]
    have e : n - (d + 1) = n - 1 - d := by omega
    rw [e]
    by_cases hq : q (n - 1 - d) = true
    · rw [if_pos hq]
      right
      rcases ih with ⟨h1, h2⟩ | ⟨i, j, h1, h2, h3, h4, h5, h6, h7, h8⟩
      · exact ⟨n - 1 - d, n - 1 - d, by rw [h1]; simp, by omega, by omega, by omega, hq, hq, fun m a b => by omega, fun m a b => h2 m (by omega) b⟩
      · refine ⟨n - 1 - d, j, ?_, by omega, by omega, h4, hq, h6, fun m a b => by omega, h8⟩
        rw [h1]; simp only [Prod.mk.injEq, true_and]; rw [if_neg (by omega)]
    · rw [if_neg hq]
      have hq' : q (n - 1 - d) = false := by simpa using hq
      rcases ih with ⟨h1, h2⟩ | ⟨i, j, h1, h2, h3, h4, h5, h6, h7, h8⟩
      · exact .inl ⟨h1, fun m a b => by by_cases hm : m = n - 1 - d; · rw [hm]; exact hq'
                                        · exact h2 m (by omega) b⟩
      · exact .inr ⟨i, j, h1, by omega, h3, h4, h5, h6, fun m a b => by by_cases hm : m = n - 1 - d; · rw [hm]; exact hq'
                                                                        · exact h7 m (by omega) b, h8⟩
theorem spans_one {q : Nat → Bool} {a b : Nat} {x y : Int × Int} (h : Spans q a b x) (k : Spans q a b y) : x = y := by
  rcases h with ⟨h1, h2⟩ | ⟨i, j, h1, h2, h3, h4, h5, h6, h7, h8⟩ <;> rcases k with ⟨k1, k2⟩ | ⟨i', j', k1, k2, k3, k4, k5, k6, k7, k8⟩
  · rw [h1, k1]
  · rw [h2 i' k2 (by omega)] at k5; cases k5
  · rw [k2 i h2 (by omega)] at h5; cases h5
  · have e1 : i = i' := by
      rcases Nat.lt_trichotomy i i' with c | c | c
      · rw [k7 i h2 c] at h5; cases h5
      · exact c
      · rw [h7 i' k2 c] at k5; cases k5
    have e2 : j = j' := by
      rcases Nat.lt_trichotomy j j' with c | c | c
      · rw [h8 j' c k4] at k6; cases k6
      · exact c
      · rw [k8 j c h4] at h6; cases h6
    rw [h1, k1, e1, e2]
theorem span_eq (q : Nat → Bool) (n : Nat) : spanU q n = spanD q n n := by
  have h := spanD_spans q n n (Nat.le_refl _)
  rw [Nat.sub_self] at h
  exact spans_one (spanU_spans q n) h
theorem spanU_bd (q : Nat → Bool) (k : Nat) : -1 ≤ (spanU q k).1 ∧ (spanU q k).1 < k + 1 ∧ -1 ≤ (spanU q k).2 ∧ (spanU q k).2 < k + 1 := by
  rcases spanU_spans q k with ⟨h1, _⟩ | ⟨i, j, h1, _, _, _, _⟩ <;> rw [h1] <;> simp <;> omega
theorem spanD_bd (q : Nat → Bool) (n d : Nat) (hd : d ≤ n) : -1 ≤ (spanD q n d).1 ∧ (spanD q n d).1 < n + 1 ∧ -1 ≤ (spanD q n d).2 ∧ (spanD q n d).2 < n + 1 := by
  rcases spanD_spans q n d hd with ⟨h1, _⟩ | ⟨i, j, h1, _, _, _, _⟩ <;> rw [h1] <;> simp <;> omega

/-- How many places below k. -/
def cnt (q : Nat → Bool) : Nat → Nat
  | 0 => 0
  | k + 1 => cnt q k + (if q k = true then 1 else 0)
theorem cnt_le (q : Nat → Bool) : ∀ k, cnt q k ≤ k
  | 0 => Nat.le_refl _
  | k + 1 => by have := cnt_le q k; simp only [cnt]; split <;> omega

/-- Where a row of like things from i on ends. -/
def runEnd (e : Nat → Bool) (n : Nat) : Nat → Nat → Nat
  | 0, k => k
  | f + 1, k => if k < n ∧ e k = true then runEnd e n f (k + 1) else k
theorem runEnd_le (e : Nat → Bool) (n : Nat) : ∀ (f k : Nat), k ≤ n → k ≤ runEnd e n f k ∧ runEnd e n f k ≤ n
  | 0, k, h => ⟨Nat.le_refl _, h⟩
  | f + 1, k, h => by
    simp only [runEnd]
    split
    · rename_i hh
      have := runEnd_le e n f (k + 1) (by omega)
      omega
    · omega
theorem runEnd_in (e : Nat → Bool) (n : Nat) : ∀ (f k m : Nat), k ≤ m → m < runEnd e n f k → e m = true
  | 0, k, m, h1, h2 => by simp only [runEnd] at h2; omega
  | f + 1, k, m, h1, h2 => by
    simp only [runEnd] at h2
    split at h2
    · rename_i hh
      by_cases hk : m = k
      · rw [hk]; exact hh.2
      · exact runEnd_in e n f (k + 1) m (by omega) h2
    · omega
theorem runEnd_out (e : Nat → Bool) (n : Nat) : ∀ (f k : Nat), n - k ≤ f → runEnd e n f k < n → e (runEnd e n f k) = false
  | 0, k, h, h2 => by simp only [runEnd] at h2; omega
  | f + 1, k, h, h2 => by
    simp only [runEnd] at h2 ⊢
    split at h2
    · rename_i hh; rw [if_pos hh]; exact runEnd_out e n f (k + 1) (by omega) h2
    · rename_i hh
      rw [if_neg hh]
      cases he : e k with
      | false => rfl
      | true => exact absurd ⟨h2, he⟩ hh
theorem runEnd_step (e : Nat → Bool) (n f k : Nat) (hf : n - k ≤ f) (hk : k < n) (he : e k = true) : runEnd e n f k = runEnd e n f (k + 1) := by
  cases f with
  | zero => omega
  | succ f =>
    have h1 : runEnd e n (f + 1) k = runEnd e n f (k + 1) := by simp only [runEnd, if_pos (And.intro hk he)]
    rw [h1]
    -- one step more changes nothing
    have more : ∀ (f k : Nat), n - k ≤ f → runEnd e n (f + 1) k = runEnd e n f k := by
      intro f
      induction f with
      | zero => intro k h; simp only [runEnd]; rw [if_neg (by omega)]
      | succ f ih =>
        intro k h
        rw [runEnd]
        conv => rhs; rw [runEnd]
        split
        · exact ih (k + 1) (by omega)
        · rfl
    exact (more f (k + 1) (by omega)).symm
theorem runEnd_stop (e : Nat → Bool) (n f k : Nat) (h : ¬ (k < n ∧ e k = true)) : runEnd e n f k = k := by
  cases f with
  | zero => rfl
  | succ f => simp only [runEnd, if_neg h]
/-- The end of the row that begins at i, of things told by s. -/
def rowEnd (s : Nat → ByteArray) (n i : Nat) : Nat := runEnd (fun k => (s k).toList == (s i).toList) n n i
/-- The longest of the rows from places below k on. -/
def best (s : Nat → ByteArray) (n : Nat) : Nat → ByteArray × Nat
  | 0 => (ByteArray.empty, 0)
  | i + 1 => if rowEnd s n i - i > (best s n i).2 then (s i, rowEnd s n i - i) else best s n i
theorem rowEnd_le (s : Nat → ByteArray) (n i : Nat) (h : i ≤ n) : i ≤ rowEnd s n i ∧ rowEnd s n i ≤ n := runEnd_le _ n n i h
theorem best_le (s : Nat → ByteArray) (n : Nat) : ∀ k, k ≤ n → (best s n k).2 ≤ n
  | 0, _ => Nat.zero_le _
  | k + 1, h => by
    simp only [best]
    split
    · have := rowEnd_le s n k (by omega); simp only; omega
    · exact best_le s n k (by omega)
/-- A row that begins within another one ends where that one ends. -/
theorem rowEnd_same (s : Nat → ByteArray) (n i m : Nat) (hi : i < n) (h1 : i ≤ m) (h2 : m < rowEnd s n i) : rowEnd s n m = rowEnd s n i := by
  have hsm : (s m).toList = (s i).toList := by
    have := runEnd_in (fun k => (s k).toList == (s i).toList) n n i m h1 h2
    simpa using this
  have hle := rowEnd_le s n i (by omega)
  have hle2 := rowEnd_le s n m (by omega)
  rcases Nat.lt_trichotomy (rowEnd s n m) (rowEnd s n i) with c | c | c
  · have h3 := runEnd_out (fun k => (s k).toList == (s m).toList) n n m (by omega) (show rowEnd s n m < n by omega)
    have h4 := runEnd_in (fun k => (s k).toList == (s i).toList) n n i (rowEnd s n m) (by omega) c
    have h3' : ((s (rowEnd s n m)).toList == (s m).toList) = false := h3
    rw [hsm] at h3'
    rw [h3'] at h4; cases h4
  · exact c
  · have h3 := runEnd_out (fun k => (s k).toList == (s i).toList) n n i (by omega) (show rowEnd s n i < n by omega)
    have h4 := runEnd_in (fun k => (s k).toList == (s m).toList) n n m (rowEnd s n i) (by omega) c
    have h4' : ((s (rowEnd s n i)).toList == (s m).toList) = true := h4
    rw [hsm] at h4'
    have h3' : ((s (rowEnd s n i)).toList == (s i).toList) = false := h3
    rw [h3'] at h4'; cases h4'
theorem best_skip (s : Nat → ByteArray) (n i : Nat) (hi : i < n) : ∀ d, i + 1 + d ≤ rowEnd s n i → best s n (i + 1 + d) = best s n (i + 1)
  | 0, _ => rfl
  | d + 1, h => by
    have ih := best_skip s n i hi d (by omega)
    have e : i + 1 + (d + 1) = (i + 1 + d) + 1 := by omega
    rw [e, best, ih, rowEnd_same s n i (i + 1 + d) hi (by omega) (by omega), if_neg]
    have : rowEnd s n i - i ≤ (best s n (i + 1)).2 := by
      simp only [best]
      split
      · exact Nat.le_refl _
      · omega
    omega
theorem best_row (s : Nat → ByteArray) (n i : Nat) (hi : i < n) (h : i < rowEnd s n i) : best s n (rowEnd s n i) = best s n (i + 1) := by
  have := best_skip s n i hi (rowEnd s n i - (i + 1)) (by omega)
  rw [show i + 1 + (rowEnd s n i - (i + 1)) = rowEnd s n i by omega] at this
  exact this
theorem rowEnd_lt (s : Nat → ByteArray) (n i : Nat) (hi : i < n) : i < rowEnd s n i := by
  rcases Nat.lt_or_ge i (rowEnd s n i) with h | h
  · exact h
  · have hle := rowEnd_le s n i (by omega)
    have e : rowEnd s n i = i := by omega
    have h3 := runEnd_out (fun k => (s k).toList == (s i).toList) n n i (by omega) (show rowEnd s n i < n by omega)
    have h3' : ((s (rowEnd s n i)).toList == (s i).toList) = false := h3
    rw [e] at h3'; simp at h3'
end Go.Proofs.YtcgieejgmcgicaaGreatDoor
