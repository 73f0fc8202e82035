/-
  The plain law of the ring: what it has, as a list, is the reference's list.
-/
import Derived.Test.YtibfioekmpnkgaaRefPut
namespace Go.Proofs.Ytibfioekmpnkgaa
open Go.RowKit
set_option linter.unusedVariables false
set_option linter.unusedSimpArgs false

theorem ticks_add (nx a b : Nat) (hd : Nat → Bool) : ticks nx (a + b) hd = ticks nx a hd ++ ticks (nx + a) b hd := by
  unfold ticks
  rw [List.range_add, List.map_append, List.filter_append, List.map_map]
  congr 2
  exact List.map_congr_left fun i _ => by simp only [Function.comp]; omega
theorem ticks_one (n : Nat) (hd : Nat → Bool) : ticks n 1 hd = if hd n then [n] else [] := by
  unfold ticks; cases h : hd n <;> simp [h]
theorem ticks_mem {nx k : Nat} {hd : Nat → Bool} {t : Nat} (h : t ∈ ticks nx k hd) : nx ≤ t ∧ t < nx + k ∧ hd t = true := by
  have h1 := List.mem_filter.1 h
  obtain ⟨i, hi, rfl⟩ := List.mem_map.1 h1.1
  have := List.mem_range.1 hi
  exact ⟨by omega, by omega, h1.2⟩
theorem ticks_in {nx k : Nat} {hd : Nat → Bool} {t : Nat} (h1 : nx ≤ t) (h2 : t < nx + k) (h3 : hd t = true) : t ∈ ticks nx k hd :=
  List.mem_filter.2 ⟨List.mem_map.2 ⟨t - nx, List.mem_range.2 (by omega), by omega⟩, h3⟩
theorem ticks_congr (nx k : Nat) (hd hd' : Nat → Bool) (h : ∀ t, nx ≤ t → t < nx + k → hd t = hd' t) : ticks nx k hd = ticks nx k hd' := by
  unfold ticks
  refine List.filter_congr fun t ht => ?_
  obtain ⟨i, hi, rfl⟩ := List.mem_map.1 ht
  have := List.mem_range.1 hi
  exact h _ (by omega) (by omega)
theorem ticks_split (nx k n : Nat) (hd : Nat → Bool) (h1 : nx ≤ n) (h2 : n < nx + k) : ticks nx k hd = ticks nx (n - nx) hd ++ ((if hd n then [n] else []) ++ ticks (n + 1) (nx + k - (n + 1)) hd) := by
  have e : k = (n - nx) + (1 + (nx + k - (n + 1))) := by omega
  conv => lhs; rw [e]
  rw [ticks_add, ticks_add, show nx + (n - nx) = n by omega, ticks_one]

def items (nx k : Nat) (hd : Nat → Bool) (it : Nat → ItemV) : List ItemV := (ticks nx k hd).map it
theorem items_length (nx k : Nat) (hd : Nat → Bool) (it : Nat → ItemV) : (items nx k hd it).length ≤ k := by
  unfold items ticks
  rw [List.length_map]
  have := List.length_filter_le hd ((List.range k).map fun i => nx + i)
  simpa using this
theorem items_cells (it : Nat → ItemV) (l : List Nat) : itemCells it l = cellsOf 7 ItemV.cell (l.map it) := by
  unfold itemCells cellsOf
  rw [List.flatMap_map]
  rfl

def Named (hd : Nat → Bool) (it : Nat → ItemV) (nx : Nat) : Prop := ∀ t : Nat, nx ≤ t → hd t = true → (it t).N = t

theorem behind_items {nx k : Nat} {hd : Nat → Bool} {it : Nat → ItemV} (hn : Named hd it nx) (n : Nat) (h1 : nx ≤ n) (h2 : n < nx + k) :
    ahead n (items nx k hd it) = items nx (n - nx) hd it ∧ behind n (items nx k hd it) = (if hd n then [it n] else []) ++ items (n + 1) (nx + k - (n + 1)) hd it := by
  have e : items nx k hd it = items nx (n - nx) hd it ++ ((if hd n then [it n] else []) ++ items (n + 1) (nx + k - (n + 1)) hd it) := by
    unfold items
    conv => lhs; rw [ticks_split nx k n hd h1 h2]
    rw [List.map_append, List.map_append]
    cases hd n <;> rfl
  have hlow : ∀ y ∈ items nx (n - nx) hd it, decide (y.N < (n : Int)) = true := by
    intro y hy
    obtain ⟨t, ht, rfl⟩ := List.mem_map.1 hy
    obtain ⟨a, b, c⟩ := ticks_mem ht
    rw [hn t a c]; simp; omega
  have hhigh : ∀ y ∈ (if hd n then [it n] else []) ++ items (n + 1) (nx + k - (n + 1)) hd it, decide (y.N < (n : Int)) = false := by
    intro y hy
    rcases List.mem_append.1 hy with hy | hy
    · cases hh : hd n
      · rw [hh] at hy; simp at hy
      · rw [hh] at hy; simp at hy; subst hy; rw [hn n h1 hh]; simp
    · obtain ⟨t, ht, rfl⟩ := List.mem_map.1 hy
      obtain ⟨a, b, c⟩ := ticks_mem ht
      rw [hn t (by omega) c]; simp; omega
  unfold ahead behind
  rw [e]
  generalize (if hd n then [it n] else []) ++ items (n + 1) (nx + k - (n + 1)) hd it = B at hhigh
  generalize items nx (n - nx) hd it = A' at hlow
  clear e
  induction A' with
  | nil =>
    cases B with
    | nil => simp
    | cons y B =>
      have := hhigh y List.mem_cons_self
      simp only [List.nil_append, List.takeWhile_cons, List.dropWhile_cons, this]
      simp
  | cons y A' ih =>
    have hy := hlow y List.mem_cons_self
    obtain ⟨i1, i2⟩ := ih (fun z hz => hlow z (List.mem_cons_of_mem _ hz))
    simp only [List.cons_append, List.takeWhile_cons, List.dropWhile_cons, hy, if_true, i1, i2, and_self]

theorem put_same {nx k : Nat} {hd : Nat → Bool} {it : Nat → ItemV} (hn : Named hd it nx) (n : Int) : putR nx k (items nx k hd it) n = putAns nx k hd n := by
  unfold putR putAns
  by_cases h1 : n < nx
  · rw [if_pos h1, if_pos h1]
  rw [if_neg h1, if_neg h1]
  by_cases h2 : (nx : Int) + k ≤ n
  · rw [if_pos h2, if_pos (by omega)]
  rw [if_neg h2, if_neg (by omega)]
  obtain ⟨m, rfl⟩ := Int.eq_ofNat_of_zero_le (show 0 ≤ n by omega)
  rw [(behind_items hn m (by omega) (by omega)).2, Int.toNat_natCast]
  cases hh : hd m
  · simp only [Bool.false_eq_true, if_false, List.nil_append]
    cases hB : items (m + 1) (nx + k - (m + 1)) hd it with
    | nil => rfl
    | cons y B =>
      have hy : y ∈ items (m + 1) (nx + k - (m + 1)) hd it := by rw [hB]; exact List.mem_cons_self
      obtain ⟨t, ht, rfl⟩ := List.mem_map.1 hy
      obtain ⟨a, b, c⟩ := ticks_mem ht
      have := hn t (by omega) c
      simp only [this]
      rw [if_neg (by omega)]
  · have := hn m (by omega) hh
    simp [this]

theorem put_list {nx k : Nat} {hd : Nat → Bool} {it : Nat → ItemV} (hn : Named hd it nx) (x : ItemV) (h0 : putAns nx k hd x.N = 0) :
    putL nx k (items nx k hd it) x = items nx k (fun t => if t = x.N.toNat then true else hd t) (fun t => if t = x.N.toNat then x else it t) ∧
    Named (fun t => if t = x.N.toNat then true else hd t) (fun t => if t = x.N.toNat then x else it t) nx := by
  have hw : ¬ x.N < nx ∧ ¬ (nx : Int) + k ≤ x.N ∧ hd x.N.toNat = false := by
    unfold putAns at h0
    split at h0
    · omega
    · split at h0
      · omega
      · split at h0
        · omega
        · rename_i a b c
          exact ⟨a, b, by simpa using c⟩
  obtain ⟨h1, h2, h3⟩ := hw
  obtain ⟨m, hm⟩ := Int.eq_ofNat_of_zero_le (show 0 ≤ x.N by omega)
  have hmt : x.N.toNat = m := by omega
  rw [hmt] at h3 ⊢
  constructor
  · unfold putL
    rw [if_pos (by rw [put_same hn]; exact h0), hm]
    have hlo : nx ≤ m := by omega
    have hhi : m < nx + k := by omega
    obtain ⟨a, b⟩ := behind_items (k := k) hn m hlo hhi
    rw [a, b, h3]
    simp only [Bool.false_eq_true, if_false, List.nil_append]
    unfold items
    rw [ticks_split nx k m (fun t => if t = m then true else hd t) hlo hhi]
    simp only [if_true, List.map_append, List.map_cons, List.map_nil, List.append_assoc]
    congr 1
    · rw [ticks_congr nx (m - nx) (fun t => if t = m then true else hd t) hd (fun t _ h => by rw [if_neg (by omega)])]
      refine List.map_congr_left fun t ht => ?_
      have hb := (ticks_mem ht).2.1
      have hne : ¬ t = m := by omega
      simp only [hne, if_false]
    · congr 1
      rw [ticks_congr (m + 1) (nx + k - (m + 1)) (fun t => if t = m then true else hd t) hd (fun t h _ => by rw [if_neg (by omega)])]
      refine List.map_congr_left fun t ht => ?_
      have hb := (ticks_mem ht).1
      have hne : ¬ t = m := by omega
      simp only [hne, if_false]
  · intro t ht hh
    simp only at hh ⊢
    by_cases e : t = m
    · rw [if_pos e, hm, e]
    · rw [if_neg e] at hh ⊢; exact hn t ht hh

theorem room_same {nx k : Nat} {hd : Nat → Bool} {it : Nat → ItemV} (hn : Named hd it nx) (n : Int) :
    (decide ((nx : Int) ≤ n ∧ n < nx + k) && !(items nx k hd it).any (fun y => decide (y.N = n))) = (decide ((nx : Int) ≤ n ∧ n < nx + k) && !hd n.toNat) := by
  by_cases hw : (nx : Int) ≤ n ∧ n < nx + k
  · obtain ⟨m, rfl⟩ := Int.eq_ofNat_of_zero_le (show 0 ≤ n by omega)
    congr 2
    rw [Int.toNat_natCast, Bool.eq_iff_iff, List.any_eq_true]
    constructor
    · rintro ⟨y, hy, he⟩
      obtain ⟨t, ht, rfl⟩ := List.mem_map.1 hy
      obtain ⟨a, b, c⟩ := ticks_mem ht
      have := hn t a c
      simp at he
      have : t = m := by omega
      rw [← this]; exact c
    · intro hh
      exact ⟨it m, List.mem_map.2 ⟨m, ticks_in (by omega) (by omega) hh, rfl⟩, by have := hn m (by omega) hh; simpa using this⟩
  · simp [hw]

theorem next_list {nx k : Nat} {hd : Nat → Bool} {it : Nat → ItemV} (hk : 1 ≤ k) (hh : hd nx = true) (hout : hd (nx + k) = false) : items nx k hd it = it nx :: items (nx + 1) k hd it := by
  unfold items
  obtain ⟨j, rfl⟩ : ∃ j, k = 1 + j := ⟨k - 1, by omega⟩
  have e1 : ticks nx (1 + j) hd = nx :: ticks (nx + 1) j hd := by rw [ticks_add, ticks_one, hh]; rfl
  have e2 : ticks (nx + 1) (1 + j) hd = ticks (nx + 1) j hd := by
    rw [Nat.add_comm 1 j, ticks_add, ticks_one, show nx + 1 + j = nx + (1 + j) by omega, hout]; simp
  rw [e1, e2]; rfl
theorem head_no {nx k : Nat} {hd : Nat → Bool} {it : Nat → ItemV} (hn : Named hd it nx) (hh : hd nx = false) : ∀ y : ItemV, (items nx k hd it)[0]? = some y → ¬ y.N = (nx : Int) := by
  intro y hy he
  obtain ⟨t, ht, rfl⟩ := List.mem_map.1 (List.mem_of_getElem? hy)
  obtain ⟨a, b, c⟩ := ticks_mem ht
  have := hn t a c
  have : t = nx := by omega
  rw [this, hh] at c; cases c
end Go.Proofs.Ytibfioekmpnkgaa
