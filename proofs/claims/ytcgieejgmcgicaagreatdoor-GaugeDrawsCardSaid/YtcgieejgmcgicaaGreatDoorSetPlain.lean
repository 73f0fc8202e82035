/-
  Sets of numbers as lists of ranges: the plain laws. No program in sight.
-/
import Derived.Lib.Hide
namespace Go.Proofs.YtcgieejgmcgicaaGreatDoor
set_option linter.unusedVariables false
set_option linter.unusedSimpArgs false

/-- Is a number in one of the ranges? -/
def mem (l : List (Int × Int)) (r : Int) : Bool := l.any fun p => decide (p.1 ≤ r) && decide (r ≤ p.2)
theorem mem_iff (l : List (Int × Int)) (r : Int) : mem l r = true ↔ ∃ p ∈ l, p.1 ≤ r ∧ r ≤ p.2 := by simp [mem]
theorem mem_nil (r : Int) : mem [] r = false := rfl
theorem mem_append (a b : List (Int × Int)) (r : Int) : mem (a ++ b) r = (mem a r || mem b r) := by simp [mem]
theorem mem_one (p : Int × Int) (r : Int) : mem [p] r = (decide (p.1 ≤ r) && decide (r ≤ p.2)) := by simp [mem]
theorem mem_cons (p : Int × Int) (l : List (Int × Int)) (r : Int) : mem (p :: l) r = ((decide (p.1 ≤ r) && decide (r ≤ p.2)) || mem l r) := by simp [mem]
def inAll (r : Int) : Bool := decide (0 ≤ r) && decide (r ≤ 1114111)
def has (l : List (Int × Int)) (r : Int) : Bool := mem l r && inAll r

/-- A set: its ranges in order, with gaps between. -/
def Norm : List (Int × Int) → Prop
  | [] => True
  | p :: l => 0 ≤ p.1 ∧ p.1 ≤ p.2 ∧ p.2 ≤ 1114111 ∧ (∀ q ∈ l, p.2 + 2 ≤ q.1) ∧ Norm l
theorem Norm.tail {p : Int × Int} {l : List (Int × Int)} (h : Norm (p :: l)) : Norm l := h.2.2.2.2
theorem Norm.rng {l : List (Int × Int)} (h : Norm l) : ∀ p ∈ l, 0 ≤ p.1 ∧ p.1 ≤ p.2 ∧ p.2 ≤ 1114111 := by
  induction l with
  | nil => simp
  | cons q l ih =>
    intro p hp
    rcases List.mem_cons.1 hp with rfl | hp
    · exact ⟨h.1, h.2.1, h.2.2.1⟩
    · exact ih h.tail p hp
theorem Norm.mem_all {l : List (Int × Int)} (h : Norm l) (r : Int) (hr : mem l r = true) : 0 ≤ r ∧ r ≤ 1114111 := by
  obtain ⟨p, hp, h1, h2⟩ := (mem_iff l r).1 hr
  have := h.rng p hp
  omega
theorem Norm.has {l : List (Int × Int)} (h : Norm l) (r : Int) : has l r = mem l r := by
  unfold Go.Proofs.YtcgieejgmcgicaaGreatDoor.has
  cases hm : mem l r
  · rfl
  · have := h.mem_all r hm
    simp [inAll, this.1, this.2]
theorem norm_append (l : List (Int × Int)) (q : Int × Int) (h : Norm l) (h1 : 0 ≤ q.1) (h2 : q.1 ≤ q.2) (h3 : q.2 ≤ 1114111) (hq : ∀ p ∈ l, p.2 + 2 ≤ q.1) : Norm (l ++ [q]) := by
  induction l with
  | nil => exact ⟨h1, h2, h3, by simp, trivial⟩
  | cons p l ih =>
    refine ⟨h.1, h.2.1, h.2.2.1, fun x hx => ?_, ih h.tail (fun p hp => hq p (List.mem_cons_of_mem _ hp))⟩
    rcases List.mem_append.1 hx with hx | hx
    · exact h.2.2.2.1 x hx
    · simp at hx; subst hx; exact hq p List.mem_cons_self
theorem norm_last (l : List (Int × Int)) (p : Int × Int) (h : Norm (l ++ [p])) : Norm l ∧ 0 ≤ p.1 ∧ p.1 ≤ p.2 ∧ p.2 ≤ 1114111 ∧ ∀ q ∈ l, q.2 + 2 ≤ p.1 := by
  induction l with
  | nil => exact ⟨trivial, h.1, h.2.1, h.2.2.1, by simp⟩
  | cons q l ih =>
    obtain ⟨a, b, c, d, e⟩ := ih h.tail
    refine ⟨⟨h.1, h.2.1, h.2.2.1, fun x hx => h.2.2.2.1 x (List.mem_append_left _ hx), a⟩, b, c, d, fun x hx => ?_⟩
    rcases List.mem_cons.1 hx with rfl | hx
    · exact h.2.2.2.1 p (by simp)
    · exact e x hx

/-- Two sets that have the same numbers are one list. -/
theorem norm_unique : ∀ (a b : List (Int × Int)), Norm a → Norm b → (∀ r, mem a r = mem b r) → a = b := by
  intro a
  induction a with
  | nil =>
    intro b _ hb h
    cases b with
    | nil => rfl
    | cons q b =>
      have := h q.1
      rw [mem_nil, mem_cons] at this
      have h2 := hb.2.1
      simp [h2] at this
  | cons p a ih =>
    intro b ha hb h
    cases b with
    | nil =>
      have := h p.1
      rw [mem_nil, mem_cons] at this
      have h2 := ha.2.1
      simp [h2] at this
    | cons q b =>
      have hlow : ∀ (p : Int × Int) (l : List (Int × Int)), Norm (p :: l) → ∀ r, mem (p :: l) r = true → p.1 ≤ r := by
        intro p l hn r hr
        obtain ⟨x, hx, h1, h2⟩ := (mem_iff _ r).1 hr
        rcases List.mem_cons.1 hx with rfl | hx
        · exact h1
        · have := hn.2.2.2.1 x hx; have := hn.2.1; omega
      have hfst : ∀ (p : Int × Int) (l : List (Int × Int)), Norm (p :: l) → ∀ r, p.1 ≤ r → r ≤ p.2 → mem (p :: l) r = true := by
        intro p l hn r h1 h2; rw [mem_cons]; simp [h1, h2]
      have hgap : ∀ (p : Int × Int) (l : List (Int × Int)), Norm (p :: l) → mem (p :: l) (p.2 + 1) = false := by
        intro p l hn
        cases hm : mem (p :: l) (p.2 + 1)
        · rfl
        · obtain ⟨x, hx, h1, h2⟩ := (mem_iff _ _).1 hm
          rcases List.mem_cons.1 hx with rfl | hx
          · omega
          · have := hn.2.2.2.1 x hx; omega
      have ha2 := ha.2.1
      have hb2 := hb.2.1
      have e1 : p.1 = q.1 := by
        have h1 := hlow q b hb p.1 (by rw [← h]; exact hfst p a ha p.1 (by omega) (by omega))
        have h2 := hlow p a ha q.1 (by rw [h]; exact hfst q b hb q.1 (by omega) (by omega))
        omega
      have e2 : p.2 = q.2 := by
        rcases Int.lt_trichotomy p.2 q.2 with hlt | he | hlt
        · have h1 := hgap p a ha
          rw [h, hfst q b hb (p.2 + 1) (by omega) (by omega)] at h1
          cases h1
        · exact he
        · have h1 := hgap q b hb
          rw [← h, hfst p a ha (q.2 + 1) (by omega) (by omega)] at h1
          cases h1
      have e : p = q := Prod.ext e1 e2
      subst e
      congr 1
      refine ih b ha.tail hb.tail fun r => ?_
      have hr := h r
      rw [mem_cons, mem_cons] at hr
      by_cases hin : p.1 ≤ r ∧ r ≤ p.2
      · have hz : ∀ l, Norm (p :: l) → mem l r = false := by
          intro l hn
          cases hm : mem l r
          · rfl
          · obtain ⟨x, hx, h1, h2⟩ := (mem_iff _ _).1 hm
            have := hn.2.2.2.1 x hx; omega
        rw [hz a ha, hz b hb]
      · have : (decide (p.1 ≤ r) && decide (r ≤ p.2)) = false := by simp; omega
        simpa [this] using hr

/-- What the statements' own look at a set comes to: range by range, against the one ahead. -/
def chain : List (Int × Int) → Prop
  | [] => True
  | [p] => 0 ≤ p.1 ∧ p.1 ≤ p.2 ∧ p.2 ≤ 1114111
  | p :: q :: l => 0 ≤ p.1 ∧ p.1 ≤ p.2 ∧ p.2 ≤ 1114111 ∧ p.2 + 2 ≤ q.1 ∧ chain (q :: l)
theorem chain_norm : ∀ l, chain l ↔ Norm l := by
  intro l
  induction l with
  | nil => exact Iff.rfl
  | cons p l ih =>
    cases l with
    | nil => simp [chain, Norm]
    | cons q l =>
      constructor
      · rintro ⟨a, b, c, d, e⟩
        have hn := ih.1 e
        refine ⟨a, b, c, fun x hx => ?_, hn⟩
        rcases List.mem_cons.1 hx with rfl | hx
        · exact d
        · have := hn.2.2.2.1 x hx; have := hn.2.1; omega
      · rintro ⟨a, b, c, d, e⟩
        exact ⟨a, b, c, d q List.mem_cons_self, ih.2 e⟩
/-- One range more behind: what the look at place i asks. -/
theorem norm_snoc (l : List (Int × Int)) (q : Int × Int) : Norm (l ++ [q]) ↔ Norm l ∧ 0 ≤ q.1 ∧ q.1 ≤ q.2 ∧ q.2 ≤ 1114111 ∧ ∀ p, l.getLast? = some p → p.2 + 2 ≤ q.1 := by
  constructor
  · intro h
    obtain ⟨a, b, c, d, e⟩ := norm_last l q h
    exact ⟨a, b, c, d, fun p hp => e p (List.mem_of_getLast? hp)⟩
  · rintro ⟨a, b, c, d, e⟩
    refine norm_append l q a b c d ?_
    intro p hp
    rcases List.eq_nil_or_concat l with rfl | ⟨m, x, rfl⟩
    · simp at hp
    · have hx := e x (by simp)
      simp only [List.concat_eq_append] at hp a
      obtain ⟨_, _, h2, _, h4⟩ := norm_last m x a
      rcases List.mem_append.1 hp with hp | hp
      · have := h4 p hp; omega
      · simp at hp; subst hp; exact hx

/-- How many numbers ranges have, one by one. -/
def sumR (l : List (Int × Int)) : Int := (l.map fun p => p.2 - p.1 + 1).sum
theorem sumR_nil : sumR [] = 0 := rfl
theorem sumR_cons (p : Int × Int) (l : List (Int × Int)) : sumR (p :: l) = p.2 - p.1 + 1 + sumR l := by simp [sumR]
theorem sumR_snoc (l : List (Int × Int)) (p : Int × Int) : sumR (l ++ [p]) = sumR l + (p.2 - p.1 + 1) := by simp [sumR]

/-- How many numbers below n there are. -/
def cnt (f : Int → Bool) : Nat → Int
  | 0 => 0
  | n + 1 => cnt f n + if f n then 1 else 0
theorem cnt_congr (f g : Int → Bool) (n : Nat) (h : ∀ r : Int, 0 ≤ r → r < n → f r = g r) : cnt f n = cnt g n := by
  induction n with
  | zero => rfl
  | succ n ih => simp only [cnt]; rw [ih (fun r h1 h2 => h r h1 (by omega)), h n (by omega) (by omega)]
theorem cnt_or_and (f g : Int → Bool) (n : Nat) : cnt (fun r => f r || g r) n + cnt (fun r => f r && g r) n = cnt f n + cnt g n := by
  induction n with
  | zero => rfl
  | succ n ih =>
    simp only [cnt]
    by_cases hf : f n = true <;> by_cases hg : g n = true <;> simp [hf, hg] <;> omega
theorem cnt_not (f : Int → Bool) (n : Nat) : cnt f n + cnt (fun r => !f r) n = n := by
  induction n with
  | zero => rfl
  | succ n ih =>
    simp only [cnt]
    by_cases hf : f n = true <;> simp [hf] <;> omega
theorem cnt_false (n : Nat) : cnt (fun _ => false) n = 0 := by
  induction n with
  | zero => rfl
  | succ n ih => simp [cnt, ih]
theorem cnt_range (a b : Int) (n : Nat) (ha : 0 ≤ a) (hab : a ≤ b + 1) (hb : b < n) : cnt (fun r => decide (a ≤ r) && decide (r ≤ b)) n = b - a + 1 := by
  have key : ∀ m : Nat, cnt (fun r => decide (a ≤ r) && decide (r ≤ b)) m = if (m : Int) ≤ a then 0 else if (m : Int) ≤ b + 1 then (m : Int) - a else b - a + 1 := by
    intro m
    induction m with
    | zero => simp [cnt]; omega
    | succ m ih =>
      simp only [cnt, ih]
      by_cases h1 : a ≤ (m : Int) <;> by_cases h2 : (m : Int) ≤ b <;> simp [h1, h2] <;> (repeat' split) <;> omega
  rw [key]
  split
  · omega
  · split <;> omega
theorem norm_cnt (l : List (Int × Int)) (h : Norm l) : cnt (mem l) 1114112 = sumR l := by
  induction l with
  | nil => exact cnt_false _
  | cons p l ih =>
    rw [sumR_cons, ← ih h.tail, ← cnt_range p.1 p.2 1114112 h.1 (by have := h.2.1; omega) (by have := h.2.2.1; omega)]
    rw [← cnt_or_and]
    have : cnt (fun r => (decide (p.1 ≤ r) && decide (r ≤ p.2)) && mem l r) 1114112 = 0 := by
      rw [← cnt_false 1114112]
      refine cnt_congr _ _ _ fun r _ _ => ?_
      by_cases hin : p.1 ≤ r ∧ r ≤ p.2
      · cases hm : mem l r
        · simp
        · obtain ⟨x, hx, h1, h2⟩ := (mem_iff _ _).1 hm
          have := h.2.2.2.1 x hx; omega
      · have : (decide (p.1 ≤ r) && decide (r ≤ p.2)) = false := by simp; omega
        simp [this]
    rw [this, Int.add_zero]
    exact cnt_congr _ _ _ fun r _ _ => mem_cons p l r
theorem sumR_nonneg (l : List (Int × Int)) (h : Norm l) : 0 ≤ sumR l ∧ sumR l ≤ 1114112 := by
  rw [← norm_cnt l h]
  have key : ∀ (f : Int → Bool) (n : Nat), 0 ≤ cnt f n ∧ cnt f n ≤ n := by
    intro f n
    induction n with
    | zero => simp [cnt]
    | succ n ih => simp only [cnt]; split <;> omega
  exact key _ _

/-- What makes 'out' the set made of ranges. -/
def IsOf (rs out : List (Int × Int)) : Prop := Norm out ∧ ∀ r, mem out r = has rs r
theorem IsOf.unique {rs a b : List (Int × Int)} (ha : IsOf rs a) (hb : IsOf rs b) : a = b := norm_unique a b ha.1 hb.1 fun r => by rw [ha.2, hb.2]
theorem IsOf.self {a : List (Int × Int)} (ha : Norm a) : IsOf a a := ⟨ha, fun r => (ha.has r).symm⟩
end Go.Proofs.YtcgieejgmcgicaaGreatDoor
