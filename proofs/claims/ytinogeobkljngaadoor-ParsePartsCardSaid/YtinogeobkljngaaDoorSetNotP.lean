/-
  set.Not in plain words.
-/
import Derived.Test.YtinogeobkljngaaDoorSetMerge
namespace Go.Proofs.YtinogeobkljngaaDoor
set_option linter.unusedVariables false
set_option linter.unusedSimpArgs false

structure NotInv (l : List (Int × Int)) (i : Nat) (next : Int) (ns : List (Int × Int)) : Prop where
  nrm : Norm ns
  n0 : 0 ≤ next
  n1 : next ≤ 1114112
  gap : ∀ q ∈ ns, q.2 + 2 ≤ next
  has : ∀ r, mem ns r = (decide (0 ≤ r) && decide (r < next) && !mem (l.take i) r)
  rest : ∀ p ∈ l.drop i, next ≤ p.1
  done : ∀ r, mem (l.take i) r = true → r < next
  len : ns.length ≤ i

theorem NotInv.start (l : List (Int × Int)) (h : Norm l) : NotInv l 0 0 [] :=
  ⟨trivial, by omega, by omega, by simp, fun r => by
    rw [mem_nil]; symm
    have : (decide (0 ≤ r) && decide (r < 0)) = false := by
      rw [Bool.and_eq_false_iff, decide_eq_false_iff_not, decide_eq_false_iff_not]; omega
    rw [this]; rfl,
   fun p hp => (h.rng p (by simpa using hp)).1, fun r hr => by simp [mem] at hr, Nat.le_refl _⟩

theorem norm_drop (l : List (Int × Int)) (h : Norm l) (i : Nat) (p : Int × Int) (hp : l[i]? = some p) : ∀ q ∈ l.drop (i + 1), p.2 + 2 ≤ q.1 := by
  induction l generalizing i with
  | nil => simp at hp
  | cons x l ih =>
    cases i with
    | zero => simp at hp; subst hp; simpa using h.2.2.2.1
    | succ j => simpa using ih h.tail j (by simpa using hp)

theorem NotInv.step {l : List (Int × Int)} {i : Nat} {next : Int} {ns : List (Int × Int)} {p : Int × Int} (h : NotInv l i next ns) (hl : Norm l) (hp : l[i]? = some p) :
    (next < p.1 → NotInv l (i + 1) (p.2 + 1) (ns ++ [(next, p.1 - 1)])) ∧ (¬ next < p.1 → NotInv l (i + 1) (p.2 + 1) ns) := by
  have hr := hl.rng p (List.mem_of_getElem? hp)
  have n0 := h.n0
  have hd : l.drop i = p :: l.drop (i + 1) := by
    have hi := (List.getElem?_eq_some_iff.1 hp)
    obtain ⟨hi, e⟩ := hi
    rw [List.drop_eq_getElem_cons hi, e]
  have hle := h.rest p (by rw [hd]; simp)
  have hsn : l.take (i + 1) = l.take i ++ [p] := by rw [List.take_add_one, hp]; rfl
  have hrest : ∀ q ∈ l.drop (i + 1), p.2 + 1 ≤ q.1 := fun q hq => by have := norm_drop l hl i p hp q hq; omega
  have hdone : ∀ r, mem (l.take (i + 1)) r = true → r < p.2 + 1 := by
    intro r hr'
    rw [hsn, mem_append, mem_one, Bool.or_eq_true, Bool.and_eq_true, decide_eq_true_eq, decide_eq_true_eq] at hr'
    rcases hr' with h1 | h1
    · have := h.done r h1; omega
    · omega
  have hm : ∀ r, next ≤ r → mem (l.take i) r = false := by
    intro r hn
    cases hq : mem (l.take i) r
    · rfl
    · have := h.done r hq; omega
  constructor
  · intro hlt
    refine ⟨norm_append ns _ h.nrm h.n0 (by simp only; omega) (by simp only; omega) h.gap, by omega, by omega, ?_, ?_, hrest, hdone, by simp; exact h.len⟩
    · intro q hq
      rcases List.mem_append.1 hq with hq | hq
      · have := h.gap q hq; omega
      · simp at hq; subst hq; simp only; omega
    · intro r
      rw [mem_append, h.has, hsn, mem_append, mem_one, mem_one]
      by_cases a : r < next
      · have e1 : decide (next ≤ r) = false := by simp; omega
        have e2 : decide (p.1 ≤ r) = false := by simp; omega
        have e3 : decide (r < p.2 + 1) = decide (r < next) := by rw [decide_eq_decide]; omega
        rw [e1, e2, e3]; simp
      · have e0 := hm r (by omega)
        have e1 : decide (r < next) = false := by simp; omega
        rw [e0, e1]
        rw [Bool.eq_iff_iff]
        simp only [Bool.and_false, Bool.false_and, Bool.false_or, Bool.and_eq_true, decide_eq_true_eq, Bool.not_eq_true', Bool.and_eq_false_iff, decide_eq_false_iff_not]
        omega
  · intro hge
    have he : next = p.1 := by omega
    refine ⟨h.nrm, by omega, by omega, fun q hq => by have := h.gap q hq; omega, ?_, hrest, hdone, by have := h.len; omega⟩
    intro r
    rw [h.has, hsn, mem_append, mem_one]
    by_cases a : r < next
    · have e2 : decide (p.1 ≤ r) = false := by simp; omega
      have e3 : decide (r < p.2 + 1) = decide (r < next) := by rw [decide_eq_decide]; omega
      rw [e2, e3]; simp
    · have e0 := hm r (by omega)
      have e1 : decide (r < next) = false := by simp; omega
      rw [e0, e1]
      rw [Bool.eq_iff_iff]
      simp only [Bool.and_false, Bool.false_and, Bool.false_or, Bool.and_eq_true, decide_eq_true_eq, Bool.not_eq_true', Bool.and_eq_false_iff, decide_eq_false_iff_not]
      constructor
      · intro h; cases h
      · intro h; omega

/-- What is not in the ranges rs: a set. -/
def IsNot (rs out : List (Int × Int)) : Prop := Norm out ∧ ∀ r, mem out r = (inAll r && !has rs r)

theorem NotInv.fin {rs l : List (Int × Int)} {next : Int} {ns : List (Int × Int)} (h : NotInv l l.length next ns) (hl : IsOf rs l) :
    (next ≤ 1114111 → IsNot rs (ns ++ [(next, 1114111)])) ∧ (¬ next ≤ 1114111 → IsNot rs ns) := by
  have ht : l.take l.length = l := List.take_length
  have hh := h.has
  have hd := h.done
  rw [ht] at hd
  simp only [ht] at hh
  have hm : ∀ r, next ≤ r → mem l r = false := by
    intro r hn
    cases hq : mem l r
    · rfl
    · have := hd r hq; omega
  constructor
  · intro hle
    refine ⟨norm_append ns _ h.nrm h.n0 (by simp only; omega) (by simp only; omega) h.gap, fun r => ?_⟩
    rw [mem_append, hh, mem_one, ← hl.2]
    unfold inAll
    have n0 := h.n0
    by_cases a : r < next
    · have e1 : decide (next ≤ r) = false := by simp; omega
      have e2 : decide (r ≤ 1114111) = true := by simp; omega
      have e3 : decide (r < next) = true := by simp; omega
      rw [e1, e2, e3]; simp
    · have e0 := hm r (by omega)
      have e1 : decide (r < next) = false := by simp; omega
      have e2 : decide (next ≤ r) = true := by simp; omega
      have e3 : decide (0 ≤ r) = true := by simp; omega
      rw [e0, e1, e2, e3]; simp
  · intro hgt
    refine ⟨h.nrm, fun r => ?_⟩
    rw [hh, ← hl.2]
    unfold inAll
    have n1 := h.n1
    have : decide (r < next) = decide (r ≤ 1114111) := by rw [decide_eq_decide]; omega
    rw [this]
end Go.Proofs.YtinogeobkljngaaDoor
