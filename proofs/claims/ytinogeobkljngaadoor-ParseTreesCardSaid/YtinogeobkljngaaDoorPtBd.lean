/-
  How great a shallow tree can be, and how long it is shown.
-/
import Derived.Test.YtinogeobkljngaaDoorPtOpen
import Derived.Test.YtinogeobkljngaaDoorPaShP
namespace Go.Proofs.YtinogeobkljngaaDoor
open Go.RowKit
set_option linter.unusedVariables false
set_option linter.unusedSimpArgs false
set_option maxRecDepth 100000

theorem join_bound (l : List (List UInt8)) (B : Nat) (h : ∀ x ∈ l, x.length ≤ B) (c : UInt8) : (Lib.join l [c]).length ≤ l.length * (B + 1) := by
  have key : ∀ l : List (List UInt8), (∀ x ∈ l, x.length ≤ B) → Lib.lens l ≤ l.length * B := by
    intro l
    induction l with
    | nil => intro _; simp [Lib.lens]
    | cons y l ih =>
      intro h
      have e : Lib.lens (y :: l) = y.length + Lib.lens l := by simp [Lib.lens]
      have h1 := ih (fun x hx => h x (by simp [hx]))
      have h2 := h y (by simp)
      rw [e, List.length_cons, Nat.succ_mul]; omega
  cases l with
  | nil => simp [Lib.join_nil]
  | cons y l =>
    have h1 := key (y :: l) h
    rw [Lib.join_length]
    simp only [List.length_cons, List.length_nil] at h1 ⊢
    rw [Nat.mul_add]; omega
def bS : Nat → Nat
  | 0 => 0
  | d + 1 => 5 * (bS d + 1)
def bL : Nat → Nat
  | 0 => 0
  | d + 1 => 600 + 5 * (bL d + 1)
theorem size_row (B : Nat) : ∀ L : List T, (∀ k ∈ L, sizeF k.kids ≤ B) → sizeF (F.ofL L) ≤ (L.length * (B + 1) : Nat) := by
  intro L
  induction L with
  | nil => intro _; simp [F.ofL, sizeF]
  | cons t L ih =>
    intro h
    have h1 := ih (fun k hk => h k (by simp [hk]))
    have h2 := h t (by simp)
    simp only [F.ofL, sizeF, List.length_cons, Nat.succ_mul]
    omega
theorem shal_size : ∀ (d : Nat) (t : T), Shal d t → sizeF t.kids ≤ (bS d : Nat) := by
  intro d
  induction d with
  | zero => intro t h; exact h.elim
  | succ d ih =>
    intro t h
    have h1 := size_row (bS d) t.kids.toL (fun k hk => ih k (h.2.2 k hk))
    rw [F.of_to] at h1
    have h2 : t.kids.toL.length * (bS d + 1) ≤ 5 * (bS d + 1) := Nat.mul_le_mul_right _ h.1
    have h3 : bS (d + 1) = 5 * (bS d + 1) := rfl
    omega
theorem shal_len {w : World} {P : Nat → Prop} : ∀ (d : Nat) (t : T) (v : NV), Shal d t → TAt w P v t → (showT t).length ≤ bL d := by
  intro d
  induction d with
  | zero => intro t v h; exact h.elim
  | succ d ih =>
    intro t v h ht
    obtain ⟨ks, hks, hF⟩ := ht.kids
    rw [← F.of_to t.kids] at hF
    have hk : ∀ x ∈ t.kids.toL.map showT, x.length ≤ bL d := by
      intro x hx
      obtain ⟨k, hk, rfl⟩ := List.mem_map.1 hx
      obtain ⟨i, hi⟩ := List.getElem?_of_mem hk
      obtain ⟨v', _, hv'⟩ := FAt.get hF hi
      exact ih k v' (h.2.2 k hk) hv'
    have h1 := join_bound _ _ hk 44
    rw [List.length_map] at h1
    have h2 : t.kids.toL.length * (bL d + 1) ≤ 5 * (bL d + 1) := Nat.mul_le_mul_right _ h.1
    have h3 : bL (d + 1) = 600 + 5 * (bL d + 1) := rfl
    have h4 : ∀ x ∈ t.set.map rangeS, x.length ≤ 41 := by
      intro x hx
      obtain ⟨p, hp, rfl⟩ := List.mem_map.1 hx
      exact (rangeS_len p (ht.set.2 p hp).1 (ht.set.2 p hp).2).1
    have h5 := join_bound _ _ h4 32
    rw [List.length_map] at h5
    have h6 : t.set.length * (41 + 1) ≤ 10 * (41 + 1) := Nat.mul_le_mul_right _ h.2.1
    have m1 := (itoa_len t.mn ht.nn).1
    have m2 := (itoa_len t.mx ht.nx).1
    have e : showT t = nodeS t.op t.set t.mn t.mx (t.kids.toL.map showT) := by rw [← showF_to]; rfl
    rw [e]
    unfold nodeS rangesS shownS
    repeat' split
    all_goals (simp only [List.length_append, List.length_cons, List.length_nil]; omega)
theorem shal5 {t : T} (h : Shal 5 t) : sizeF t.kids ≤ 1000000 := by
  have := shal_size 5 t h
  have e : bS 5 = 3905 := rfl
  omega
theorem shal5_len {w : World} {P : Nat → Prop} {t : T} {v : NV} (h : Shal 5 t) (ht : TAt w P v t) : (showT t).length ≤ 900000 := by
  have := shal_len 5 t v h ht
  have e : bL 5 = 472505 := rfl
  omega
end Go.Proofs.YtinogeobkljngaaDoor
