/-
  Slices that are read: 'SlOf k enc w v l': in the world w the value v is a slice whose elements, of k cells each, are those of the list l.
-/
import Derived.Test.YtcgieejgmcgicaaGreatDoorLib
namespace Go.Proofs.YtcgieejgmcgicaaGreatDoor
open Go.RowKit
set_option linter.unusedVariables false
set_option linter.unusedSimpArgs false

def SlOf {α : Type} (k : Nat) (enc : α → Nat → Value) (w : World) (v : Value) (l : List α) : Prop :=
  ∃ a cap, v = .slice a l.length cap ∧ (l.length ≤ cap ∧ (a = none → cap = 0)) ∧ l.length ≤ 4611686018427387904 ∧
    (0 < l.length → ∃ b off, a = some ⟨b, off, none⟩ ∧ ∀ i x, l[i]? = some x → ∀ j, j < k → w.cell? ⟨b, off + i * k + j, none⟩ = some (enc x j))

theorem SlOf.keeps {α : Type} {k : Nat} {enc : α → Nat → Value} {S : Nat → Prop} {w w' : World} {v : Value} {l : List α} (h : SlOf k enc w v l) (K : Keeps S w w') (hs : ∀ b, v.ownBlock = some b → ¬ S b) : SlOf k enc w' v l := by
  obtain ⟨a, cap, rfl, hl, hl2, hc⟩ := h
  refine ⟨a, cap, rfl, hl, hl2, fun h0 => ?_⟩
  obtain ⟨b, off, rfl, hcc⟩ := hc h0
  exact ⟨b, off, rfl, fun i x hx j hj => K.cell (hcc i x hx j hj) (hs b rfl)⟩
theorem SlOf.keep {α : Type} {k : Nat} {enc : α → Nat → Value} {w w' : World} {v : Value} {l : List α} (h : SlOf k enc w v l) (K : Keeps (fun _ => False) w w') : SlOf k enc w' v l := h.keeps K (fun _ _ => id)
theorem SlOf.drawN {α : Type} {k : Nat} {enc : α → Nat → Value} {w : World} {v : Value} {l : List α} (h : SlOf k enc w v l) (n : Nat) : SlOf k enc (w.drewN n) v l := h.keep ((Keeps.refl _ _).drawN n)
theorem SlOf.alloc {α : Type} {k : Nat} {enc : α → Nat → Value} {w : World} {v : Value} {l : List α} (h : SlOf k enc w v l) (o : Obj) : SlOf k enc (w.alloc o) v l := h.keep ((Keeps.refl _ _).alloc o)
theorem SlOf.nil {α : Type} (k : Nat) (enc : α → Nat → Value) (w : World) : SlOf k enc w (.slice none 0 0) [] := ⟨none, 0, rfl, ⟨Nat.le_refl _, fun _ => rfl⟩, by simp, fun h => by simp at h⟩

/-- The cells of a list, one behind the other. -/
def cellsOf {α : Type} (k : Nat) (enc : α → Nat → Value) (l : List α) : List Value := l.flatMap fun x => (List.range k).map (enc x)
theorem cellsOf_length {α : Type} (k : Nat) (enc : α → Nat → Value) (l : List α) : (cellsOf k enc l).length = l.length * k := by
  induction l with
  | nil => simp [cellsOf]
  | cons x l ih => simp only [cellsOf, List.flatMap_cons, List.length_append, List.length_map, List.length_range, List.length_cons] at ih ⊢; rw [ih, Nat.add_mul]; omega
theorem cellsOf_append {α : Type} (k : Nat) (enc : α → Nat → Value) (l m : List α) : cellsOf k enc (l ++ m) = cellsOf k enc l ++ cellsOf k enc m := by simp [cellsOf]
theorem cellsOf_get {α : Type} (k : Nat) (enc : α → Nat → Value) (l : List α) : ∀ i x, l[i]? = some x → ∀ j, j < k → (cellsOf k enc l)[i * k + j]? = some (enc x j) := by
  induction l with
  | nil => intro i x hx; simp at hx
  | cons y l ih =>
    intro i x hx j hj
    have e : cellsOf k enc (y :: l) = (List.range k).map (enc y) ++ cellsOf k enc l := by simp [cellsOf]
    rw [e]
    cases i with
    | zero =>
      simp at hx; subst hx
      rw [List.getElem?_append_left (by simp; omega)]; simp [hj]
    | succ i =>
      simp at hx
      rw [List.getElem?_append_right (by simp; rw [Nat.add_mul]; omega)]
      have : (i + 1) * k + j - ((List.range k).map (enc y)).length = i * k + j := by simp; rw [Nat.add_mul]; omega
      rw [this]; exact ih i x hx j hj

theorem SlOf.ofOwn {α : Type} {k : Nat} {enc : α → Nat → Value} {w : World} {base : Nat} {e : TypeId} {v : Value} {l : List α} (h : w.ownsRow base e k v l.length (cellsOf k enc l)) (hl : l.length ≤ 4611686018427387904) : SlOf k enc w v l := by
  rcases h.2 with ⟨rfl, h0⟩ | ⟨g, cap, cur, rfl, hg, hh, hn, hcap, _⟩
  · refine ⟨none, 0, by rw [h0], ⟨by omega, fun _ => rfl⟩, hl, fun hp => by omega⟩
  · refine ⟨_, cap, rfl, ⟨hn, (fun h => by cases h)⟩, hl, fun h0 => ⟨g, 0, rfl, fun i x hx j hj => ?_⟩⟩
    have hi : i < l.length := by
      rcases Nat.lt_or_ge i l.length with hi | hi
      · exact hi
      · rw [List.getElem?_eq_none hi] at hx; cases hx
    have hb : i * k + j < l.length * k := by
      have : (i + 1) * k ≤ l.length * k := Nat.mul_le_mul_right k hi
      rw [Nat.add_mul] at this; omega
    have := h.cellAt (i * k + j) hb
    rw [cellsOf_get k enc l i x hx j hj] at this
    rw [Nat.zero_add]; exact this

theorem cellsOf_inv {α : Type} (k : Nat) (hk : 0 < k) (enc : α → Nat → Value) (l : List α) (j : Nat) (u : Value) (h : (cellsOf k enc l)[j]? = some u) : ∃ x, l[j / k]? = some x ∧ u = enc x (j % k) := by
  have hlt : j < l.length * k := by
    rw [← cellsOf_length k enc l]
    rcases Nat.lt_or_ge j (cellsOf k enc l).length with h1 | h1
    · exact h1
    · rw [List.getElem?_eq_none h1] at h; cases h
  have hd : j / k < l.length := (Nat.div_lt_iff_lt_mul hk).2 hlt
  refine ⟨l[j / k], List.getElem?_eq_getElem hd, ?_⟩
  have := cellsOf_get k enc l (j / k) _ (List.getElem?_eq_getElem hd) (j % k) (Nat.mod_lt _ hk)
  rw [show j / k * k + j % k = j by rw [Nat.mul_comm]; exact Nat.div_add_mod j k, h] at this
  exact Option.some.inj this
/-- The cells one by one, from wherever they lie. -/
theorem SlOf.news {α : Type} {k : Nat} {enc : α → Nat → Value} {w : World} {v : Value} {l : List α} (hk : 0 < k) (h : SlOf k enc w v l) :
    (v = .slice none 0 0 ∧ l = []) ∨ ∃ x cap, v = .slice (some x) l.length cap ∧ ∀ j u, (cellsOf k enc l)[j]? = some u → w.cell? (x.add j) = some u := by
  obtain ⟨a, cap, rfl, ⟨hl, hn⟩, hl2, hc⟩ := h
  cases a with
  | none =>
    have := hn rfl
    subst this
    have h0 : l = [] := List.length_eq_zero_iff.1 (by omega)
    subst h0
    exact Or.inl ⟨rfl, rfl⟩
  | some x =>
    refine Or.inr ⟨x, cap, rfl, fun j u hj => ?_⟩
    obtain ⟨y, hy, rfl⟩ := cellsOf_inv k hk enc l j u hj
    have hp : 0 < l.length := by
      cases l with
      | nil => simp at hy
      | cons _ _ => simp
    obtain ⟨b, off, hb, hcc⟩ := hc hp
    have hb := Option.some.inj hb
    subst hb
    have e := hcc (j / k) y hy (j % k) (Nat.mod_lt _ hk)
    have : (⟨b, off, none⟩ : Addr).add j = ⟨b, off + j / k * k + j % k, none⟩ := by
      unfold Addr.add
      have h2 : j / k * k + j % k = j := by rw [Nat.mul_comm]; exact Nat.div_add_mod j k
      split
      · simp_all
      · simp only [Nat.add_assoc, h2]
    rw [this]; exact e

/-- An integer of 64 bits. -/
def in64 (n : Int) : Prop := -9223372036854775808 ≤ n ∧ n ≤ 9223372036854775807
end Go.Proofs.YtcgieejgmcgicaaGreatDoor
