/-
  Several texts in one: Plain words on worlds for this seat's walks: no program in sight. 'Keeps S w w': what w' has of w's blocks outside S is as it was. Slices that are read: 'SlOf k enc w v l': in the world w the value v is a slice whose elements, of k cells each, are those of the list l. code.Is, Size, length: what they compute; the code point at a text's beginning, in plain Lean. code.length, code.Get: what they compute. code.Get: what it computes.
-/
import Derived.WalkKit
import Derived.WalkSpells
import Derived.WalkLawsBesides
import Derived.Lib.Hide
import Derived.Test.YtpcbfmbpbegjgaaGreatProg
import Derived.Laws.BitsAllLaws
import Derived.Outline
section
namespace Go.Proofs.YtpcbfmbpbegjgaaGreat
open Go.RowKit

/-- Of the blocks that w has, those outside S are in w' as they were; no block has gone. -/
structure Keeps (S : Nat → Prop) (w w' : World) : Prop where
  os : w'.os = w.os
  tape : w'.tape = w.tape
  output : w'.output = w.output
  size : w.heap.size ≤ w'.heap.size
  block : ∀ k, k < w.heap.size → ¬ S k → w'.heap[k]? = w.heap[k]?

theorem Keeps.refl (S : Nat → Prop) (w : World) : Keeps S w w := ⟨rfl, rfl, rfl, Nat.le_refl _, fun _ _ _ => rfl⟩
theorem Keeps.trans {S : Nat → Prop} {a b c : World} (h : Keeps S a b) (k : Keeps S b c) : Keeps S a c :=
  ⟨k.os.trans h.os, k.tape.trans h.tape, k.output.trans h.output, Nat.le_trans h.size k.size,
   fun i hi hs => (k.block i (Nat.lt_of_lt_of_le hi h.size) hs).trans (h.block i hi hs)⟩
theorem Keeps.mono {S T : Nat → Prop} {a b : World} (h : Keeps S a b) (hst : ∀ k, k < a.heap.size → S k → T k) : Keeps T a b :=
  ⟨h.os, h.tape, h.output, h.size, fun i hi hs => h.block i hi (fun hS => hs (hst i hi hS))⟩
theorem Keeps.drawN {S : Nat → Prop} {a b : World} (h : Keeps S a b) (n : Nat) : Keeps S a (b.drewN n) := ⟨h.os, h.tape, h.output, h.size, h.block⟩
theorem Keeps.drew {S : Nat → Prop} {a b : World} (h : Keeps S a b) : Keeps S a b.drew := ⟨h.os, h.tape, h.output, h.size, h.block⟩
theorem Keeps.alloc {S : Nat → Prop} {a b : World} (h : Keeps S a b) (o : Obj) : Keeps S a (b.alloc o) :=
  ⟨h.os, h.tape, h.output, by have := h.size; simp; omega, fun k hk hs => by rw [Below.heap_alloc _ _ _ (by have := h.size; omega)]; exact h.block k hk hs⟩
theorem Keeps.setCell {S : Nat → Prop} {a b : World} (h : Keeps S a b) {p : Addr} (hp : S p.block ∨ a.heap.size ≤ p.block) (u : Value) : Keeps S a (b.setCell p u) :=
  ⟨h.os, h.tape, h.output, by have := h.size; simp [World.setCell]; omega, fun k hk hs => by
    rw [Below.heap_setCell _ _ _ _ (by intro e; subst e; rcases hp with hp | hp; exact hs hp; omega)]; exact h.block k hk hs⟩
theorem Keeps.set {S : Nat → Prop} {a b : World} (h : Keeps S a b) {p : Addr} (hp : S p.block) (u : Value) : Keeps S a (b.setCell p u) := h.setCell (Or.inl hp) u
theorem Keeps.setNew {S : Nat → Prop} {a b : World} (h : Keeps S a b) {p : Addr} (hp : a.heap.size ≤ p.block) (u : Value) : Keeps S a (b.setCell p u) := h.setCell (Or.inr hp) u
/-- Two steps, the second with a set of its own. -/
theorem Keeps.trans2 {S T : Nat → Prop} {a b c : World} (h : Keeps S a b) (k : Keeps T b c) (ht : ∀ i, i < a.heap.size → T i → S i) : Keeps S a c :=
  ⟨k.os.trans h.os, k.tape.trans h.tape, k.output.trans h.output, Nat.le_trans h.size k.size,
   fun i hi hs => (k.block i (Nat.lt_of_lt_of_le hi h.size) (fun hT => hs (ht i hi hT))).trans (h.block i hi hs)⟩
theorem Keeps.below {S : Nat → Prop} {a b : World} (h : Keeps S a b) {B : Nat} (hB : B ≤ a.heap.size) (hs : ∀ k, k < B → ¬ S k) : Below B a b :=
  ⟨h.os, h.tape, h.output, h.size, fun k hk => h.block k (by omega) (hs k hk)⟩
theorem Keeps.ofBelow {B : Nat} {a b : World} (h : Below B a b) : Keeps (fun k => B ≤ k) a b :=
  ⟨h.os, h.tape, h.output, h.size, fun k _ hk => h.block k (by omega)⟩
theorem Keeps.ofBelowAll {a b : World} (h : Below a.heap.size a b) (S : Nat → Prop) : Keeps S a b :=
  ⟨h.os, h.tape, h.output, h.size, fun k hk _ => h.block k hk⟩
theorem Keeps.belowAll {a b : World} (h : Keeps (fun _ => False) a b) : Below a.heap.size a b := h.below (Nat.le_refl _) (fun _ _ => id)

theorem lt_of_cell {w : World} {a : Addr} {v : Value} (h : w.cell? a = some v) : a.block < w.heap.size := by
  unfold World.cell? at h
  split at h
  · rename_i hh; exact (Array.getElem?_eq_some_iff.1 hh).1
  · simp at h
theorem Keeps.cell {S : Nat → Prop} {a b : World} (h : Keeps S a b) {p : Addr} {v : Value} (hc : a.cell? p = some v) (hs : ¬ S p.block) : b.cell? p = some v :=
  (World.cell?_of_block (w := a) (h.block p.block (lt_of_cell hc) hs)).trans hc
theorem Keeps.frozen {S : Nat → Prop} {a b : World} (h : Keeps S a b) {p : Addr} {x : Bool} (hc : a.frozen? p = x) (hl : p.block < a.heap.size) (hs : ¬ S p.block) : b.frozen? p = x :=
  (World.frozen?_of_block (w := a) (h.block p.block hl hs)).trans hc
theorem Keeps.heap {S : Nat → Prop} {a b : World} (h : Keeps S a b) {k : Nat} {o : Obj} (hc : a.heap[k]? = some o) (hs : ¬ S k) : b.heap[k]? = some o :=
  (h.block k (Array.getElem?_eq_some_iff.1 hc).1 hs).trans hc

theorem cell_block {w : World} {b : Nat} {cs : Array Value} {T : TypeId} {fz : Nat × Nat} (h : w.heap[b]? = some (.cells cs T fz)) (o : Nat) : w.cell? ⟨b, o, none⟩ = cs[o]? := by
  unfold World.cell?; simp [h]
theorem frozen_block {w : World} {b : Nat} {cs : Array Value} {T : TypeId} (h : w.heap[b]? = some (.cells cs T (0, 0))) (o : Nat) (s : Option Nat) : w.frozen? ⟨b, o, s⟩ = false := by
  unfold World.frozen?; simp [h]
theorem ownsRow_drawN {w : World} {base : Nat} {e : TypeId} {size : Nat} {v : Value} {n : Nat} {xs : List Value} (h : w.ownsRow base e size v n xs) (k : Nat) : (w.drewN k).ownsRow base e size v n xs := h
theorem ownsRow_alloc {w : World} {base : Nat} {e : TypeId} {size : Nat} {v : Value} {n : Nat} {xs : List Value} (h : w.ownsRow base e size v n xs) (o : Obj) : (w.alloc o).ownsRow base e size v n xs := World.ownsRow.alloc h o
theorem cells_new (w : World) (l : List Value) (T : TypeId) : ∀ (j : Nat) (u : Value), l[j]? = some u → (w.alloc (.cells l.toArray T)).cell? ((⟨w.heap.size, 0, none⟩ : Addr).add j) = some u := by
  intro j u hj
  have : (⟨w.heap.size, 0, none⟩ : Addr).add j = ⟨w.heap.size, j, none⟩ := by unfold Addr.add; split <;> simp_all
  rw [this, cell_block (cs := l.toArray) (T := T) (fz := (0, 0)) (by show (w.heap.push _)[_]? = _; simp)]
  simpa using hj
theorem Keeps.grown {S : Nat → Prop} {a b c : World} {row : Option Nat} (h : Keeps S a b) (hg : b.grownBy c row) (hr : ∀ k, row = some k → S k ∨ a.heap.size ≤ k) : Keeps S a c :=
  ⟨hg.os.trans h.os, hg.tape.trans h.tape, hg.output.trans h.output, Nat.le_trans h.size hg.size, fun k hk hs => by
    rw [hg.block k (Nat.lt_of_lt_of_le hk h.size) (fun e => by rcases hr k e.symm with h1 | h1; exact hs h1; omega)]; exact h.block k hk hs⟩
/-- The one row that an append may write is the call's own. -/
theorem ownBlock_base {w : World} {base : Nat} {e : TypeId} {size : Nat} {v : Value} {n : Nat} {xs : List Value} (h : w.ownsRow base e size v n xs) : ∀ k, v.ownBlock = some k → base ≤ k := by
  rintro k hk
  rcases h.2 with ⟨rfl, _⟩ | ⟨g, cap, cur, rfl, hg, _⟩
  · simp [Value.ownBlock] at hk
  · simp [Value.ownBlock] at hk; omega
theorem ownsRow_slice {w : World} {base : Nat} {e : TypeId} {size : Nat} {v : Value} {n : Nat} {xs : List Value} (h : w.ownsRow base e size v n xs) : ∃ a cap, v = .slice a n cap := by
  rcases h.2 with ⟨rfl, rfl⟩ | ⟨g, cap, cur, rfl, _⟩
  · exact ⟨none, 0, rfl⟩
  · exact ⟨_, cap, rfl⟩
theorem cell_set_other {w : World} {a b : Addr} {v : Value} (h : a ≠ b) : (w.setCell a v).cell? b = w.cell? b := World.cell?_setCell_other w a b v h
theorem cell_set_same {w : World} {a : Addr} {v u : Value} (h : w.cell? a = some u) : (w.setCell a v).cell? a = some v := World.cell?_setCell_same w a v h
theorem frozen_set {w : World} {a b : Addr} {v : Value} : (w.setCell a v).frozen? b = w.frozen? b := World.frozen?_setCell w a b v
theorem alloc_cell {w : World} {a : Addr} {v : Value} (h : w.cell? a = some v) (o : Obj) : (w.alloc o).cell? a = some v :=
  (Keeps.alloc (Keeps.refl (fun _ => False) w) o).cell h id
theorem alloc_frozen {w : World} {a : Addr} {v : Bool} (h : w.frozen? a = v) (hl : a.block < w.heap.size) (o : Obj) : (w.alloc o).frozen? a = v :=
  (Keeps.alloc (Keeps.refl (fun _ => False) w) o).frozen h hl id
/-- A slice of integers that came in. -/
def IsRow (k : IntKind) (w : World) (a : Option Addr) (len cap : Nat) (zs : List Int) : Prop :=
  (a = none ∧ len = 0 ∧ cap = 0 ∧ zs = []) ∨
  ∃ x, a = some x ∧ len ≤ cap ∧ cap ≤ maxLen ∧ zs.length = cap ∧ (∀ i, i < zs.length → w.cell? (x.add i) = some (.int k (zs.getD i 0))) ∧ ∀ n ∈ zs, (Lit.int k n).wf = true

theorem IsRow.cells {k : IntKind} {w : World} {a : Option Addr} {len cap : Nat} {zs : List Int} (h : IsRow k w a len cap zs) (h0 : 0 < len) :
    ∃ b off, a = some ⟨b, off, none⟩ ∧ ∀ i < len, w.cell? ⟨b, off + i, none⟩ = some (.int k (zs.getD i 0)) := by
  rcases h with ⟨_, h, _⟩ | ⟨⟨b, off, spot⟩, rfl, hl, hm, hz, hc, hw⟩
  · omega
  · have h1 := hc 0 (by omega)
    have hs : spot = none := by simpa [Addr.add] using World.cell?_spot h1
    subst hs
    refine ⟨b, off, rfl, fun i hi => ?_⟩
    have h2 := hc i (by omega)
    have : (⟨b, off, none⟩ : Addr).add i = ⟨b, off + i, none⟩ := by unfold Addr.add; split <;> simp_all
    rwa [this] at h2
theorem IsRow.wf {k : IntKind} {w : World} {a : Option Addr} {len cap : Nat} {zs : List Int} (h : IsRow k w a len cap zs) (i : Nat) (hi : i < len) : (Lit.int k (zs.getD i 0)).wf = true := by
  rcases h with ⟨_, h, _⟩ | ⟨x, rfl, hl, hm, hz, hc, hw⟩
  · omega
  · refine hw _ ?_
    rw [List.getD_eq_getElem?_getD, List.getElem?_eq_getElem (by omega)]
    exact List.getElem_mem _
end Go.Proofs.YtpcbfmbpbegjgaaGreat
end
section
namespace Go.Proofs.YtpcbfmbpbegjgaaGreat
open Go.RowKit
set_option linter.unusedVariables false
set_option linter.unusedSimpArgs false

def SlOf {α : Type} (k : Nat) (enc : α → Nat → Value) (w : World) (v : Value) (l : List α) : Prop :=
  ∃ a cap, v = .slice a l.length cap ∧ (l.length ≤ cap ∧ (a = none → cap = 0)) ∧ l.length ≤ 4611686018427387904 ∧
    (0 < l.length → ∃ b off, a = some ⟨b, off, none⟩ ∧ ∀ i x, l[i]? = some x → ∀ j, j < k → w.cell? ⟨b, off + i * k + j, none⟩ = some (enc x j))

theorem SlOf.keeps {α : Type} {k : Nat} {enc : α → Nat → Value} {S : Nat → Prop} {w w' : World} {v : Value} {l : List α} (h : SlOf k enc w v l) (K : Keeps S w w') (hs : ∀ b, v.ownBlock = some b → ¬ S b) : SlOf k enc w' v l := by
  obtain ⟨a, cap, rfl, hl, hl2, hc⟩ := h
  refine ⟨a, cap, rfl, hl, hl2, fun h0 => ?_⟩
  obtain ⟨b, off, rfl, hcc⟩ := hc h0
  exact ⟨b, off, rfl, fun i x hx j hj => K.cell (hcc i x hx j hj) (hs b rfl)⟩
theorem SlOf.keep {α : Type} {k : Nat} {enc : α → Nat → Value} {w w' : World} {v : Value} {l : List α} (h : SlOf k enc w v l) (K : Keeps (fun _ => False) w w') : SlOf k enc w' v l := h.keeps K (fun _ _ => id)
theorem SlOf.drawN {α : Type} {k : Nat} {enc : α → Nat → Value} {w : World} {v : Value} {l : List α} (h : SlOf k enc w v l) (n : Nat) : SlOf k enc (w.drewN n) v l := h.keep ((Keeps.refl _ _).drawN n)
theorem SlOf.alloc {α : Type} {k : Nat} {enc : α → Nat → Value} {w : World} {v : Value} {l : List α} (h : SlOf k enc w v l) (o : Obj) : SlOf k enc (w.alloc o) v l := h.keep ((Keeps.refl _ _).alloc o)
theorem SlOf.nil {α : Type} (k : Nat) (enc : α → Nat → Value) (w : World) : SlOf k enc w (.slice none 0 0) [] := ⟨none, 0, rfl, ⟨Nat.le_refl _, fun _ => rfl⟩, by simp, fun h => by simp at h⟩

/-- The cells of a list, one behind the other. -/
def cellsOf {α : Type} (k : Nat) (enc : α → Nat → Value) (l : List α) : List Value := l.flatMap fun x => (List.range k).map (enc x)
theorem cellsOf_length {α : Type} (k : Nat) (enc : α → Nat → Value) (l : List α) : (cellsOf k enc l).length = l.length * k := by
  induction l with
  | nil => simp [cellsOf]
  | cons x l ih => simp only [cellsOf, List.flatMap_cons, List.length_append, List.length_map, List.length_range, List.length_cons] at ih ⊢; rw [ih, Nat.add_mul]; omega
theorem cellsOf_append {α : Type} (k : Nat) (enc : α → Nat → Value) (l m : List α) : cellsOf k enc (l ++ m) = cellsOf k enc l ++ cellsOf k enc m := by simp [cellsOf]
theorem cellsOf_get {α : Type} (k : Nat) (enc : α → Nat → Value) (l : List α) : ∀ i x, l[i]? = some x → ∀ j, j < k → (cellsOf k enc l)[i * k + j]? = some (enc x j) := by
  induction l with
  | nil => intro i x hx; simp at hx
  | cons y l ih =>
    intro i x hx j hj
    have e : cellsOf k enc (y :: l) = (List.range k).map (enc y) ++ cellsOf k enc l := by simp [cellsOf]
    rw [e]
    cases i with
    | zero =>
      simp at hx; subst hx
      rw [List.getElem?_append_left (by simp; omega)]; simp [hj]
    | succ i =>
      simp at hx
      rw [List.getElem?_append_right (by simp; rw [Nat.add_mul]; omega)]
      have : (i + 1) * k + j - ((List.range k).map (enc y)).length = i * k + j := by simp; rw [Nat.add_mul]; omega
      rw [this]; exact ih i x hx j hj

theorem SlOf.ofOwn {α : Type} {k : Nat} {enc : α → Nat → Value} {w : World} {base : Nat} {e : TypeId} {v : Value} {l : List α} (h : w.ownsRow base e k v l.length (cellsOf k enc l)) (hl : l.length ≤ 4611686018427387904) : SlOf k enc w v l := by
  rcases h.2 with ⟨rfl, h0⟩ | ⟨g, cap, cur, rfl, hg, hh, hn, hcap, _⟩
  · refine ⟨none, 0, by rw [h0], ⟨by omega, fun _ => rfl⟩, hl, fun hp => by omega⟩
  · refine ⟨_, cap, rfl, ⟨hn, (fun h => by cases h)⟩, hl, fun h0 => ⟨g, 0, rfl, fun i x hx j hj => ?_⟩⟩
    have hi : i < l.length := by
      rcases Nat.lt_or_ge i l.length with hi | hi
      · exact hi
      · rw [List.getElem?_eq_none hi] at hx; cases hx
    have hb : i * k + j < l.length * k := by
      have : (i + 1) * k ≤ l.length * k := Nat.mul_le_mul_right k hi
      rw [Nat.add_mul] at this; omega
    have := h.cellAt (i * k + j) hb
    rw [cellsOf_get k enc l i x hx j hj] at this
    rw [Nat.zero_add]; exact this

theorem cellsOf_inv {α : Type} (k : Nat) (hk : 0 < k) (enc : α → Nat → Value) (l : List α) (j : Nat) (u : Value) (h : (cellsOf k enc l)[j]? = some u) : ∃ x, l[j / k]? = some x ∧ u = enc x (j % k) := by
  have hlt : j < l.length * k := by
    rw [← cellsOf_length k enc l]
    rcases Nat.lt_or_ge j (cellsOf k enc l).length with h1 | h1
    · exact h1
    · rw [List.getElem?_eq_none h1] at h; cases h
  have hd : j / k < l.length := (Nat.div_lt_iff_lt_mul hk).2 hlt
  refine ⟨l[j / k], List.getElem?_eq_getElem hd, ?_⟩
  have := cellsOf_get k enc l (j / k) _ (List.getElem?_eq_getElem hd) (j % k) (Nat.mod_lt _ hk)
  rw [show j / k * k + j % k = j by rw [Nat.mul_comm]; exact Nat.div_add_mod j k, h] at this
  exact Option.some.inj this
/-- The cells one by one, from wherever they lie. -/
theorem SlOf.news {α : Type} {k : Nat} {enc : α → Nat → Value} {w : World} {v : Value} {l : List α} (hk : 0 < k) (h : SlOf k enc w v l) :
    (v = .slice none 0 0 ∧ l = []) ∨ ∃ x cap, v = .slice (some x) l.length cap ∧ ∀ j u, (cellsOf k enc l)[j]? = some u → w.cell? (x.add j) = some u := by
  obtain ⟨a, cap, rfl, ⟨hl, hn⟩, hl2, hc⟩ := h
  cases a with
  | none =>
    have := hn rfl
    subst this
    have h0 : l = [] := List.length_eq_zero_iff.1 (by omega)
    subst h0
    exact Or.inl ⟨rfl, rfl⟩
  | some x =>
    refine Or.inr ⟨x, cap, rfl, fun j u hj => ?_⟩
    obtain ⟨y, hy, rfl⟩ := cellsOf_inv k hk enc l j u hj
    have hp : 0 < l.length := by
      cases l with
      | nil => simp at hy
      | cons _ _ => simp
    obtain ⟨b, off, hb, hcc⟩ := hc hp
    have hb := Option.some.inj hb
    subst hb
    have e := hcc (j / k) y hy (j % k) (Nat.mod_lt _ hk)
    have : (⟨b, off, none⟩ : Addr).add j = ⟨b, off + j / k * k + j % k, none⟩ := by
      unfold Addr.add
      have h2 : j / k * k + j % k = j := by rw [Nat.mul_comm]; exact Nat.div_add_mod j k
      split
      · simp_all
      · simp only [Nat.add_assoc, h2]
    rw [this]; exact e

/-- An integer of 64 bits. -/
def in64 (n : Int) : Prop := -9223372036854775808 ≤ n ∧ n ≤ 9223372036854775807
end Go.Proofs.YtpcbfmbpbegjgaaGreat
end
section
namespace Go.Proofs.YtpcbfmbpbegjgaaGreat
open Go.RowKit
set_option linter.unusedVariables false
set_option linter.unusedSimpArgs false
set_option maxRecDepth 100000

def isB (r : Int) : Bool := decide (0 ≤ r) && decide (r ≤ 1114111) && (decide (r < 55296) || decide (57344 ≤ r))
def sizP (r : Int) : Int := if isB r then (if r < 128 then 1 else if r < 2048 then 2 else if r < 65536 then 3 else 4) else 0
def lenP (c : Nat) : Nat := if c < 128 then 1 else if 194 ≤ c ∧ c < 224 then 2 else if 224 ≤ c ∧ c < 240 then 3 else if 240 ≤ c ∧ c < 245 then 4 else 0

theorem is_any (r : Int) (w : World) : Calls Tryz.prog 33 #[.int .i64 r] w fun e w' => e = .returned (.bool (isB r)) ∧ w = w' := by
  by_cases h0 : 0 ≤ r
  · by_cases h1 : r ≤ 1114111
    · have g0 : decide (0 ≤ r) = true := by simpa using h0
      have g1 : decide (r ≤ 1114111) = true := by simpa using h1
      by_cases h2 : r < 55296
      · have e : isB r = true := by simp [isB, h0, h1, h2]
        have g2 : decide (r < 55296) = true := by simpa using h2
        rw [e]
        go_enter Tryz.func33, Tryz.ntmps33
        go_wp2_with fail
        go_ret
        exact ⟨rfl, rfl⟩
      · have g2 : decide (r < 55296) = false := by simp; omega
        by_cases h3 : 57344 ≤ r
        · have e : isB r = true := by simp [isB, h0, h1, h3]
          have g3 : decide (57344 ≤ r) = true := by simpa using h3
          rw [e]
          go_enter Tryz.func33, Tryz.ntmps33
          go_wp2_with fail
          go_ret
          exact ⟨rfl, rfl⟩
        · have e : isB r = false := by simp [isB, h2]; omega
          have g3 : decide (57344 ≤ r) = false := by simp; omega
          rw [e]
          go_enter Tryz.func33, Tryz.ntmps33
          go_wp2_with fail
          go_ret
          exact ⟨rfl, rfl⟩
    · have e : isB r = false := by simp [isB]; omega
      have g0 : decide (0 ≤ r) = true := by simpa using h0
      have g1 : decide (r ≤ 1114111) = false := by simp; omega
      rw [e]
      go_enter Tryz.func33, Tryz.ntmps33
      go_wp2_with fail
      go_ret
      exact ⟨rfl, rfl⟩
  · have e : isB r = false := by simp [isB]; omega
    have g0 : decide (0 ≤ r) = false := by simp; omega
    rw [e]
    go_enter Tryz.func33, Tryz.ntmps33
    go_wp2_with fail
    go_ret
    exact ⟨rfl, rfl⟩

theorem size_any (r : Int) (w : World) : Calls Tryz.prog 13 #[.int .i64 r] w fun e w' => e = .returned (.int .i64 (sizP r)) ∧ w = w' := by
  have HI := Lib.hid (fun W => is_any r W)
  have He : Hid (sizP r = if isB r then (if r < 128 then 1 else if r < 2048 then 2 else if r < 65536 then 3 else 4) else 0) := Lib.hid rfl
  generalize sizP r = q at He
  cases hb : isB r with
  | false =>
    rw [hb] at HI He
    simp only [Bool.false_eq_true, if_false] at He
    clear hb
    go_enter Tryz.func13, Tryz.ntmps13
    go_wp2_with fail
    refine (HI.out _).mono ?_
    rintro e w1 ⟨rfl, rfl⟩
    go_wp2_with fail
    go_ret
    exact ⟨by rw [He.out]; rfl, rfl⟩
  | true =>
    rw [hb] at HI He
    simp only [if_true] at He
    clear hb
    by_cases h1 : r < 128
    · have E : Hid (q = 1) := Lib.hid (by rw [He.out, if_pos h1])
      clear He
      go_enter Tryz.func13, Tryz.ntmps13
      go_wp2_with fail
      refine (HI.out _).mono ?_
      rintro e w1 ⟨rfl, rfl⟩
      go_wp2_with fail
      go_ret
      exact ⟨by rw [E.out]; rfl, rfl⟩
    · have g1 : decide (r < 128) = false := by simp; omega
      by_cases h2 : r < 2048
      · have E : Hid (q = 2) := Lib.hid (by rw [He.out, if_neg h1, if_pos h2])
        clear He
        go_enter Tryz.func13, Tryz.ntmps13
        go_wp2_with fail
        refine (HI.out _).mono ?_
        rintro e w1 ⟨rfl, rfl⟩
        go_wp2_with fail
        go_ret
        exact ⟨by rw [E.out]; rfl, rfl⟩
      · have g2 : decide (r < 2048) = false := by simp; omega
        by_cases h3 : r < 65536
        · have E : Hid (q = 3) := Lib.hid (by rw [He.out, if_neg h1, if_neg h2, if_pos h3])
          clear He
          go_enter Tryz.func13, Tryz.ntmps13
          go_wp2_with fail
          refine (HI.out _).mono ?_
          rintro e w1 ⟨rfl, rfl⟩
          go_wp2_with fail
          go_ret
          exact ⟨by rw [E.out]; rfl, rfl⟩
        · have g3 : decide (r < 65536) = false := by simp; omega
          have E : Hid (q = 4) := Lib.hid (by rw [He.out, if_neg h1, if_neg h2, if_neg h3])
          clear He
          go_enter Tryz.func13, Tryz.ntmps13
          go_wp2_with fail
          refine (HI.out _).mono ?_
          rintro e w1 ⟨rfl, rfl⟩
          go_wp2_with fail
          go_ret
          exact ⟨by rw [E.out]; rfl, rfl⟩
end Go.Proofs.YtpcbfmbpbegjgaaGreat
end
section
namespace Go.Proofs.YtpcbfmbpbegjgaaGreat
open Go.RowKit
set_option linter.unusedVariables false
set_option linter.unusedSimpArgs false
set_option maxRecDepth 100000

theorem ofInt_i64 (a : Nat) (ha : a < 9223372036854775808) : (BitVec.ofInt 64 (a : Int)).toNat = a := by
  rw [BitVec.ofInt_natCast, BitVec.toNat_ofNat]; exact Nat.mod_eq_of_lt (by omega)
theorem or_64 (a b : Nat) (ha : a < 1099511627776) (hb : b < 64) : bits .or .i64 ((a : Int) * 64) (b : Int) = (a : Int) * 64 + b := by
  have e : (a : Int) * 64 = ((a * 64 : Nat) : Int) := by omega
  rw [e]
  show IntKind.i64.wrap ((BitVec.ofInt 64 ((a * 64 : Nat) : Int) ||| BitVec.ofInt 64 (b : Int)).toNat : Int) = _
  rw [BitVec.toNat_or, ofInt_i64 _ (by omega), ofInt_i64 _ (by omega)]
  have h := Nat.shiftLeft_add_eq_or_of_lt (i := 6) (show b < 2 ^ 6 by omega) a
  rw [Nat.shiftLeft_eq] at h
  rw [show a * 64 = a * 2 ^ 6 by omega, ← h, IntKind.wrap_i64]
  omega
theorem and_pow (n k : Nat) (hk : k < 16) (hn : n < 256) : bits .and .i64 (n : Int) ((2 ^ k - 1 : Nat) : Int) = ((n % 2 ^ k : Nat) : Int) := by
  have hp : 2 ^ k ≤ 2 ^ 16 := Nat.pow_le_pow_right (by omega) (by omega)
  show IntKind.i64.wrap ((BitVec.ofInt 64 (n : Int) &&& BitVec.ofInt 64 ((2 ^ k - 1 : Nat) : Int)).toNat : Int) = _
  rw [BitVec.toNat_and, ofInt_i64 _ (by omega), ofInt_i64 _ (by omega), Nat.and_two_pow_sub_one_eq_mod, IntKind.wrap_i64]
  have : n % 2 ^ k ≤ n := Nat.mod_le _ _
  omega

def tailP (r : Nat) : List UInt8 → Option Nat
  | [] => some r
  | c :: l => if c.toNat / 64 = 2 then tailP (r * 64 + c.toNat % 64) l else none
def headP (c : UInt8) : Nat := if 1 < lenP c.toNat then c.toNat % 2 ^ (7 - lenP c.toNat) else c.toNat
def getP : List UInt8 → Int × Nat
  | [] => (65533, 0)
  | c :: l => if lenP c.toNat = 0 ∨ l.length + 1 < lenP c.toNat then (65533, 1) else
    match tailP (headP c) (l.take (lenP c.toNat - 1)) with
    | none => (65533, 1)
    | some r => if sizP r = lenP c.toNat then (r, lenP c.toNat) else (65533, 1)

theorem length_any (c : Nat) (w : World) (hc : c < 256) : Calls Tryz.prog 32 #[.int .u8 (c : Int)] w fun e w' => e = .returned (.int .i64 (lenP c)) ∧ w = w' := by
  have He : Hid (lenP c = if c < 128 then 1 else if 194 ≤ c ∧ c < 224 then 2 else if 224 ≤ c ∧ c < 240 then 3 else if 240 ≤ c ∧ c < 245 then 4 else 0) := Lib.hid rfl
  generalize lenP c = q at *
  have gg : (c < 128 ∧ q = 1) ∨ (128 ≤ c ∧ c < 194 ∧ q = 0) ∨ (194 ≤ c ∧ c < 224 ∧ q = 2) ∨ (224 ≤ c ∧ c < 240 ∧ q = 3) ∨ (240 ≤ c ∧ c < 245 ∧ q = 4) ∨ (245 ≤ c ∧ q = 0) := by
    have h := He.out
    split at h
    · left; omega
    · split at h
      · omega
      · split at h
        · omega
        · split at h <;> omega
  clear He
  rcases gg with ⟨h1, rfl⟩ | ⟨h1, h2, rfl⟩ | ⟨h1, h2, rfl⟩ | ⟨h1, h2, rfl⟩ | ⟨h1, h2, rfl⟩ | ⟨h1, rfl⟩
  · have g1 : decide ((c : Int) < 128) = true := by simp; omega
    go_enter Tryz.func32, Tryz.ntmps32
    go_wp2_with fail
    go_ret
    exact ⟨rfl, rfl⟩
  all_goals
    have g1 : decide ((c : Int) < 128) = false := by simp; omega
    obtain ⟨b1, e1⟩ : ∃ b, decide ((194 : Int) ≤ (c : Int)) = b := ⟨_, rfl⟩
    obtain ⟨b2, e2⟩ : ∃ b, decide ((c : Int) < 224) = b := ⟨_, rfl⟩
    obtain ⟨b3, e3⟩ : ∃ b, decide ((224 : Int) ≤ (c : Int)) = b := ⟨_, rfl⟩
    obtain ⟨b4, e4⟩ : ∃ b, decide ((c : Int) < 240) = b := ⟨_, rfl⟩
    obtain ⟨b5, e5⟩ : ∃ b, decide ((240 : Int) ≤ (c : Int)) = b := ⟨_, rfl⟩
    obtain ⟨b6, e6⟩ : ∃ b, decide ((c : Int) < 245) = b := ⟨_, rfl⟩
    cases b1 <;> cases b2 <;> cases b3 <;> cases b4 <;> cases b5 <;> cases b6 <;> first | (exfalso; simp at e1 e2 e3 e4 e5 e6; omega) | skip
    all_goals
      go_enter Tryz.func32, Tryz.ntmps32
      go_wp2_with fail
      go_ret
      exact ⟨rfl, rfl⟩
def encB (c : UInt8) (_ : Nat) : Value := .int .u8 c.toNat
end Go.Proofs.YtpcbfmbpbegjgaaGreat
end
section
namespace Go.Proofs.YtpcbfmbpbegjgaaGreat
open Go.RowKit
set_option linter.unusedVariables false
set_option linter.unusedSimpArgs false
set_option maxRecDepth 100000

def GetR (r0 : Nat) (L : List UInt8) (rv iv : Value) : Prop :=
  ∃ (i r : Nat), iv = .int .i64 i ∧ i ≤ L.length ∧ rv = .int .i64 r ∧ r < 128 * 64 ^ i ∧ tailP r0 L = tailP r (L.drop i)
theorem headP_lt (c : UInt8) : headP c < 128 ∨ True := Or.inr trivial

set_option maxHeartbeats 2000000 in
theorem get_none (a : Option Addr) (cap : Nat) (w : World) : Calls Tryz.prog 12 #[.slice a 0 cap] w fun e w' => e = .returned (.tuple #[.int .i64 65533, .int .i64 0]) ∧ w = w' := by
  go_enter Tryz.func12, Tryz.ntmps12
  go_wp2_with fail
  go_ret2
  exact ⟨rfl, rfl⟩

set_option maxHeartbeats 2000000 in
theorem get_some (b off cap n : Nat) (c : UInt8) (l : List UInt8) (w : World) (hn : n = l.length + 1) (hcap : n ≤ cap)
    (hc : ∀ i x, (c :: l)[i]? = some x → w.cell? ⟨b, off + i, none⟩ = some (.int .u8 (x.toNat : Int))) :
    Calls Tryz.prog 12 #[.slice (some ⟨b, off, none⟩) n cap] w fun e w' => e = .returned (.tuple #[.int .i64 (getP (c :: l)).1, .int .i64 ((getP (c :: l)).2 : Int)]) ∧ w = w' := by
  have hc8 := c.toNat_lt
  have c0 := hc 0 c rfl
  simp only [Nat.add_zero] at c0
  have HC := Lib.hid hc
  clear hc
  have HL := Lib.hid (fun W => length_any c.toNat W (by omega))
  have hn1 : 1 ≤ n := by omega
  have hn0 : ((n : Int) == 0) = false := by simp; omega
  have Hn := Lib.hid hn
  have Hg : Hid (getP (c :: l) = if lenP c.toNat = 0 ∨ l.length + 1 < lenP c.toNat then (65533, 1) else
    match tailP (headP c) (l.take (lenP c.toNat - 1)) with
    | none => (65533, 1)
    | some r => if sizP r = lenP c.toNat then ((r : Int), lenP c.toNat) else (65533, 1)) := Lib.hid rfl
  generalize getP (c :: l) = G at *
  have Hh : Hid (headP c = if 1 < lenP c.toNat then c.toNat % 2 ^ (7 - lenP c.toNat) else c.toNat) := Lib.hid rfl
  clear hn
  have hq : lenP c.toNat = 0 ∨ lenP c.toNat = 1 ∨ lenP c.toNat = 2 ∨ lenP c.toNat = 3 ∨ lenP c.toNat = 4 := by
    unfold lenP; split; · omega
    · split; · omega
      · split; · omega
        · split <;> omega
  by_cases hbad : lenP c.toNat = 0 ∨ n < lenP c.toNat
  · have E : Hid (G = (65533, 1)) := Lib.hid (by rw [Hg.out]; exact if_pos (by have := Hn.out; omega))
    clear Hg Hh
    generalize lenP c.toNat = q at *
    by_cases h0 : q = 0
    · subst h0
      go_enter Tryz.func12, Tryz.ntmps12
      go_wp2_with fail
      refine (HL.out _).mono ?_
      rintro e w1 ⟨rfl, rfl⟩
      go_wp2_with fail
      go_ret2
      exact ⟨by rw [E.out]; rfl, rfl⟩
    · have g1 : ((q : Int) == 0) = false := by simp; omega
      have g2 : decide ((n : Int) < (q : Int)) = true := by simp; omega
      have g3 : decide (n < q) = true := by simp; omega
      clear hbad hq
      go_enter Tryz.func12, Tryz.ntmps12
      go_wp2_with fail
      refine (HL.out _).mono ?_
      rintro e w1 ⟨rfl, rfl⟩
      go_wp2_with fail
      go_ret2
      exact ⟨by rw [E.out]; rfl, rfl⟩
  · have E : Hid (G = match tailP (headP c) (l.take (lenP c.toNat - 1)) with
    | none => (65533, 1)
    | some r => if sizP r = lenP c.toNat then ((r : Int), lenP c.toNat) else (65533, 1)) := Lib.hid (by rw [Hg.out]; exact if_neg (by have := Hn.out; omega))
    clear Hg
    have hL : (l.take (lenP c.toNat - 1)).length = lenP c.toNat - 1 := by rw [List.length_take]; have := Hn.out; omega
    have HcL : Hid (∀ i x, (l.take (lenP c.toNat - 1))[i]? = some x → w.cell? ⟨b, off + 1 + i, none⟩ = some (.int .u8 (x.toNat : Int))) := Lib.hid (fun i x hx => by
      rw [show off + 1 + i = off + (i + 1) by omega]
      refine HC.out (i + 1) x ?_
      rw [List.getElem?_take] at hx
      split at hx
      · simpa using hx
      · cases hx)
    generalize l.take (lenP c.toNat - 1) = L at *
    generalize headP c = r0 at *
    by_cases h1 : lenP c.toNat = 1
    · rw [h1] at HL Hh E hL
      have hc128 : c.toNat < 128 := by
        unfold lenP at h1
        split at h1
        · assumption
        · split at h1
          · omega
          · split at h1
            · omega
            · split at h1 <;> omega
      have hr0 : Hid (r0 = c.toNat) := Lib.hid (by rw [Hh.out]; rfl)
      have hr0b : r0 < 128 := by rw [hr0.out]; omega
      have hLl : L.length = 0 := by omega
      clear Hh hL hbad hq h1
      have g2 : decide ((n : Int) < 1) = false := by simp; omega
      by_cases hc1 : cap = 1
      · subst hc1
        obtain rfl : n = 1 := by omega
        go_enter Tryz.func12, Tryz.ntmps12
        go_wp2_with fail
        refine (HL.out _).mono ?_
        rintro e w1 ⟨rfl, rfl⟩
        go_wp2_with fail
        go_loop [5, 39] (fun rv iv => GetR r0 L rv iv) (fun _ iv => L.length - (intOf iv).toNat)
        case atStart => exact ⟨0, r0, rfl, Nat.zero_le _, by rw [hr0.out], by omega, rfl⟩
        case round =>
          obtain ⟨i, r, rfl, hi, rfl, hr, ht⟩ := hrel
          have hi4 : i ≤ 3 := by omega
          have hrb : r < 33554432 := by
            have : 64 ^ i ≤ 64 ^ 3 := Nat.pow_le_pow_right (by omega) hi4
            omega
          have Ht := Lib.hid ht
          have Hr := Lib.hid hr
          clear ht hr
          by_cases hil : i < L.length
          · exact absurd hil (by omega)
          · have hLi : i = L.length := by omega
            have EE : Hid (G = if sizP r = ((1 : Nat) : Int) then ((r : Int), 1) else (65533, 1)) := Lib.hid (by rw [E.out, Ht.out, List.drop_eq_nil_of_le (by omega), tailP])
            have HS := Lib.hid (fun W => size_any r W)
            by_cases hs : sizP r = 1
            · have E2 : Hid (G = ((r : Int), 1)) := Lib.hid (by rw [EE.out]; exact if_pos hs)
              rw [hs] at HS
              clear EE hs hLi
              go_wp2_with fail
              refine (HS.out _).mono ?_
              rintro e w1 ⟨rfl, rfl⟩
              go_wp2_with fail
              go_ret2
              exact ⟨by rw [E2.out]; rfl, rfl⟩
            · have E2 : Hid (G = (65533, 1)) := Lib.hid (by rw [EE.out]; exact if_neg hs)
              have g5 : (sizP r != 1) = true := by simp only [bne_iff_ne, ne_eq]; exact hs
              clear EE hs hLi
              generalize sizP r = sz at *
              go_wp2_with fail
              refine (HS.out _).mono ?_
              rintro e w1 ⟨rfl, rfl⟩
              go_wp2_with fail
              go_ret2
              exact ⟨by rw [E2.out]; rfl, rfl⟩
      · have g4 : ¬ cap - 1 = 0 := by omega
        go_enter Tryz.func12, Tryz.ntmps12
        go_wp2_with fail
        refine (HL.out _).mono ?_
        rintro e w1 ⟨rfl, rfl⟩
        go_wp2_with fail
        go_loop [5, 39] (fun rv iv => GetR r0 L rv iv) (fun _ iv => L.length - (intOf iv).toNat)
        case atStart => exact ⟨0, r0, rfl, Nat.zero_le _, by rw [hr0.out], by omega, rfl⟩
        case round =>
          obtain ⟨i, r, rfl, hi, rfl, hr, ht⟩ := hrel
          have hi4 : i ≤ 3 := by omega
          have hrb : r < 33554432 := by
            have : 64 ^ i ≤ 64 ^ 3 := Nat.pow_le_pow_right (by omega) hi4
            omega
          have Ht := Lib.hid ht
          have Hr := Lib.hid hr
          clear ht hr
          by_cases hil : i < L.length
          · exact absurd hil (by omega)
          · have hLi : i = L.length := by omega
            have EE : Hid (G = if sizP r = ((1 : Nat) : Int) then ((r : Int), 1) else (65533, 1)) := Lib.hid (by rw [E.out, Ht.out, List.drop_eq_nil_of_le (by omega), tailP])
            have HS := Lib.hid (fun W => size_any r W)
            by_cases hs : sizP r = 1
            · have E2 : Hid (G = ((r : Int), 1)) := Lib.hid (by rw [EE.out]; exact if_pos hs)
              rw [hs] at HS
              clear EE hs hLi
              go_wp2_with fail
              refine (HS.out _).mono ?_
              rintro e w1 ⟨rfl, rfl⟩
              go_wp2_with fail
              go_ret2
              exact ⟨by rw [E2.out]; rfl, rfl⟩
            · have E2 : Hid (G = (65533, 1)) := Lib.hid (by rw [EE.out]; exact if_neg hs)
              have g5 : (sizP r != 1) = true := by simp only [bne_iff_ne, ne_eq]; exact hs
              clear EE hs hLi
              generalize sizP r = sz at *
              go_wp2_with fail
              refine (HS.out _).mono ?_
              rintro e w1 ⟨rfl, rfl⟩
              go_wp2_with fail
              go_ret2
              exact ⟨by rw [E2.out]; rfl, rfl⟩
    · have hq2 : lenP c.toNat = 2 ∨ lenP c.toNat = 3 ∨ lenP c.toNat = 4 := by omega
      clear hq h1
      rcases hq2 with h2 | h2 | h2
      · rw [h2] at HL Hh E hL
        have hr0 : Hid (r0 = c.toNat % 2 ^ (7 - 2)) := Lib.hid (by rw [Hh.out]; rfl)
        have hr0b : r0 < 128 := by rw [hr0.out]; omega
        have hqn : 2 ≤ n := by omega
        have hLl : L.length = 2 - 1 := hL
        have g2 : decide ((n : Int) < 2) = false := by simp; omega
        have g4 : ¬ cap = 1 := by omega
        clear hL hbad h2 Hh
        go_enter Tryz.func12, Tryz.ntmps12
        go_wp2_with fail
        refine (HL.out _).mono ?_
        rintro e w1 ⟨rfl, rfl⟩
        go_wp2_with fail
        go_loop [5, 39] (fun rv iv => GetR r0 L rv iv) (fun _ iv => L.length - (intOf iv).toNat)
        case atStart => exact ⟨0, r0, rfl, Nat.zero_le _, by rw [hr0.out]; have h6 := and_pow c.toNat 5 (by omega) (by omega); exact congrArg (Value.int .i64) (by simpa using h6), by omega, rfl⟩
        case round =>
          obtain ⟨i, r, rfl, hi, rfl, hr, ht⟩ := hrel
          have hi4 : i ≤ 3 := by omega
          have hrb : r < 33554432 := by
            have : 64 ^ i ≤ 64 ^ 3 := Nat.pow_le_pow_right (by omega) hi4
            omega
          have Ht := Lib.hid ht
          have Hr := Lib.hid hr
          clear ht hr
          by_cases hil : i < L.length
          · obtain ⟨x, hx⟩ : ∃ x, L[i]? = some x := ⟨_, List.getElem?_eq_getElem hil⟩
            have cx := HcL.out i x hx
            have Hd : Hid (L.drop i = x :: L.drop (i + 1)) := Lib.hid (by
              obtain ⟨h1, h2⟩ := List.getElem?_eq_some_iff.1 hx
              rw [List.drop_eq_getElem_cons h1, h2])
            have hx8 := x.toNat_lt
            have hil2 : i < 2 - 1 := by omega
            clear hx
            by_cases hx2 : x.toNat / 64 = 2
            · have g3 : ((x.toNat : Int) / 64 != 2) = false := by
                have : (x.toNat : Int) / 64 = 2 := by omega
                rw [this]; rfl
              have Hx2 := Lib.hid hx2
              clear hx2
              go_wp2_with fail
              go_round
              case rel =>
                refine ⟨i + 1, r * 64 + x.toNat % 64, by go_num, by omega, ?_, ?_, ?_⟩
                · have := or_64 r (x.toNat % 64) (by omega) (by omega)
                  rw [show ((x.toNat : Int) % 64) = ((x.toNat % 64 : Nat) : Int) by omega, this]
                  exact congrArg (Value.int .i64) (by omega)
                · have h5 := Hr.out
                  rw [Nat.pow_succ]; omega
                · rw [Ht.out, Hd.out, tailP, if_pos Hx2.out]
              case measure => simp [intOf]; omega
            · have g3 : ((x.toNat : Int) / 64 != 2) = true := by
                simp only [bne_iff_ne, ne_eq]; omega
              have EE : Hid (G = (65533, 1)) := Lib.hid (by rw [E.out, Ht.out, Hd.out, tailP, if_neg hx2])
              clear hx2
              go_wp2_with fail
              go_ret2
              exact ⟨by rw [EE.out]; rfl, rfl⟩
          · have hLi : i = L.length := by omega
            have EE : Hid (G = if sizP r = ((2 : Nat) : Int) then ((r : Int), 2) else (65533, 1)) := Lib.hid (by rw [E.out, Ht.out, List.drop_eq_nil_of_le (by omega), tailP])
            have HS := Lib.hid (fun W => size_any r W)
            by_cases hs : sizP r = 2
            · have E2 : Hid (G = ((r : Int), 2)) := Lib.hid (by rw [EE.out]; exact if_pos hs)
              rw [hs] at HS
              clear EE hs hLi
              go_wp2_with fail
              refine (HS.out _).mono ?_
              rintro e w1 ⟨rfl, rfl⟩
              go_wp2_with fail
              go_ret2
              exact ⟨by rw [E2.out]; rfl, rfl⟩
            · have E2 : Hid (G = (65533, 1)) := Lib.hid (by rw [EE.out]; exact if_neg hs)
              have g5 : (sizP r != 2) = true := by simp only [bne_iff_ne, ne_eq]; exact hs
              clear EE hs hLi
              generalize sizP r = sz at *
              go_wp2_with fail
              refine (HS.out _).mono ?_
              rintro e w1 ⟨rfl, rfl⟩
              go_wp2_with fail
              go_ret2
              exact ⟨by rw [E2.out]; rfl, rfl⟩
      · rw [h2] at HL Hh E hL
        have hr0 : Hid (r0 = c.toNat % 2 ^ (7 - 3)) := Lib.hid (by rw [Hh.out]; rfl)
        have hr0b : r0 < 128 := by rw [hr0.out]; omega
        have hqn : 3 ≤ n := by omega
        have hLl : L.length = 3 - 1 := hL
        have g2 : decide ((n : Int) < 3) = false := by simp; omega
        have g4 : ¬ cap = 1 := by omega
        clear hL hbad h2 Hh
        go_enter Tryz.func12, Tryz.ntmps12
        go_wp2_with fail
        refine (HL.out _).mono ?_
        rintro e w1 ⟨rfl, rfl⟩
        go_wp2_with fail
        go_loop [5, 39] (fun rv iv => GetR r0 L rv iv) (fun _ iv => L.length - (intOf iv).toNat)
        case atStart => exact ⟨0, r0, rfl, Nat.zero_le _, by rw [hr0.out]; have h6 := and_pow c.toNat 4 (by omega) (by omega); exact congrArg (Value.int .i64) (by simpa using h6), by omega, rfl⟩
        case round =>
          obtain ⟨i, r, rfl, hi, rfl, hr, ht⟩ := hrel
          have hi4 : i ≤ 3 := by omega
          have hrb : r < 33554432 := by
            have : 64 ^ i ≤ 64 ^ 3 := Nat.pow_le_pow_right (by omega) hi4
            omega
          have Ht := Lib.hid ht
          have Hr := Lib.hid hr
          clear ht hr
          by_cases hil : i < L.length
          · obtain ⟨x, hx⟩ : ∃ x, L[i]? = some x := ⟨_, List.getElem?_eq_getElem hil⟩
            have cx := HcL.out i x hx
            have Hd : Hid (L.drop i = x :: L.drop (i + 1)) := Lib.hid (by
              obtain ⟨h1, h2⟩ := List.getElem?_eq_some_iff.1 hx
              rw [List.drop_eq_getElem_cons h1, h2])
            have hx8 := x.toNat_lt
            have hil2 : i < 3 - 1 := by omega
            clear hx
            by_cases hx2 : x.toNat / 64 = 2
            · have g3 : ((x.toNat : Int) / 64 != 2) = false := by
                have : (x.toNat : Int) / 64 = 2 := by omega
                rw [this]; rfl
              have Hx2 := Lib.hid hx2
              clear hx2
              go_wp2_with fail
              go_round
              case rel =>
                refine ⟨i + 1, r * 64 + x.toNat % 64, by go_num, by omega, ?_, ?_, ?_⟩
                · have := or_64 r (x.toNat % 64) (by omega) (by omega)
                  rw [show ((x.toNat : Int) % 64) = ((x.toNat % 64 : Nat) : Int) by omega, this]
                  exact congrArg (Value.int .i64) (by omega)
                · have h5 := Hr.out
                  rw [Nat.pow_succ]; omega
                · rw [Ht.out, Hd.out, tailP, if_pos Hx2.out]
              case measure => simp [intOf]; omega
            · have g3 : ((x.toNat : Int) / 64 != 2) = true := by
                simp only [bne_iff_ne, ne_eq]; omega
              have EE : Hid (G = (65533, 1)) := Lib.hid (by rw [E.out, Ht.out, Hd.out, tailP, if_neg hx2])
              clear hx2
              go_wp2_with fail
              go_ret2
              exact ⟨by rw [EE.out]; rfl, rfl⟩
          · have hLi : i = L.length := by omega
            have EE : Hid (G = if sizP r = ((3 : Nat) : Int) then ((r : Int), 3) else (65533, 1)) := Lib.hid (by rw [E.out, Ht.out, List.drop_eq_nil_of_le (by omega), tailP])
            have HS := Lib.hid (fun W => size_any r W)
            by_cases hs : sizP r = 3
            · have E2 : Hid (G = ((r : Int), 3)) := Lib.hid (by rw [EE.out]; exact if_pos hs)
              rw [hs] at HS
              clear EE hs hLi
              go_wp2_with fail
              refine (HS.out _).mono ?_
              rintro e w1 ⟨rfl, rfl⟩
              go_wp2_with fail
              go_ret2
              exact ⟨by rw [E2.out]; rfl, rfl⟩
            · have E2 : Hid (G = (65533, 1)) := Lib.hid (by rw [EE.out]; exact if_neg hs)
              have g5 : (sizP r != 3) = true := by simp only [bne_iff_ne, ne_eq]; exact hs
              clear EE hs hLi
              generalize sizP r = sz at *
              go_wp2_with fail
              refine (HS.out _).mono ?_
              rintro e w1 ⟨rfl, rfl⟩
              go_wp2_with fail
              go_ret2
              exact ⟨by rw [E2.out]; rfl, rfl⟩
      · rw [h2] at HL Hh E hL
        have hr0 : Hid (r0 = c.toNat % 2 ^ (7 - 4)) := Lib.hid (by rw [Hh.out]; rfl)
        have hr0b : r0 < 128 := by rw [hr0.out]; omega
        have hqn : 4 ≤ n := by omega
        have hLl : L.length = 4 - 1 := hL
        have g2 : decide ((n : Int) < 4) = false := by simp; omega
        have g4 : ¬ cap = 1 := by omega
        clear hL hbad h2 Hh
        go_enter Tryz.func12, Tryz.ntmps12
        go_wp2_with fail
        refine (HL.out _).mono ?_
        rintro e w1 ⟨rfl, rfl⟩
        go_wp2_with fail
        go_loop [5, 39] (fun rv iv => GetR r0 L rv iv) (fun _ iv => L.length - (intOf iv).toNat)
        case atStart => exact ⟨0, r0, rfl, Nat.zero_le _, by rw [hr0.out]; have h6 := and_pow c.toNat 3 (by omega) (by omega); exact congrArg (Value.int .i64) (by simpa using h6), by omega, rfl⟩
        case round =>
          obtain ⟨i, r, rfl, hi, rfl, hr, ht⟩ := hrel
          have hi4 : i ≤ 3 := by omega
          have hrb : r < 33554432 := by
            have : 64 ^ i ≤ 64 ^ 3 := Nat.pow_le_pow_right (by omega) hi4
            omega
          have Ht := Lib.hid ht
          have Hr := Lib.hid hr
          clear ht hr
          by_cases hil : i < L.length
          · obtain ⟨x, hx⟩ : ∃ x, L[i]? = some x := ⟨_, List.getElem?_eq_getElem hil⟩
            have cx := HcL.out i x hx
            have Hd : Hid (L.drop i = x :: L.drop (i + 1)) := Lib.hid (by
              obtain ⟨h1, h2⟩ := List.getElem?_eq_some_iff.1 hx
              rw [List.drop_eq_getElem_cons h1, h2])
            have hx8 := x.toNat_lt
            have hil2 : i < 4 - 1 := by omega
            clear hx
            by_cases hx2 : x.toNat / 64 = 2
            · have g3 : ((x.toNat : Int) / 64 != 2) = false := by
                have : (x.toNat : Int) / 64 = 2 := by omega
                rw [this]; rfl
              have Hx2 := Lib.hid hx2
              clear hx2
              go_wp2_with fail
              go_round
              case rel =>
                refine ⟨i + 1, r * 64 + x.toNat % 64, by go_num, by omega, ?_, ?_, ?_⟩
                · have := or_64 r (x.toNat % 64) (by omega) (by omega)
                  rw [show ((x.toNat : Int) % 64) = ((x.toNat % 64 : Nat) : Int) by omega, this]
                  exact congrArg (Value.int .i64) (by omega)
                · have h5 := Hr.out
                  rw [Nat.pow_succ]; omega
                · rw [Ht.out, Hd.out, tailP, if_pos Hx2.out]
              case measure => simp [intOf]; omega
            · have g3 : ((x.toNat : Int) / 64 != 2) = true := by
                simp only [bne_iff_ne, ne_eq]; omega
              have EE : Hid (G = (65533, 1)) := Lib.hid (by rw [E.out, Ht.out, Hd.out, tailP, if_neg hx2])
              clear hx2
              go_wp2_with fail
              go_ret2
              exact ⟨by rw [EE.out]; rfl, rfl⟩
          · have hLi : i = L.length := by omega
            have EE : Hid (G = if sizP r = ((4 : Nat) : Int) then ((r : Int), 4) else (65533, 1)) := Lib.hid (by rw [E.out, Ht.out, List.drop_eq_nil_of_le (by omega), tailP])
            have HS := Lib.hid (fun W => size_any r W)
            by_cases hs : sizP r = 4
            · have E2 : Hid (G = ((r : Int), 4)) := Lib.hid (by rw [EE.out]; exact if_pos hs)
              rw [hs] at HS
              clear EE hs hLi
              go_wp2_with fail
              refine (HS.out _).mono ?_
              rintro e w1 ⟨rfl, rfl⟩
              go_wp2_with fail
              go_ret2
              exact ⟨by rw [E2.out]; rfl, rfl⟩
            · have E2 : Hid (G = (65533, 1)) := Lib.hid (by rw [EE.out]; exact if_neg hs)
              have g5 : (sizP r != 4) = true := by simp only [bne_iff_ne, ne_eq]; exact hs
              clear EE hs hLi
              generalize sizP r = sz at *
              go_wp2_with fail
              refine (HS.out _).mono ?_
              rintro e w1 ⟨rfl, rfl⟩
              go_wp2_with fail
              go_ret2
              exact ⟨by rw [E2.out]; rfl, rfl⟩
end Go.Proofs.YtpcbfmbpbegjgaaGreat
end
