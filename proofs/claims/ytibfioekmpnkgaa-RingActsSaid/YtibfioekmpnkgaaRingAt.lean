/-
  The ring's two blocks, in plain words.
-/
import Derived.Test.YtibfioekmpnkgaaLib
namespace Go.Proofs.Ytibfioekmpnkgaa
open Go.RowKit
set_option linter.unusedVariables false
set_option linter.unusedSimpArgs false

/-- The ring at block rb, its places at block pb: place i's eight cells are g i 0 .. g i 7. -/
structure RingAt (w : World) (rb pb n : Nat) (next : Int) (g : Nat → Nat → Value) : Prop where
  hd0 : w.cell? ⟨rb, 0, none⟩ = some (.slice (some ⟨pb, 0, none⟩) n n)
  hd1 : w.cell? ⟨rb, 1, none⟩ = some (.int .i64 next)
  lr : rb < w.heap.size
  lp : pb < w.heap.size
  fr : ∀ o, w.frozen? ⟨rb, o, none⟩ = false
  fp : ∀ o, w.frozen? ⟨pb, o, none⟩ = false
  cells : ∀ i < n, ∀ j < 8, w.cell? ⟨pb, i * 8 + j, none⟩ = some (g i j)
  ne : rb ≠ pb
  n1 : 1 ≤ n
  n64 : n ≤ 64
  x0 : 0 ≤ next
  x1 : next ≤ 1000000

theorem RingAt.drawN {w : World} {rb pb n : Nat} {next : Int} {g : Nat → Nat → Value} (h : RingAt w rb pb n next g) (k : Nat) : RingAt (w.drewN k) rb pb n next g :=
  ⟨h.hd0, h.hd1, h.lr, h.lp, h.fr, h.fp, h.cells, h.ne, h.n1, h.n64, h.x0, h.x1⟩

theorem RingAt.keeps {S : Nat → Prop} {w w' : World} {rb pb n : Nat} {next : Int} {g : Nat → Nat → Value} (h : RingAt w rb pb n next g) (k : Keeps S w w') (hr : ¬ S rb) (hp : ¬ S pb) : RingAt w' rb pb n next g :=
  ⟨k.cell h.hd0 hr, k.cell h.hd1 hr, Nat.lt_of_lt_of_le h.lr k.size, Nat.lt_of_lt_of_le h.lp k.size, fun o => k.frozen (h.fr o) h.lr hr, fun o => k.frozen (h.fp o) h.lp hp,
   fun i hi j hj => k.cell (h.cells i hi j hj) hp, h.ne, h.n1, h.n64, h.x0, h.x1⟩
theorem RingAt.store1 {w : World} {rb pb n : Nat} {next : Int} {g : Nat → Nat → Value} (h : RingAt w rb pb n next g) {k q : Nat} (hk : k < n) (hq : q < 8) (v : Value) :
    RingAt (w.setCell ⟨pb, k * 8 + q, none⟩ v) rb pb n next (fun i j => if i = k ∧ j = q then v else g i j) := by
  have o1 : ∀ o, (⟨pb, k * 8 + q, none⟩ : Addr) ≠ ⟨rb, o, none⟩ := by intro o e; have := h.ne; simp only [Addr.mk.injEq] at e; omega
  refine ⟨?_, ?_, by simpa [World.setCell] using h.lr, by simpa [World.setCell] using h.lp, ?_, ?_, ?_, h.ne, h.n1, h.n64, h.x0, h.x1⟩
  · rw [cell_set_other (o1 0)]; exact h.hd0
  · rw [cell_set_other (o1 1)]; exact h.hd1
  · intro o; rw [frozen_set]; exact h.fr o
  · intro o; rw [frozen_set]; exact h.fp o
  · intro i hi j hj
    by_cases e : i = k ∧ j = q
    · obtain ⟨rfl, rfl⟩ := e
      rw [cell_set_same (h.cells i hi j hj)]; simp
    · have ne : (⟨pb, k * 8 + q, none⟩ : Addr) ≠ ⟨pb, i * 8 + j, none⟩ := by intro e'; simp only [Addr.mk.injEq] at e'; omega
      rw [cell_set_other ne, if_neg e]; exact h.cells i hi j hj
theorem RingAt.congr {w : World} {rb pb n : Nat} {next : Int} {g g' : Nat → Nat → Value} (h : RingAt w rb pb n next g) (e : ∀ i < n, ∀ j < 8, g i j = g' i j) : RingAt w rb pb n next g' :=
  ⟨h.hd0, h.hd1, h.lr, h.lp, h.fr, h.fp, fun i hi j hj => by rw [← e i hi j hj]; exact h.cells i hi j hj, h.ne, h.n1, h.n64, h.x0, h.x1⟩
/-- The eight cells of one place. -/
def plc (v0 v1 v2 v3 v4 v5 v6 v7 : Value) (j : Nat) : Value := if j = 0 then v0 else if j = 1 then v1 else if j = 2 then v2 else if j = 3 then v3 else if j = 4 then v4 else if j = 5 then v5 else if j = 6 then v6 else v7
def emptyPlc : Nat → Value := plc (.int .i64 0) (.int .i64 0) (.int .i64 0) (.int .i64 0) (.string ByteArray.empty) (.slice none 0 0) (.int .i64 0) (.bool false)
theorem RingAt.store8 {w : World} {rb pb n : Nat} {next : Int} {g : Nat → Nat → Value} (h : RingAt w rb pb n next g) {k : Nat} (hk : k < n) (v0 v1 v2 v3 v4 v5 v6 v7 : Value) :
    RingAt ((((((((w.setCell ⟨pb, k * 8, none⟩ v0).setCell ⟨pb, k * 8 + 1, none⟩ v1).setCell ⟨pb, k * 8 + 2, none⟩ v2).setCell ⟨pb, k * 8 + 3, none⟩ v3).setCell ⟨pb, k * 8 + 4, none⟩ v4).setCell ⟨pb, k * 8 + 5, none⟩ v5).setCell ⟨pb, k * 8 + 6, none⟩ v6).setCell ⟨pb, k * 8 + 7, none⟩ v7)
      rb pb n next (fun i j => if i = k then plc v0 v1 v2 v3 v4 v5 v6 v7 j else g i j) := by
  refine ((((((((h.store1 (q := 0) hk (by omega) v0).store1 (q := 1) hk (by omega) v1).store1 (q := 2) hk (by omega) v2).store1 (q := 3) hk (by omega) v3).store1 (q := 4) hk (by omega) v4).store1 (q := 5) hk (by omega) v5).store1 (q := 6) hk (by omega) v6).store1 (q := 7) hk (by omega) v7).congr ?_
  intro i hi j hj
  by_cases e : i = k
  · subst e
    have : j = 0 ∨ j = 1 ∨ j = 2 ∨ j = 3 ∨ j = 4 ∨ j = 5 ∨ j = 6 ∨ j = 7 := by omega
    rcases this with rfl | rfl | rfl | rfl | rfl | rfl | rfl | rfl <;> simp [plc]
  · simp [e]
theorem keeps_store8 {S : Nat → Prop} {a w : World} (h : Keeps S a w) {pb : Nat} (hs : S pb) (k0 k1 k2 k3 k4 k5 k6 k7 : Nat) (v0 v1 v2 v3 v4 v5 v6 v7 : Value) :
    Keeps S a ((((((((w.setCell ⟨pb, k0, none⟩ v0).setCell ⟨pb, k1, none⟩ v1).setCell ⟨pb, k2, none⟩ v2).setCell ⟨pb, k3, none⟩ v3).setCell ⟨pb, k4, none⟩ v4).setCell ⟨pb, k5, none⟩ v5).setCell ⟨pb, k6, none⟩ v6).setCell ⟨pb, k7, none⟩ v7) :=
  (((((((h.set hs v0).set hs v1).set hs v2).set hs v3).set hs v4).set hs v5).set hs v6).set hs v7
theorem RingAt.setNext {w : World} {rb pb n : Nat} {next : Int} {g : Nat → Nat → Value} (h : RingAt w rb pb n next g) (x : Int) (hx0 : 0 ≤ x) (hx1 : x ≤ 1000000) : RingAt (w.setCell ⟨rb, 1, none⟩ (.int .i64 x)) rb pb n x g := by
  have o1 : ∀ o, (⟨rb, 1, none⟩ : Addr) ≠ ⟨pb, o, none⟩ := by intro o e; have := h.ne; simp only [Addr.mk.injEq] at e; omega
  refine ⟨?_, ?_, by simpa [World.setCell] using h.lr, by simpa [World.setCell] using h.lp, ?_, ?_, ?_, h.ne, h.n1, h.n64, hx0, hx1⟩
  · rw [cell_set_other (by intro e; simp at e)]; exact h.hd0
  · rw [cell_set_same h.hd1]
  · intro o; rw [frozen_set]; exact h.fr o
  · intro o; rw [frozen_set]; exact h.fp o
  · intro i hi j hj; rw [cell_set_other (o1 _)]; exact h.cells i hi j hj

end Go.Proofs.Ytibfioekmpnkgaa
