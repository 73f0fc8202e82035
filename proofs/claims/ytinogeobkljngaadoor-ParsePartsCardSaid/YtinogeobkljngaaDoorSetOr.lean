/-
  The walks of slices.Grow, slices.Concat (of two), set.Or, set.And.
-/
import Derived.Test.YtinogeobkljngaaDoorSetNot

import Derived.Laws.AppendOwnNone
namespace Go.Proofs.YtinogeobkljngaaDoor
open Go.RowKit
set_option linter.unusedVariables false
set_option linter.unusedSimpArgs false
set_option maxRecDepth 100000

theorem cell_new (w : World) (cs : Array Value) (T : TypeId) (o : Nat) : (w.alloc (.cells cs T)).cell? ⟨w.heap.size, o, none⟩ = cs[o]? :=
  cell_block (cs := cs) (T := T) (fz := (0, 0)) (by show (w.heap.push _)[_]? = _; simp) o
def cat2 (xs ys : List (Int × Int)) (k : Nat) : List (Int × Int) := (if 1 ≤ k then xs else []) ++ (if 2 ≤ k then ys else [])
theorem cat2_0 (xs ys : List (Int × Int)) : cat2 xs ys 0 = [] := rfl
theorem cat2_1 (xs ys : List (Int × Int)) : cat2 xs ys 1 = xs := by simp [cat2]
theorem cat2_2 (xs ys : List (Int × Int)) : cat2 xs ys 2 = xs ++ ys := by simp [cat2]
theorem encR_one (l : List (Int × Int)) : ∀ u ∈ cellsOf 2 encR l, u.oneCell' = true := by
  intro u hu
  unfold cellsOf at hu
  rw [List.mem_flatMap] at hu
  obtain ⟨x, _, hx⟩ := hu
  rw [encR_cells] at hx
  simp at hx
  rcases hx with rfl | rfl <;> rfl

def Cat1 (xs ys : List (Int × Int)) (sv kv : Value) : Prop := ∃ k : Nat, kv = .int .i64 k ∧ k ≤ 2 ∧ sv = .int .i64 (cat2 xs ys k).length
def Cat2 (w : World) (xs ys : List (Int × Int)) (u kv : Value) (wr : World) : Prop := ∃ k : Nat, kv = .int .i64 k ∧ k ≤ 2 ∧ ROwn w wr u (cat2 xs ys k)

/-- The two together: a set. -/
def IsOr (xs ys out : List (Int × Int)) : Prop := Norm out ∧ ∀ r, mem out r = (has xs r || has ys r)
def IsAnd (xs ys out : List (Int × Int)) : Prop := Norm out ∧ ∀ r, mem out r = (has xs r && has ys r)
theorem in64_append {xs ys : List (Int × Int)} (hx : ∀ p ∈ xs, in64 p.1 ∧ in64 p.2) (hy : ∀ p ∈ ys, in64 p.1 ∧ in64 p.2) : ∀ p ∈ xs ++ ys, in64 p.1 ∧ in64 p.2 := by
  intro p hp
  rcases List.mem_append.1 hp with h | h
  · exact hx p h
  · exact hy p h

end Go.Proofs.YtinogeobkljngaaDoor
