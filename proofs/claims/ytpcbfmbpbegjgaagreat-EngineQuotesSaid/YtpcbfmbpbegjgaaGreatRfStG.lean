/-
  A struct is stored into a block that is known whole: by one step, and the world behind it a letter.
-/
import Derived.Test.YtpcbfmbpbegjgaaGreatMg1
import Derived.Test.YtpcbfmbpbegjgaaGreatProg
import Derived.Great.BuildSlice
import Derived.Laws.Tables
import Derived.Laws.Rows
namespace Go.Proofs.YtpcbfmbpbegjgaaGreat
open Go.RowKit
set_option linter.unusedVariables false
set_option linter.unusedSimpArgs false
set_option maxRecDepth 100000

theorem Keeps.setRow {S : Nat → Prop} {a b : World} (h : Keeps S a b) {g : Nat} (hg : S g) (cs : Array Value) : Keeps S a (b.setRow g cs) :=
  ⟨h.os, h.tape, h.output, by have := h.size; simp; omega, fun k hk hs => by
    have hne : g ≠ k := fun e => hs (e ▸ hg)
    have : (b.setRow g cs).heap[k]? = b.heap[k]? := by
      unfold World.setRow
      simp [Array.getElem?_modify, hne]
    rw [this]; exact h.block k hk hs⟩
theorem wpList_store_gen {P : Program} {ops : Array Oper} {rest : List Oper} {o : Oper} {a : Act} {w : World} {Q : Exit → Act → World → Prop} (hgd : o.guard = none) (ty : TypeId) (x y : Operand) (ho : o.op = .store ty x y)
    (hd : o.dst = none) (g : Nat) (cells : Array Value) (hx : a.eval x = .pointer (some ⟨g, 0, none⟩)) (hy : a.eval y = .agg cells)
    (t : TypeId) (old : Array Value) (hg : w.heap[g]? = some (.cells old t (0, 0))) (hi : (P.info? ty).map (·.size) = some cells.size)
    (hold : old.size = cells.size) (h1 : cells.all (·.oneCell') = true)
    (h : ∀ w6 : World, w6.heap[g]? = some (.cells cells t (0, 0)) → Keeps (fun b => b = g) w w6 → wpList P ops Q rest a w6) : wpList P ops Q (o :: rest) a w :=
  wpList_store_rowTo hgd ty x y ho hd g cells hx hy t old hg hi hold h1 (h _ (setRow_heap w g old cells t (0, 0) hg) (Keeps.setRow (S := fun b => b = g) (Keeps.refl _ _) rfl cells))
theorem five {w : World} {b : Nat} {v0 v1 v2 v3 v4 : Value} {T : TypeId} (h : w.heap[b]? = some (.cells #[v0, v1, v2, v3, v4] T (0, 0))) :
    w.cell? ⟨b, 0, none⟩ = some v0 ∧ w.cell? ⟨b, 1, none⟩ = some v1 ∧ w.cell? ⟨b, 2, none⟩ = some v2 ∧ w.cell? ⟨b, 3, none⟩ = some v3 ∧ w.cell? ⟨b, 4, none⟩ = some v4 :=
  ⟨by rw [cell_block h]; rfl, by rw [cell_block h]; rfl, by rw [cell_block h]; rfl, by rw [cell_block h]; rfl, by rw [cell_block h]; rfl⟩
theorem size_node : (Tryz.prog.info? 27).map (·.size) = some 5 := by kernel_rfl
end Go.Proofs.YtpcbfmbpbegjgaaGreat
