/-
  plain("a", 1): the job. No condition.
-/
import Derived.Test.YtgobcnheemocnaaGreatDoorMg15
namespace Go.Proofs.YtgobcnheemocnaaGreatDoor
open Go
open Go.RowKit
set_option linter.unusedVariables false
set_option linter.unusedSimpArgs false
set_option maxRecDepth 100000

set_option maxHeartbeats 4000000 in
theorem plain_any (w : World) : Calls Tryz.prog 6 #[.string ⟨#[97]⟩, .int .i64 1] w fun e w' => e = .returned (.agg jobA.toArray) ∧ Keeps (fun _ => False) w w' := by
  go_enter Tryz.func6, Tryz.ntmps6
  go_wp2_with fail
  have hd : (w.alloc (Obj.cells #[.slice none 0 0, .slice none 0 0, .int .i64 (-1), .int .i64 0, .int .i64 100, .string ⟨#[97]⟩, .int .i64 0, .int .i64 (-1), .int .i64 0, .int .i64 0, .int .i64 0, .int .i64 (-1), .int .i64 1, .int .i64 8, .int .i64 0, .int .i64 1, .int .i64 1] 28)).heap[w.heap.size]? = some (.cells #[.slice none 0 0, .slice none 0 0, .int .i64 (-1), .int .i64 0, .int .i64 100, .string ⟨#[97]⟩, .int .i64 0, .int .i64 (-1), .int .i64 0, .int .i64 0, .int .i64 0, .int .i64 (-1), .int .i64 1, .int .i64 8, .int .i64 0, .int .i64 1, .int .i64 1] 28 (0, 0)) := heap_alloc_new _ _
  have k := (Keeps.refl (fun _ => False) w).alloc (Obj.cells #[.slice none 0 0, .slice none 0 0, .int .i64 (-1), .int .i64 0, .int .i64 100, .string ⟨#[97]⟩, .int .i64 0, .int .i64 (-1), .int .i64 0, .int .i64 0, .int .i64 0, .int .i64 (-1), .int .i64 1, .int .i64 8, .int .i64 0, .int .i64 1, .int .i64 1] 28)
  generalize w.alloc (Obj.cells #[.slice none 0 0, .slice none 0 0, .int .i64 (-1), .int .i64 0, .int .i64 100, .string ⟨#[97]⟩, .int .i64 0, .int .i64 (-1), .int .i64 0, .int .i64 0, .int .i64 0, .int .i64 (-1), .int .i64 1, .int .i64 8, .int .i64 0, .int .i64 1, .int .i64 1] 28) = w1 at hd k ⊢
  have r0 : w1.cell? ⟨w.heap.size, 0, none⟩ = some (.slice none 0 0) := by rw [cell_block hd]; rfl
  have r1 : w1.cell? ⟨w.heap.size, 1, none⟩ = some (.slice none 0 0) := by rw [cell_block hd]; rfl
  have r2 : w1.cell? ⟨w.heap.size, 2, none⟩ = some (.int .i64 (-1)) := by rw [cell_block hd]; rfl
  have r3 : w1.cell? ⟨w.heap.size, 3, none⟩ = some (.int .i64 0) := by rw [cell_block hd]; rfl
  have r4 : w1.cell? ⟨w.heap.size, 4, none⟩ = some (.int .i64 100) := by rw [cell_block hd]; rfl
  have r5 : w1.cell? ⟨w.heap.size, 5, none⟩ = some (.string ⟨#[97]⟩) := by rw [cell_block hd]; rfl
  have r6 : w1.cell? ⟨w.heap.size, 6, none⟩ = some (.int .i64 0) := by rw [cell_block hd]; rfl
  have r7 : w1.cell? ⟨w.heap.size, 7, none⟩ = some (.int .i64 (-1)) := by rw [cell_block hd]; rfl
  have r8 : w1.cell? ⟨w.heap.size, 8, none⟩ = some (.int .i64 0) := by rw [cell_block hd]; rfl
  have r9 : w1.cell? ⟨w.heap.size, 9, none⟩ = some (.int .i64 0) := by rw [cell_block hd]; rfl
  have r10 : w1.cell? ⟨w.heap.size, 10, none⟩ = some (.int .i64 0) := by rw [cell_block hd]; rfl
  have r11 : w1.cell? ⟨w.heap.size, 11, none⟩ = some (.int .i64 (-1)) := by rw [cell_block hd]; rfl
  have r12 : w1.cell? ⟨w.heap.size, 12, none⟩ = some (.int .i64 1) := by rw [cell_block hd]; rfl
  have r13 : w1.cell? ⟨w.heap.size, 13, none⟩ = some (.int .i64 8) := by rw [cell_block hd]; rfl
  have r14 : w1.cell? ⟨w.heap.size, 14, none⟩ = some (.int .i64 0) := by rw [cell_block hd]; rfl
  have r15 : w1.cell? ⟨w.heap.size, 15, none⟩ = some (.int .i64 1) := by rw [cell_block hd]; rfl
  have r16 : w1.cell? ⟨w.heap.size, 16, none⟩ = some (.int .i64 1) := by rw [cell_block hd]; rfl
  refine bodyPost_ret (by simp [results, Tryz.results6, go_sem, r0, r1, r2, r3, r4, r5, r6, r7, r8, r9, r10, r11, r12, r13, r14, r15, r16]; try rfl) rfl ?_
  exact ⟨rfl, k⟩
end Go.Proofs.YtgobcnheemocnaaGreatDoor
