/-
  text.deed: the walk.
-/
import Derived.Test.YtibfioekmpnkgaaDoorTextX2
import Derived.Test.YtibfioekmpnkgaaDoorTextF
namespace Go.Proofs.YtibfioekmpnkgaaDoor
open Go.RowKit
set_option linter.unusedVariables false
set_option linter.unusedSimpArgs false
set_option maxRecDepth 100000

set_option maxHeartbeats 8000000 in
theorem deed_any (b : Nat) (w : World) : Calls Tryd.prog 22 #[.pointer (some ⟨b, 0, none⟩)] w fun e w' => e = .returned (.slice (some ⟨w.heap.size, 0, none⟩) 21 21) ∧ w' = (w.alloc (.cells (fieldCells b) 54)).drew := by
  go_enter Tryd.func22, Tryd.ntmps22
  go_wp2_with fail
  simp only [List.append]
  refine wp_region_still_tail 126 (by kernel_rfl) deed_lex ?_
  simp only [List.take_succ_cons, List.take_zero, List.drop_succ_cons, List.drop_zero]
  repeat still_step
  refine wpStill_nil ?_
  change wpList _ _ _ _ _ w.drew
  go_wp2_with fail
  go_ret
  refine ⟨rfl, ?_⟩
  rw [fieldCells_eq]
end Go.Proofs.YtibfioekmpnkgaaDoor
