/-
  text.deed, as the walk of text.Print takes it.
-/
import Derived.Test.YtibfioekmpnkgaaDoorTextQ
import Derived.Test.YtibfioekmpnkgaaDoorTextD
namespace Go.Proofs.YtibfioekmpnkgaaDoor
open Go.RowKit
theorem deedK (D : Nat) (w : World) : Calls Tryd.prog 22 #[.pointer (some ⟨D, 0, none⟩)] w fun e w' => ∃ fb, e = .returned (.slice (some ⟨fb, 0, none⟩) 21 21) ∧ w'.heap[fb]? = some (.cells (fieldCells D) 54 (0, 0)) ∧ Keeps (fun _ => False) w w' := by
  refine (deed_any D w).mono ?_
  rintro e w' ⟨rfl, rfl⟩
  exact ⟨w.heap.size, rfl, heap_alloc_new w _, ((Keeps.refl _ _).alloc _).drew⟩
end Go.Proofs.YtibfioekmpnkgaaDoor
