/-
  slices.Sort at whole numbers, as the shelf has it. No condition.
-/
import Derived.Test.YtbifklibdkjbeaaGreatDoorShelfI
import Derived.Test.YtbifklibdkjbeaaGreatDoorDkR
namespace Go.Proofs.YtbifklibdkjbeaaGreatDoor
open Go.RowKit Go.Sort

theorem sort_is : SortIs := fun blk cap zs w hH hb hl => AnyM.slices_Sort_int Tryz.sortI blk 0 cap zs w hH hb hl
end Go.Proofs.YtbifklibdkjbeaaGreatDoor
