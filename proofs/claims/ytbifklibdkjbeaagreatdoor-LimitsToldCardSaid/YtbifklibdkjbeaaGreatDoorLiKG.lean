/-
  The card's closed facts, one theorem each.
-/
import Derived.Test.YtbifklibdkjbeaaGreatDoorRows
import Derived.Test.YtbifklibdkjbeaaGreatDoorCards
import Derived.Test.YtbifklibdkjbeaaGreatDoorMg1
import Derived.Test.YtbifklibdkjbeaaGreatDoorChecked
import Derived.SevenTiedAt
import Derived.KernelRfl
namespace Go.Proofs.YtbifklibdkjbeaaGreatDoor
open Go.RowKit
set_option linter.unusedVariables false
set_option linter.unusedSimpArgs false
set_option maxRecDepth 100000
end Go.Proofs.YtbifklibdkjbeaaGreatDoor
section
set_option linter.unusedVariables false
set_option linter.unusedSimpArgs false
namespace Go.Proofs.YtbifklibdkjbeaaGreatDoor.limitsTold
set_option maxRecDepth 100000
theorem xmp : Rows.limitsToldRow.wfByText (OpenSpec.ofChange Rows.limitsToldSpec) = true := by kernel_rfl
theorem xgk : Tryz.prog.mainIs = some (Rows.limitsToldCard.stood.harness.1, Rows.limitsToldCard.stood.harness.2.toList) := by kernel_rfl
theorem xeY : Tryz.prog.funcNamed "reedbed/reedbedlaw25.LimitsTold" = some 4 := by kernel_rfl
theorem xeZ : true = Tryz.prog.looks [] := by kernel_rfl
theorem xeX : ([28].all fun u => !Tryz.prog.wantsStandIn u) = true := by kernel_rfl
theorem xgl : false = Rows.limitsToldRow.goesBy Tryz.prog := by kernel_rfl
end Go.Proofs.YtbifklibdkjbeaaGreatDoor.limitsTold
end
namespace Go.Proofs.YtbifklibdkjbeaaGreatDoor
open Go.RowKit
set_option maxRecDepth 100000
end Go.Proofs.YtbifklibdkjbeaaGreatDoor
