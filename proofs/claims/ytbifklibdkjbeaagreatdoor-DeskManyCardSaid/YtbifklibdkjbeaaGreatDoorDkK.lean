/-
  The card's closed facts, one theorem each.
-/
import Derived.Test.YtbifklibdkjbeaaGreatDoorRows
import Derived.Test.YtbifklibdkjbeaaGreatDoorCards
import Derived.Test.YtbifklibdkjbeaaGreatDoorLib
import Derived.Test.YtbifklibdkjbeaaGreatDoorChecked
import Derived.SevenTiedAt
import Derived.KernelRfl
namespace Go.Proofs.YtbifklibdkjbeaaGreatDoor.deskMany
set_option linter.unusedVariables false
set_option maxRecDepth 100000
theorem cardWf : Rows.deskManyRow.wfByText (OpenSpec.ofChange Rows.deskManySpec) = true := by kernel_rfl
theorem cardMain : Tryz.prog.mainIs = some (Rows.deskManyCard.stood.harness.1, Rows.deskManyCard.stood.harness.2.toList) := by kernel_rfl
theorem cardNamed : Tryz.prog.funcNamed "reedbed/reedbedlaw27.DeskMany" = some 6 := by kernel_rfl
theorem cardLooks : true = Tryz.prog.looks [] := by kernel_rfl
theorem cardPlain : ([5].all fun u => !Tryz.prog.wantsStandIn u) = true := by kernel_rfl
theorem cardGoes : false = Rows.deskManyRow.goesBy Tryz.prog := by kernel_rfl
end Go.Proofs.YtbifklibdkjbeaaGreatDoor.deskMany
