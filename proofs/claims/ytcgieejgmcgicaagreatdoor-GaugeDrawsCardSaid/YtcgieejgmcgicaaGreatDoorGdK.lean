/-
  The card's closed facts, one theorem each.
-/
import Derived.Test.YtcgieejgmcgicaaGreatDoorRows
import Derived.Test.YtcgieejgmcgicaaGreatDoorCards
import Derived.Test.YtcgieejgmcgicaaGreatDoorLib
import Derived.Test.YtcgieejgmcgicaaGreatDoorChecked
import Derived.SevenTiedAt
import Derived.KernelRfl
namespace Go.Proofs.YtcgieejgmcgicaaGreatDoor.gaugeDraws
set_option linter.unusedVariables false
set_option maxRecDepth 100000
theorem cardWf : Rows.gaugeDrawsRow.wfByText (OpenSpec.ofChange Rows.gaugeDrawsSpec) = true := by kernel_rfl
theorem cardMain : Tryz.prog.mainIs = some (Rows.gaugeDrawsCard.stood.harness.1, Rows.gaugeDrawsCard.stood.harness.2.toList) := by kernel_rfl
theorem cardNamed : Tryz.prog.funcNamed "reedbed/reedbedlaw30.GaugeDraws" = some 8 := by kernel_rfl
theorem cardLooks : true = Tryz.prog.looks [] := by kernel_rfl
theorem cardPlain : ([23].all fun u => !Tryz.prog.wantsStandIn u) = true := by kernel_rfl
theorem cardGoes : false = Rows.gaugeDrawsRow.goesBy Tryz.prog := by kernel_rfl
end Go.Proofs.YtcgieejgmcgicaaGreatDoor.gaugeDraws
