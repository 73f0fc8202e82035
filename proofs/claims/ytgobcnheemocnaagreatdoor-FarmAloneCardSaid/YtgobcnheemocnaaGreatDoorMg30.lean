/-
  Several texts in one: The card's closed facts, one theorem each. What the rows of this seat take from the program's text: the listed tables read as it lays them.
-/
import Derived.Test.YtgobcnheemocnaaGreatDoorRows
import Derived.Test.YtgobcnheemocnaaGreatDoorCards
import Derived.Test.YtgobcnheemocnaaGreatDoorMg1
import Derived.Test.YtgobcnheemocnaaGreatDoorChecked
import Derived.SevenTiedAt
import Derived.KernelRfl
import Derived.Test.YtgobcnheemocnaaGreatDoorTie
import Derived.ProofKit
import Derived.LaidMore
import Derived.Lib.LaidTab
import Derived.Stop.LaidErr
import Derived.OpenShut
import Derived.ShutString
import Derived.ChangeOld
import Derived.Stop.Joined
section
namespace Go.Proofs.YtgobcnheemocnaaGreatDoor.farmAlone
set_option linter.unusedVariables false
set_option maxRecDepth 100000
theorem cardWf : Rows.farmAloneRow.wfByText (OpenSpec.ofChange Rows.farmAloneSpec) = true := by kernel_rfl
theorem cardMain : Tryz.prog.mainIs = some (Rows.farmAloneCard.stood.harness.1, Rows.farmAloneCard.stood.harness.2.toList) := by kernel_rfl
theorem cardNamed : Tryz.prog.funcNamed "reedbed/reedbedlaw22.FarmAlone" = some 3 := by kernel_rfl
theorem cardLooks : true = Tryz.prog.looks [] := by kernel_rfl
theorem cardPlain : ([22, 23].all fun u => !Tryz.prog.wantsStandIn u) = true := by kernel_rfl
theorem cardGoes : false = Rows.farmAloneRow.goesBy Tryz.prog := by kernel_rfl
end Go.Proofs.YtgobcnheemocnaaGreatDoor.farmAlone
end
section
namespace Go.Proofs.YtgobcnheemocnaaGreatDoor
open Go.ChangeShapes Go.WideShapes Go.ChangeAt Go.WideMaps Go.WideElems Go.RowKit
set_option linter.unusedVariables false

theorem own : ownKnob Tryz.prog.godebug = none := by kernel_rfl
theorem laidOut : laidOutB Tryz.prog = true := by kernel_rfl
abbrev laidL {H : Type} : List (String × DataW H) := [("math/bits.deBruijn32tab", Rows.laid_math_bits_deBruijn32tab), ("math/bits.deBruijn64tab", Rows.laid_math_bits_deBruijn64tab), ("internal/strconv.uint64pow10", Rows.laid_internal_strconv_uint64pow10)]

theorem door_met (os : Os) (args : Array Value) : laidMetH Tryz.prog laidL ((World.doorLaid Tryz.prog 400 os).forCall (fun _ _ => 0) ⟨#[], args, []⟩).memory :=
  laidMetH_of_parts3 (fuel := 8) (laidMet_of_run' 8 (by kernel_rfl) (by kernel_rfl)) (by kernel_rfl) (by kernel_rfl)

end Go.Proofs.YtgobcnheemocnaaGreatDoor
end
