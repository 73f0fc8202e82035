/-
  The first look of layer 25's laws, reckoned: in every world it comes back true. No condition.
-/
import Derived.Test.YtbifklibdkjbeaaGreatDoorChecked
import Derived.Test.YtbifklibdkjbeaaGreatDoorEvAiG
import Derived.KernelRfl
namespace Go.Proofs.YtbifklibdkjbeaaGreatDoor
open Go.RowKit
set_option linter.unusedVariables false
set_option linter.unusedSimpArgs false
set_option maxRecDepth 100000
section
open Go
set_option maxRecDepth 1000000
theorem run25 : xfU (xfa Tryz.prog 3000 15 [] AH.empty) = true := by kernel_rfl
theorem ng25 : okNG Tryz.prog = true := by kernel_rfl
theorem mixed25 : Tryz.prog.follows .mixedOrders = true := by kernel_rfl
theorem xgn (w : World) : Calls Tryz.prog 15 #[] w fun e w' => e = .returned (.bool true) ∧ xa (fun _ => False) w w' :=
 xkj ng25 mixed25 3000 15 run25 w
end
end Go.Proofs.YtbifklibdkjbeaaGreatDoor
