/-
  The first look of layer 30's laws, reckoned: in every world it comes back true. No condition.
-/
import Derived.Test.YtcgieejgmcgicaaGreatDoorChecked
import Derived.Test.YtcgieejgmcgicaaGreatDoorEvAi
import Derived.KernelRfl
namespace Go.Proofs.YtcgieejgmcgicaaGreatDoor
open Go
set_option maxRecDepth 1000000

theorem run30 : saysTrue (callA Tryz.prog 3000 38 [] AH.empty) = true := by kernel_rfl
theorem ng30 : okNG Tryz.prog = true := by kernel_rfl
theorem mixed30 : Tryz.prog.follows .mixedOrders = true := by kernel_rfl
theorem awake30 (w : World) : Calls Tryz.prog 38 #[] w fun e w' => e = .returned (.bool true) ∧ Keeps (fun _ => False) w w' :=
  awake_true ng30 mixed30 3000 38 run30 w
end Go.Proofs.YtcgieejgmcgicaaGreatDoor
