/-
  TraceRows' first look, reckoned: in every world it comes back true. No condition.
-/
import Derived.Test.YtcgieejgmcgicaaGreatDoorChecked
import Derived.Test.YtcgieejgmcgicaaGreatDoorEvAi
import Derived.KernelRfl
namespace Go.Proofs.YtcgieejgmcgicaaGreatDoor
open Go
set_option maxRecDepth 1000000

theorem awake26 (w : World) : Calls Tryz.prog 24 #[] w fun e w' => e = .returned (.bool true) ∧ Keeps (fun _ => False) w w' :=
  awake_true (by kernel_rfl) (by kernel_rfl) 3000 24 (by kernel_rfl) w
end Go.Proofs.YtcgieejgmcgicaaGreatDoor
