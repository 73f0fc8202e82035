/-
  The first look of layer 22's laws, reckoned: in every world it comes back true. No condition.
-/
import Derived.Test.YtgobcnheemocnaaGreatDoorChecked
import Derived.Test.YtgobcnheemocnaaGreatDoorMg10
import Derived.KernelRfl
namespace Go.Proofs.YtgobcnheemocnaaGreatDoor
open Go
set_option maxRecDepth 1000000

theorem awake22 (w : World) : Calls Tryz.prog 4 #[] w fun e w' => e = .returned (.bool true) ∧ Keeps (fun _ => False) w w' :=
  awake_true (by kernel_rfl) (by kernel_rfl) 3000 4 (by kernel_rfl) w
end Go.Proofs.YtgobcnheemocnaaGreatDoor
