/-
  What the rows of this seat take from the program's text: the listed tables read as it lays them.
-/
import Derived.Test.YtcgieejgmcgicaaGreatDoorLib
import Derived.Test.YtcgieejgmcgicaaGreatDoorPaSjA
import Derived.Test.YtcgieejgmcgicaaGreatDoorChecked
import Derived.Test.YtcgieejgmcgicaaGreatDoorRows
import Derived.Test.YtcgieejgmcgicaaGreatDoorCards
import Derived.Test.YtcgieejgmcgicaaGreatDoorTie
import Derived.ProofKit
import Derived.LaidMore
import Derived.Lib.LaidTab
import Derived.Stop.LaidErr
import Derived.OpenShut
import Derived.ShutString
import Derived.ChangeOld
import Derived.Stop.Joined
import Derived.SevenTiedAt
namespace Go.Proofs.YtcgieejgmcgicaaGreatDoor
open Go.ChangeShapes Go.WideShapes Go.ChangeAt Go.WideMaps Go.WideElems Go.RowKit
set_option linter.unusedVariables false

theorem own : ownKnob Tryz.prog.godebug = none := by kernel_rfl
theorem laidOut : laidOutB Tryz.prog = true := by kernel_rfl
abbrev laidL {H : Type} : List (String × DataW H) := [("math/bits.deBruijn32tab", Rows.laid_math_bits_deBruijn32tab), ("math/bits.deBruijn64tab", Rows.laid_math_bits_deBruijn64tab), ("internal/strconv.uint64pow10", Rows.laid_internal_strconv_uint64pow10)]

theorem tTab : (Tryz.prog.globals[0]?).map (·.type) = some 408 := by kernel_rfl

theorem door_met (os : Os) (args : Array Value) : laidMetH Tryz.prog laidL ((World.doorLaid Tryz.prog 400 os).forCall (fun _ _ => 0) ⟨#[], args, []⟩).memory :=
  laidMetH_of_parts3 (fuel := 8) (laidMet_of_run' 8 (by kernel_rfl) (by kernel_rfl)) (by kernel_rfl) (by kernel_rfl)

set_option maxRecDepth 100000 in
theorem of_laid {W : World} (h : laidMetH Tryz.prog laidL W) : TabW W := by
  rw [MakeChecks.laidMetH_plain _ _ _ (by kernel_rfl)] at h
  exact Lib.tabIs_of_head tab_named tTab Tryz.underlying408 Tryz.underlying204 (by kernel_rfl) (by kernel_rfl) (show laidMet Tryz.prog [("internal/strconv.uint64pow10", Lib.tabData .u64 Lib.pow10Tab)] W from h.tail.tail)
end Go.Proofs.YtcgieejgmcgicaaGreatDoor
