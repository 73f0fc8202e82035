/-
  strconv.Itoa where its table lies.
-/
import Derived.Test.YtcgieejgmcgicaaGreatDoorStrL
import Derived.Test.YtcgieejgmcgicaaGreatDoorShelf
import Derived.Lib.SmallJoins
import Derived.Lib.AppendIntMem
namespace Go.Proofs.YtcgieejgmcgicaaGreatDoor
open Go.RowKit
set_option linter.unusedVariables false
set_option linter.unusedSimpArgs false
set_option maxRecDepth 100000

open Go.Sort (grow)
/-- The table of powers of ten lies in the world. -/
def TabW (w : World) : Prop := Lib.TabIs Tryz.prog w "internal/strconv.uint64pow10" .u64 Lib.pow10Tab
theorem tab_named : Tryz.prog.globalNamed "internal/strconv.uint64pow10" = some 0 := by kernel_rfl
theorem TabW.keeps {w w' : World} (h : TabW w) (K : Keeps (fun _ => False) w w') : TabW w' := Go.Joins.tab_stays tab_named h K.belowAll (Nat.le_refl _)
theorem keeps_grow (w : World) (os : Array Obj) (k : Nat) : Keeps (fun _ => False) w (grow (w.drewN k) os) := 
  Keeps.ofBelowAll (Lib.below_grow _ w (Nat.le_refl _) k os) _
theorem itoa_any (n : Int) (w : World) (h : in64 n) (ht : TabW w) : Calls Tryz.prog 83 #[.int .i64 n] w fun e w' => e = .returned (strL (Lib.itoa n)) ∧ Keeps (fun _ => False) w w' :=
  (Tryz.strconv_Itoa n h.1 h.2 w ht).mono fun e w' ⟨h1, k, os, h2⟩ => ⟨h1, by rw [h2]; exact keeps_grow _ _ _⟩
end Go.Proofs.YtcgieejgmcgicaaGreatDoor
