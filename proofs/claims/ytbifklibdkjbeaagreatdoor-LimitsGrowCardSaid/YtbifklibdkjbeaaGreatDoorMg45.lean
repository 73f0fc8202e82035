/-
  Several texts in one: What the rows of this seat take from the program's text: the listed tables read as it lays them. A job copied; a field of it set.
-/
import Derived.Test.YtbifklibdkjbeaaGreatDoorMg1
import Derived.Test.YtbifklibdkjbeaaGreatDoorChecked
import Derived.Test.YtbifklibdkjbeaaGreatDoorRows
import Derived.Test.YtbifklibdkjbeaaGreatDoorCards
import Derived.Test.YtbifklibdkjbeaaGreatDoorTie
import Derived.ProofKit
import Derived.LaidMore
import Derived.Lib.LaidTab
import Derived.Stop.LaidErr
import Derived.OpenShut
import Derived.ShutString
import Derived.ChangeOld
import Derived.Stop.Joined
import Derived.SevenTiedAt
namespace Go.Proofs.YtbifklibdkjbeaaGreatDoor
open Go.RowKit
set_option linter.unusedVariables false
set_option linter.unusedSimpArgs false
set_option maxRecDepth 100000
section
open Go.ChangeShapes Go.WideShapes Go.ChangeAt Go.WideMaps Go.WideElems
theorem own : ownKnob Tryz.prog.godebug = none := by kernel_rfl
theorem xhU : laidOutB Tryz.prog = true := by kernel_rfl
abbrev xhV {H : Type} : List (String × DataW H) := [("math/bits.deBruijn32tab", Rows.laid_math_bits_deBruijn32tab), ("math/bits.deBruijn64tab", Rows.laid_math_bits_deBruijn64tab), ("internal/strconv.uint64pow10", Rows.laid_internal_strconv_uint64pow10)]
theorem xi5 (os : Os) (args : Array Value) : laidMetH Tryz.prog xhV ((World.doorLaid Tryz.prog 400 os).forCall (fun _ _ => 0) ⟨#[], args, []⟩).memory :=
 laidMetH_of_parts3 (fuel := 8) (laidMet_of_run' 8 (by kernel_rfl) (by kernel_rfl)) (by kernel_rfl) (by kernel_rfl)
end
theorem xiU (j : JV) : (jCs j).all (·.oneCell') = true := by simp [jCs, Value.oneCell']
theorem xcQ {w : World} {b : Nat} {cs : Array Value} {t : TypeId} (i : Nat) (v : Value) (h : w.heap[b]? = some (.cells cs t (0, 0))) : (w.setCell ⟨b, i, none⟩ v).heap[b]? = some (.cells (cs.setIfInBounds i v) t (0, 0)) := by
 simp [World.setCell, Array.getElem?_modify, h]
theorem xi6 (w : World) (j : JV) (w' : World) (h : (w.alloc (.cells #[.slice none 0 0, .slice none 0 0, .int .i64 0, .int .i64 0, .int .i64 0, .string ⟨#[]⟩, .int .i64 0, .int .i64 0, .int .i64 0, .int .i64 0, .int .i64 0, .int .i64 0, .int .i64 0, .int .i64 0, .int .i64 0, .int .i64 0, .int .i64 0] 28)).setRow w.heap.size (jCs j) = w') : JbAt w' w.heap.size j ∧ xa (fun _ => False) w w' ∧ w'.heap.size = w.heap.size + 1 := by
 subst h
 refine ⟨setRow_heap _ _ _ _ _ _ (heap_alloc_new w _), ?_, by simp⟩
 have hk : xa (fun _ => False) w (w.alloc (.cells #[.slice none 0 0, .slice none 0 0, .int .i64 0, .int .i64 0, .int .i64 0, .string ⟨#[]⟩, .int .i64 0, .int .i64 0, .int .i64 0, .int .i64 0, .int .i64 0, .int .i64 0, .int .i64 0, .int .i64 0, .int .i64 0, .int .i64 0, .int .i64 0] 28)) := (xa.refl _ _).alloc _
 exact hk.trans2 (T := fun b => b = w.heap.size) ⟨rfl, rfl, rfl, by simp, fun k hk hs => setRow_other _ _ _ _ hs⟩ (fun b hb e => by have e : b = w.heap.size := e; omega)
end Go.Proofs.YtbifklibdkjbeaaGreatDoor
