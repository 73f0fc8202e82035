/-
  parse.among, parse.one.
-/
import Derived.Test.YtinogeobkljngaaDoorPaCnt
import Derived.Test.YtinogeobkljngaaDoorShelf
import Derived.Test.YtinogeobkljngaaDoorSetNot
import Derived.Test.YtinogeobkljngaaDoorSetNamedW
namespace Go.Proofs.YtinogeobkljngaaDoor
open Go.RowKit
set_option linter.unusedVariables false
set_option linter.unusedSimpArgs false
set_option maxRecDepth 100000

/-- Is a code point one of an alphabet? -/
def amg (al : List UInt8) (r : Int) : Bool := decide (0 ≤ r) && decide (r < 128) && decide (0 ≤ Lib.indexByte al r.toNat.toUInt8)

theorem among_any (al : ByteArray) (r : Int) (w : World) : Calls Tryd.prog 57 #[.string al, .int .i64 r] w fun e w' => e = .returned (.bool (amg al.data.toList r)) ∧ w = w' := by
  by_cases h0 : 0 ≤ r
  · have g0 : decide (0 ≤ r) = true := by simpa using h0
    by_cases h1 : r < 128
    · have g1 : decide (r < 128) = true := by simpa using h1
      have HI := Lib.hid (fun W => Tryd.strings_IndexByte al r W)
      by_cases h2 : 0 ≤ Lib.indexByte al.data.toList r.toNat.toUInt8
      · have e : amg al.data.toList r = true := by simp [amg, h0, h1, h2]
        rw [e]
        generalize Lib.indexByte al.data.toList r.toNat.toUInt8 = q at *
        go_enter Tryd.func57, Tryd.ntmps57
        go_wp2_with fail
        refine (HI.out _).mono ?_
        rintro e w1 ⟨rfl, rfl⟩
        go_wp2_with fail
        go_ret
        exact ⟨rfl, rfl⟩
      · have e : amg al.data.toList r = false := by simp [amg, h2]
        have g2 : decide (0 ≤ Lib.indexByte al.data.toList r.toNat.toUInt8) = false := by simpa using h2
        rw [e]
        generalize Lib.indexByte al.data.toList r.toNat.toUInt8 = q at *
        go_enter Tryd.func57, Tryd.ntmps57
        go_wp2_with fail
        refine (HI.out _).mono ?_
        rintro e w1 ⟨rfl, rfl⟩
        go_wp2_with fail
        go_ret
        exact ⟨rfl, rfl⟩
    · have e : amg al.data.toList r = false := by simp [amg, h1]
      have g1 : decide (r < 128) = false := by simpa using h1
      rw [e]
      go_enter Tryd.func57, Tryd.ntmps57
      go_wp2_with fail
      go_ret
      exact ⟨rfl, rfl⟩
  · have e : amg al.data.toList r = false := by simp [amg, h0]
    have g0 : decide (0 ≤ r) = false := by simpa using h0
    rw [e]
    go_enter Tryd.func57, Tryd.ntmps57
    go_wp2_with fail
    go_ret
    exact ⟨rfl, rfl⟩

theorem one_any (r : Int) (w : World) : Calls Tryd.prog 54 #[.int .i64 r] w fun e w' => e = .returned (.slice (some ⟨w.heap.size, 0, none⟩) 1 1) ∧ ROwn w w' (.slice (some ⟨w.heap.size, 0, none⟩) 1 1) [(r, r)] := by
  go_enter Tryd.func54, Tryd.ntmps54
  go_wp2_with fail
  go_ret
  refine ⟨rfl, ⟨rfl, Or.inr ⟨w.heap.size, 1, _, rfl, Nat.le_refl _, heap_alloc_new w _, Nat.le_refl _, by unfold maxLen; decide, rfl, rfl⟩⟩, (Keeps.refl _ _).alloc _⟩
end Go.Proofs.YtinogeobkljngaaDoor
