/-
  The document's Has, in, joined: they come back.
-/
import Derived.Test.YtjahiihmoglpfaaGreatDoorMg10
import Derived.Test.YtjahiihmoglpfaaGreatDoorMg3
namespace Go.Proofs.YtjahiihmoglpfaaGreatDoor
open Go.RowKit
set_option linter.unusedVariables false
set_option linter.unusedSimpArgs false
set_option maxRecDepth 100000
set_option maxHeartbeats 4000000 in
theorem xfn (l : List UInt8) (r : Int) (w : World) (hl : l.length ≤ 1000) : Calls Tryz.prog 134 #[.string ⟨l.toArray⟩, .int .i64 r] w (Rt IsBo w) := by
 go_enter Tryz.func134, Tryz.ntmps134
 go_wp2_with fail
 go_loopw [5] (fun iv wr => ∃ i : Nat, iv = .int .i64 i ∧ i ≤ l.length ∧ w = wr) (fun iv _ => l.length + 1 - (intOf iv).toNat)
 case atStart => exact ⟨0, rfl, Nat.zero_le _, rfl⟩
 case round =>
  obtain ⟨i, rfl, hi, rfl⟩ := hrel
  by_cases hil : i < l.length
  · obtain ⟨c, hc⟩ : ∃ c, l[i]? = some c := ⟨_, List.getElem?_eq_getElem hil⟩
    have hx := idxS hc
    clear hc
    go_wp2_with fail
    all_goals first
     | (go_ret; exact Rt.bo (xaa.refl _ _))
     | (go_roundw
        case rel => exact ⟨i + 1, by go_num, by omega, by trivial⟩
        case measure => simp [intOf]; omega)
  go_wp2_with fail
  go_ret
  exact Rt.bo (xaa.refl _ _)
end Go.Proofs.YtjahiihmoglpfaaGreatDoor
