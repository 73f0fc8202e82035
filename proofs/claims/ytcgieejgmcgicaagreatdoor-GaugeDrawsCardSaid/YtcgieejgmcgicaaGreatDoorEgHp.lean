/-
  strings.HasPrefix.
-/
import Derived.Test.YtcgieejgmcgicaaGreatDoorLib
import Derived.Test.YtcgieejgmcgicaaGreatDoorProg
namespace Go.Proofs.YtcgieejgmcgicaaGreatDoor
open Go.RowKit
set_option linter.unusedVariables false
set_option linter.unusedSimpArgs false
set_option maxRecDepth 100000

def hpB (X s : ByteArray) : Bool := decide (s.size ≤ X.size) && ((X.extract 0 s.size).toList == s.toList)
set_option maxHeartbeats 1000000 in
theorem hpre_any (X s : ByteArray) (w : World) (hX : X.size ≤ 100000) (hs : s.size ≤ 100000) : Calls Tryz.prog 238 #[.string X, .string s] w fun e w' => e = .returned (.bool (hpB X s)) ∧ w = w' := by
  obtain ⟨b, hb⟩ : ∃ b, hpB X s = b := ⟨_, rfl⟩
  rw [hb]
  have HB := Lib.hid hb
  clear hb
  by_cases h : s.size ≤ X.size
  · have g : decide ((s.size : Int) ≤ (X.size : Int)) = true := by simp; omega
    have HE : Hid (((X.extract 0 s.size).toList == s.toList) = b) := Lib.hid (by rw [← HB.out]; unfold hpB; simp [h])
    go_enter Tryz.func238, Tryz.ntmps238
    go_wp2_with fail
    go_ret
    exact ⟨by rw [← HE.out]; rfl, rfl⟩
  · have g : decide ((s.size : Int) ≤ (X.size : Int)) = false := by simp; omega
    have HE : Hid (false = b) := Lib.hid (by rw [← HB.out]; unfold hpB; simp [h])
    go_enter Tryz.func238, Tryz.ntmps238
    go_wp2_with fail
    go_ret
    exact ⟨by rw [← HE.out]; rfl, rfl⟩
theorem hprefix_any (X s : ByteArray) (w : World) (hX : X.size ≤ 100000) (hs : s.size ≤ 100000) : Calls Tryz.prog 203 #[.string X, .string s] w fun e w' => e = .returned (.bool (hpB X s)) ∧ w = w' := by
  have HP := Lib.hid (fun W => hpre_any X s W hX hs)
  generalize hpB X s = b at *
  go_enter Tryz.func203, Tryz.ntmps203
  go_wp2_with fail
  refine (HP.out _).mono ?_
  rintro e w2 ⟨rfl, rfl⟩
  go_wp2_with fail
  go_ret
  exact ⟨rfl, rfl⟩
end Go.Proofs.YtcgieejgmcgicaaGreatDoor
