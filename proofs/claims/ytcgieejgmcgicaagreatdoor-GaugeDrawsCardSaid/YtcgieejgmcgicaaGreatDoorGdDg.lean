/-
  The document's digits of a number that is not below 0 (reference 18). No condition.
-/
import Derived.Test.YtcgieejgmcgicaaGreatDoorStrL
import Derived.Deep.QuietTactic
import Derived.BigQuiet
import Derived.Handy
namespace Go.Proofs.YtcgieejgmcgicaaGreatDoor
open Go.RowKit
set_option linter.unusedVariables false
set_option linter.unusedSimpArgs false
set_option maxRecDepth 100000

set_option maxHeartbeats 1000000 in
theorem digits18 (m : Nat) (w : World) (h : m ≤ 9223372036854775807) :
    Calls Tryz.prog 71 #[.int .i64 m] w fun e w' => e = .returned (strL (Lib.decDigits m)) ∧ Keeps (fun _ => False) w w' := by
  induction m using Nat.strongRecOn generalizing w with
  | _ m ih =>
    by_cases h10 : m < 10
    · have g1 : decide ((m : Int) < 0) = false := by simp
      have g2 : decide ((m : Int) < 10) = true := by simp; omega
      have HD : Hid (Lib.decDigits m = [UInt8.ofNat (48 + m)]) := Lib.hid (by rw [Lib.decDigits, dif_pos h10])
      have hcv := back1 w (UInt8.ofNat (48 + m))
      have e1 : (((UInt8.ofNat (48 + m)).toNat : Nat) : Int) = 48 + (m : Int) := by
        rw [UInt8.toNat_ofNat_of_lt' (by show 48 + m < 256; omega)]; omega
      rw [e1] at hcv
      clear e1 ih
      generalize UInt8.ofNat (48 + m) = c at *
      generalize Lib.decDigits m = D at *
      go_enter Tryz.func71, Tryz.ntmps71
      go_wp2_with fail
      go_ret
      exact ⟨by rw [HD.out]; rfl, by (repeat' (with_reducible first | exact Keeps.refl _ _ | assumption | refine Keeps.drawN ?_ _ | refine Keeps.drew ?_ | refine Keeps.setCell ?_ ?_ _ | refine Keeps.alloc ?_ _)) <;> (first | exact Or.inr (Nat.le_refl _) | exact Or.inl rfl | exact Or.inl (Or.inl rfl) | exact Or.inl (Or.inr rfl) | (right; simp; done) | (right; simp; omega))⟩
    · have g1 : decide ((m : Int) < 0) = false := by simp
      have g2 : decide ((m : Int) < 10) = false := by simp; omega
      have HD : Hid (Lib.decDigits m = Lib.decDigits (m / 10) ++ Lib.decDigits (m % 10)) := Lib.hid (by rw [Lib.decDigits, dif_neg h10]; congr 1; rw [Lib.decDigits, dif_pos (by omega)])
      have HQ : Hid (∀ W, Calls Tryz.prog 71 #[.int .i64 ((m : Int) / 10)] W fun e w' => e = .returned (strL (Lib.decDigits (m / 10))) ∧ Keeps (fun _ => False) W w') := Lib.hid (fun W => by
        have := ih (m / 10) (by omega) W (by omega)
        rwa [show ((m / 10 : Nat) : Int) = (m : Int) / 10 by omega] at this)
      have HR : Hid (∀ W, Calls Tryz.prog 71 #[.int .i64 ((m : Int) % 10)] W fun e w' => e = .returned (strL (Lib.decDigits (m % 10))) ∧ Keeps (fun _ => False) W w') := Lib.hid (fun W => by
        have := ih (m % 10) (by omega) W (by omega)
        rwa [show ((m % 10 : Nat) : Int) = (m : Int) % 10 by omega] at this)
      have l1 := decDigits_short (m / 10) 19 (by omega)
      have l2 := decDigits_short (m % 10) 19 (by omega)
      clear ih
      generalize Lib.decDigits m = D at *
      generalize Lib.decDigits (m / 10) = D1 at *
      generalize Lib.decDigits (m % 10) = D2 at *
      go_enter Tryz.func71, Tryz.ntmps71
      go_wp2_with fail
      refine (HQ.out _).mono ?_
      rintro e w1 ⟨rfl, k1⟩
      have K1 := Lib.hid k1
      clear k1
      unfold strL
      go_wp2_with fail
      refine (HR.out _).mono ?_
      rintro e w2 ⟨rfl, k2⟩
      have K2 := Lib.hid k2
      clear k2
      unfold strL
      go_wp2_with fail
      go_ret
      exact ⟨by rw [HD.out]; rfl, K1.out.trans K2.out⟩
end Go.Proofs.YtcgieejgmcgicaaGreatDoor
