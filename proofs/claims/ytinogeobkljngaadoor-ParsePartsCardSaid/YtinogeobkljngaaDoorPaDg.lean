/-
  The document's digits of a number.
-/
import Derived.Test.YtinogeobkljngaaDoorSl
import Derived.Test.YtinogeobkljngaaDoorPaSt
import Derived.Lib.ItoaNum
import Derived.Lib.ConvBytes
import Derived.IntWalk
namespace Go.Proofs.YtinogeobkljngaaDoor
open Go.RowKit
set_option linter.unusedVariables false
set_option linter.unusedSimpArgs false
set_option maxRecDepth 100000

def strL (l : List UInt8) : Value := .string ⟨l.toArray⟩
theorem back1 (w : World) (c : UInt8) : (convert 33 9 (.slice (some ⟨w.heap.size, 0, none⟩) 1 1)).run Tryd.prog (w.alloc (.cells #[.int .u8 (c.toNat : Int)] 5)) = .ok (.string ⟨#[c]⟩) (w.alloc (.cells #[.int .u8 (c.toNat : Int)] 5)) := by
  have := run_convert_bytes_back (P := Tryd.prog) (w.alloc (.cells #[.int .u8 (c.toNat : Int)] 5)) 33 9 5 ⟨w.heap.size, 0, none⟩ 1 [c] Tryd.underlying33 Tryd.underlying5 Tryd.underlying9 (fun j hj => by
    obtain rfl : j = 0 := by simp at hj; omega
    exact cells_new w [.int .u8 (c.toNat : Int)] 5 0 _ rfl)
  exact this
theorem str_app (a b : List UInt8) : (⟨a.toArray⟩ : ByteArray) ++ ⟨b.toArray⟩ = ⟨(a ++ b).toArray⟩ := by
  apply ByteArray.ext
  simp [ByteArray.data_append]
theorem decDigits_len : ∀ m, (Lib.decDigits m).length ≤ m + 1 := by
  intro m
  induction m using Nat.strongRecOn with
  | _ m ih =>
    rw [Lib.decDigits]
    split
    · simp
    · have := ih (m / 10) (by omega)
      simp; omega
theorem decDigits_short (m k : Nat) (h : m < 10 ^ (k + 1)) : (Lib.decDigits m).length ≤ k + 1 := by
  induction k generalizing m with
  | zero => rw [Lib.decDigits, dif_pos (by omega)]; simp
  | succ k ih =>
    rw [Lib.decDigits]
    split
    · simp
    · have := ih (m / 10) (by rw [Nat.pow_succ] at h; omega)
      simp; omega
set_option maxHeartbeats 1000000 in
theorem digits_nat (m : Nat) (w : World) (h : m ≤ 9223372036854775807) :
    Calls Tryd.prog 26 #[.int .i64 m] w fun e w' => e = .returned (strL (Lib.decDigits m)) ∧ Keeps (fun _ => False) w w' := by
  induction m using Nat.strongRecOn generalizing w with
  | _ m ih =>
    by_cases h10 : m < 10
    · have g1 : decide ((m : Int) < 0) = false := by simp
      have g2 : decide ((m : Int) < 10) = true := by simp; omega
      have HD : Hid (Lib.decDigits m = [UInt8.ofNat (48 + m)]) := Lib.hid (by rw [Lib.decDigits, dif_pos h10])
      have hcv := back1 w (UInt8.ofNat (48 + m))
      have e1 : (((UInt8.ofNat (48 + m)).toNat : Nat) : Int) = 48 + (m : Int) := by
        rw [UInt8.toNat_ofNat_of_lt' (by show 48 + m < 256; omega)]; omega
      rw [e1] at hcv
      clear e1 ih
      generalize UInt8.ofNat (48 + m) = c at *
      generalize Lib.decDigits m = D at *
      go_enter Tryd.func26, Tryd.ntmps26
      go_wp2_with fail
      go_ret
      exact ⟨by rw [HD.out]; rfl, by (repeat' (with_reducible first | exact Keeps.refl _ _ | assumption | refine Keeps.drawN ?_ _ | refine Keeps.drew ?_ | refine Keeps.setCell ?_ ?_ _ | refine Keeps.alloc ?_ _)) <;> (first | exact Or.inr (Nat.le_refl _) | exact Or.inl rfl | exact Or.inl (Or.inl rfl) | exact Or.inl (Or.inr rfl) | (right; simp; done) | (right; simp; omega))⟩
    · have g1 : decide ((m : Int) < 0) = false := by simp
      have g2 : decide ((m : Int) < 10) = false := by simp; omega
      have HD : Hid (Lib.decDigits m = Lib.decDigits (m / 10) ++ Lib.decDigits (m % 10)) := Lib.hid (by rw [Lib.decDigits, dif_neg h10]; congr 1; rw [Lib.decDigits, dif_pos (by omega)])
      have HQ : Hid (∀ W, Calls Tryd.prog 26 #[.int .i64 ((m : Int) / 10)] W fun e w' => e = .returned (strL (Lib.decDigits (m / 10))) ∧ Keeps (fun _ => False) W w') := Lib.hid (fun W => by
        have := ih (m / 10) (by omega) W (by omega)
        rwa [show ((m / 10 : Nat) : Int) = (m : Int) / 10 by omega] at this)
      have HR : Hid (∀ W, Calls Tryd.prog 26 #[.int .i64 ((m : Int) % 10)] W fun e w' => e = .returned (strL (Lib.decDigits (m % 10))) ∧ Keeps (fun _ => False) W w') := Lib.hid (fun W => by
        have := ih (m % 10) (by omega) W (by omega)
        rwa [show ((m % 10 : Nat) : Int) = (m : Int) % 10 by omega] at this)
      have l1 := decDigits_short (m / 10) 19 (by omega)
      have l2 := decDigits_short (m % 10) 19 (by omega)
      clear ih
      generalize Lib.decDigits m = D at *
      generalize Lib.decDigits (m / 10) = D1 at *
      generalize Lib.decDigits (m % 10) = D2 at *
      go_enter Tryd.func26, Tryd.ntmps26
      go_wp2_with fail
      refine (HQ.out _).mono ?_
      rintro e w1 ⟨rfl, k1⟩
      have K1 := Lib.hid k1
      clear k1
      unfold strL
      go_wp2_with fail
      refine (HR.out _).mono ?_
      rintro e w2 ⟨rfl, k2⟩
      have K2 := Lib.hid k2
      clear k2
      unfold strL
      go_wp2_with fail
      go_ret
      exact ⟨by rw [HD.out]; rfl, K1.out.trans K2.out⟩
theorem itoa_nat (m : Nat) : Lib.itoa (m : Int) = Lib.decDigits m := by
  unfold Lib.itoa
  rw [if_neg (by omega)]; simp
theorem itoa_neg (m : Nat) (h : 1 ≤ m) : Lib.itoa (-(m : Int)) = 45 :: Lib.decDigits m := by
  unfold Lib.itoa
  rw [if_pos (by omega)]; simp
theorem itoa_len (n : Int) (h : in64 n) : (Lib.itoa n).length ≤ 20 ∧ 1 ≤ (Lib.itoa n).length := by
  have hp : ∀ m, 1 ≤ (Lib.decDigits m).length := fun m => by rw [Lib.decDigits]; split <;> simp
  unfold in64 at h
  unfold Lib.itoa
  split
  · have := decDigits_short n.natAbs 18 (by omega)
    simp; omega
  · have := decDigits_short n.toNat 18 (by omega)
    have := hp n.toNat
    omega
set_option maxHeartbeats 1000000 in
theorem digits_any (n : Int) (w : World) (h : in64 n) :
    Calls Tryd.prog 26 #[.int .i64 n] w fun e w' => e = .returned (strL (Lib.itoa n)) ∧ Keeps (fun _ => False) w w' := by
  unfold in64 at h
  rcases (by omega : 0 ≤ n ∨ n < 0) with h0 | h0
  · obtain ⟨m, rfl⟩ := Int.eq_ofNat_of_zero_le h0
    rw [itoa_nat]
    exact digits_nat m w (by omega)
  · obtain ⟨m, rfl⟩ : ∃ m : Nat, n = -(m : Int) := ⟨n.natAbs, by omega⟩
    rw [itoa_neg m (by omega)]
    have g0 : decide (0 < m) = true := by simp; omega
    have e1 : IntKind.u64.wrap (-(m : Int)) = 18446744073709551616 - m := by
      rw [IntKind.wrap_u64]; omega
    have e2 : IntKind.u64.wrap (-(18446744073709551616 - (m : Int))) = m := by
      rw [IntKind.wrap_u64]; omega
    by_cases h10 : 9 < m
    · have g2 : decide (9 < (m : Int)) = true := by simp; omega
      have g3 : decide (9 < m) = true := by simpa using h10
      have t1 : (m : Int).tdiv 10 = (m : Int) / 10 := Int.tdiv_eq_ediv_of_nonneg (by omega)
      have t2 : (m : Int).tmod 10 = (m : Int) % 10 := Int.tmod_eq_emod_of_nonneg (by omega)
      have e5 : IntKind.u64.wrap ((m : Int) / 10) = (m : Int) / 10 := by rw [IntKind.wrap_u64]; omega
      have e6 : IntKind.u64.wrap ((m : Int) % 10) = (m : Int) % 10 := by rw [IntKind.wrap_u64]; omega
      have HD : Hid (Lib.decDigits m = Lib.decDigits (m / 10) ++ Lib.decDigits (m % 10)) := Lib.hid (by rw [Lib.decDigits, dif_neg (by omega)]; congr 1; rw [Lib.decDigits, dif_pos (by omega)])
      have HQ : Hid (∀ W, Calls Tryd.prog 26 #[.int .i64 ((m : Int) / 10)] W fun e w' => e = .returned (strL (Lib.decDigits (m / 10))) ∧ Keeps (fun _ => False) W w') := Lib.hid (fun W => by
        have := digits_nat (m / 10) W (by omega)
        rwa [show ((m / 10 : Nat) : Int) = (m : Int) / 10 by omega] at this)
      have HR : Hid (∀ W, Calls Tryd.prog 26 #[.int .i64 ((m : Int) % 10)] W fun e w' => e = .returned (strL (Lib.decDigits (m % 10))) ∧ Keeps (fun _ => False) W w') := Lib.hid (fun W => by
        have := digits_nat (m % 10) W (by omega)
        rwa [show ((m % 10 : Nat) : Int) = (m : Int) % 10 by omega] at this)
      have l1 := decDigits_short (m / 10) 19 (by omega)
      have l2 := decDigits_short (m % 10) 19 (by omega)
      have e3 : wrap64 ((m : Int) / 10) = (m : Int) / 10 := by unfold wrap64; omega
      have e4 : wrap64 ((m : Int) % 10) = (m : Int) % 10 := by unfold wrap64; omega
      generalize Lib.decDigits m = D at *
      generalize Lib.decDigits (m / 10) = D1 at *
      generalize Lib.decDigits (m % 10) = D2 at *
      go_enter Tryd.func26, Tryd.ntmps26
      go_wp2_with fail
      refine (HQ.out _).mono ?_
      rintro e w1 ⟨rfl, k1⟩
      have K1 := Lib.hid k1
      clear k1
      unfold strL
      go_wp2_with fail
      refine (HR.out _).mono ?_
      rintro e w2 ⟨rfl, k2⟩
      have K2 := Lib.hid k2
      clear k2
      unfold strL
      go_wp2_with fail
      go_ret
      exact ⟨by rw [HD.out]; rfl, K1.out.trans K2.out⟩
    · have g2 : decide (9 < (m : Int)) = false := by simp; omega
      have g3 : decide (9 < m) = false := by simpa using h10
      have HR : Hid (∀ W, Calls Tryd.prog 26 #[.int .i64 (m : Int)] W fun e w' => e = .returned (strL (Lib.decDigits m)) ∧ Keeps (fun _ => False) W w') := Lib.hid (fun W => digits_nat m W (by omega))
      have l2 := decDigits_short m 19 (by omega)
      have e3 : wrap64 (m : Int) = (m : Int) := by unfold wrap64; omega
      generalize Lib.decDigits m = D at *
      go_enter Tryd.func26, Tryd.ntmps26
      go_wp2_with fail
      refine (HR.out _).mono ?_
      rintro e w2 ⟨rfl, k2⟩
      have K2 := Lib.hid k2
      clear k2
      unfold strL
      go_wp2_with fail
      go_ret
      exact ⟨rfl, K2.out⟩
end Go.Proofs.YtinogeobkljngaaDoor
