/-
  The law on counts: its text of a number.
-/
import Derived.Test.YtinogeobkljngaaDoorPaDg
import Derived.Test.YtinogeobkljngaaDoorPaEv
namespace Go.Proofs.YtinogeobkljngaaDoor
open Go.RowKit
set_option linter.unusedVariables false
set_option linter.unusedSimpArgs false
set_option maxRecDepth 100000

theorem back2 (w : World) (c d : UInt8) : (convert 33 9 (.slice (some ⟨w.heap.size, 0, none⟩) 2 2)).run Tryd.prog (w.alloc (.cells #[.int .u8 (c.toNat : Int), .int .u8 (d.toNat : Int)] 5)) = .ok (.string ⟨#[c, d]⟩) (w.alloc (.cells #[.int .u8 (c.toNat : Int), .int .u8 (d.toNat : Int)] 5)) := by
  have := run_convert_bytes_back (P := Tryd.prog) (w.alloc (.cells #[.int .u8 (c.toNat : Int), .int .u8 (d.toNat : Int)] 5)) 33 9 5 ⟨w.heap.size, 0, none⟩ 2 [c, d] Tryd.underlying33 Tryd.underlying5 Tryd.underlying9 (fun j hj => by
    have : j = 0 ∨ j = 1 := by simp at hj; omega
    rcases this with rfl | rfl
    · exact cells_new w [.int .u8 (c.toNat : Int), .int .u8 (d.toNat : Int)] 5 0 _ rfl
    · exact cells_new w [.int .u8 (c.toNat : Int), .int .u8 (d.toNat : Int)] 5 1 _ rfl)
  exact this
def twoB (k : Nat) : List UInt8 := if 99 < k then [49, UInt8.ofNat (48 + k / 10 % 10), UInt8.ofNat (48 + k % 10)] else [UInt8.ofNat (48 + k / 10 % 10), UInt8.ofNat (48 + k % 10)]
theorem twoB_int (k : Nat) : (twoB k).map (fun c => (c.toNat : Int)) = twoI k := by
  have e : ∀ m, m < 10 → ((UInt8.ofNat (48 + m)).toNat : Int) = 48 + (m : Int) := fun m hm => by
    rw [UInt8.toNat_ofNat_of_lt' (by show 48 + m < 256; omega)]; omega
  unfold twoB twoI
  by_cases h : 99 < k
  · rw [if_pos h, if_pos (by omega)]
    simp only [List.map_cons, List.map_nil]
    rw [e _ (by omega), e _ (by omega)]
    rfl
  · rw [if_neg h, if_neg (by omega)]
    simp only [List.map_cons, List.map_nil]
    rw [e _ (by omega), e _ (by omega)]
    rfl
set_option maxHeartbeats 2000000 in
theorem two_any (k : Nat) (w : World) (h : k ≤ 120) :
    Calls Tryd.prog 11 #[.int .i64 k] w fun e w' => e = .returned (strL (twoB k)) ∧ Keeps (fun _ => False) w w' := by
  have hcv := back2 w (UInt8.ofNat (48 + k / 10 % 10)) (UInt8.ofNat (48 + k % 10))
  have e1 : (((UInt8.ofNat (48 + k / 10 % 10)).toNat : Nat) : Int) = 48 + (k : Int) / 10 % 10 := by
    rw [UInt8.toNat_ofNat_of_lt' (by show 48 + k / 10 % 10 < 256; omega)]; omega
  have e2 : (((UInt8.ofNat (48 + k % 10)).toNat : Nat) : Int) = 48 + (k : Int) % 10 := by
    rw [UInt8.toNat_ofNat_of_lt' (by show 48 + k % 10 < 256; omega)]; omega
  rw [e1, e2] at hcv
  have HD : Hid (twoB k = if 99 < k then [49, UInt8.ofNat (48 + k / 10 % 10), UInt8.ofNat (48 + k % 10)] else [UInt8.ofNat (48 + k / 10 % 10), UInt8.ofNat (48 + k % 10)]) := Lib.hid rfl
  have u1 : IntKind.u8.wrap (48 + (k : Int) / 10 % 10) = 48 + (k : Int) / 10 % 10 := by rw [IntKind.wrap_u8]; omega
  have u2 : IntKind.u8.wrap (48 + (k : Int) % 10) = 48 + (k : Int) % 10 := by rw [IntKind.wrap_u8]; omega
  clear e1 e2
  generalize UInt8.ofNat (48 + k / 10 % 10) = c at *
  generalize UInt8.ofNat (48 + k % 10) = d at *
  generalize twoB k = D at *
  by_cases h9 : 99 < k
  · have g : decide ((99 : Int) < (k : Int)) = true := by simp; omega
    have g2 : decide (99 < k) = true := by simpa using h9
    go_enter Tryd.func11, Tryd.ntmps11
    go_wp2_with fail
    go_ret
    exact ⟨by rw [HD.out, if_pos h9]; rfl, by (repeat' (with_reducible first | exact Keeps.refl _ _ | assumption | refine Keeps.drawN ?_ _ | refine Keeps.drew ?_ | refine Keeps.setCell ?_ ?_ _ | refine Keeps.alloc ?_ _)) <;> (first | exact Or.inr (Nat.le_refl _) | exact Or.inl rfl | exact Or.inl (Or.inl rfl) | exact Or.inl (Or.inr rfl) | (right; simp; done) | (right; simp; omega))⟩
  · have g : decide ((99 : Int) < (k : Int)) = false := by simp; omega
    have g2 : decide (99 < k) = false := by simpa using h9
    go_enter Tryd.func11, Tryd.ntmps11
    go_wp2_with fail
    go_ret
    exact ⟨by rw [HD.out, if_neg h9]; rfl, by (repeat' (with_reducible first | exact Keeps.refl _ _ | assumption | refine Keeps.drawN ?_ _ | refine Keeps.drew ?_ | refine Keeps.setCell ?_ ?_ _ | refine Keeps.alloc ?_ _)) <;> (first | exact Or.inr (Nat.le_refl _) | exact Or.inl rfl | exact Or.inl (Or.inl rfl) | exact Or.inl (Or.inr rfl) | (right; simp; done) | (right; simp; omega))⟩
end Go.Proofs.YtinogeobkljngaaDoor
