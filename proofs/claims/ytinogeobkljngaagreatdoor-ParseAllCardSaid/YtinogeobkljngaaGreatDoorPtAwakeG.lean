/-
  The document's examples of the parser.
-/
import Derived.Test.YtinogeobkljngaaGreatDoorMg18
import Derived.Test.YtinogeobkljngaaGreatDoorMg19
namespace Go.Proofs.YtinogeobkljngaaGreatDoor
open Go.RowKit
set_option linter.unusedVariables false
set_option linter.unusedSimpArgs false
set_option maxRecDepth 100000

theorem parseP_1 : parseP [97, 124, 98, 42] = (awakeT, 0) := by
  unfold parseP
  rw [if_neg (by simp), pts_ascii (by decide)]
  exact parse_awake1
theorem parseP_2 : parseP [97, 42, 42] = (zeroT, 15) := by
  unfold parseP
  rw [if_neg (by simp), pts_ascii (by decide)]
  exact parse_awake2
theorem itoa_small : Lib.itoa 97 = [57, 55] ∧ Lib.itoa 98 = [57, 56] ∧ Lib.itoa 0 = [48] ∧ Lib.itoa (-1) = [45, 49] := by
  refine ⟨?_, ?_, ?_, ?_⟩
  · rw [show (97 : Int) = ((97 : Nat) : Int) from rfl, itoa_nat]; simp [Lib.decDigits]
  · rw [show (98 : Int) = ((98 : Nat) : Int) from rfl, itoa_nat]; simp [Lib.decDigits]
  · rw [show (0 : Int) = ((0 : Nat) : Int) from rfl, itoa_nat]; simp [Lib.decDigits]
  · rw [show (-1 : Int) = -((1 : Nat) : Int) from rfl, itoa_neg 1 (by omega)]; simp [Lib.decDigits]
theorem show_awake : showT awakeT = [97, 108, 116, 40, 99, 104, 97, 114, 123, 57, 55, 125, 44, 114, 101, 112, 123, 48, 32, 45, 49, 125, 40, 99, 104, 97, 114, 123, 57, 56, 125, 41, 41] := by
  obtain ⟨h1, h2, h3, h4⟩ := itoa_small
  unfold showT awakeT
  simp [showF_of, charT, showT, nodeS, shownS, rangesS, rangeS, h1, h2, h3, h4, Lib.join_cons, Lib.joinTail, Lib.join_one, showF, F.ofL]
set_option maxHeartbeats 4000000 in
theorem parseAwake_any (w : World) (ht : TabW w) : Calls Tryz.prog 4 #[] w fun e w' => e = .returned (.bool true) ∧ Keeps (fun _ => False) w w' := by
  have HT := Lib.hid ht
  clear ht
  go_enter Tryz.func4, Tryz.ntmps4
  go_wp2_with fail
  refine (parse_any [97, 124, 98, 42] _ (by simp)).mono ?_
  rw [parseP_1]
  rintro e w2 ⟨v, rfl, hv, k2⟩
  obtain ⟨o, a1, n1, c1, m, x, a2, n2, cc2, rfl⟩ := NV.form hv
  have HV := Lib.hid hv
  have K2 := Lib.hid k2
  clear hv k2
  unfold NV.val
  go_wp2_with fail
  refine (parse_any [97, 42, 42] _ (by simp)).mono ?_
  rw [parseP_2]
  rintro e w3 ⟨v', rfl, hv', k3⟩
  obtain ⟨o', a1', n1', c1', m', x', a2', n2', cc2', rfl⟩ := NV.form hv'
  have hs3 := k3.size
  simp at hs3
  have z0 : w3.cell? ⟨w2.heap.size, 0, none⟩ = some (.int .i64 o) := k3.cell (by simp [go_sem]) id
  have z1 : w3.cell? ⟨w2.heap.size, 1, none⟩ = some (.slice a1 n1 c1) := k3.cell (by simp [go_sem]) id
  have z2 : w3.cell? ⟨w2.heap.size, 2, none⟩ = some (.int .i64 m) := k3.cell (by simp [go_sem]) id
  have z3 : w3.cell? ⟨w2.heap.size, 3, none⟩ = some (.int .i64 x) := k3.cell (by simp [go_sem]) id
  have z4 : w3.cell? ⟨w2.heap.size, 4, none⟩ = some (.slice a2 n2 cc2) := k3.cell (by simp [go_sem]) id
  have K23 : Hid (Keeps (fun _ => False) w2 w3) := Lib.hid (Keeps.trans (by (repeat' (with_reducible first | exact Keeps.refl _ _ | assumption | refine Keeps.drawN ?_ _ | refine Keeps.drew ?_ | refine Keeps.setCell ?_ ?_ _ | refine Keeps.alloc ?_ _)) <;> (first | exact Or.inr (Nat.le_refl _) | exact Or.inl rfl | exact Or.inl (Or.inl rfl) | exact Or.inl (Or.inr rfl) | (right; simp; done) | (right; simp; omega))) k3)
  clear hv' k3
  unfold NV.val
  have HS := Lib.hid (fun W (K : Keeps (fun _ => False) w3 W) => show_any awakeT (fun b => w.heap.size ≤ b) ⟨o, .slice a1 n1 c1, m, x, .slice a2 n2 cc2⟩ W (HV.out.keepsTo (K23.out.trans K) (fun _ _ => id) (fun _ h => h)) (HT.out.keeps ((K2.out.trans K23.out).trans K)) (by rw [show_awake]; simp))
  unfold NV.val at HS
  rw [show_awake] at HS
  have z0 := alloc_cell z0 (.cells #[.int .i64 o', .slice a1' n1' c1', .int .i64 m', .int .i64 x', .slice a2' n2' cc2'] 26)
  have z1 := alloc_cell z1 (.cells #[.int .i64 o', .slice a1' n1' c1', .int .i64 m', .int .i64 x', .slice a2' n2' cc2'] 26)
  have z2 := alloc_cell z2 (.cells #[.int .i64 o', .slice a1' n1' c1', .int .i64 m', .int .i64 x', .slice a2' n2' cc2'] 26)
  have z3 := alloc_cell z3 (.cells #[.int .i64 o', .slice a1' n1' c1', .int .i64 m', .int .i64 x', .slice a2' n2' cc2'] 26)
  have z4 := alloc_cell z4 (.cells #[.int .i64 o', .slice a1' n1' c1', .int .i64 m', .int .i64 x', .slice a2' n2' cc2'] 26)
  go_wp2_with fail
  refine (HS.out _ (by (repeat' (with_reducible first | exact Keeps.refl _ _ | assumption | refine Keeps.drawN ?_ _ | refine Keeps.drew ?_ | refine Keeps.setCell ?_ ?_ _ | refine Keeps.alloc ?_ _)) <;> (first | exact Or.inr (Nat.le_refl _) | exact Or.inl rfl | exact Or.inl (Or.inl rfl) | exact Or.inl (Or.inr rfl) | (right; simp; done) | (right; simp; omega)))).mono ?_
  rintro e w4 ⟨rfl, k4⟩
  have K4 : Hid (Keeps (fun _ => False) w w4) := Lib.hid ((K2.out.trans K23.out).trans (Keeps.trans (by (repeat' (with_reducible first | exact Keeps.refl _ _ | assumption | refine Keeps.drawN ?_ _ | refine Keeps.drew ?_ | refine Keeps.setCell ?_ ?_ _ | refine Keeps.alloc ?_ _)) <;> (first | exact Or.inr (Nat.le_refl _) | exact Or.inl rfl | exact Or.inl (Or.inl rfl) | exact Or.inl (Or.inr rfl) | (right; simp; done) | (right; simp; omega))) k4))
  clear k4
  unfold strL
  go_wp2_with fail
  go_ret
  exact ⟨rfl, K4.out⟩
end Go.Proofs.YtinogeobkljngaaGreatDoor
