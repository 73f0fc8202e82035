/-
  Light, Short, Right of the model's reference: some Boolean; what a yes says.
-/
import Derived.Test.YtjahiihmoglpfaaGreatDoorMg37
import Derived.Test.YtjahiihmoglpfaaGreatDoorMg30
namespace Go.Proofs.YtjahiihmoglpfaaGreatDoor
open Go.RowKit
set_option linter.unusedVariables false
set_option linter.unusedSimpArgs false
set_option maxRecDepth 100000
def YesW (P : Prop) (w : World) (e : Ending) (w' : World) : Prop := ∃ b : Bool, e = .returned (.bool b) ∧ (b = true → P) ∧ xaa (fun _ => False) w w'
set_option maxHeartbeats 8000000 in
theorem xdw (j : JV) (w : World) (hp : j.pt.length ≤ 9223372036854775807) : Calls Tryz.prog 8 #[jV j] w (YesW (j.dn ≤ 200 ∧ j.pt.length ≤ 40 ∧ j.sn ≤ 10) w) := by
 have K := xmA ((xaa.refl (fun _ => False) w).alloc (.cells (jCs j) 25))
 unfold jCs at K
 unfold jV jCs
 go_enter Tryz.func8, Tryz.ntmps8
 rcases g0 : decide ((j.dn : Int) ≤ 200) with _ | _ <;> rcases g1 : decide ((j.pt.length : Int) ≤ 40) with _ | _ <;> rcases g2 : decide ((j.sn : Int) ≤ 10) with _ | _
 all_goals go_wp2_with fail
 all_goals go_ret
 all_goals (
  refine ⟨_, rfl, fun h => ?_, K.out⟩
  first | (simp at h; done) | (simp at h g0 g1 g2; omega) | (simp at g0 g1 g2; omega))
set_option maxHeartbeats 8000000 in
theorem xdu (j : JV) (w : World) (hp : j.pt.length ≤ 9223372036854775807) : Calls Tryz.prog 9 #[jV j] w (YesW True w) := by
 have HC := xmA (fun W => xdK j.pt hp W)
 have hk1 : xaa (fun _ => False) w (w.alloc (.cells (jCs j) 25)) := (xaa.refl _ _).alloc _
 have HK1 := xmA hk1
 unfold jCs at HK1
 clear hk1
 unfold jV jCs
 go_enter Tryz.func9, Tryz.ntmps9
 go_wp2_with fail
 refine (HC.out _).mono ?_
 rintro e w2 ⟨p, c, rfl, k2, h0⟩
 have HK2 := xmA (HK1.out.trans k2)
 by_cases hc : c = 0
 · subst hc
   obtain ⟨eb, o, a1, n1, c1, m, x, a2, n2, cc2, t, rfl, hh, ht⟩ := h0 rfl
   have b0 : w2.cell? ⟨eb, 0, none⟩ = some (.int .i64 o) := by rw [Lib.cell_of_heap hh]; rfl
   have b1 : w2.cell? ⟨eb, 1, none⟩ = some (.slice a1 n1 c1) := by rw [Lib.cell_of_heap hh]; rfl
   have b2 : w2.cell? ⟨eb, 2, none⟩ = some (.int .i64 m) := by rw [Lib.cell_of_heap hh]; rfl
   have b3 : w2.cell? ⟨eb, 3, none⟩ = some (.int .i64 x) := by rw [Lib.cell_of_heap hh]; rfl
   have b4 : w2.cell? ⟨eb, 4, none⟩ = some (.slice a2 n2 cc2) := by rw [Lib.cell_of_heap hh]; rfl
   have HS := xmA (xlg t _ _ _ ht)
   unfold NV.val at HS
   clear h0 hh ht k2 HC
   go_wp2_with fail
   refine HS.out.mono ?_
   rintro e w3 ⟨_, rfl, ⟨n, rfl⟩, k3⟩
   have HK3 := xmA (HK2.out.trans k3)
   clear k3
   go_wp2_with fail
   all_goals go_ret
   all_goals exact ⟨_, rfl, fun _ => trivial, HK3.out⟩
 have g0 : (c != 0) = true := by simp [hc]
 clear h0 k2 HC hc
 go_wp2_with fail
 go_ret
 exact ⟨_, rfl, fun _ => trivial, HK2.out⟩
set_option maxHeartbeats 40000000 in
theorem xdv (j : JV) (h1 : j.dn ≤ 65536) (h2 : j.sn ≤ 64) (hp : j.pt.length ≤ 9223372036854775807) (w : World) : Calls Tryz.prog 10 #[jV j] w (YesW (JOk j) w) := by
 have HC := xmA (fun W => xdK j.pt hp W)
 have hk1 : xaa (fun _ => False) w (w.alloc (.cells (jCs j) 25)) := (xaa.refl _ _).alloc _
 have HK1 := xmA hk1
 unfold jCs at HK1
 have d1 : decide (65536 < (j.dn : Int)) = false := by simp; omega
 have d2 : decide (64 < (j.sn : Int)) = false := by simp; omega
 clear hk1
 unfold jV jCs
 go_enter Tryz.func10, Tryz.ntmps10
 go_wp2_with fail
 all_goals first
  | (go_ret; refine ⟨_, rfl, fun h => ?_, HK1.out⟩; cases h)
  | (refine (HC.out _).mono ?_
     rintro e w2 ⟨p, c, rfl, k2, _⟩
     have HJ : Hid (JOk j) := xmA (by constructor <;> omega)
     have HK2 := xmA (HK1.out.trans k2)
     clear k2
     go_wp2_with fail
     go_ret
     exact ⟨_, rfl, fun _ => HJ.out, HK2.out⟩)
end Go.Proofs.YtjahiihmoglpfaaGreatDoor
