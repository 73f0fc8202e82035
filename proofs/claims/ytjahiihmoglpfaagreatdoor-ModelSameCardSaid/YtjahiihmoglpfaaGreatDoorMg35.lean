/-
  Several texts in one: The document's named, escaped, point: they come back with some sets. The document's point: it comes back with some set.
-/
import Derived.Test.YtjahiihmoglpfaaGreatDoorRsMadeG
import Derived.Deep.RegionHeld3
namespace Go.Proofs.YtjahiihmoglpfaaGreatDoor
open Go.RowKit
set_option linter.unusedVariables false
set_option linter.unusedSimpArgs false
set_option maxRecDepth 100000
def SetW (n : Nat) (is : Bool) (w w' : World) (u : Value) : Prop := ∃ R : List (Int × Int), (R.length ≤ n ∧ (is = true → 0 < R.length)) ∧ (∀ p ∈ R, in64 p.1 ∧ in64 p.2) ∧ ROwn w w' u R
theorem SetW.none {n : Nat} {w w' : World} (K : xaa (fun _ => False) w w') : SetW n false w w' (.slice none 0 0) := ⟨[], ⟨Nat.zero_le _, fun h => by cases h⟩, by simp, World.ownsRow_nil _ _ _ _, K⟩
theorem SetW.row {n : Nat} {is : Bool} {w w1 : World} (K : xaa (fun _ => False) w w1) (R : List (Int × Int)) (h0 : 0 < R.length) (hn : R.length ≤ n) (h2 : n ≤ 1000) (h : ∀ p ∈ R, in64 p.1 ∧ in64 p.2) {k : Nat} (hk : k = R.length) {o : Obj} (ho : o = .cells (cellsOf 2 encR R).toArray 164) :
 SetW n is w (w1.alloc o) (.slice (some ⟨w1.heap.size, 0, Option.none⟩) k k) := by
 subst ho hk
 exact ⟨R, ⟨hn, fun _ => h0⟩, h, ⟨xah _ _ _, Or.inr ⟨w1.heap.size, R.length, _, rfl, K.size, heap_alloc_new w1 _, Nat.le_refl _, by unfold maxLen; omega, by simp [xah], List.take_of_length_le (by simp [xah])⟩⟩, K.alloc _⟩
theorem SetW.trans {n m : Nat} {is : Bool} {w w1 w2 : World} {u : Value} (K : xaa (fun _ => False) w w1) (h : SetW n is w1 w2 u) (hm : n ≤ m) : SetW m is w w2 u := by
 obtain ⟨R, ⟨h1, h2⟩, h3, h4, h5⟩ := h
 exact ⟨R, ⟨by omega, h2⟩, h3, xc9 h4 K.size, K.trans h5⟩
set_option maxHeartbeats 4000000 in
theorem xeS (r : Int) (w : World) : Calls Tryz.prog 135 #[.int .i64 r] w fun e w' => ∃ u, e = .returned u ∧ SetW 4 false w w' u := by
 go_enter Tryz.func135, Tryz.ntmps135
 go_wp2_with fail
 all_goals go_ret
 all_goals first
  | exact ⟨_, rfl, SetW.none (xaa.refl _ _)⟩
  | exact ⟨_, rfl, SetW.row (xaa.refl _ _) [(48, 57)] (by simp) (by simp) (by omega) (by simp [in64]) rfl rfl⟩
  | exact ⟨_, rfl, SetW.row (xaa.refl _ _) [(9, 13), (32, 32)] (by simp) (by simp) (by omega) (by simp [in64]) rfl rfl⟩
  | exact ⟨_, rfl, SetW.row (xaa.refl _ _) [(48, 57), (65, 90), (95, 95), (97, 122)] (by simp) (by simp) (by omega) (by simp [in64]) rfl rfl⟩
def EscW (w : World) (e : Ending) (w' : World) : Prop := ∃ (u : Value) (is ok : Bool), e = .returned (.tuple #[u, .bool is, .bool ok]) ∧ SetW 26 is w w' u
set_option maxHeartbeats 4000000 in
theorem xdJ (r : Int) (w : World) (hr : in64 r) : Calls Tryz.prog 97 #[.int .i64 r] w (EscW w) := by
 have HR := xmA hr
 clear hr
 go_enter Tryz.func97, Tryz.ntmps97
 go_wp2_with fail
 refine (xfn [100, 119, 115] r _ (by decide)).mono ?_
 rintro e w2 ⟨_, rfl, ⟨b, rfl⟩, k2⟩
 have K2 := xmA k2
 clear k2
 cases b
 rotate_left
 · go_wp2_with fail
   refine (xeS _ _).mono ?_
   rintro e w3 ⟨u, rfl, hu⟩
   have HU := xmA (SetW.trans (m := 26) K2.out hu (by omega))
   obtain ⟨_, _, _, ho, _⟩ := hu
   obtain ⟨ua, uc, rfl⟩ := xad ho
   clear ho
   go_wp2_with fail
   go_ret3
   exact ⟨_, _, _, rfl, HU.out⟩
 go_wp2_with fail
 refine (xfn [68, 87, 83] r _ (by decide)).mono ?_
 rintro e w3 ⟨_, rfl, ⟨b, rfl⟩, k3⟩
 have K3 := xmA (K2.out.trans k3)
 clear k3
 cases b
 rotate_left
 · go_wp2_with fail
   refine (xeS _ _).mono ?_
   rintro e w4 ⟨u, rfl, hu⟩
   obtain ⟨L, ⟨h1, _⟩, h2, ho, hk⟩ := hu
   have K4 := xmA (K3.out.trans hk)
   have HM := xmA (xf7 L _ true w4 ⟨SlOf.ofOwn ho (by omega), h2⟩ (by omega))
   obtain ⟨ua, uc, rfl⟩ := xad ho
   clear ho hk h2
   go_wp2_with fail
   refine HM.out.mono ?_
   rintro e w5 ⟨u, R, rfl, h3, h4, ho, hk⟩
   have HU : Hid (SetW 26 false w w5 u) := xmA ⟨R, ⟨by omega, fun h => by cases h⟩, h4, xc9 ho K4.out.size, K4.out.trans hk⟩
   obtain ⟨ua, uc, rfl⟩ := xad ho
   clear ho hk h4 h3
   go_wp2_with fail
   go_ret3
   exact ⟨_, _, _, rfl, HU.out⟩
 go_wp2_with fail
 all_goals try (
  refine (xfn _ _ _ ?_).mono ?_
  decide
  rintro e w4 ⟨_, rfl, ⟨b, rfl⟩, k4⟩
  replace K3 := xmA (K3.out.trans k4)
  clear k4
  cases b
  all_goals go_wp2_with fail)
 all_goals go_ret3
 all_goals first
  | exact ⟨_, _, _, rfl, SetW.none K3.out⟩
  | exact ⟨_, _, _, rfl, SetW.row K3.out [(_, _)] (by simp) (by simp) (by omega) (fun p hp => by obtain rfl := List.mem_singleton.1 hp; first | exact ⟨HR.out, HR.out⟩ | (simp [in64]; done)) rfl rfl⟩
def PtW (n : Nat) (w : World) (e : Ending) (w' : World) : Prop := ∃ (u : Value) (is : Bool) (k : Nat), e = .returned (.tuple #[u, .bool is, .int .i64 k]) ∧ k ≤ n ∧ SetW 26 is w w' u
set_option maxHeartbeats 4000000 in
theorem xiA (l : List Int) (v : Value) (w : World) (h : SI w v l) (hr : ∀ x ∈ l, in64 x) : Calls Tryz.prog 133 #[v] w (PtW l.length w) := by
 obtain ⟨a, cap, rfl, hcap, hc⟩ := h.cells
 clear h
 rcases l with _ | ⟨r, l⟩
 · go_enter Tryz.func133, Tryz.ntmps133
   go_wp2_with fail
   go_ret3
   exact ⟨_, _, 0, rfl, Nat.le_refl _, SetW.none (xaa.refl _ _)⟩
 obtain ⟨b, off, rfl, hcc⟩ := hc (by simp)
 have c0 := hcc 0 r rfl
 have r0 := xmA (hr r (by simp))
 simp only [Nat.add_zero] at c0
 have gl : (((l.length : Int) + 1) == 0) = false := beq_eq_false_iff_ne.2 (by omega)
 have H1 : Hid (l = [] ∨ ∃ r2 t, l = r2 :: t ∧ in64 r2 ∧ w.cell? ⟨b, off + 1, none⟩ = some (.int .i64 r2)) := xmA (by
  rcases l with _ | ⟨r2, t⟩
  · exact Or.inl rfl
  exact Or.inr ⟨r2, t, rfl, hr r2 (by simp), hcc 1 r2 rfl⟩)
 simp only [List.length_cons] at *
 clear hc hcc hr
 go_enter Tryz.func133, Tryz.ntmps133
 go_wp2_with fail
 refine (xfn [91, 93, 94, 45] r _ (by decide)).mono ?_
 rintro e w2 ⟨_, rfl, ⟨q, rfl⟩, k2⟩
 have K2 := xmA k2
 have x0 := k2.cell c0 id
 clear c0
 cases q
 rotate_left
 · go_wp2_with fail
   go_ret3
   exact ⟨_, _, 0, rfl, Nat.zero_le _, SetW.none K2.out⟩
 by_cases h9 : r = 92
 · subst h9
   rcases H1.out with rfl | ⟨r2, t, rfl, hr2, hc2⟩
   · clear H1 k2
     go_wp2_with fail
     go_ret3
     exact ⟨_, _, 0, rfl, Nat.zero_le _, SetW.none K2.out⟩
   have x1 := k2.cell hc2 id
   have HR2 := xmA hr2
   simp only [List.length_cons] at *
   have g7 : decide ((t.length : Int) + 1 + 1 < 2) = false := by simp; omega
   clear H1 k2 hc2 hr2
   go_wp2_with fail
   refine (xdJ r2 _ HR2.out).mono ?_
   rintro e w3 ⟨u, is, ok, rfl, hu⟩
   have HU := xmA (SetW.trans (m := 26) K2.out hu (by omega))
   obtain ⟨_, _, _, ho, _⟩ := hu
   obtain ⟨ua, uc, rfl⟩ := xad ho
   clear ho
   cases ok
   · go_wp2_with fail
     go_ret3
     obtain ⟨_, _, _, _, hk⟩ := HU.out
     exact ⟨_, _, 0, rfl, Nat.zero_le _, SetW.none hk⟩
   go_wp2_with fail
   go_ret3
   exact ⟨_, _, 2, rfl, by omega, HU.out⟩
 have g9 : (r == 92) = false := beq_eq_false_iff_ne.2 h9
 clear H1 k2
 go_wp2_with fail
 go_region_held3 (fun w' => w'.cell? ⟨b, off, none⟩ = some (.int .i64 r)) (go_keep) (fail)
 all_goals go_wp2_with fail
 go_ret3
 refine ⟨_, _, 1, rfl, by omega, ?_⟩
 obtain ⟨R, h1, h2, h3, h4⟩ := SetW.row (n := 26) (is := true) K2.out [(r, r)] (by simp) (by simp) (by omega) (fun p hp => by obtain rfl := List.mem_singleton.1 hp; exact ⟨r0.out, r0.out⟩) rfl rfl
 exact ⟨R, h1, h2, h3.drew, h4.drew⟩
end Go.Proofs.YtjahiihmoglpfaaGreatDoor
