/-
  The law on any trees: its walk.
-/
import Derived.Test.YtinogeobkljngaaDoorPtAwake
import Derived.Test.YtinogeobkljngaaDoorPtBd
import Derived.Test.YtinogeobkljngaaDoorPaShR
import Derived.Test.YtinogeobkljngaaDoorPaSmR
import Derived.Deep.RegionHeld3
namespace Go.Proofs.YtinogeobkljngaaDoor
open Go.RowKit
set_option linter.unusedVariables false
set_option linter.unusedSimpArgs false
set_option maxRecDepth 100000

theorem NOpen.form {w : World} {v : NV} (h : NOpen w v) : ∃ o a1 n1 c1 m x a2 n2 c2, v = ⟨o, .slice a1 n1 c1, m, x, .slice a2 n2 c2⟩ := by
  obtain ⟨v, a1, n1, c1, a2, n2, c2, u, _, _, hs, _, hk, _⟩ := h
  obtain ⟨o, s, m, x, k⟩ := v
  obtain rfl := hs
  obtain rfl := hk
  exact ⟨_, _, _, _, _, _, _, _, _, rfl⟩
set_option maxHeartbeats 16000000 in
theorem trees_main (w : World) (va vb : NV) (ha : NOpen w va) (hb : NOpen w vb) (ht : TabW w) :
    Calls Tryd.prog 6 #[va.val, vb.val] w fun e w' => e = .returned (.bool true) ∧ Keeps (fun _ => False) w w' := by
  have HA := Lib.hid (fun (W : World) (K : Keeps (fun _ => False) w W) => shallow_any ha 5 W (by omega) K)
  have HB := Lib.hid (fun (W : World) (K : Keeps (fun _ => False) w W) => shallow_any hb 5 W (by omega) K)
  have HT := Lib.hid ht
  obtain ⟨o, a1, n1, c1, m, x, a2, n2, cc2, rfl⟩ := NOpen.form ha
  obtain ⟨o', a1', n1', c1', m', x', a2', n2', cc2', rfl⟩ := NOpen.form hb
  clear ha hb ht
  unfold NV.val at *
  simp only [show ((5 : Nat) : Int) = 5 from rfl] at HA HB
  go_enter Tryd.func6, Tryd.ntmps6
  go_wp2_with fail
  refine (parseAwake_any _ (HT.out.keeps (by (repeat' (with_reducible first | exact Keeps.refl _ _ | assumption | refine Keeps.drawN ?_ _ | refine Keeps.drew ?_ | refine Keeps.setCell ?_ ?_ _ | refine Keeps.alloc ?_ _)) <;> (first | exact Or.inr (Nat.le_refl _) | exact Or.inl rfl | exact Or.inl (Or.inl rfl) | exact Or.inl (Or.inr rfl) | (right; simp; done) | (right; simp; omega))))).mono ?_
  rintro e w1 ⟨rfl, k1⟩
  have x0 : w1.cell? ⟨w.heap.size, 0, none⟩ = some (.int .i64 o) := k1.cell (by simp [go_sem]) id
  have x1 : w1.cell? ⟨w.heap.size, 1, none⟩ = some (.slice a1 n1 c1) := k1.cell (by simp [go_sem]) id
  have x2 : w1.cell? ⟨w.heap.size, 2, none⟩ = some (.int .i64 m) := k1.cell (by simp [go_sem]) id
  have x3 : w1.cell? ⟨w.heap.size, 3, none⟩ = some (.int .i64 x) := k1.cell (by simp [go_sem]) id
  have x4 : w1.cell? ⟨w.heap.size, 4, none⟩ = some (.slice a2 n2 cc2) := k1.cell (by simp [go_sem]) id
  have y0 : w1.cell? ⟨w.heap.size + 1, 0, none⟩ = some (.int .i64 o') := k1.cell (by simp [go_sem]) id
  have y1 : w1.cell? ⟨w.heap.size + 1, 1, none⟩ = some (.slice a1' n1' c1') := k1.cell (by simp [go_sem]) id
  have y2 : w1.cell? ⟨w.heap.size + 1, 2, none⟩ = some (.int .i64 m') := k1.cell (by simp [go_sem]) id
  have y3 : w1.cell? ⟨w.heap.size + 1, 3, none⟩ = some (.int .i64 x') := k1.cell (by simp [go_sem]) id
  have y4 : w1.cell? ⟨w.heap.size + 1, 4, none⟩ = some (.slice a2' n2' cc2') := k1.cell (by simp [go_sem]) id
  have K1 : Hid (Keeps (fun _ => False) w w1) := Lib.hid (Keeps.trans (by (repeat' (with_reducible first | exact Keeps.refl _ _ | assumption | refine Keeps.drawN ?_ _ | refine Keeps.drew ?_ | refine Keeps.setCell ?_ ?_ _ | refine Keeps.alloc ?_ _)) <;> (first | exact Or.inr (Nat.le_refl _) | exact Or.inl rfl | exact Or.inl (Or.inl rfl) | exact Or.inl (Or.inr rfl) | (right; simp; done) | (right; simp; omega))) k1)
  clear k1
  go_wp2_with fail
  refine (HA.out _ K1.out).mono ?_
  rintro e w2 ⟨q, rfl, k2, hq⟩
  have K2 := Lib.hid (K1.out.trans k2)
  have HQ := Lib.hid hq
  replace x0 := k2.cell x0 id
  replace x1 := k2.cell x1 id
  replace x2 := k2.cell x2 id
  replace x3 := k2.cell x3 id
  replace x4 := k2.cell x4 id
  replace y0 := k2.cell y0 id
  replace y1 := k2.cell y1 id
  replace y2 := k2.cell y2 id
  replace y3 := k2.cell y3 id
  replace y4 := k2.cell y4 id
  clear k2 hq
  cases q with
  | false =>
    go_wp2_with fail
    refine (parseAwake_any _ (HT.out.keeps K2.out)).mono ?_
    rintro e w3 ⟨rfl, k3⟩
    go_wp2_with fail
    go_ret
    exact ⟨rfl, K2.out.trans k3⟩
  | true =>
    obtain ⟨ta, hta, hsa⟩ := HQ.out rfl
    go_wp2_with fail
    refine (HB.out _ K2.out).mono ?_
    rintro e w3 ⟨q, rfl, k3, hq⟩
    have K3 := Lib.hid (K2.out.trans k3)
    have HQ2 := Lib.hid hq
    replace x0 := k3.cell x0 id
    replace x1 := k3.cell x1 id
    replace x2 := k3.cell x2 id
    replace x3 := k3.cell x3 id
    replace x4 := k3.cell x4 id
    replace y0 := k3.cell y0 id
    replace y1 := k3.cell y1 id
    replace y2 := k3.cell y2 id
    replace y3 := k3.cell y3 id
    replace y4 := k3.cell y4 id
    clear k3 hq
    cases q with
    | false =>
      go_wp2_with fail
      refine (parseAwake_any _ (HT.out.keeps K3.out)).mono ?_
      rintro e w4 ⟨rfl, k4⟩
      go_wp2_with fail
      go_ret
      exact ⟨rfl, K3.out.trans k4⟩
    | true =>
      obtain ⟨tb, htb, hsb, hab⟩ : ∃ tb, TAt w (fun _ => True) ⟨o', .slice a1' n1' c1', m', x', .slice a2' n2' cc2'⟩ tb ∧ Shal 5 tb ∧
          (Value.agg #[.int .i64 o, .slice a1 n1 c1, .int .i64 m, .int .i64 x, .slice a2 n2 cc2] = Value.agg #[.int .i64 o', .slice a1' n1' c1', .int .i64 m', .int .i64 x', .slice a2' n2' cc2'] → ta = tb) := by
        by_cases he : (⟨o, .slice a1 n1 c1, m, x, .slice a2 n2 cc2⟩ : NV) = ⟨o', .slice a1' n1' c1', m', x', .slice a2' n2' cc2'⟩
        · rw [he] at hta
          exact ⟨ta, hta, hsa, fun _ => rfl⟩
        · obtain ⟨tb, htb, hsb⟩ := HQ2.out rfl
          refine ⟨tb, htb, hsb, fun h => absurd ?_ he⟩
          simp only [Value.agg.injEq, Array.mk.injEq, List.cons.injEq, Value.int.injEq] at h
          obtain ⟨h1, h2, h3, h4, h5, _⟩ := h
          rw [h1.2, h2, h3.2, h4.2, h5]
      obtain ⟨A, hA⟩ : ∃ A, Value.agg #[.int .i64 o, .slice a1 n1 c1, .int .i64 m, .int .i64 x, .slice a2 n2 cc2] = A := ⟨_, rfl⟩
      obtain ⟨B, hB⟩ : ∃ B, Value.agg #[.int .i64 o', .slice a1' n1' c1', .int .i64 m', .int .i64 x', .slice a2' n2' cc2'] = B := ⟨_, rfl⟩
      obtain ⟨q, hq⟩ : ∃ q, decide (ta = tb) = q := ⟨_, rfl⟩
      obtain ⟨gz, hgA, hgB⟩ : ∃ gz : Value → Bool, gz A = q ∧ gz B = true := by
        rw [hA, hB] at hab
        by_cases he : A = B
        · refine ⟨fun _ => true, ?_, rfl⟩
          rw [← hq, hab he]; simp
        · classical
          exact ⟨fun z => if z = A then q else true, by simp, by simp [Ne.symm he]⟩
      have mv : ∀ {v : NV} {t : T} {W : World}, TAt w (fun _ => True) v t → Keeps (fun _ => False) w3 W → TAt W (fun _ => True) v t := fun h k => h.keepsTo (K3.out.trans k) (fun _ _ => id) (fun _ h => h)
      have KS1 : ∀ W, Keeps (fun _ => False) w3 W → Calls Tryd.prog 12 #[A] W fun e w' => e = .returned (.string ⟨(showT ta).toArray⟩) ∧ Keeps (fun _ => False) w3 w' := fun W kW =>
        hA ▸ (show_any ta _ _ W (mv hta kW) (HT.out.keeps (K3.out.trans kW)) (shal5_len hsa hta)).mono fun e w' ⟨e1, e2⟩ => ⟨e1, kW.trans e2⟩
      have KS2 : ∀ W, Keeps (fun _ => False) w3 W → Calls Tryd.prog 15 #[A] W fun e w' => e = .returned (.string ⟨(showT ta).toArray⟩) ∧ Keeps (fun _ => False) w3 w' := fun W kW =>
        hA ▸ (refShow_any ta _ _ W (mv hta kW) (shal5_len hsa hta)).mono fun e w' ⟨e1, e2⟩ => ⟨e1, kW.trans e2⟩
      have KS3 : ∀ W, Keeps (fun _ => False) w3 W → Calls Tryd.prog 16 #[A] W fun e w' => e = .returned (.int .i64 (1 + sizeF ta.kids)) ∧ Keeps (fun _ => False) w3 w' := fun W kW =>
        hA ▸ (treeSize_any _ ta _ W (mv hta kW) (shal5 hsa)).mono fun e w' ⟨e1, e2⟩ => ⟨e1, kW.trans e2⟩
      have KS4 : ∀ W, Keeps (fun _ => False) w3 W → Calls Tryd.prog 17 #[A] W fun e w' => e = .returned (.int .i64 (1 + sizeF ta.kids)) ∧ Keeps (fun _ => False) w3 w' := fun W kW =>
        hA ▸ (refTreeSize_any _ ta _ W (mv hta kW) (shal5 hsa)).mono fun e w' ⟨e1, e2⟩ => ⟨e1, kW.trans e2⟩
      have KS5 : ∀ W z, (z = A ∨ z = B) → Keeps (fun _ => False) w3 W → Calls Tryd.prog 13 #[z, B] W fun e w' => e = .returned (.bool (gz z)) ∧ Keeps (fun _ => False) w3 w' := fun W z hz kW => by
        rcases hz with rfl | rfl
        · rw [hgA, ← hq, ← hA, ← hB]
          exact (treeSame_any ta tb _ _ _ _ W (mv hta kW) (mv htb kW)).mono fun e w' ⟨e1, e2⟩ => ⟨e1, kW.trans e2⟩
        · rw [hgB, ← hB]
          exact (treeSame_any tb tb _ _ _ _ W (mv htb kW) (mv htb kW)).mono fun e w' ⟨e1, e2⟩ => ⟨by rw [e1]; simp, kW.trans e2⟩
      have KS6 : ∀ W, Keeps (fun _ => False) w3 W → Calls Tryd.prog 10 #[A, B] W fun e w' => e = .returned (.bool q) ∧ Keeps (fun _ => False) w3 w' := fun W kW => by
        rw [← hA, ← hB, ← hq]
        exact (refTreeSame_any ta tb _ _ _ _ W (mv hta kW) (mv htb kW)).mono fun e w' ⟨e1, e2⟩ => ⟨e1, kW.trans e2⟩
      subst hA
      subst hB
      have hkd : Keeps (fun _ => False) w3 w3.drew := (Keeps.refl _ _).drew
      have HS : ∀ W, Keeps (fun _ => False) w3 W → W.cell? ⟨w.heap.size, 0, none⟩ = some (.int .i64 o) ∧ W.cell? ⟨w.heap.size, 1, none⟩ = some (.slice a1 n1 c1) ∧ W.cell? ⟨w.heap.size, 2, none⟩ = some (.int .i64 m) ∧ W.cell? ⟨w.heap.size, 3, none⟩ = some (.int .i64 x) ∧ W.cell? ⟨w.heap.size, 4, none⟩ = some (.slice a2 n2 cc2) ∧
          W.cell? ⟨w.heap.size + 1, 0, none⟩ = some (.int .i64 o') ∧ W.cell? ⟨w.heap.size + 1, 1, none⟩ = some (.slice a1' n1' c1') ∧ W.cell? ⟨w.heap.size + 1, 2, none⟩ = some (.int .i64 m') ∧ W.cell? ⟨w.heap.size + 1, 3, none⟩ = some (.int .i64 x') ∧ W.cell? ⟨w.heap.size + 1, 4, none⟩ = some (.slice a2' n2' cc2') ∧ Keeps (fun _ => False) w3 W :=
        fun W K => ⟨K.cell x0 id, K.cell x1 id, K.cell x2 id, K.cell x3 id, K.cell x4 id, K.cell y0 id, K.cell y1 id, K.cell y2 id, K.cell y3 id, K.cell y4 id, K⟩
      have HSd := HS _ hkd
      have KW := Lib.hid K3.out
      clear hab hq hta htb hsa hsb mv HA HB HT
      generalize showT ta = SA at *
      generalize sizeF ta.kids = SZ at *
      cases q
      all_goals
        go_wp2_with fail
        go_region_held3 (fun w' => w'.cell? ⟨w.heap.size, 0, none⟩ = some (.int .i64 o) ∧ w'.cell? ⟨w.heap.size, 1, none⟩ = some (.slice a1 n1 c1) ∧ w'.cell? ⟨w.heap.size, 2, none⟩ = some (.int .i64 m) ∧ w'.cell? ⟨w.heap.size, 3, none⟩ = some (.int .i64 x) ∧ w'.cell? ⟨w.heap.size, 4, none⟩ = some (.slice a2 n2 cc2) ∧
          w'.cell? ⟨w.heap.size + 1, 0, none⟩ = some (.int .i64 o') ∧ w'.cell? ⟨w.heap.size + 1, 1, none⟩ = some (.slice a1' n1' c1') ∧ w'.cell? ⟨w.heap.size + 1, 2, none⟩ = some (.int .i64 m') ∧ w'.cell? ⟨w.heap.size + 1, 3, none⟩ = some (.int .i64 x') ∧ w'.cell? ⟨w.heap.size + 1, 4, none⟩ = some (.slice a2' n2' cc2') ∧ Keeps (fun _ => False) w3 w') (first | exact HSd | exact HS _ (by assumption))
          (first | (go_at_call 12; refine (KS1 _ ?_).mono ?_; (first | exact hkd | assumption); rintro e w' ⟨rfl, hkn⟩) | (go_at_call 15; refine (KS2 _ ?_).mono ?_; (first | exact hkd | assumption); rintro e w' ⟨rfl, hkn⟩) | (go_at_call 16; refine (KS3 _ ?_).mono ?_; (first | exact hkd | assumption); rintro e w' ⟨rfl, hkn⟩) | (go_at_call 17; refine (KS4 _ ?_).mono ?_; (first | exact hkd | assumption); rintro e w' ⟨rfl, hkn⟩) | (go_at_call 13; refine (KS5 _ _ ?_ ?_).mono ?_; (first | exact Or.inl rfl | exact Or.inr rfl); (first | exact hkd | assumption); rintro e w' ⟨rfl, hkn⟩) | (go_at_call 10; refine (KS6 _ ?_).mono ?_; (first | exact hkd | assumption); rintro e w' ⟨rfl, hkn⟩))
        go_wp2_with fail
        go_ret
        exact ⟨by simp [hgA, hgB], KW.out.trans (by assumption)⟩
end Go.Proofs.YtinogeobkljngaaDoor
