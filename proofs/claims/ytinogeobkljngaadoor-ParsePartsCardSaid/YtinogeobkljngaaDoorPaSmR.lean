/-
  Are two trees the same: the document's Same.
-/
import Derived.Test.YtinogeobkljngaaDoorPaSm
import Derived.Deep.RegionHeld3
import Derived.BigRegion
namespace Go.Proofs.YtinogeobkljngaaDoor
open Go.RowKit
set_option linter.unusedVariables false
set_option linter.unusedSimpArgs false
set_option maxRecDepth 100000

def SameRC (t t' : T) : Prop := ∀ (P P' : Nat → Prop) (v v' : NV) (w : World), TAt w P v t → TAt w P' v' t' →
    Calls Tryd.prog 10 #[v.val, v'.val] w fun e w' => e = .returned (.bool (decide (t = t'))) ∧ Keeps (fun _ => False) w w'
set_option maxHeartbeats 4000000 in
theorem refTreeSame_any (t : T) : ∀ t', SameRC t t' := by
  refine T.ind (C := fun t => ∀ t', SameRC t t') ?_ t
  intro t ih t' P P' v v' w ht ht'
  have IH := Lib.hid ih
  obtain ⟨a1, n1, c1, a2, c2, e1, e2, hl, hc⟩ := ht.krow
  obtain ⟨a1', n1', c1', a2', c2', e1', e2', hl', hc'⟩ := ht'.krow
  have HR := Lib.hid ht.set
  have HR' := Lib.hid ht'.set
  have HE := Lib.hid (T.eq_iff (t := t) (t' := t'))
  have o1 := ht.op
  have o2 := ht.mn
  have o3 := ht.mx
  have p1 := ht'.op
  have p2 := ht'.mn
  have p3 := ht'.mx
  obtain ⟨vo, vsv, vm, vx, vk⟩ := v
  obtain ⟨vo', vsv', vm', vx', vk'⟩ := v'
  obtain rfl := e1
  obtain rfl := e2
  obtain rfl := e1'
  obtain rfl := e2'
  simp only at o1 o2 o3 p1 p2 p3
  rw [← o1, ← o2, ← o3, ← p1, ← p2, ← p3] at HE
  have HC := Lib.hid hc
  have HC' := Lib.hid hc'
  clear ih ht ht' hc hc' o1 o2 o3 p1 p2 p3
  obtain ⟨R, hR⟩ : ∃ r, decide (t = t') = r := ⟨_, rfl⟩
  rw [hR]
  have HD := Lib.hid hR
  clear hR
  generalize t.kids.toL = L at *
  generalize t'.kids.toL = L' at *
  generalize t.set = A0 at *
  generalize t'.set = B0 at *
  show Calls Tryd.prog 10 #[.agg #[.int .i64 vo, .slice a1 n1 c1, .int .i64 vm, .int .i64 vx, .slice a2 L.length c2], .agg #[.int .i64 vo', .slice a1' n1' c1', .int .i64 vm', .int .i64 vx', .slice a2' L'.length c2']] w _
  by_cases h1 : vo = vo'
  · by_cases h2 : vm = vm'
    · by_cases h3 : vx = vx'
      · have f1 : (vo != vo') = false := by simpa using h1
        have f2 : (vm != vm') = false := by simpa using h2
        have f3 : (vx != vx') = false := by simpa using h3
        have H3 := Lib.hid (And.intro h1 (And.intro h2 h3))
        clear h1 h2 h3
        by_cases h4 : A0 = B0
        · have hR2 : R = decide (L = L') := by
            rw [← HD.out]; exact decide_eq_decide.2 (HE.out.trans ⟨fun h => h.2.2.2.2, fun h => ⟨H3.out.1, H3.out.2.1, H3.out.2.2, h4, h⟩⟩)
          have H4 := Lib.hid h4
          have HR2 := Lib.hid hR2
          clear h4 hR2
          by_cases hlen : L.length = L'.length
          · have hne : ((L.length : Int) != (L'.length : Int)) = false := by simp [hlen]
            have Hlen := Lib.hid hlen
            clear hlen
            go_enter Tryd.func10, Tryd.ntmps10
            go_wp2_with fail
            refine (refSame_any A0 B0 _ _ _ ?_ ?_).mono ?_
            case refine_1 => exact HR.out.keeps (S := fun _ => False) (by (repeat' (with_reducible first | exact Keeps.refl _ _ | assumption | refine Keeps.drawN ?_ _ | refine Keeps.drew ?_ | refine Keeps.setCell ?_ ?_ _ | refine Keeps.alloc ?_ _)) <;> (first | exact Or.inr (Nat.le_refl _) | exact Or.inl rfl | exact Or.inl (Or.inl rfl) | exact Or.inl (Or.inr rfl) | (right; simp; done) | (right; simp; omega))) (fun _ _ => id)
            case refine_2 => exact HR'.out.keeps (S := fun _ => False) (by (repeat' (with_reducible first | exact Keeps.refl _ _ | assumption | refine Keeps.drawN ?_ _ | refine Keeps.drew ?_ | refine Keeps.setCell ?_ ?_ _ | refine Keeps.alloc ?_ _)) <;> (first | exact Or.inr (Nat.le_refl _) | exact Or.inl rfl | exact Or.inl (Or.inl rfl) | exact Or.inl (Or.inr rfl) | (right; simp; done) | (right; simp; omega))) (fun _ _ => id)
            rintro e w2 ⟨rfl, m, rfl⟩
            rw [show decide (A0 = B0) = true by simpa using H4.out]
            go_wp2_with fail
            go_loopw [5] (fun iv wr => ∃ (i : Nat), iv = .int .i64 i ∧ i ≤ L.length ∧ L.take i = L'.take i ∧ Keeps (fun _ => False) ((w.alloc (.cells #[.int .i64 vo, .slice a1 n1 c1, .int .i64 vm, .int .i64 vx, .slice a2 L.length c2] 26)).alloc (.cells #[.int .i64 vo', .slice a1' n1' c1', .int .i64 vm', .int .i64 vx', .slice a2' L'.length c2'] 26)) wr) (fun iv _ => L.length - (intOf iv).toNat)
            case atStart => exact ⟨0, rfl, Nat.zero_le _, rfl, by (repeat' (with_reducible first | exact Keeps.refl _ _ | assumption | refine Keeps.drawN ?_ _ | refine Keeps.drew ?_ | refine Keeps.setCell ?_ ?_ _ | refine Keeps.alloc ?_ _)) <;> (first | exact Or.inr (Nat.le_refl _) | exact Or.inl rfl | exact Or.inl (Or.inl rfl) | exact Or.inl (Or.inr rfl) | (right; simp; done) | (right; simp; omega))⟩
            case round =>
              obtain ⟨i, rfl, hi, heq, hk⟩ := hrel
              have z4 : wr.cell? ⟨w.heap.size, 4, none⟩ = some (.slice a2 L.length c2) := hk.cell (by simp [go_sem]) id
              have z5 : wr.cell? ⟨w.heap.size + 1, 4, none⟩ = some (.slice a2' L'.length c2') := hk.cell (by simp [go_sem]) id
              have KK := Lib.hid hk
              have K : Hid (Keeps (fun _ => False) w wr) := Lib.hid (Keeps.trans (by (repeat' (with_reducible first | exact Keeps.refl _ _ | assumption | refine Keeps.drawN ?_ _ | refine Keeps.drew ?_ | refine Keeps.setCell ?_ ?_ _ | refine Keeps.alloc ?_ _)) <;> (first | exact Or.inr (Nat.le_refl _) | exact Or.inl rfl | exact Or.inl (Or.inl rfl) | exact Or.inl (Or.inr rfl) | (right; simp; done) | (right; simp; omega))) hk)
              have Heq := Lib.hid heq
              clear heq hk
              by_cases hil : i < L.length
              · have hib : i < L'.length := by have := Hlen.out; omega
                obtain ⟨k, hki⟩ : ∃ k, L[i]? = some k := ⟨_, List.getElem?_eq_getElem hil⟩
                obtain ⟨k', hki'⟩ : ∃ k, L'[i]? = some k := ⟨_, List.getElem?_eq_getElem hib⟩
                obtain ⟨b, off, uo, d1, f1, g1, um, ux, d2, f2, g2, rfl, hu, hlt, x0, x1, x2, x3, x4⟩ := (HC.out.keep K.out).at hki
                obtain ⟨b', off', uo', d1', f1', g1', um', ux', d2', f2', g2', rfl, hu', hlt', x0', x1', x2', x3', x4'⟩ := (HC'.out.keep K.out).at hki'
                have KS : ∀ W, Keeps (fun _ => False) wr W → Calls Tryd.prog 10 #[.agg #[.int .i64 uo, .slice d1 f1 g1, .int .i64 um, .int .i64 ux, .slice d2 f2 g2], .agg #[.int .i64 uo', .slice d1' f1' g1', .int .i64 um', .int .i64 ux', .slice d2' f2' g2']] W fun e w' => e = .returned (.bool (decide (k = k'))) ∧ Keeps (fun _ => False) wr w' := fun W kW =>
                  (IH.out i k hki k' P P' ⟨uo, .slice d1 f1 g1, um, ux, .slice d2 f2 g2⟩ ⟨uo', .slice d1' f1' g1', um', ux', .slice d2' f2' g2'⟩ W (hu.keepsTo kW (fun _ _ => id) (fun _ h => h)) (hu'.keepsTo kW (fun _ _ => id) (fun _ h => h))).mono fun e w' ⟨y1, y2⟩ => ⟨y1, kW.trans y2⟩
                have hkd : Keeps (fun _ => False) wr wr.drew := (Keeps.refl _ _).drew
                have HS : ∀ W, Keeps (fun _ => False) wr W → W.cell? ⟨b, off + i * 5, none⟩ = some (.int .i64 uo) ∧ W.cell? ⟨b, off + i * 5 + 1, none⟩ = some (.slice d1 f1 g1) ∧ W.cell? ⟨b, off + i * 5 + 2, none⟩ = some (.int .i64 um) ∧ W.cell? ⟨b, off + i * 5 + 3, none⟩ = some (.int .i64 ux) ∧ W.cell? ⟨b, off + i * 5 + 4, none⟩ = some (.slice d2 f2 g2) ∧
                    W.cell? ⟨b', off' + i * 5, none⟩ = some (.int .i64 uo') ∧ W.cell? ⟨b', off' + i * 5 + 1, none⟩ = some (.slice d1' f1' g1') ∧ W.cell? ⟨b', off' + i * 5 + 2, none⟩ = some (.int .i64 um') ∧ W.cell? ⟨b', off' + i * 5 + 3, none⟩ = some (.int .i64 ux') ∧ W.cell? ⟨b', off' + i * 5 + 4, none⟩ = some (.slice d2' f2' g2') ∧
                    W.cell? ⟨w.heap.size, 4, none⟩ = some (.slice (some ⟨b, off, none⟩) L.length c2) ∧ W.cell? ⟨w.heap.size + 1, 4, none⟩ = some (.slice (some ⟨b', off', none⟩) L'.length c2') ∧ Keeps (fun _ => False) wr W :=
                  fun W K => ⟨K.cell x0 id, K.cell x1 id, K.cell x2 id, K.cell x3 id, K.cell x4 id, K.cell x0' id, K.cell x1' id, K.cell x2' id, K.cell x3' id, K.cell x4' id, K.cell z4 id, K.cell z5 id, K⟩
                have HSd := HS _ hkd
                have HKI := Lib.hid hki
                have HKI' := Lib.hid hki'
                clear hki hki' hu hu'
                obtain ⟨q, hq⟩ : ∃ q, decide (k = k') = q := ⟨_, rfl⟩
                rw [hq] at KS
                have HQ := Lib.hid hq
                clear hq
                cases q with
                | true =>
                  go_wp2_with fail
                  go_region_held3 (fun w' => w'.cell? ⟨b, off + i * 5, none⟩ = some (.int .i64 uo) ∧ w'.cell? ⟨b, off + i * 5 + 1, none⟩ = some (.slice d1 f1 g1) ∧ w'.cell? ⟨b, off + i * 5 + 2, none⟩ = some (.int .i64 um) ∧ w'.cell? ⟨b, off + i * 5 + 3, none⟩ = some (.int .i64 ux) ∧ w'.cell? ⟨b, off + i * 5 + 4, none⟩ = some (.slice d2 f2 g2) ∧
                    w'.cell? ⟨b', off' + i * 5, none⟩ = some (.int .i64 uo') ∧ w'.cell? ⟨b', off' + i * 5 + 1, none⟩ = some (.slice d1' f1' g1') ∧ w'.cell? ⟨b', off' + i * 5 + 2, none⟩ = some (.int .i64 um') ∧ w'.cell? ⟨b', off' + i * 5 + 3, none⟩ = some (.int .i64 ux') ∧ w'.cell? ⟨b', off' + i * 5 + 4, none⟩ = some (.slice d2' f2' g2') ∧
                    w'.cell? ⟨w.heap.size, 4, none⟩ = some (.slice (some ⟨b, off, none⟩) L.length c2) ∧ w'.cell? ⟨w.heap.size + 1, 4, none⟩ = some (.slice (some ⟨b', off', none⟩) L'.length c2') ∧ Keeps (fun _ => False) wr w') (first | exact HSd | exact HS _ (by assumption)) (first | (go_at_call 10; refine (KS _ ?_).mono ?_; exact hkd; rintro e w' ⟨rfl, hkn⟩))
                  go_wp2_with fail
                  go_roundw
                  case rel => exact ⟨i + 1, by go_num, by omega, by rw [take_one HKI.out, take_one HKI'.out, Heq.out, of_decide_eq_true HQ.out], KK.out.trans (by assumption)⟩
                  case measure => simp [intOf]; omega
                | false =>
                  have hfin : decide (L = L') = false := by
                    simp only [decide_eq_false_iff_not]; intro e; subst e
                    exact of_decide_eq_false HQ.out (Option.some.inj (HKI.out.symm.trans HKI'.out))
                  have Hfin := Lib.hid hfin
                  clear hfin
                  go_wp2_with fail
                  go_region_held3 (fun w' => w'.cell? ⟨b, off + i * 5, none⟩ = some (.int .i64 uo) ∧ w'.cell? ⟨b, off + i * 5 + 1, none⟩ = some (.slice d1 f1 g1) ∧ w'.cell? ⟨b, off + i * 5 + 2, none⟩ = some (.int .i64 um) ∧ w'.cell? ⟨b, off + i * 5 + 3, none⟩ = some (.int .i64 ux) ∧ w'.cell? ⟨b, off + i * 5 + 4, none⟩ = some (.slice d2 f2 g2) ∧
                    w'.cell? ⟨b', off' + i * 5, none⟩ = some (.int .i64 uo') ∧ w'.cell? ⟨b', off' + i * 5 + 1, none⟩ = some (.slice d1' f1' g1') ∧ w'.cell? ⟨b', off' + i * 5 + 2, none⟩ = some (.int .i64 um') ∧ w'.cell? ⟨b', off' + i * 5 + 3, none⟩ = some (.int .i64 ux') ∧ w'.cell? ⟨b', off' + i * 5 + 4, none⟩ = some (.slice d2' f2' g2') ∧
                    w'.cell? ⟨w.heap.size, 4, none⟩ = some (.slice (some ⟨b, off, none⟩) L.length c2) ∧ w'.cell? ⟨w.heap.size + 1, 4, none⟩ = some (.slice (some ⟨b', off', none⟩) L'.length c2') ∧ Keeps (fun _ => False) wr w') (first | exact HSd | exact HS _ (by assumption)) (first | (go_at_call 10; refine (KS _ ?_).mono ?_; exact hkd; rintro e w' ⟨rfl, hkn⟩))
                  go_wp2_with fail
                  go_ret
                  exact ⟨by rw [HR2.out, Hfin.out]; rfl, K.out.trans (by assumption)⟩
              · go_wp2_with fail
                go_ret
                have h1 := Heq.out
                have h2 := Hlen.out
                rw [List.take_of_length_le (by omega), List.take_of_length_le (by omega)] at h1
                exact ⟨by rw [HR2.out]; simp [h1], K.out⟩
          · have hne : ((L.length : Int) != (L'.length : Int)) = true := by simp; omega
            have hfin : decide (L = L') = false := by simp; intro h; exact hlen (by rw [h])
            have Hfin := Lib.hid hfin
            clear hfin
            go_enter Tryd.func10, Tryd.ntmps10
            go_wp2_with fail
            refine (refSame_any A0 B0 _ _ _ ?_ ?_).mono ?_
            case refine_1 => exact HR.out.keeps (S := fun _ => False) (by (repeat' (with_reducible first | exact Keeps.refl _ _ | assumption | refine Keeps.drawN ?_ _ | refine Keeps.drew ?_ | refine Keeps.setCell ?_ ?_ _ | refine Keeps.alloc ?_ _)) <;> (first | exact Or.inr (Nat.le_refl _) | exact Or.inl rfl | exact Or.inl (Or.inl rfl) | exact Or.inl (Or.inr rfl) | (right; simp; done) | (right; simp; omega))) (fun _ _ => id)
            case refine_2 => exact HR'.out.keeps (S := fun _ => False) (by (repeat' (with_reducible first | exact Keeps.refl _ _ | assumption | refine Keeps.drawN ?_ _ | refine Keeps.drew ?_ | refine Keeps.setCell ?_ ?_ _ | refine Keeps.alloc ?_ _)) <;> (first | exact Or.inr (Nat.le_refl _) | exact Or.inl rfl | exact Or.inl (Or.inl rfl) | exact Or.inl (Or.inr rfl) | (right; simp; done) | (right; simp; omega))) (fun _ _ => id)
            rintro e w2 ⟨rfl, m, rfl⟩
            rw [show decide (A0 = B0) = true by simpa using H4.out]
            go_wp2_with fail
            go_ret
            exact ⟨by rw [HR2.out, Hfin.out]; rfl, by (repeat' (with_reducible first | exact Keeps.refl _ _ | assumption | refine Keeps.drawN ?_ _ | refine Keeps.drew ?_ | refine Keeps.setCell ?_ ?_ _ | refine Keeps.alloc ?_ _)) <;> (first | exact Or.inr (Nat.le_refl _) | exact Or.inl rfl | exact Or.inl (Or.inl rfl) | exact Or.inl (Or.inr rfl) | (right; simp; done) | (right; simp; omega))⟩
        · have hR2 : R = false := by
            rw [← HD.out]; exact decide_eq_false (fun h => h4 (HE.out.1 h).2.2.2.1)
          have H4 := Lib.hid h4
          obtain rfl := hR2
          clear h4
          go_enter Tryd.func10, Tryd.ntmps10
          go_wp2_with fail
          refine (refSame_any A0 B0 _ _ _ ?_ ?_).mono ?_
          case refine_1 => exact HR.out.keeps (S := fun _ => False) (by (repeat' (with_reducible first | exact Keeps.refl _ _ | assumption | refine Keeps.drawN ?_ _ | refine Keeps.drew ?_ | refine Keeps.setCell ?_ ?_ _ | refine Keeps.alloc ?_ _)) <;> (first | exact Or.inr (Nat.le_refl _) | exact Or.inl rfl | exact Or.inl (Or.inl rfl) | exact Or.inl (Or.inr rfl) | (right; simp; done) | (right; simp; omega))) (fun _ _ => id)
          case refine_2 => exact HR'.out.keeps (S := fun _ => False) (by (repeat' (with_reducible first | exact Keeps.refl _ _ | assumption | refine Keeps.drawN ?_ _ | refine Keeps.drew ?_ | refine Keeps.setCell ?_ ?_ _ | refine Keeps.alloc ?_ _)) <;> (first | exact Or.inr (Nat.le_refl _) | exact Or.inl rfl | exact Or.inl (Or.inl rfl) | exact Or.inl (Or.inr rfl) | (right; simp; done) | (right; simp; omega))) (fun _ _ => id)
          rintro e w2 ⟨rfl, m, rfl⟩
          rw [show decide (A0 = B0) = false by simpa using H4.out]
          go_wp2_with fail
          go_ret
          exact ⟨rfl, by (repeat' (with_reducible first | exact Keeps.refl _ _ | assumption | refine Keeps.drawN ?_ _ | refine Keeps.drew ?_ | refine Keeps.setCell ?_ ?_ _ | refine Keeps.alloc ?_ _)) <;> (first | exact Or.inr (Nat.le_refl _) | exact Or.inl rfl | exact Or.inl (Or.inl rfl) | exact Or.inl (Or.inr rfl) | (right; simp; done) | (right; simp; omega))⟩
      · have hR2 : R = false := by
          rw [← HD.out]; exact decide_eq_false (fun h => h3 (HE.out.1 h).2.2.1)
        obtain rfl := hR2
        have f1 : (vo != vo') = false := by simpa using h1
        have f2 : (vm != vm') = false := by simpa using h2
        have f3 : (vx != vx') = true := by simpa using h3
        clear h1 h2 h3
        go_enter Tryd.func10, Tryd.ntmps10
        go_wp2_with fail
        go_ret
        exact ⟨rfl, by (repeat' (with_reducible first | exact Keeps.refl _ _ | assumption | refine Keeps.drawN ?_ _ | refine Keeps.drew ?_ | refine Keeps.setCell ?_ ?_ _ | refine Keeps.alloc ?_ _)) <;> (first | exact Or.inr (Nat.le_refl _) | exact Or.inl rfl | exact Or.inl (Or.inl rfl) | exact Or.inl (Or.inr rfl) | (right; simp; done) | (right; simp; omega))⟩
    · have hR2 : R = false := by
        rw [← HD.out]; exact decide_eq_false (fun h => h2 (HE.out.1 h).2.1)
      obtain rfl := hR2
      have f1 : (vo != vo') = false := by simpa using h1
      have f2 : (vm != vm') = true := by simpa using h2
      clear h1 h2
      go_enter Tryd.func10, Tryd.ntmps10
      go_wp2_with fail
      go_ret
      exact ⟨rfl, by (repeat' (with_reducible first | exact Keeps.refl _ _ | assumption | refine Keeps.drawN ?_ _ | refine Keeps.drew ?_ | refine Keeps.setCell ?_ ?_ _ | refine Keeps.alloc ?_ _)) <;> (first | exact Or.inr (Nat.le_refl _) | exact Or.inl rfl | exact Or.inl (Or.inl rfl) | exact Or.inl (Or.inr rfl) | (right; simp; done) | (right; simp; omega))⟩
  · have hR2 : R = false := by
      rw [← HD.out]; exact decide_eq_false (fun h => h1 (HE.out.1 h).1)
    obtain rfl := hR2
    have f1 : (vo != vo') = true := by simpa using h1
    clear h1
    go_enter Tryd.func10, Tryd.ntmps10
    go_wp2_with fail
    go_ret
    exact ⟨rfl, by (repeat' (with_reducible first | exact Keeps.refl _ _ | assumption | refine Keeps.drawN ?_ _ | refine Keeps.drew ?_ | refine Keeps.setCell ?_ ?_ _ | refine Keeps.alloc ?_ _)) <;> (first | exact Or.inr (Nat.le_refl _) | exact Or.inl rfl | exact Or.inl (Or.inl rfl) | exact Or.inl (Or.inr rfl) | (right; simp; done) | (right; simp; omega))⟩
end Go.Proofs.YtinogeobkljngaaDoor
