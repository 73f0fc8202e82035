/-
  Several texts in one: Are two trees the same: the document's Same. The law on all texts: its walk. What the laws over the parser take from the program's text: the listed table.
-/
import Derived.Test.YtinogeobkljngaaGreatDoorMg13
import Derived.Deep.RegionHeld3
import Derived.BigRegion
import Derived.Test.YtinogeobkljngaaGreatDoorPtAwakeG
import Derived.Test.YtinogeobkljngaaGreatDoorRfParseG
import Derived.Test.YtinogeobkljngaaGreatDoorMg19
import Derived.Test.YtinogeobkljngaaGreatDoorRows
import Derived.Test.YtinogeobkljngaaGreatDoorCards
import Derived.Test.YtinogeobkljngaaGreatDoorTie
import Derived.ProofKit
import Derived.LaidMore
import Derived.Lib.LaidTab
import Derived.Stop.LaidErr
import Derived.OpenShut
import Derived.ShutString
import Derived.ChangeOld
import Derived.Stop.Joined
import Derived.SevenTiedAt
section
namespace Go.Proofs.YtinogeobkljngaaGreatDoor
open Go.RowKit
set_option linter.unusedVariables false
set_option linter.unusedSimpArgs false
set_option maxRecDepth 100000

def SameRC (t t' : T) : Prop := ∀ (P P' : Nat → Prop) (v v' : NV) (w : World), TAt w P v t → TAt w P' v' t' →
    Calls Tryz.prog 7 #[v.val, v'.val] w fun e w' => e = .returned (.bool (decide (t = t'))) ∧ Keeps (fun _ => False) w w'
set_option maxHeartbeats 4000000 in
theorem refTreeSame_any (t : T) : ∀ t', SameRC t t' := by
  refine T.ind (C := fun t => ∀ t', SameRC t t') ?_ t
  intro t ih t' P P' v v' w ht ht'
  have IH := Lib.hid ih
  obtain ⟨a1, n1, c1, a2, c2, e1, e2, hl, hc⟩ := ht.krow
  obtain ⟨a1', n1', c1', a2', c2', e1', e2', hl', hc'⟩ := ht'.krow
  have HR := Lib.hid ht.set
  have HR' := Lib.hid ht'.set
  have HE := Lib.hid (T.eq_iff (t := t) (t' := t'))
  have o1 := ht.op
  have o2 := ht.mn
  have o3 := ht.mx
  have p1 := ht'.op
  have p2 := ht'.mn
  have p3 := ht'.mx
  obtain ⟨vo, vsv, vm, vx, vk⟩ := v
  obtain ⟨vo', vsv', vm', vx', vk'⟩ := v'
  obtain rfl := e1
  obtain rfl := e2
  obtain rfl := e1'
  obtain rfl := e2'
  simp only at o1 o2 o3 p1 p2 p3
  rw [← o1, ← o2, ← o3, ← p1, ← p2, ← p3] at HE
  have HC := Lib.hid hc
  have HC' := Lib.hid hc'
  clear ih ht ht' hc hc' o1 o2 o3 p1 p2 p3
  obtain ⟨R, hR⟩ : ∃ r, decide (t = t') = r := ⟨_, rfl⟩
  rw [hR]
  have HD := Lib.hid hR
  clear hR
  generalize t.kids.toL = L at *
  generalize t'.kids.toL = L' at *
  generalize t.set = A0 at *
  generalize t'.set = B0 at *
  show Calls Tryz.prog 7 #[.agg #[.int .i64 vo, .slice a1 n1 c1, .int .i64 vm, .int .i64 vx, .slice a2 L.length c2], .agg #[.int .i64 vo', .slice a1' n1' c1', .int .i64 vm', .int .i64 vx', .slice a2' L'.length c2']] w _
  by_cases h1 : vo = vo'
  · by_cases h2 : vm = vm'
    · by_cases h3 : vx = vx'
      · have f1 : (vo != vo') = false := by simpa using h1
        have f2 : (vm != vm') = false := by simpa using h2
        have f3 : (vx != vx') = false := by simpa using h3
        have H3 := Lib.hid (And.intro h1 (And.intro h2 h3))
        clear h1 h2 h3
        by_cases h4 : A0 = B0
        · have hR2 : R = decide (L = L') := by
            rw [← HD.out]; exact decide_eq_decide.2 (HE.out.trans ⟨fun h => h.2.2.2.2, fun h => ⟨H3.out.1, H3.out.2.1, H3.out.2.2, h4, h⟩⟩)
          have H4 := Lib.hid h4
          have HR2 := Lib.hid hR2
          clear h4 hR2
          by_cases hlen : L.length = L'.length
          · have hne : ((L.length : Int) != (L'.length : Int)) = false := by simp [hlen]
            have Hlen := Lib.hid hlen
            clear hlen
            go_enter Tryz.func7, Tryz.ntmps7
            go_wp2_with fail
            refine (refSame_any A0 B0 _ _ _ ?_ ?_).mono ?_
            case refine_1 => exact HR.out.keeps (S := fun _ => False) (by (repeat' (with_reducible first | exact Keeps.refl _ _ | assumption | refine Keeps.drawN ?_ _ | refine Keeps.drew ?_ | refine Keeps.setCell ?_ ?_ _ | refine Keeps.alloc ?_ _)) <;> (first | exact Or.inr (Nat.le_refl _) | exact Or.inl rfl | exact Or.inl (Or.inl rfl) | exact Or.inl (Or.inr rfl) | (right; simp; done) | (right; simp; omega))) (fun _ _ => id)
            case refine_2 => exact HR'.out.keeps (S := fun _ => False) (by (repeat' (with_reducible first | exact Keeps.refl _ _ | assumption | refine Keeps.drawN ?_ _ | refine Keeps.drew ?_ | refine Keeps.setCell ?_ ?_ _ | refine Keeps.alloc ?_ _)) <;> (first | exact Or.inr (Nat.le_refl _) | exact Or.inl rfl | exact Or.inl (Or.inl rfl) | exact Or.inl (Or.inr rfl) | (right; simp; done) | (right; simp; omega))) (fun _ _ => id)
            rintro e w2 ⟨rfl, m, rfl⟩
            rw [show decide (A0 = B0) = true by simpa using H4.out]
            go_wp2_with fail
            go_loopw [5] (fun iv wr => ∃ (i : Nat), iv = .int .i64 i ∧ i ≤ L.length ∧ L.take i = L'.take i ∧ Keeps (fun _ => False) ((w.alloc (.cells #[.int .i64 vo, .slice a1 n1 c1, .int .i64 vm, .int .i64 vx, .slice a2 L.length c2] 26)).alloc (.cells #[.int .i64 vo', .slice a1' n1' c1', .int .i64 vm', .int .i64 vx', .slice a2' L'.length c2'] 26)) wr) (fun iv _ => L.length - (intOf iv).toNat)
            case atStart => exact ⟨0, rfl, Nat.zero_le _, rfl, by (repeat' (with_reducible first | exact Keeps.refl _ _ | assumption | refine Keeps.drawN ?_ _ | refine Keeps.drew ?_ | refine Keeps.setCell ?_ ?_ _ | refine Keeps.alloc ?_ _)) <;> (first | exact Or.inr (Nat.le_refl _) | exact Or.inl rfl | exact Or.inl (Or.inl rfl) | exact Or.inl (Or.inr rfl) | (right; simp; done) | (right; simp; omega))⟩
            case round =>
              obtain ⟨i, rfl, hi, heq, hk⟩ := hrel
              have z4 : wr.cell? ⟨w.heap.size, 4, none⟩ = some (.slice a2 L.length c2) := hk.cell (by simp [go_sem]) id
              have z5 : wr.cell? ⟨w.heap.size + 1, 4, none⟩ = some (.slice a2' L'.length c2') := hk.cell (by simp [go_sem]) id
              have KK := Lib.hid hk
              have K : Hid (Keeps (fun _ => False) w wr) := Lib.hid (Keeps.trans (by (repeat' (with_reducible first | exact Keeps.refl _ _ | assumption | refine Keeps.drawN ?_ _ | refine Keeps.drew ?_ | refine Keeps.setCell ?_ ?_ _ | refine Keeps.alloc ?_ _)) <;> (first | exact Or.inr (Nat.le_refl _) | exact Or.inl rfl | exact Or.inl (Or.inl rfl) | exact Or.inl (Or.inr rfl) | (right; simp; done) | (right; simp; omega))) hk)
              have Heq := Lib.hid heq
              clear heq hk
              by_cases hil : i < L.length
              · have hib : i < L'.length := by have := Hlen.out; omega
                obtain ⟨k, hki⟩ : ∃ k, L[i]? = some k := ⟨_, List.getElem?_eq_getElem hil⟩
                obtain ⟨k', hki'⟩ : ∃ k, L'[i]? = some k := ⟨_, List.getElem?_eq_getElem hib⟩
                obtain ⟨b, off, uo, d1, f1, g1, um, ux, d2, f2, g2, rfl, hu, hlt, x0, x1, x2, x3, x4⟩ := (HC.out.keep K.out).at hki
                obtain ⟨b', off', uo', d1', f1', g1', um', ux', d2', f2', g2', rfl, hu', hlt', x0', x1', x2', x3', x4'⟩ := (HC'.out.keep K.out).at hki'
                have KS : ∀ W, Keeps (fun _ => False) wr W → Calls Tryz.prog 7 #[.agg #[.int .i64 uo, .slice d1 f1 g1, .int .i64 um, .int .i64 ux, .slice d2 f2 g2], .agg #[.int .i64 uo', .slice d1' f1' g1', .int .i64 um', .int .i64 ux', .slice d2' f2' g2']] W fun e w' => e = .returned (.bool (decide (k = k'))) ∧ Keeps (fun _ => False) wr w' := fun W kW =>
                  (IH.out i k hki k' P P' ⟨uo, .slice d1 f1 g1, um, ux, .slice d2 f2 g2⟩ ⟨uo', .slice d1' f1' g1', um', ux', .slice d2' f2' g2'⟩ W (hu.keepsTo kW (fun _ _ => id) (fun _ h => h)) (hu'.keepsTo kW (fun _ _ => id) (fun _ h => h))).mono fun e w' ⟨y1, y2⟩ => ⟨y1, kW.trans y2⟩
                have hkd : Keeps (fun _ => False) wr wr.drew := (Keeps.refl _ _).drew
                have HS : ∀ W, Keeps (fun _ => False) wr W → W.cell? ⟨b, off + i * 5, none⟩ = some (.int .i64 uo) ∧ W.cell? ⟨b, off + i * 5 + 1, none⟩ = some (.slice d1 f1 g1) ∧ W.cell? ⟨b, off + i * 5 + 2, none⟩ = some (.int .i64 um) ∧ W.cell? ⟨b, off + i * 5 + 3, none⟩ = some (.int .i64 ux) ∧ W.cell? ⟨b, off + i * 5 + 4, none⟩ = some (.slice d2 f2 g2) ∧
                    W.cell? ⟨b', off' + i * 5, none⟩ = some (.int .i64 uo') ∧ W.cell? ⟨b', off' + i * 5 + 1, none⟩ = some (.slice d1' f1' g1') ∧ W.cell? ⟨b', off' + i * 5 + 2, none⟩ = some (.int .i64 um') ∧ W.cell? ⟨b', off' + i * 5 + 3, none⟩ = some (.int .i64 ux') ∧ W.cell? ⟨b', off' + i * 5 + 4, none⟩ = some (.slice d2' f2' g2') ∧
                    W.cell? ⟨w.heap.size, 4, none⟩ = some (.slice (some ⟨b, off, none⟩) L.length c2) ∧ W.cell? ⟨w.heap.size + 1, 4, none⟩ = some (.slice (some ⟨b', off', none⟩) L'.length c2') ∧ Keeps (fun _ => False) wr W :=
                  fun W K => ⟨K.cell x0 id, K.cell x1 id, K.cell x2 id, K.cell x3 id, K.cell x4 id, K.cell x0' id, K.cell x1' id, K.cell x2' id, K.cell x3' id, K.cell x4' id, K.cell z4 id, K.cell z5 id, K⟩
                have HSd := HS _ hkd
                have HKI := Lib.hid hki
                have HKI' := Lib.hid hki'
                clear hki hki' hu hu'
                obtain ⟨q, hq⟩ : ∃ q, decide (k = k') = q := ⟨_, rfl⟩
                rw [hq] at KS
                have HQ := Lib.hid hq
                clear hq
                cases q with
                | true =>
                  go_wp2_with fail
                  go_region_held3 (fun w' => w'.cell? ⟨b, off + i * 5, none⟩ = some (.int .i64 uo) ∧ w'.cell? ⟨b, off + i * 5 + 1, none⟩ = some (.slice d1 f1 g1) ∧ w'.cell? ⟨b, off + i * 5 + 2, none⟩ = some (.int .i64 um) ∧ w'.cell? ⟨b, off + i * 5 + 3, none⟩ = some (.int .i64 ux) ∧ w'.cell? ⟨b, off + i * 5 + 4, none⟩ = some (.slice d2 f2 g2) ∧
                    w'.cell? ⟨b', off' + i * 5, none⟩ = some (.int .i64 uo') ∧ w'.cell? ⟨b', off' + i * 5 + 1, none⟩ = some (.slice d1' f1' g1') ∧ w'.cell? ⟨b', off' + i * 5 + 2, none⟩ = some (.int .i64 um') ∧ w'.cell? ⟨b', off' + i * 5 + 3, none⟩ = some (.int .i64 ux') ∧ w'.cell? ⟨b', off' + i * 5 + 4, none⟩ = some (.slice d2' f2' g2') ∧
                    w'.cell? ⟨w.heap.size, 4, none⟩ = some (.slice (some ⟨b, off, none⟩) L.length c2) ∧ w'.cell? ⟨w.heap.size + 1, 4, none⟩ = some (.slice (some ⟨b', off', none⟩) L'.length c2') ∧ Keeps (fun _ => False) wr w') (first | exact HSd | exact HS _ (by assumption)) (first | (go_at_call 7; refine (KS _ ?_).mono ?_; exact hkd; rintro e w' ⟨rfl, hkn⟩))
                  go_wp2_with fail
                  go_roundw
                  case rel => exact ⟨i + 1, by go_num, by omega, by rw [take_one HKI.out, take_one HKI'.out, Heq.out, of_decide_eq_true HQ.out], KK.out.trans (by assumption)⟩
                  case measure => simp [intOf]; omega
                | false =>
                  have hfin : decide (L = L') = false := by
                    simp only [decide_eq_false_iff_not]; intro e; subst e
                    exact of_decide_eq_false HQ.out (Option.some.inj (HKI.out.symm.trans HKI'.out))
                  have Hfin := Lib.hid hfin
                  clear hfin
                  go_wp2_with fail
                  go_region_held3 (fun w' => w'.cell? ⟨b, off + i * 5, none⟩ = some (.int .i64 uo) ∧ w'.cell? ⟨b, off + i * 5 + 1, none⟩ = some (.slice d1 f1 g1) ∧ w'.cell? ⟨b, off + i * 5 + 2, none⟩ = some (.int .i64 um) ∧ w'.cell? ⟨b, off + i * 5 + 3, none⟩ = some (.int .i64 ux) ∧ w'.cell? ⟨b, off + i * 5 + 4, none⟩ = some (.slice d2 f2 g2) ∧
                    w'.cell? ⟨b', off' + i * 5, none⟩ = some (.int .i64 uo') ∧ w'.cell? ⟨b', off' + i * 5 + 1, none⟩ = some (.slice d1' f1' g1') ∧ w'.cell? ⟨b', off' + i * 5 + 2, none⟩ = some (.int .i64 um') ∧ w'.cell? ⟨b', off' + i * 5 + 3, none⟩ = some (.int .i64 ux') ∧ w'.cell? ⟨b', off' + i * 5 + 4, none⟩ = some (.slice d2' f2' g2') ∧
                    w'.cell? ⟨w.heap.size, 4, none⟩ = some (.slice (some ⟨b, off, none⟩) L.length c2) ∧ w'.cell? ⟨w.heap.size + 1, 4, none⟩ = some (.slice (some ⟨b', off', none⟩) L'.length c2') ∧ Keeps (fun _ => False) wr w') (first | exact HSd | exact HS _ (by assumption)) (first | (go_at_call 7; refine (KS _ ?_).mono ?_; exact hkd; rintro e w' ⟨rfl, hkn⟩))
                  go_wp2_with fail
                  go_ret
                  exact ⟨by rw [HR2.out, Hfin.out]; rfl, K.out.trans (by assumption)⟩
              · go_wp2_with fail
                go_ret
                have h1 := Heq.out
                have h2 := Hlen.out
                rw [List.take_of_length_le (by omega), List.take_of_length_le (by omega)] at h1
                exact ⟨by rw [HR2.out]; simp [h1], K.out⟩
          · have hne : ((L.length : Int) != (L'.length : Int)) = true := by simp; omega
            have hfin : decide (L = L') = false := by simp; intro h; exact hlen (by rw [h])
            have Hfin := Lib.hid hfin
            clear hfin
            go_enter Tryz.func7, Tryz.ntmps7
            go_wp2_with fail
            refine (refSame_any A0 B0 _ _ _ ?_ ?_).mono ?_
            case refine_1 => exact HR.out.keeps (S := fun _ => False) (by (repeat' (with_reducible first | exact Keeps.refl _ _ | assumption | refine Keeps.drawN ?_ _ | refine Keeps.drew ?_ | refine Keeps.setCell ?_ ?_ _ | refine Keeps.alloc ?_ _)) <;> (first | exact Or.inr (Nat.le_refl _) | exact Or.inl rfl | exact Or.inl (Or.inl rfl) | exact Or.inl (Or.inr rfl) | (right; simp; done) | (right; simp; omega))) (fun _ _ => id)
            case refine_2 => exact HR'.out.keeps (S := fun _ => False) (by (repeat' (with_reducible first | exact Keeps.refl _ _ | assumption | refine Keeps.drawN ?_ _ | refine Keeps.drew ?_ | refine Keeps.setCell ?_ ?_ _ | refine Keeps.alloc ?_ _)) <;> (first | exact Or.inr (Nat.le_refl _) | exact Or.inl rfl | exact Or.inl (Or.inl rfl) | exact Or.inl (Or.inr rfl) | (right; simp; done) | (right; simp; omega))) (fun _ _ => id)
            rintro e w2 ⟨rfl, m, rfl⟩
            rw [show decide (A0 = B0) = true by simpa using H4.out]
            go_wp2_with fail
            go_ret
            exact ⟨by rw [HR2.out, Hfin.out]; rfl, by (repeat' (with_reducible first | exact Keeps.refl _ _ | assumption | refine Keeps.drawN ?_ _ | refine Keeps.drew ?_ | refine Keeps.setCell ?_ ?_ _ | refine Keeps.alloc ?_ _)) <;> (first | exact Or.inr (Nat.le_refl _) | exact Or.inl rfl | exact Or.inl (Or.inl rfl) | exact Or.inl (Or.inr rfl) | (right; simp; done) | (right; simp; omega))⟩
        · have hR2 : R = false := by
            rw [← HD.out]; exact decide_eq_false (fun h => h4 (HE.out.1 h).2.2.2.1)
          have H4 := Lib.hid h4
          obtain rfl := hR2
          clear h4
          go_enter Tryz.func7, Tryz.ntmps7
          go_wp2_with fail
          refine (refSame_any A0 B0 _ _ _ ?_ ?_).mono ?_
          case refine_1 => exact HR.out.keeps (S := fun _ => False) (by (repeat' (with_reducible first | exact Keeps.refl _ _ | assumption | refine Keeps.drawN ?_ _ | refine Keeps.drew ?_ | refine Keeps.setCell ?_ ?_ _ | refine Keeps.alloc ?_ _)) <;> (first | exact Or.inr (Nat.le_refl _) | exact Or.inl rfl | exact Or.inl (Or.inl rfl) | exact Or.inl (Or.inr rfl) | (right; simp; done) | (right; simp; omega))) (fun _ _ => id)
          case refine_2 => exact HR'.out.keeps (S := fun _ => False) (by (repeat' (with_reducible first | exact Keeps.refl _ _ | assumption | refine Keeps.drawN ?_ _ | refine Keeps.drew ?_ | refine Keeps.setCell ?_ ?_ _ | refine Keeps.alloc ?_ _)) <;> (first | exact Or.inr (Nat.le_refl _) | exact Or.inl rfl | exact Or.inl (Or.inl rfl) | exact Or.inl (Or.inr rfl) | (right; simp; done) | (right; simp; omega))) (fun _ _ => id)
          rintro e w2 ⟨rfl, m, rfl⟩
          rw [show decide (A0 = B0) = false by simpa using H4.out]
          go_wp2_with fail
          go_ret
          exact ⟨rfl, by (repeat' (with_reducible first | exact Keeps.refl _ _ | assumption | refine Keeps.drawN ?_ _ | refine Keeps.drew ?_ | refine Keeps.setCell ?_ ?_ _ | refine Keeps.alloc ?_ _)) <;> (first | exact Or.inr (Nat.le_refl _) | exact Or.inl rfl | exact Or.inl (Or.inl rfl) | exact Or.inl (Or.inr rfl) | (right; simp; done) | (right; simp; omega))⟩
      · have hR2 : R = false := by
          rw [← HD.out]; exact decide_eq_false (fun h => h3 (HE.out.1 h).2.2.1)
        obtain rfl := hR2
        have f1 : (vo != vo') = false := by simpa using h1
        have f2 : (vm != vm') = false := by simpa using h2
        have f3 : (vx != vx') = true := by simpa using h3
        clear h1 h2 h3
        go_enter Tryz.func7, Tryz.ntmps7
        go_wp2_with fail
        go_ret
        exact ⟨rfl, by (repeat' (with_reducible first | exact Keeps.refl _ _ | assumption | refine Keeps.drawN ?_ _ | refine Keeps.drew ?_ | refine Keeps.setCell ?_ ?_ _ | refine Keeps.alloc ?_ _)) <;> (first | exact Or.inr (Nat.le_refl _) | exact Or.inl rfl | exact Or.inl (Or.inl rfl) | exact Or.inl (Or.inr rfl) | (right; simp; done) | (right; simp; omega))⟩
    · have hR2 : R = false := by
        rw [← HD.out]; exact decide_eq_false (fun h => h2 (HE.out.1 h).2.1)
      obtain rfl := hR2
      have f1 : (vo != vo') = false := by simpa using h1
      have f2 : (vm != vm') = true := by simpa using h2
      clear h1 h2
      go_enter Tryz.func7, Tryz.ntmps7
      go_wp2_with fail
      go_ret
      exact ⟨rfl, by (repeat' (with_reducible first | exact Keeps.refl _ _ | assumption | refine Keeps.drawN ?_ _ | refine Keeps.drew ?_ | refine Keeps.setCell ?_ ?_ _ | refine Keeps.alloc ?_ _)) <;> (first | exact Or.inr (Nat.le_refl _) | exact Or.inl rfl | exact Or.inl (Or.inl rfl) | exact Or.inl (Or.inr rfl) | (right; simp; done) | (right; simp; omega))⟩
  · have hR2 : R = false := by
      rw [← HD.out]; exact decide_eq_false (fun h => h1 (HE.out.1 h).1)
    obtain rfl := hR2
    have f1 : (vo != vo') = true := by simpa using h1
    clear h1
    go_enter Tryz.func7, Tryz.ntmps7
    go_wp2_with fail
    go_ret
    exact ⟨rfl, by (repeat' (with_reducible first | exact Keeps.refl _ _ | assumption | refine Keeps.drawN ?_ _ | refine Keeps.drew ?_ | refine Keeps.setCell ?_ ?_ _ | refine Keeps.alloc ?_ _)) <;> (first | exact Or.inr (Nat.le_refl _) | exact Or.inl rfl | exact Or.inl (Or.inl rfl) | exact Or.inl (Or.inr rfl) | (right; simp; done) | (right; simp; omega))⟩
end Go.Proofs.YtinogeobkljngaaGreatDoor
end
section
namespace Go.Proofs.YtinogeobkljngaaGreatDoor
open Go.RowKit
set_option linter.unusedVariables false
set_option linter.unusedSimpArgs false
set_option maxRecDepth 100000

/-- A node's five cells at the head of a block. -/
structure NC (w : World) (b : Nat) (v : NV) : Prop where
  c0 : w.cell? ⟨b, 0, none⟩ = some (.int .i64 v.op)
  c1 : w.cell? ⟨b, 1, none⟩ = some v.sv
  c2 : w.cell? ⟨b, 2, none⟩ = some (.int .i64 v.mn)
  c3 : w.cell? ⟨b, 3, none⟩ = some (.int .i64 v.mx)
  c4 : w.cell? ⟨b, 4, none⟩ = some v.kv
theorem NC.keep {w w' : World} {b : Nat} {v : NV} (h : NC w b v) (K : Keeps (fun _ => False) w w') : NC w' b v := ⟨K.cell h.c0 id, K.cell h.c1 id, K.cell h.c2 id, K.cell h.c3 id, K.cell h.c4 id⟩
theorem NC.new (w : World) (v : NV) : NC (w.alloc (.cells #[.int .i64 v.op, v.sv, .int .i64 v.mn, .int .i64 v.mx, v.kv] 26)) w.heap.size v := ⟨by simp [go_sem], by simp [go_sem], by simp [go_sem], by simp [go_sem], by simp [go_sem]⟩
theorem keeps_alloc (w : World) (o : Obj) : Keeps (fun _ => False) w (w.alloc o) := (Keeps.refl _ _).alloc o
theorem all_long (l : List UInt8) (w : World) (ht : TabW w) (hl : l.length ≤ 9223372036854775807) (h1 : 300 < l.length) :
    Calls Tryz.prog 3 #[.string ⟨l.toArray⟩] w fun e w' => e = .returned (.bool true) ∧ Keeps (fun _ => False) w w' := by
  have HT := Lib.hid ht
  clear ht
  have g0 : decide ((300 : Int) < (l.length : Int)) = true := by simp; omega
  have g1 : decide (300 < l.length) = true := by simpa using h1
  go_enter Tryz.func3, Tryz.ntmps3
  go_wp2_with fail
  refine (parseAwake_any _ HT.out).mono ?_
  rintro e w1 ⟨rfl, k1⟩
  go_wp2_with fail
  refine (parseAwake_any _ (HT.out.keeps k1)).mono ?_
  rintro e w2 ⟨rfl, k2⟩
  go_wp2_with fail
  go_ret
  exact ⟨rfl, k1.trans k2⟩
set_option maxHeartbeats 16000000 in
theorem all_ok (l : List UInt8) (w : World) (ht : TabW w) (hl : l.length ≤ 300) :
    Calls Tryz.prog 3 #[.string ⟨l.toArray⟩] w fun e w' => e = .returned (.bool true) ∧ Keeps (fun _ => False) w w' := by
  have HT := Lib.hid ht
  have g0 : decide ((300 : Int) < (l.length : Int)) = false := by simp; omega
  have g1 : decide (300 < l.length) = false := by simp; omega
  have HP := Lib.hid (fun W => parse_any l W (by omega))
  have HR := Lib.hid (fun W => rparse_any l W (by omega))
  obtain ⟨t, er, hp⟩ : ∃ a b, parseP l = (a, b) := ⟨_, _, rfl⟩
  rw [hp] at HP HR
  have ge : (er == er) = true := by simp
  clear ht hp
  go_enter Tryz.func3, Tryz.ntmps3
  go_wp2_with fail
  refine (parseAwake_any _ HT.out).mono ?_
  rintro e w1 ⟨rfl, k1⟩
  have K1 := Lib.hid k1
  clear k1
  go_wp2_with fail
  refine (HP.out _).mono ?_
  rintro e w2 ⟨vA, rfl, hvA, kkA⟩
  obtain ⟨oA, aA, nA, cA, mA, xA, bA, kA, dA, rfl⟩ := NV.form hvA
  have TA := Lib.hid (hvA.keepsTo (Q := fun _ => True) (Keeps.refl (fun _ => False) _) (fun _ _ => id) (fun _ _ => trivial))
  have KA := Lib.hid (K1.out.trans kkA)
  have NA := Lib.hid (NC.new w2 ⟨oA, .slice aA nA cA, mA, xA, .slice bA kA dA⟩)
  have kaA := keeps_alloc w2 (.cells #[.int .i64 oA, .slice aA nA cA, .int .i64 mA, .int .i64 xA, .slice bA kA dA] 26)
  have TA := Lib.hid (TA.out.keepsTo (Q := fun _ => True) kaA (fun _ _ => id) (fun _ h => h))
  have KA := Lib.hid (KA.out.trans kaA)
  clear hvA kkA kaA
  unfold NV.val
  go_wp2_with fail
  refine (HR.out _).mono ?_
  rintro e w3 ⟨vB, rfl, hvB, kkB⟩
  obtain ⟨oB, aB, nB, cB, mB, xB, bB, kB, dB, rfl⟩ := NV.form hvB
  have NA := NA.out.keep kkB
  have kaB := keeps_alloc w3 (.cells #[.int .i64 oB, .slice aB nB cB, .int .i64 mB, .int .i64 xB, .slice bB kB dB] 26)
  have TA := Lib.hid (TA.out.keepsTo (Q := fun _ => True) (kkB.trans kaB) (fun _ _ => id) (fun _ h => h))
  have TB := Lib.hid (hvB.keepsTo (Q := fun _ => True) kaB (fun _ _ => id) (fun _ h => h))
  have KB := Lib.hid (KA.out.trans (kkB.trans kaB))
  have NA := NA.keep kaB
  obtain ⟨x0, x1, x2, x3, x4⟩ := NA
  have HS := Lib.hid (refTreeSame_any t t _ _ ⟨oA, .slice aA nA cA, mA, xA, .slice bA kA dA⟩ ⟨oB, .slice aB nB cB, mB, xB, .slice bB kB dB⟩ _ TA.out TB.out)
  rw [decide_eq_true (rfl : t = t)] at HS
  unfold NV.val at HS
  simp only at x0 x1 x2 x3 x4
  clear hvB kkB kaB
  unfold NV.val
  go_wp2_with fail
  refine HS.out.mono ?_
  rintro e w10 ⟨rfl, k10⟩
  go_wp2_with fail
  go_ret
  exact ⟨rfl, KB.out.trans k10⟩
theorem all_main (s : ByteArray) (hs : s.size ≤ 9223372036854775807) (w : World) (ht : TabW w) :
    Calls Tryz.prog 3 #[.string s] w fun e w' => e = .returned (.bool true) ∧ Keeps (fun _ => False) w w' := by
  obtain ⟨⟨l⟩⟩ := s
  have hl : l.length ≤ 9223372036854775807 := hs
  by_cases h : 300 < l.length
  · exact all_long l w ht hl h
  · exact all_ok l w ht (by omega)
end Go.Proofs.YtinogeobkljngaaGreatDoor
end
section
namespace Go.Proofs.YtinogeobkljngaaGreatDoor
open Go.ChangeShapes Go.WideShapes Go.ChangeAt Go.WideMaps Go.WideElems Go.RowKit
set_option linter.unusedVariables false

theorem own : ownKnob Tryz.prog.godebug = none := by kernel_rfl
theorem laidOut : laidOutB Tryz.prog = true := by kernel_rfl
abbrev laidL {H : Type} : List (String × DataW H) := [("math/bits.deBruijn32tab", Rows.laid_math_bits_deBruijn32tab), ("math/bits.deBruijn64tab", Rows.laid_math_bits_deBruijn64tab), ("internal/strconv.uint64pow10", Rows.laid_internal_strconv_uint64pow10)]
theorem tTab : (Tryz.prog.globals[0]?).map (·.type) = some 110 := by kernel_rfl

theorem door_met (os : Os) (args : Array Value) : laidMetH Tryz.prog laidL ((World.doorLaid Tryz.prog 400 os).forCall (fun _ _ => 0) ⟨#[], args, []⟩).memory :=
  laidMetH_of_parts3 (fuel := 8) (laidMet_of_run' 8 (by kernel_rfl) (by kernel_rfl)) (by kernel_rfl) (by kernel_rfl)

set_option maxRecDepth 100000 in
theorem of_laid {W : World} (h : laidMetH Tryz.prog laidL W) : TabW W := by
  rw [MakeChecks.laidMetH_plain _ _ _ (by kernel_rfl)] at h
  exact Lib.tabIs_of_head tab_named tTab Tryz.underlying110 Tryz.underlying96 (by kernel_rfl) (by kernel_rfl) (show laidMet Tryz.prog [("internal/strconv.uint64pow10", Lib.tabData .u64 Lib.pow10Tab)] W from h.tail.tail)
end Go.Proofs.YtinogeobkljngaaGreatDoor
end
