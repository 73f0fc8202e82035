/-
  Several texts in one: model.Right at every job that is light: its numbers, and whether its pattern's engine comes (exactly). Right of a job, the program's and the document's: the same, by its numbers and its pattern. No condition but that it is light.
-/
import Derived.Test.YtbifklibdkjbeaaGreatDoorMg1
import Derived.Deep.CutBlock
import Derived.Deep.DeepCutAuto
import Derived.Test.YtbifklibdkjbeaaGreatDoorMg29
namespace Go.Proofs.YtbifklibdkjbeaaGreatDoor
open Go.RowKit
set_option linter.unusedVariables false
set_option linter.unusedSimpArgs false
set_option maxRecDepth 100000
set_option maxHeartbeats 16000000
theorem xib (n a b : Int) (w : World) : Calls Tryz.prog 76 #[.int .i64 n, .int .i64 a, .int .i64 b] w fun e w' => ∃ q : Bool, e = .returned (.bool q) ∧ (q = true ↔ a ≤ n ∧ n ≤ b) ∧ w' = w :=
 (xe2 n a b w).mono fun e w' h => ⟨_, h.1, by simp, h.2⟩
def xnY (p : Prop) (w1 : World) (v : Value) (wc : World) : Prop := ∃ q : Bool, v = .bool q ∧ (q = true ↔ p) ∧ w1 = wc
theorem xjY (j : JV) (hn : ¬ JOk j) (h1 : j.dn ≤ 200) (h2 : j.sn ≤ 10) (w : World) :
 Calls Tryz.prog 42 #[jV j] w fun e w' => e = .returned (.bool false) ∧ xa (fun _ => False) w w' := by
 have hsz : decide ((j.sn : Int) ≤ 64) = true := by simp; omega
 have hb1 : (j.dn : Int) ≤ 65536 := by omega
 have hb2 : (0 : Int) ≤ (j.dn : Int) := by omega
 have HN := xoo hn
 have HB := xoo (fun n a b W => xib n a b W)
 have hjb := xcT w j
 obtain ⟨w1, hw⟩ : ∃ W, w.alloc (.cells (jCs j) 28) = W := ⟨_, rfl⟩
 rw [hw] at hjb
 have hk1 : xa (fun _ => False) w w1 := by rw [← hw]; exact (xa.refl _ _).alloc _
 have hs1 : w.heap.size + 1 ≤ w1.heap.size := by rw [← hw]; simp
 have hw2 := hw
 unfold jCs at hw2
 have HW2 := xoo hw2
 have HJ := xoo hjb
 have HK1 := xoo hk1
 clear hw2 hw hjb hk1 hn
 unfold jV jCs
 go_enter Tryz.func42, Tryz.ntmps42
 go_upto_region 1 with fail
 rw [HW2.out]
 clear HW2
 obtain ⟨j0, j1, j2, j3, j4, j5, j6, j7, j8, j9, j10⟩ := HJ.out.c
 obtain ⟨j11, j12, j13, j14, j15, j16⟩ := HJ.out.d
 go_cut [3] (fun v wc => xnY ((0 ≤ j.cd ∧ j.cd ≤ 3) ∧ (1 ≤ j.mo ∧ j.mo ≤ 4096)) w1 v wc)
 case first =>
  go_wp2_with fail
  refine (HB.out _ _ _ _).mono ?_
  rintro e w' ⟨q0, rfl, hq0, rfl⟩
  obtain rfl : q0 = true := hq0.2 (by omega)
  clear hq0
  go_wp2_with fail
  refine (HB.out _ _ _ _).mono ?_
  rintro e w' ⟨q1, rfl, hq1, rfl⟩
  cases q1 with
  | false =>
   have HF := xoo (show ¬ (0 ≤ j.cd ∧ j.cd ≤ 3) from fun h => absurd (hq1.2 h) (by simp))
   clear hq1
   go_wp2_with fail
   go_meet
   exact ⟨false, rfl, ⟨fun h => (by cases h), fun h => absurd h.1 HF.out⟩, rfl⟩
  | true =>
   have HT1 := xoo (hq1.1 rfl)
   clear hq1
   go_wp2_with fail
   refine (HB.out _ _ _ _).mono ?_
   rintro e w' ⟨q2, rfl, hq2, rfl⟩
   cases q2 with
   | false =>
    have HF := xoo (mt hq2.2 (by simp))
    clear hq2
    go_wp2_with fail
    go_meet
    exact ⟨false, rfl, ⟨fun h => (by cases h), fun h => absurd h.2 HF.out⟩, rfl⟩
   | true =>
    have HT := xoo (hq2.1 rfl)
    clear hq2
    go_wp2_with fail
    go_meet
    exact ⟨true, rfl, ⟨fun _ => ⟨HT1.out, HT.out⟩, fun _ => rfl⟩, rfl⟩
 case rest =>
  obtain ⟨g0, rfl, hg0, rfl⟩ := hcut
  have HG0 := xoo hg0
  clear hg0
  go_upto_region 2 with fail
  go_cut [4] (fun v wc => xnY ((0 ≤ j.te ∧ j.te ≤ 3) ∧ (0 ≤ j.be ∧ j.be ≤ 16) ∧ (0 ≤ j.af ∧ j.af ≤ 16)) w1 v wc)
  case first =>
   go_wp2_with fail
   refine (HB.out _ _ _ _).mono ?_
   rintro e w' ⟨q0, rfl, hq0, rfl⟩
   cases q0 with
   | false =>
    have HF := xoo (show ¬ (0 ≤ j.te ∧ j.te ≤ 3) from fun h => absurd (hq0.2 h) (by simp))
    clear hq0
    go_wp2_with fail
    go_meet
    exact ⟨false, rfl, ⟨fun h => (by cases h), fun h => absurd h.1 HF.out⟩, rfl⟩
   | true =>
    have HT0 := xoo (hq0.1 rfl)
    clear hq0
    go_wp2_with fail
    refine (HB.out _ _ _ _).mono ?_
    rintro e w' ⟨q1, rfl, hq1, rfl⟩
    cases q1 with
    | false =>
     have HF := xoo (show ¬ (0 ≤ j.be ∧ j.be ≤ 16) from fun h => absurd (hq1.2 h) (by simp))
     clear hq1
     go_wp2_with fail
     go_meet
     exact ⟨false, rfl, ⟨fun h => (by cases h), fun h => absurd h.2.1 HF.out⟩, rfl⟩
    | true =>
     have HT1 := xoo (hq1.1 rfl)
     clear hq1
     go_wp2_with fail
     refine (HB.out _ _ _ _).mono ?_
     rintro e w' ⟨q2, rfl, hq2, rfl⟩
     cases q2 with
     | false =>
      have HF := xoo (mt hq2.2 (by simp))
      clear hq2
      go_wp2_with fail
      go_meet
      exact ⟨false, rfl, ⟨fun h => (by cases h), fun h => absurd h.2.2 HF.out⟩, rfl⟩
     | true =>
      have HT := xoo (hq2.1 rfl)
      clear hq2
      go_wp2_with fail
      go_meet
      exact ⟨true, rfl, ⟨fun _ => ⟨HT0.out, HT1.out, HT.out⟩, fun _ => rfl⟩, rfl⟩
  case rest =>
   obtain ⟨g1, rfl, hg1, rfl⟩ := hcut
   have HG1 := xoo hg1
   clear hg1
   go_upto_region 3 with fail
   go_cut [5] (fun v wc => xnY ((1 ≤ j.bu ∧ j.bu ≤ 64) ∧ (1 ≤ j.ch ∧ j.ch ≤ 4096) ∧ (0 ≤ j.ro ∧ j.ro ≤ 64)) w1 v wc)
   case first =>
    go_wp2_with fail
    refine (HB.out _ _ _ _).mono ?_
    rintro e w' ⟨q0, rfl, hq0, rfl⟩
    cases q0 with
    | false =>
     have HF := xoo (show ¬ (1 ≤ j.bu ∧ j.bu ≤ 64) from fun h => absurd (hq0.2 h) (by simp))
     clear hq0
     go_wp2_with fail
     go_meet
     exact ⟨false, rfl, ⟨fun h => (by cases h), fun h => absurd h.1 HF.out⟩, rfl⟩
    | true =>
     have HT0 := xoo (hq0.1 rfl)
     clear hq0
     go_wp2_with fail
     refine (HB.out _ _ _ _).mono ?_
     rintro e w' ⟨q1, rfl, hq1, rfl⟩
     cases q1 with
     | false =>
      have HF := xoo (show ¬ (1 ≤ j.ch ∧ j.ch ≤ 4096) from fun h => absurd (hq1.2 h) (by simp))
      clear hq1
      go_wp2_with fail
      go_meet
      exact ⟨false, rfl, ⟨fun h => (by cases h), fun h => absurd h.2.1 HF.out⟩, rfl⟩
     | true =>
      have HT1 := xoo (hq1.1 rfl)
      clear hq1
      go_wp2_with fail
      refine (HB.out _ _ _ _).mono ?_
      rintro e w' ⟨q2, rfl, hq2, rfl⟩
      cases q2 with
      | false =>
       have HF := xoo (mt hq2.2 (by simp))
       clear hq2
       go_wp2_with fail
       go_meet
       exact ⟨false, rfl, ⟨fun h => (by cases h), fun h => absurd h.2.2 HF.out⟩, rfl⟩
      | true =>
       have HT := xoo (hq2.1 rfl)
       clear hq2
       go_wp2_with fail
       go_meet
       exact ⟨true, rfl, ⟨fun _ => ⟨HT0.out, HT1.out, HT.out⟩, fun _ => rfl⟩, rfl⟩
   case rest =>
    obtain ⟨g2, rfl, hg2, rfl⟩ := hcut
    have HG2 := xoo hg2
    clear hg2
    go_upto_region 4 with fail
    go_cut [6] (fun v wc => xnY ((1 ≤ j.wo ∧ j.wo ≤ 16) ∧ (1 ≤ j.rg ∧ j.rg ≤ 64)) w1 v wc)
    case first =>
     go_wp2_with fail
     refine (HB.out _ _ _ _).mono ?_
     rintro e w' ⟨q0, rfl, hq0, rfl⟩
     cases q0 with
     | false =>
      have HF := xoo (show ¬ (1 ≤ j.wo ∧ j.wo ≤ 16) from fun h => absurd (hq0.2 h) (by simp))
      clear hq0
      go_wp2_with fail
      go_meet
      exact ⟨false, rfl, ⟨fun h => (by cases h), fun h => absurd h.1 HF.out⟩, rfl⟩
     | true =>
      have HT0 := xoo (hq0.1 rfl)
      clear hq0
      go_wp2_with fail
      refine (HB.out _ _ _ _).mono ?_
      rintro e w' ⟨q1, rfl, hq1, rfl⟩
      cases q1 with
      | false =>
       have HF := xoo (mt hq1.2 (by simp))
       clear hq1
       go_wp2_with fail
       go_meet
       exact ⟨false, rfl, ⟨fun h => (by cases h), fun h => absurd h.2 HF.out⟩, rfl⟩
      | true =>
       have HT := xoo (hq1.1 rfl)
       clear hq1
       go_wp2_with fail
       go_meet
       exact ⟨true, rfl, ⟨fun _ => ⟨HT0.out, HT.out⟩, fun _ => rfl⟩, rfl⟩
    case rest =>
     obtain ⟨g3, rfl, hg3, rfl⟩ := hcut
     have HG3 := xoo hg3
     clear hg3
     obtain h | h | h | h : g0 = false ∨ (g0 = true ∧ g1 = false) ∨ (g0 = true ∧ g1 = true ∧ g2 = false) ∨ (g0 = true ∧ g1 = true ∧ g2 = true ∧ g3 = false) := by
      cases g0; exact .inl rfl
      cases g1; exact .inr (.inl ⟨rfl, rfl⟩)
      cases g2; exact .inr (.inr (.inl ⟨rfl, rfl, rfl⟩))
      cases g3; exact .inr (.inr (.inr ⟨rfl, rfl, rfl, rfl⟩))
      exact (HN.out ⟨by omega, by omega, (HG0.out.1 rfl).1, (HG0.out.1 rfl).2, (HG1.out.1 rfl).1, (HG1.out.1 rfl).2.1, (HG1.out.1 rfl).2.2, (HG2.out.1 rfl).1, (HG2.out.1 rfl).2.1, (HG2.out.1 rfl).2.2, (HG3.out.1 rfl).1, (HG3.out.1 rfl).2⟩).elim
     · subst h
       go_wp2_with fail
       go_ret
       exact ⟨rfl, HK1.out⟩
     · obtain ⟨rfl, rfl⟩ := h
       go_wp2_with fail
       go_ret
       exact ⟨rfl, HK1.out⟩
     · obtain ⟨rfl, rfl, rfl⟩ := h
       go_wp2_with fail
       go_ret
       exact ⟨rfl, HK1.out⟩
     obtain ⟨rfl, rfl, rfl, rfl⟩ := h
     go_wp2_with fail
     go_ret
     exact ⟨rfl, HK1.out⟩
theorem xkQ {j : JV} (h : xaF j = false) : ¬ JOk j := fun k => by
 have h2 : xaF j = true := by
  unfold xaF
  have := k.cd; have := k.mo; have := k.te; have := k.be; have := k.af; have := k.bu; have := k.ch; have := k.ro; have := k.wo; have := k.rg
  simp; omega
 rw [h] at h2; cases h2
theorem xfl (l : List UInt8) (hm : l.length ≤ 9223372036854775807) : ∃ (c : Int) (s : Bool), ∀ j : JV, j.pt = l →
 xaW 41 j s ∧ (j.dn ≤ 200 → j.sn ≤ 10 → xaW 42 j (xaF j && (c == 0)) ∧ xaW 21 j (xaF j && (c == 0))) := by
 obtain ⟨c, t, b, hE, hC, hb, hb2⟩ := xhn l hm
 refine ⟨c, c != 0 || decide ((b : Int) ≤ 120), fun j hj => ?_⟩
 subst hj
 refine ⟨fun W => xkF j t c b hC hb hb2 W, fun h1 h2 => ⟨fun W => ?_, fun W => xjs j t c hC h1 h2 W⟩⟩
 cases hr : xaF j with
 | true => rw [Bool.true_and]; exact xjZ j c (xer hr (by omega) (by omega)) hE W
 | false => rw [Bool.false_and]; exact xjY j (xkQ hr) h1 h2 W
theorem xd9 (j : JV) (hm : j.pt.length ≤ 9223372036854775807) : xaW 40 j (xb7 j) := fun W => xlA j W hm
theorem xiR {j : JV} (h : xb7 j = true) : j.dn ≤ 200 ∧ j.sn ≤ 10 := by
 unfold xb7 at h
 simp only [Bool.and_eq_true, decide_eq_true_eq] at h
 exact ⟨h.1.1.1, h.1.2⟩
end Go.Proofs.YtbifklibdkjbeaaGreatDoor
