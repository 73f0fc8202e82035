/-
  The walk of the statement RingFull.
-/
import Derived.Test.YtibfioekmpnkgaaRingSpec
namespace Go.Proofs.Ytibfioekmpnkgaa
open Go.RowKit
set_option linter.unusedVariables false
set_option linter.unusedSimpArgs false
set_option maxRecDepth 100000

set_option maxHeartbeats 1000000 in
theorem full_walk (n f : Int) (w : World) (hn : 0 ≤ n ∧ n ≤ 255) (hf : 0 ≤ f ∧ f ≤ 255) :
    Calls Try.prog 5 #[.int .u8 n, .int .u8 f] w fun e w' => e = .returned (.bool true) ∧ Keeps (fun _ => False) w w' := by
  obtain ⟨hn0, hn1⟩ := hn
  obtain ⟨hf0, hf1⟩ := hf
  obtain ⟨k, hk0, hk64, hk⟩ : ∃ k : Nat, 1 ≤ k ∧ k ≤ 64 ∧ 1 + n % 64 = (k : Int) := ⟨(1 + n % 64).toNat, by omega, by omega, by omega⟩
  obtain ⟨m, hm0, hm⟩ : ∃ m : Nat, m < 100 ∧ f % 100 = (m : Int) := ⟨(f % 100).toNat, by omega, by omega⟩
  go_enter Try.func5, Try.ntmps5
  go_wp2_with fail
  refine (awake_any _).mono ?_
  rintro e w1 ⟨rfl, hk1⟩
  go_wp2_with fail
  refine (spec_new k _ hk0 hk64 itemN).mono ?_
  rintro e w2 ⟨rb, pb, rfl, hR, hrb, hpb, hk2⟩
  have hkw : Keeps (fun _ => False) w w2 := hk1.trans hk2
  have hrb' : w.heap.size ≤ rb := Nat.le_trans hk1.size hrb
  have hpb' : w.heap.size ≤ pb := Nat.le_trans hk1.size hpb
  clear hrb hpb hk1 hk2
  go_wp2_with fail
  go_loopw [9] (fun iv wr => ∃ (i : Nat), iv = .int .i64 i ∧ i ≤ m ∧ RingHas wr rb pb k i (fun _ => false) itemN ∧ Keeps (fun _ => False) w wr) (fun iv _ => m - (intOf iv).toNat)
  case atStart => exact ⟨0, rfl, Nat.zero_le _, hR, hkw⟩
  case round =>
    obtain ⟨i, rfl, him, hR, hkw⟩ := hrel
    by_cases hil : i < m
    · go_wp2_with fail
      refine (spec_put_ok i hR (Nat.le_refl _) (by omega) rfl (by omega)).mono ?_
      rintro e w3 ⟨rfl, hk3, hR3⟩
      go_wp2_with fail
      refine (spec_next_yes hR3 (by omega) (by simp)).mono ?_
      rintro e w4 ⟨rfl, hR4, hk4⟩
      have hR5 : RingHas w4 rb pb k (i + 1) (fun _ => false) itemN := hR4.congr (fun t ht => if_neg (by omega)) (fun _ _ _ => rfl)
      have hkw4 : Keeps (fun _ => False) w w4 := (hkw.trans2 hk3 (fun i hi h => by omega)).trans2 hk4 (fun i hi h => by omega)
      clear hR4 hR3 hR hkw hk3 hk4
      go_wp2_with fail
      go_roundw
      case rel => exact ⟨i + 1, by go_num, by omega, hR5, hkw4⟩
      case measure => simp [intOf]; omega
    · obtain rfl : m = i := by omega
      clear him hil
      go_wp2_with fail
      go_loopw [10] (fun iv wr => ∃ (r : Nat), iv = .int .i64 ((m : Int) + r - 1) ∧ r ≤ k ∧ RingHas wr rb pb k m (fun t => decide (m + r ≤ t ∧ t < m + k)) itemN ∧ Keeps (fun _ => False) w wr) (fun iv _ => (intOf iv + 1 - m).toNat)
      case atStart => exact ⟨k, rfl, Nat.le_refl _, hR.congr (fun t ht => by symm; exact decide_eq_false (by omega)) (fun _ _ _ => rfl), hkw⟩
      case round =>
        clear hR hkw
        obtain ⟨r, rfl, hrk, hR, hkw⟩ := hrel
        cases r with
        | succ q =>
          have e1 : (m : Int) + ((q + 1 : Nat) : Int) - 1 = ((m + q : Nat) : Int) := by omega
          rw [e1]
          have hd0 : (fun t => decide (m + (q + 1) ≤ t ∧ t < m + k)) m = false := decide_eq_false (by omega)
          have hd1 : (fun t => decide (m + (q + 1) ≤ t ∧ t < m + k)) (m + q) = false := decide_eq_false (by omega)
          go_wp2_with fail
          have hc := spec_ready hR
          rw [hd0] at hc
          refine hc.mono ?_
          clear hc
          rintro e w3 ⟨rfl, m3, rfl⟩
          go_wp2_with fail
          have hc := spec_room (hR.keeps (S := fun _ => False) ((Keeps.refl _ _).drawN m3) id id) ((m : Int) + q) (by omega)
          have ha : (decide ((m : Int) ≤ (m : Int) + q ∧ (m : Int) + q < m + k) && !decide (m + (q + 1) ≤ ((m : Int) + q).toNat ∧ ((m : Int) + q).toNat < m + k)) = true := by
            have : ((m : Int) + q).toNat = m + q := by omega
            rw [this, decide_eq_false (show ¬ (m + (q + 1) ≤ m + q ∧ m + q < m + k) by omega), decide_eq_true (by omega)]; rfl
          rw [ha] at hc
          refine hc.mono ?_
          clear hc ha
          rintro e w4 ⟨rfl, m4, rfl⟩
          go_wp2_with fail
          refine (spec_put_ok (m + q) (hR.keeps (S := fun _ => False) ((Keeps.refl _ _).drawN (m3 + m4)) id id) (by omega) (by omega) hd1 (by omega)).mono ?_
          rintro e w5 ⟨rfl, hk5, hR5⟩
          have hR6 : RingHas w5 rb pb k m (fun t => decide (m + q ≤ t ∧ t < m + k)) itemN := hR5.congr (fun t ht => by
            by_cases e : t = m + q
            · subst e; rw [if_pos rfl]; symm; exact decide_eq_true (by omega)
            · simp only [e, if_false, decide_eq_decide]; omega) (fun _ _ _ => rfl)
          have hkw5 : Keeps (fun _ => False) w w5 := (hkw.drawN _).trans2 hk5 (fun i hi h => by omega)
          clear hR5 hk5 hkw hR
          go_wp2_with fail
          have hc := spec_room hR6 ((m : Int) + q) (by omega)
          have ha : (decide ((m : Int) ≤ (m : Int) + q ∧ (m : Int) + q < m + k) && !decide (m + q ≤ ((m : Int) + q).toNat ∧ ((m : Int) + q).toNat < m + k)) = false := by
            have : ((m : Int) + q).toNat = m + q := by omega
            rw [this, decide_eq_true (show m + q ≤ m + q ∧ m + q < m + k by omega)]; simp
          rw [ha] at hc
          refine hc.mono ?_
          clear hc ha
          rintro e w6 ⟨rfl, m6, rfl⟩
          go_wp2_with fail
          go_roundw
          case rel => exact ⟨q, by go_num, by omega, hR6.keeps (S := fun _ => False) ((Keeps.refl _ _).drawN m6) id id, hkw5.drawN _⟩
          case measure => simp [intOf]; omega
        | zero =>
          have hR0 : RingHas wr rb pb k m (fun t => decide (t < m + k)) itemN := hR.congr (fun t ht => by rw [decide_eq_decide]; omega) (fun _ _ _ => rfl)
          clear hR
          go_wp2_with fail
          have hc := spec_room hR0 ((m : Int) + k) (by omega)
          rw [decide_eq_false (show ¬ ((m : Int) ≤ (m : Int) + k ∧ (m : Int) + k < m + k) by omega)] at hc
          refine hc.mono ?_
          clear hc
          rintro e w3 ⟨rfl, m3, rfl⟩
          rw [Bool.false_and]
          go_wp2_with fail
          have hc := spec_put (hR0.keeps (S := fun _ => False) ((Keeps.refl _ _).drawN m3) id id) ⟨(m : Int) + k, 0, 0, 0, ⟨#[]⟩, none, 0, 0, 0⟩ (by show (m : Int) + k ≤ _; omega)
          have ha : putAns m k (fun t => decide (t < m + k)) ((m : Int) + k) = 16 := by unfold putAns; rw [if_neg (by omega), if_pos (by omega)]
          simp only [ha] at hc
          refine hc.mono ?_
          clear hc ha
          rintro e w4 ⟨rfl, hk4, hR4⟩
          have hR4 : RingHas w4 rb pb k m (fun t => decide (t < m + k)) itemN := hR4.congr (fun t ht => by simp) (fun t ht _ => by simp)
          have hkw4 : Keeps (fun _ => False) w w4 := (hkw.drawN _).trans2 hk4 (fun i hi h => by omega)
          clear hR0 hkw hk4
          go_wp2_with fail
          refine (spec_held hR4).mono ?_
          rintro e w5 ⟨v, rfl, hown, hR5, hk5⟩
          rw [ticks_all m k _ (fun t _ h => decide_eq_true h)] at hown
          obtain ⟨va, vc, rfl⟩ := ownsRow_slice hown
          have hkw5 := hkw4.trans hk5
          clear hown hR4 hkw4 hk5
          go_wp2_with fail
          go_loopw [11] (fun iv wr => ∃ (i : Nat), iv = .int .i64 (m + i) ∧ i ≤ k ∧ RingHas wr rb pb k (m + i) (fun t => decide (t < m + k)) itemN ∧ Keeps (fun _ => False) w wr) (fun iv _ => (m + k - intOf iv).toNat)
          case atStart => exact ⟨0, by simp, Nat.zero_le _, hR5, hkw5⟩
          case round =>
            clear hR5 hkw5
            obtain ⟨i, rfl, hik, hR, hkw⟩ := hrel
            by_cases hil : i < k
            · go_wp2_with fail
              refine (spec_next_yes hR (by omega) (decide_eq_true (by omega))).mono ?_
              rintro e w6 ⟨rfl, hR6, hk6⟩
              have hkw6 : Keeps (fun _ => False) w w6 := hkw.trans2 hk6 (fun i hi h => by omega)
              clear hR hkw hk6
              simp only [itemN, ItemV.val]
              have ec : (((m + i : Nat)) : Int) = (m : Int) + i := by omega
              rw [ec]
              clear ec
              go_wp2_with fail
              go_roundw
              case rel => exact ⟨i + 1, by go_num, by omega, hR6.keeps (S := fun _ => False) ((Keeps.refl _ _).alloc _) id id, hkw6.alloc _⟩
              case measure => simp [intOf]; omega
            · obtain rfl : k = i := by omega
              go_wp2_with fail
              have hc := spec_ready hR
              rw [decide_eq_false (by omega)] at hc
              refine hc.mono ?_
              clear hc
              rintro e w6 ⟨rfl, m6, rfl⟩
              go_wp2_with fail
              refine (spec_ticket (hR.keeps (S := fun _ => False) ((Keeps.refl _ _).drawN m6) id id)).mono ?_
              rintro e w7 ⟨rfl, rfl⟩
              have ec : (((m + k : Nat)) : Int) = (m : Int) + k := by omega
              rw [ec]
              clear ec
              go_wp2_with fail
              refine (spec_held (hR.keeps (S := fun _ => False) ((Keeps.refl _ _).drawN m6) id id)).mono ?_
              rintro e w8 ⟨v, rfl, hown, hR8, hk8⟩
              rw [ticks_none (m + k) k _ (fun t h => decide_eq_false (by omega))] at hown
              obtain ⟨va, vc, rfl⟩ := ownsRow_slice hown
              simp only [List.length_nil]
              go_wp2_with fail
              go_ret
              exact ⟨rfl, (hkw.drawN _).trans hk8⟩
end Go.Proofs.Ytibfioekmpnkgaa
