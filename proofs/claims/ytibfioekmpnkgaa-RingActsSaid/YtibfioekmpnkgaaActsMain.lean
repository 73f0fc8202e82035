/-
  The walk of RingActs.
-/
import Derived.Test.YtibfioekmpnkgaaActsLaw
import Derived.Deep.CutBlock
namespace Go.Proofs.Ytibfioekmpnkgaa
open Go.RowKit
set_option linter.unusedVariables false
set_option linter.unusedSimpArgs false
set_option maxRecDepth 100000

set_option maxHeartbeats 4000000 in
theorem acts_main (n : Int) (acts : List (Int × ItemV)) (v : Value) (w : World) (hn : in64 n) (h : SlOf 8 encA w v acts) (ha : ∀ p ∈ acts, in64 p.1 ∧ in64 p.2.N ∧ (p.2.hl ≤ 100 → HasHits w p.2)) (hl : acts.length ≤ 60) :
    Calls Try.prog 4 #[.int .i64 n, v] w fun e w' => e = .returned (.bool true) ∧ Keeps (fun _ => False) w w' := by
  obtain ⟨a0, c0, rfl, _, _, hc⟩ := h
  have Hc := Lib.hid hc
  have Ha := Lib.hid ha
  clear hc ha
  by_cases hbad : n < 1 ∨ 64 < n
  · have HB := Lib.hid hbad
    go_enter Try.func4, Try.ntmps4
    go_wp2_with fail
    refine (awake_any _).mono ?_
    rintro e w1 ⟨rfl, hk1⟩
    go_wp2_with fail
    refine (new_bad n _ HB.out).mono ?_
    rintro e w2 ⟨rfl, rfl⟩
    rcases hbad with hb | hb
    · go_wp2_with fail
      go_ret
      exact ⟨rfl, hk1⟩
    · have hb' : decide (n < 1) = false := by simp; omega
      go_wp2_with fail
      go_ret
      exact ⟨rfl, hk1⟩
  · obtain ⟨k, rfl⟩ := Int.eq_ofNat_of_zero_le (show 0 ≤ n by omega)
    have hk1 : 1 ≤ k := by omega
    have hk64 : k ≤ 64 := by omega
    have hb1 : decide ((k : Int) < 1) = false := by simp; omega
    have hb2 : decide ((64 : Int) < k) = false := by simp; omega
    clear hbad
    go_enter Try.func4, Try.ntmps4
    go_wp2_with fail
    refine (awake_any _).mono ?_
    rintro e w1 ⟨rfl, hkw⟩
    go_wp2_with fail
    refine (spec_new k _ hk1 hk64 (fun _ => zeroI)).mono ?_
    rintro e w2 ⟨rb, pb, rfl, hR, hr0, hp0, hkk⟩
    have hkw2 := hkw.trans hkk
    have hsw := hkw.size
    have hlr := hR.lr
    have hR3 := hR.keeps ((Keeps.refl (fun _ => False) w2).alloc (.cells #[.slice none 0 0, .int .i64 k, .int .i64 0] 43)) id id
    have hF3 := ref_new w2 rb pb k hlr.1 hlr.2
    have hk3 := hkw2.alloc (.cells #[.slice none 0 0, .int .i64 k, .int .i64 0] 43)
    have hsz2 := hkk.size
    have hB0 : Both w (w2.alloc (.cells #[.slice none 0 0, .int .i64 k, .int .i64 0] 43)) rb pb w2.heap.size k 0 (fun _ => false) (fun _ => zeroI) :=
      ⟨hR3, by have : items 0 k (fun _ => false) (fun _ => zeroI) = [] := (by unfold items ticks; simp); rw [this]; exact hF3, (fun t _ h => by cases h), (fun t _ h => by cases h), hk3, by omega, by omega, by omega⟩
    clear hR3 hF3 hk3 hR hkk hkw2
    go_wp2_with fail
    generalize hwl : (w2.alloc (.cells #[.slice none 0 0, .int .i64 k, .int .i64 0] 43)) = wl at *
    clear hwl
    generalize hwb : w2.heap.size = wb at *
    clear hwb
    go_loopw [8] (fun iv wr => ActsR w rb pb wb k acts.length iv wr) (fun iv _ => acts.length - (intOf iv).toNat)
    case atStart => exact ⟨0, 0, _, _, rfl, Nat.zero_le _, Nat.le_refl _, hB0⟩
    case round =>
      clear hB0
      obtain ⟨i, nx, hd, it, rfl, hi, hnx, hB⟩ := hrel
      by_cases hil : i < acts.length
      · obtain ⟨b, off, rfl, hcc⟩ := Hc.out (by omega)
        obtain ⟨p, hp⟩ : ∃ p, acts[i]? = some p := ⟨_, List.getElem?_eq_getElem hil⟩
        obtain ⟨K, N, B, R, AT, T, xa, xl, xc, er⟩ := p
        have hcw : ∀ j, j < 8 → wr.cell? ⟨b, off + i * 8 + j, none⟩ = some (encA (K, ⟨N, B, R, AT, T, xa, xl, xc, er⟩) j) := fun j hj => hB.keep.cell (hcc i _ hp j hj) id
        have d0 : wr.cell? ⟨b, off + i * 8, none⟩ = some (.int .i64 K) := hcw 0 (by omega)
        have d1 : wr.cell? ⟨b, off + i * 8 + 1, none⟩ = some (.int .i64 N) := hcw 1 (by omega)
        have d2 : wr.cell? ⟨b, off + i * 8 + 2, none⟩ = some (.int .i64 B) := hcw 2 (by omega)
        have d3 : wr.cell? ⟨b, off + i * 8 + 3, none⟩ = some (.int .i64 R) := hcw 3 (by omega)
        have d4 : wr.cell? ⟨b, off + i * 8 + 4, none⟩ = some (.int .i64 AT) := hcw 4 (by omega)
        have d5 : wr.cell? ⟨b, off + i * 8 + 5, none⟩ = some (.string T) := hcw 5 (by omega)
        have d6 : wr.cell? ⟨b, off + i * 8 + 6, none⟩ = some (.slice xa xl xc) := hcw 6 (by omega)
        have d7 : wr.cell? ⟨b, off + i * 8 + 7, none⟩ = some (.int .i64 er) := hcw 7 (by omega)
        have Hp := Lib.hid hp
        clear hcc hcw hp
        by_cases hx : xl ≤ 10
        · have hN := (Ha.out _ (List.mem_of_getElem? Hp.out)).2.1.2
          have hH := (Ha.out _ (List.mem_of_getElem? Hp.out)).2.2 (by show xl ≤ 100; omega)
          simp only at hN
          have hB1 := hB.keeps ((Keeps.refl _ _).alloc (.cells #[.int .i64 K, .int .i64 N, .int .i64 B, .int .i64 R, .int .i64 AT, .string T, .slice xa xl xc, .int .i64 er] 45))
          have zz : ∀ o, (wr.alloc (.cells #[.int .i64 K, .int .i64 N, .int .i64 B, .int .i64 R, .int .i64 AT, .string T, .slice xa xl xc, .int .i64 er] 45)).cell? ⟨wr.heap.size, o, none⟩ = (#[.int .i64 K, .int .i64 N, .int .i64 B, .int .i64 R, .int .i64 AT, .string T, .slice xa xl xc, .int .i64 er] : Array Value)[o]? := fun o => by rw [cell_new]
          have hnb := hB.ring.lr
          have hnw := hB.ref.lt
          have hk1' := hk1
          go_upto_region 16 with fail
          go_upto_block 2 with fail
          go_cut [10] from 51 to 176 (fun s10 wc => ActsC w rb pb wb k (i + 1) s10 wc)
          case first =>
            clear hB
            have z0 := zz 0
            have z1 := zz 1
            have z2 := zz 2
            have z3 := zz 3
            have z4 := zz 4
            have z5 := zz 5
            have z6 := zz 6
            have z7 := zz 7
            clear zz d0 d1 d2 d3 d4 d5 d6 d7
            simp only [List.getElem?_toArray, List.getElem?_cons_zero, List.getElem?_cons_succ] at z0 z1 z2 z3 z4 z5 z6 z7
            by_cases hK0 : K = 0
            · subst hK0
              have hkd : ∀ S, Keeps S (wr.alloc (.cells #[.int .i64 0, .int .i64 N, .int .i64 B, .int .i64 R, .int .i64 AT, .string T, .slice xa xl xc, .int .i64 er] 45)) (wr.alloc (.cells #[.int .i64 0, .int .i64 N, .int .i64 B, .int .i64 R, .int .i64 AT, .string T, .slice xa xl xc, .int .i64 er] 45)).drew := fun S => (Keeps.refl S _).drew
              have KP := kp hB1 ⟨N, B, R, AT, T, xa, xl, xc, er⟩ hN
              have KR := kr hB1 hk64 (by omega) ⟨N, B, R, AT, T, xa, xl, xc, er⟩ hN
              have hlt : ¬ Bth pb wb wr.heap.size := by rintro (e | e) <;> omega
              have HS : ∀ w', Keeps (Bth pb wb) (wr.alloc (.cells #[.int .i64 0, .int .i64 N, .int .i64 B, .int .i64 R, .int .i64 AT, .string T, .slice xa xl xc, .int .i64 er] 45)) w' → w'.cell? ⟨wr.heap.size, 1, none⟩ = some (.int .i64 N) ∧ w'.cell? ⟨wr.heap.size, 2, none⟩ = some (.int .i64 B) ∧ w'.cell? ⟨wr.heap.size, 3, none⟩ = some (.int .i64 R) ∧ w'.cell? ⟨wr.heap.size, 4, none⟩ = some (.int .i64 AT) ∧ w'.cell? ⟨wr.heap.size, 5, none⟩ = some (.string T) ∧ w'.cell? ⟨wr.heap.size, 6, none⟩ = some (.slice xa xl xc) ∧ w'.cell? ⟨wr.heap.size, 7, none⟩ = some (.int .i64 er) ∧ Keeps (Bth pb wb) (wr.alloc (.cells #[.int .i64 0, .int .i64 N, .int .i64 B, .int .i64 R, .int .i64 AT, .string T, .slice xa xl xc, .int .i64 er] 45)) w' := fun w' KK => ⟨KK.cell z1 hlt, KK.cell z2 hlt, KK.cell z3 hlt, KK.cell z4 hlt, KK.cell z5 hlt, KK.cell z6 hlt, KK.cell z7 hlt, KK⟩
              have HSd := HS _ (hkd _)
              simp only [ItemV.val] at KP KR
              obtain ⟨pa, hpa⟩ : ∃ pa, putAns nx k hd N = pa := ⟨_, rfl⟩
              simp only [hpa] at KP KR
              have hpp : (pa == pa) = true := by simp
              clear hpa
              go_wp2_with fail
              go_region_held3 (fun w' => w'.cell? ⟨wr.heap.size, 1, none⟩ = some (.int .i64 N) ∧ w'.cell? ⟨wr.heap.size, 2, none⟩ = some (.int .i64 B) ∧ w'.cell? ⟨wr.heap.size, 3, none⟩ = some (.int .i64 R) ∧ w'.cell? ⟨wr.heap.size, 4, none⟩ = some (.int .i64 AT) ∧ w'.cell? ⟨wr.heap.size, 5, none⟩ = some (.string T) ∧ w'.cell? ⟨wr.heap.size, 6, none⟩ = some (.slice xa xl xc) ∧ w'.cell? ⟨wr.heap.size, 7, none⟩ = some (.int .i64 er) ∧ Keeps (Bth pb wb) (wr.alloc (.cells #[.int .i64 0, .int .i64 N, .int .i64 B, .int .i64 R, .int .i64 AT, .string T, .slice xa xl xc, .int .i64 er] 45)) w') (first | exact HSd | exact HS _ (by assumption)) (first | (go_at_call 14; refine (KP _ ?_).mono ?_; (first | exact hkd _ | exact (hkd _).trans hkr); rintro e w' ⟨rfl, hRn, hkp, hkn⟩) | (go_at_call 18; refine (KR _ ?_).mono ?_; (first | exact hkd _ | exact (hkd _).trans hkp); rintro e w' ⟨rfl, hFn, hkr, hkn⟩))
              all_goals
                go_wp2_with fail
                go_meet
                first | exact fin_a hB1 (by omega) _ hH hRn hkr hFn (by assumption) _ rfl | exact fin_b hB1 (by omega) _ hH hFn hkp hRn (by assumption) _ rfl
            by_cases hK1 : K = 1
            · subst hK1
              clear z0 z1 z2 z3 z4 z5 z6 z7
              cases hh : hd nx
              · have Hh := Lib.hid hh
                clear hh
                go_wp2_with fail
                refine (spec_next_no hB1.ring Hh.out).mono ?_
                rintro e wA ⟨rfl, hRA, hkA⟩
                have hBA := hB1.keeps hkA
                go_wp2_with fail
                have hBA2 := hBA.keeps ((Keeps.refl _ _).alloc (.cells #[.int .i64 0, .int .i64 0, .int .i64 0, .int .i64 0, .string ⟨#[]⟩, .slice none 0 0, .int .i64 0] 34))
                refine (refGive_no _ _ _ _ _ _ hBA2.ref (head_no hBA2.nam Hh.out)).mono ?_
                rintro e wB ⟨rfl, hFB, hkB⟩
                have hBB := hBA2.keeps hkB
                have hlB := hkB.size
                simp at hlB
                simp only [ItemV.val, zeroI]
                have hBC := hBB.keeps ((Keeps.refl _ _).alloc (.cells #[.int .i64 0, .int .i64 0, .int .i64 0, .int .i64 0, .string ⟨#[]⟩, .slice none 0 0, .int .i64 0] 34))
                go_upto_region 23 with fail
                generalize hwC : (wB.alloc (.cells #[.int .i64 0, .int .i64 0, .int .i64 0, .int .i64 0, .string ⟨#[]⟩, .slice none 0 0, .int .i64 0] 34)) = wC at *
                have x0 : wC.cell? ⟨wA.heap.size, 0, none⟩ = some (.int .i64 0) := by rw [← hwC]; exact alloc_cell (hkB.cell (p := ⟨wA.heap.size, 0, none⟩) (by rw [cell_new]; rfl) id) _
                have x1 : wC.cell? ⟨wA.heap.size, 1, none⟩ = some (.int .i64 0) := by rw [← hwC]; exact alloc_cell (hkB.cell (p := ⟨wA.heap.size, 1, none⟩) (by rw [cell_new]; rfl) id) _
                have x2 : wC.cell? ⟨wA.heap.size, 2, none⟩ = some (.int .i64 0) := by rw [← hwC]; exact alloc_cell (hkB.cell (p := ⟨wA.heap.size, 2, none⟩) (by rw [cell_new]; rfl) id) _
                have x3 : wC.cell? ⟨wA.heap.size, 3, none⟩ = some (.int .i64 0) := by rw [← hwC]; exact alloc_cell (hkB.cell (p := ⟨wA.heap.size, 3, none⟩) (by rw [cell_new]; rfl) id) _
                have x4 : wC.cell? ⟨wA.heap.size, 4, none⟩ = some (.string ⟨#[]⟩) := by rw [← hwC]; exact alloc_cell (hkB.cell (p := ⟨wA.heap.size, 4, none⟩) (by rw [cell_new]; rfl) id) _
                have x5 : wC.cell? ⟨wA.heap.size, 5, none⟩ = some (.slice none 0 0) := by rw [← hwC]; exact alloc_cell (hkB.cell (p := ⟨wA.heap.size, 5, none⟩) (by rw [cell_new]; rfl) id) _
                have x6 : wC.cell? ⟨wA.heap.size, 6, none⟩ = some (.int .i64 0) := by rw [← hwC]; exact alloc_cell (hkB.cell (p := ⟨wA.heap.size, 6, none⟩) (by rw [cell_new]; rfl) id) _
                have y0 : wC.cell? ⟨wB.heap.size, 0, none⟩ = some (.int .i64 0) := by rw [← hwC, cell_new]; rfl
                have y1 : wC.cell? ⟨wB.heap.size, 1, none⟩ = some (.int .i64 0) := by rw [← hwC, cell_new]; rfl
                have y2 : wC.cell? ⟨wB.heap.size, 2, none⟩ = some (.int .i64 0) := by rw [← hwC, cell_new]; rfl
                have y3 : wC.cell? ⟨wB.heap.size, 3, none⟩ = some (.int .i64 0) := by rw [← hwC, cell_new]; rfl
                have y4 : wC.cell? ⟨wB.heap.size, 4, none⟩ = some (.string ⟨#[]⟩) := by rw [← hwC, cell_new]; rfl
                have y5 : wC.cell? ⟨wB.heap.size, 5, none⟩ = some (.slice none 0 0) := by rw [← hwC, cell_new]; rfl
                have y6 : wC.cell? ⟨wB.heap.size, 6, none⟩ = some (.int .i64 0) := by rw [← hwC, cell_new]; rfl
                clear hwC
                go_wp2_with fail
                refine (itemSame_self zeroI _ ⟨[], SlOf.nil _ _ _, by simp⟩).mono ?_
                rintro e wD ⟨rfl, hkD⟩
                have hBD := hBC.keeps hkD
                go_wp2_with fail
                go_meet
                exact ⟨rfl, nx, hd, it, by omega, hBD⟩
              · have Hh := Lib.hid hh
                clear hh
                have hL := next_list hk1 Hh.out (hB1.ring.out _ (Nat.le_refl _)) (it := it)
                have HL := Lib.hid hL
                clear hL
                have S1 := spec_next_yes hB1.ring (by omega) Hh.out
                have S2 : ∀ (W : World), RefAt (Ab rb pb) W wb k nx (items nx k hd it) → Calls Try.prog 19 #[.pointer (some ⟨wb, 0, none⟩)] W fun e w' => e = .returned (.tuple #[(it nx).val, .bool true]) ∧ RefAt (Ab rb pb) w' wb k (nx + 1) (items (nx + 1) k hd it) ∧ Keeps (fun b => b = wb) W w' := fun W hW => by
                  rw [HL.out] at hW
                  exact refGive_yes _ _ _ _ _ _ _ hW (hB1.nam nx (Nat.le_refl _) Hh.out) (by omega) (by have := items_length (nx + 1) k hd it; omega)
                have hHi := hB1.hits nx (Nat.le_refl _) Hh.out
                obtain ⟨y, hy⟩ : ∃ y, it nx = y := ⟨_, rfl⟩
                rw [hy] at S1 hHi
                simp only [hy] at S2
                clear hy HL
                obtain ⟨iN, iB, iR, iA, iT, iha, ihl, ihc, ie⟩ := y
                simp only [ItemV.val] at S1 S2
                go_wp2_with fail
                refine S1.mono ?_
                rintro e wA ⟨rfl, hRA, hkA⟩
                have hsA := hkA.size
                simp at hsA
                have hFA := hB1.ref.keeps hkA (fun _ e => by rcases e with e | e; exact Or.inr e; exact Or.inl e)
                go_wp2_with fail
                refine (S2 _ (hFA.keeps ((Keeps.refl (fun _ => False) _).alloc (.cells #[.int .i64 iN, .int .i64 iB, .int .i64 iR, .int .i64 iA, .string iT, .slice iha ihl ihc, .int .i64 ie] 34)) (fun _ e => e.elim))).mono ?_
                rintro e wB ⟨rfl, hFB, hkB⟩
                have hlB := hkB.size
                simp at hlB
                have hk4 : Keeps (fun b => b = pb ∨ b = rb ∨ b = wb) _ wB := ((hkA.mono (fun _ _ e => by rcases e with e | e; exact Or.inl e; exact Or.inr (Or.inl e))).alloc (.cells #[.int .i64 iN, .int .i64 iB, .int .i64 iR, .int .i64 iA, .string iT, .slice iha ihl ihc, .int .i64 ie] 34)).trans (hkB.mono (fun _ _ e => Or.inr (Or.inr e)))
                have hRB := hRA.keeps (((Keeps.refl (fun b => b = wb) _).alloc (.cells #[.int .i64 iN, .int .i64 iB, .int .i64 iR, .int .i64 iA, .string iT, .slice iha ihl ihc, .int .i64 ie] 34)).trans hkB) (fun e => hB1.wr'.1 e.symm) (fun e => hB1.wr'.2 e.symm)
                have hBB := both_next hB1 hk1 Hh.out hRB hFB hk4
                have hBC := hBB.keeps ((Keeps.refl _ _).alloc (.cells #[.int .i64 iN, .int .i64 iB, .int .i64 iR, .int .i64 iA, .string iT, .slice iha ihl ihc, .int .i64 ie] 34))
                clear S1 S2 hFA hk4 hRB hkA hFB hRA
                go_upto_region 23 with fail
                generalize hwC : (wB.alloc (.cells #[.int .i64 iN, .int .i64 iB, .int .i64 iR, .int .i64 iA, .string iT, .slice iha ihl ihc, .int .i64 ie] 34)) = wC at *
                have x0 : wC.cell? ⟨wA.heap.size, 0, none⟩ = some (.int .i64 iN) := by rw [← hwC]; exact alloc_cell (hkB.cell (p := ⟨wA.heap.size, 0, none⟩) (by rw [cell_new]; rfl) (by show ¬ wA.heap.size = wb; omega)) _
                have x1 : wC.cell? ⟨wA.heap.size, 1, none⟩ = some (.int .i64 iB) := by rw [← hwC]; exact alloc_cell (hkB.cell (p := ⟨wA.heap.size, 1, none⟩) (by rw [cell_new]; rfl) (by show ¬ wA.heap.size = wb; omega)) _
                have x2 : wC.cell? ⟨wA.heap.size, 2, none⟩ = some (.int .i64 iR) := by rw [← hwC]; exact alloc_cell (hkB.cell (p := ⟨wA.heap.size, 2, none⟩) (by rw [cell_new]; rfl) (by show ¬ wA.heap.size = wb; omega)) _
                have x3 : wC.cell? ⟨wA.heap.size, 3, none⟩ = some (.int .i64 iA) := by rw [← hwC]; exact alloc_cell (hkB.cell (p := ⟨wA.heap.size, 3, none⟩) (by rw [cell_new]; rfl) (by show ¬ wA.heap.size = wb; omega)) _
                have x4 : wC.cell? ⟨wA.heap.size, 4, none⟩ = some (.string iT) := by rw [← hwC]; exact alloc_cell (hkB.cell (p := ⟨wA.heap.size, 4, none⟩) (by rw [cell_new]; rfl) (by show ¬ wA.heap.size = wb; omega)) _
                have x5 : wC.cell? ⟨wA.heap.size, 5, none⟩ = some (.slice iha ihl ihc) := by rw [← hwC]; exact alloc_cell (hkB.cell (p := ⟨wA.heap.size, 5, none⟩) (by rw [cell_new]; rfl) (by show ¬ wA.heap.size = wb; omega)) _
                have x6 : wC.cell? ⟨wA.heap.size, 6, none⟩ = some (.int .i64 ie) := by rw [← hwC]; exact alloc_cell (hkB.cell (p := ⟨wA.heap.size, 6, none⟩) (by rw [cell_new]; rfl) (by show ¬ wA.heap.size = wb; omega)) _
                have y0 : wC.cell? ⟨wB.heap.size, 0, none⟩ = some (.int .i64 iN) := by rw [← hwC, cell_new]; rfl
                have y1 : wC.cell? ⟨wB.heap.size, 1, none⟩ = some (.int .i64 iB) := by rw [← hwC, cell_new]; rfl
                have y2 : wC.cell? ⟨wB.heap.size, 2, none⟩ = some (.int .i64 iR) := by rw [← hwC, cell_new]; rfl
                have y3 : wC.cell? ⟨wB.heap.size, 3, none⟩ = some (.int .i64 iA) := by rw [← hwC, cell_new]; rfl
                have y4 : wC.cell? ⟨wB.heap.size, 4, none⟩ = some (.string iT) := by rw [← hwC, cell_new]; rfl
                have y5 : wC.cell? ⟨wB.heap.size, 5, none⟩ = some (.slice iha ihl ihc) := by rw [← hwC, cell_new]; rfl
                have y6 : wC.cell? ⟨wB.heap.size, 6, none⟩ = some (.int .i64 ie) := by rw [← hwC, cell_new]; rfl
                clear hwC
                clear hkB
                go_wp2_with fail
                refine (itemSame_self ⟨iN, iB, iR, iA, iT, iha, ihl, ihc, ie⟩ _ (by obtain ⟨hs, hx, hl'⟩ := hHi; exact ⟨hs, hx.keep hBC.keep, hl'⟩)).mono ?_
                rintro e wD ⟨rfl, hkD⟩
                have hBD := hBC.keeps hkD
                go_wp2_with fail
                go_meet
                exact ⟨rfl, nx + 1, hd, it, by omega, hBD⟩
            have hq0 : (K == 0) = false := by simpa using hK0
            have hq1 : (K == 1) = false := by simpa using hK1
            obtain ⟨q, hq⟩ : ∃ q, (decide ((nx : Int) ≤ N ∧ N < nx + k) && !hd N.toNat) = q := ⟨_, rfl⟩
            have Q1 := room_q hB1.ring N hN q hq
            have Q2 := refRoom_q hB1.ref hB1.nam hk64 (by omega) N hN q hq
            have hqq : (q == q) = true := by cases q <;> rfl
            clear hK0 hK1 hq
            go_wp2_with fail
            go_quiet (first | (go_at_call 21; exact Calls.quiet_of (Q1 _)) | (go_at_call 22; exact Calls.quiet_of (Q2 _)))
            have hB2 := hB1.keeps ((Keeps.refl _ _).drawN nq)
            go_wp2_with fail
            go_meet
            case rel => exact ⟨rfl, nx, hd, it, by omega, hB2⟩
          case rest =>
            clear hB1 hB zz hnb hnw d0 d1 d2 d3 d4 d5 d6 d7 hN hH hnx
            obtain ⟨rfl, nx, hd, it, hi1, hB2⟩ := hcut
            go_wp2_with fail
            refine (spec_held hB2.ring).mono ?_
            rintro e wh ⟨vh, rfl, hown, hRh, hkh⟩
            have hBh := hB2.keeps hkh
            have hli := items_length nx k hd it
            have hsl : SlOf 7 ItemV.cell wh vh (items nx k hd it) := SlOf.ofOwn (by rw [items_cells] at hown; unfold items; rw [List.length_map]; exact hown) (by omega)
            clear hown hRh hkh hB2
            have QT := ticket_q hBh.ring
            have QR := ready_q hBh.ring (hd nx) rfl
            obtain ⟨La, hLa, hLs, _⟩ := hBh.ref.ex
            obtain ⟨la, lc, rfl, hlc, hlcc⟩ := itm_cells hLs
            obtain ⟨ha', hc', rfl, hlc', hlcc'⟩ := itm_cells hsl
            have c2 := hBh.ref.c2
            have hHits : ∀ y ∈ items nx k hd it, HasHits wh y := by
              intro y hy
              obtain ⟨t, ht, rfl⟩ := List.mem_map.1 hy
              obtain ⟨q1, q2, q3⟩ := ticks_mem ht
              obtain ⟨hs, hh, hl'⟩ := hBh.hits t q1 q3
              exact ⟨hs, hh.keep hBh.keep, hl'⟩
            have hhead : (hd nx = true ↔ ∃ y, (items nx k hd it)[0]? = some y ∧ y.N = (nx : Int)) := by
              constructor
              · intro hh
                rw [next_list hk1 hh (hBh.ring.out _ (Nat.le_refl _))]
                exact ⟨_, rfl, hBh.nam nx (Nat.le_refl _) hh⟩
              · rintro ⟨y, hy, hN⟩
                cases hh : hd nx
                · exact absurd hN (head_no hBh.nam hh y hy)
                · rfl
            have HB := Lib.hid hBh
            have HH := Lib.hid hHits
            have HLs := Lib.hid hLs
            have HSl := Lib.hid hsl
            clear hBh hHits hLs hsl
            generalize hd nx = qr at QR hhead
            generalize items nx k hd it = ws at *
            by_cases hz : ws.length = 0
            · have hw0 : ws[0]? = none := List.getElem?_eq_none (by omega)
              have hqr : qr = false := by
                cases hq' : qr
                · rfl
                · obtain ⟨y, hy, _⟩ := hhead.1 hq'
                  rw [hw0] at hy; cases hy
              subst hqr
              have hd0 : decide ((0 : Int) < (ws.length : Int)) = false := by rw [hz]; rfl
              clear hhead hw0
              go_wp2_with fail
              go_quiet (first | (go_at_call 17; exact Calls.quiet_of_same (QT _)) | (go_at_call 15; exact Calls.quiet_of (QR _)))
              go_wp2_with fail
              go_loopw [16] (fun jv wr2 => InnR wh 0 jv wr2) (fun jv _ => 0 - (intOf jv).toNat)
              case atStart => exact ⟨0, rfl, Nat.zero_le _, (Keeps.refl _ _).drawN nq⟩
              case round =>
                obtain ⟨j, rfl, hj, hkj⟩ := hrel
                obtain rfl : j = 0 := by omega
                have hd5 : decide ((0 : Int) < (ws.length : Int)) = false := by rw [hz]; rfl
                go_wp2_with fail
                go_roundw
                case rel => exact ⟨i + 1, nx, hd, it, by go_num, by omega, by omega, HB.out.keeps hkj⟩
                case measure => simp [intOf]; omega
            · obtain ⟨y, hy⟩ : ∃ y, ws[0]? = some y := ⟨_, List.getElem?_eq_getElem (by omega)⟩
              obtain ⟨Lb, Lo, rfl, hLc⟩ := hlcc (by omega)
              have e0 : wh.cell? ⟨Lb, Lo, none⟩ = some (.int .i64 y.N) := by have := hLc 0 y hy 0 (by omega); simpa [ItemV.cell, plc] using this
              have hqr : (y.N == (nx : Int)) = qr := by
                rw [Bool.eq_iff_iff, hhead, beq_iff_eq]
                exact ⟨fun e => ⟨y, hy, e⟩, fun ⟨y', h1, h2⟩ => by rw [hy] at h1; obtain rfl := Option.some.inj h1; exact h2⟩
              have hd0 : decide ((0 : Int) < (ws.length : Int)) = true := by simp; omega
              have hd1 : (0 : Int) < (ws.length : Int) := by omega
              clear hhead hy
              generalize hnl : ws.length = nl at *
              have Hnl := Lib.hid hnl
              clear hnl
              have hd2 : 0 < nl := by omega
              have hd3 : decide (0 < nl) = true := by simpa using hd2
              cases qr
              all_goals go_wp2_with fail
              all_goals go_quiet (first | (go_at_call 17; exact Calls.quiet_of_same (QT _)) | (go_at_call 15; exact Calls.quiet_of (QR _)))
              all_goals
                go_wp2_with fail
                go_loopw [16] (fun jv wr2 => InnR wh nl jv wr2) (fun jv _ => nl - (intOf jv).toNat)
                case atStart => exact ⟨0, rfl, Nat.zero_le _, (Keeps.refl _ _).drawN nq⟩
                case round =>
                  obtain ⟨j, rfl, hj, hkj⟩ := hrel
                  by_cases hjl : j < nl
                  · obtain ⟨y2, hy2⟩ : ∃ y, ws[j]? = some y := ⟨_, List.getElem?_eq_getElem (by rw [Hnl.out]; exact hjl)⟩
                    obtain ⟨Hb, Ho, rfl, hHc⟩ := hlcc' (by omega)
                    have hhy := HH.out y2 (List.mem_of_getElem? hy2)
                    obtain ⟨yN, yB, yR, yA, yT, yha, yhl, yhc, ye⟩ := y2
                    have a0 : wh.cell? ⟨Lb, Lo + j * 7, none⟩ = some (.int .i64 yN) := hLc j _ hy2 0 (by omega)
                    have b0 : wh.cell? ⟨Hb, Ho + j * 7, none⟩ = some (.int .i64 yN) := hHc j _ hy2 0 (by omega)
                    have a1 : wh.cell? ⟨Lb, Lo + j * 7 + 1, none⟩ = some (.int .i64 yB) := hLc j _ hy2 1 (by omega)
                    have b1 : wh.cell? ⟨Hb, Ho + j * 7 + 1, none⟩ = some (.int .i64 yB) := hHc j _ hy2 1 (by omega)
                    have a2 : wh.cell? ⟨Lb, Lo + j * 7 + 2, none⟩ = some (.int .i64 yR) := hLc j _ hy2 2 (by omega)
                    have b2 : wh.cell? ⟨Hb, Ho + j * 7 + 2, none⟩ = some (.int .i64 yR) := hHc j _ hy2 2 (by omega)
                    have a3 : wh.cell? ⟨Lb, Lo + j * 7 + 3, none⟩ = some (.int .i64 yA) := hLc j _ hy2 3 (by omega)
                    have b3 : wh.cell? ⟨Hb, Ho + j * 7 + 3, none⟩ = some (.int .i64 yA) := hHc j _ hy2 3 (by omega)
                    have a4 : wh.cell? ⟨Lb, Lo + j * 7 + 4, none⟩ = some (.string yT) := hLc j _ hy2 4 (by omega)
                    have b4 : wh.cell? ⟨Hb, Ho + j * 7 + 4, none⟩ = some (.string yT) := hHc j _ hy2 4 (by omega)
                    have a5 : wh.cell? ⟨Lb, Lo + j * 7 + 5, none⟩ = some (.slice yha yhl yhc) := hLc j _ hy2 5 (by omega)
                    have b5 : wh.cell? ⟨Hb, Ho + j * 7 + 5, none⟩ = some (.slice yha yhl yhc) := hHc j _ hy2 5 (by omega)
                    have a6 : wh.cell? ⟨Lb, Lo + j * 7 + 6, none⟩ = some (.int .i64 ye) := hLc j _ hy2 6 (by omega)
                    have b6 : wh.cell? ⟨Hb, Ho + j * 7 + 6, none⟩ = some (.int .i64 ye) := hHc j _ hy2 6 (by omega)
                    have KS : ∀ W, Keeps (fun _ => False) wh W → Calls Try.prog 20 #[.agg #[.int .i64 yN, .int .i64 yB, .int .i64 yR, .int .i64 yA, .string yT, .slice yha yhl yhc, .int .i64 ye], .agg #[.int .i64 yN, .int .i64 yB, .int .i64 yR, .int .i64 yA, .string yT, .slice yha yhl yhc, .int .i64 ye]] W fun e w' => e = .returned (.bool true) ∧ Keeps (fun _ => False) wh w' := fun W kW => (itemSame_self ⟨yN, yB, yR, yA, yT, yha, yhl, yhc, ye⟩ W (by obtain ⟨hs, hh, hl'⟩ := hhy; exact ⟨hs, hh.keep kW, hl'⟩)).mono fun e w' ⟨x1, x2⟩ => ⟨x1, kW.trans x2⟩
                    have hkd := hkj.drew
                    have HS : ∀ W, Keeps (fun _ => False) wh W → W.cell? ⟨Lb, Lo + j * 7, none⟩ = some (.int .i64 yN) ∧ W.cell? ⟨Lb, Lo + j * 7 + 1, none⟩ = some (.int .i64 yB) ∧ W.cell? ⟨Lb, Lo + j * 7 + 2, none⟩ = some (.int .i64 yR) ∧ W.cell? ⟨Lb, Lo + j * 7 + 3, none⟩ = some (.int .i64 yA) ∧ W.cell? ⟨Lb, Lo + j * 7 + 4, none⟩ = some (.string yT) ∧ W.cell? ⟨Lb, Lo + j * 7 + 5, none⟩ = some (.slice yha yhl yhc) ∧ W.cell? ⟨Lb, Lo + j * 7 + 6, none⟩ = some (.int .i64 ye) ∧ W.cell? ⟨Hb, Ho + j * 7, none⟩ = some (.int .i64 yN) ∧ W.cell? ⟨Hb, Ho + j * 7 + 1, none⟩ = some (.int .i64 yB) ∧ W.cell? ⟨Hb, Ho + j * 7 + 2, none⟩ = some (.int .i64 yR) ∧ W.cell? ⟨Hb, Ho + j * 7 + 3, none⟩ = some (.int .i64 yA) ∧ W.cell? ⟨Hb, Ho + j * 7 + 4, none⟩ = some (.string yT) ∧ W.cell? ⟨Hb, Ho + j * 7 + 5, none⟩ = some (.slice yha yhl yhc) ∧ W.cell? ⟨Hb, Ho + j * 7 + 6, none⟩ = some (.int .i64 ye) ∧ W.cell? ⟨wb, 0, none⟩ = some (.slice (some ⟨Lb, Lo, none⟩) nl lc) ∧ Keeps (fun _ => False) wh W := fun W KK => ⟨KK.cell a0 id, KK.cell a1 id, KK.cell a2 id, KK.cell a3 id, KK.cell a4 id, KK.cell a5 id, KK.cell a6 id, KK.cell b0 id, KK.cell b1 id, KK.cell b2 id, KK.cell b3 id, KK.cell b4 id, KK.cell b5 id, KK.cell b6 id, KK.cell hLa id, KK⟩
                    have HSd := HS _ hkd
                    clear hy2 hhy
                    go_wp2_with fail
                    go_region_held3 (fun w' => w'.cell? ⟨Lb, Lo + j * 7, none⟩ = some (.int .i64 yN) ∧ w'.cell? ⟨Lb, Lo + j * 7 + 1, none⟩ = some (.int .i64 yB) ∧ w'.cell? ⟨Lb, Lo + j * 7 + 2, none⟩ = some (.int .i64 yR) ∧ w'.cell? ⟨Lb, Lo + j * 7 + 3, none⟩ = some (.int .i64 yA) ∧ w'.cell? ⟨Lb, Lo + j * 7 + 4, none⟩ = some (.string yT) ∧ w'.cell? ⟨Lb, Lo + j * 7 + 5, none⟩ = some (.slice yha yhl yhc) ∧ w'.cell? ⟨Lb, Lo + j * 7 + 6, none⟩ = some (.int .i64 ye) ∧ w'.cell? ⟨Hb, Ho + j * 7, none⟩ = some (.int .i64 yN) ∧ w'.cell? ⟨Hb, Ho + j * 7 + 1, none⟩ = some (.int .i64 yB) ∧ w'.cell? ⟨Hb, Ho + j * 7 + 2, none⟩ = some (.int .i64 yR) ∧ w'.cell? ⟨Hb, Ho + j * 7 + 3, none⟩ = some (.int .i64 yA) ∧ w'.cell? ⟨Hb, Ho + j * 7 + 4, none⟩ = some (.string yT) ∧ w'.cell? ⟨Hb, Ho + j * 7 + 5, none⟩ = some (.slice yha yhl yhc) ∧ w'.cell? ⟨Hb, Ho + j * 7 + 6, none⟩ = some (.int .i64 ye) ∧ w'.cell? ⟨wb, 0, none⟩ = some (.slice (some ⟨Lb, Lo, none⟩) nl lc) ∧ Keeps (fun _ => False) wh w') (first | exact HSd | exact HS _ (by assumption)) (first | (go_at_call 20; refine (KS _ ?_).mono ?_; exact hkd; rintro e w' ⟨rfl, hkn⟩))
                    go_wp2_with fail
                    go_roundw
                    case rel => exact ⟨j + 1, by go_num, by omega, by assumption⟩
                    case measure => simp [intOf]; omega
                  · go_wp2_with fail
                    go_roundw
                    case rel => exact ⟨i + 1, nx, hd, it, by go_num, by omega, by omega, HB.out.keeps hkj⟩
                    case measure => simp [intOf]; omega
        · go_wp2_with fail
          go_ret
          exact ⟨rfl, hB.keep.alloc _⟩
      · go_wp2_with fail
        go_ret
        exact ⟨rfl, hB.keep⟩
end Go.Proofs.Ytibfioekmpnkgaa
