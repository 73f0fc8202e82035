/-
  GaugeDraws: the law's walk. No condition but the listed table.
-/
import Derived.Test.YtcgieejgmcgicaaGreatDoorGdG
import Derived.Test.YtcgieejgmcgicaaGreatDoorEvGa
namespace Go.Proofs.YtcgieejgmcgicaaGreatDoor
open Go.RowKit
set_option linter.unusedVariables false
set_option linter.unusedSimpArgs false
set_option maxRecDepth 100000

theorem idxB {l : List UInt8} {i : Nat} {c : UInt8} (hc : l[i]? = some c) : ∀ (h : i < (⟨l.toArray⟩ : ByteArray).size), (⟨l.toArray⟩ : ByteArray)[i]'h = c := fun h => by
  have := (List.getElem?_eq_some_iff.1 hc).2
  simpa [ByteArray.getElem_eq_getElem_data] using this
def linesL (l : List Int) (K i : Nat) : List (List UInt8) := (List.range i).map fun j => lineN (clAt l j) K
theorem linesL_map (l : List Int) (K i : Nat) : linesN l K i = (linesL l K i).map strL := by simp [linesN, linesL]
theorem linesL_len (l : List Int) (K i : Nat) : (linesL l K i).length = i := by simp [linesL]
theorem linesL_at (l : List Int) (K i j : Nat) (h : j < i) : (linesL l K i)[j]? = some (lineN (clAt l j) K) := by simp [linesL, h]
theorem hash_le (s : List UInt8) (k : Nat) : hashN s k ≤ k := Nat.le_trans List.countP_le_length (by simp [List.length_take]; omega)
set_option maxHeartbeats 8000000 in
theorem draws_law (l : List Int) (v : Value) (w : World) (h : ISl w v l) (hin : ∀ x ∈ l, in64 x) (ht : TabW w) :
    Calls Tryz.prog 8 #[v] w fun e w' => e = .returned (.bool true) ∧ Keeps (fun _ => False) w w' := by
  have HAw := Lib.hid (fun W => awake30 W)
  obtain ⟨a, cap, rfl, hl2, hc⟩ := ISl.cells h
  by_cases h30 : 30 < l.length
  · have g1 : decide (30 < (l.length : Int)) = true := by simp; omega
    clear hc h
    go_enter Tryz.func8, Tryz.ntmps8
    go_wp2_with fail
    refine (HAw.out _).mono ?_
    rintro e w1 ⟨rfl, k1⟩
    go_wp2_with fail
    refine (HAw.out _).mono ?_
    rintro e w2 ⟨rfl, k2⟩
    go_wp2_with fail
    go_ret
    exact ⟨rfl, k1.trans k2⟩
  · have g1 : decide (30 < (l.length : Int)) = false := by simp; omega
    have Hc := Lib.hid hc
    have HI := Lib.hid h
    have HT := Lib.hid ht
    have HX := Lib.hid hin
    clear hc h ht hin
    go_enter Tryz.func8, Tryz.ntmps8
    go_wp2_with fail
    refine (HAw.out _).mono ?_
    rintro e w1 ⟨rfl, k1⟩
    have K1 := Lib.hid k1
    have I1 := Lib.hid (HI.out.keep k1)
    clear k1
    go_wp2_with (at_builtin; refine wpList_copy_int rfl _ _ rfl rfl _ l rfl I1.out (by omega) ?_)
    intro vi w2 hvi k2
    have K2 := Lib.hid (K1.out.trans k2)
    have IV := Lib.hid hvi
    clear k2 hvi
    go_wp2_with fail
    refine (draw_any l vi w2 IV.out (by omega) HX.out (HT.out.keeps K2.out)).mono ?_
    rintro e w3 ⟨u, rfl, hown, k3⟩
    have K3 := Lib.hid (K2.out.trans k3)
    have hs1 := scale_pos l l.length
    have hsc : ∀ i, i < l.length → clAt l i ≤ 40 * scaleN l l.length := fun i hi => scale_enough l hi
    have hfine := drawn_fine l l.length
    generalize hKK : scaleN l l.length = K at *
    have hU : StrsAt w3 u (linesL l K l.length) := StrsAt.ofOwn (by rw [linesL_len, ← linesL_map]; exact hown) (by rw [linesL_len]; omega)
    have HU := Lib.hid hU
    have IV3 := Lib.hid (IV.out.keep k3)
    have I3 := Lib.hid (HI.out.keep K3.out)
    clear hU hown k3
    go_wp2_with fail
    refine (rdraw_any l _ w3 I3.out (by omega) HX.out).mono ?_
    rintro e w4 ⟨u2, rfl, hown, k4⟩
    rw [hKK] at hown
    have hU2 : StrsAt w4 u2 (linesL l K l.length) := StrsAt.ofOwn (by rw [linesL_len, ← linesL_map]; exact hown) (by rw [linesL_len]; omega)
    have K4 := Lib.hid (K3.out.trans k4)
    have HTx := Lib.hid (texts_any (linesL l K l.length) (linesL l K l.length) u u2 w4 (SlOf.keep HU.out k4) hU2 (by rw [linesL_len]; omega))
    rw [decide_eq_true rfl] at HTx
    have HU4 : Hid (StrsAt w4 u (linesL l K l.length)) := Lib.hid (SlOf.keep HU.out k4)
    have IV4 := Lib.hid (IV3.out.keep k4)
    clear hU2 hown k4
    have HF := Lib.hid hfine
    have HS := Lib.hid hsc
    clear hfine hsc hKK
    go_wp2_with fail
    refine HTx.out.mono ?_
    rintro e w5 ⟨rfl, k5⟩
    have K5 := Lib.hid (K4.out.trans k5)
    have IV5 := Lib.hid (IV4.out.keep k5)
    have HU5 : Hid (StrsAt w5 u (linesL l K l.length)) := Lib.hid (SlOf.keep HU4.out k5)
    clear k5
    go_wp2_with fail
    refine (ints_same l _ _ w5 IV5.out (HI.out.keep K5.out)).mono ?_
    rintro e w6 ⟨rfl, k6⟩
    have K6 := Lib.hid (K5.out.trans k6)
    have hU6 : StrsAt w6 u (linesL l K l.length) := SlOf.keep HU5.out k6
    obtain ⟨xa, xc, hxu, _, _, hxc⟩ := hU6
    rw [linesL_len] at hxc hxu
    subst hxu
    have HXC := Lib.hid (fun (h0 : 0 < l.length) => hxc h0)
    have HC6 : Hid (0 < l.length → ∃ b off, a = some ⟨b, off, none⟩ ∧ ∀ i, i < l.length → w6.cell? ⟨b, off + i, none⟩ = some (.int .i64 (l.getD i 0))) := Lib.hid (fun h0 => by
      obtain ⟨b, off, h1, _, h3⟩ := Hc.out h0
      exact ⟨b, off, h1, fun i hi => K6.out.cell (h3 i hi) id⟩)
    clear k6 hxc
    go_wp2_with fail
    go_loopw [5, 6, 7] (fun wv gv i wr => ∃ m : Nat, m ≤ l.length ∧ wv = .int .i64 ((wide l K m : Nat) : Int) ∧ gv = .int .i64 (great l m) ∧ i = .int .i64 m ∧ Keeps (fun _ => False) w6 wr) (fun _ _ i _ => l.length - (intOf i).toNat)
    case atStart => exact ⟨0, Nat.zero_le _, rfl, rfl, rfl, Keeps.refl _ _⟩
    case round =>
      obtain ⟨m, hm, rfl, rfl, rfl, hk⟩ := hrel
      have HK := Lib.hid hk
      by_cases hlt : m < l.length
      · obtain ⟨xb, xo, rfl, hxx⟩ := HXC.out (by omega)
        obtain ⟨b, off, rfl, hll⟩ := HC6.out (by omega)
        have cx := hk.cell (hxx m _ (linesL_at l K l.length m hlt) 0 (by omega)) id
        simp only [Nat.add_zero, Nat.mul_one, encS, strL] at cx
        have cl0 := hk.cell (hll m hlt) id
        have hx : in64 (l.getD m 0) := HX.out _ (by rw [List.getD, List.getElem?_eq_getElem hlt]; exact List.getElem_mem hlt)
        unfold in64 at hx
        have hbl := bar_le hs1 (HS.out m hlt)
        have HBP : Hid (0 < barN (clAt l m) K ↔ 0 < l.getD m 0) := Lib.hid (by rw [bar_pos]; exact cl_pos _)
        have HHL := Lib.hid (hash_line (clAt l m) K)
        have HWm : Hid (wide l K (m + 1) = max (wide l K m) (barN (clAt l m) K)) := Lib.hid rfl
        have HGm : Hid (great l (m + 1) = max (great l m) (l.getD m 0)) := Lib.hid rfl
        have hln : (lineN (clAt l m) K).length ≤ 100 := by
          rw [line_eq]
          exact lineR_len _ _ (decDigits_short _ 19 (by have := clAt_le l m; omega)) (by omega)
        generalize l.getD m 0 = x at *
        generalize lineN (clAt l m) K = L at *
        generalize barN (clAt l m) K = B at *
        generalize wide l K m = Wm at *
        generalize great l m = Gm at *
        clear hxx hll hk
        go_wp2_with fail
        go_loopw [8, 9] (fun nv kv w2 => ∃ k : Nat, k ≤ L.length ∧ nv = .int .i64 ((hashN L k : Nat) : Int) ∧ kv = .int .i64 k ∧ wr = w2) (fun _ kv _ => L.length - (intOf kv).toNat)
        case atStart => exact ⟨0, Nat.zero_le _, rfl, rfl, rfl⟩
        case round =>
          obtain ⟨k, hkl, rfl, rfl, rfl⟩ := hrel
          by_cases hk2 : k < L.length
          · obtain ⟨c, hcc⟩ : ∃ c, L[k]? = some c := ⟨_, List.getElem?_eq_getElem hk2⟩
            have hhs := hash_succ L k c hcc
            have hhl := hash_le L k
            have hx := idxB hcc
            have HH := Lib.hid hhs
            generalize hashN L k = hn at *
            clear hhs hcc
            by_cases h35 : c = 35
            · have g35 : ((c.toNat : Int) == 35) = true := by subst h35; rfl
              have HQ : Hid (hashN L (k + 1) = hn + 1) := Lib.hid (by rw [HH.out, if_pos h35])
              have ww : IntKind.i64.wrap ((hn : Int) + 1) = (hn : Int) + 1 := IntWalk.i64_in _ (by omega)
              clear h35
              go_wp2_with fail
              go_roundw
              case rel => exact ⟨k + 1, by omega, by rw [HQ.out]; simp, by simp, by first | rfl | trivial⟩
              case measure => (simp [intOf] <;> omega)
            · have g35 : ((c.toNat : Int) == 35) = false := by
                rw [beq_eq_false_iff_ne]
                intro e
                exact h35 (UInt8.toNat_inj.1 (by have : (35 : UInt8).toNat = 35 := rfl; omega))
              have HQ : Hid (hashN L (k + 1) = hn) := Lib.hid (by rw [HH.out, if_neg h35]; rfl)
              clear h35
              go_wp2_with fail
              go_roundw
              case rel => exact ⟨k + 1, by omega, by rw [HQ.out], by simp, by first | rfl | trivial⟩
              case measure => (simp [intOf] <;> omega)
          · obtain rfl : k = L.length := by omega
            rw [HHL.out]
            have d1 : decide (40 < (B : Int)) = false := by simp; omega
            by_cases hx0 : 0 < x
            · have hb0 := HBP.out.2 hx0
              have d2 : decide (0 < (B : Int)) = true := by simp; omega
              have d2' : decide (0 < B) = true := by simp; omega
              have d3 : decide (0 < x) = true := by simp; omega
              have q1 : (0 < (B : Int)) = True := by simp; omega
              by_cases hm1 : (Wm : Int) < (B : Int)
              all_goals by_cases hm2 : Gm < x
              all_goals
                go_wp2_with fail
                go_region
                go_wp2_with fail
                go_roundw
                case rel => exact ⟨m + 1, by omega, by rw [HWm.out]; (congr 1 <;> omega), by rw [HGm.out], by simp, HK.out.drew⟩
                case measure => (simp [intOf] <;> omega)
            · have hb0 : ¬ 0 < B := fun h => hx0 (HBP.out.1 h)
              have d2 : decide (0 < (B : Int)) = false := by simp; omega
              have d2' : decide (0 < B) = false := by simp; omega
              have d3 : decide (0 < x) = false := by simp; omega
              by_cases hm1 : (Wm : Int) < (B : Int)
              all_goals by_cases hm2 : Gm < x
              all_goals
                go_wp2_with fail
                go_region
                go_wp2_with fail
                go_roundw
                case rel => exact ⟨m + 1, by omega, by rw [HWm.out]; (congr 1 <;> omega), by rw [HGm.out], by simp, HK.out.drew⟩
                case measure => (simp [intOf] <;> omega)
      · have : m = l.length := by omega
        subst this
        have hg0 := great_nn l l.length
        rcases HF.out with ⟨h1, h2⟩ | ⟨h1, h2⟩
        · have h2' : ((wide l K l.length : Nat) : Int) = great l l.length := by omega
          generalize wide l K l.length = W at *
          generalize great l l.length = G at *
          subst h2'
          clear h2 hg0 HF
          go_wp2_with fail
          all_goals
            go_ret
            exact ⟨by first | rfl | (congr 1; simp; omega), K6.out.trans HK.out⟩
        · generalize wide l K l.length = W at *
          generalize great l l.length = G at *
          go_wp2_with fail
          all_goals
            go_ret
            exact ⟨by first | rfl | (congr 1; simp; omega), K6.out.trans HK.out⟩
end Go.Proofs.YtcgieejgmcgicaaGreatDoor
