/-
  The parser's counted.
-/
import Derived.Test.YtpcbfmbpbegjgaaGreatMg14
namespace Go.Proofs.YtpcbfmbpbegjgaaGreat
open Go.RowKit
set_option linter.unusedVariables false
set_option linter.unusedSimpArgs false
set_option maxRecDepth 100000

theorem cntV_rng (rs : List Int) (s : PS) (h : ∀ r ∈ rs, 0 ≤ r ∧ r ≤ 1114111) : in64 (cntV rs s).1 ∧ in64 (cntV rs s).2.1 := by
  have hn : ∀ s', in64 (numN rs s') := fun s' => by have := numN_le rs s' h; unfold in64; omega
  have h0 : in64 (-1) := by unfold in64; decide
  have h1 : in64 1 := by unfold in64; decide
  unfold cntV
  repeat' split
  · exact ⟨zero64, h1⟩
  · exact ⟨h1, h0⟩
  · exact ⟨zero64, h0⟩
  · refine ⟨hn _, ?_⟩
    unfold brB
    repeat' split
    · exact h0
    · exact hn _
    · exact hn _
  · exact ⟨zero64, zero64⟩

set_option maxHeartbeats 8000000 in
theorem counted_any {f : PS → T × PS} {rs : List Int} {C D : PS → Prop} (H : StepH f rs C D) (w : World) (pb : Nat) (rv : Value) (s : PS) (h : PaAt w pb rv rs s) (hi : Inv rs s) (hd : D s) (hr : 0 ≤ pk rs s) :
    Calls Tryz.prog 86 #[.pointer (some ⟨pb, 0, none⟩)] w (TreeRet w pb rv rs (countedP f rs s)) := by
  have hpb := h.lt
  have hlen := H.len
  have hag := atomP_go H.go hr
  have hpos := hag.2.2.a
  have HP := Lib.hid (fun (W : World) (hW : PaAt W pb rv rs s) => peek_any W pb rv rs s hW)
  have HA := Lib.hid (fun (W : World) (hW : PaAt W pb rv rs s) => (atom_any H W pb rv s hW hi hd hr : Calls Tryz.prog 100 #[.pointer (some ⟨pb, 0, none⟩)] W (TreeRet W pb rv rs (atomP f rs s))))
  have hrg := pk_le h
  obtain ⟨s1, hs1⟩ : ∃ x, (atomP f rs s).2 = x := ⟨_, rfl⟩
  obtain ⟨t1, ht1⟩ : ∃ x, (atomP f rs s).1 = x := ⟨_, rfl⟩
  rw [hs1] at hpos
  have HH := Lib.hid h
  have HC := Lib.hid (fun (W : World) (hW : PaAt W pb rv rs s1) => pcount_any W pb rv rs s1 hW (by omega))
  have hcv := cntV_rng rs s1 h.rng
  obtain ⟨cmn, cmx, cok, hcV⟩ : ∃ a b c, cntV rs s1 = (a, b, c) := ⟨_, _, _, rfl⟩
  rw [hcV] at hcv HC
  have Hcv := Lib.hid hcv
  have E : Hid (countedP f rs s = if cok then (⟨6, [], cmn, cmx, F.ofL [t1]⟩, ⟨(cntS rs s1).pos, (cntS rs s1).deep, (cntS rs s1).bad || (decide (pk rs s = 94) || decide (pk rs s = 36))⟩) else (t1, cntS rs s1)) := Lib.hid (by
    unfold countedP; rw [hs1, ht1, hcV])
  unfold AtomR at HA
  rw [show atomP f rs s = (t1, s1) by rw [← hs1, ← ht1]] at HA
  rw [E.out]
  clear E
  obtain ⟨S2, hS2⟩ : ∃ x, cntS rs s1 = x := ⟨_, rfl⟩
  rw [hS2] at HC ⊢
  clear hS2 hs1 ht1 hcV h hi hd hag hcv
  generalize pk rs s = r at *
  simp only at HC
  have hcases : cok = false ∨ (cok = true ∧ S2.bad = true) ∨ (cok = true ∧ S2.bad = false ∧ r = 94) ∨ (cok = true ∧ S2.bad = false ∧ r ≠ 94 ∧ r = 36) ∨ (cok = true ∧ S2.bad = false ∧ r ≠ 94 ∧ r ≠ 36) := by
    cases cok <;> cases S2.bad <;> simp <;> omega
  rcases hcases with rfl | ⟨rfl, hb⟩ | ⟨rfl, hb, hr94⟩ | ⟨rfl, hb, hr94, hr36⟩ | ⟨rfl, hb, hr94, hr36⟩
  · simp only [Bool.false_eq_true, if_false]
    go_enter Tryz.func86, Tryz.ntmps86
    go_wp2_with fail
    refine (HP.out _ (HH.out.keepsF (by (repeat' (with_reducible first | exact Keeps.refl _ _ | assumption | refine Keeps.drawN ?_ _ | refine Keeps.drew ?_ | refine Keeps.setCell ?_ ?_ _ | refine Keeps.alloc ?_ _)) <;> (first | exact Or.inr (Nat.le_refl _) | exact Or.inl rfl | exact Or.inl (Or.inl rfl) | exact Or.inl (Or.inr rfl) | (right; simp; done) | (right; simp; omega))))).mono ?_
    rintro e w2 ⟨rfl, k2⟩
    have hs2 := k2.size
    simp at hs2
    have K2 := Lib.hid k2
    have P2 := Lib.hid (HH.out.keepsF (Keeps.trans (by (repeat' (with_reducible first | exact Keeps.refl _ _ | assumption | refine Keeps.drawN ?_ _ | refine Keeps.drew ?_ | refine Keeps.setCell ?_ ?_ _ | refine Keeps.alloc ?_ _)) <;> (first | exact Or.inr (Nat.le_refl _) | exact Or.inl rfl | exact Or.inl (Or.inl rfl) | exact Or.inl (Or.inr rfl) | (right; simp; done) | (right; simp; omega))) k2))
    clear k2
    go_wp2_with fail
    refine (HA.out _ P2.out).mono ?_
    rintro e w3 ⟨v, rfl, hv, h3, k3⟩
    obtain ⟨o, a1, n1, c1, m, x, a2, n2, cc2, rfl⟩ := NV.form hv
    have HV := Lib.hid hv
    have P3 := Lib.hid h3
    have hs3 := k3.size
    have K3 : Hid (Keeps (OnlyP pb) (w.alloc (.cells #[.int .i64 0, .slice none 0 0, .int .i64 0, .int .i64 0, .slice none 0 0] 27)) w3) := Lib.hid ((K2.out.mono (fun _ _ e => e.elim)).trans k3)
    have hp3 := h3.lt
    clear hv h3 k3
    unfold NV.val
    go_wp2_with fail
    refine (HC.out _ (P3.out.keepsF (by (repeat' (with_reducible first | exact Keeps.refl _ _ | assumption | refine Keeps.drawN ?_ _ | refine Keeps.drew ?_ | refine Keeps.setCell ?_ ?_ _ | refine Keeps.alloc ?_ _)) <;> (first | exact Or.inr (Nat.le_refl _) | exact Or.inl rfl | exact Or.inl (Or.inl rfl) | exact Or.inl (Or.inr rfl) | (right; simp; done) | (right; simp; omega))))).mono ?_
    rintro e w4 ⟨rfl, h4, k4⟩
    have hs4 := k4.size
    simp at hs4
    have x0 : w4.cell? ⟨w3.heap.size, 0, none⟩ = some (.int .i64 o) := k4.cell (by simp [go_sem]) (by show ¬ w3.heap.size = pb; omega)
    have x1 : w4.cell? ⟨w3.heap.size, 1, none⟩ = some (.slice a1 n1 c1) := k4.cell (by simp [go_sem]) (by show ¬ w3.heap.size = pb; omega)
    have x2 : w4.cell? ⟨w3.heap.size, 2, none⟩ = some (.int .i64 m) := k4.cell (by simp [go_sem]) (by show ¬ w3.heap.size = pb; omega)
    have x3 : w4.cell? ⟨w3.heap.size, 3, none⟩ = some (.int .i64 x) := k4.cell (by simp [go_sem]) (by show ¬ w3.heap.size = pb; omega)
    have x4 : w4.cell? ⟨w3.heap.size, 4, none⟩ = some (.slice a2 n2 cc2) := k4.cell (by simp [go_sem]) (by show ¬ w3.heap.size = pb; omega)
    have K34 : Keeps (OnlyP pb) w3 w4 := Keeps.trans (by (repeat' (with_reducible first | exact Keeps.refl _ _ | assumption | refine Keeps.drawN ?_ _ | refine Keeps.drew ?_ | refine Keeps.setCell ?_ ?_ _ | refine Keeps.alloc ?_ _)) <;> (first | exact Or.inr (Nat.le_refl _) | exact Or.inl rfl | exact Or.inl (Or.inl rfl) | exact Or.inl (Or.inr rfl) | (right; simp; done) | (right; simp; omega))) k4
    have HV4 : Hid (TAt w4 (fun b => w.heap.size < b ∧ b < w3.heap.size) ⟨o, .slice a1 n1 c1, m, x, .slice a2 n2 cc2⟩ t1) := Lib.hid (HV.out.keepsTo K34 (fun b hb e => by have e : b = pb := e; have := hb.1; omega) (fun b hb => ⟨by have := hb.1; omega, hb.2⟩))
    have K4 := Lib.hid (K3.out.trans K34)
    have hc3 := h4.c3
    have hf3 := h4.fr 3
    have hp4 := h4.lt
    have P4 := Lib.hid h4
    clear h4 k4 K34
    obtain ⟨⟨y0, y1, y2, y3, y4⟩, q0, q1, q2, q3, q4⟩ := res_facts K4.out hpb
    go_wp2_with fail
    obtain ⟨wE, hWE⟩ : ∃ W, st5 (w4) w.heap.size (.int .i64 o) (.slice a1 n1 c1) (.int .i64 m) (.int .i64 x) (.slice a2 n2 cc2) = W := ⟨_, rfl⟩
    obtain ⟨r0, r1, r2, r3, r4, kE⟩ := st5_facts (w4) w.heap.size y0 y1 y2 y3 y4 (.int .i64 o) (.slice a1 n1 c1) (.int .i64 m) (.int .i64 x) (.slice a2 n2 cc2)
    rw [hWE] at r0 r1 r2 r3 r4 kE
    unfold st5 at hWE
    rw [hWE]
    have HKE := Lib.hid kE
    clear kE hWE y0 y1 y2 y3 y4
    refine bodyPost_ret (by simp [results, Tryz.results86, go_sem, r0, r1, r2, r3, r4]; try rfl) rfl ?_
    exact tree_close (v := ⟨o, .slice a1 n1 c1, m, x, .slice a2 n2 cc2⟩) hpb HH.out.rb K4.out P4.out (HV4.out.keepsTo (Keeps.refl (fun _ => False) _) (fun _ _ => id) (fun b hb => ⟨hb.1, by omega⟩)) HKE.out
  · rw [if_pos rfl, hb, show (true || (decide (r = 94) || decide (r = 36))) = true from rfl]
    go_enter Tryz.func86, Tryz.ntmps86
    go_wp2_with fail
    refine (HP.out _ (HH.out.keepsF (by (repeat' (with_reducible first | exact Keeps.refl _ _ | assumption | refine Keeps.drawN ?_ _ | refine Keeps.drew ?_ | refine Keeps.setCell ?_ ?_ _ | refine Keeps.alloc ?_ _)) <;> (first | exact Or.inr (Nat.le_refl _) | exact Or.inl rfl | exact Or.inl (Or.inl rfl) | exact Or.inl (Or.inr rfl) | (right; simp; done) | (right; simp; omega))))).mono ?_
    rintro e w2 ⟨rfl, k2⟩
    have hs2 := k2.size
    simp at hs2
    have K2 := Lib.hid k2
    have P2 := Lib.hid (HH.out.keepsF (Keeps.trans (by (repeat' (with_reducible first | exact Keeps.refl _ _ | assumption | refine Keeps.drawN ?_ _ | refine Keeps.drew ?_ | refine Keeps.setCell ?_ ?_ _ | refine Keeps.alloc ?_ _)) <;> (first | exact Or.inr (Nat.le_refl _) | exact Or.inl rfl | exact Or.inl (Or.inl rfl) | exact Or.inl (Or.inr rfl) | (right; simp; done) | (right; simp; omega))) k2))
    clear k2
    go_wp2_with fail
    refine (HA.out _ P2.out).mono ?_
    rintro e w3 ⟨v, rfl, hv, h3, k3⟩
    obtain ⟨o, a1, n1, c1, m, x, a2, n2, cc2, rfl⟩ := NV.form hv
    have HV := Lib.hid hv
    have P3 := Lib.hid h3
    have hs3 := k3.size
    have K3 : Hid (Keeps (OnlyP pb) (w.alloc (.cells #[.int .i64 0, .slice none 0 0, .int .i64 0, .int .i64 0, .slice none 0 0] 27)) w3) := Lib.hid ((K2.out.mono (fun _ _ e => e.elim)).trans k3)
    have hp3 := h3.lt
    clear hv h3 k3
    unfold NV.val
    go_wp2_with fail
    refine (HC.out _ (P3.out.keepsF (by (repeat' (with_reducible first | exact Keeps.refl _ _ | assumption | refine Keeps.drawN ?_ _ | refine Keeps.drew ?_ | refine Keeps.setCell ?_ ?_ _ | refine Keeps.alloc ?_ _)) <;> (first | exact Or.inr (Nat.le_refl _) | exact Or.inl rfl | exact Or.inl (Or.inl rfl) | exact Or.inl (Or.inr rfl) | (right; simp; done) | (right; simp; omega))))).mono ?_
    rintro e w4 ⟨rfl, h4, k4⟩
    have hs4 := k4.size
    simp at hs4
    have x0 : w4.cell? ⟨w3.heap.size, 0, none⟩ = some (.int .i64 o) := k4.cell (by simp [go_sem]) (by show ¬ w3.heap.size = pb; omega)
    have x1 : w4.cell? ⟨w3.heap.size, 1, none⟩ = some (.slice a1 n1 c1) := k4.cell (by simp [go_sem]) (by show ¬ w3.heap.size = pb; omega)
    have x2 : w4.cell? ⟨w3.heap.size, 2, none⟩ = some (.int .i64 m) := k4.cell (by simp [go_sem]) (by show ¬ w3.heap.size = pb; omega)
    have x3 : w4.cell? ⟨w3.heap.size, 3, none⟩ = some (.int .i64 x) := k4.cell (by simp [go_sem]) (by show ¬ w3.heap.size = pb; omega)
    have x4 : w4.cell? ⟨w3.heap.size, 4, none⟩ = some (.slice a2 n2 cc2) := k4.cell (by simp [go_sem]) (by show ¬ w3.heap.size = pb; omega)
    have K34 : Keeps (OnlyP pb) w3 w4 := Keeps.trans (by (repeat' (with_reducible first | exact Keeps.refl _ _ | assumption | refine Keeps.drawN ?_ _ | refine Keeps.drew ?_ | refine Keeps.setCell ?_ ?_ _ | refine Keeps.alloc ?_ _)) <;> (first | exact Or.inr (Nat.le_refl _) | exact Or.inl rfl | exact Or.inl (Or.inl rfl) | exact Or.inl (Or.inr rfl) | (right; simp; done) | (right; simp; omega))) k4
    have HV4 : Hid (TAt w4 (fun b => w.heap.size < b ∧ b < w3.heap.size) ⟨o, .slice a1 n1 c1, m, x, .slice a2 n2 cc2⟩ t1) := Lib.hid (HV.out.keepsTo K34 (fun b hb e => by have e : b = pb := e; have := hb.1; omega) (fun b hb => ⟨by have := hb.1; omega, hb.2⟩))
    have K4 := Lib.hid (K3.out.trans K34)
    have hc3 := h4.c3
    have hf3 := h4.fr 3
    have hp4 := h4.lt
    have P4 := Lib.hid h4
    clear h4 k4 K34
    rw [hb] at hc3
    obtain ⟨wP, hwP⟩ : ∃ W, w4.setCell ⟨pb, 3, none⟩ (.bool true) = W := ⟨_, rfl⟩
    have P5 : Hid (PaAt wP pb rv rs ⟨S2.pos, S2.deep, true⟩) := Lib.hid (hwP ▸ P4.out.setBad true)
    have k5 : Keeps (OnlyP pb) w4 wP := hwP ▸ (Keeps.refl (OnlyP pb) _).set (p := ⟨pb, 3, none⟩) rfl _
    have hs5 := k5.size
    have hszP : w4.heap.size = wP.heap.size := by rw [← hwP]; simp
    have K5 := Lib.hid (K4.out.trans k5)
    obtain ⟨wS, hwS⟩ : ∃ W, wP.alloc (.cells #[.int .i64 o, .slice a1 n1 c1, .int .i64 m, .int .i64 x, .slice a2 n2 cc2] 27) = W := ⟨_, rfl⟩
    have k6 : Keeps (fun _ => False) wP wS := hwS ▸ (Keeps.refl _ _).alloc _
    have hs6 : wS.heap.size = wP.heap.size + 1 := by rw [← hwS]; simp
    have KX := Lib.hid (K5.out.trans (k6.mono (T := OnlyP pb) (fun _ _ e => e.elim)))
    have HPX := Lib.hid (P5.out.keepsF k6)
    have hT1 : TAt wS (fun b => w.heap.size < b ∧ b < wP.heap.size) ⟨o, .slice a1 n1 c1, m, x, .slice a2 n2 cc2⟩ t1 := HV4.out.keepsTo (k5.trans (k6.mono (fun _ _ e => e.elim))) (fun b hb e => by have e : b = pb := e; have := hb.1; omega) (fun b hb => ⟨hb.1, by have := hb.2; omega⟩)
    have hcell : ∀ j, j < 5 → wS.cell? ⟨w4.heap.size, 0 + 0 * 5 + j, none⟩ = some (encN ⟨o, .slice a1 n1 c1, m, x, .slice a2 n2 cc2⟩ j) := by
      intro j hj
      rw [hszP, ← hwS]
      match j, hj with
      | 0, _ => simp [go_sem, encN]
      | 1, _ => simp [go_sem, encN]
      | 2, _ => simp [go_sem, encN]
      | 3, _ => simp [go_sem, encN]
      | 4, _ => simp [go_sem, encN]
    have HTX : Hid (TAt wS (fun b => w.heap.size < b ∧ b < wS.heap.size) ⟨6, .slice none 0 0, cmn, cmx, .slice (some ⟨w4.heap.size, 0, none⟩) 1 1⟩ ⟨6, [], cmn, cmx, F.ofL [t1]⟩) := Lib.hid ⟨rfl, rfl, rfl, Hcv.out.1, Hcv.out.2, ⟨SlOf.nil _ _ _, fun p hp => by cases hp⟩, fun b hb => by simp [Value.ownBlock] at hb,
      ⟨[⟨o, .slice a1 n1 c1, m, x, .slice a2 n2 cc2⟩], ⟨_, 1, rfl, ⟨by simp, (fun h => by cases h)⟩, by simp, fun _ => ⟨_, 0, rfl, fun i y hy j hj => by
        cases i with
        | zero => simp at hy; subst hy; exact hcell j hj
        | succ i => simp at hy⟩⟩,
      FAt.cons_iff.2 ⟨_, [], rfl, hT1.keepsTo (Keeps.refl (fun _ => False) _) (fun _ _ => id) (fun b hb => ⟨hb.1, by have := hb.2; omega⟩), rfl⟩⟩,
      fun b hb => by simp [Value.ownBlock] at hb; subst hb; omega⟩
    obtain ⟨⟨y0, y1, y2, y3, y4⟩, q0, q1, q2, q3, q4⟩ := res_facts KX.out hpb
    have HWP := Lib.hid hwP
    have HWS := Lib.hid hwS
    rw [← hwS, ← hwP] at y0 y1 y2 y3 y4 q0 q1 q2 q3 q4
    have hne1 : ¬ (pb = w.heap.size) := by omega
    have hne2 : ¬ (w.heap.size = pb) := by omega
    clear k5 k6 hT1 hcell hwP hwS hszP hs5 hs6
    go_wp2_with fail
    rw [HWP.out, HWS.out]
    clear y0 y1 y2 y3 y4 q0 q1 q2 q3 q4
    obtain ⟨⟨y0, y1, y2, y3, y4⟩, q0, q1, q2, q3, q4⟩ := res_facts KX.out hpb
    obtain ⟨wE, hWE⟩ : ∃ W, st5 (wS) w.heap.size (.int .i64 6) (.slice none 0 0) (.int .i64 cmn) (.int .i64 cmx) (.slice (some ⟨w4.heap.size, 0, none⟩) 1 1) = W := ⟨_, rfl⟩
    obtain ⟨r0, r1, r2, r3, r4, kE⟩ := st5_facts (wS) w.heap.size y0 y1 y2 y3 y4 (.int .i64 6) (.slice none 0 0) (.int .i64 cmn) (.int .i64 cmx) (.slice (some ⟨w4.heap.size, 0, none⟩) 1 1)
    rw [hWE] at r0 r1 r2 r3 r4 kE
    unfold st5 at hWE
    rw [hWE]
    have HKE := Lib.hid kE
    clear kE hWE y0 y1 y2 y3 y4
    refine bodyPost_ret (by simp [results, Tryz.results86, go_sem, r0, r1, r2, r3, r4]; try rfl) rfl ?_
    exact tree_close (v := ⟨6, .slice none 0 0, cmn, cmx, .slice (some ⟨w4.heap.size, 0, none⟩) 1 1⟩) hpb HH.out.rb KX.out HPX.out HTX.out HKE.out
  · subst hr94
    rw [if_pos rfl, hb, show (false || (decide ((94 : Int) = 94) || decide ((94 : Int) = 36))) = true from rfl]
    go_enter Tryz.func86, Tryz.ntmps86
    go_wp2_with fail
    refine (HP.out _ (HH.out.keepsF (by (repeat' (with_reducible first | exact Keeps.refl _ _ | assumption | refine Keeps.drawN ?_ _ | refine Keeps.drew ?_ | refine Keeps.setCell ?_ ?_ _ | refine Keeps.alloc ?_ _)) <;> (first | exact Or.inr (Nat.le_refl _) | exact Or.inl rfl | exact Or.inl (Or.inl rfl) | exact Or.inl (Or.inr rfl) | (right; simp; done) | (right; simp; omega))))).mono ?_
    rintro e w2 ⟨rfl, k2⟩
    have hs2 := k2.size
    simp at hs2
    have K2 := Lib.hid k2
    have P2 := Lib.hid (HH.out.keepsF (Keeps.trans (by (repeat' (with_reducible first | exact Keeps.refl _ _ | assumption | refine Keeps.drawN ?_ _ | refine Keeps.drew ?_ | refine Keeps.setCell ?_ ?_ _ | refine Keeps.alloc ?_ _)) <;> (first | exact Or.inr (Nat.le_refl _) | exact Or.inl rfl | exact Or.inl (Or.inl rfl) | exact Or.inl (Or.inr rfl) | (right; simp; done) | (right; simp; omega))) k2))
    clear k2
    go_wp2_with fail
    refine (HA.out _ P2.out).mono ?_
    rintro e w3 ⟨v, rfl, hv, h3, k3⟩
    obtain ⟨o, a1, n1, c1, m, x, a2, n2, cc2, rfl⟩ := NV.form hv
    have HV := Lib.hid hv
    have P3 := Lib.hid h3
    have hs3 := k3.size
    have K3 : Hid (Keeps (OnlyP pb) (w.alloc (.cells #[.int .i64 0, .slice none 0 0, .int .i64 0, .int .i64 0, .slice none 0 0] 27)) w3) := Lib.hid ((K2.out.mono (fun _ _ e => e.elim)).trans k3)
    have hp3 := h3.lt
    clear hv h3 k3
    unfold NV.val
    go_wp2_with fail
    refine (HC.out _ (P3.out.keepsF (by (repeat' (with_reducible first | exact Keeps.refl _ _ | assumption | refine Keeps.drawN ?_ _ | refine Keeps.drew ?_ | refine Keeps.setCell ?_ ?_ _ | refine Keeps.alloc ?_ _)) <;> (first | exact Or.inr (Nat.le_refl _) | exact Or.inl rfl | exact Or.inl (Or.inl rfl) | exact Or.inl (Or.inr rfl) | (right; simp; done) | (right; simp; omega))))).mono ?_
    rintro e w4 ⟨rfl, h4, k4⟩
    have hs4 := k4.size
    simp at hs4
    have x0 : w4.cell? ⟨w3.heap.size, 0, none⟩ = some (.int .i64 o) := k4.cell (by simp [go_sem]) (by show ¬ w3.heap.size = pb; omega)
    have x1 : w4.cell? ⟨w3.heap.size, 1, none⟩ = some (.slice a1 n1 c1) := k4.cell (by simp [go_sem]) (by show ¬ w3.heap.size = pb; omega)
    have x2 : w4.cell? ⟨w3.heap.size, 2, none⟩ = some (.int .i64 m) := k4.cell (by simp [go_sem]) (by show ¬ w3.heap.size = pb; omega)
    have x3 : w4.cell? ⟨w3.heap.size, 3, none⟩ = some (.int .i64 x) := k4.cell (by simp [go_sem]) (by show ¬ w3.heap.size = pb; omega)
    have x4 : w4.cell? ⟨w3.heap.size, 4, none⟩ = some (.slice a2 n2 cc2) := k4.cell (by simp [go_sem]) (by show ¬ w3.heap.size = pb; omega)
    have K34 : Keeps (OnlyP pb) w3 w4 := Keeps.trans (by (repeat' (with_reducible first | exact Keeps.refl _ _ | assumption | refine Keeps.drawN ?_ _ | refine Keeps.drew ?_ | refine Keeps.setCell ?_ ?_ _ | refine Keeps.alloc ?_ _)) <;> (first | exact Or.inr (Nat.le_refl _) | exact Or.inl rfl | exact Or.inl (Or.inl rfl) | exact Or.inl (Or.inr rfl) | (right; simp; done) | (right; simp; omega))) k4
    have HV4 : Hid (TAt w4 (fun b => w.heap.size < b ∧ b < w3.heap.size) ⟨o, .slice a1 n1 c1, m, x, .slice a2 n2 cc2⟩ t1) := Lib.hid (HV.out.keepsTo K34 (fun b hb e => by have e : b = pb := e; have := hb.1; omega) (fun b hb => ⟨by have := hb.1; omega, hb.2⟩))
    have K4 := Lib.hid (K3.out.trans K34)
    have hc3 := h4.c3
    have hf3 := h4.fr 3
    have hp4 := h4.lt
    have P4 := Lib.hid h4
    clear h4 k4 K34
    rw [hb] at hc3
    obtain ⟨wP, hwP⟩ : ∃ W, w4.setCell ⟨pb, 3, none⟩ (.bool true) = W := ⟨_, rfl⟩
    have P5 : Hid (PaAt wP pb rv rs ⟨S2.pos, S2.deep, true⟩) := Lib.hid (hwP ▸ P4.out.setBad true)
    have k5 : Keeps (OnlyP pb) w4 wP := hwP ▸ (Keeps.refl (OnlyP pb) _).set (p := ⟨pb, 3, none⟩) rfl _
    have hs5 := k5.size
    have hszP : w4.heap.size = wP.heap.size := by rw [← hwP]; simp
    have K5 := Lib.hid (K4.out.trans k5)
    obtain ⟨wS, hwS⟩ : ∃ W, wP.alloc (.cells #[.int .i64 o, .slice a1 n1 c1, .int .i64 m, .int .i64 x, .slice a2 n2 cc2] 27) = W := ⟨_, rfl⟩
    have k6 : Keeps (fun _ => False) wP wS := hwS ▸ (Keeps.refl _ _).alloc _
    have hs6 : wS.heap.size = wP.heap.size + 1 := by rw [← hwS]; simp
    have KX := Lib.hid (K5.out.trans (k6.mono (T := OnlyP pb) (fun _ _ e => e.elim)))
    have HPX := Lib.hid (P5.out.keepsF k6)
    have hT1 : TAt wS (fun b => w.heap.size < b ∧ b < wP.heap.size) ⟨o, .slice a1 n1 c1, m, x, .slice a2 n2 cc2⟩ t1 := HV4.out.keepsTo (k5.trans (k6.mono (fun _ _ e => e.elim))) (fun b hb e => by have e : b = pb := e; have := hb.1; omega) (fun b hb => ⟨hb.1, by have := hb.2; omega⟩)
    have hcell : ∀ j, j < 5 → wS.cell? ⟨w4.heap.size, 0 + 0 * 5 + j, none⟩ = some (encN ⟨o, .slice a1 n1 c1, m, x, .slice a2 n2 cc2⟩ j) := by
      intro j hj
      rw [hszP, ← hwS]
      match j, hj with
      | 0, _ => simp [go_sem, encN]
      | 1, _ => simp [go_sem, encN]
      | 2, _ => simp [go_sem, encN]
      | 3, _ => simp [go_sem, encN]
      | 4, _ => simp [go_sem, encN]
    have HTX : Hid (TAt wS (fun b => w.heap.size < b ∧ b < wS.heap.size) ⟨6, .slice none 0 0, cmn, cmx, .slice (some ⟨w4.heap.size, 0, none⟩) 1 1⟩ ⟨6, [], cmn, cmx, F.ofL [t1]⟩) := Lib.hid ⟨rfl, rfl, rfl, Hcv.out.1, Hcv.out.2, ⟨SlOf.nil _ _ _, fun p hp => by cases hp⟩, fun b hb => by simp [Value.ownBlock] at hb,
      ⟨[⟨o, .slice a1 n1 c1, m, x, .slice a2 n2 cc2⟩], ⟨_, 1, rfl, ⟨by simp, (fun h => by cases h)⟩, by simp, fun _ => ⟨_, 0, rfl, fun i y hy j hj => by
        cases i with
        | zero => simp at hy; subst hy; exact hcell j hj
        | succ i => simp at hy⟩⟩,
      FAt.cons_iff.2 ⟨_, [], rfl, hT1.keepsTo (Keeps.refl (fun _ => False) _) (fun _ _ => id) (fun b hb => ⟨hb.1, by have := hb.2; omega⟩), rfl⟩⟩,
      fun b hb => by simp [Value.ownBlock] at hb; subst hb; omega⟩
    obtain ⟨⟨y0, y1, y2, y3, y4⟩, q0, q1, q2, q3, q4⟩ := res_facts KX.out hpb
    have HWP := Lib.hid hwP
    have HWS := Lib.hid hwS
    rw [← hwS, ← hwP] at y0 y1 y2 y3 y4 q0 q1 q2 q3 q4
    have hne1 : ¬ (pb = w.heap.size) := by omega
    have hne2 : ¬ (w.heap.size = pb) := by omega
    clear k5 k6 hT1 hcell hwP hwS hszP hs5 hs6
    go_wp2_with fail
    rw [HWP.out, HWS.out]
    clear y0 y1 y2 y3 y4 q0 q1 q2 q3 q4
    obtain ⟨⟨y0, y1, y2, y3, y4⟩, q0, q1, q2, q3, q4⟩ := res_facts KX.out hpb
    obtain ⟨wE, hWE⟩ : ∃ W, st5 (wS) w.heap.size (.int .i64 6) (.slice none 0 0) (.int .i64 cmn) (.int .i64 cmx) (.slice (some ⟨w4.heap.size, 0, none⟩) 1 1) = W := ⟨_, rfl⟩
    obtain ⟨r0, r1, r2, r3, r4, kE⟩ := st5_facts (wS) w.heap.size y0 y1 y2 y3 y4 (.int .i64 6) (.slice none 0 0) (.int .i64 cmn) (.int .i64 cmx) (.slice (some ⟨w4.heap.size, 0, none⟩) 1 1)
    rw [hWE] at r0 r1 r2 r3 r4 kE
    unfold st5 at hWE
    rw [hWE]
    have HKE := Lib.hid kE
    clear kE hWE y0 y1 y2 y3 y4
    refine bodyPost_ret (by simp [results, Tryz.results86, go_sem, r0, r1, r2, r3, r4]; try rfl) rfl ?_
    exact tree_close (v := ⟨6, .slice none 0 0, cmn, cmx, .slice (some ⟨w4.heap.size, 0, none⟩) 1 1⟩) hpb HH.out.rb KX.out HPX.out HTX.out HKE.out
  · subst hr36
    rw [if_pos rfl, hb, show (false || (decide ((36 : Int) = 94) || decide ((36 : Int) = 36))) = true from rfl]
    go_enter Tryz.func86, Tryz.ntmps86
    go_wp2_with fail
    refine (HP.out _ (HH.out.keepsF (by (repeat' (with_reducible first | exact Keeps.refl _ _ | assumption | refine Keeps.drawN ?_ _ | refine Keeps.drew ?_ | refine Keeps.setCell ?_ ?_ _ | refine Keeps.alloc ?_ _)) <;> (first | exact Or.inr (Nat.le_refl _) | exact Or.inl rfl | exact Or.inl (Or.inl rfl) | exact Or.inl (Or.inr rfl) | (right; simp; done) | (right; simp; omega))))).mono ?_
    rintro e w2 ⟨rfl, k2⟩
    have hs2 := k2.size
    simp at hs2
    have K2 := Lib.hid k2
    have P2 := Lib.hid (HH.out.keepsF (Keeps.trans (by (repeat' (with_reducible first | exact Keeps.refl _ _ | assumption | refine Keeps.drawN ?_ _ | refine Keeps.drew ?_ | refine Keeps.setCell ?_ ?_ _ | refine Keeps.alloc ?_ _)) <;> (first | exact Or.inr (Nat.le_refl _) | exact Or.inl rfl | exact Or.inl (Or.inl rfl) | exact Or.inl (Or.inr rfl) | (right; simp; done) | (right; simp; omega))) k2))
    clear k2
    go_wp2_with fail
    refine (HA.out _ P2.out).mono ?_
    rintro e w3 ⟨v, rfl, hv, h3, k3⟩
    obtain ⟨o, a1, n1, c1, m, x, a2, n2, cc2, rfl⟩ := NV.form hv
    have HV := Lib.hid hv
    have P3 := Lib.hid h3
    have hs3 := k3.size
    have K3 : Hid (Keeps (OnlyP pb) (w.alloc (.cells #[.int .i64 0, .slice none 0 0, .int .i64 0, .int .i64 0, .slice none 0 0] 27)) w3) := Lib.hid ((K2.out.mono (fun _ _ e => e.elim)).trans k3)
    have hp3 := h3.lt
    clear hv h3 k3
    unfold NV.val
    go_wp2_with fail
    refine (HC.out _ (P3.out.keepsF (by (repeat' (with_reducible first | exact Keeps.refl _ _ | assumption | refine Keeps.drawN ?_ _ | refine Keeps.drew ?_ | refine Keeps.setCell ?_ ?_ _ | refine Keeps.alloc ?_ _)) <;> (first | exact Or.inr (Nat.le_refl _) | exact Or.inl rfl | exact Or.inl (Or.inl rfl) | exact Or.inl (Or.inr rfl) | (right; simp; done) | (right; simp; omega))))).mono ?_
    rintro e w4 ⟨rfl, h4, k4⟩
    have hs4 := k4.size
    simp at hs4
    have x0 : w4.cell? ⟨w3.heap.size, 0, none⟩ = some (.int .i64 o) := k4.cell (by simp [go_sem]) (by show ¬ w3.heap.size = pb; omega)
    have x1 : w4.cell? ⟨w3.heap.size, 1, none⟩ = some (.slice a1 n1 c1) := k4.cell (by simp [go_sem]) (by show ¬ w3.heap.size = pb; omega)
    have x2 : w4.cell? ⟨w3.heap.size, 2, none⟩ = some (.int .i64 m) := k4.cell (by simp [go_sem]) (by show ¬ w3.heap.size = pb; omega)
    have x3 : w4.cell? ⟨w3.heap.size, 3, none⟩ = some (.int .i64 x) := k4.cell (by simp [go_sem]) (by show ¬ w3.heap.size = pb; omega)
    have x4 : w4.cell? ⟨w3.heap.size, 4, none⟩ = some (.slice a2 n2 cc2) := k4.cell (by simp [go_sem]) (by show ¬ w3.heap.size = pb; omega)
    have K34 : Keeps (OnlyP pb) w3 w4 := Keeps.trans (by (repeat' (with_reducible first | exact Keeps.refl _ _ | assumption | refine Keeps.drawN ?_ _ | refine Keeps.drew ?_ | refine Keeps.setCell ?_ ?_ _ | refine Keeps.alloc ?_ _)) <;> (first | exact Or.inr (Nat.le_refl _) | exact Or.inl rfl | exact Or.inl (Or.inl rfl) | exact Or.inl (Or.inr rfl) | (right; simp; done) | (right; simp; omega))) k4
    have HV4 : Hid (TAt w4 (fun b => w.heap.size < b ∧ b < w3.heap.size) ⟨o, .slice a1 n1 c1, m, x, .slice a2 n2 cc2⟩ t1) := Lib.hid (HV.out.keepsTo K34 (fun b hb e => by have e : b = pb := e; have := hb.1; omega) (fun b hb => ⟨by have := hb.1; omega, hb.2⟩))
    have K4 := Lib.hid (K3.out.trans K34)
    have hc3 := h4.c3
    have hf3 := h4.fr 3
    have hp4 := h4.lt
    have P4 := Lib.hid h4
    clear h4 k4 K34
    rw [hb] at hc3
    obtain ⟨wP, hwP⟩ : ∃ W, w4.setCell ⟨pb, 3, none⟩ (.bool true) = W := ⟨_, rfl⟩
    have P5 : Hid (PaAt wP pb rv rs ⟨S2.pos, S2.deep, true⟩) := Lib.hid (hwP ▸ P4.out.setBad true)
    have k5 : Keeps (OnlyP pb) w4 wP := hwP ▸ (Keeps.refl (OnlyP pb) _).set (p := ⟨pb, 3, none⟩) rfl _
    have hs5 := k5.size
    have hszP : w4.heap.size = wP.heap.size := by rw [← hwP]; simp
    have K5 := Lib.hid (K4.out.trans k5)
    obtain ⟨wS, hwS⟩ : ∃ W, wP.alloc (.cells #[.int .i64 o, .slice a1 n1 c1, .int .i64 m, .int .i64 x, .slice a2 n2 cc2] 27) = W := ⟨_, rfl⟩
    have k6 : Keeps (fun _ => False) wP wS := hwS ▸ (Keeps.refl _ _).alloc _
    have hs6 : wS.heap.size = wP.heap.size + 1 := by rw [← hwS]; simp
    have KX := Lib.hid (K5.out.trans (k6.mono (T := OnlyP pb) (fun _ _ e => e.elim)))
    have HPX := Lib.hid (P5.out.keepsF k6)
    have hT1 : TAt wS (fun b => w.heap.size < b ∧ b < wP.heap.size) ⟨o, .slice a1 n1 c1, m, x, .slice a2 n2 cc2⟩ t1 := HV4.out.keepsTo (k5.trans (k6.mono (fun _ _ e => e.elim))) (fun b hb e => by have e : b = pb := e; have := hb.1; omega) (fun b hb => ⟨hb.1, by have := hb.2; omega⟩)
    have hcell : ∀ j, j < 5 → wS.cell? ⟨w4.heap.size, 0 + 0 * 5 + j, none⟩ = some (encN ⟨o, .slice a1 n1 c1, m, x, .slice a2 n2 cc2⟩ j) := by
      intro j hj
      rw [hszP, ← hwS]
      match j, hj with
      | 0, _ => simp [go_sem, encN]
      | 1, _ => simp [go_sem, encN]
      | 2, _ => simp [go_sem, encN]
      | 3, _ => simp [go_sem, encN]
      | 4, _ => simp [go_sem, encN]
    have HTX : Hid (TAt wS (fun b => w.heap.size < b ∧ b < wS.heap.size) ⟨6, .slice none 0 0, cmn, cmx, .slice (some ⟨w4.heap.size, 0, none⟩) 1 1⟩ ⟨6, [], cmn, cmx, F.ofL [t1]⟩) := Lib.hid ⟨rfl, rfl, rfl, Hcv.out.1, Hcv.out.2, ⟨SlOf.nil _ _ _, fun p hp => by cases hp⟩, fun b hb => by simp [Value.ownBlock] at hb,
      ⟨[⟨o, .slice a1 n1 c1, m, x, .slice a2 n2 cc2⟩], ⟨_, 1, rfl, ⟨by simp, (fun h => by cases h)⟩, by simp, fun _ => ⟨_, 0, rfl, fun i y hy j hj => by
        cases i with
        | zero => simp at hy; subst hy; exact hcell j hj
        | succ i => simp at hy⟩⟩,
      FAt.cons_iff.2 ⟨_, [], rfl, hT1.keepsTo (Keeps.refl (fun _ => False) _) (fun _ _ => id) (fun b hb => ⟨hb.1, by have := hb.2; omega⟩), rfl⟩⟩,
      fun b hb => by simp [Value.ownBlock] at hb; subst hb; omega⟩
    obtain ⟨⟨y0, y1, y2, y3, y4⟩, q0, q1, q2, q3, q4⟩ := res_facts KX.out hpb
    have HWP := Lib.hid hwP
    have HWS := Lib.hid hwS
    rw [← hwS, ← hwP] at y0 y1 y2 y3 y4 q0 q1 q2 q3 q4
    have hne1 : ¬ (pb = w.heap.size) := by omega
    have hne2 : ¬ (w.heap.size = pb) := by omega
    clear k5 k6 hT1 hcell hwP hwS hszP hs5 hs6
    go_wp2_with fail
    rw [HWP.out, HWS.out]
    clear y0 y1 y2 y3 y4 q0 q1 q2 q3 q4
    obtain ⟨⟨y0, y1, y2, y3, y4⟩, q0, q1, q2, q3, q4⟩ := res_facts KX.out hpb
    obtain ⟨wE, hWE⟩ : ∃ W, st5 (wS) w.heap.size (.int .i64 6) (.slice none 0 0) (.int .i64 cmn) (.int .i64 cmx) (.slice (some ⟨w4.heap.size, 0, none⟩) 1 1) = W := ⟨_, rfl⟩
    obtain ⟨r0, r1, r2, r3, r4, kE⟩ := st5_facts (wS) w.heap.size y0 y1 y2 y3 y4 (.int .i64 6) (.slice none 0 0) (.int .i64 cmn) (.int .i64 cmx) (.slice (some ⟨w4.heap.size, 0, none⟩) 1 1)
    rw [hWE] at r0 r1 r2 r3 r4 kE
    unfold st5 at hWE
    rw [hWE]
    have HKE := Lib.hid kE
    clear kE hWE y0 y1 y2 y3 y4
    refine bodyPost_ret (by simp [results, Tryz.results86, go_sem, r0, r1, r2, r3, r4]; try rfl) rfl ?_
    exact tree_close (v := ⟨6, .slice none 0 0, cmn, cmx, .slice (some ⟨w4.heap.size, 0, none⟩) 1 1⟩) hpb HH.out.rb KX.out HPX.out HTX.out HKE.out
  · have f1 : (r == 94) = false := by simpa using hr94
    have f2 : (r == 36) = false := by simpa using hr36
    have f3 : decide (r = 94) = false := by simpa using hr94
    have f4 : decide (r = 36) = false := by simpa using hr36
    rw [if_pos rfl, hb, f3, f4, show (false || (false || false)) = false from rfl]
    clear hr94 hr36 f3 f4
    go_enter Tryz.func86, Tryz.ntmps86
    go_wp2_with fail
    refine (HP.out _ (HH.out.keepsF (by (repeat' (with_reducible first | exact Keeps.refl _ _ | assumption | refine Keeps.drawN ?_ _ | refine Keeps.drew ?_ | refine Keeps.setCell ?_ ?_ _ | refine Keeps.alloc ?_ _)) <;> (first | exact Or.inr (Nat.le_refl _) | exact Or.inl rfl | exact Or.inl (Or.inl rfl) | exact Or.inl (Or.inr rfl) | (right; simp; done) | (right; simp; omega))))).mono ?_
    rintro e w2 ⟨rfl, k2⟩
    have hs2 := k2.size
    simp at hs2
    have K2 := Lib.hid k2
    have P2 := Lib.hid (HH.out.keepsF (Keeps.trans (by (repeat' (with_reducible first | exact Keeps.refl _ _ | assumption | refine Keeps.drawN ?_ _ | refine Keeps.drew ?_ | refine Keeps.setCell ?_ ?_ _ | refine Keeps.alloc ?_ _)) <;> (first | exact Or.inr (Nat.le_refl _) | exact Or.inl rfl | exact Or.inl (Or.inl rfl) | exact Or.inl (Or.inr rfl) | (right; simp; done) | (right; simp; omega))) k2))
    clear k2
    go_wp2_with fail
    refine (HA.out _ P2.out).mono ?_
    rintro e w3 ⟨v, rfl, hv, h3, k3⟩
    obtain ⟨o, a1, n1, c1, m, x, a2, n2, cc2, rfl⟩ := NV.form hv
    have HV := Lib.hid hv
    have P3 := Lib.hid h3
    have hs3 := k3.size
    have K3 : Hid (Keeps (OnlyP pb) (w.alloc (.cells #[.int .i64 0, .slice none 0 0, .int .i64 0, .int .i64 0, .slice none 0 0] 27)) w3) := Lib.hid ((K2.out.mono (fun _ _ e => e.elim)).trans k3)
    have hp3 := h3.lt
    clear hv h3 k3
    unfold NV.val
    go_wp2_with fail
    refine (HC.out _ (P3.out.keepsF (by (repeat' (with_reducible first | exact Keeps.refl _ _ | assumption | refine Keeps.drawN ?_ _ | refine Keeps.drew ?_ | refine Keeps.setCell ?_ ?_ _ | refine Keeps.alloc ?_ _)) <;> (first | exact Or.inr (Nat.le_refl _) | exact Or.inl rfl | exact Or.inl (Or.inl rfl) | exact Or.inl (Or.inr rfl) | (right; simp; done) | (right; simp; omega))))).mono ?_
    rintro e w4 ⟨rfl, h4, k4⟩
    have hs4 := k4.size
    simp at hs4
    have x0 : w4.cell? ⟨w3.heap.size, 0, none⟩ = some (.int .i64 o) := k4.cell (by simp [go_sem]) (by show ¬ w3.heap.size = pb; omega)
    have x1 : w4.cell? ⟨w3.heap.size, 1, none⟩ = some (.slice a1 n1 c1) := k4.cell (by simp [go_sem]) (by show ¬ w3.heap.size = pb; omega)
    have x2 : w4.cell? ⟨w3.heap.size, 2, none⟩ = some (.int .i64 m) := k4.cell (by simp [go_sem]) (by show ¬ w3.heap.size = pb; omega)
    have x3 : w4.cell? ⟨w3.heap.size, 3, none⟩ = some (.int .i64 x) := k4.cell (by simp [go_sem]) (by show ¬ w3.heap.size = pb; omega)
    have x4 : w4.cell? ⟨w3.heap.size, 4, none⟩ = some (.slice a2 n2 cc2) := k4.cell (by simp [go_sem]) (by show ¬ w3.heap.size = pb; omega)
    have K34 : Keeps (OnlyP pb) w3 w4 := Keeps.trans (by (repeat' (with_reducible first | exact Keeps.refl _ _ | assumption | refine Keeps.drawN ?_ _ | refine Keeps.drew ?_ | refine Keeps.setCell ?_ ?_ _ | refine Keeps.alloc ?_ _)) <;> (first | exact Or.inr (Nat.le_refl _) | exact Or.inl rfl | exact Or.inl (Or.inl rfl) | exact Or.inl (Or.inr rfl) | (right; simp; done) | (right; simp; omega))) k4
    have HV4 : Hid (TAt w4 (fun b => w.heap.size < b ∧ b < w3.heap.size) ⟨o, .slice a1 n1 c1, m, x, .slice a2 n2 cc2⟩ t1) := Lib.hid (HV.out.keepsTo K34 (fun b hb e => by have e : b = pb := e; have := hb.1; omega) (fun b hb => ⟨by have := hb.1; omega, hb.2⟩))
    have K4 := Lib.hid (K3.out.trans K34)
    have hc3 := h4.c3
    have hf3 := h4.fr 3
    have hp4 := h4.lt
    have P4 := Lib.hid h4
    clear h4 k4 K34
    rw [hb] at hc3
    obtain ⟨wP, hwP⟩ : ∃ W, w4.setCell ⟨pb, 3, none⟩ (.bool false) = W := ⟨_, rfl⟩
    have P5 : Hid (PaAt wP pb rv rs ⟨S2.pos, S2.deep, false⟩) := Lib.hid (hwP ▸ P4.out.setBad false)
    have k5 : Keeps (OnlyP pb) w4 wP := hwP ▸ (Keeps.refl (OnlyP pb) _).set (p := ⟨pb, 3, none⟩) rfl _
    have hs5 := k5.size
    have hszP : w4.heap.size = wP.heap.size := by rw [← hwP]; simp
    have K5 := Lib.hid (K4.out.trans k5)
    obtain ⟨wS, hwS⟩ : ∃ W, wP.alloc (.cells #[.int .i64 o, .slice a1 n1 c1, .int .i64 m, .int .i64 x, .slice a2 n2 cc2] 27) = W := ⟨_, rfl⟩
    have k6 : Keeps (fun _ => False) wP wS := hwS ▸ (Keeps.refl _ _).alloc _
    have hs6 : wS.heap.size = wP.heap.size + 1 := by rw [← hwS]; simp
    have KX := Lib.hid (K5.out.trans (k6.mono (T := OnlyP pb) (fun _ _ e => e.elim)))
    have HPX := Lib.hid (P5.out.keepsF k6)
    have hT1 : TAt wS (fun b => w.heap.size < b ∧ b < wP.heap.size) ⟨o, .slice a1 n1 c1, m, x, .slice a2 n2 cc2⟩ t1 := HV4.out.keepsTo (k5.trans (k6.mono (fun _ _ e => e.elim))) (fun b hb e => by have e : b = pb := e; have := hb.1; omega) (fun b hb => ⟨hb.1, by have := hb.2; omega⟩)
    have hcell : ∀ j, j < 5 → wS.cell? ⟨w4.heap.size, 0 + 0 * 5 + j, none⟩ = some (encN ⟨o, .slice a1 n1 c1, m, x, .slice a2 n2 cc2⟩ j) := by
      intro j hj
      rw [hszP, ← hwS]
      match j, hj with
      | 0, _ => simp [go_sem, encN]
      | 1, _ => simp [go_sem, encN]
      | 2, _ => simp [go_sem, encN]
      | 3, _ => simp [go_sem, encN]
      | 4, _ => simp [go_sem, encN]
    have HTX : Hid (TAt wS (fun b => w.heap.size < b ∧ b < wS.heap.size) ⟨6, .slice none 0 0, cmn, cmx, .slice (some ⟨w4.heap.size, 0, none⟩) 1 1⟩ ⟨6, [], cmn, cmx, F.ofL [t1]⟩) := Lib.hid ⟨rfl, rfl, rfl, Hcv.out.1, Hcv.out.2, ⟨SlOf.nil _ _ _, fun p hp => by cases hp⟩, fun b hb => by simp [Value.ownBlock] at hb,
      ⟨[⟨o, .slice a1 n1 c1, m, x, .slice a2 n2 cc2⟩], ⟨_, 1, rfl, ⟨by simp, (fun h => by cases h)⟩, by simp, fun _ => ⟨_, 0, rfl, fun i y hy j hj => by
        cases i with
        | zero => simp at hy; subst hy; exact hcell j hj
        | succ i => simp at hy⟩⟩,
      FAt.cons_iff.2 ⟨_, [], rfl, hT1.keepsTo (Keeps.refl (fun _ => False) _) (fun _ _ => id) (fun b hb => ⟨hb.1, by have := hb.2; omega⟩), rfl⟩⟩,
      fun b hb => by simp [Value.ownBlock] at hb; subst hb; omega⟩
    obtain ⟨⟨y0, y1, y2, y3, y4⟩, q0, q1, q2, q3, q4⟩ := res_facts KX.out hpb
    have HWP := Lib.hid hwP
    have HWS := Lib.hid hwS
    rw [← hwS, ← hwP] at y0 y1 y2 y3 y4 q0 q1 q2 q3 q4
    have hne1 : ¬ (pb = w.heap.size) := by omega
    have hne2 : ¬ (w.heap.size = pb) := by omega
    clear k5 k6 hT1 hcell hwP hwS hszP hs5 hs6
    go_wp2_with fail
    rw [HWP.out, HWS.out]
    clear y0 y1 y2 y3 y4 q0 q1 q2 q3 q4
    obtain ⟨⟨y0, y1, y2, y3, y4⟩, q0, q1, q2, q3, q4⟩ := res_facts KX.out hpb
    obtain ⟨wE, hWE⟩ : ∃ W, st5 (wS) w.heap.size (.int .i64 6) (.slice none 0 0) (.int .i64 cmn) (.int .i64 cmx) (.slice (some ⟨w4.heap.size, 0, none⟩) 1 1) = W := ⟨_, rfl⟩
    obtain ⟨r0, r1, r2, r3, r4, kE⟩ := st5_facts (wS) w.heap.size y0 y1 y2 y3 y4 (.int .i64 6) (.slice none 0 0) (.int .i64 cmn) (.int .i64 cmx) (.slice (some ⟨w4.heap.size, 0, none⟩) 1 1)
    rw [hWE] at r0 r1 r2 r3 r4 kE
    unfold st5 at hWE
    rw [hWE]
    have HKE := Lib.hid kE
    clear kE hWE y0 y1 y2 y3 y4
    refine bodyPost_ret (by simp [results, Tryz.results86, go_sem, r0, r1, r2, r3, r4]; try rfl) rfl ?_
    exact tree_close (v := ⟨6, .slice none 0 0, cmn, cmx, .slice (some ⟨w4.heap.size, 0, none⟩) 1 1⟩) hpb HH.out.rb KX.out HPX.out HTX.out HKE.out
end Go.Proofs.YtpcbfmbpbegjgaaGreat
