/-
  Several texts in one: The parser's counted. The parser's pieces.
-/
import Derived.Test.YtjahiihmoglpfaaGreatDoorMg11
import Derived.Maps.AppendAt
namespace Go.Proofs.YtjahiihmoglpfaaGreatDoor
open Go.RowKit
set_option linter.unusedVariables false
set_option linter.unusedSimpArgs false
set_option maxRecDepth 100000
theorem xm (rs : List Int) (s : PS) (h : ∀ r ∈ rs, 0 ≤ r ∧ r ≤ 1114111) : in64 (cntV rs s).1 ∧ in64 (cntV rs s).2.1 := by
 have hn : ∀ s', in64 (numN rs s') := fun s' => by have := xhk rs s' h; unfold in64; omega
 have h0 : in64 (-1) := by unfold in64; decide
 have h1 : in64 1 := by unfold in64; decide
 unfold cntV
 repeat' split
 · exact ⟨xbq, h1⟩
 · exact ⟨h1, h0⟩
 · exact ⟨xbq, h0⟩
 · refine ⟨hn _, ?_⟩
   unfold brB
   repeat' split
   · exact h0
   · exact hn _
   exact hn _
 exact ⟨xbq, xbq⟩
set_option maxHeartbeats 8000000 in
theorem xhB {f : PS → T × PS} {rs : List Int} {C D : PS → Prop} (H : xk5 f rs C D) (w : World) (pb : Nat) (rv : Value) (s : PS) (h : PaAt w pb rv rs s) (hi : Inv rs s) (hd : D s) (hr : 0 ≤ pk rs s) :
 Calls Tryz.prog 138 #[.pointer (some ⟨pb, 0, none⟩)] w (xcV w pb rv rs (xau f rs s)) := by
 have hpb := h.lt
 have hlen := H.len
 have hag := xio H.go hr
 have hpos := hag.2.2.a
 have HP := xmA (fun (W : World) (hW : PaAt W pb rv rs s) => xbQ W pb rv rs s hW)
 have HA := xmA (fun (W : World) (hW : PaAt W pb rv rs s) => (xmi H W pb rv s hW hi hd hr : Calls Tryz.prog 166 #[.pointer (some ⟨pb, 0, none⟩)] W (xcV W pb rv rs (xaO f rs s))))
 have hrg := xj1 h
 obtain ⟨s1, hs1⟩ : ∃ x, (xaO f rs s).2 = x := ⟨_, rfl⟩
 obtain ⟨t1, ht1⟩ : ∃ x, (xaO f rs s).1 = x := ⟨_, rfl⟩
 rw [hs1] at hpos
 have HH := xmA h
 have HC := xmA (fun (W : World) (hW : PaAt W pb rv rs s1) => xiT W pb rv rs s1 hW (by omega))
 have hcv := xm rs s1 h.rng
 obtain ⟨cmn, cmx, cok, hcV⟩ : ∃ a b c, cntV rs s1 = (a, b, c) := ⟨_, _, _, rfl⟩
 rw [hcV] at hcv HC
 have Hcv := xmA hcv
 have E : Hid (xau f rs s = if cok then (⟨6, [], cmn, cmx, F.ofL [t1]⟩, ⟨(cntS rs s1).pos, (cntS rs s1).deep, (cntS rs s1).bad || (decide (pk rs s = 94) || decide (pk rs s = 36))⟩) else (t1, cntS rs s1)) := xmA (by
  unfold xau; rw [hs1, ht1, hcV])
 unfold xdn at HA
 rw [show xaO f rs s = (t1, s1) by rw [← hs1, ← ht1]] at HA
 rw [E.out]
 clear E
 obtain ⟨S2, hS2⟩ : ∃ x, cntS rs s1 = x := ⟨_, rfl⟩
 rw [hS2] at HC ⊢
 clear hS2 hs1 ht1 hcV h hi hd hag hcv
 generalize pk rs s = r at *
 simp only at HC
 have hcases : cok = false ∨ (cok = true ∧ S2.bad = true) ∨ (cok = true ∧ S2.bad = false ∧ r = 94) ∨ (cok = true ∧ S2.bad = false ∧ r ≠ 94 ∧ r = 36) ∨ (cok = true ∧ S2.bad = false ∧ r ≠ 94 ∧ r ≠ 36) := by
  cases cok <;> cases S2.bad <;> simp <;> omega
 rcases hcases with rfl | ⟨rfl, hb⟩ | ⟨rfl, hb, hr94⟩ | ⟨rfl, hb, hr94, hr36⟩ | ⟨rfl, hb, hr94, hr36⟩
 · simp only [Bool.false_eq_true, if_false]
   go_enter Tryz.func138, Tryz.ntmps138
   go_wp2_with fail
   refine (HP.out _ (HH.out.keepsF (KI.out))).mono ?_
   rintro e w2 ⟨rfl, k2⟩
   have hs2 := k2.size
   simp at hs2
   have K2 := xmA k2
   have P2 := xmA (HH.out.keepsF (xaa.trans (KI.out) k2))
   clear k2
   go_wp2_with fail
   refine (HA.out _ P2.out).mono ?_
   rintro e w3 ⟨v, rfl, hv, h3, k3⟩
   obtain ⟨o, a1, n1, c1, m, x, a2, n2, cc2, rfl⟩ := NV.form hv
   have HV := xmA hv
   have P3 := xmA h3
   have hs3 := k3.size
   have K3 : Hid (xaa (xao pb) (w.alloc (.cells #[.int .i64 0, .slice none 0 0, .int .i64 0, .int .i64 0, .slice none 0 0] 52)) w3) := xmA ((K2.out.mono (fun _ _ e => e.elim)).trans k3)
   have hp3 := h3.lt
   clear hv h3 k3
   unfold NV.val
   go_wp2_with fail
   refine (HC.out _ (P3.out.keepsF (KI.out))).mono ?_
   rintro e w4 ⟨rfl, h4, k4⟩
   have hs4 := k4.size
   simp at hs4
   have x0 : w4.cell? ⟨w3.heap.size, 0, none⟩ = some (.int .i64 o) := k4.cell (by simp [go_sem]) (by show ¬ w3.heap.size = pb; omega)
   have x1 : w4.cell? ⟨w3.heap.size, 1, none⟩ = some (.slice a1 n1 c1) := k4.cell (by simp [go_sem]) (by show ¬ w3.heap.size = pb; omega)
   have x2 : w4.cell? ⟨w3.heap.size, 2, none⟩ = some (.int .i64 m) := k4.cell (by simp [go_sem]) (by show ¬ w3.heap.size = pb; omega)
   have x3 : w4.cell? ⟨w3.heap.size, 3, none⟩ = some (.int .i64 x) := k4.cell (by simp [go_sem]) (by show ¬ w3.heap.size = pb; omega)
   have x4 : w4.cell? ⟨w3.heap.size, 4, none⟩ = some (.slice a2 n2 cc2) := k4.cell (by simp [go_sem]) (by show ¬ w3.heap.size = pb; omega)
   have K34 : xaa (xao pb) w3 w4 := xaa.trans (KI.out) k4
   have HV4 : Hid (TAt w4 (fun b => w.heap.size < b ∧ b < w3.heap.size) ⟨o, .slice a1 n1 c1, m, x, .slice a2 n2 cc2⟩ t1) := xmA (HV.out.keepsTo K34 (fun b hb e => by have e : b = pb := e; have := hb.1; omega) (fun b hb => ⟨by have := hb.1; omega, hb.2⟩))
   have K4 := xmA (K3.out.trans K34)
   have hc3 := h4.c3
   have hf3 := h4.fr 3
   have hp4 := h4.lt
   have P4 := xmA h4
   clear h4 k4 K34
   obtain ⟨⟨y0, y1, y2, y3, y4⟩, q0, q1, q2, q3, q4⟩ := xay K4.out hpb
   go_wp2_with fail
   obtain ⟨wE, hWE⟩ : ∃ W, st5 (w4) w.heap.size (.int .i64 o) (.slice a1 n1 c1) (.int .i64 m) (.int .i64 x) (.slice a2 n2 cc2) = W := ⟨_, rfl⟩
   obtain ⟨r0, r1, r2, r3, r4, kE⟩ := xav (w4) w.heap.size y0 y1 y2 y3 y4 (.int .i64 o) (.slice a1 n1 c1) (.int .i64 m) (.int .i64 x) (.slice a2 n2 cc2)
   rw [hWE] at r0 r1 r2 r3 r4 kE
   unfold st5 at hWE
   rw [hWE]
   have HKE := xmA kE
   clear kE hWE y0 y1 y2 y3 y4
   refine bodyPost_ret (by simp [results, Tryz.results138, go_sem, r0, r1, r2, r3, r4]; try rfl) rfl ?_
   exact xaB (v := ⟨o, .slice a1 n1 c1, m, x, .slice a2 n2 cc2⟩) hpb HH.out.rb K4.out P4.out (HV4.out.keepsTo (xaa.refl (fun _ => False) _) (fun _ _ => id) (fun b hb => ⟨hb.1, by omega⟩)) HKE.out
 · rw [if_pos rfl, hb, show (true || (decide (r = 94) || decide (r = 36))) = true from rfl]
   go_enter Tryz.func138, Tryz.ntmps138
   go_wp2_with fail
   refine (HP.out _ (HH.out.keepsF (KI.out))).mono ?_
   rintro e w2 ⟨rfl, k2⟩
   have hs2 := k2.size
   simp at hs2
   have K2 := xmA k2
   have P2 := xmA (HH.out.keepsF (xaa.trans (KI.out) k2))
   clear k2
   go_wp2_with fail
   refine (HA.out _ P2.out).mono ?_
   rintro e w3 ⟨v, rfl, hv, h3, k3⟩
   obtain ⟨o, a1, n1, c1, m, x, a2, n2, cc2, rfl⟩ := NV.form hv
   have HV := xmA hv
   have P3 := xmA h3
   have hs3 := k3.size
   have K3 : Hid (xaa (xao pb) (w.alloc (.cells #[.int .i64 0, .slice none 0 0, .int .i64 0, .int .i64 0, .slice none 0 0] 52)) w3) := xmA ((K2.out.mono (fun _ _ e => e.elim)).trans k3)
   have hp3 := h3.lt
   clear hv h3 k3
   unfold NV.val
   go_wp2_with fail
   refine (HC.out _ (P3.out.keepsF (KI.out))).mono ?_
   rintro e w4 ⟨rfl, h4, k4⟩
   have hs4 := k4.size
   simp at hs4
   have x0 : w4.cell? ⟨w3.heap.size, 0, none⟩ = some (.int .i64 o) := k4.cell (by simp [go_sem]) (by show ¬ w3.heap.size = pb; omega)
   have x1 : w4.cell? ⟨w3.heap.size, 1, none⟩ = some (.slice a1 n1 c1) := k4.cell (by simp [go_sem]) (by show ¬ w3.heap.size = pb; omega)
   have x2 : w4.cell? ⟨w3.heap.size, 2, none⟩ = some (.int .i64 m) := k4.cell (by simp [go_sem]) (by show ¬ w3.heap.size = pb; omega)
   have x3 : w4.cell? ⟨w3.heap.size, 3, none⟩ = some (.int .i64 x) := k4.cell (by simp [go_sem]) (by show ¬ w3.heap.size = pb; omega)
   have x4 : w4.cell? ⟨w3.heap.size, 4, none⟩ = some (.slice a2 n2 cc2) := k4.cell (by simp [go_sem]) (by show ¬ w3.heap.size = pb; omega)
   have K34 : xaa (xao pb) w3 w4 := xaa.trans (KI.out) k4
   have HV4 : Hid (TAt w4 (fun b => w.heap.size < b ∧ b < w3.heap.size) ⟨o, .slice a1 n1 c1, m, x, .slice a2 n2 cc2⟩ t1) := xmA (HV.out.keepsTo K34 (fun b hb e => by have e : b = pb := e; have := hb.1; omega) (fun b hb => ⟨by have := hb.1; omega, hb.2⟩))
   have K4 := xmA (K3.out.trans K34)
   have hc3 := h4.c3
   have hf3 := h4.fr 3
   have hp4 := h4.lt
   have P4 := xmA h4
   clear h4 k4 K34
   rw [hb] at hc3
   obtain ⟨wP, hwP⟩ : ∃ W, w4.setCell ⟨pb, 3, none⟩ (.bool true) = W := ⟨_, rfl⟩
   have P5 : Hid (PaAt wP pb rv rs ⟨S2.pos, S2.deep, true⟩) := xmA (hwP ▸ P4.out.setBad true)
   have k5 : xaa (xao pb) w4 wP := hwP ▸ (xaa.refl (xao pb) _).set (p := ⟨pb, 3, none⟩) rfl _
   have hs5 := k5.size
   have hszP : w4.heap.size = wP.heap.size := by rw [← hwP]; simp
   have K5 := xmA (K4.out.trans k5)
   obtain ⟨wS, hwS⟩ : ∃ W, wP.alloc (.cells #[.int .i64 o, .slice a1 n1 c1, .int .i64 m, .int .i64 x, .slice a2 n2 cc2] 52) = W := ⟨_, rfl⟩
   have k6 : xaa (fun _ => False) wP wS := hwS ▸ (xaa.refl _ _).alloc _
   have hs6 : wS.heap.size = wP.heap.size + 1 := by rw [← hwS]; simp
   have KX := xmA (K5.out.trans (k6.mono (T := xao pb) (fun _ _ e => e.elim)))
   have HPX := xmA (P5.out.keepsF k6)
   have hT1 : TAt wS (fun b => w.heap.size < b ∧ b < wP.heap.size) ⟨o, .slice a1 n1 c1, m, x, .slice a2 n2 cc2⟩ t1 := HV4.out.keepsTo (k5.trans (k6.mono (fun _ _ e => e.elim))) (fun b hb e => by have e : b = pb := e; have := hb.1; omega) (fun b hb => ⟨hb.1, by have := hb.2; omega⟩)
   have hcell : ∀ j, j < 5 → wS.cell? ⟨w4.heap.size, 0 + 0 * 5 + j, none⟩ = some (encN ⟨o, .slice a1 n1 c1, m, x, .slice a2 n2 cc2⟩ j) := by
    intro j hj
    rw [hszP, ← hwS]
    match j, hj with
    | 0, _ => simp [go_sem, encN]
    | 1, _ => simp [go_sem, encN]
    | 2, _ => simp [go_sem, encN]
    | 3, _ => simp [go_sem, encN]
    | 4, _ => simp [go_sem, encN]
   have HTX : Hid (TAt wS (fun b => w.heap.size < b ∧ b < wS.heap.size) ⟨6, .slice none 0 0, cmn, cmx, .slice (some ⟨w4.heap.size, 0, none⟩) 1 1⟩ ⟨6, [], cmn, cmx, F.ofL [t1]⟩) := xmA ⟨rfl, rfl, rfl, Hcv.out.1, Hcv.out.2, ⟨SlOf.nil _ _ _, fun p hp => by cases hp⟩, fun b hb => by simp [Value.ownBlock] at hb,
    ⟨[⟨o, .slice a1 n1 c1, m, x, .slice a2 n2 cc2⟩], ⟨_, 1, rfl, ⟨by simp, (fun h => by cases h)⟩, by simp, fun _ => ⟨_, 0, rfl, fun i y hy j hj => by
     cases i with
     | zero => simp at hy; subst hy; exact hcell j hj
     | succ i => simp at hy⟩⟩,
    FAt.cons_iff.2 ⟨_, [], rfl, hT1.keepsTo (xaa.refl (fun _ => False) _) (fun _ _ => id) (fun b hb => ⟨hb.1, by have := hb.2; omega⟩), rfl⟩⟩,
    fun b hb => by simp [Value.ownBlock] at hb; subst hb; omega⟩
   obtain ⟨⟨y0, y1, y2, y3, y4⟩, q0, q1, q2, q3, q4⟩ := xay KX.out hpb
   have HWP := xmA hwP
   have HWS := xmA hwS
   rw [← hwS, ← hwP] at y0 y1 y2 y3 y4 q0 q1 q2 q3 q4
   have hne1 : ¬ (pb = w.heap.size) := by omega
   have hne2 : ¬ (w.heap.size = pb) := by omega
   clear k5 k6 hT1 hcell hwP hwS hszP hs5 hs6
   go_wp2_with fail
   rw [HWP.out, HWS.out]
   clear y0 y1 y2 y3 y4 q0 q1 q2 q3 q4
   obtain ⟨⟨y0, y1, y2, y3, y4⟩, q0, q1, q2, q3, q4⟩ := xay KX.out hpb
   obtain ⟨wE, hWE⟩ : ∃ W, st5 (wS) w.heap.size (.int .i64 6) (.slice none 0 0) (.int .i64 cmn) (.int .i64 cmx) (.slice (some ⟨w4.heap.size, 0, none⟩) 1 1) = W := ⟨_, rfl⟩
   obtain ⟨r0, r1, r2, r3, r4, kE⟩ := xav (wS) w.heap.size y0 y1 y2 y3 y4 (.int .i64 6) (.slice none 0 0) (.int .i64 cmn) (.int .i64 cmx) (.slice (some ⟨w4.heap.size, 0, none⟩) 1 1)
   rw [hWE] at r0 r1 r2 r3 r4 kE
   unfold st5 at hWE
   rw [hWE]
   have HKE := xmA kE
   clear kE hWE y0 y1 y2 y3 y4
   refine bodyPost_ret (by simp [results, Tryz.results138, go_sem, r0, r1, r2, r3, r4]; try rfl) rfl ?_
   exact xaB (v := ⟨6, .slice none 0 0, cmn, cmx, .slice (some ⟨w4.heap.size, 0, none⟩) 1 1⟩) hpb HH.out.rb KX.out HPX.out HTX.out HKE.out
 · subst hr94
   rw [if_pos rfl, hb, show (false || (decide ((94 : Int) = 94) || decide ((94 : Int) = 36))) = true from rfl]
   go_enter Tryz.func138, Tryz.ntmps138
   go_wp2_with fail
   refine (HP.out _ (HH.out.keepsF (KI.out))).mono ?_
   rintro e w2 ⟨rfl, k2⟩
   have hs2 := k2.size
   simp at hs2
   have K2 := xmA k2
   have P2 := xmA (HH.out.keepsF (xaa.trans (KI.out) k2))
   clear k2
   go_wp2_with fail
   refine (HA.out _ P2.out).mono ?_
   rintro e w3 ⟨v, rfl, hv, h3, k3⟩
   obtain ⟨o, a1, n1, c1, m, x, a2, n2, cc2, rfl⟩ := NV.form hv
   have HV := xmA hv
   have P3 := xmA h3
   have hs3 := k3.size
   have K3 : Hid (xaa (xao pb) (w.alloc (.cells #[.int .i64 0, .slice none 0 0, .int .i64 0, .int .i64 0, .slice none 0 0] 52)) w3) := xmA ((K2.out.mono (fun _ _ e => e.elim)).trans k3)
   have hp3 := h3.lt
   clear hv h3 k3
   unfold NV.val
   go_wp2_with fail
   refine (HC.out _ (P3.out.keepsF (KI.out))).mono ?_
   rintro e w4 ⟨rfl, h4, k4⟩
   have hs4 := k4.size
   simp at hs4
   have x0 : w4.cell? ⟨w3.heap.size, 0, none⟩ = some (.int .i64 o) := k4.cell (by simp [go_sem]) (by show ¬ w3.heap.size = pb; omega)
   have x1 : w4.cell? ⟨w3.heap.size, 1, none⟩ = some (.slice a1 n1 c1) := k4.cell (by simp [go_sem]) (by show ¬ w3.heap.size = pb; omega)
   have x2 : w4.cell? ⟨w3.heap.size, 2, none⟩ = some (.int .i64 m) := k4.cell (by simp [go_sem]) (by show ¬ w3.heap.size = pb; omega)
   have x3 : w4.cell? ⟨w3.heap.size, 3, none⟩ = some (.int .i64 x) := k4.cell (by simp [go_sem]) (by show ¬ w3.heap.size = pb; omega)
   have x4 : w4.cell? ⟨w3.heap.size, 4, none⟩ = some (.slice a2 n2 cc2) := k4.cell (by simp [go_sem]) (by show ¬ w3.heap.size = pb; omega)
   have K34 : xaa (xao pb) w3 w4 := xaa.trans (KI.out) k4
   have HV4 : Hid (TAt w4 (fun b => w.heap.size < b ∧ b < w3.heap.size) ⟨o, .slice a1 n1 c1, m, x, .slice a2 n2 cc2⟩ t1) := xmA (HV.out.keepsTo K34 (fun b hb e => by have e : b = pb := e; have := hb.1; omega) (fun b hb => ⟨by have := hb.1; omega, hb.2⟩))
   have K4 := xmA (K3.out.trans K34)
   have hc3 := h4.c3
   have hf3 := h4.fr 3
   have hp4 := h4.lt
   have P4 := xmA h4
   clear h4 k4 K34
   rw [hb] at hc3
   obtain ⟨wP, hwP⟩ : ∃ W, w4.setCell ⟨pb, 3, none⟩ (.bool true) = W := ⟨_, rfl⟩
   have P5 : Hid (PaAt wP pb rv rs ⟨S2.pos, S2.deep, true⟩) := xmA (hwP ▸ P4.out.setBad true)
   have k5 : xaa (xao pb) w4 wP := hwP ▸ (xaa.refl (xao pb) _).set (p := ⟨pb, 3, none⟩) rfl _
   have hs5 := k5.size
   have hszP : w4.heap.size = wP.heap.size := by rw [← hwP]; simp
   have K5 := xmA (K4.out.trans k5)
   obtain ⟨wS, hwS⟩ : ∃ W, wP.alloc (.cells #[.int .i64 o, .slice a1 n1 c1, .int .i64 m, .int .i64 x, .slice a2 n2 cc2] 52) = W := ⟨_, rfl⟩
   have k6 : xaa (fun _ => False) wP wS := hwS ▸ (xaa.refl _ _).alloc _
   have hs6 : wS.heap.size = wP.heap.size + 1 := by rw [← hwS]; simp
   have KX := xmA (K5.out.trans (k6.mono (T := xao pb) (fun _ _ e => e.elim)))
   have HPX := xmA (P5.out.keepsF k6)
   have hT1 : TAt wS (fun b => w.heap.size < b ∧ b < wP.heap.size) ⟨o, .slice a1 n1 c1, m, x, .slice a2 n2 cc2⟩ t1 := HV4.out.keepsTo (k5.trans (k6.mono (fun _ _ e => e.elim))) (fun b hb e => by have e : b = pb := e; have := hb.1; omega) (fun b hb => ⟨hb.1, by have := hb.2; omega⟩)
   have hcell : ∀ j, j < 5 → wS.cell? ⟨w4.heap.size, 0 + 0 * 5 + j, none⟩ = some (encN ⟨o, .slice a1 n1 c1, m, x, .slice a2 n2 cc2⟩ j) := by
    intro j hj
    rw [hszP, ← hwS]
    match j, hj with
    | 0, _ => simp [go_sem, encN]
    | 1, _ => simp [go_sem, encN]
    | 2, _ => simp [go_sem, encN]
    | 3, _ => simp [go_sem, encN]
    | 4, _ => simp [go_sem, encN]
   have HTX : Hid (TAt wS (fun b => w.heap.size < b ∧ b < wS.heap.size) ⟨6, .slice none 0 0, cmn, cmx, .slice (some ⟨w4.heap.size, 0, none⟩) 1 1⟩ ⟨6, [], cmn, cmx, F.ofL [t1]⟩) := xmA ⟨rfl, rfl, rfl, Hcv.out.1, Hcv.out.2, ⟨SlOf.nil _ _ _, fun p hp => by cases hp⟩, fun b hb => by simp [Value.ownBlock] at hb,
    ⟨[⟨o, .slice a1 n1 c1, m, x, .slice a2 n2 cc2⟩], ⟨_, 1, rfl, ⟨by simp, (fun h => by cases h)⟩, by simp, fun _ => ⟨_, 0, rfl, fun i y hy j hj => by
     cases i with
     | zero => simp at hy; subst hy; exact hcell j hj
     | succ i => simp at hy⟩⟩,
    FAt.cons_iff.2 ⟨_, [], rfl, hT1.keepsTo (xaa.refl (fun _ => False) _) (fun _ _ => id) (fun b hb => ⟨hb.1, by have := hb.2; omega⟩), rfl⟩⟩,
    fun b hb => by simp [Value.ownBlock] at hb; subst hb; omega⟩
   obtain ⟨⟨y0, y1, y2, y3, y4⟩, q0, q1, q2, q3, q4⟩ := xay KX.out hpb
   have HWP := xmA hwP
   have HWS := xmA hwS
   rw [← hwS, ← hwP] at y0 y1 y2 y3 y4 q0 q1 q2 q3 q4
   have hne1 : ¬ (pb = w.heap.size) := by omega
   have hne2 : ¬ (w.heap.size = pb) := by omega
   clear k5 k6 hT1 hcell hwP hwS hszP hs5 hs6
   go_wp2_with fail
   rw [HWP.out, HWS.out]
   clear y0 y1 y2 y3 y4 q0 q1 q2 q3 q4
   obtain ⟨⟨y0, y1, y2, y3, y4⟩, q0, q1, q2, q3, q4⟩ := xay KX.out hpb
   obtain ⟨wE, hWE⟩ : ∃ W, st5 (wS) w.heap.size (.int .i64 6) (.slice none 0 0) (.int .i64 cmn) (.int .i64 cmx) (.slice (some ⟨w4.heap.size, 0, none⟩) 1 1) = W := ⟨_, rfl⟩
   obtain ⟨r0, r1, r2, r3, r4, kE⟩ := xav (wS) w.heap.size y0 y1 y2 y3 y4 (.int .i64 6) (.slice none 0 0) (.int .i64 cmn) (.int .i64 cmx) (.slice (some ⟨w4.heap.size, 0, none⟩) 1 1)
   rw [hWE] at r0 r1 r2 r3 r4 kE
   unfold st5 at hWE
   rw [hWE]
   have HKE := xmA kE
   clear kE hWE y0 y1 y2 y3 y4
   refine bodyPost_ret (by simp [results, Tryz.results138, go_sem, r0, r1, r2, r3, r4]; try rfl) rfl ?_
   exact xaB (v := ⟨6, .slice none 0 0, cmn, cmx, .slice (some ⟨w4.heap.size, 0, none⟩) 1 1⟩) hpb HH.out.rb KX.out HPX.out HTX.out HKE.out
 · subst hr36
   rw [if_pos rfl, hb, show (false || (decide ((36 : Int) = 94) || decide ((36 : Int) = 36))) = true from rfl]
   go_enter Tryz.func138, Tryz.ntmps138
   go_wp2_with fail
   refine (HP.out _ (HH.out.keepsF (KI.out))).mono ?_
   rintro e w2 ⟨rfl, k2⟩
   have hs2 := k2.size
   simp at hs2
   have K2 := xmA k2
   have P2 := xmA (HH.out.keepsF (xaa.trans (KI.out) k2))
   clear k2
   go_wp2_with fail
   refine (HA.out _ P2.out).mono ?_
   rintro e w3 ⟨v, rfl, hv, h3, k3⟩
   obtain ⟨o, a1, n1, c1, m, x, a2, n2, cc2, rfl⟩ := NV.form hv
   have HV := xmA hv
   have P3 := xmA h3
   have hs3 := k3.size
   have K3 : Hid (xaa (xao pb) (w.alloc (.cells #[.int .i64 0, .slice none 0 0, .int .i64 0, .int .i64 0, .slice none 0 0] 52)) w3) := xmA ((K2.out.mono (fun _ _ e => e.elim)).trans k3)
   have hp3 := h3.lt
   clear hv h3 k3
   unfold NV.val
   go_wp2_with fail
   refine (HC.out _ (P3.out.keepsF (KI.out))).mono ?_
   rintro e w4 ⟨rfl, h4, k4⟩
   have hs4 := k4.size
   simp at hs4
   have x0 : w4.cell? ⟨w3.heap.size, 0, none⟩ = some (.int .i64 o) := k4.cell (by simp [go_sem]) (by show ¬ w3.heap.size = pb; omega)
   have x1 : w4.cell? ⟨w3.heap.size, 1, none⟩ = some (.slice a1 n1 c1) := k4.cell (by simp [go_sem]) (by show ¬ w3.heap.size = pb; omega)
   have x2 : w4.cell? ⟨w3.heap.size, 2, none⟩ = some (.int .i64 m) := k4.cell (by simp [go_sem]) (by show ¬ w3.heap.size = pb; omega)
   have x3 : w4.cell? ⟨w3.heap.size, 3, none⟩ = some (.int .i64 x) := k4.cell (by simp [go_sem]) (by show ¬ w3.heap.size = pb; omega)
   have x4 : w4.cell? ⟨w3.heap.size, 4, none⟩ = some (.slice a2 n2 cc2) := k4.cell (by simp [go_sem]) (by show ¬ w3.heap.size = pb; omega)
   have K34 : xaa (xao pb) w3 w4 := xaa.trans (KI.out) k4
   have HV4 : Hid (TAt w4 (fun b => w.heap.size < b ∧ b < w3.heap.size) ⟨o, .slice a1 n1 c1, m, x, .slice a2 n2 cc2⟩ t1) := xmA (HV.out.keepsTo K34 (fun b hb e => by have e : b = pb := e; have := hb.1; omega) (fun b hb => ⟨by have := hb.1; omega, hb.2⟩))
   have K4 := xmA (K3.out.trans K34)
   have hc3 := h4.c3
   have hf3 := h4.fr 3
   have hp4 := h4.lt
   have P4 := xmA h4
   clear h4 k4 K34
   rw [hb] at hc3
   obtain ⟨wP, hwP⟩ : ∃ W, w4.setCell ⟨pb, 3, none⟩ (.bool true) = W := ⟨_, rfl⟩
   have P5 : Hid (PaAt wP pb rv rs ⟨S2.pos, S2.deep, true⟩) := xmA (hwP ▸ P4.out.setBad true)
   have k5 : xaa (xao pb) w4 wP := hwP ▸ (xaa.refl (xao pb) _).set (p := ⟨pb, 3, none⟩) rfl _
   have hs5 := k5.size
   have hszP : w4.heap.size = wP.heap.size := by rw [← hwP]; simp
   have K5 := xmA (K4.out.trans k5)
   obtain ⟨wS, hwS⟩ : ∃ W, wP.alloc (.cells #[.int .i64 o, .slice a1 n1 c1, .int .i64 m, .int .i64 x, .slice a2 n2 cc2] 52) = W := ⟨_, rfl⟩
   have k6 : xaa (fun _ => False) wP wS := hwS ▸ (xaa.refl _ _).alloc _
   have hs6 : wS.heap.size = wP.heap.size + 1 := by rw [← hwS]; simp
   have KX := xmA (K5.out.trans (k6.mono (T := xao pb) (fun _ _ e => e.elim)))
   have HPX := xmA (P5.out.keepsF k6)
   have hT1 : TAt wS (fun b => w.heap.size < b ∧ b < wP.heap.size) ⟨o, .slice a1 n1 c1, m, x, .slice a2 n2 cc2⟩ t1 := HV4.out.keepsTo (k5.trans (k6.mono (fun _ _ e => e.elim))) (fun b hb e => by have e : b = pb := e; have := hb.1; omega) (fun b hb => ⟨hb.1, by have := hb.2; omega⟩)
   have hcell : ∀ j, j < 5 → wS.cell? ⟨w4.heap.size, 0 + 0 * 5 + j, none⟩ = some (encN ⟨o, .slice a1 n1 c1, m, x, .slice a2 n2 cc2⟩ j) := by
    intro j hj
    rw [hszP, ← hwS]
    match j, hj with
    | 0, _ => simp [go_sem, encN]
    | 1, _ => simp [go_sem, encN]
    | 2, _ => simp [go_sem, encN]
    | 3, _ => simp [go_sem, encN]
    | 4, _ => simp [go_sem, encN]
   have HTX : Hid (TAt wS (fun b => w.heap.size < b ∧ b < wS.heap.size) ⟨6, .slice none 0 0, cmn, cmx, .slice (some ⟨w4.heap.size, 0, none⟩) 1 1⟩ ⟨6, [], cmn, cmx, F.ofL [t1]⟩) := xmA ⟨rfl, rfl, rfl, Hcv.out.1, Hcv.out.2, ⟨SlOf.nil _ _ _, fun p hp => by cases hp⟩, fun b hb => by simp [Value.ownBlock] at hb,
    ⟨[⟨o, .slice a1 n1 c1, m, x, .slice a2 n2 cc2⟩], ⟨_, 1, rfl, ⟨by simp, (fun h => by cases h)⟩, by simp, fun _ => ⟨_, 0, rfl, fun i y hy j hj => by
     cases i with
     | zero => simp at hy; subst hy; exact hcell j hj
     | succ i => simp at hy⟩⟩,
    FAt.cons_iff.2 ⟨_, [], rfl, hT1.keepsTo (xaa.refl (fun _ => False) _) (fun _ _ => id) (fun b hb => ⟨hb.1, by have := hb.2; omega⟩), rfl⟩⟩,
    fun b hb => by simp [Value.ownBlock] at hb; subst hb; omega⟩
   obtain ⟨⟨y0, y1, y2, y3, y4⟩, q0, q1, q2, q3, q4⟩ := xay KX.out hpb
   have HWP := xmA hwP
   have HWS := xmA hwS
   rw [← hwS, ← hwP] at y0 y1 y2 y3 y4 q0 q1 q2 q3 q4
   have hne1 : ¬ (pb = w.heap.size) := by omega
   have hne2 : ¬ (w.heap.size = pb) := by omega
   clear k5 k6 hT1 hcell hwP hwS hszP hs5 hs6
   go_wp2_with fail
   rw [HWP.out, HWS.out]
   clear y0 y1 y2 y3 y4 q0 q1 q2 q3 q4
   obtain ⟨⟨y0, y1, y2, y3, y4⟩, q0, q1, q2, q3, q4⟩ := xay KX.out hpb
   obtain ⟨wE, hWE⟩ : ∃ W, st5 (wS) w.heap.size (.int .i64 6) (.slice none 0 0) (.int .i64 cmn) (.int .i64 cmx) (.slice (some ⟨w4.heap.size, 0, none⟩) 1 1) = W := ⟨_, rfl⟩
   obtain ⟨r0, r1, r2, r3, r4, kE⟩ := xav (wS) w.heap.size y0 y1 y2 y3 y4 (.int .i64 6) (.slice none 0 0) (.int .i64 cmn) (.int .i64 cmx) (.slice (some ⟨w4.heap.size, 0, none⟩) 1 1)
   rw [hWE] at r0 r1 r2 r3 r4 kE
   unfold st5 at hWE
   rw [hWE]
   have HKE := xmA kE
   clear kE hWE y0 y1 y2 y3 y4
   refine bodyPost_ret (by simp [results, Tryz.results138, go_sem, r0, r1, r2, r3, r4]; try rfl) rfl ?_
   exact xaB (v := ⟨6, .slice none 0 0, cmn, cmx, .slice (some ⟨w4.heap.size, 0, none⟩) 1 1⟩) hpb HH.out.rb KX.out HPX.out HTX.out HKE.out
 have f1 : (r == 94) = false := by simpa using hr94
 have f2 : (r == 36) = false := by simpa using hr36
 have f3 : decide (r = 94) = false := by simpa using hr94
 have f4 : decide (r = 36) = false := by simpa using hr36
 rw [if_pos rfl, hb, f3, f4, show (false || (false || false)) = false from rfl]
 clear hr94 hr36 f3 f4
 go_enter Tryz.func138, Tryz.ntmps138
 go_wp2_with fail
 refine (HP.out _ (HH.out.keepsF (KI.out))).mono ?_
 rintro e w2 ⟨rfl, k2⟩
 have hs2 := k2.size
 simp at hs2
 have K2 := xmA k2
 have P2 := xmA (HH.out.keepsF (xaa.trans (KI.out) k2))
 clear k2
 go_wp2_with fail
 refine (HA.out _ P2.out).mono ?_
 rintro e w3 ⟨v, rfl, hv, h3, k3⟩
 obtain ⟨o, a1, n1, c1, m, x, a2, n2, cc2, rfl⟩ := NV.form hv
 have HV := xmA hv
 have P3 := xmA h3
 have hs3 := k3.size
 have K3 : Hid (xaa (xao pb) (w.alloc (.cells #[.int .i64 0, .slice none 0 0, .int .i64 0, .int .i64 0, .slice none 0 0] 52)) w3) := xmA ((K2.out.mono (fun _ _ e => e.elim)).trans k3)
 have hp3 := h3.lt
 clear hv h3 k3
 unfold NV.val
 go_wp2_with fail
 refine (HC.out _ (P3.out.keepsF (KI.out))).mono ?_
 rintro e w4 ⟨rfl, h4, k4⟩
 have hs4 := k4.size
 simp at hs4
 have x0 : w4.cell? ⟨w3.heap.size, 0, none⟩ = some (.int .i64 o) := k4.cell (by simp [go_sem]) (by show ¬ w3.heap.size = pb; omega)
 have x1 : w4.cell? ⟨w3.heap.size, 1, none⟩ = some (.slice a1 n1 c1) := k4.cell (by simp [go_sem]) (by show ¬ w3.heap.size = pb; omega)
 have x2 : w4.cell? ⟨w3.heap.size, 2, none⟩ = some (.int .i64 m) := k4.cell (by simp [go_sem]) (by show ¬ w3.heap.size = pb; omega)
 have x3 : w4.cell? ⟨w3.heap.size, 3, none⟩ = some (.int .i64 x) := k4.cell (by simp [go_sem]) (by show ¬ w3.heap.size = pb; omega)
 have x4 : w4.cell? ⟨w3.heap.size, 4, none⟩ = some (.slice a2 n2 cc2) := k4.cell (by simp [go_sem]) (by show ¬ w3.heap.size = pb; omega)
 have K34 : xaa (xao pb) w3 w4 := xaa.trans (KI.out) k4
 have HV4 : Hid (TAt w4 (fun b => w.heap.size < b ∧ b < w3.heap.size) ⟨o, .slice a1 n1 c1, m, x, .slice a2 n2 cc2⟩ t1) := xmA (HV.out.keepsTo K34 (fun b hb e => by have e : b = pb := e; have := hb.1; omega) (fun b hb => ⟨by have := hb.1; omega, hb.2⟩))
 have K4 := xmA (K3.out.trans K34)
 have hc3 := h4.c3
 have hf3 := h4.fr 3
 have hp4 := h4.lt
 have P4 := xmA h4
 clear h4 k4 K34
 rw [hb] at hc3
 obtain ⟨wP, hwP⟩ : ∃ W, w4.setCell ⟨pb, 3, none⟩ (.bool false) = W := ⟨_, rfl⟩
 have P5 : Hid (PaAt wP pb rv rs ⟨S2.pos, S2.deep, false⟩) := xmA (hwP ▸ P4.out.setBad false)
 have k5 : xaa (xao pb) w4 wP := hwP ▸ (xaa.refl (xao pb) _).set (p := ⟨pb, 3, none⟩) rfl _
 have hs5 := k5.size
 have hszP : w4.heap.size = wP.heap.size := by rw [← hwP]; simp
 have K5 := xmA (K4.out.trans k5)
 obtain ⟨wS, hwS⟩ : ∃ W, wP.alloc (.cells #[.int .i64 o, .slice a1 n1 c1, .int .i64 m, .int .i64 x, .slice a2 n2 cc2] 52) = W := ⟨_, rfl⟩
 have k6 : xaa (fun _ => False) wP wS := hwS ▸ (xaa.refl _ _).alloc _
 have hs6 : wS.heap.size = wP.heap.size + 1 := by rw [← hwS]; simp
 have KX := xmA (K5.out.trans (k6.mono (T := xao pb) (fun _ _ e => e.elim)))
 have HPX := xmA (P5.out.keepsF k6)
 have hT1 : TAt wS (fun b => w.heap.size < b ∧ b < wP.heap.size) ⟨o, .slice a1 n1 c1, m, x, .slice a2 n2 cc2⟩ t1 := HV4.out.keepsTo (k5.trans (k6.mono (fun _ _ e => e.elim))) (fun b hb e => by have e : b = pb := e; have := hb.1; omega) (fun b hb => ⟨hb.1, by have := hb.2; omega⟩)
 have hcell : ∀ j, j < 5 → wS.cell? ⟨w4.heap.size, 0 + 0 * 5 + j, none⟩ = some (encN ⟨o, .slice a1 n1 c1, m, x, .slice a2 n2 cc2⟩ j) := by
  intro j hj
  rw [hszP, ← hwS]
  match j, hj with
  | 0, _ => simp [go_sem, encN]
  | 1, _ => simp [go_sem, encN]
  | 2, _ => simp [go_sem, encN]
  | 3, _ => simp [go_sem, encN]
  | 4, _ => simp [go_sem, encN]
 have HTX : Hid (TAt wS (fun b => w.heap.size < b ∧ b < wS.heap.size) ⟨6, .slice none 0 0, cmn, cmx, .slice (some ⟨w4.heap.size, 0, none⟩) 1 1⟩ ⟨6, [], cmn, cmx, F.ofL [t1]⟩) := xmA ⟨rfl, rfl, rfl, Hcv.out.1, Hcv.out.2, ⟨SlOf.nil _ _ _, fun p hp => by cases hp⟩, fun b hb => by simp [Value.ownBlock] at hb,
  ⟨[⟨o, .slice a1 n1 c1, m, x, .slice a2 n2 cc2⟩], ⟨_, 1, rfl, ⟨by simp, (fun h => by cases h)⟩, by simp, fun _ => ⟨_, 0, rfl, fun i y hy j hj => by
   cases i with
   | zero => simp at hy; subst hy; exact hcell j hj
   | succ i => simp at hy⟩⟩,
  FAt.cons_iff.2 ⟨_, [], rfl, hT1.keepsTo (xaa.refl (fun _ => False) _) (fun _ _ => id) (fun b hb => ⟨hb.1, by have := hb.2; omega⟩), rfl⟩⟩,
  fun b hb => by simp [Value.ownBlock] at hb; subst hb; omega⟩
 obtain ⟨⟨y0, y1, y2, y3, y4⟩, q0, q1, q2, q3, q4⟩ := xay KX.out hpb
 have HWP := xmA hwP
 have HWS := xmA hwS
 rw [← hwS, ← hwP] at y0 y1 y2 y3 y4 q0 q1 q2 q3 q4
 have hne1 : ¬ (pb = w.heap.size) := by omega
 have hne2 : ¬ (w.heap.size = pb) := by omega
 clear k5 k6 hT1 hcell hwP hwS hszP hs5 hs6
 go_wp2_with fail
 rw [HWP.out, HWS.out]
 clear y0 y1 y2 y3 y4 q0 q1 q2 q3 q4
 obtain ⟨⟨y0, y1, y2, y3, y4⟩, q0, q1, q2, q3, q4⟩ := xay KX.out hpb
 obtain ⟨wE, hWE⟩ : ∃ W, st5 (wS) w.heap.size (.int .i64 6) (.slice none 0 0) (.int .i64 cmn) (.int .i64 cmx) (.slice (some ⟨w4.heap.size, 0, none⟩) 1 1) = W := ⟨_, rfl⟩
 obtain ⟨r0, r1, r2, r3, r4, kE⟩ := xav (wS) w.heap.size y0 y1 y2 y3 y4 (.int .i64 6) (.slice none 0 0) (.int .i64 cmn) (.int .i64 cmx) (.slice (some ⟨w4.heap.size, 0, none⟩) 1 1)
 rw [hWE] at r0 r1 r2 r3 r4 kE
 unfold st5 at hWE
 rw [hWE]
 have HKE := xmA kE
 clear kE hWE y0 y1 y2 y3 y4
 refine bodyPost_ret (by simp [results, Tryz.results138, go_sem, r0, r1, r2, r3, r4]; try rfl) rfl ?_
 exact xaB (v := ⟨6, .slice none 0 0, cmn, cmx, .slice (some ⟨w4.heap.size, 0, none⟩) 1 1⟩) hpb HH.out.rb KX.out HPX.out HTX.out HKE.out
def Kb (w wr : World) (kv : Value) : Nat → Prop := fun b => w.heap.size < b ∧ b < wr.heap.size ∧ kv.ownBlock ≠ some b
structure xa6 (w : World) (pb : Nat) (rv : Value) (rs : List Int) (wr : World) (kv : Value) (s : PS) (l : List T) (vs : List NV) : Prop where
 own : wr.ownsRow (w.heap.size + 1) 52 5 kv l.length (cellsOf 5 encN vs)
 kids : FAt wr (Kb w wr kv) (F.ofL l) vs
 pa : PaAt wr pb rv rs s
 keep : xaa (xao pb) (w.alloc (.cells #[.int .i64 0, .slice none 0 0, .int .i64 0, .int .i64 0, .slice none 0 0] 52)) wr
theorem xa6.size {w wr : World} {pb : Nat} {rv kv : Value} {rs : List Int} {s : PS} {l : List T} {vs : List NV} (h : xa6 w pb rv rs wr kv s l vs) : w.heap.size < wr.heap.size := by
 have := h.keep.size; simp at this; omega
theorem xa6.start {w w1 : World} {pb : Nat} {rv : Value} {rs : List Int} {s : PS} (hP : PaAt w1 pb rv rs s) (K : xaa (xao pb) (w.alloc (.cells #[.int .i64 0, .slice none 0 0, .int .i64 0, .int .i64 0, .slice none 0 0] 52)) w1) :
 xa6 w pb rv rs w1 (.slice none 0 0) s [] [] := ⟨World.ownsRow_nil _ _ _ _, rfl, hP, K⟩
theorem xjm (v : NV) : [Value.int .i64 v.op, v.sv, .int .i64 v.mn, .int .i64 v.mx, v.kv] = cellsOf 5 encN [v] := by simp [cellsOf, xfe]
structure xhP (w : World) (pb : Nat) (rv : Value) (rs : List Int) (wr w2 : World) (kv : Value) (s2 : PS) (l : List T) (vs : List NV) (v : NV) (t : T) : Prop where
 k : xa6 w pb rv rs wr kv s2 l vs ∨ True
 own : w2.ownsRow (w.heap.size + 1) 52 5 kv l.length (cellsOf 5 encN vs)
 lt : ∀ b, kv.ownBlock = some b → b < wr.heap.size
 base : ∀ b, kv.ownBlock = some b → w.heap.size < b
 kids : FAt w2 (Kb w wr kv) (F.ofL l) vs
 node : TAt w2 (Bt wr w2) v t
 pa : PaAt w2 pb rv rs s2
 size : w.heap.size < wr.heap.size ∧ wr.heap.size ≤ w2.heap.size
 keep : xaa (xao pb) (w.alloc (.cells #[.int .i64 0, .slice none 0 0, .int .i64 0, .int .i64 0, .slice none 0 0] 52)) w2
theorem xa6.mid {w wr w2 : World} {pb : Nat} {rv kv : Value} {rs : List Int} {s s2 : PS} {l : List T} {vs : List NV} {v : NV} {t : T} (h : xa6 w pb rv rs wr kv s l vs) (hpb : pb < w.heap.size)
 (hT : TAt w2 (Bt wr w2) v t) (hP : PaAt w2 pb rv rs s2) (K : xaa (xao pb) wr w2) : xhP w pb rv rs wr w2 kv s2 l vs v t := by
 refine ⟨Or.inr trivial, xaD h.own K (by omega), xax h.own, fun b hb => by have := xab h.own b hb; omega, h.kids.keepsTo K (fun b hb e => ?_) (fun b hb => hb), hT, hP, ⟨h.size, K.size⟩, h.keep.trans K⟩
 have e : b = pb := e
 have := hb.1; omega
theorem xhP.snoc {w wr w2 w9 : World} {o : Obj} {pb : Nat} {rv kv v' : Value} {rs : List Int} {s2 : PS} {l : List T} {vs : List NV} {v : NV} {t : T} (h : xhP w pb rv rs wr w2 kv s2 l vs v t) (hpb : pb < w.heap.size) (hrb : ∀ b, rv.ownBlock = some b → b < w.heap.size)
 (hown : w9.ownsRow (w.heap.size + 1) 52 5 v' (l.length + 1) (cellsOf 5 encN vs ++ [Value.int .i64 v.op, v.sv, .int .i64 v.mn, .int .i64 v.mx, v.kv]))
 (hg : (w2.alloc o).grownBy w9 kv.ownBlock) (hloc : v'.ownBlock = kv.ownBlock ∨ v'.ownBlock = some (w2.heap.size + 1)) : xa6 w pb rv rs w9 v' s2 (l ++ [t]) (vs ++ [v]) := by
 have k9 : xaa (fun b => kv.ownBlock = some b) w2 w9 := ((xaa.refl _ _).alloc o).grown hg (fun b hb => Or.inl hb)
 have hs9 := k9.size
 have hs1 := h.size
 have e1 : ∀ b, Kb w wr kv b → Kb w w9 v' b := fun b hb => ⟨hb.1, by have := hb.2.1; omega, fun e => by
  rcases hloc with h1 | h1
  · exact hb.2.2 (h1 ▸ e)
  rw [h1] at e; have := Option.some.inj e; have := hb.2.1; omega⟩
 have e2 : ∀ b, Bt wr w2 b → Kb w w9 v' b := fun b hb => ⟨by have := hb.1; omega, by have := hb.2; omega, fun e => by
  rcases hloc with h1 | h1
  · have := h.lt b (h1 ▸ e); have := hb.1; omega
  rw [h1] at e; have := Option.some.inj e; have := hb.2; omega⟩
 refine ⟨?_, ?_, ?_, ?_⟩
 · rw [List.length_append, xai, ← xjm]; exact hown
 · exact FAt.snoc (h.kids.keepsTo k9 (fun b hb e => hb.2.2 e) e1) (h.node.keepsTo k9 (fun b hb e => by have := h.lt b e; have := hb.1; omega) e2)
 · exact h.pa.keeps k9 (fun e => by have := h.base pb e; omega) (fun b hb e => by have := h.base b e; have := hrb b hb; omega)
 exact h.keep.trans2 k9 (fun b hb e => by have := h.base b e; simp at hb; omega)
theorem xa6.keepF {w wr w' : World} {pb : Nat} {rv kv : Value} {rs : List Int} {s : PS} {l : List T} {vs : List NV} (h : xa6 w pb rv rs wr kv s l vs) (K : xaa (fun _ => False) wr w') : xa6 w pb rv rs w' kv s l vs :=
 ⟨xae h.own K (fun _ _ => id), h.kids.keepsTo K (fun _ _ => id) (fun b hb => ⟨hb.1, by have := hb.2.1; have := K.size; omega, hb.2.2⟩), h.pa.keepsF K, h.keep.trans (K.mono (fun _ _ e => e.elim))⟩
theorem xa6.slof {w wr : World} {pb : Nat} {rv kv : Value} {rs : List Int} {s : PS} {l : List T} {vs : List NV} (h : xa6 w pb rv rs wr kv s l vs) (hl : l.length ≤ 1000000) : SlOf 5 encN wr kv vs :=
 SlOf.ofOwn (by have := h.own; rwa [← h.kids.len] at this) (by rw [h.kids.len]; omega)
def PcR (f : PS → T × PS) (D : PS → Prop) (w : World) (pb : Nat) (rv : Value) (rs : List Int) (R : List T × PS) (kv r : Value) (wr : World) : Prop :=
 ∃ n s l vs, r = .int .i64 (pk rs s) ∧ xa6 w pb rv rs wr kv s l vs ∧ xc f rs n s l = R ∧ Inv rs s ∧ D s ∧ rs.length + 9 ≤ n + s.pos ∧ l.length ≤ s.pos
set_option maxHeartbeats 8000000 in
theorem xe0 {f : PS → T × PS} {rs : List Int} {C D : PS → Prop} (H : xk5 f rs C D) (w : World) (pb : Nat) (rv : Value) (s : PS) (h : PaAt w pb rv rs s) (hi : Inv rs s) (hd : D s) :
 Calls Tryz.prog 102 #[.pointer (some ⟨pb, 0, none⟩)] w (xcV w pb rv rs (xaw f rs s)) := by
 have hpb := h.lt
 have hrb := h.rb
 obtain ⟨i0, hi0, hz0, hz1, hz2⟩ := info_parts xeq
 have HH := xmA h
 have HRB := xmA hrb
 have HI := xmA hi
 have HD := xmA hd
 have HST := xmA H
 have hlen := H.len
 obtain ⟨R, hR⟩ : ∃ R, pcsR f rs s = R := ⟨_, rfl⟩
 have HR : Hid (xc f rs (rs.length + 9) s [] = R) := xmA hR
 have E : Hid (xaw f rs s = (xcc 4 R.1, R.2)) := xmA (by unfold xaw; rw [hR])
 rw [E.out]
 clear E hR h hrb hi hd H
 go_enter Tryz.func102, Tryz.ntmps102
 go_wp2_with fail
 refine (xbQ _ pb rv rs s (HH.out.keepsF (KI.out))).mono ?_
 rintro e w1 ⟨rfl, k1⟩
 have hst : xa6 w pb rv rs w1 (.slice none 0 0) s [] [] := xa6.start (HH.out.keepsF (xaa.trans (KI.out) k1)) (k1.mono (fun _ _ e => e.elim))
 have HST1 := xmA hst
 clear hst k1
 go_wp2_with fail
 go_loopw [3, 4] (fun kv r wr => PcR f D w pb rv rs R kv r wr) (fun _ _ wr => rs.length + 30 - xjZ wr pb)
 case atStart => exact ⟨rs.length + 9, s, [], [], rfl, HST1.out, HR.out, HI.out, HD.out, by omega, by simp⟩
 case round =>
  obtain ⟨n, s', l, vs, rfl, hK, hgo, hinv, hd, hn, hll⟩ := hrel
  have HK := xmA hK
  have hsz := hK.size
  obtain ⟨ka, kc, rfl⟩ := xad hK.own
  have hap := hK.pa.lt
  have Hpo := xmA (xaN hK.pa)
  have hpa := hinv.a
  have Hgo := xmA hgo
  have Hinv := xmA hinv
  have Hd := xmA hd
  clear hK hgo hinv hd
  cases hq : isPc (pk rs s') with
  | true =>
   have hp0 := xid hq
   have hroom := xaL hp0
   have g0 : decide (0 ≤ pk rs s') = true := by simpa using hp0
   have g1 : (pk rs s' != 124) = true := by simp [isPc] at hq; simpa using hq.2.1
   have g2 : (pk rs s' != 41) = true := by simp [isPc] at hq; simpa using hq.2.2
   have hcg := xez HST.out.go hp0
   have hg1 := xey HST.out.go hp0
   have Hgo2 : Hid (xc f rs (n - 1) (xau f rs s').2 (l ++ [(xau f rs s').1]) = R) := xmA (by
    have := Hgo.out
    obtain ⟨m, rfl⟩ : ∃ m, n = m + 1 := ⟨n - 1, by omega⟩
    unfold xc at this
    rw [if_pos hq] at this
    exact this)
   have HC := xmA (xhB HST.out wr pb rv s' HK.out.pa Hinv.out Hd.out hp0)
   have Hd2 := xmA (HST.out.dd _ _ Hd.out hg1)
   have Hinv2 := xmA hcg.2.2
   have hcpos := hcg.1
   obtain ⟨t1, ht1⟩ : ∃ x, (xau f rs s').1 = x := ⟨_, rfl⟩
   obtain ⟨s2, hs2⟩ : ∃ x, (xau f rs s').2 = x := ⟨_, rfl⟩
   rw [show xau f rs s' = (t1, s2) by rw [← ht1, ← hs2]] at HC
   rw [ht1, hs2] at Hgo2
   rw [hs2] at Hd2 Hinv2 hcpos
   clear ht1 hs2 hcg hg1 hq
   generalize pk rs s' = r at *
   go_wp2_with fail
   refine HC.out.mono ?_
   rintro e w2 ⟨v, rfl, hv, h2, k2⟩
   obtain ⟨o, a1, n1, c1, m, x, a2, n2, cc2, rfl⟩ := NV.form hv
   have HM := xmA (HK.out.mid hpb hv h2 k2)
   have hs2' := k2.size
   clear hv h2 k2
   unfold NV.val
   go_wp2_with (at_builtin; refine wpList_append_own_at _ rfl (.tmp 19) (.tmp 22) 50 rfl (w.heap.size + 1) 52 i0 _ 5 72 Tryz.underlying50 hi0 hz0 hz1 hz2 rfl (by decide) _ _ _ rfl (xac HM.out.own _) ⟨w2.heap.size, 0, none⟩ 1 1 [.int .i64 o, .slice a1 n1 c1, .int .i64 m, .int .i64 x, .slice a2 n2 cc2] rfl rfl (by exact xak _ [_, _, _, _, _] _) (by intro u hu; simp at hu; rcases hu with rfl | rfl | rfl | rfl | rfl <;> rfl) ?d3 ?d4 ?d5 ?_)
   case d3 => unfold maxLen; omega
   case d4 => omega
   case d5 => simp; omega
   intro v' w9 hown' hgrow _ hloc
   have HK9 := xmA (HM.out.snoc hpb HRB.out hown' hgrow hloc)
   obtain ⟨ka9, kc9, rfl⟩ := xad hown'
   have hs9 := hgrow.size
   simp at hs9
   clear hown' hgrow hloc
   have hap9 := HK9.out.pa.lt
   go_wp2_with fail
   refine (xbQ w9 pb rv rs s2 HK9.out.pa).mono ?_
   rintro e w10 ⟨rfl, k10⟩
   have HKE := xmA (HK9.out.keepF k10)
   go_wp2_with fail
   have h6 := xaN HKE.out.pa
   have h7 := Hpo.out
   have h8 := Hinv2.out.a
   go_roundw
   case rel => exact ⟨n - 1, s2, _, _, rfl, HKE.out, Hgo2.out, Hinv2.out, Hd2.out, by omega, by simp; omega⟩
   case measure => omega
  | false =>
   have hE : R = (l, s') := by
    have := Hgo.out
    cases n with
    | zero => exact this.symm
    | succ n => unfold xc at this; rw [if_neg (by rw [hq]; simp)] at this; exact this.symm
   subst hE
   have hle := xj1 HK.out.pa
   have HJ := xmA (fun (W : World) (K : xaa (fun _ => False) wr W) => xic 4 (.slice ka l.length kc) vs l (fun b => w.heap.size < b ∧ b < wr.heap.size) W
    ((HK.out.slof (by omega)).keep K) (HK.out.kids.keepsTo K (fun _ _ => id) (fun b hb => ⟨hb.1, hb.2.1⟩)) (fun b hb => ⟨by have := xab HK.out.own b hb; omega, xax HK.out.own b hb⟩))
   have hcase : (pk rs s' < 0) ∨ (pk rs s' = 124) ∨ (pk rs s' = 41) := by
    simp [isPc] at hq; omega
   rcases hcase with hc | hc | hc
   · have g0 : decide (0 ≤ pk rs s') = false := by simp; omega
     clear hq hc
     generalize pk rs s' = r at *
     go_wp2_with fail
     refine (HJ.out _ (xaa.refl _ _)).mono ?_
     rintro e w5 ⟨v, rfl, hv, k5⟩
     obtain ⟨o, a1, n1, c1, m, x, a2, n2, cc2, rfl⟩ := NV.form hv
     have KX := xmA (HK.out.keep.trans (k5.mono (T := xao pb) (fun _ _ e => e.elim)))
     have HPX := xmA (HK.out.pa.keepsF k5)
     have HTX := xmA (hv.keepsTo (Q := fun b => w.heap.size < b ∧ b < w5.heap.size) (xaa.refl (fun _ => False) _) (fun _ _ => id) (fun b hb => ⟨hb.1, by have := k5.size; omega⟩))
     obtain ⟨⟨y0, y1, y2, y3, y4⟩, q0, q1, q2, q3, q4⟩ := xay KX.out hpb
     clear hv k5
     unfold NV.val
     go_wp2_with fail
     obtain ⟨wE, hWE⟩ : ∃ W, st5 (w5) w.heap.size (.int .i64 o) (.slice a1 n1 c1) (.int .i64 m) (.int .i64 x) (.slice a2 n2 cc2) = W := ⟨_, rfl⟩
     obtain ⟨r0, r1, r2, r3, r4, kE⟩ := xav (w5) w.heap.size y0 y1 y2 y3 y4 (.int .i64 o) (.slice a1 n1 c1) (.int .i64 m) (.int .i64 x) (.slice a2 n2 cc2)
     rw [hWE] at r0 r1 r2 r3 r4 kE
     unfold st5 at hWE
     rw [hWE]
     have HKE := xmA kE
     clear kE hWE y0 y1 y2 y3 y4
     refine bodyPost_ret (by simp [results, Tryz.results102, go_sem, r0, r1, r2, r3, r4]; try rfl) rfl ?_
     exact xaB (v := ⟨o, .slice a1 n1 c1, m, x, .slice a2 n2 cc2⟩) hpb HH.out.rb KX.out HPX.out HTX.out HKE.out
   · rw [hc]
     clear hq
     go_wp2_with fail
     refine (HJ.out _ (xaa.refl _ _)).mono ?_
     rintro e w5 ⟨v, rfl, hv, k5⟩
     obtain ⟨o, a1, n1, c1, m, x, a2, n2, cc2, rfl⟩ := NV.form hv
     have KX := xmA (HK.out.keep.trans (k5.mono (T := xao pb) (fun _ _ e => e.elim)))
     have HPX := xmA (HK.out.pa.keepsF k5)
     have HTX := xmA (hv.keepsTo (Q := fun b => w.heap.size < b ∧ b < w5.heap.size) (xaa.refl (fun _ => False) _) (fun _ _ => id) (fun b hb => ⟨hb.1, by have := k5.size; omega⟩))
     obtain ⟨⟨y0, y1, y2, y3, y4⟩, q0, q1, q2, q3, q4⟩ := xay KX.out hpb
     clear hv k5
     unfold NV.val
     go_wp2_with fail
     obtain ⟨wE, hWE⟩ : ∃ W, st5 (w5) w.heap.size (.int .i64 o) (.slice a1 n1 c1) (.int .i64 m) (.int .i64 x) (.slice a2 n2 cc2) = W := ⟨_, rfl⟩
     obtain ⟨r0, r1, r2, r3, r4, kE⟩ := xav (w5) w.heap.size y0 y1 y2 y3 y4 (.int .i64 o) (.slice a1 n1 c1) (.int .i64 m) (.int .i64 x) (.slice a2 n2 cc2)
     rw [hWE] at r0 r1 r2 r3 r4 kE
     unfold st5 at hWE
     rw [hWE]
     have HKE := xmA kE
     clear kE hWE y0 y1 y2 y3 y4
     refine bodyPost_ret (by simp [results, Tryz.results102, go_sem, r0, r1, r2, r3, r4]; try rfl) rfl ?_
     exact xaB (v := ⟨o, .slice a1 n1 c1, m, x, .slice a2 n2 cc2⟩) hpb HH.out.rb KX.out HPX.out HTX.out HKE.out
   rw [hc]
   clear hq
   go_wp2_with fail
   refine (HJ.out _ (xaa.refl _ _)).mono ?_
   rintro e w5 ⟨v, rfl, hv, k5⟩
   obtain ⟨o, a1, n1, c1, m, x, a2, n2, cc2, rfl⟩ := NV.form hv
   have KX := xmA (HK.out.keep.trans (k5.mono (T := xao pb) (fun _ _ e => e.elim)))
   have HPX := xmA (HK.out.pa.keepsF k5)
   have HTX := xmA (hv.keepsTo (Q := fun b => w.heap.size < b ∧ b < w5.heap.size) (xaa.refl (fun _ => False) _) (fun _ _ => id) (fun b hb => ⟨hb.1, by have := k5.size; omega⟩))
   obtain ⟨⟨y0, y1, y2, y3, y4⟩, q0, q1, q2, q3, q4⟩ := xay KX.out hpb
   clear hv k5
   unfold NV.val
   go_wp2_with fail
   obtain ⟨wE, hWE⟩ : ∃ W, st5 (w5) w.heap.size (.int .i64 o) (.slice a1 n1 c1) (.int .i64 m) (.int .i64 x) (.slice a2 n2 cc2) = W := ⟨_, rfl⟩
   obtain ⟨r0, r1, r2, r3, r4, kE⟩ := xav (w5) w.heap.size y0 y1 y2 y3 y4 (.int .i64 o) (.slice a1 n1 c1) (.int .i64 m) (.int .i64 x) (.slice a2 n2 cc2)
   rw [hWE] at r0 r1 r2 r3 r4 kE
   unfold st5 at hWE
   rw [hWE]
   have HKE := xmA kE
   clear kE hWE y0 y1 y2 y3 y4
   refine bodyPost_ret (by simp [results, Tryz.results102, go_sem, r0, r1, r2, r3, r4]; try rfl) rfl ?_
   exact xaB (v := ⟨o, .slice a1 n1 c1, m, x, .slice a2 n2 cc2⟩) hpb HH.out.rb KX.out HPX.out HTX.out HKE.out
end Go.Proofs.YtjahiihmoglpfaaGreatDoor
