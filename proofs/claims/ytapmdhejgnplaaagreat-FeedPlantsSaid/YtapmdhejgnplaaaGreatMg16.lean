/-
  The parser's counted.
-/
import Derived.Test.YtapmdhejgnplaaaGreatMg14
import Derived.Maps.AppendAt
import Derived.Test.YtapmdhejgnplaaaGreatMg12
import Derived.Test.YtapmdhejgnplaaaGreatMg8
import Derived.Test.YtapmdhejgnplaaaGreatProg
import Derived.Lib.ItoaNum
import Derived.Lib.ConvBytes
import Derived.IntWalk
import Derived.Test.YtapmdhejgnplaaaGreatMg9
namespace Go.Proofs.YtapmdhejgnplaaaGreat
open Go.RowKit Go.Proofs.Tryz
set_option linter.unusedVariables false
set_option linter.unusedSimpArgs false
set_option maxRecDepth 100000
set_option maxHeartbeats 8000000
theorem xnS (rs : List Int) (s : PS) (h : ∀ r ∈ rs, 0 <= r /\ r <= 1114111) : in64 (cntV rs s).1 /\ in64 (cntV rs s).2.1 := by
 have hn : ∀ s', in64 (numN rs s') := fun s' => by have := xhQ rs s' h; unfold in64; omega
 have h0 : in64 (-1) := by unfold in64; decide
 have h1 : in64 1 := by unfold in64; decide
 unfold cntV
 repeat' split
 · exact ⟨xbp, h1⟩
 · exact ⟨h1, h0⟩
 · exact ⟨xbp, h0⟩
 · refine ⟨hn _, ?_⟩
   unfold brB
   repeat' split
   · exact h0
   · exact hn _
   exact hn _
 exact ⟨xbp, xbp⟩
theorem xh6 {f : PS -> T × PS} {rs : List Int} {C D : PS -> Prop} (H : xmy f rs C D) (w : World) (pb : Nat) (rv : Value) (s : PS) (h : PaAt w pb rv rs s) (hi : Inv rs s) (hd : D s) (hr : 0 <= pk rs s) :
 Calls prog 106 #[.pointer (some ⟨pb, 0, none⟩)] w (xdd w pb rv rs (xan f rs s)) := by
 have hpb := h.lt
 have hlen := H.len
 have hag := xjc H.go hr
 have hpos := hag.2.2.a
 have HP := xa (fun (W : World) (hW : PaAt W pb rv rs s) => xbW W pb rv rs s hW)
 have HA := xa (fun (W : World) (hW : PaAt W pb rv rs s) => (xn3 H W pb rv s hW hi hd hr : Calls prog 119 #[.pointer (some ⟨pb, 0, none⟩)] W (xdd W pb rv rs (xaz f rs s))))
 have hrg := xlf h
 obtain ⟨s1, hs1⟩ : ∃ x, (xaz f rs s).2 = x := ⟨_, rfl⟩
 obtain ⟨t1, ht1⟩ : ∃ x, (xaz f rs s).1 = x := ⟨_, rfl⟩
 rw [hs1] at hpos
 have HH := xa h
 have HC := xa (fun (W : World) (hW : PaAt W pb rv rs s1) => xjN W pb rv rs s1 hW (by omega))
 have hcv := xnS rs s1 h.rng
 obtain ⟨cmn, cmx, cok, hcV⟩ : ∃ a b c, cntV rs s1 = (a, b, c) := ⟨_, _, _, rfl⟩
 rw [hcV] at hcv HC
 have Hcv := xa hcv
 have E : Hid (xan f rs s = if cok then (⟨6, [], cmn, cmx, F.ofL [t1]⟩, ⟨(cntS rs s1).pos, (cntS rs s1).deep, (cntS rs s1).bad || (decide (pk rs s = 94) || decide (pk rs s = 36))⟩) else (t1, cntS rs s1)) := xa (by
  unfold xan; rw [hs1, ht1, hcV])
 unfold xdC at HA
 rw [show xaz f rs s = (t1, s1) by rw [<- hs1, <- ht1]] at HA
 rw [E.out]
 clear E
 obtain ⟨S2, hS2⟩ : ∃ x, cntS rs s1 = x := ⟨_, rfl⟩
 rw [hS2] at HC ⊢
 clear hS2 hs1 ht1 hcV h hi hd hag hcv
 generalize pk rs s = r at *
 simp only at HC
 have hcases : cok = false \/ (cok = true /\ S2.bad = true) \/ (cok = true /\ S2.bad = false /\ r = 94) \/ (cok = true /\ S2.bad = false /\ r ≠ 94 /\ r = 36) \/ (cok = true /\ S2.bad = false /\ r ≠ 94 /\ r ≠ 36) := by
  cases cok <;> cases S2.bad <;> simp <;> omega
 rcases hcases with rfl | ⟨rfl, hb⟩ | ⟨rfl, hb, hr94⟩ | ⟨rfl, hb, hr94, hr36⟩ | ⟨rfl, hb, hr94, hr36⟩
 · simp only [Bool.false_eq_true, if_false]
   go_enter func106, ntmps106
   go_wp2_with fail
   refine (HP.out _ (HH.out.keepsF (KI.out))).mono ?_
   rintro e w2 ⟨rfl, k2⟩
   have hs2 := k2.size
   simp at hs2
   have K2 := xa k2
   have P2 := xa (HH.out.keepsF (xaa.trans (KI.out) k2))
   clear k2
   go_wp2_with fail
   refine (HA.out _ P2.out).mono ?_
   rintro e w3 ⟨v, rfl, hv, h3, k3⟩
   obtain ⟨o, a1, n1, c1, m, x, a2, n2, cc2, rfl⟩ := NV.form hv
   have HV := xa hv
   have P3 := xa h3
   have hs3 := k3.size
   have K3 : Hid (xaa (xam pb) (w.alloc (.cells #[.int .i64 0, .slice none 0 0, .int .i64 0, .int .i64 0, .slice none 0 0] 73)) w3) := xa ((K2.out.mono (fun _ _ e => e.elim)).trans k3)
   have hp3 := h3.lt
   clear hv h3 k3
   unfold NV.val
   go_wp2_with fail
   refine (HC.out _ (P3.out.keepsF (KI.out))).mono ?_
   rintro e w4 ⟨rfl, h4, k4⟩
   have hs4 := k4.size
   simp at hs4
   have x0 : w4.cell? ⟨w3.heap.size, 0, none⟩ = some (.int .i64 o) := k4.cell (by simp [go_sem]) (by show ¬ w3.heap.size = pb; omega)
   have x1 : w4.cell? ⟨w3.heap.size, 1, none⟩ = some (.slice a1 n1 c1) := k4.cell (by simp [go_sem]) (by show ¬ w3.heap.size = pb; omega)
   have x2 : w4.cell? ⟨w3.heap.size, 2, none⟩ = some (.int .i64 m) := k4.cell (by simp [go_sem]) (by show ¬ w3.heap.size = pb; omega)
   have x3 : w4.cell? ⟨w3.heap.size, 3, none⟩ = some (.int .i64 x) := k4.cell (by simp [go_sem]) (by show ¬ w3.heap.size = pb; omega)
   have x4 : w4.cell? ⟨w3.heap.size, 4, none⟩ = some (.slice a2 n2 cc2) := k4.cell (by simp [go_sem]) (by show ¬ w3.heap.size = pb; omega)
   have K34 : xaa (xam pb) w3 w4 := xaa.trans (KI.out) k4
   have HV4 : Hid (TAt w4 (fun b => w.heap.size < b /\ b < w3.heap.size) ⟨o, .slice a1 n1 c1, m, x, .slice a2 n2 cc2⟩ t1) := xa (HV.out.keepsTo K34 (fun b hb e => by have e : b = pb := e; have := hb.1; omega) (fun b hb => ⟨by have := hb.1; omega, hb.2⟩))
   have K4 := xa (K3.out.trans K34)
   have hc3 := h4.c3
   have hf3 := h4.fr 3
   have hp4 := h4.lt
   have P4 := xa h4
   clear h4 k4 K34
   obtain ⟨⟨y0, y1, y2, y3, y4⟩, q0, q1, q2, q3, q4⟩ := xaC K4.out hpb
   go_wp2_with fail
   obtain ⟨wE, hWE⟩ : ∃ W, st5 (w4) w.heap.size (.int .i64 o) (.slice a1 n1 c1) (.int .i64 m) (.int .i64 x) (.slice a2 n2 cc2) = W := ⟨_, rfl⟩
   obtain ⟨r0, r1, r2, r3, r4, kE⟩ := xap (w4) w.heap.size y0 y1 y2 y3 y4 (.int .i64 o) (.slice a1 n1 c1) (.int .i64 m) (.int .i64 x) (.slice a2 n2 cc2)
   rw [hWE] at r0 r1 r2 r3 r4 kE
   unfold st5 at hWE
   rw [hWE]
   have HKE := xa kE
   clear kE hWE y0 y1 y2 y3 y4
   refine bodyPost_ret (by simp [results, results106, go_sem, r0, r1, r2, r3, r4]; try rfl) rfl ?_
   exact xaF (v := ⟨o, .slice a1 n1 c1, m, x, .slice a2 n2 cc2⟩) hpb HH.out.rb K4.out P4.out (HV4.out.keepsTo (xaa.refl (fun _ => False) _) (fun _ _ => id) (fun b hb => ⟨hb.1, by omega⟩)) HKE.out
 · rw [if_pos rfl, hb, show (true || (decide (r = 94) || decide (r = 36))) = true from rfl]
   go_enter func106, ntmps106
   go_wp2_with fail
   refine (HP.out _ (HH.out.keepsF (KI.out))).mono ?_
   rintro e w2 ⟨rfl, k2⟩
   have hs2 := k2.size
   simp at hs2
   have K2 := xa k2
   have P2 := xa (HH.out.keepsF (xaa.trans (KI.out) k2))
   clear k2
   go_wp2_with fail
   refine (HA.out _ P2.out).mono ?_
   rintro e w3 ⟨v, rfl, hv, h3, k3⟩
   obtain ⟨o, a1, n1, c1, m, x, a2, n2, cc2, rfl⟩ := NV.form hv
   have HV := xa hv
   have P3 := xa h3
   have hs3 := k3.size
   have K3 : Hid (xaa (xam pb) (w.alloc (.cells #[.int .i64 0, .slice none 0 0, .int .i64 0, .int .i64 0, .slice none 0 0] 73)) w3) := xa ((K2.out.mono (fun _ _ e => e.elim)).trans k3)
   have hp3 := h3.lt
   clear hv h3 k3
   unfold NV.val
   go_wp2_with fail
   refine (HC.out _ (P3.out.keepsF (KI.out))).mono ?_
   rintro e w4 ⟨rfl, h4, k4⟩
   have hs4 := k4.size
   simp at hs4
   have x0 : w4.cell? ⟨w3.heap.size, 0, none⟩ = some (.int .i64 o) := k4.cell (by simp [go_sem]) (by show ¬ w3.heap.size = pb; omega)
   have x1 : w4.cell? ⟨w3.heap.size, 1, none⟩ = some (.slice a1 n1 c1) := k4.cell (by simp [go_sem]) (by show ¬ w3.heap.size = pb; omega)
   have x2 : w4.cell? ⟨w3.heap.size, 2, none⟩ = some (.int .i64 m) := k4.cell (by simp [go_sem]) (by show ¬ w3.heap.size = pb; omega)
   have x3 : w4.cell? ⟨w3.heap.size, 3, none⟩ = some (.int .i64 x) := k4.cell (by simp [go_sem]) (by show ¬ w3.heap.size = pb; omega)
   have x4 : w4.cell? ⟨w3.heap.size, 4, none⟩ = some (.slice a2 n2 cc2) := k4.cell (by simp [go_sem]) (by show ¬ w3.heap.size = pb; omega)
   have K34 : xaa (xam pb) w3 w4 := xaa.trans (KI.out) k4
   have HV4 : Hid (TAt w4 (fun b => w.heap.size < b /\ b < w3.heap.size) ⟨o, .slice a1 n1 c1, m, x, .slice a2 n2 cc2⟩ t1) := xa (HV.out.keepsTo K34 (fun b hb e => by have e : b = pb := e; have := hb.1; omega) (fun b hb => ⟨by have := hb.1; omega, hb.2⟩))
   have K4 := xa (K3.out.trans K34)
   have hc3 := h4.c3
   have hf3 := h4.fr 3
   have hp4 := h4.lt
   have P4 := xa h4
   clear h4 k4 K34
   rw [hb] at hc3
   obtain ⟨wP, hwP⟩ : ∃ W, w4.setCell ⟨pb, 3, none⟩ (.bool true) = W := ⟨_, rfl⟩
   have P5 : Hid (PaAt wP pb rv rs ⟨S2.pos, S2.deep, true⟩) := xa (hwP ▸ P4.out.setBad true)
   have k5 : xaa (xam pb) w4 wP := hwP ▸ (xaa.refl (xam pb) _).set (p := ⟨pb, 3, none⟩) rfl _
   have hs5 := k5.size
   have hszP : w4.heap.size = wP.heap.size := by rw [<- hwP]; simp
   have K5 := xa (K4.out.trans k5)
   obtain ⟨wS, hwS⟩ : ∃ W, wP.alloc (.cells #[.int .i64 o, .slice a1 n1 c1, .int .i64 m, .int .i64 x, .slice a2 n2 cc2] 73) = W := ⟨_, rfl⟩
   have k6 : KF wP wS := hwS ▸ (xaa.refl _ _).alloc _
   have hs6 : wS.heap.size = wP.heap.size + 1 := by rw [<- hwS]; simp
   have KX := xa (K5.out.trans (k6.mono (T := xam pb) (fun _ _ e => e.elim)))
   have HPX := xa (P5.out.keepsF k6)
   have hT1 : TAt wS (fun b => w.heap.size < b /\ b < wP.heap.size) ⟨o, .slice a1 n1 c1, m, x, .slice a2 n2 cc2⟩ t1 := HV4.out.keepsTo (k5.trans (k6.mono (fun _ _ e => e.elim))) (fun b hb e => by have e : b = pb := e; have := hb.1; omega) (fun b hb => ⟨hb.1, by have := hb.2; omega⟩)
   have hcell : ∀ j, j < 5 -> wS.cell? ⟨w4.heap.size, 0 + 0 * 5 + j, none⟩ = some (encN ⟨o, .slice a1 n1 c1, m, x, .slice a2 n2 cc2⟩ j) := by
    intro j hj
    rw [hszP, <- hwS]
    match j, hj with
    | 0, _ => simp [go_sem, encN]
    | 1, _ => simp [go_sem, encN]
    | 2, _ => simp [go_sem, encN]
    | 3, _ => simp [go_sem, encN]
    | 4, _ => simp [go_sem, encN]
   have HTX : Hid (TAt wS (fun b => w.heap.size < b /\ b < wS.heap.size) ⟨6, .slice none 0 0, cmn, cmx, .slice (some ⟨w4.heap.size, 0, none⟩) 1 1⟩ ⟨6, [], cmn, cmx, F.ofL [t1]⟩) := xa ⟨rfl, rfl, rfl, Hcv.out.1, Hcv.out.2, ⟨SlOf.nil _ _ _, fun p hp => by cases hp⟩, fun b hb => by simp [Value.ownBlock] at hb,
    ⟨[⟨o, .slice a1 n1 c1, m, x, .slice a2 n2 cc2⟩], ⟨_, 1, rfl, ⟨by simp, (fun h => by cases h)⟩, by simp, fun _ => ⟨_, 0, rfl, fun i y hy j hj => by
     cases i with
     | zero => simp at hy; subst hy; exact hcell j hj
     | succ i => simp at hy⟩⟩,
    FAt.cons_iff.2 ⟨_, [], rfl, hT1.keepsTo (xaa.refl (fun _ => False) _) (fun _ _ => id) (fun b hb => ⟨hb.1, by have := hb.2; omega⟩), rfl⟩⟩,
    fun b hb => by simp [Value.ownBlock] at hb; subst hb; omega⟩
   obtain ⟨⟨y0, y1, y2, y3, y4⟩, q0, q1, q2, q3, q4⟩ := xaC KX.out hpb
   have HWP := xa hwP
   have HWS := xa hwS
   rw [<- hwS, <- hwP] at y0 y1 y2 y3 y4 q0 q1 q2 q3 q4
   have hne1 : ¬ (pb = w.heap.size) := by omega
   have hne2 : ¬ (w.heap.size = pb) := by omega
   clear k5 k6 hT1 hcell hwP hwS hszP hs5 hs6
   go_wp2_with fail
   rw [HWP.out, HWS.out]
   clear y0 y1 y2 y3 y4 q0 q1 q2 q3 q4
   obtain ⟨⟨y0, y1, y2, y3, y4⟩, q0, q1, q2, q3, q4⟩ := xaC KX.out hpb
   obtain ⟨wE, hWE⟩ : ∃ W, st5 (wS) w.heap.size (.int .i64 6) (.slice none 0 0) (.int .i64 cmn) (.int .i64 cmx) (.slice (some ⟨w4.heap.size, 0, none⟩) 1 1) = W := ⟨_, rfl⟩
   obtain ⟨r0, r1, r2, r3, r4, kE⟩ := xap (wS) w.heap.size y0 y1 y2 y3 y4 (.int .i64 6) (.slice none 0 0) (.int .i64 cmn) (.int .i64 cmx) (.slice (some ⟨w4.heap.size, 0, none⟩) 1 1)
   rw [hWE] at r0 r1 r2 r3 r4 kE
   unfold st5 at hWE
   rw [hWE]
   have HKE := xa kE
   clear kE hWE y0 y1 y2 y3 y4
   refine bodyPost_ret (by simp [results, results106, go_sem, r0, r1, r2, r3, r4]; try rfl) rfl ?_
   exact xaF (v := ⟨6, .slice none 0 0, cmn, cmx, .slice (some ⟨w4.heap.size, 0, none⟩) 1 1⟩) hpb HH.out.rb KX.out HPX.out HTX.out HKE.out
 · subst hr94
   rw [if_pos rfl, hb, show (false || (decide ((94 : Int) = 94) || decide ((94 : Int) = 36))) = true from rfl]
   go_enter func106, ntmps106
   go_wp2_with fail
   refine (HP.out _ (HH.out.keepsF (KI.out))).mono ?_
   rintro e w2 ⟨rfl, k2⟩
   have hs2 := k2.size
   simp at hs2
   have K2 := xa k2
   have P2 := xa (HH.out.keepsF (xaa.trans (KI.out) k2))
   clear k2
   go_wp2_with fail
   refine (HA.out _ P2.out).mono ?_
   rintro e w3 ⟨v, rfl, hv, h3, k3⟩
   obtain ⟨o, a1, n1, c1, m, x, a2, n2, cc2, rfl⟩ := NV.form hv
   have HV := xa hv
   have P3 := xa h3
   have hs3 := k3.size
   have K3 : Hid (xaa (xam pb) (w.alloc (.cells #[.int .i64 0, .slice none 0 0, .int .i64 0, .int .i64 0, .slice none 0 0] 73)) w3) := xa ((K2.out.mono (fun _ _ e => e.elim)).trans k3)
   have hp3 := h3.lt
   clear hv h3 k3
   unfold NV.val
   go_wp2_with fail
   refine (HC.out _ (P3.out.keepsF (KI.out))).mono ?_
   rintro e w4 ⟨rfl, h4, k4⟩
   have hs4 := k4.size
   simp at hs4
   have x0 : w4.cell? ⟨w3.heap.size, 0, none⟩ = some (.int .i64 o) := k4.cell (by simp [go_sem]) (by show ¬ w3.heap.size = pb; omega)
   have x1 : w4.cell? ⟨w3.heap.size, 1, none⟩ = some (.slice a1 n1 c1) := k4.cell (by simp [go_sem]) (by show ¬ w3.heap.size = pb; omega)
   have x2 : w4.cell? ⟨w3.heap.size, 2, none⟩ = some (.int .i64 m) := k4.cell (by simp [go_sem]) (by show ¬ w3.heap.size = pb; omega)
   have x3 : w4.cell? ⟨w3.heap.size, 3, none⟩ = some (.int .i64 x) := k4.cell (by simp [go_sem]) (by show ¬ w3.heap.size = pb; omega)
   have x4 : w4.cell? ⟨w3.heap.size, 4, none⟩ = some (.slice a2 n2 cc2) := k4.cell (by simp [go_sem]) (by show ¬ w3.heap.size = pb; omega)
   have K34 : xaa (xam pb) w3 w4 := xaa.trans (KI.out) k4
   have HV4 : Hid (TAt w4 (fun b => w.heap.size < b /\ b < w3.heap.size) ⟨o, .slice a1 n1 c1, m, x, .slice a2 n2 cc2⟩ t1) := xa (HV.out.keepsTo K34 (fun b hb e => by have e : b = pb := e; have := hb.1; omega) (fun b hb => ⟨by have := hb.1; omega, hb.2⟩))
   have K4 := xa (K3.out.trans K34)
   have hc3 := h4.c3
   have hf3 := h4.fr 3
   have hp4 := h4.lt
   have P4 := xa h4
   clear h4 k4 K34
   rw [hb] at hc3
   obtain ⟨wP, hwP⟩ : ∃ W, w4.setCell ⟨pb, 3, none⟩ (.bool true) = W := ⟨_, rfl⟩
   have P5 : Hid (PaAt wP pb rv rs ⟨S2.pos, S2.deep, true⟩) := xa (hwP ▸ P4.out.setBad true)
   have k5 : xaa (xam pb) w4 wP := hwP ▸ (xaa.refl (xam pb) _).set (p := ⟨pb, 3, none⟩) rfl _
   have hs5 := k5.size
   have hszP : w4.heap.size = wP.heap.size := by rw [<- hwP]; simp
   have K5 := xa (K4.out.trans k5)
   obtain ⟨wS, hwS⟩ : ∃ W, wP.alloc (.cells #[.int .i64 o, .slice a1 n1 c1, .int .i64 m, .int .i64 x, .slice a2 n2 cc2] 73) = W := ⟨_, rfl⟩
   have k6 : KF wP wS := hwS ▸ (xaa.refl _ _).alloc _
   have hs6 : wS.heap.size = wP.heap.size + 1 := by rw [<- hwS]; simp
   have KX := xa (K5.out.trans (k6.mono (T := xam pb) (fun _ _ e => e.elim)))
   have HPX := xa (P5.out.keepsF k6)
   have hT1 : TAt wS (fun b => w.heap.size < b /\ b < wP.heap.size) ⟨o, .slice a1 n1 c1, m, x, .slice a2 n2 cc2⟩ t1 := HV4.out.keepsTo (k5.trans (k6.mono (fun _ _ e => e.elim))) (fun b hb e => by have e : b = pb := e; have := hb.1; omega) (fun b hb => ⟨hb.1, by have := hb.2; omega⟩)
   have hcell : ∀ j, j < 5 -> wS.cell? ⟨w4.heap.size, 0 + 0 * 5 + j, none⟩ = some (encN ⟨o, .slice a1 n1 c1, m, x, .slice a2 n2 cc2⟩ j) := by
    intro j hj
    rw [hszP, <- hwS]
    match j, hj with
    | 0, _ => simp [go_sem, encN]
    | 1, _ => simp [go_sem, encN]
    | 2, _ => simp [go_sem, encN]
    | 3, _ => simp [go_sem, encN]
    | 4, _ => simp [go_sem, encN]
   have HTX : Hid (TAt wS (fun b => w.heap.size < b /\ b < wS.heap.size) ⟨6, .slice none 0 0, cmn, cmx, .slice (some ⟨w4.heap.size, 0, none⟩) 1 1⟩ ⟨6, [], cmn, cmx, F.ofL [t1]⟩) := xa ⟨rfl, rfl, rfl, Hcv.out.1, Hcv.out.2, ⟨SlOf.nil _ _ _, fun p hp => by cases hp⟩, fun b hb => by simp [Value.ownBlock] at hb,
    ⟨[⟨o, .slice a1 n1 c1, m, x, .slice a2 n2 cc2⟩], ⟨_, 1, rfl, ⟨by simp, (fun h => by cases h)⟩, by simp, fun _ => ⟨_, 0, rfl, fun i y hy j hj => by
     cases i with
     | zero => simp at hy; subst hy; exact hcell j hj
     | succ i => simp at hy⟩⟩,
    FAt.cons_iff.2 ⟨_, [], rfl, hT1.keepsTo (xaa.refl (fun _ => False) _) (fun _ _ => id) (fun b hb => ⟨hb.1, by have := hb.2; omega⟩), rfl⟩⟩,
    fun b hb => by simp [Value.ownBlock] at hb; subst hb; omega⟩
   obtain ⟨⟨y0, y1, y2, y3, y4⟩, q0, q1, q2, q3, q4⟩ := xaC KX.out hpb
   have HWP := xa hwP
   have HWS := xa hwS
   rw [<- hwS, <- hwP] at y0 y1 y2 y3 y4 q0 q1 q2 q3 q4
   have hne1 : ¬ (pb = w.heap.size) := by omega
   have hne2 : ¬ (w.heap.size = pb) := by omega
   clear k5 k6 hT1 hcell hwP hwS hszP hs5 hs6
   go_wp2_with fail
   rw [HWP.out, HWS.out]
   clear y0 y1 y2 y3 y4 q0 q1 q2 q3 q4
   obtain ⟨⟨y0, y1, y2, y3, y4⟩, q0, q1, q2, q3, q4⟩ := xaC KX.out hpb
   obtain ⟨wE, hWE⟩ : ∃ W, st5 (wS) w.heap.size (.int .i64 6) (.slice none 0 0) (.int .i64 cmn) (.int .i64 cmx) (.slice (some ⟨w4.heap.size, 0, none⟩) 1 1) = W := ⟨_, rfl⟩
   obtain ⟨r0, r1, r2, r3, r4, kE⟩ := xap (wS) w.heap.size y0 y1 y2 y3 y4 (.int .i64 6) (.slice none 0 0) (.int .i64 cmn) (.int .i64 cmx) (.slice (some ⟨w4.heap.size, 0, none⟩) 1 1)
   rw [hWE] at r0 r1 r2 r3 r4 kE
   unfold st5 at hWE
   rw [hWE]
   have HKE := xa kE
   clear kE hWE y0 y1 y2 y3 y4
   refine bodyPost_ret (by simp [results, results106, go_sem, r0, r1, r2, r3, r4]; try rfl) rfl ?_
   exact xaF (v := ⟨6, .slice none 0 0, cmn, cmx, .slice (some ⟨w4.heap.size, 0, none⟩) 1 1⟩) hpb HH.out.rb KX.out HPX.out HTX.out HKE.out
 · subst hr36
   rw [if_pos rfl, hb, show (false || (decide ((36 : Int) = 94) || decide ((36 : Int) = 36))) = true from rfl]
   go_enter func106, ntmps106
   go_wp2_with fail
   refine (HP.out _ (HH.out.keepsF (KI.out))).mono ?_
   rintro e w2 ⟨rfl, k2⟩
   have hs2 := k2.size
   simp at hs2
   have K2 := xa k2
   have P2 := xa (HH.out.keepsF (xaa.trans (KI.out) k2))
   clear k2
   go_wp2_with fail
   refine (HA.out _ P2.out).mono ?_
   rintro e w3 ⟨v, rfl, hv, h3, k3⟩
   obtain ⟨o, a1, n1, c1, m, x, a2, n2, cc2, rfl⟩ := NV.form hv
   have HV := xa hv
   have P3 := xa h3
   have hs3 := k3.size
   have K3 : Hid (xaa (xam pb) (w.alloc (.cells #[.int .i64 0, .slice none 0 0, .int .i64 0, .int .i64 0, .slice none 0 0] 73)) w3) := xa ((K2.out.mono (fun _ _ e => e.elim)).trans k3)
   have hp3 := h3.lt
   clear hv h3 k3
   unfold NV.val
   go_wp2_with fail
   refine (HC.out _ (P3.out.keepsF (KI.out))).mono ?_
   rintro e w4 ⟨rfl, h4, k4⟩
   have hs4 := k4.size
   simp at hs4
   have x0 : w4.cell? ⟨w3.heap.size, 0, none⟩ = some (.int .i64 o) := k4.cell (by simp [go_sem]) (by show ¬ w3.heap.size = pb; omega)
   have x1 : w4.cell? ⟨w3.heap.size, 1, none⟩ = some (.slice a1 n1 c1) := k4.cell (by simp [go_sem]) (by show ¬ w3.heap.size = pb; omega)
   have x2 : w4.cell? ⟨w3.heap.size, 2, none⟩ = some (.int .i64 m) := k4.cell (by simp [go_sem]) (by show ¬ w3.heap.size = pb; omega)
   have x3 : w4.cell? ⟨w3.heap.size, 3, none⟩ = some (.int .i64 x) := k4.cell (by simp [go_sem]) (by show ¬ w3.heap.size = pb; omega)
   have x4 : w4.cell? ⟨w3.heap.size, 4, none⟩ = some (.slice a2 n2 cc2) := k4.cell (by simp [go_sem]) (by show ¬ w3.heap.size = pb; omega)
   have K34 : xaa (xam pb) w3 w4 := xaa.trans (KI.out) k4
   have HV4 : Hid (TAt w4 (fun b => w.heap.size < b /\ b < w3.heap.size) ⟨o, .slice a1 n1 c1, m, x, .slice a2 n2 cc2⟩ t1) := xa (HV.out.keepsTo K34 (fun b hb e => by have e : b = pb := e; have := hb.1; omega) (fun b hb => ⟨by have := hb.1; omega, hb.2⟩))
   have K4 := xa (K3.out.trans K34)
   have hc3 := h4.c3
   have hf3 := h4.fr 3
   have hp4 := h4.lt
   have P4 := xa h4
   clear h4 k4 K34
   rw [hb] at hc3
   obtain ⟨wP, hwP⟩ : ∃ W, w4.setCell ⟨pb, 3, none⟩ (.bool true) = W := ⟨_, rfl⟩
   have P5 : Hid (PaAt wP pb rv rs ⟨S2.pos, S2.deep, true⟩) := xa (hwP ▸ P4.out.setBad true)
   have k5 : xaa (xam pb) w4 wP := hwP ▸ (xaa.refl (xam pb) _).set (p := ⟨pb, 3, none⟩) rfl _
   have hs5 := k5.size
   have hszP : w4.heap.size = wP.heap.size := by rw [<- hwP]; simp
   have K5 := xa (K4.out.trans k5)
   obtain ⟨wS, hwS⟩ : ∃ W, wP.alloc (.cells #[.int .i64 o, .slice a1 n1 c1, .int .i64 m, .int .i64 x, .slice a2 n2 cc2] 73) = W := ⟨_, rfl⟩
   have k6 : KF wP wS := hwS ▸ (xaa.refl _ _).alloc _
   have hs6 : wS.heap.size = wP.heap.size + 1 := by rw [<- hwS]; simp
   have KX := xa (K5.out.trans (k6.mono (T := xam pb) (fun _ _ e => e.elim)))
   have HPX := xa (P5.out.keepsF k6)
   have hT1 : TAt wS (fun b => w.heap.size < b /\ b < wP.heap.size) ⟨o, .slice a1 n1 c1, m, x, .slice a2 n2 cc2⟩ t1 := HV4.out.keepsTo (k5.trans (k6.mono (fun _ _ e => e.elim))) (fun b hb e => by have e : b = pb := e; have := hb.1; omega) (fun b hb => ⟨hb.1, by have := hb.2; omega⟩)
   have hcell : ∀ j, j < 5 -> wS.cell? ⟨w4.heap.size, 0 + 0 * 5 + j, none⟩ = some (encN ⟨o, .slice a1 n1 c1, m, x, .slice a2 n2 cc2⟩ j) := by
    intro j hj
    rw [hszP, <- hwS]
    match j, hj with
    | 0, _ => simp [go_sem, encN]
    | 1, _ => simp [go_sem, encN]
    | 2, _ => simp [go_sem, encN]
    | 3, _ => simp [go_sem, encN]
    | 4, _ => simp [go_sem, encN]
   have HTX : Hid (TAt wS (fun b => w.heap.size < b /\ b < wS.heap.size) ⟨6, .slice none 0 0, cmn, cmx, .slice (some ⟨w4.heap.size, 0, none⟩) 1 1⟩ ⟨6, [], cmn, cmx, F.ofL [t1]⟩) := xa ⟨rfl, rfl, rfl, Hcv.out.1, Hcv.out.2, ⟨SlOf.nil _ _ _, fun p hp => by cases hp⟩, fun b hb => by simp [Value.ownBlock] at hb,
    ⟨[⟨o, .slice a1 n1 c1, m, x, .slice a2 n2 cc2⟩], ⟨_, 1, rfl, ⟨by simp, (fun h => by cases h)⟩, by simp, fun _ => ⟨_, 0, rfl, fun i y hy j hj => by
     cases i with
     | zero => simp at hy; subst hy; exact hcell j hj
     | succ i => simp at hy⟩⟩,
    FAt.cons_iff.2 ⟨_, [], rfl, hT1.keepsTo (xaa.refl (fun _ => False) _) (fun _ _ => id) (fun b hb => ⟨hb.1, by have := hb.2; omega⟩), rfl⟩⟩,
    fun b hb => by simp [Value.ownBlock] at hb; subst hb; omega⟩
   obtain ⟨⟨y0, y1, y2, y3, y4⟩, q0, q1, q2, q3, q4⟩ := xaC KX.out hpb
   have HWP := xa hwP
   have HWS := xa hwS
   rw [<- hwS, <- hwP] at y0 y1 y2 y3 y4 q0 q1 q2 q3 q4
   have hne1 : ¬ (pb = w.heap.size) := by omega
   have hne2 : ¬ (w.heap.size = pb) := by omega
   clear k5 k6 hT1 hcell hwP hwS hszP hs5 hs6
   go_wp2_with fail
   rw [HWP.out, HWS.out]
   clear y0 y1 y2 y3 y4 q0 q1 q2 q3 q4
   obtain ⟨⟨y0, y1, y2, y3, y4⟩, q0, q1, q2, q3, q4⟩ := xaC KX.out hpb
   obtain ⟨wE, hWE⟩ : ∃ W, st5 (wS) w.heap.size (.int .i64 6) (.slice none 0 0) (.int .i64 cmn) (.int .i64 cmx) (.slice (some ⟨w4.heap.size, 0, none⟩) 1 1) = W := ⟨_, rfl⟩
   obtain ⟨r0, r1, r2, r3, r4, kE⟩ := xap (wS) w.heap.size y0 y1 y2 y3 y4 (.int .i64 6) (.slice none 0 0) (.int .i64 cmn) (.int .i64 cmx) (.slice (some ⟨w4.heap.size, 0, none⟩) 1 1)
   rw [hWE] at r0 r1 r2 r3 r4 kE
   unfold st5 at hWE
   rw [hWE]
   have HKE := xa kE
   clear kE hWE y0 y1 y2 y3 y4
   refine bodyPost_ret (by simp [results, results106, go_sem, r0, r1, r2, r3, r4]; try rfl) rfl ?_
   exact xaF (v := ⟨6, .slice none 0 0, cmn, cmx, .slice (some ⟨w4.heap.size, 0, none⟩) 1 1⟩) hpb HH.out.rb KX.out HPX.out HTX.out HKE.out
 have f1 : (r == 94) = false := by simpa using hr94
 have f2 : (r == 36) = false := by simpa using hr36
 have f3 : decide (r = 94) = false := by simpa using hr94
 have f4 : decide (r = 36) = false := by simpa using hr36
 rw [if_pos rfl, hb, f3, f4, show (false || (false || false)) = false from rfl]
 clear hr94 hr36 f3 f4
 go_enter func106, ntmps106
 go_wp2_with fail
 refine (HP.out _ (HH.out.keepsF (KI.out))).mono ?_
 rintro e w2 ⟨rfl, k2⟩
 have hs2 := k2.size
 simp at hs2
 have K2 := xa k2
 have P2 := xa (HH.out.keepsF (xaa.trans (KI.out) k2))
 clear k2
 go_wp2_with fail
 refine (HA.out _ P2.out).mono ?_
 rintro e w3 ⟨v, rfl, hv, h3, k3⟩
 obtain ⟨o, a1, n1, c1, m, x, a2, n2, cc2, rfl⟩ := NV.form hv
 have HV := xa hv
 have P3 := xa h3
 have hs3 := k3.size
 have K3 : Hid (xaa (xam pb) (w.alloc (.cells #[.int .i64 0, .slice none 0 0, .int .i64 0, .int .i64 0, .slice none 0 0] 73)) w3) := xa ((K2.out.mono (fun _ _ e => e.elim)).trans k3)
 have hp3 := h3.lt
 clear hv h3 k3
 unfold NV.val
 go_wp2_with fail
 refine (HC.out _ (P3.out.keepsF (KI.out))).mono ?_
 rintro e w4 ⟨rfl, h4, k4⟩
 have hs4 := k4.size
 simp at hs4
 have x0 : w4.cell? ⟨w3.heap.size, 0, none⟩ = some (.int .i64 o) := k4.cell (by simp [go_sem]) (by show ¬ w3.heap.size = pb; omega)
 have x1 : w4.cell? ⟨w3.heap.size, 1, none⟩ = some (.slice a1 n1 c1) := k4.cell (by simp [go_sem]) (by show ¬ w3.heap.size = pb; omega)
 have x2 : w4.cell? ⟨w3.heap.size, 2, none⟩ = some (.int .i64 m) := k4.cell (by simp [go_sem]) (by show ¬ w3.heap.size = pb; omega)
 have x3 : w4.cell? ⟨w3.heap.size, 3, none⟩ = some (.int .i64 x) := k4.cell (by simp [go_sem]) (by show ¬ w3.heap.size = pb; omega)
 have x4 : w4.cell? ⟨w3.heap.size, 4, none⟩ = some (.slice a2 n2 cc2) := k4.cell (by simp [go_sem]) (by show ¬ w3.heap.size = pb; omega)
 have K34 : xaa (xam pb) w3 w4 := xaa.trans (KI.out) k4
 have HV4 : Hid (TAt w4 (fun b => w.heap.size < b /\ b < w3.heap.size) ⟨o, .slice a1 n1 c1, m, x, .slice a2 n2 cc2⟩ t1) := xa (HV.out.keepsTo K34 (fun b hb e => by have e : b = pb := e; have := hb.1; omega) (fun b hb => ⟨by have := hb.1; omega, hb.2⟩))
 have K4 := xa (K3.out.trans K34)
 have hc3 := h4.c3
 have hf3 := h4.fr 3
 have hp4 := h4.lt
 have P4 := xa h4
 clear h4 k4 K34
 rw [hb] at hc3
 obtain ⟨wP, hwP⟩ : ∃ W, w4.setCell ⟨pb, 3, none⟩ (.bool false) = W := ⟨_, rfl⟩
 have P5 : Hid (PaAt wP pb rv rs ⟨S2.pos, S2.deep, false⟩) := xa (hwP ▸ P4.out.setBad false)
 have k5 : xaa (xam pb) w4 wP := hwP ▸ (xaa.refl (xam pb) _).set (p := ⟨pb, 3, none⟩) rfl _
 have hs5 := k5.size
 have hszP : w4.heap.size = wP.heap.size := by rw [<- hwP]; simp
 have K5 := xa (K4.out.trans k5)
 obtain ⟨wS, hwS⟩ : ∃ W, wP.alloc (.cells #[.int .i64 o, .slice a1 n1 c1, .int .i64 m, .int .i64 x, .slice a2 n2 cc2] 73) = W := ⟨_, rfl⟩
 have k6 : KF wP wS := hwS ▸ (xaa.refl _ _).alloc _
 have hs6 : wS.heap.size = wP.heap.size + 1 := by rw [<- hwS]; simp
 have KX := xa (K5.out.trans (k6.mono (T := xam pb) (fun _ _ e => e.elim)))
 have HPX := xa (P5.out.keepsF k6)
 have hT1 : TAt wS (fun b => w.heap.size < b /\ b < wP.heap.size) ⟨o, .slice a1 n1 c1, m, x, .slice a2 n2 cc2⟩ t1 := HV4.out.keepsTo (k5.trans (k6.mono (fun _ _ e => e.elim))) (fun b hb e => by have e : b = pb := e; have := hb.1; omega) (fun b hb => ⟨hb.1, by have := hb.2; omega⟩)
 have hcell : ∀ j, j < 5 -> wS.cell? ⟨w4.heap.size, 0 + 0 * 5 + j, none⟩ = some (encN ⟨o, .slice a1 n1 c1, m, x, .slice a2 n2 cc2⟩ j) := by
  intro j hj
  rw [hszP, <- hwS]
  match j, hj with
  | 0, _ => simp [go_sem, encN]
  | 1, _ => simp [go_sem, encN]
  | 2, _ => simp [go_sem, encN]
  | 3, _ => simp [go_sem, encN]
  | 4, _ => simp [go_sem, encN]
 have HTX : Hid (TAt wS (fun b => w.heap.size < b /\ b < wS.heap.size) ⟨6, .slice none 0 0, cmn, cmx, .slice (some ⟨w4.heap.size, 0, none⟩) 1 1⟩ ⟨6, [], cmn, cmx, F.ofL [t1]⟩) := xa ⟨rfl, rfl, rfl, Hcv.out.1, Hcv.out.2, ⟨SlOf.nil _ _ _, fun p hp => by cases hp⟩, fun b hb => by simp [Value.ownBlock] at hb,
  ⟨[⟨o, .slice a1 n1 c1, m, x, .slice a2 n2 cc2⟩], ⟨_, 1, rfl, ⟨by simp, (fun h => by cases h)⟩, by simp, fun _ => ⟨_, 0, rfl, fun i y hy j hj => by
   cases i with
   | zero => simp at hy; subst hy; exact hcell j hj
   | succ i => simp at hy⟩⟩,
  FAt.cons_iff.2 ⟨_, [], rfl, hT1.keepsTo (xaa.refl (fun _ => False) _) (fun _ _ => id) (fun b hb => ⟨hb.1, by have := hb.2; omega⟩), rfl⟩⟩,
  fun b hb => by simp [Value.ownBlock] at hb; subst hb; omega⟩
 obtain ⟨⟨y0, y1, y2, y3, y4⟩, q0, q1, q2, q3, q4⟩ := xaC KX.out hpb
 have HWP := xa hwP
 have HWS := xa hwS
 rw [<- hwS, <- hwP] at y0 y1 y2 y3 y4 q0 q1 q2 q3 q4
 have hne1 : ¬ (pb = w.heap.size) := by omega
 have hne2 : ¬ (w.heap.size = pb) := by omega
 clear k5 k6 hT1 hcell hwP hwS hszP hs5 hs6
 go_wp2_with fail
 rw [HWP.out, HWS.out]
 clear y0 y1 y2 y3 y4 q0 q1 q2 q3 q4
 obtain ⟨⟨y0, y1, y2, y3, y4⟩, q0, q1, q2, q3, q4⟩ := xaC KX.out hpb
 obtain ⟨wE, hWE⟩ : ∃ W, st5 (wS) w.heap.size (.int .i64 6) (.slice none 0 0) (.int .i64 cmn) (.int .i64 cmx) (.slice (some ⟨w4.heap.size, 0, none⟩) 1 1) = W := ⟨_, rfl⟩
 obtain ⟨r0, r1, r2, r3, r4, kE⟩ := xap (wS) w.heap.size y0 y1 y2 y3 y4 (.int .i64 6) (.slice none 0 0) (.int .i64 cmn) (.int .i64 cmx) (.slice (some ⟨w4.heap.size, 0, none⟩) 1 1)
 rw [hWE] at r0 r1 r2 r3 r4 kE
 unfold st5 at hWE
 rw [hWE]
 have HKE := xa kE
 clear kE hWE y0 y1 y2 y3 y4
 refine bodyPost_ret (by simp [results, results106, go_sem, r0, r1, r2, r3, r4]; try rfl) rfl ?_
 exact xaF (v := ⟨6, .slice none 0 0, cmn, cmx, .slice (some ⟨w4.heap.size, 0, none⟩) 1 1⟩) hpb HH.out.rb KX.out HPX.out HTX.out HKE.out
def Kb (w wr : World) (kv : Value) : Nat -> Prop := fun b => w.heap.size < b /\ b < wr.heap.size /\ kv.ownBlock ≠ some b
structure xb (w : World) (pb : Nat) (rv : Value) (rs : List Int) (wr : World) (kv : Value) (s : PS) (l : List T) (vs : List NV) : Prop where
 own : wr.ownsRow (w.heap.size + 1) 73 5 kv l.length (cellsOf 5 encN vs)
 kids : FAt wr (Kb w wr kv) (F.ofL l) vs
 pa : PaAt wr pb rv rs s
 keep : xaa (xam pb) (w.alloc (.cells #[.int .i64 0, .slice none 0 0, .int .i64 0, .int .i64 0, .slice none 0 0] 73)) wr
theorem xb.size {w wr : World} {pb : Nat} {rv kv : Value} {rs : List Int} {s : PS} {l : List T} {vs : List NV} (h : xb w pb rv rs wr kv s l vs) : w.heap.size < wr.heap.size := by
 have := h.keep.size; simp at this; omega
theorem xb.start {w w1 : World} {pb : Nat} {rv : Value} {rs : List Int} {s : PS} (hP : PaAt w1 pb rv rs s) (K : xaa (xam pb) (w.alloc (.cells #[.int .i64 0, .slice none 0 0, .int .i64 0, .int .i64 0, .slice none 0 0] 73)) w1) :
 xb w pb rv rs w1 (.slice none 0 0) s [] [] := ⟨World.ownsRow_nil _ _ _ _, rfl, hP, K⟩
theorem xkp (v : NV) : [Value.int .i64 v.op, v.sv, .int .i64 v.mn, .int .i64 v.mx, v.kv] = cellsOf 5 encN [v] := by simp [cellsOf, xfG]
structure xin (w : World) (pb : Nat) (rv : Value) (rs : List Int) (wr w2 : World) (kv : Value) (s2 : PS) (l : List T) (vs : List NV) (v : NV) (t : T) : Prop where
 k : xb w pb rv rs wr kv s2 l vs \/ True
 own : w2.ownsRow (w.heap.size + 1) 73 5 kv l.length (cellsOf 5 encN vs)
 lt : ∀ b, kv.ownBlock = some b -> b < wr.heap.size
 base : ∀ b, kv.ownBlock = some b -> w.heap.size < b
 kids : FAt w2 (Kb w wr kv) (F.ofL l) vs
 node : TAt w2 (Bt wr w2) v t
 pa : PaAt w2 pb rv rs s2
 size : w.heap.size < wr.heap.size /\ wr.heap.size <= w2.heap.size
 keep : xaa (xam pb) (w.alloc (.cells #[.int .i64 0, .slice none 0 0, .int .i64 0, .int .i64 0, .slice none 0 0] 73)) w2
theorem xb.mid {w wr w2 : World} {pb : Nat} {rv kv : Value} {rs : List Int} {s s2 : PS} {l : List T} {vs : List NV} {v : NV} {t : T} (h : xb w pb rv rs wr kv s l vs) (hpb : pb < w.heap.size)
 (hT : TAt w2 (Bt wr w2) v t) (hP : PaAt w2 pb rv rs s2) (K : xaa (xam pb) wr w2) : xin w pb rv rs wr w2 kv s2 l vs v t := by
 refine ⟨Or.inr trivial, xaH h.own K (by omega), xaM h.own, fun b hb => by have := xab h.own b hb; omega, h.kids.keepsTo K (fun b hb e => ?_) (fun b hb => hb), hT, hP, ⟨h.size, K.size⟩, h.keep.trans K⟩
 have e : b = pb := e
 have := hb.1; omega
theorem xin.snoc {w wr w2 w9 : World} {o : Obj} {pb : Nat} {rv kv v' : Value} {rs : List Int} {s2 : PS} {l : List T} {vs : List NV} {v : NV} {t : T} (h : xin w pb rv rs wr w2 kv s2 l vs v t) (hpb : pb < w.heap.size) (hrb : ∀ b, rv.ownBlock = some b -> b < w.heap.size)
 (hown : w9.ownsRow (w.heap.size + 1) 73 5 v' (l.length + 1) (cellsOf 5 encN vs ++ [Value.int .i64 v.op, v.sv, .int .i64 v.mn, .int .i64 v.mx, v.kv]))
 (hg : (w2.alloc o).grownBy w9 kv.ownBlock) (hloc : v'.ownBlock = kv.ownBlock \/ v'.ownBlock = some (w2.heap.size + 1)) : xb w pb rv rs w9 v' s2 (l ++ [t]) (vs ++ [v]) := by
 have k9 : xaa (fun b => kv.ownBlock = some b) w2 w9 := ((xaa.refl _ _).alloc o).grown hg (fun b hb => Or.inl hb)
 have hs9 := k9.size
 have hs1 := h.size
 have e1 : ∀ b, Kb w wr kv b -> Kb w w9 v' b := fun b hb => ⟨hb.1, by have := hb.2.1; omega, fun e => by
  rcases hloc with h1 | h1
  · exact hb.2.2 (h1 ▸ e)
  rw [h1] at e; have := Option.some.inj e; have := hb.2.1; omega⟩
 have e2 : ∀ b, Bt wr w2 b -> Kb w w9 v' b := fun b hb => ⟨by have := hb.1; omega, by have := hb.2; omega, fun e => by
  rcases hloc with h1 | h1
  · have := h.lt b (h1 ▸ e); have := hb.1; omega
  rw [h1] at e; have := Option.some.inj e; have := hb.2; omega⟩
 refine ⟨?_, ?_, ?_, ?_⟩
 · rw [List.length_append, xah, <- xkp]; exact hown
 · exact FAt.snoc (h.kids.keepsTo k9 (fun b hb e => hb.2.2 e) e1) (h.node.keepsTo k9 (fun b hb e => by have := h.lt b e; have := hb.1; omega) e2)
 · exact h.pa.keeps k9 (fun e => by have := h.base pb e; omega) (fun b hb e => by have := h.base b e; have := hrb b hb; omega)
 exact h.keep.trans2 k9 (fun b hb e => by have := h.base b e; simp at hb; omega)
theorem xb.keepF {w wr w' : World} {pb : Nat} {rv kv : Value} {rs : List Int} {s : PS} {l : List T} {vs : List NV} (h : xb w pb rv rs wr kv s l vs) (K : KF wr w') : xb w pb rv rs w' kv s l vs :=
 ⟨xag h.own K (fun _ _ => id), h.kids.keepsTo K (fun _ _ => id) (fun b hb => ⟨hb.1, by have := hb.2.1; have := K.size; omega, hb.2.2⟩), h.pa.keepsF K, h.keep.trans (K.mono (fun _ _ e => e.elim))⟩
theorem xb.slof {w wr : World} {pb : Nat} {rv kv : Value} {rs : List Int} {s : PS} {l : List T} {vs : List NV} (h : xb w pb rv rs wr kv s l vs) (hl : l.length <= 1000000) : SlOf 5 encN wr kv vs :=
 SlOf.ofOwn (by have := h.own; rwa [<- h.kids.len] at this) (by rw [h.kids.len]; omega)
def PcR (f : PS -> T × PS) (D : PS -> Prop) (w : World) (pb : Nat) (rv : Value) (rs : List Int) (R : List T × PS) (kv r : Value) (wr : World) : Prop :=
 ∃ n s l vs, r = .int .i64 (pk rs s) /\ xb w pb rv rs wr kv s l vs /\ xbn f rs n s l = R /\ Inv rs s /\ D s /\ rs.length + 9 <= n + s.pos /\ l.length <= s.pos
theorem xfr {f : PS -> T × PS} {rs : List Int} {C D : PS -> Prop} (H : xmy f rs C D) (w : World) (pb : Nat) (rv : Value) (s : PS) (h : PaAt w pb rv rs s) (hi : Inv rs s) (hd : D s) :
 Calls prog 91 #[.pointer (some ⟨pb, 0, none⟩)] w (xdd w pb rv rs (xar f rs s)) := by
 have hpb := h.lt
 have hrb := h.rb
 obtain ⟨i0, hi0, hz0, hz1, hz2⟩ := info_parts xeS
 have HH := xa h
 have HRB := xa hrb
 have HI := xa hi
 have HD := xa hd
 have HST := xa H
 have hlen := H.len
 obtain ⟨R, hR⟩ : ∃ R, pcsR f rs s = R := ⟨_, rfl⟩
 have HR : Hid (xbn f rs (rs.length + 9) s [] = R) := xa hR
 have E : Hid (xar f rs s = (xa4 4 R.1, R.2)) := xa (by unfold xar; rw [hR])
 rw [E.out]
 clear E hR h hrb hi hd H
 go_enter func91, ntmps91
 go_wp2_with fail
 refine (xbW _ pb rv rs s (HH.out.keepsF (KI.out))).mono ?_
 rintro e w1 ⟨rfl, k1⟩
 have hst : xb w pb rv rs w1 (.slice none 0 0) s [] [] := xb.start (HH.out.keepsF (xaa.trans (KI.out) k1)) (k1.mono (fun _ _ e => e.elim))
 have HST1 := xa hst
 clear hst k1
 go_wp2_with fail
 go_loopw [3, 4] (fun kv r wr => PcR f D w pb rv rs R kv r wr) (fun _ _ wr => rs.length + 30 - xle wr pb)
 case atStart => exact ⟨rs.length + 9, s, [], [], rfl, HST1.out, HR.out, HI.out, HD.out, by omega, by simp⟩
 case round =>
  obtain ⟨n, s', l, vs, rfl, hK, hgo, hinv, hd, hn, hll⟩ := hrel
  have HK := xa hK
  have hsz := hK.size
  obtain ⟨ka, kc, rfl⟩ := xad hK.own
  have hap := hK.pa.lt
  have Hpo := xa (xaT hK.pa)
  have hpa := hinv.a
  have Hgo := xa hgo
  have Hinv := xa hinv
  have Hd := xa hd
  clear hK hgo hinv hd
  cases hq : isPc (pk rs s') with
  | true =>
   have hp0 := xf7 hq
   have hroom := xaK hp0
   have g0 : decide (0 <= pk rs s') = true := by simpa using hp0
   have g1 : (pk rs s' != 124) = true := by simp [isPc] at hq; simpa using hq.2.1
   have g2 : (pk rs s' != 41) = true := by simp [isPc] at hq; simpa using hq.2.2
   have hcg := xd HST.out.go hp0
   have hg1 := xeW HST.out.go hp0
   have Hgo2 : Hid (xbn f rs (n - 1) (xan f rs s').2 (l ++ [(xan f rs s').1]) = R) := xa (by
    have := Hgo.out
    obtain ⟨m, rfl⟩ : ∃ m, n = m + 1 := ⟨n - 1, by omega⟩
    unfold xbn at this
    rw [if_pos hq] at this
    exact this)
   have HC := xa (xh6 HST.out wr pb rv s' HK.out.pa Hinv.out Hd.out hp0)
   have Hd2 := xa (HST.out.dd _ _ Hd.out hg1)
   have Hinv2 := xa hcg.2.2
   have hcpos := hcg.1
   obtain ⟨t1, ht1⟩ : ∃ x, (xan f rs s').1 = x := ⟨_, rfl⟩
   obtain ⟨s2, hs2⟩ : ∃ x, (xan f rs s').2 = x := ⟨_, rfl⟩
   rw [show xan f rs s' = (t1, s2) by rw [<- ht1, <- hs2]] at HC
   rw [ht1, hs2] at Hgo2
   rw [hs2] at Hd2 Hinv2 hcpos
   clear ht1 hs2 hcg hg1 hq
   generalize pk rs s' = r at *
   go_wp2_with fail
   refine HC.out.mono ?_
   rintro e w2 ⟨v, rfl, hv, h2, k2⟩
   obtain ⟨o, a1, n1, c1, m, x, a2, n2, cc2, rfl⟩ := NV.form hv
   have HM := xa (HK.out.mid hpb hv h2 k2)
   have hs2' := k2.size
   clear hv h2 k2
   unfold NV.val
   go_wp2_with (at_builtin; refine wpList_append_own_at _ rfl (.tmp 19) (.tmp 22) 71 rfl (w.heap.size + 1) 73 i0 _ 5 72 underlying71 hi0 hz0 hz1 hz2 rfl (by decide) _ _ _ rfl (xac HM.out.own _) ⟨w2.heap.size, 0, none⟩ 1 1 [.int .i64 o, .slice a1 n1 c1, .int .i64 m, .int .i64 x, .slice a2 n2 cc2] rfl rfl (by exact xaq _ [_, _, _, _, _] _) (by intro u hu; simp at hu; rcases hu with rfl | rfl | rfl | rfl | rfl <;> rfl) ?d3 ?d4 ?d5 ?_)
   case d3 => unfold maxLen; omega
   case d4 => omega
   case d5 => simp; omega
   intro v' w9 hown' hgrow _ hloc
   have HK9 := xa (HM.out.snoc hpb HRB.out hown' hgrow hloc)
   obtain ⟨ka9, kc9, rfl⟩ := xad hown'
   have hs9 := hgrow.size
   simp at hs9
   clear hown' hgrow hloc
   have hap9 := HK9.out.pa.lt
   go_wp2_with fail
   refine (xbW w9 pb rv rs s2 HK9.out.pa).mono ?_
   rintro e w10 ⟨rfl, k10⟩
   have HKE := xa (HK9.out.keepF k10)
   go_wp2_with fail
   have h6 := xaT HKE.out.pa
   have h7 := Hpo.out
   have h8 := Hinv2.out.a
   go_roundw
   case rel => exact ⟨n - 1, s2, _, _, rfl, HKE.out, Hgo2.out, Hinv2.out, Hd2.out, by omega, by simp; omega⟩
   case measure => omega
  | false =>
   have hE : R = (l, s') := by
    have := Hgo.out
    cases n with
    | zero => exact this.symm
    | succ n => unfold xbn at this; rw [if_neg (by rw [hq]; simp)] at this; exact this.symm
   subst hE
   have hle := xlf HK.out.pa
   have HJ := xa (fun (W : World) (K : KF wr W) => xiY 4 (.slice ka l.length kc) vs l (fun b => w.heap.size < b /\ b < wr.heap.size) W
    ((HK.out.slof (by omega)).keep K) (HK.out.kids.keepsTo K (fun _ _ => id) (fun b hb => ⟨hb.1, hb.2.1⟩)) (fun b hb => ⟨by have := xab HK.out.own b hb; omega, xaM HK.out.own b hb⟩))
   have hcase : (pk rs s' < 0) \/ (pk rs s' = 124) \/ (pk rs s' = 41) := by
    simp [isPc] at hq; omega
   rcases hcase with hc | hc | hc
   · have g0 : decide (0 <= pk rs s') = false := by simp; omega
     clear hq hc
     generalize pk rs s' = r at *
     go_wp2_with fail
     refine (HJ.out _ (xaa.refl _ _)).mono ?_
     rintro e w5 ⟨v, rfl, hv, k5⟩
     obtain ⟨o, a1, n1, c1, m, x, a2, n2, cc2, rfl⟩ := NV.form hv
     have KX := xa (HK.out.keep.trans (k5.mono (T := xam pb) (fun _ _ e => e.elim)))
     have HPX := xa (HK.out.pa.keepsF k5)
     have HTX := xa (hv.keepsTo (Q := fun b => w.heap.size < b /\ b < w5.heap.size) (xaa.refl (fun _ => False) _) (fun _ _ => id) (fun b hb => ⟨hb.1, by have := k5.size; omega⟩))
     obtain ⟨⟨y0, y1, y2, y3, y4⟩, q0, q1, q2, q3, q4⟩ := xaC KX.out hpb
     clear hv k5
     unfold NV.val
     go_wp2_with fail
     obtain ⟨wE, hWE⟩ : ∃ W, st5 (w5) w.heap.size (.int .i64 o) (.slice a1 n1 c1) (.int .i64 m) (.int .i64 x) (.slice a2 n2 cc2) = W := ⟨_, rfl⟩
     obtain ⟨r0, r1, r2, r3, r4, kE⟩ := xap (w5) w.heap.size y0 y1 y2 y3 y4 (.int .i64 o) (.slice a1 n1 c1) (.int .i64 m) (.int .i64 x) (.slice a2 n2 cc2)
     rw [hWE] at r0 r1 r2 r3 r4 kE
     unfold st5 at hWE
     rw [hWE]
     have HKE := xa kE
     clear kE hWE y0 y1 y2 y3 y4
     refine bodyPost_ret (by simp [results, results91, go_sem, r0, r1, r2, r3, r4]; try rfl) rfl ?_
     exact xaF (v := ⟨o, .slice a1 n1 c1, m, x, .slice a2 n2 cc2⟩) hpb HH.out.rb KX.out HPX.out HTX.out HKE.out
   · rw [hc]
     clear hq
     go_wp2_with fail
     refine (HJ.out _ (xaa.refl _ _)).mono ?_
     rintro e w5 ⟨v, rfl, hv, k5⟩
     obtain ⟨o, a1, n1, c1, m, x, a2, n2, cc2, rfl⟩ := NV.form hv
     have KX := xa (HK.out.keep.trans (k5.mono (T := xam pb) (fun _ _ e => e.elim)))
     have HPX := xa (HK.out.pa.keepsF k5)
     have HTX := xa (hv.keepsTo (Q := fun b => w.heap.size < b /\ b < w5.heap.size) (xaa.refl (fun _ => False) _) (fun _ _ => id) (fun b hb => ⟨hb.1, by have := k5.size; omega⟩))
     obtain ⟨⟨y0, y1, y2, y3, y4⟩, q0, q1, q2, q3, q4⟩ := xaC KX.out hpb
     clear hv k5
     unfold NV.val
     go_wp2_with fail
     obtain ⟨wE, hWE⟩ : ∃ W, st5 (w5) w.heap.size (.int .i64 o) (.slice a1 n1 c1) (.int .i64 m) (.int .i64 x) (.slice a2 n2 cc2) = W := ⟨_, rfl⟩
     obtain ⟨r0, r1, r2, r3, r4, kE⟩ := xap (w5) w.heap.size y0 y1 y2 y3 y4 (.int .i64 o) (.slice a1 n1 c1) (.int .i64 m) (.int .i64 x) (.slice a2 n2 cc2)
     rw [hWE] at r0 r1 r2 r3 r4 kE
     unfold st5 at hWE
     rw [hWE]
     have HKE := xa kE
     clear kE hWE y0 y1 y2 y3 y4
     refine bodyPost_ret (by simp [results, results91, go_sem, r0, r1, r2, r3, r4]; try rfl) rfl ?_
     exact xaF (v := ⟨o, .slice a1 n1 c1, m, x, .slice a2 n2 cc2⟩) hpb HH.out.rb KX.out HPX.out HTX.out HKE.out
   rw [hc]
   clear hq
   go_wp2_with fail
   refine (HJ.out _ (xaa.refl _ _)).mono ?_
   rintro e w5 ⟨v, rfl, hv, k5⟩
   obtain ⟨o, a1, n1, c1, m, x, a2, n2, cc2, rfl⟩ := NV.form hv
   have KX := xa (HK.out.keep.trans (k5.mono (T := xam pb) (fun _ _ e => e.elim)))
   have HPX := xa (HK.out.pa.keepsF k5)
   have HTX := xa (hv.keepsTo (Q := fun b => w.heap.size < b /\ b < w5.heap.size) (xaa.refl (fun _ => False) _) (fun _ _ => id) (fun b hb => ⟨hb.1, by have := k5.size; omega⟩))
   obtain ⟨⟨y0, y1, y2, y3, y4⟩, q0, q1, q2, q3, q4⟩ := xaC KX.out hpb
   clear hv k5
   unfold NV.val
   go_wp2_with fail
   obtain ⟨wE, hWE⟩ : ∃ W, st5 (w5) w.heap.size (.int .i64 o) (.slice a1 n1 c1) (.int .i64 m) (.int .i64 x) (.slice a2 n2 cc2) = W := ⟨_, rfl⟩
   obtain ⟨r0, r1, r2, r3, r4, kE⟩ := xap (w5) w.heap.size y0 y1 y2 y3 y4 (.int .i64 o) (.slice a1 n1 c1) (.int .i64 m) (.int .i64 x) (.slice a2 n2 cc2)
   rw [hWE] at r0 r1 r2 r3 r4 kE
   unfold st5 at hWE
   rw [hWE]
   have HKE := xa kE
   clear kE hWE y0 y1 y2 y3 y4
   refine bodyPost_ret (by simp [results, results91, go_sem, r0, r1, r2, r3, r4]; try rfl) rfl ?_
   exact xaF (v := ⟨o, .slice a1 n1 c1, m, x, .slice a2 n2 cc2⟩) hpb HH.out.rb KX.out HPX.out HTX.out HKE.out
theorem xb.keepP {w wr w' : World} {pb : Nat} {rv kv : Value} {rs : List Int} {s s2 : PS} {l : List T} {vs : List NV} (h : xb w pb rv rs wr kv s l vs) (hpb : pb < w.heap.size) (hP : PaAt w' pb rv rs s2) (K : xaa (xam pb) wr w') : xb w pb rv rs w' kv s2 l vs :=
 ⟨xaH h.own K (by omega), h.kids.keepsTo K (fun b hb e => by have e : b = pb := e; have := hb.1; omega) (fun b hb => ⟨hb.1, by have := hb.2.1; have := K.size; omega, hb.2.2⟩), hP, h.keep.trans K⟩
theorem xb.first {w w1 w2 : World} {pb : Nat} {rv : Value} {rs : List Int} {s2 : PS} {v : NV} {t : T} (hpb : pb < w.heap.size)
 (K0 : xaa (xam pb) (w.alloc (.cells #[.int .i64 0, .slice none 0 0, .int .i64 0, .int .i64 0, .slice none 0 0] 73)) w1) (hT : TAt w2 (Bt w1 w2) v t) (hP : PaAt w2 pb rv rs s2) (K : xaa (xam pb) w1 w2) :
 xb w pb rv rs (w2.alloc (.cells #[.int .i64 v.op, v.sv, .int .i64 v.mn, .int .i64 v.mx, v.kv] 73)) (.slice (some ⟨w2.heap.size, 0, none⟩) 1 1) s2 [t] [v] := by
 have hs0 := K0.size
 have hs1 := K.size
 simp at hs0
 have ka : KF w2 (w2.alloc (.cells #[.int .i64 v.op, v.sv, .int .i64 v.mn, .int .i64 v.mx, v.kv] 73)) := (xaa.refl _ _).alloc _
 refine ⟨⟨rfl, Or.inr ⟨w2.heap.size, 1, _, rfl, by omega, heap_alloc_new w2 _, Nat.le_refl _, by unfold maxLen; decide, rfl, rfl⟩⟩, ?_, hP.keepsF ka, (K0.trans K).trans (ka.mono (fun _ _ e => e.elim))⟩
 exact FAt.cons_iff.2 ⟨v, [], rfl, hT.keepsTo ka (fun _ _ => id) (fun b hb => ⟨by have := hb.1; omega, by have := hb.2; simp; omega, fun e => by have := hb.2; simp [Value.ownBlock] at e; omega⟩), rfl⟩
def AltR (f : PS -> T × PS) (D : PS -> Prop) (w : World) (pb : Nat) (rv : Value) (rs : List Int) (R : List T × PS) (kv : Value) (wr : World) : Prop :=
 ∃ n s l vs, xb w pb rv rs wr kv s l vs /\ xbo f rs n s l = R /\ Inv rs s /\ D s /\ rs.length + 9 <= n + s.pos /\ l.length <= s.pos + 1
theorem xgn {f : PS -> T × PS} {rs : List Int} {C D : PS -> Prop} (H : xmy f rs C D) : AltC (xdc f rs) rs D := by
 intro w pb rv s h hi hd
 have hpb := h.lt
 have hrb := h.rb
 obtain ⟨i0, hi0, hz0, hz1, hz2⟩ := info_parts xeS
 have HH := xa h
 have HRB := xa hrb
 have HST := xa H
 have hlen := H.len
 have hpg := xcP H.go s
 have HI := xa (hpg.inv hi)
 have HD := xa (H.dd _ _ hd hpg)
 have HPC := xa (fun (W : World) (hW : PaAt W pb rv rs s) => xfr H W pb rv s hW hi hd)
 obtain ⟨R, hR⟩ : ∃ R, altR f rs s = R := ⟨_, rfl⟩
 obtain ⟨t1, ht1⟩ : ∃ x, (xar f rs s).1 = x := ⟨_, rfl⟩
 obtain ⟨s1, hs1⟩ : ∃ x, (xar f rs s).2 = x := ⟨_, rfl⟩
 have HR : Hid (xbo f rs (rs.length + 9) s1 [t1] = R) := xa (by rw [<- hs1, <- ht1]; exact hR)
 have E : Hid (xdc f rs s = (xa4 5 R.1, R.2)) := xa (by unfold xdc; rw [hR])
 rw [show xar f rs s = (t1, s1) by rw [<- ht1, <- hs1]] at HPC
 rw [hs1] at HI HD
 rw [E.out]
 clear E hR h hrb hi hd H hpg ht1 hs1
 go_enter func71, ntmps71
 go_wp2_with fail
 refine (HPC.out _ (HH.out.keepsF (KI.out))).mono ?_
 rintro e w1 ⟨v, rfl, hv, h1, k1⟩
 obtain ⟨o, a1, n1, c1, m, x, a2, n2, cc2, rfl⟩ := NV.form hv
 have hst := xb.first hpb (xaa.refl _ _) hv h1 k1
 have HS1 := xa hst
 clear hst hv h1 k1
 unfold NV.val
 go_wp2_with fail
 go_loopw [3] (fun kv wr => AltR f D w pb rv rs R kv wr) (fun _ wr => rs.length + 30 - xle wr pb)
 case atStart => exact ⟨rs.length + 9, s1, [t1], _, HS1.out, HR.out, HI.out, HD.out, by omega, by simp⟩
 case round =>
  obtain ⟨n, s', l, vs, hK, hgo, hinv, hd, hn, hll⟩ := hrel
  have HK := xa hK
  have hsz := hK.size
  obtain ⟨ka, kc, rfl⟩ := xad hK.own
  have hap := hK.pa.lt
  have Hpo := xa (xaT hK.pa)
  have hpa := hinv.a
  have Hgo := xa hgo
  have Hinv := xa hinv
  have Hd := xa hd
  clear hK hgo hinv hd
  by_cases hq : pk rs s' = 124
  · have hroom := xaK (rs := rs) (s := s') (by omega)
    have HTk := xa (xbU wr pb rv rs s' 124 HK.out.pa (by omega))
    have e1 : tkB rs 124 s' = true := by unfold tkB; simpa using hq
    have e2 : (tk rs 124 s').pos = s'.pos + 1 := by unfold tk; rw [if_pos hq]
    have htg := xhy rs 124 s' (by omega)
    have hd2 := HST.out.dd _ _ Hd.out htg
    have hi2 := htg.inv Hinv.out
    have hpg := xcP HST.out.go (tk rs 124 s')
    have Hgo2 : Hid (xbo f rs (n - 1) (xar f rs (tk rs 124 s')).2 (l ++ [(xar f rs (tk rs 124 s')).1]) = R) := xa (by
     have := Hgo.out
     obtain ⟨m, rfl⟩ : ∃ m, n = m + 1 := ⟨n - 1, by omega⟩
     rw [xbo, if_pos hq] at this
     exact this)
    have hpp := hpg.pos
    have HI3 := xa (hpg.inv hi2)
    have HD3 := xa (HST.out.dd _ _ hd2 hpg)
    have HPC2 := xa (fun (W : World) (hW : PaAt W pb rv rs (tk rs 124 s')) => xfr HST.out W pb rv (tk rs 124 s') hW hi2 hd2)
    rw [e1] at HTk
    rw [e2] at hpp
    obtain ⟨t2, ht2⟩ : ∃ x, (xar f rs (tk rs 124 s')).1 = x := ⟨_, rfl⟩
    obtain ⟨s2, hs2⟩ : ∃ x, (xar f rs (tk rs 124 s')).2 = x := ⟨_, rfl⟩
    rw [show xar f rs (tk rs 124 s') = (t2, s2) by rw [<- ht2, <- hs2]] at HPC2
    rw [ht2, hs2] at Hgo2
    rw [hs2] at HI3 HD3 hpp
    clear ht2 hs2 hpg hi2 hd2 htg e1 e2 hq
    generalize tk rs 124 s' = st at *
    go_wp2_with fail
    refine HTk.out.mono ?_
    rintro e w2 ⟨rfl, h2, k2⟩
    have P2 := xa h2
    have HK2 := xa (HK.out.keepP hpb h2 k2)
    have hsk2 := k2.size
    clear h2 k2
    go_wp2_with fail
    refine (HPC2.out _ P2.out).mono ?_
    rintro e w3 ⟨v, rfl, hv, h3, k3⟩
    obtain ⟨o, a1, n1, c1, m, x, a2, n2, cc2, rfl⟩ := NV.form hv
    have HM := xa (HK2.out.mid hpb hv h3 k3)
    have hs3 := k3.size
    clear hv h3 k3
    unfold NV.val
    go_wp2_with (at_builtin; refine wpList_append_own_at _ rfl (.tmp 9) (.tmp 12) 71 rfl (w.heap.size + 1) 73 i0 _ 5 72 underlying71 hi0 hz0 hz1 hz2 rfl (by decide) _ _ _ rfl (xac HM.out.own _) ⟨w3.heap.size, 0, none⟩ 1 1 [.int .i64 o, .slice a1 n1 c1, .int .i64 m, .int .i64 x, .slice a2 n2 cc2] rfl rfl (by exact xaq _ [_, _, _, _, _] _) (by intro u hu; simp at hu; rcases hu with rfl | rfl | rfl | rfl | rfl <;> rfl) ?d3 ?d4 ?d5 ?_)
    case d3 => unfold maxLen; omega
    case d4 => omega
    case d5 => simp; omega
    intro v' w9 hown' hgrow _ hloc
    have HK9 := xa (HM.out.snoc hpb HRB.out hown' hgrow hloc)
    clear hown' hgrow hloc
    go_wp2_with fail
    have h6 := xaT HK9.out.pa
    have h7 := Hpo.out
    have h8 := HI3.out.a
    go_roundw
    case rel => exact ⟨n - 1, s2, _, _, HK9.out, Hgo2.out, HI3.out, HD3.out, by omega, by simp; omega⟩
    case measure => omega
  have hE : R = (l, s') := by
   have := Hgo.out
   cases n with
   | zero => exact this.symm
   | succ n => rw [xbo, if_neg hq] at this; exact this.symm
  subst hE
  have HTk := xa (xa7 124 HK.out.pa hq (by omega))
  have HJ := xa (fun (W : World) (h : xb w pb rv rs W (.slice ka l.length kc) s' l vs) => xiY 5 (.slice ka l.length kc) vs l (fun b => w.heap.size < b /\ b < W.heap.size) W
   (h.slof (by omega)) (h.kids.keepsTo (xaa.refl (fun _ => False) _) (fun _ _ => id) (fun b hb => ⟨hb.1, hb.2.1⟩)) (fun b hb => ⟨by have := xab h.own b hb; omega, xaM h.own b hb⟩))
  clear hq
  go_wp2_with fail
  refine HTk.out.mono ?_
  rintro e w2 ⟨rfl, h2, k2⟩
  have HK2 := xa (HK.out.keepP hpb h2 k2)
  clear h2 k2
  go_wp2_with fail
  refine (HJ.out _ HK2.out).mono ?_
  rintro e w5 ⟨v, rfl, hv, k5⟩
  obtain ⟨o, a1, n1, c1, m, x, a2, n2, cc2, rfl⟩ := NV.form hv
  have KX := xa (HK2.out.keep.trans (k5.mono (T := xam pb) (fun _ _ e => e.elim)))
  have HPX := xa (HK2.out.pa.keepsF k5)
  have HTX := xa (hv.keepsTo (Q := fun b => w.heap.size < b /\ b < w5.heap.size) (xaa.refl (fun _ => False) _) (fun _ _ => id) (fun b hb => ⟨hb.1, by have := k5.size; omega⟩))
  obtain ⟨⟨y0, y1, y2, y3, y4⟩, q0, q1, q2, q3, q4⟩ := xaC KX.out hpb
  clear hv k5
  unfold NV.val
  go_wp2_with fail
  obtain ⟨wE, hWE⟩ : ∃ W, st5 (w5) w.heap.size (.int .i64 o) (.slice a1 n1 c1) (.int .i64 m) (.int .i64 x) (.slice a2 n2 cc2) = W := ⟨_, rfl⟩
  obtain ⟨r0, r1, r2, r3, r4, kE⟩ := xap (w5) w.heap.size y0 y1 y2 y3 y4 (.int .i64 o) (.slice a1 n1 c1) (.int .i64 m) (.int .i64 x) (.slice a2 n2 cc2)
  rw [hWE] at r0 r1 r2 r3 r4 kE
  unfold st5 at hWE
  rw [hWE]
  have HKE := xa kE
  clear kE hWE y0 y1 y2 y3 y4
  refine bodyPost_ret (by simp [results, results71, go_sem, r0, r1, r2, r3, r4]; try rfl) rfl ?_
  exact xaF (v := ⟨o, .slice a1 n1 c1, m, x, .slice a2 n2 cc2⟩) hpb HH.out.rb KX.out HPX.out HTX.out HKE.out
theorem xmr (f : PS -> T × PS) (rs : List Int) (s : PS) (h : s.bad = true) : xdc f rs s = (xa1, s) := by
 have h1 : pk rs s = -1 := by unfold pk; rw [if_pos h]
 have h2 : xar f rs s = (xa1, s) := by
  unfold xar pcsR
  have : xbn f rs (rs.length + 9) s [] = ([], s) := by unfold xbn; rw [h1]; rfl
  rw [this]; rfl
 unfold xdc altR
 rw [h2]
 have : xbo f rs (rs.length + 9) s [xa1] = ([xa1], s) := by unfold xbo; rw [h1]; rfl
 rw [this]; rfl
def Dn (n : Nat) (s : PS) : Prop := 0 <= s.deep /\ s.deep <= 11 /\ (s.bad = false -> s.deep <= 10 /\ 10 <= s.deep + n)
theorem Dn.go {n : Nat} {rs : List Int} {s s' : PS} (h : Dn n s) (g : Go1 rs s s') : Dn n s' := by
 unfold Dn at h ⊢
 rw [g.deep]
 refine ⟨h.1, h.2.1, fun hb => h.2.2 ?_⟩
 cases hs : s.bad with
 | false => rfl
 | true => rw [g.bad hs] at hb; cases hb
theorem xn5 (rs : List Int) (hl : rs.length <= 9000) : AltC (fun s => (xa1, s)) rs (fun s => s.bad = true /\ 0 <= s.deep /\ s.deep <= 11) := by
 have h := xgn (f := fun s => (xa1, s)) (rs := rs) (C := fun _ => False) (D := fun s => s.bad = true /\ 0 <= s.deep /\ s.deep <= 11)
  ⟨fun s => Go1.refl _ _, fun _ _ _ _ _ _ h => h.elim, fun s h hb => (by rw [h.1] at hb; cases hb), fun s s' h g => ⟨g.bad h.1, by rw [g.deep]; exact h.2.1, by rw [g.deep]; exact h.2.2⟩, fun s h => ⟨h.2.1, by omega⟩, hl⟩
 intro w pb rv s hP hi hc
 have := h w pb rv s hP hi hc
 rwa [xmr _ _ _ hc.1] at this
theorem xn6 (rs : List Int) (hl : rs.length <= 9000) : ∀ n, AltC (alts rs n) rs (Dn n) := by
 intro n
 induction n with
 | zero =>
  exact xgn (f := fun s => (xa1, s)) ⟨fun s => Go1.refl _ _, xn5 rs hl, fun s h hb => by
   have := h.2.2 hb
   exact ⟨by simp; omega, by simp only; have := h.1; omega, by simp only; omega⟩, fun s s' h g => h.go g, fun s h => ⟨h.1, by have := h.2.1; omega⟩, hl⟩
 | succ n ih =>
  exact xgn (f := alts rs n) ⟨xgm rs n, ih, fun s h hb => by
   have h1 := h.2.2 hb
   have h2 := h.1
   refine ⟨by simp only; omega, by simp only; omega, fun hb2 => ?_⟩
   simp only [decide_eq_false_iff_not] at hb2
   simp only
   push_cast at h1
   omega, fun s s' h g => h.go g, fun s h => ⟨h.1, by have := h.2.1; omega⟩, hl⟩
theorem xjH : ∀ (n : Nat) (l : List UInt8) (rs : List Int), ptsP n l = some rs -> rs.length <= l.length /\ ∀ r ∈ rs, 0 <= r /\ r <= 1114111 := by
 intro n
 induction n with
 | zero => intro l rs h; simp [ptsP] at h; subst h; simp
 | succ n ih =>
  intro l rs h
  rcases l with _ | ⟨c, l⟩
  · simp [ptsP] at h; subst h; simp
  rw [ptsP, if_neg (by simp)] at h
  by_cases hs : sizP (getP (c :: l)).1 = ((getP (c :: l)).2 : Int)
  · rw [if_pos hs, Option.map_eq_some_iff] at h
    obtain ⟨rs', h1, rfl⟩ := h
    have h2 := ih _ _ h1
    have hp := xdy c l
    have hb : isB (getP (c :: l)).1 = true := by
     unfold sizP at hs
     cases hb : isB (getP (c :: l)).1 with
     | true => rfl
     | false => rw [hb] at hs; simp at hs; omega
    have hr : 0 <= (getP (c :: l)).1 /\ (getP (c :: l)).1 <= 1114111 := by
     simp [isB] at hb; omega
    refine ⟨?_, ?_⟩
    · have h3 := h2.1
      rw [List.length_drop] at h3
      simp only [List.length_cons] at h3 ⊢; omega
    intro r hr'
    rcases List.mem_cons.1 hr' with rfl | hr'
    · exact hr
    exact h2.2 r hr'
  rw [if_neg hs] at h; cases h
theorem xeB {l : List UInt8} {rs : List Int} (h : pts l = some rs) : rs.length <= l.length /\ ∀ r ∈ rs, 0 <= r /\ r <= 1114111 := xjH _ _ _ h
theorem xhk (rs : List Int) : cellsOf 1 encI rs = rs.map (Value.int .i64) := by
 induction rs with
 | nil => rfl
 | cons r rs ih => rw [List.map_cons, <- ih]; simp [cellsOf, encI, List.range_succ]
theorem xg8 (w : World) (cs : Array Value) (T : TypeId) (o : Nat) : (w.alloc (.cells cs T)).frozen? ⟨w.heap.size, o, none⟩ = false := by simp [go_sem]
theorem PaAt.start {w w2 : World} {rv : Value} {rs : List Int} (hown : w2.ownsRow w.heap.size 3 1 rv rs.length (rs.map (Value.int .i64))) (hl : rs.length <= 1000) (hr : ∀ r ∈ rs, 0 <= r /\ r <= 1114111) :
 PaAt (w2.alloc (.cells #[rv, .int .i64 0, .int .i64 0, .bool false] 189)) w2.heap.size rv rs ⟨0, 0, false⟩ := by
 have hlt := xaM hown
 rw [<- xhk] at hown
 have hs := SlOf.ofOwn (enc := encI) hown (by omega)
 have K : KF w2 (w2.alloc (.cells #[rv, .int .i64 0, .int .i64 0, .bool false] 189)) := (xaa.refl _ _).alloc _
 exact ⟨by simp [go_sem], by simp [go_sem], by simp [go_sem], by simp [go_sem], fun o => xg8 _ _ _ _, hs.keep K, fun e => by have := hlt _ e; omega, by omega, by simp, hr, fun b hb => by have := hlt _ hb; simp; omega⟩
def xgp (w : World) (r : T × Int) (e : Ending) (w' : World) : Prop :=
 ∃ v : NV, e = .returned (.tuple #[v.val, .int .i64 r.2]) /\ TAt w' (fun b => w.heap.size <= b) v r.1 /\ KF w w'
theorem zeroRet (w w' : World) (n : Int) (K : KF w w') : xgp w (xa1, n) (.returned (.tuple #[NV.val ⟨0, .slice none 0 0, 0, 0, .slice none 0 0⟩, .int .i64 n])) w' := ⟨_, rfl, TAt.zero _ _, K⟩
theorem xcb {w wX wE : World} {t : T} {v : NV} {n : Int} (K : KF w wX) (hT : TAt wX (fun b => w.heap.size < b) v t) (kE : xaa (fun b => b = w.heap.size) wX wE) : xgp w (t, n) (.returned (.tuple #[v.val, .int .i64 n])) wE :=
 ⟨v, rfl, hT.keepsTo kE (fun b hb e => by omega) (fun b hb => by omega), K.trans2 kE (fun b hb e => by omega)⟩
theorem xcO {w wX : World} {pb : Nat} (K : xaa (xam pb) (w.alloc (.cells #[.int .i64 0, .slice none 0 0, .int .i64 0, .int .i64 0, .slice none 0 0] 73)) wX) (hpb : ¬ w.heap.size = pb) :
 (wX.cell? ⟨w.heap.size, 0, none⟩ = some (.int .i64 0) /\ wX.cell? ⟨w.heap.size, 1, none⟩ = some (.slice none 0 0) /\ wX.cell? ⟨w.heap.size, 2, none⟩ = some (.int .i64 0) /\ wX.cell? ⟨w.heap.size, 3, none⟩ = some (.int .i64 0) /\ wX.cell? ⟨w.heap.size, 4, none⟩ = some (.slice none 0 0)) /\
 (wX.frozen? ⟨w.heap.size, 0, none⟩ = false /\ wX.frozen? ⟨w.heap.size, 1, none⟩ = false /\ wX.frozen? ⟨w.heap.size, 2, none⟩ = false /\ wX.frozen? ⟨w.heap.size, 3, none⟩ = false /\ wX.frozen? ⟨w.heap.size, 4, none⟩ = false) :=
 ⟨⟨K.cell (by simp [go_sem]) hpb, K.cell (by simp [go_sem]) hpb, K.cell (by simp [go_sem]) hpb, K.cell (by simp [go_sem]) hpb, K.cell (by simp [go_sem]) hpb⟩,
  K.frozen (by simp [go_sem]) (by simp) hpb, K.frozen (by simp [go_sem]) (by simp) hpb, K.frozen (by simp [go_sem]) (by simp) hpb, K.frozen (by simp [go_sem]) (by simp) hpb, K.frozen (by simp [go_sem]) (by simp) hpb⟩
theorem xdw {w wX : World} {pb : Nat} (K : xaa (xam pb) (w.alloc (.cells #[.int .i64 0, .slice none 0 0, .int .i64 0, .int .i64 0, .slice none 0 0] 73)) wX) (hpb : w.heap.size <= pb) : KF w wX :=
 xaa.trans2 (xaa.alloc (xaa.refl _ _) _) K (fun b hb e => by have e : b = pb := e; omega)
theorem xeG (l : List UInt8) (w : World) (hm : l.length <= 9223372036854775807) : Calls prog 59 #[.string ⟨l.toArray⟩] w (xgp w (xaX l)) := by
 by_cases hlen : 200 < l.length
 · have hP : xaX l = (xa1, 16) := by unfold xaX; rw [if_pos hlen]
   rw [hP]
   have g0 : decide ((200 : Int) < (l.length : Int)) = true := by simp; omega
   have g1 : decide (200 < l.length) = true := by simpa using hlen
   go_enter func59, ntmps59
   go_wp2_with fail
   go_returns
   exact zeroRet _ _ _ (KI.out)
 have g0 : decide ((200 : Int) < (l.length : Int)) = false := by simp; omega
 have g1 : decide (200 < l.length) = false := by simpa using hlen
 have HPt := xa (fun W => xjI l W (by omega))
 unfold PtsE at HPt
 cases hpt : pts l with
 | none =>
  rw [show xaX l = (xa1, 15) by unfold xaX; rw [if_neg hlen, hpt]]
  rw [hpt] at HPt
  clear hpt
  simp only at HPt
  go_enter func59, ntmps59
  go_wp2_with fail
  refine (HPt.out _).mono ?_
  rintro e w2 ⟨rfl, k2⟩
  have k3 : xaa (xam (w.heap.size + 1)) (w.alloc (.cells #[.int .i64 0, .slice none 0 0, .int .i64 0, .int .i64 0, .slice none 0 0] 73)) w2 := k2.mono (fun _ _ e => e.elim)
  have K3 := xa (xdw k3 (by omega))
  obtain ⟨⟨y0, y1, y2, y3, y4⟩, q0, q1, q2, q3, q4⟩ := xcO k3 (by omega)
  clear k2 k3
  go_wp2_with fail
  obtain ⟨wE, hWE⟩ : ∃ W, st5 (w2) w.heap.size (.int .i64 0) (.slice none 0 0) (.int .i64 0) (.int .i64 0) (.slice none 0 0) = W := ⟨_, rfl⟩
  obtain ⟨r0, r1, r2, r3, r4, kE⟩ := xap (w2) w.heap.size y0 y1 y2 y3 y4 (.int .i64 0) (.slice none 0 0) (.int .i64 0) (.int .i64 0) (.slice none 0 0)
  rw [hWE] at r0 r1 r2 r3 r4 kE
  unfold st5 at hWE
  rw [hWE]
  have HKE := xa kE
  clear kE hWE y0 y1 y2 y3 y4
  refine bodyPost_ret (by simp [results, results59, go_sem, r0, r1, r2, r3, r4]; try rfl) rfl ?_
  exact xcb (v := ⟨0, .slice none 0 0, 0, 0, .slice none 0 0⟩) (n := 15) K3.out (TAt.zero _ _) HKE.out
 | some rs =>
  obtain ⟨hrl, hrr⟩ := xeB hpt
  rw [show xaX l = xcV rs by unfold xaX; rw [if_neg hlen, hpt]]
  rw [hpt] at HPt
  clear hpt
  simp only at HPt
  have HA := xa (xn6 rs (by omega) 11)
  have HGo := xa (xgm rs 11 ⟨0, 0, false⟩)
  obtain ⟨t1, ht1⟩ : ∃ x, (alts rs 11 ⟨0, 0, false⟩).1 = x := ⟨_, rfl⟩
  obtain ⟨s1, hs1⟩ : ∃ x, (alts rs 11 ⟨0, 0, false⟩).2 = x := ⟨_, rfl⟩
  have hR : xcV rs = if s1.bad = true \/ s1.pos ≠ rs.length then (xa1, 15) else (t1, 0) := by unfold xcV; rw [ht1, hs1]
  rw [hR]
  have HE : Hid (alts rs 11 ⟨0, 0, false⟩ = (t1, s1)) := xa (by rw [<- ht1, <- hs1])
  clear hR ht1 hs1
  have HRR := xa hrr
  clear hrr
  have hcase : (s1.bad = true) \/ (s1.bad = false /\ s1.pos ≠ rs.length) \/ (s1.bad = false /\ s1.pos = rs.length) := by
   cases s1.bad <;> simp; omega
  rcases hcase with hb | ⟨hb, hp⟩ | ⟨hb, hp⟩
  · rw [if_pos (Or.inl hb)]
    go_enter func59, ntmps59
    go_wp2_with fail
    refine (HPt.out _).mono ?_
    rintro e w2 ⟨⟨rv, rfl, hown⟩, k2⟩
    have hs2 := k2.size
    simp at hs2
    have hown2 : w2.ownsRow (w.alloc (.cells #[.int .i64 0, .slice none 0 0, .int .i64 0, .int .i64 0, .slice none 0 0] 73)).heap.size 3 1 rv rs.length (rs.map (Value.int .i64)) := hown
    have hst := PaAt.start (w := w.alloc (.cells #[.int .i64 0, .slice none 0 0, .int .i64 0, .int .i64 0, .slice none 0 0] 73)) hown2 (by omega) HRR.out
    obtain ⟨ra, rc, rfl⟩ := xad hown
    have K2 := xa k2
    have HS := xa hst
    clear hown hown2 hst k2
    go_wp2_with fail
    refine (HA.out _ w2.heap.size (.slice ra rs.length rc) ⟨0, 0, false⟩ HS.out ⟨by simp, fun _ => by simp⟩ ⟨by simp, by simp, fun _ => ⟨by simp, by simp⟩⟩).mono ?_
    rw [HE.out]
    rintro e w3 ⟨v, rfl, hv, h3, k3⟩
    obtain ⟨o, a1, n1, c1, m, x, a2, n2, cc2, rfl⟩ := NV.form hv
    have hs3 := k3.size
    simp at hs3
    have k23 : xaa (xam w2.heap.size) (w.alloc (.cells #[.int .i64 0, .slice none 0 0, .int .i64 0, .int .i64 0, .slice none 0 0] 73)) w3 := xaa.trans (K2.out.mono (fun _ _ e => e.elim)) (xaa.trans (KI.out) k3)
    have d1 := h3.c1
    have d3 := h3.c3
    have HP3 := xa h3
    have hpl := h3.lt
    simp only at d1 d3
    rw [hb] at d3
    have KX := xa (xdw k23 (by omega))
    obtain ⟨⟨y0, y1, y2, y3, y4⟩, q0, q1, q2, q3, q4⟩ := xcO k23 (by omega)
    have HV := xa hv
    clear hv h3 k3
    have y0 := xaf y0 (.cells #[.int .i64 o, .slice a1 n1 c1, .int .i64 m, .int .i64 x, .slice a2 n2 cc2] 73)
    have y1 := xaf y1 (.cells #[.int .i64 o, .slice a1 n1 c1, .int .i64 m, .int .i64 x, .slice a2 n2 cc2] 73)
    have y2 := xaf y2 (.cells #[.int .i64 o, .slice a1 n1 c1, .int .i64 m, .int .i64 x, .slice a2 n2 cc2] 73)
    have y3 := xaf y3 (.cells #[.int .i64 o, .slice a1 n1 c1, .int .i64 m, .int .i64 x, .slice a2 n2 cc2] 73)
    have y4 := xaf y4 (.cells #[.int .i64 o, .slice a1 n1 c1, .int .i64 m, .int .i64 x, .slice a2 n2 cc2] 73)
    have q0 := xau q0 (by show w.heap.size < w3.heap.size; omega) (.cells #[.int .i64 o, .slice a1 n1 c1, .int .i64 m, .int .i64 x, .slice a2 n2 cc2] 73)
    have q1 := xau q1 (by show w.heap.size < w3.heap.size; omega) (.cells #[.int .i64 o, .slice a1 n1 c1, .int .i64 m, .int .i64 x, .slice a2 n2 cc2] 73)
    have q2 := xau q2 (by show w.heap.size < w3.heap.size; omega) (.cells #[.int .i64 o, .slice a1 n1 c1, .int .i64 m, .int .i64 x, .slice a2 n2 cc2] 73)
    have q3 := xau q3 (by show w.heap.size < w3.heap.size; omega) (.cells #[.int .i64 o, .slice a1 n1 c1, .int .i64 m, .int .i64 x, .slice a2 n2 cc2] 73)
    have q4 := xau q4 (by show w.heap.size < w3.heap.size; omega) (.cells #[.int .i64 o, .slice a1 n1 c1, .int .i64 m, .int .i64 x, .slice a2 n2 cc2] 73)
    unfold NV.val
    clear k23
    go_wp2_with fail
    have k4 : KF w3 (w3.alloc (.cells #[.int .i64 o, .slice a1 n1 c1, .int .i64 m, .int .i64 x, .slice a2 n2 cc2] 73)) := (xaa.refl _ _).alloc _
    have K4 := xa (KX.out.trans k4)
    have HV4 := xa (HV.out.keepsTo (Q := fun b => w.heap.size < b) k4 (fun _ _ => id) (fun b hb => by have := hb.1; simp at this; omega))
    obtain ⟨w4, hw4⟩ : ∃ W, w3.alloc (.cells #[.int .i64 o, .slice a1 n1 c1, .int .i64 m, .int .i64 x, .slice a2 n2 cc2] 73) = W := ⟨_, rfl⟩
    rw [hw4] at y0 y1 y2 y3 y4 K4 HV4 ⊢
    clear q0 q1 q2 q3 q4
    obtain ⟨wE, hWE⟩ : ∃ W, st5 (w4) w.heap.size (.int .i64 0) (.slice none 0 0) (.int .i64 0) (.int .i64 0) (.slice none 0 0) = W := ⟨_, rfl⟩
    obtain ⟨r0, r1, r2, r3, r4, kE⟩ := xap (w4) w.heap.size y0 y1 y2 y3 y4 (.int .i64 0) (.slice none 0 0) (.int .i64 0) (.int .i64 0) (.slice none 0 0)
    rw [hWE] at r0 r1 r2 r3 r4 kE
    unfold st5 at hWE
    rw [hWE]
    have HKE := xa kE
    clear kE hWE y0 y1 y2 y3 y4
    refine bodyPost_ret (by simp [results, results59, go_sem, r0, r1, r2, r3, r4]; try rfl) rfl ?_
    exact xcb (v := ⟨0, .slice none 0 0, 0, 0, .slice none 0 0⟩) (n := 15) K4.out (TAt.zero _ _) HKE.out
  · rw [if_pos (Or.inr hp)]
    have f1 : ((s1.pos : Int) != (rs.length : Int)) = true := by simp; omega
    go_enter func59, ntmps59
    go_wp2_with fail
    refine (HPt.out _).mono ?_
    rintro e w2 ⟨⟨rv, rfl, hown⟩, k2⟩
    have hs2 := k2.size
    simp at hs2
    have hown2 : w2.ownsRow (w.alloc (.cells #[.int .i64 0, .slice none 0 0, .int .i64 0, .int .i64 0, .slice none 0 0] 73)).heap.size 3 1 rv rs.length (rs.map (Value.int .i64)) := hown
    have hst := PaAt.start (w := w.alloc (.cells #[.int .i64 0, .slice none 0 0, .int .i64 0, .int .i64 0, .slice none 0 0] 73)) hown2 (by omega) HRR.out
    obtain ⟨ra, rc, rfl⟩ := xad hown
    have K2 := xa k2
    have HS := xa hst
    clear hown hown2 hst k2
    go_wp2_with fail
    refine (HA.out _ w2.heap.size (.slice ra rs.length rc) ⟨0, 0, false⟩ HS.out ⟨by simp, fun _ => by simp⟩ ⟨by simp, by simp, fun _ => ⟨by simp, by simp⟩⟩).mono ?_
    rw [HE.out]
    rintro e w3 ⟨v, rfl, hv, h3, k3⟩
    obtain ⟨o, a1, n1, c1, m, x, a2, n2, cc2, rfl⟩ := NV.form hv
    have hs3 := k3.size
    simp at hs3
    have k23 : xaa (xam w2.heap.size) (w.alloc (.cells #[.int .i64 0, .slice none 0 0, .int .i64 0, .int .i64 0, .slice none 0 0] 73)) w3 := xaa.trans (K2.out.mono (fun _ _ e => e.elim)) (xaa.trans (KI.out) k3)
    have d1 := h3.c1
    have d3 := h3.c3
    have HP3 := xa h3
    have hpl := h3.lt
    simp only at d1 d3
    rw [hb] at d3
    have KX := xa (xdw k23 (by omega))
    obtain ⟨⟨y0, y1, y2, y3, y4⟩, q0, q1, q2, q3, q4⟩ := xcO k23 (by omega)
    have HV := xa hv
    clear hv h3 k3
    have y0 := xaf y0 (.cells #[.int .i64 o, .slice a1 n1 c1, .int .i64 m, .int .i64 x, .slice a2 n2 cc2] 73)
    have y1 := xaf y1 (.cells #[.int .i64 o, .slice a1 n1 c1, .int .i64 m, .int .i64 x, .slice a2 n2 cc2] 73)
    have y2 := xaf y2 (.cells #[.int .i64 o, .slice a1 n1 c1, .int .i64 m, .int .i64 x, .slice a2 n2 cc2] 73)
    have y3 := xaf y3 (.cells #[.int .i64 o, .slice a1 n1 c1, .int .i64 m, .int .i64 x, .slice a2 n2 cc2] 73)
    have y4 := xaf y4 (.cells #[.int .i64 o, .slice a1 n1 c1, .int .i64 m, .int .i64 x, .slice a2 n2 cc2] 73)
    have q0 := xau q0 (by show w.heap.size < w3.heap.size; omega) (.cells #[.int .i64 o, .slice a1 n1 c1, .int .i64 m, .int .i64 x, .slice a2 n2 cc2] 73)
    have q1 := xau q1 (by show w.heap.size < w3.heap.size; omega) (.cells #[.int .i64 o, .slice a1 n1 c1, .int .i64 m, .int .i64 x, .slice a2 n2 cc2] 73)
    have q2 := xau q2 (by show w.heap.size < w3.heap.size; omega) (.cells #[.int .i64 o, .slice a1 n1 c1, .int .i64 m, .int .i64 x, .slice a2 n2 cc2] 73)
    have q3 := xau q3 (by show w.heap.size < w3.heap.size; omega) (.cells #[.int .i64 o, .slice a1 n1 c1, .int .i64 m, .int .i64 x, .slice a2 n2 cc2] 73)
    have q4 := xau q4 (by show w.heap.size < w3.heap.size; omega) (.cells #[.int .i64 o, .slice a1 n1 c1, .int .i64 m, .int .i64 x, .slice a2 n2 cc2] 73)
    unfold NV.val
    clear k23 hp
    go_wp2_with fail
    have k4 : KF w3 (w3.alloc (.cells #[.int .i64 o, .slice a1 n1 c1, .int .i64 m, .int .i64 x, .slice a2 n2 cc2] 73)) := (xaa.refl _ _).alloc _
    have K4 := xa (KX.out.trans k4)
    have HV4 := xa (HV.out.keepsTo (Q := fun b => w.heap.size < b) k4 (fun _ _ => id) (fun b hb => by have := hb.1; simp at this; omega))
    obtain ⟨w4, hw4⟩ : ∃ W, w3.alloc (.cells #[.int .i64 o, .slice a1 n1 c1, .int .i64 m, .int .i64 x, .slice a2 n2 cc2] 73) = W := ⟨_, rfl⟩
    rw [hw4] at y0 y1 y2 y3 y4 K4 HV4 ⊢
    clear q0 q1 q2 q3 q4
    obtain ⟨wE, hWE⟩ : ∃ W, st5 (w4) w.heap.size (.int .i64 0) (.slice none 0 0) (.int .i64 0) (.int .i64 0) (.slice none 0 0) = W := ⟨_, rfl⟩
    obtain ⟨r0, r1, r2, r3, r4, kE⟩ := xap (w4) w.heap.size y0 y1 y2 y3 y4 (.int .i64 0) (.slice none 0 0) (.int .i64 0) (.int .i64 0) (.slice none 0 0)
    rw [hWE] at r0 r1 r2 r3 r4 kE
    unfold st5 at hWE
    rw [hWE]
    have HKE := xa kE
    clear kE hWE y0 y1 y2 y3 y4
    refine bodyPost_ret (by simp [results, results59, go_sem, r0, r1, r2, r3, r4]; try rfl) rfl ?_
    exact xcb (v := ⟨0, .slice none 0 0, 0, 0, .slice none 0 0⟩) (n := 15) K4.out (TAt.zero _ _) HKE.out
  rw [if_neg (by rw [hb]; simp; exact hp)]
  go_enter func59, ntmps59
  go_wp2_with fail
  refine (HPt.out _).mono ?_
  rintro e w2 ⟨⟨rv, rfl, hown⟩, k2⟩
  have hs2 := k2.size
  simp at hs2
  have hown2 : w2.ownsRow (w.alloc (.cells #[.int .i64 0, .slice none 0 0, .int .i64 0, .int .i64 0, .slice none 0 0] 73)).heap.size 3 1 rv rs.length (rs.map (Value.int .i64)) := hown
  have hst := PaAt.start (w := w.alloc (.cells #[.int .i64 0, .slice none 0 0, .int .i64 0, .int .i64 0, .slice none 0 0] 73)) hown2 (by omega) HRR.out
  obtain ⟨ra, rc, rfl⟩ := xad hown
  have K2 := xa k2
  have HS := xa hst
  clear hown hown2 hst k2
  go_wp2_with fail
  refine (HA.out _ w2.heap.size (.slice ra rs.length rc) ⟨0, 0, false⟩ HS.out ⟨by simp, fun _ => by simp⟩ ⟨by simp, by simp, fun _ => ⟨by simp, by simp⟩⟩).mono ?_
  rw [HE.out]
  rintro e w3 ⟨v, rfl, hv, h3, k3⟩
  obtain ⟨o, a1, n1, c1, m, x, a2, n2, cc2, rfl⟩ := NV.form hv
  have hs3 := k3.size
  simp at hs3
  have k23 : xaa (xam w2.heap.size) (w.alloc (.cells #[.int .i64 0, .slice none 0 0, .int .i64 0, .int .i64 0, .slice none 0 0] 73)) w3 := xaa.trans (K2.out.mono (fun _ _ e => e.elim)) (xaa.trans (KI.out) k3)
  have d1 := h3.c1
  have d3 := h3.c3
  have HP3 := xa h3
  have hpl := h3.lt
  simp only at d1 d3
  rw [hb] at d3
  have KX := xa (xdw k23 (by omega))
  obtain ⟨⟨y0, y1, y2, y3, y4⟩, q0, q1, q2, q3, q4⟩ := xcO k23 (by omega)
  have HV := xa hv
  clear hv h3 k3
  have y0 := xaf y0 (.cells #[.int .i64 o, .slice a1 n1 c1, .int .i64 m, .int .i64 x, .slice a2 n2 cc2] 73)
  have y1 := xaf y1 (.cells #[.int .i64 o, .slice a1 n1 c1, .int .i64 m, .int .i64 x, .slice a2 n2 cc2] 73)
  have y2 := xaf y2 (.cells #[.int .i64 o, .slice a1 n1 c1, .int .i64 m, .int .i64 x, .slice a2 n2 cc2] 73)
  have y3 := xaf y3 (.cells #[.int .i64 o, .slice a1 n1 c1, .int .i64 m, .int .i64 x, .slice a2 n2 cc2] 73)
  have y4 := xaf y4 (.cells #[.int .i64 o, .slice a1 n1 c1, .int .i64 m, .int .i64 x, .slice a2 n2 cc2] 73)
  have q0 := xau q0 (by show w.heap.size < w3.heap.size; omega) (.cells #[.int .i64 o, .slice a1 n1 c1, .int .i64 m, .int .i64 x, .slice a2 n2 cc2] 73)
  have q1 := xau q1 (by show w.heap.size < w3.heap.size; omega) (.cells #[.int .i64 o, .slice a1 n1 c1, .int .i64 m, .int .i64 x, .slice a2 n2 cc2] 73)
  have q2 := xau q2 (by show w.heap.size < w3.heap.size; omega) (.cells #[.int .i64 o, .slice a1 n1 c1, .int .i64 m, .int .i64 x, .slice a2 n2 cc2] 73)
  have q3 := xau q3 (by show w.heap.size < w3.heap.size; omega) (.cells #[.int .i64 o, .slice a1 n1 c1, .int .i64 m, .int .i64 x, .slice a2 n2 cc2] 73)
  have q4 := xau q4 (by show w.heap.size < w3.heap.size; omega) (.cells #[.int .i64 o, .slice a1 n1 c1, .int .i64 m, .int .i64 x, .slice a2 n2 cc2] 73)
  unfold NV.val
  rw [hp] at d1
  clear k23
  go_wp2_with fail
  have k4 : KF w3 (w3.alloc (.cells #[.int .i64 o, .slice a1 n1 c1, .int .i64 m, .int .i64 x, .slice a2 n2 cc2] 73)) := (xaa.refl _ _).alloc _
  have K4 := xa (KX.out.trans k4)
  have HV4 := xa (HV.out.keepsTo (Q := fun b => w.heap.size < b) k4 (fun _ _ => id) (fun b hb => by have := hb.1; simp at this; omega))
  obtain ⟨w4, hw4⟩ : ∃ W, w3.alloc (.cells #[.int .i64 o, .slice a1 n1 c1, .int .i64 m, .int .i64 x, .slice a2 n2 cc2] 73) = W := ⟨_, rfl⟩
  rw [hw4] at y0 y1 y2 y3 y4 K4 HV4 ⊢
  clear q0 q1 q2 q3 q4
  obtain ⟨wE, hWE⟩ : ∃ W, st5 (w4) w.heap.size (.int .i64 o) (.slice a1 n1 c1) (.int .i64 m) (.int .i64 x) (.slice a2 n2 cc2) = W := ⟨_, rfl⟩
  obtain ⟨r0, r1, r2, r3, r4, kE⟩ := xap (w4) w.heap.size y0 y1 y2 y3 y4 (.int .i64 o) (.slice a1 n1 c1) (.int .i64 m) (.int .i64 x) (.slice a2 n2 cc2)
  rw [hWE] at r0 r1 r2 r3 r4 kE
  unfold st5 at hWE
  rw [hWE]
  have HKE := xa kE
  clear kE hWE y0 y1 y2 y3 y4
  refine bodyPost_ret (by simp [results, results59, go_sem, r0, r1, r2, r3, r4]; try rfl) rfl ?_
  exact xcb (v := ⟨o, .slice a1 n1 c1, m, x, .slice a2 n2 cc2⟩) (n := 0) K4.out HV4.out HKE.out
def strL (l : List UInt8) : Value := .string ⟨l.toArray⟩
theorem back1 (w : World) (c : UInt8) : (convert 22 9 (.slice (some ⟨w.heap.size, 0, none⟩) 1 1)).run prog (w.alloc (.cells #[.int .u8 (c.toNat : Int)] 5)) = .ok (.string ⟨#[c]⟩) (w.alloc (.cells #[.int .u8 (c.toNat : Int)] 5)) := by
 have := run_convert_bytes_back (P := prog) (w.alloc (.cells #[.int .u8 (c.toNat : Int)] 5)) 22 9 5 ⟨w.heap.size, 0, none⟩ 1 [c] underlying22 underlying5 underlying9 (fun j hj => by
  obtain rfl : j = 0 := by simp at hj; omega
  exact xaq w [.int .u8 (c.toNat : Int)] 5 0 _ rfl)
 exact this
theorem str_app (a b : List UInt8) : (⟨a.toArray⟩ : ByteArray) ++ ⟨b.toArray⟩ = ⟨(a ++ b).toArray⟩ := by
 apply ByteArray.ext
 simp [ByteArray.data_append]

theorem xf2 (r : Int) (w : World) : Calls prog 82 #[.int .i64 r] w fun e w' => e = .returned (.bool (isB r)) /\ w = w' := by
 by_cases h0 : 0 <= r
 · have g0 : decide (0 <= r) = true := by simpa using h0
   by_cases h1 : r <= 1114111
   · have g1 : decide (r <= 1114111) = true := by simpa using h1
     by_cases h2 : 55296 <= r
     · have g2 : decide (55296 <= r) = true := by simpa using h2
       by_cases h3 : r <= 57343
       · have g3 : decide (r <= 57343) = true := by simpa using h3
         rw [show isB r = false by simp [isB]; omega]
         go_enter func82, ntmps82
         go_wp2
         go_ret
         exact ⟨rfl, rfl⟩
       have g3 : decide (r <= 57343) = false := by simpa using h3
       rw [show isB r = true by simp [isB]; omega]
       go_enter func82, ntmps82
       go_wp2
       go_ret
       exact ⟨rfl, rfl⟩
     have g2 : decide (55296 <= r) = false := by simpa using h2
     rw [show isB r = true by simp [isB]; omega]
     go_enter func82, ntmps82
     go_wp2
     go_ret
     exact ⟨rfl, rfl⟩
   have g1 : decide (r <= 1114111) = false := by simpa using h1
   rw [show isB r = false by simp [isB]; omega]
   go_enter func82, ntmps82
   go_wp2
   go_ret
   exact ⟨rfl, rfl⟩
 have g0 : decide (0 <= r) = false := by simpa using h0
 rw [show isB r = false by simp [isB]; omega]
 go_enter func82, ntmps82
 go_wp2
 go_ret
 exact ⟨rfl, rfl⟩
theorem xk9 (r : Int) (w : World) (hb : isB r = true) : Calls prog 83 #[.int .i64 r] w fun e w' => e = .returned (.int .i64 (sizP r)) /\ w = w' := by
 have HI := xa (fun W => xf2 r W)
 have He : Hid (sizP r = if r < 128 then 1 else if r < 2048 then 2 else if r < 65536 then 3 else 4) := xa (by unfold sizP; rw [hb]; rfl)
 rw [hb] at HI
 clear hb
 generalize sizP r = q at He
 by_cases h1 : r < 128
 · have g1 : decide (r < 128) = true := by simpa using h1
   have E : Hid (q = 1) := xa (by rw [He.out, if_pos h1])
   clear He
   go_enter func83, ntmps83
   go_wp2_with fail
   refine (HI.out _).mono ?_
   rintro e w1 ⟨rfl, rfl⟩
   go_wp2
   go_ret
   exact ⟨by rw [E.out]; rfl, rfl⟩
 have g1 : decide (r < 128) = false := by simpa using h1
 by_cases h2 : r < 2048
 · have g2 : decide (r < 2048) = true := by simpa using h2
   have E : Hid (q = 2) := xa (by rw [He.out, if_neg h1, if_pos h2])
   clear He
   go_enter func83, ntmps83
   go_wp2_with fail
   refine (HI.out _).mono ?_
   rintro e w1 ⟨rfl, rfl⟩
   go_wp2
   go_ret
   exact ⟨by rw [E.out]; rfl, rfl⟩
 have g2 : decide (r < 2048) = false := by simpa using h2
 by_cases h3 : r < 65536
 · have g3 : decide (r < 65536) = true := by simpa using h3
   have E : Hid (q = 3) := xa (by rw [He.out, if_neg h1, if_neg h2, if_pos h3])
   clear He
   go_enter func83, ntmps83
   go_wp2_with fail
   refine (HI.out _).mono ?_
   rintro e w1 ⟨rfl, rfl⟩
   go_wp2
   go_ret
   exact ⟨by rw [E.out]; rfl, rfl⟩
 have g3 : decide (r < 65536) = false := by simpa using h3
 have E : Hid (q = 4) := xa (by rw [He.out, if_neg h1, if_neg h2, if_neg h3])
 clear He
 go_enter func83, ntmps83
 go_wp2_with fail
 refine (HI.out _).mono ?_
 rintro e w1 ⟨rfl, rfl⟩
 go_wp2
 go_ret
 exact ⟨by rw [E.out]; rfl, rfl⟩
def valH (c : Nat) : Nat := if 240 <= c then c - 240 else if 224 <= c then c - 224 else if 192 <= c then c - 192 else c
def valP : List UInt8 -> Nat
 | [] => 0
 | c :: l => l.foldl (fun r b => r * 64 + (b.toNat + 128) % 256) (valH c.toNat)
theorem xde (l : List UInt8) (b : UInt8) (h : l ≠ []) : valP (l ++ [b]) = valP l * 64 + (b.toNat + 128) % 256 := by
 cases l with
 | nil => exact absurd rfl h
 | cons c l => simp [valP]
theorem xcN {l : List UInt8} {i : Nat} {b : UInt8} (h : l[i]? = some b) : l.take (i + 1) = l.take i ++ [b] := by rw [List.take_add_one, h]; rfl
def bndV (i : Nat) : Nat := 300 * 65 ^ (i - 1)
theorem xgk {i : Nat} (h1 : 1 <= i) (h4 : i <= 4) : bndV i <= 82387500 /\ 300 <= bndV i /\ bndV (i + 1) = 65 * bndV i := by
 rcases (by omega : i = 1 \/ i = 2 \/ i = 3 \/ i = 4) with rfl | rfl | rfl | rfl <;> simp [bndV]
def ValR (l : List UInt8) (rv iv : Value) : Prop := ∃ (i r : Nat), iv = .int .i64 i /\ rv = .int .i64 r /\ 1 <= i /\ i <= l.length /\ r = valP (l.take i) /\ r <= bndV i
theorem idxB {l : List UInt8} {i : Nat} {c : UInt8} (hc : l[i]? = some c) : ∀ (h : i < (⟨l.toArray⟩ : ByteArray).size), (⟨l.toArray⟩ : ByteArray)[i]'h = c := fun h => by
 have := (List.getElem?_eq_some_iff.1 hc).2
 simpa [ByteArray.getElem_eq_getElem_data] using this
theorem xkE (c : UInt8) (t : List UInt8) (w : World) (hl : t.length <= 3) : Calls prog 81 #[.string ⟨(c :: t).toArray⟩] w fun e w' => e = .returned (.int .i64 (valP (c :: t))) /\ w = w' := by
 obtain ⟨l, hle⟩ : ∃ l, c :: t = l := ⟨_, rfl⟩
 rw [hle]
 have hlen : l.length <= 4 /\ 1 <= l.length := by rw [<- hle]; simp; omega
 have hc : l[0]? = some c := by rw [<- hle]; rfl
 have hx := idxB hc
 have h256 := c.toNat_lt
 have HV1 : Hid (valP (l.take 1) = valH c.toNat) := xa (by rw [<- hle]; rfl)
 have HR : Hid (valP (l.take l.length) = valP l) := xa (by rw [List.take_length])
 generalize valP l = R at *
 clear hle hc hl
 have hst : ∃ r, valH c.toNat = r /\ r <= 255 := ⟨_, rfl, by unfold valH; split <;> (try split) <;> (try split) <;> omega⟩
 obtain ⟨r0, hr0, hr1⟩ := hst
 have HV0 : Hid (r0 = valP (l.take 1)) := xa (by rw [HV1.out, hr0])
 have key : ∀ q : Nat, q = r0 -> ValR l (.int .i64 q) (.int .i64 1) := fun q hq => ⟨1, q, rfl, rfl, by omega, by omega, by rw [hq]; exact HV0.out, by simp [bndV]; omega⟩
 have KEY := xa key
 clear key HV1 HV0
 rcases (by omega : 240 <= c.toNat \/ (¬ 240 <= c.toNat /\ 224 <= c.toNat) \/ (¬ 240 <= c.toNat /\ ¬ 224 <= c.toNat /\ 192 <= c.toNat) \/ (¬ 240 <= c.toNat /\ ¬ 224 <= c.toNat /\ ¬ 192 <= c.toNat)) with h1 | ⟨h1, h2⟩ | ⟨h1, h2, h3⟩ | ⟨h1, h2, h3⟩
 · have e : r0 = c.toNat - 240 := by rw [<- hr0]; unfold valH; rw [if_pos h1]
   have g1 : decide ((240 : Int) <= ((c.toNat : Nat) : Int)) = true := by simp; omega
   have g1n : decide (240 <= c.toNat) = true := by simpa using h1
   have HS : Hid (ValR l (.int .i64 ((c.toNat : Int) - 240)) (.int .i64 1)) := xa (by
    have := KEY.out (c.toNat - 240) e.symm
    rwa [show ((c.toNat - 240 : Nat) : Int) = (c.toNat : Int) - 240 by omega] at this)
   clear hr0 e KEY
   go_enter func81, ntmps81
   go_wp2_with fail
   go_loopw [4, 5] (fun rv iv wr => ValR l rv iv /\ w = wr) (fun _ iv _ => l.length + 1 - (intOf iv).toNat)
   case atStart => exact ⟨HS.out, rfl⟩
   case round =>
    obtain ⟨⟨i, r, rfl, rfl, hi1, hi2, hv, hb⟩, rfl⟩ := hrel
    have HVV := xa hv
    have hbb := xgk hi1 (by omega)
    clear hv hx HS
    by_cases hil : i < l.length
    · obtain ⟨b, hb2⟩ : ∃ b, l[i]? = some b := ⟨_, List.getElem?_eq_getElem hil⟩
      have hy := idxB hb2
      have HN : Hid (valP (l.take (i + 1)) = r * 64 + (b.toNat + 128) % 256) := xa (by
       rw [xcN hb2, xde _ _ (by intro h; have := congrArg List.length h; rw [List.length_take, List.length_nil] at this; omega), HVV.out])
      have h256 := b.toNat_lt
      have t1 : ((b.toNat : Int) + 128).tmod 256 = ((b.toNat : Int) + 128) % 256 := Int.tmod_eq_emod_of_nonneg (by omega)
      clear hb2
      go_wp2
      go_roundw
      case rel => exact ⟨⟨i + 1, r * 64 + (b.toNat + 128) % 256, by go_num, by congr 1, by omega, by omega, HN.out.symm, by rw [hbb.2.2]; omega⟩, by trivial⟩
      case measure => simp [intOf]; omega
    have he : i = l.length := by omega
    subst he
    go_wp2
    go_ret
    exact ⟨by rw [<- HR.out, <- HVV.out]; rfl, rfl⟩
 · have e : r0 = c.toNat - 224 := by rw [<- hr0]; unfold valH; rw [if_neg h1, if_pos h2]
   have g1 : decide ((240 : Int) <= ((c.toNat : Nat) : Int)) = false := by simp; omega
   have g1n : decide (240 <= c.toNat) = false := by simpa using h1
   have g2 : decide ((224 : Int) <= ((c.toNat : Nat) : Int)) = true := by simp; omega
   have g2n : decide (224 <= c.toNat) = true := by simpa using h2
   have HS : Hid (ValR l (.int .i64 ((c.toNat : Int) - 224)) (.int .i64 1)) := xa (by
    have := KEY.out (c.toNat - 224) e.symm
    rwa [show ((c.toNat - 224 : Nat) : Int) = (c.toNat : Int) - 224 by omega] at this)
   clear hr0 e KEY
   go_enter func81, ntmps81
   go_wp2_with fail
   go_loopw [4, 5] (fun rv iv wr => ValR l rv iv /\ w = wr) (fun _ iv _ => l.length + 1 - (intOf iv).toNat)
   case atStart => exact ⟨HS.out, rfl⟩
   case round =>
    obtain ⟨⟨i, r, rfl, rfl, hi1, hi2, hv, hb⟩, rfl⟩ := hrel
    have HVV := xa hv
    have hbb := xgk hi1 (by omega)
    clear hv hx HS
    by_cases hil : i < l.length
    · obtain ⟨b, hb2⟩ : ∃ b, l[i]? = some b := ⟨_, List.getElem?_eq_getElem hil⟩
      have hy := idxB hb2
      have HN : Hid (valP (l.take (i + 1)) = r * 64 + (b.toNat + 128) % 256) := xa (by
       rw [xcN hb2, xde _ _ (by intro h; have := congrArg List.length h; rw [List.length_take, List.length_nil] at this; omega), HVV.out])
      have h256 := b.toNat_lt
      have t1 : ((b.toNat : Int) + 128).tmod 256 = ((b.toNat : Int) + 128) % 256 := Int.tmod_eq_emod_of_nonneg (by omega)
      clear hb2
      go_wp2
      go_roundw
      case rel => exact ⟨⟨i + 1, r * 64 + (b.toNat + 128) % 256, by go_num, by congr 1, by omega, by omega, HN.out.symm, by rw [hbb.2.2]; omega⟩, by trivial⟩
      case measure => simp [intOf]; omega
    have he : i = l.length := by omega
    subst he
    go_wp2
    go_ret
    exact ⟨by rw [<- HR.out, <- HVV.out]; rfl, rfl⟩
 · have e : r0 = c.toNat - 192 := by rw [<- hr0]; unfold valH; rw [if_neg h1, if_neg h2, if_pos h3]
   have g1 : decide ((240 : Int) <= ((c.toNat : Nat) : Int)) = false := by simp; omega
   have g1n : decide (240 <= c.toNat) = false := by simpa using h1
   have g2 : decide ((224 : Int) <= ((c.toNat : Nat) : Int)) = false := by simp; omega
   have g2n : decide (224 <= c.toNat) = false := by simpa using h2
   have g3 : decide ((192 : Int) <= ((c.toNat : Nat) : Int)) = true := by simp; omega
   have g3n : decide (192 <= c.toNat) = true := by simpa using h3
   have HS : Hid (ValR l (.int .i64 ((c.toNat : Int) - 192)) (.int .i64 1)) := xa (by
    have := KEY.out (c.toNat - 192) e.symm
    rwa [show ((c.toNat - 192 : Nat) : Int) = (c.toNat : Int) - 192 by omega] at this)
   clear hr0 e KEY
   go_enter func81, ntmps81
   go_wp2_with fail
   go_loopw [4, 5] (fun rv iv wr => ValR l rv iv /\ w = wr) (fun _ iv _ => l.length + 1 - (intOf iv).toNat)
   case atStart => exact ⟨HS.out, rfl⟩
   case round =>
    obtain ⟨⟨i, r, rfl, rfl, hi1, hi2, hv, hb⟩, rfl⟩ := hrel
    have HVV := xa hv
    have hbb := xgk hi1 (by omega)
    clear hv hx HS
    by_cases hil : i < l.length
    · obtain ⟨b, hb2⟩ : ∃ b, l[i]? = some b := ⟨_, List.getElem?_eq_getElem hil⟩
      have hy := idxB hb2
      have HN : Hid (valP (l.take (i + 1)) = r * 64 + (b.toNat + 128) % 256) := xa (by
       rw [xcN hb2, xde _ _ (by intro h; have := congrArg List.length h; rw [List.length_take, List.length_nil] at this; omega), HVV.out])
      have h256 := b.toNat_lt
      have t1 : ((b.toNat : Int) + 128).tmod 256 = ((b.toNat : Int) + 128) % 256 := Int.tmod_eq_emod_of_nonneg (by omega)
      clear hb2
      go_wp2
      go_roundw
      case rel => exact ⟨⟨i + 1, r * 64 + (b.toNat + 128) % 256, by go_num, by congr 1, by omega, by omega, HN.out.symm, by rw [hbb.2.2]; omega⟩, by trivial⟩
      case measure => simp [intOf]; omega
    have he : i = l.length := by omega
    subst he
    go_wp2
    go_ret
    exact ⟨by rw [<- HR.out, <- HVV.out]; rfl, rfl⟩
 have e : r0 = c.toNat := by rw [<- hr0]; unfold valH; rw [if_neg h1, if_neg h2, if_neg h3]
 have g1 : decide ((240 : Int) <= ((c.toNat : Nat) : Int)) = false := by simp; omega
 have g1n : decide (240 <= c.toNat) = false := by simpa using h1
 have g2 : decide ((224 : Int) <= ((c.toNat : Nat) : Int)) = false := by simp; omega
 have g2n : decide (224 <= c.toNat) = false := by simpa using h2
 have g3 : decide ((192 : Int) <= ((c.toNat : Nat) : Int)) = false := by simp; omega
 have g3n : decide (192 <= c.toNat) = false := by simpa using h3
 have HS : Hid (ValR l (.int .i64 (c.toNat : Int)) (.int .i64 1)) := xa (KEY.out _ e.symm)
 clear hr0 e KEY
 go_enter func81, ntmps81
 go_wp2_with fail
 go_loopw [4, 5] (fun rv iv wr => ValR l rv iv /\ w = wr) (fun _ iv _ => l.length + 1 - (intOf iv).toNat)
 case atStart => exact ⟨HS.out, rfl⟩
 case round =>
  obtain ⟨⟨i, r, rfl, rfl, hi1, hi2, hv, hb⟩, rfl⟩ := hrel
  have HVV := xa hv
  have hbb := xgk hi1 (by omega)
  clear hv hx HS
  by_cases hil : i < l.length
  · obtain ⟨b, hb2⟩ : ∃ b, l[i]? = some b := ⟨_, List.getElem?_eq_getElem hil⟩
    have hy := idxB hb2
    have HN : Hid (valP (l.take (i + 1)) = r * 64 + (b.toNat + 128) % 256) := xa (by
     rw [xcN hb2, xde _ _ (by intro h; have := congrArg List.length h; rw [List.length_take, List.length_nil] at this; omega), HVV.out])
    have h256 := b.toNat_lt
    have t1 : ((b.toNat : Int) + 128).tmod 256 = ((b.toNat : Int) + 128) % 256 := Int.tmod_eq_emod_of_nonneg (by omega)
    clear hb2
    go_wp2
    go_roundw
    case rel => exact ⟨⟨i + 1, r * 64 + (b.toNat + 128) % 256, by go_num, by congr 1, by omega, by omega, HN.out.symm, by rw [hbb.2.2]; omega⟩, by trivial⟩
    case measure => simp [intOf]; omega
  have he : i = l.length := by omega
  subst he
  go_wp2
  go_ret
  exact ⟨by rw [<- HR.out, <- HVV.out]; rfl, rfl⟩
end Go.Proofs.YtapmdhejgnplaaaGreat
