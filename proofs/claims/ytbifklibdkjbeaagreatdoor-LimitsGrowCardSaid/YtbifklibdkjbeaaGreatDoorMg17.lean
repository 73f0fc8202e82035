/-
  Several texts in one: The parser's pieces. The parser's alternatives; all of the parser by induction on how deep parentheses stand. The parser's Parse.
-/
import Derived.Test.YtbifklibdkjbeaaGreatDoorMg16
import Derived.Maps.AppendAt
import Derived.Test.YtbifklibdkjbeaaGreatDoorMg10
namespace Go.Proofs.YtbifklibdkjbeaaGreatDoor
open Go.RowKit
set_option linter.unusedVariables false
set_option linter.unusedSimpArgs false
set_option maxRecDepth 100000
set_option maxHeartbeats 8000000
def Kb (w wr : World) (kv : Value) : Nat → Prop := fun b => w.heap.size < b ∧ b < wr.heap.size ∧ kv.ownBlock ≠ some b
structure xbd (w : World) (pb : Nat) (rv : Value) (rs : List Int) (wr : World) (kv : Value) (s : PS) (l : List T) (vs : List NV) : Prop where
 own : wr.ownsRow (w.heap.size + 1) 154 5 kv l.length (cellsOf 5 encN vs)
 kids : FAt wr (Kb w wr kv) (F.ofL l) vs
 pa : PaAt wr pb rv rs s
 keep : xa (xaj pb) (w.alloc (.cells #[.int .i64 0, .slice none 0 0, .int .i64 0, .int .i64 0, .slice none 0 0] 154)) wr
theorem xbd.size {w wr : World} {pb : Nat} {rv kv : Value} {rs : List Int} {s : PS} {l : List T} {vs : List NV} (h : xbd w pb rv rs wr kv s l vs) : w.heap.size < wr.heap.size := by
 have := h.keep.size; simp at this; omega
theorem xbd.start {w w1 : World} {pb : Nat} {rv : Value} {rs : List Int} {s : PS} (hP : PaAt w1 pb rv rs s) (K : xa (xaj pb) (w.alloc (.cells #[.int .i64 0, .slice none 0 0, .int .i64 0, .int .i64 0, .slice none 0 0] 154)) w1) :
 xbd w pb rv rs w1 (.slice none 0 0) s [] [] := ⟨World.ownsRow_nil _ _ _ _, rfl, hP, K⟩
theorem xki (v : NV) : [Value.int .i64 v.op, v.sv, .int .i64 v.mn, .int .i64 v.mx, v.kv] = cellsOf 5 encN [v] := by simp [cellsOf, xfH]
structure xij (w : World) (pb : Nat) (rv : Value) (rs : List Int) (wr w2 : World) (kv : Value) (s2 : PS) (l : List T) (vs : List NV) (v : NV) (t : T) : Prop where
 k : xbd w pb rv rs wr kv s2 l vs ∨ True
 own : w2.ownsRow (w.heap.size + 1) 154 5 kv l.length (cellsOf 5 encN vs)
 lt : ∀ b, kv.ownBlock = some b → b < wr.heap.size
 base : ∀ b, kv.ownBlock = some b → w.heap.size < b
 kids : FAt w2 (Kb w wr kv) (F.ofL l) vs
 node : TAt w2 (Bt wr w2) v t
 pa : PaAt w2 pb rv rs s2
 size : w.heap.size < wr.heap.size ∧ wr.heap.size ≤ w2.heap.size
 keep : xa (xaj pb) (w.alloc (.cells #[.int .i64 0, .slice none 0 0, .int .i64 0, .int .i64 0, .slice none 0 0] 154)) w2
theorem xbd.mid {w wr w2 : World} {pb : Nat} {rv kv : Value} {rs : List Int} {s s2 : PS} {l : List T} {vs : List NV} {v : NV} {t : T} (h : xbd w pb rv rs wr kv s l vs) (hpb : pb < w.heap.size)
 (hT : TAt w2 (Bt wr w2) v t) (hP : PaAt w2 pb rv rs s2) (K : xa (xaj pb) wr w2) : xij w pb rv rs wr w2 kv s2 l vs v t := by
 refine ⟨Or.inr trivial, xaG h.own K (by omega), xaM h.own, fun b hb => by have := xaa h.own b hb; omega, h.kids.keepsTo K (fun b hb e => ?_) (fun b hb => hb), hT, hP, ⟨h.size, K.size⟩, h.keep.trans K⟩
 have e : b = pb := e
 have := hb.1; omega
theorem xij.snoc {w wr w2 w9 : World} {o : Obj} {pb : Nat} {rv kv v' : Value} {rs : List Int} {s2 : PS} {l : List T} {vs : List NV} {v : NV} {t : T} (h : xij w pb rv rs wr w2 kv s2 l vs v t) (hpb : pb < w.heap.size) (hrb : ∀ b, rv.ownBlock = some b → b < w.heap.size)
 (hown : w9.ownsRow (w.heap.size + 1) 154 5 v' (l.length + 1) (cellsOf 5 encN vs ++ [Value.int .i64 v.op, v.sv, .int .i64 v.mn, .int .i64 v.mx, v.kv]))
 (hg : (w2.alloc o).grownBy w9 kv.ownBlock) (hloc : v'.ownBlock = kv.ownBlock ∨ v'.ownBlock = some (w2.heap.size + 1)) : xbd w pb rv rs w9 v' s2 (l ++ [t]) (vs ++ [v]) := by
 have k9 : xa (fun b => kv.ownBlock = some b) w2 w9 := ((xa.refl _ _).alloc o).grown hg (fun b hb => Or.inl hb)
 have hs9 := k9.size
 have hs1 := h.size
 have e1 : ∀ b, Kb w wr kv b → Kb w w9 v' b := fun b hb => ⟨hb.1, by have := hb.2.1; omega, fun e => by
  rcases hloc with h1 | h1
  · exact hb.2.2 (h1 ▸ e)
  rw [h1] at e; have := Option.some.inj e; have := hb.2.1; omega⟩
 have e2 : ∀ b, Bt wr w2 b → Kb w w9 v' b := fun b hb => ⟨by have := hb.1; omega, by have := hb.2; omega, fun e => by
  rcases hloc with h1 | h1
  · have := h.lt b (h1 ▸ e); have := hb.1; omega
  rw [h1] at e; have := Option.some.inj e; have := hb.2; omega⟩
 refine ⟨?_, ?_, ?_, ?_⟩
 · rw [List.length_append, xag, ← xki]; exact hown
 · exact FAt.snoc (h.kids.keepsTo k9 (fun b hb e => hb.2.2 e) e1) (h.node.keepsTo k9 (fun b hb e => by have := h.lt b e; have := hb.1; omega) e2)
 · exact h.pa.keeps k9 (fun e => by have := h.base pb e; omega) (fun b hb e => by have := h.base b e; have := hrb b hb; omega)
 exact h.keep.trans2 k9 (fun b hb e => by have := h.base b e; simp at hb; omega)
theorem xbd.keepF {w wr w' : World} {pb : Nat} {rv kv : Value} {rs : List Int} {s : PS} {l : List T} {vs : List NV} (h : xbd w pb rv rs wr kv s l vs) (K : xa (fun _ => False) wr w') : xbd w pb rv rs w' kv s l vs :=
 ⟨xae h.own K (fun _ _ => id), h.kids.keepsTo K (fun _ _ => id) (fun b hb => ⟨hb.1, by have := hb.2.1; have := K.size; omega, hb.2.2⟩), h.pa.keepsF K, h.keep.trans (K.mono (fun _ _ e => e.elim))⟩
theorem xbd.slof {w wr : World} {pb : Nat} {rv kv : Value} {rs : List Int} {s : PS} {l : List T} {vs : List NV} (h : xbd w pb rv rs wr kv s l vs) (hl : l.length ≤ 1000000) : SlOf 5 encN wr kv vs :=
 SlOf.ofOwn (by have := h.own; rwa [← h.kids.len] at this) (by rw [h.kids.len]; omega)
def PcR (f : PS → T × PS) (D : PS → Prop) (w : World) (pb : Nat) (rv : Value) (rs : List Int) (R : List T × PS) (kv r : Value) (wr : World) : Prop :=
 ∃ n s l vs, r = .int .i64 (pk rs s) ∧ xbd w pb rv rs wr kv s l vs ∧ xbp f rs n s l = R ∧ Inv rs s ∧ D s ∧ rs.length + 9 ≤ n + s.pos ∧ l.length ≤ s.pos
theorem xfq {f : PS → T × PS} {rs : List Int} {C D : PS → Prop} (H : xmE f rs C D) (w : World) (pb : Nat) (rv : Value) (s : PS) (h : PaAt w pb rv rs s) (hi : Inv rs s) (hd : D s) :
 Calls Tryz.prog 164 #[.pointer (some ⟨pb, 0, none⟩)] w (xda w pb rv rs (xao f rs s)) := by
 have hpb := h.lt
 have hrb := h.rb
 obtain ⟨i0, hi0, hz0, hz1, hz2⟩ := info_parts xeM
 have HH := xoo h
 have HRB := xoo hrb
 have HI := xoo hi
 have HD := xoo hd
 have HST := xoo H
 have hlen := H.len
 obtain ⟨R, hR⟩ : ∃ R, pcsR f rs s = R := ⟨_, rfl⟩
 have HR : Hid (xbp f rs (rs.length + 9) s [] = R) := xoo hR
 have E : Hid (xao f rs s = (xa6 4 R.1, R.2)) := xoo (by unfold xao; rw [hR])
 rw [E.out]
 clear E hR h hrb hi hd H
 go_enter Tryz.func164, Tryz.ntmps164
 go_wp2_with fail
 refine (xbY _ pb rv rs s (HH.out.keepsF (KI.out))).mono ?_
 rintro e w1 ⟨rfl, k1⟩
 have hst : xbd w pb rv rs w1 (.slice none 0 0) s [] [] := xbd.start (HH.out.keepsF (xa.trans (KI.out) k1)) (k1.mono (fun _ _ e => e.elim))
 have HST1 := xoo hst
 clear hst k1
 go_wp2_with fail
 go_loopw [3, 4] (fun kv r wr => PcR f D w pb rv rs R kv r wr) (fun _ _ wr => rs.length + 30 - xk6 wr pb)
 case atStart => exact ⟨rs.length + 9, s, [], [], rfl, HST1.out, HR.out, HI.out, HD.out, by omega, by simp⟩
 case round =>
  obtain ⟨n, s', l, vs, rfl, hK, hgo, hinv, hd, hn, hll⟩ := hrel
  have HK := xoo hK
  have hsz := hK.size
  obtain ⟨ka, kc, rfl⟩ := xac hK.own
  have hap := hK.pa.lt
  have Hpo := xoo (xaU hK.pa)
  have hpa := hinv.a
  have Hgo := xoo hgo
  have Hinv := xoo hinv
  have Hd := xoo hd
  clear hK hgo hinv hd
  cases hq : isPc (pk rs s') with
  | true =>
   have hp0 := xf8 hq
   have hroom := xaJ hp0
   have g0 : decide (0 ≤ pk rs s') = true := by simpa using hp0
   have g1 : (pk rs s' != 124) = true := by simp [isPc] at hq; simpa using hq.2.1
   have g2 : (pk rs s' != 41) = true := by simp [isPc] at hq; simpa using hq.2.2
   have hcg := xc7 HST.out.go hp0
   have hg1 := xeQ HST.out.go hp0
   have Hgo2 : Hid (xbp f rs (n - 1) (xak f rs s').2 (l ++ [(xak f rs s').1]) = R) := xoo (by
    have := Hgo.out
    obtain ⟨m, rfl⟩ : ∃ m, n = m + 1 := ⟨n - 1, by omega⟩
    unfold xbp at this
    rw [if_pos hq] at this
    exact this)
   have HC := xoo (xh2 HST.out wr pb rv s' HK.out.pa Hinv.out Hd.out hp0)
   have Hd2 := xoo (HST.out.dd _ _ Hd.out hg1)
   have Hinv2 := xoo hcg.2.2
   have hcpos := hcg.1
   obtain ⟨t1, ht1⟩ : ∃ x, (xak f rs s').1 = x := ⟨_, rfl⟩
   obtain ⟨s2, hs2⟩ : ∃ x, (xak f rs s').2 = x := ⟨_, rfl⟩
   rw [show xak f rs s' = (t1, s2) by rw [← ht1, ← hs2]] at HC
   rw [ht1, hs2] at Hgo2
   rw [hs2] at Hd2 Hinv2 hcpos
   clear ht1 hs2 hcg hg1 hq
   generalize pk rs s' = r at *
   go_wp2_with fail
   refine HC.out.mono ?_
   rintro e w2 ⟨v, rfl, hv, h2, k2⟩
   obtain ⟨o, a1, n1, c1, m, x, a2, n2, cc2, rfl⟩ := NV.form hv
   have HM := xoo (HK.out.mid hpb hv h2 k2)
   have hs2' := k2.size
   clear hv h2 k2
   unfold NV.val
   go_wp2_with (at_builtin; refine wpList_append_own_at _ rfl (.tmp 19) (.tmp 22) 152 rfl (w.heap.size + 1) 154 i0 _ 5 72 Tryz.underlying152 hi0 hz0 hz1 hz2 rfl (by decide) _ _ _ rfl (xab HM.out.own _) ⟨w2.heap.size, 0, none⟩ 1 1 [.int .i64 o, .slice a1 n1 c1, .int .i64 m, .int .i64 x, .slice a2 n2 cc2] rfl rfl (by exact xan _ [_, _, _, _, _] _) (by intro u hu; simp at hu; rcases hu with rfl | rfl | rfl | rfl | rfl <;> rfl) ?d3 ?d4 ?d5 ?_)
   case d3 => unfold maxLen; omega
   case d4 => omega
   case d5 => simp; omega
   intro v' w9 hown' hgrow _ hloc
   have HK9 := xoo (HM.out.snoc hpb HRB.out hown' hgrow hloc)
   obtain ⟨ka9, kc9, rfl⟩ := xac hown'
   have hs9 := hgrow.size
   simp at hs9
   clear hown' hgrow hloc
   have hap9 := HK9.out.pa.lt
   go_wp2_with fail
   refine (xbY w9 pb rv rs s2 HK9.out.pa).mono ?_
   rintro e w10 ⟨rfl, k10⟩
   have HKE := xoo (HK9.out.keepF k10)
   go_wp2_with fail
   have h6 := xaU HKE.out.pa
   have h7 := Hpo.out
   have h8 := Hinv2.out.a
   go_roundw
   case rel => exact ⟨n - 1, s2, _, _, rfl, HKE.out, Hgo2.out, Hinv2.out, Hd2.out, by omega, by simp; omega⟩
   case measure => omega
  | false =>
   have hE : R = (l, s') := by
    have := Hgo.out
    cases n with
    | zero => exact this.symm
    | succ n => unfold xbp at this; rw [if_neg (by rw [hq]; simp)] at this; exact this.symm
   subst hE
   have hle := xk7 HK.out.pa
   have HJ := xoo (fun (W : World) (K : xa (fun _ => False) wr W) => xiT 4 (.slice ka l.length kc) vs l (fun b => w.heap.size < b ∧ b < wr.heap.size) W
    ((HK.out.slof (by omega)).keep K) (HK.out.kids.keepsTo K (fun _ _ => id) (fun b hb => ⟨hb.1, hb.2.1⟩)) (fun b hb => ⟨by have := xaa HK.out.own b hb; omega, xaM HK.out.own b hb⟩))
   have hcase : (pk rs s' < 0) ∨ (pk rs s' = 124) ∨ (pk rs s' = 41) := by
    simp [isPc] at hq; omega
   rcases hcase with hc | hc | hc
   · have g0 : decide (0 ≤ pk rs s') = false := by simp; omega
     clear hq hc
     generalize pk rs s' = r at *
     go_wp2_with fail
     refine (HJ.out _ (xa.refl _ _)).mono ?_
     rintro e w5 ⟨v, rfl, hv, k5⟩
     obtain ⟨o, a1, n1, c1, m, x, a2, n2, cc2, rfl⟩ := NV.form hv
     have KX := xoo (HK.out.keep.trans (k5.mono (T := xaj pb) (fun _ _ e => e.elim)))
     have HPX := xoo (HK.out.pa.keepsF k5)
     have HTX := xoo (hv.keepsTo (Q := fun b => w.heap.size < b ∧ b < w5.heap.size) (xa.refl (fun _ => False) _) (fun _ _ => id) (fun b hb => ⟨hb.1, by have := k5.size; omega⟩))
     obtain ⟨⟨y0, y1, y2, y3, y4⟩, q0, q1, q2, q3, q4⟩ := xaz KX.out hpb
     clear hv k5
     unfold NV.val
     go_wp2_with fail
     obtain ⟨wE, hWE⟩ : ∃ W, st5 (w5) w.heap.size (.int .i64 o) (.slice a1 n1 c1) (.int .i64 m) (.int .i64 x) (.slice a2 n2 cc2) = W := ⟨_, rfl⟩
     obtain ⟨r0, r1, r2, r3, r4, kE⟩ := xam (w5) w.heap.size y0 y1 y2 y3 y4 (.int .i64 o) (.slice a1 n1 c1) (.int .i64 m) (.int .i64 x) (.slice a2 n2 cc2)
     rw [hWE] at r0 r1 r2 r3 r4 kE
     unfold st5 at hWE
     rw [hWE]
     have HKE := xoo kE
     clear kE hWE y0 y1 y2 y3 y4
     refine bodyPost_ret (by simp [results, Tryz.results164, go_sem, r0, r1, r2, r3, r4]; try rfl) rfl ?_
     exact xaD (v := ⟨o, .slice a1 n1 c1, m, x, .slice a2 n2 cc2⟩) hpb HH.out.rb KX.out HPX.out HTX.out HKE.out
   · rw [hc]
     clear hq
     go_wp2_with fail
     refine (HJ.out _ (xa.refl _ _)).mono ?_
     rintro e w5 ⟨v, rfl, hv, k5⟩
     obtain ⟨o, a1, n1, c1, m, x, a2, n2, cc2, rfl⟩ := NV.form hv
     have KX := xoo (HK.out.keep.trans (k5.mono (T := xaj pb) (fun _ _ e => e.elim)))
     have HPX := xoo (HK.out.pa.keepsF k5)
     have HTX := xoo (hv.keepsTo (Q := fun b => w.heap.size < b ∧ b < w5.heap.size) (xa.refl (fun _ => False) _) (fun _ _ => id) (fun b hb => ⟨hb.1, by have := k5.size; omega⟩))
     obtain ⟨⟨y0, y1, y2, y3, y4⟩, q0, q1, q2, q3, q4⟩ := xaz KX.out hpb
     clear hv k5
     unfold NV.val
     go_wp2_with fail
     obtain ⟨wE, hWE⟩ : ∃ W, st5 (w5) w.heap.size (.int .i64 o) (.slice a1 n1 c1) (.int .i64 m) (.int .i64 x) (.slice a2 n2 cc2) = W := ⟨_, rfl⟩
     obtain ⟨r0, r1, r2, r3, r4, kE⟩ := xam (w5) w.heap.size y0 y1 y2 y3 y4 (.int .i64 o) (.slice a1 n1 c1) (.int .i64 m) (.int .i64 x) (.slice a2 n2 cc2)
     rw [hWE] at r0 r1 r2 r3 r4 kE
     unfold st5 at hWE
     rw [hWE]
     have HKE := xoo kE
     clear kE hWE y0 y1 y2 y3 y4
     refine bodyPost_ret (by simp [results, Tryz.results164, go_sem, r0, r1, r2, r3, r4]; try rfl) rfl ?_
     exact xaD (v := ⟨o, .slice a1 n1 c1, m, x, .slice a2 n2 cc2⟩) hpb HH.out.rb KX.out HPX.out HTX.out HKE.out
   rw [hc]
   clear hq
   go_wp2_with fail
   refine (HJ.out _ (xa.refl _ _)).mono ?_
   rintro e w5 ⟨v, rfl, hv, k5⟩
   obtain ⟨o, a1, n1, c1, m, x, a2, n2, cc2, rfl⟩ := NV.form hv
   have KX := xoo (HK.out.keep.trans (k5.mono (T := xaj pb) (fun _ _ e => e.elim)))
   have HPX := xoo (HK.out.pa.keepsF k5)
   have HTX := xoo (hv.keepsTo (Q := fun b => w.heap.size < b ∧ b < w5.heap.size) (xa.refl (fun _ => False) _) (fun _ _ => id) (fun b hb => ⟨hb.1, by have := k5.size; omega⟩))
   obtain ⟨⟨y0, y1, y2, y3, y4⟩, q0, q1, q2, q3, q4⟩ := xaz KX.out hpb
   clear hv k5
   unfold NV.val
   go_wp2_with fail
   obtain ⟨wE, hWE⟩ : ∃ W, st5 (w5) w.heap.size (.int .i64 o) (.slice a1 n1 c1) (.int .i64 m) (.int .i64 x) (.slice a2 n2 cc2) = W := ⟨_, rfl⟩
   obtain ⟨r0, r1, r2, r3, r4, kE⟩ := xam (w5) w.heap.size y0 y1 y2 y3 y4 (.int .i64 o) (.slice a1 n1 c1) (.int .i64 m) (.int .i64 x) (.slice a2 n2 cc2)
   rw [hWE] at r0 r1 r2 r3 r4 kE
   unfold st5 at hWE
   rw [hWE]
   have HKE := xoo kE
   clear kE hWE y0 y1 y2 y3 y4
   refine bodyPost_ret (by simp [results, Tryz.results164, go_sem, r0, r1, r2, r3, r4]; try rfl) rfl ?_
   exact xaD (v := ⟨o, .slice a1 n1 c1, m, x, .slice a2 n2 cc2⟩) hpb HH.out.rb KX.out HPX.out HTX.out HKE.out
theorem xbd.keepP {w wr w' : World} {pb : Nat} {rv kv : Value} {rs : List Int} {s s2 : PS} {l : List T} {vs : List NV} (h : xbd w pb rv rs wr kv s l vs) (hpb : pb < w.heap.size) (hP : PaAt w' pb rv rs s2) (K : xa (xaj pb) wr w') : xbd w pb rv rs w' kv s2 l vs :=
 ⟨xaG h.own K (by omega), h.kids.keepsTo K (fun b hb e => by have e : b = pb := e; have := hb.1; omega) (fun b hb => ⟨hb.1, by have := hb.2.1; have := K.size; omega, hb.2.2⟩), hP, h.keep.trans K⟩
theorem xbd.first {w w1 w2 : World} {pb : Nat} {rv : Value} {rs : List Int} {s2 : PS} {v : NV} {t : T} (hpb : pb < w.heap.size)
 (K0 : xa (xaj pb) (w.alloc (.cells #[.int .i64 0, .slice none 0 0, .int .i64 0, .int .i64 0, .slice none 0 0] 154)) w1) (hT : TAt w2 (Bt w1 w2) v t) (hP : PaAt w2 pb rv rs s2) (K : xa (xaj pb) w1 w2) :
 xbd w pb rv rs (w2.alloc (.cells #[.int .i64 v.op, v.sv, .int .i64 v.mn, .int .i64 v.mx, v.kv] 154)) (.slice (some ⟨w2.heap.size, 0, none⟩) 1 1) s2 [t] [v] := by
 have hs0 := K0.size
 have hs1 := K.size
 simp at hs0
 have ka : xa (fun _ => False) w2 (w2.alloc (.cells #[.int .i64 v.op, v.sv, .int .i64 v.mn, .int .i64 v.mx, v.kv] 154)) := (xa.refl _ _).alloc _
 refine ⟨⟨rfl, Or.inr ⟨w2.heap.size, 1, _, rfl, by omega, heap_alloc_new w2 _, Nat.le_refl _, by unfold maxLen; decide, rfl, rfl⟩⟩, ?_, hP.keepsF ka, (K0.trans K).trans (ka.mono (fun _ _ e => e.elim))⟩
 exact FAt.cons_iff.2 ⟨v, [], rfl, hT.keepsTo ka (fun _ _ => id) (fun b hb => ⟨by have := hb.1; omega, by have := hb.2; simp; omega, fun e => by have := hb.2; simp [Value.ownBlock] at e; omega⟩), rfl⟩
def AltR (f : PS → T × PS) (D : PS → Prop) (w : World) (pb : Nat) (rv : Value) (rs : List Int) (R : List T × PS) (kv : Value) (wr : World) : Prop :=
 ∃ n s l vs, xbd w pb rv rs wr kv s l vs ∧ xbq f rs n s l = R ∧ Inv rs s ∧ D s ∧ rs.length + 9 ≤ n + s.pos ∧ l.length ≤ s.pos + 1
theorem xgq {f : PS → T × PS} {rs : List Int} {C D : PS → Prop} (H : xmE f rs C D) : AltC (xd f rs) rs D := by
 intro w pb rv s h hi hd
 have hpb := h.lt
 have hrb := h.rb
 obtain ⟨i0, hi0, hz0, hz1, hz2⟩ := info_parts xeM
 have HH := xoo h
 have HRB := xoo hrb
 have HST := xoo H
 have hlen := H.len
 have hpg := xcM H.go s
 have HI := xoo (hpg.inv hi)
 have HD := xoo (H.dd _ _ hd hpg)
 have HPC := xoo (fun (W : World) (hW : PaAt W pb rv rs s) => xfq H W pb rv s hW hi hd)
 obtain ⟨R, hR⟩ : ∃ R, altR f rs s = R := ⟨_, rfl⟩
 obtain ⟨t1, ht1⟩ : ∃ x, (xao f rs s).1 = x := ⟨_, rfl⟩
 obtain ⟨s1, hs1⟩ : ∃ x, (xao f rs s).2 = x := ⟨_, rfl⟩
 have HR : Hid (xbq f rs (rs.length + 9) s1 [t1] = R) := xoo (by rw [← hs1, ← ht1]; exact hR)
 have E : Hid (xd f rs s = (xa6 5 R.1, R.2)) := xoo (by unfold xd; rw [hR])
 rw [show xao f rs s = (t1, s1) by rw [← ht1, ← hs1]] at HPC
 rw [hs1] at HI HD
 rw [E.out]
 clear E hR h hrb hi hd H hpg ht1 hs1
 go_enter Tryz.func128, Tryz.ntmps128
 go_wp2_with fail
 refine (HPC.out _ (HH.out.keepsF (KI.out))).mono ?_
 rintro e w1 ⟨v, rfl, hv, h1, k1⟩
 obtain ⟨o, a1, n1, c1, m, x, a2, n2, cc2, rfl⟩ := NV.form hv
 have hst := xbd.first hpb (xa.refl _ _) hv h1 k1
 have HS1 := xoo hst
 clear hst hv h1 k1
 unfold NV.val
 go_wp2_with fail
 go_loopw [3] (fun kv wr => AltR f D w pb rv rs R kv wr) (fun _ wr => rs.length + 30 - xk6 wr pb)
 case atStart => exact ⟨rs.length + 9, s1, [t1], _, HS1.out, HR.out, HI.out, HD.out, by omega, by simp⟩
 case round =>
  obtain ⟨n, s', l, vs, hK, hgo, hinv, hd, hn, hll⟩ := hrel
  have HK := xoo hK
  have hsz := hK.size
  obtain ⟨ka, kc, rfl⟩ := xac hK.own
  have hap := hK.pa.lt
  have Hpo := xoo (xaU hK.pa)
  have hpa := hinv.a
  have Hgo := xoo hgo
  have Hinv := xoo hinv
  have Hd := xoo hd
  clear hK hgo hinv hd
  by_cases hq : pk rs s' = 124
  · have hroom := xaJ (rs := rs) (s := s') (by omega)
    have HTk := xoo (xbW wr pb rv rs s' 124 HK.out.pa (by omega))
    have e1 : tkB rs 124 s' = true := by unfold tkB; simpa using hq
    have e2 : (tk rs 124 s').pos = s'.pos + 1 := by unfold tk; rw [if_pos hq]
    have htg := xhv rs 124 s' (by omega)
    have hd2 := HST.out.dd _ _ Hd.out htg
    have hi2 := htg.inv Hinv.out
    have hpg := xcM HST.out.go (tk rs 124 s')
    have Hgo2 : Hid (xbq f rs (n - 1) (xao f rs (tk rs 124 s')).2 (l ++ [(xao f rs (tk rs 124 s')).1]) = R) := xoo (by
     have := Hgo.out
     obtain ⟨m, rfl⟩ : ∃ m, n = m + 1 := ⟨n - 1, by omega⟩
     rw [xbq, if_pos hq] at this
     exact this)
    have hpp := hpg.pos
    have HI3 := xoo (hpg.inv hi2)
    have HD3 := xoo (HST.out.dd _ _ hd2 hpg)
    have HPC2 := xoo (fun (W : World) (hW : PaAt W pb rv rs (tk rs 124 s')) => xfq HST.out W pb rv (tk rs 124 s') hW hi2 hd2)
    rw [e1] at HTk
    rw [e2] at hpp
    obtain ⟨t2, ht2⟩ : ∃ x, (xao f rs (tk rs 124 s')).1 = x := ⟨_, rfl⟩
    obtain ⟨s2, hs2⟩ : ∃ x, (xao f rs (tk rs 124 s')).2 = x := ⟨_, rfl⟩
    rw [show xao f rs (tk rs 124 s') = (t2, s2) by rw [← ht2, ← hs2]] at HPC2
    rw [ht2, hs2] at Hgo2
    rw [hs2] at HI3 HD3 hpp
    clear ht2 hs2 hpg hi2 hd2 htg e1 e2 hq
    generalize tk rs 124 s' = st at *
    go_wp2_with fail
    refine HTk.out.mono ?_
    rintro e w2 ⟨rfl, h2, k2⟩
    have P2 := xoo h2
    have HK2 := xoo (HK.out.keepP hpb h2 k2)
    have hsk2 := k2.size
    clear h2 k2
    go_wp2_with fail
    refine (HPC2.out _ P2.out).mono ?_
    rintro e w3 ⟨v, rfl, hv, h3, k3⟩
    obtain ⟨o, a1, n1, c1, m, x, a2, n2, cc2, rfl⟩ := NV.form hv
    have HM := xoo (HK2.out.mid hpb hv h3 k3)
    have hs3 := k3.size
    clear hv h3 k3
    unfold NV.val
    go_wp2_with (at_builtin; refine wpList_append_own_at _ rfl (.tmp 9) (.tmp 12) 152 rfl (w.heap.size + 1) 154 i0 _ 5 72 Tryz.underlying152 hi0 hz0 hz1 hz2 rfl (by decide) _ _ _ rfl (xab HM.out.own _) ⟨w3.heap.size, 0, none⟩ 1 1 [.int .i64 o, .slice a1 n1 c1, .int .i64 m, .int .i64 x, .slice a2 n2 cc2] rfl rfl (by exact xan _ [_, _, _, _, _] _) (by intro u hu; simp at hu; rcases hu with rfl | rfl | rfl | rfl | rfl <;> rfl) ?d3 ?d4 ?d5 ?_)
    case d3 => unfold maxLen; omega
    case d4 => omega
    case d5 => simp; omega
    intro v' w9 hown' hgrow _ hloc
    have HK9 := xoo (HM.out.snoc hpb HRB.out hown' hgrow hloc)
    clear hown' hgrow hloc
    go_wp2_with fail
    have h6 := xaU HK9.out.pa
    have h7 := Hpo.out
    have h8 := HI3.out.a
    go_roundw
    case rel => exact ⟨n - 1, s2, _, _, HK9.out, Hgo2.out, HI3.out, HD3.out, by omega, by simp; omega⟩
    case measure => omega
  have hE : R = (l, s') := by
   have := Hgo.out
   cases n with
   | zero => exact this.symm
   | succ n => rw [xbq, if_neg hq] at this; exact this.symm
  subst hE
  have HTk := xoo (xba 124 HK.out.pa hq (by omega))
  have HJ := xoo (fun (W : World) (h : xbd w pb rv rs W (.slice ka l.length kc) s' l vs) => xiT 5 (.slice ka l.length kc) vs l (fun b => w.heap.size < b ∧ b < W.heap.size) W
   (h.slof (by omega)) (h.kids.keepsTo (xa.refl (fun _ => False) _) (fun _ _ => id) (fun b hb => ⟨hb.1, hb.2.1⟩)) (fun b hb => ⟨by have := xaa h.own b hb; omega, xaM h.own b hb⟩))
  clear hq
  go_wp2_with fail
  refine HTk.out.mono ?_
  rintro e w2 ⟨rfl, h2, k2⟩
  have HK2 := xoo (HK.out.keepP hpb h2 k2)
  clear h2 k2
  go_wp2_with fail
  refine (HJ.out _ HK2.out).mono ?_
  rintro e w5 ⟨v, rfl, hv, k5⟩
  obtain ⟨o, a1, n1, c1, m, x, a2, n2, cc2, rfl⟩ := NV.form hv
  have KX := xoo (HK2.out.keep.trans (k5.mono (T := xaj pb) (fun _ _ e => e.elim)))
  have HPX := xoo (HK2.out.pa.keepsF k5)
  have HTX := xoo (hv.keepsTo (Q := fun b => w.heap.size < b ∧ b < w5.heap.size) (xa.refl (fun _ => False) _) (fun _ _ => id) (fun b hb => ⟨hb.1, by have := k5.size; omega⟩))
  obtain ⟨⟨y0, y1, y2, y3, y4⟩, q0, q1, q2, q3, q4⟩ := xaz KX.out hpb
  clear hv k5
  unfold NV.val
  go_wp2_with fail
  obtain ⟨wE, hWE⟩ : ∃ W, st5 (w5) w.heap.size (.int .i64 o) (.slice a1 n1 c1) (.int .i64 m) (.int .i64 x) (.slice a2 n2 cc2) = W := ⟨_, rfl⟩
  obtain ⟨r0, r1, r2, r3, r4, kE⟩ := xam (w5) w.heap.size y0 y1 y2 y3 y4 (.int .i64 o) (.slice a1 n1 c1) (.int .i64 m) (.int .i64 x) (.slice a2 n2 cc2)
  rw [hWE] at r0 r1 r2 r3 r4 kE
  unfold st5 at hWE
  rw [hWE]
  have HKE := xoo kE
  clear kE hWE y0 y1 y2 y3 y4
  refine bodyPost_ret (by simp [results, Tryz.results128, go_sem, r0, r1, r2, r3, r4]; try rfl) rfl ?_
  exact xaD (v := ⟨o, .slice a1 n1 c1, m, x, .slice a2 n2 cc2⟩) hpb HH.out.rb KX.out HPX.out HTX.out HKE.out
theorem xmx (f : PS → T × PS) (rs : List Int) (s : PS) (h : s.bad = true) : xd f rs s = (xa3, s) := by
 have h1 : pk rs s = -1 := by unfold pk; rw [if_pos h]
 have h2 : xao f rs s = (xa3, s) := by
  unfold xao pcsR
  have : xbp f rs (rs.length + 9) s [] = ([], s) := by unfold xbp; rw [h1]; rfl
  rw [this]; rfl
 unfold xd altR
 rw [h2]
 have : xbq f rs (rs.length + 9) s [xa3] = ([xa3], s) := by unfold xbq; rw [h1]; rfl
 rw [this]; rfl
def Dn (n : Nat) (s : PS) : Prop := 0 ≤ s.deep ∧ s.deep ≤ 11 ∧ (s.bad = false → s.deep ≤ 10 ∧ 10 ≤ s.deep + n)
theorem Dn.go {n : Nat} {rs : List Int} {s s' : PS} (h : Dn n s) (g : Go1 rs s s') : Dn n s' := by
 unfold Dn at h ⊢
 rw [g.deep]
 refine ⟨h.1, h.2.1, fun hb => h.2.2 ?_⟩
 cases hs : s.bad with
 | false => rfl
 | true => rw [g.bad hs] at hb; cases hb
theorem xnT (rs : List Int) (hl : rs.length ≤ 9000) : AltC (fun s => (xa3, s)) rs (fun s => s.bad = true ∧ 0 ≤ s.deep ∧ s.deep ≤ 11) := by
 have h := xgq (f := fun s => (xa3, s)) (rs := rs) (C := fun _ => False) (D := fun s => s.bad = true ∧ 0 ≤ s.deep ∧ s.deep ≤ 11)
  ⟨fun s => Go1.refl _ _, fun _ _ _ _ _ _ h => h.elim, fun s h hb => (by rw [h.1] at hb; cases hb), fun s s' h g => ⟨g.bad h.1, by rw [g.deep]; exact h.2.1, by rw [g.deep]; exact h.2.2⟩, fun s h => ⟨h.2.1, by omega⟩, hl⟩
 intro w pb rv s hP hi hc
 have := h w pb rv s hP hi hc
 rwa [xmx _ _ _ hc.1] at this
theorem xnU (rs : List Int) (hl : rs.length ≤ 9000) : ∀ n, AltC (alts rs n) rs (Dn n) := by
 intro n
 induction n with
 | zero =>
  exact xgq (f := fun s => (xa3, s)) ⟨fun s => Go1.refl _ _, xnT rs hl, fun s h hb => by
   have := h.2.2 hb
   exact ⟨by simp; omega, by simp only; have := h.1; omega, by simp only; omega⟩, fun s s' h g => h.go g, fun s h => ⟨h.1, by have := h.2.1; omega⟩, hl⟩
 | succ n ih =>
  exact xgq (f := alts rs n) ⟨xgp rs n, ih, fun s h hb => by
   have h1 := h.2.2 hb
   have h2 := h.1
   refine ⟨by simp only; omega, by simp only; omega, fun hb2 => ?_⟩
   simp only [decide_eq_false_iff_not] at hb2
   simp only
   push_cast at h1
   omega, fun s s' h g => h.go g, fun s h => ⟨h.1, by have := h.2.1; omega⟩, hl⟩
theorem xjG : ∀ (n : Nat) (l : List UInt8) (rs : List Int), ptsP n l = some rs → rs.length ≤ l.length ∧ ∀ r ∈ rs, 0 ≤ r ∧ r ≤ 1114111 := by
 intro n
 induction n with
 | zero => intro l rs h; simp [ptsP] at h; subst h; simp
 | succ n ih =>
  intro l rs h
  rcases l with _ | ⟨c, l⟩
  · simp [ptsP] at h; subst h; simp
  rw [ptsP, if_neg (by simp)] at h
  by_cases hs : sizP (getP (c :: l)).1 = ((getP (c :: l)).2 : Int)
  · rw [if_pos hs, Option.map_eq_some_iff] at h
    obtain ⟨rs', h1, rfl⟩ := h
    have h2 := ih _ _ h1
    have hp := xdt c l
    have hb : isB (getP (c :: l)).1 = true := by
     unfold sizP at hs
     cases hb : isB (getP (c :: l)).1 with
     | true => rfl
     | false => rw [hb] at hs; simp at hs; omega
    have hr : 0 ≤ (getP (c :: l)).1 ∧ (getP (c :: l)).1 ≤ 1114111 := by
     simp [isB] at hb; omega
    refine ⟨?_, ?_⟩
    · have h3 := h2.1
      rw [List.length_drop] at h3
      simp only [List.length_cons] at h3 ⊢; omega
    intro r hr'
    rcases List.mem_cons.1 hr' with rfl | hr'
    · exact hr
    exact h2.2 r hr'
  rw [if_neg hs] at h; cases h
theorem xew {l : List UInt8} {rs : List Int} (h : pts l = some rs) : rs.length ≤ l.length ∧ ∀ r ∈ rs, 0 ≤ r ∧ r ≤ 1114111 := xjG _ _ _ h
theorem xhi (rs : List Int) : cellsOf 1 encI rs = rs.map (Value.int .i64) := by
 induction rs with
 | nil => rfl
 | cons r rs ih => rw [List.map_cons, ← ih]; simp [cellsOf, encI, List.range_succ]
theorem xg5 (w : World) (cs : Array Value) (T : TypeId) (o : Nat) : (w.alloc (.cells cs T)).frozen? ⟨w.heap.size, o, none⟩ = false := by simp [go_sem]
theorem PaAt.start {w w2 : World} {rv : Value} {rs : List Int} (hown : w2.ownsRow w.heap.size 3 1 rv rs.length (rs.map (Value.int .i64))) (hl : rs.length ≤ 1000) (hr : ∀ r ∈ rs, 0 ≤ r ∧ r ≤ 1114111) :
 PaAt (w2.alloc (.cells #[rv, .int .i64 0, .int .i64 0, .bool false] 244)) w2.heap.size rv rs ⟨0, 0, false⟩ := by
 have hlt := xaM hown
 rw [← xhi] at hown
 have hs := SlOf.ofOwn (enc := encI) hown (by omega)
 have K : xa (fun _ => False) w2 (w2.alloc (.cells #[rv, .int .i64 0, .int .i64 0, .bool false] 244)) := (xa.refl _ _).alloc _
 exact ⟨by simp [go_sem], by simp [go_sem], by simp [go_sem], by simp [go_sem], fun o => xg5 _ _ _ _, hs.keep K, fun e => by have := hlt _ e; omega, by omega, by simp, hr, fun b hb => by have := hlt _ hb; simp; omega⟩
def xgs (w : World) (r : T × Int) (e : Ending) (w' : World) : Prop :=
 ∃ v : NV, e = .returned (.tuple #[v.val, .int .i64 r.2]) ∧ TAt w' (fun b => w.heap.size ≤ b) v r.1 ∧ xa (fun _ => False) w w'
theorem zeroRet (w w' : World) (n : Int) (K : xa (fun _ => False) w w') : xgs w (xa3, n) (.returned (.tuple #[NV.val ⟨0, .slice none 0 0, 0, 0, .slice none 0 0⟩, .int .i64 n])) w' := ⟨_, rfl, TAt.zero _ _, K⟩
theorem xcc {w wX wE : World} {t : T} {v : NV} {n : Int} (K : xa (fun _ => False) w wX) (hT : TAt wX (fun b => w.heap.size < b) v t) (kE : xa (fun b => b = w.heap.size) wX wE) : xgs w (t, n) (.returned (.tuple #[v.val, .int .i64 n])) wE :=
 ⟨v, rfl, hT.keepsTo kE (fun b hb e => by omega) (fun b hb => by omega), K.trans2 kE (fun b hb e => by omega)⟩
theorem xcL {w wX : World} {pb : Nat} (K : xa (xaj pb) (w.alloc (.cells #[.int .i64 0, .slice none 0 0, .int .i64 0, .int .i64 0, .slice none 0 0] 154)) wX) (hpb : ¬ w.heap.size = pb) :
 (wX.cell? ⟨w.heap.size, 0, none⟩ = some (.int .i64 0) ∧ wX.cell? ⟨w.heap.size, 1, none⟩ = some (.slice none 0 0) ∧ wX.cell? ⟨w.heap.size, 2, none⟩ = some (.int .i64 0) ∧ wX.cell? ⟨w.heap.size, 3, none⟩ = some (.int .i64 0) ∧ wX.cell? ⟨w.heap.size, 4, none⟩ = some (.slice none 0 0)) ∧
 (wX.frozen? ⟨w.heap.size, 0, none⟩ = false ∧ wX.frozen? ⟨w.heap.size, 1, none⟩ = false ∧ wX.frozen? ⟨w.heap.size, 2, none⟩ = false ∧ wX.frozen? ⟨w.heap.size, 3, none⟩ = false ∧ wX.frozen? ⟨w.heap.size, 4, none⟩ = false) :=
 ⟨⟨K.cell (by simp [go_sem]) hpb, K.cell (by simp [go_sem]) hpb, K.cell (by simp [go_sem]) hpb, K.cell (by simp [go_sem]) hpb, K.cell (by simp [go_sem]) hpb⟩,
  K.frozen (by simp [go_sem]) (by simp) hpb, K.frozen (by simp [go_sem]) (by simp) hpb, K.frozen (by simp [go_sem]) (by simp) hpb, K.frozen (by simp [go_sem]) (by simp) hpb, K.frozen (by simp [go_sem]) (by simp) hpb⟩
theorem xdr {w wX : World} {pb : Nat} (K : xa (xaj pb) (w.alloc (.cells #[.int .i64 0, .slice none 0 0, .int .i64 0, .int .i64 0, .slice none 0 0] 154)) wX) (hpb : w.heap.size ≤ pb) : xa (fun _ => False) w wX :=
 xa.trans2 (xa.alloc (xa.refl _ _) _) K (fun b hb e => by have e : b = pb := e; omega)
theorem xeB (l : List UInt8) (w : World) (hm : l.length ≤ 9223372036854775807) : Calls Tryz.prog 91 #[.string ⟨l.toArray⟩] w (xgs w (xaZ l)) := by
 by_cases hlen : 200 < l.length
 · have hP : xaZ l = (xa3, 16) := by unfold xaZ; rw [if_pos hlen]
   rw [hP]
   have g0 : decide ((200 : Int) < (l.length : Int)) = true := by simp; omega
   have g1 : decide (200 < l.length) = true := by simpa using hlen
   go_enter Tryz.func91, Tryz.ntmps91
   go_wp2_with fail
   go_returns
   exact zeroRet _ _ _ (KI.out)
 have g0 : decide ((200 : Int) < (l.length : Int)) = false := by simp; omega
 have g1 : decide (200 < l.length) = false := by simpa using hlen
 have HPt := xoo (fun W => xjH l W (by omega))
 unfold PtsE at HPt
 cases hpt : pts l with
 | none =>
  rw [show xaZ l = (xa3, 15) by unfold xaZ; rw [if_neg hlen, hpt]]
  rw [hpt] at HPt
  clear hpt
  simp only at HPt
  go_enter Tryz.func91, Tryz.ntmps91
  go_wp2_with fail
  refine (HPt.out _).mono ?_
  rintro e w2 ⟨rfl, k2⟩
  have k3 : xa (xaj (w.heap.size + 1)) (w.alloc (.cells #[.int .i64 0, .slice none 0 0, .int .i64 0, .int .i64 0, .slice none 0 0] 154)) w2 := k2.mono (fun _ _ e => e.elim)
  have K3 := xoo (xdr k3 (by omega))
  obtain ⟨⟨y0, y1, y2, y3, y4⟩, q0, q1, q2, q3, q4⟩ := xcL k3 (by omega)
  clear k2 k3
  go_wp2_with fail
  obtain ⟨wE, hWE⟩ : ∃ W, st5 (w2) w.heap.size (.int .i64 0) (.slice none 0 0) (.int .i64 0) (.int .i64 0) (.slice none 0 0) = W := ⟨_, rfl⟩
  obtain ⟨r0, r1, r2, r3, r4, kE⟩ := xam (w2) w.heap.size y0 y1 y2 y3 y4 (.int .i64 0) (.slice none 0 0) (.int .i64 0) (.int .i64 0) (.slice none 0 0)
  rw [hWE] at r0 r1 r2 r3 r4 kE
  unfold st5 at hWE
  rw [hWE]
  have HKE := xoo kE
  clear kE hWE y0 y1 y2 y3 y4
  refine bodyPost_ret (by simp [results, Tryz.results91, go_sem, r0, r1, r2, r3, r4]; try rfl) rfl ?_
  exact xcc (v := ⟨0, .slice none 0 0, 0, 0, .slice none 0 0⟩) (n := 15) K3.out (TAt.zero _ _) HKE.out
 | some rs =>
  obtain ⟨hrl, hrr⟩ := xew hpt
  rw [show xaZ l = xcS rs by unfold xaZ; rw [if_neg hlen, hpt]]
  rw [hpt] at HPt
  clear hpt
  simp only at HPt
  have HA := xoo (xnU rs (by omega) 11)
  have HGo := xoo (xgp rs 11 ⟨0, 0, false⟩)
  obtain ⟨t1, ht1⟩ : ∃ x, (alts rs 11 ⟨0, 0, false⟩).1 = x := ⟨_, rfl⟩
  obtain ⟨s1, hs1⟩ : ∃ x, (alts rs 11 ⟨0, 0, false⟩).2 = x := ⟨_, rfl⟩
  have hR : xcS rs = if s1.bad = true ∨ s1.pos ≠ rs.length then (xa3, 15) else (t1, 0) := by unfold xcS; rw [ht1, hs1]
  rw [hR]
  have HE : Hid (alts rs 11 ⟨0, 0, false⟩ = (t1, s1)) := xoo (by rw [← ht1, ← hs1])
  clear hR ht1 hs1
  have HRR := xoo hrr
  clear hrr
  have hcase : (s1.bad = true) ∨ (s1.bad = false ∧ s1.pos ≠ rs.length) ∨ (s1.bad = false ∧ s1.pos = rs.length) := by
   cases s1.bad <;> simp; omega
  rcases hcase with hb | ⟨hb, hp⟩ | ⟨hb, hp⟩
  · rw [if_pos (Or.inl hb)]
    go_enter Tryz.func91, Tryz.ntmps91
    go_wp2_with fail
    refine (HPt.out _).mono ?_
    rintro e w2 ⟨⟨rv, rfl, hown⟩, k2⟩
    have hs2 := k2.size
    simp at hs2
    have hown2 : w2.ownsRow (w.alloc (.cells #[.int .i64 0, .slice none 0 0, .int .i64 0, .int .i64 0, .slice none 0 0] 154)).heap.size 3 1 rv rs.length (rs.map (Value.int .i64)) := hown
    have hst := PaAt.start (w := w.alloc (.cells #[.int .i64 0, .slice none 0 0, .int .i64 0, .int .i64 0, .slice none 0 0] 154)) hown2 (by omega) HRR.out
    obtain ⟨ra, rc, rfl⟩ := xac hown
    have K2 := xoo k2
    have HS := xoo hst
    clear hown hown2 hst k2
    go_wp2_with fail
    refine (HA.out _ w2.heap.size (.slice ra rs.length rc) ⟨0, 0, false⟩ HS.out ⟨by simp, fun _ => by simp⟩ ⟨by simp, by simp, fun _ => ⟨by simp, by simp⟩⟩).mono ?_
    rw [HE.out]
    rintro e w3 ⟨v, rfl, hv, h3, k3⟩
    obtain ⟨o, a1, n1, c1, m, x, a2, n2, cc2, rfl⟩ := NV.form hv
    have hs3 := k3.size
    simp at hs3
    have k23 : xa (xaj w2.heap.size) (w.alloc (.cells #[.int .i64 0, .slice none 0 0, .int .i64 0, .int .i64 0, .slice none 0 0] 154)) w3 := xa.trans (K2.out.mono (fun _ _ e => e.elim)) (xa.trans (KI.out) k3)
    have d1 := h3.c1
    have d3 := h3.c3
    have HP3 := xoo h3
    have hpl := h3.lt
    simp only at d1 d3
    rw [hb] at d3
    have KX := xoo (xdr k23 (by omega))
    obtain ⟨⟨y0, y1, y2, y3, y4⟩, q0, q1, q2, q3, q4⟩ := xcL k23 (by omega)
    have HV := xoo hv
    clear hv h3 k3
    have y0 := xad y0 (.cells #[.int .i64 o, .slice a1 n1 c1, .int .i64 m, .int .i64 x, .slice a2 n2 cc2] 154)
    have y1 := xad y1 (.cells #[.int .i64 o, .slice a1 n1 c1, .int .i64 m, .int .i64 x, .slice a2 n2 cc2] 154)
    have y2 := xad y2 (.cells #[.int .i64 o, .slice a1 n1 c1, .int .i64 m, .int .i64 x, .slice a2 n2 cc2] 154)
    have y3 := xad y3 (.cells #[.int .i64 o, .slice a1 n1 c1, .int .i64 m, .int .i64 x, .slice a2 n2 cc2] 154)
    have y4 := xad y4 (.cells #[.int .i64 o, .slice a1 n1 c1, .int .i64 m, .int .i64 x, .slice a2 n2 cc2] 154)
    have q0 := xas q0 (by show w.heap.size < w3.heap.size; omega) (.cells #[.int .i64 o, .slice a1 n1 c1, .int .i64 m, .int .i64 x, .slice a2 n2 cc2] 154)
    have q1 := xas q1 (by show w.heap.size < w3.heap.size; omega) (.cells #[.int .i64 o, .slice a1 n1 c1, .int .i64 m, .int .i64 x, .slice a2 n2 cc2] 154)
    have q2 := xas q2 (by show w.heap.size < w3.heap.size; omega) (.cells #[.int .i64 o, .slice a1 n1 c1, .int .i64 m, .int .i64 x, .slice a2 n2 cc2] 154)
    have q3 := xas q3 (by show w.heap.size < w3.heap.size; omega) (.cells #[.int .i64 o, .slice a1 n1 c1, .int .i64 m, .int .i64 x, .slice a2 n2 cc2] 154)
    have q4 := xas q4 (by show w.heap.size < w3.heap.size; omega) (.cells #[.int .i64 o, .slice a1 n1 c1, .int .i64 m, .int .i64 x, .slice a2 n2 cc2] 154)
    unfold NV.val
    clear k23
    go_wp2_with fail
    have k4 : xa (fun _ => False) w3 (w3.alloc (.cells #[.int .i64 o, .slice a1 n1 c1, .int .i64 m, .int .i64 x, .slice a2 n2 cc2] 154)) := (xa.refl _ _).alloc _
    have K4 := xoo (KX.out.trans k4)
    have HV4 := xoo (HV.out.keepsTo (Q := fun b => w.heap.size < b) k4 (fun _ _ => id) (fun b hb => by have := hb.1; simp at this; omega))
    obtain ⟨w4, hw4⟩ : ∃ W, w3.alloc (.cells #[.int .i64 o, .slice a1 n1 c1, .int .i64 m, .int .i64 x, .slice a2 n2 cc2] 154) = W := ⟨_, rfl⟩
    rw [hw4] at y0 y1 y2 y3 y4 K4 HV4 ⊢
    clear q0 q1 q2 q3 q4
    obtain ⟨wE, hWE⟩ : ∃ W, st5 (w4) w.heap.size (.int .i64 0) (.slice none 0 0) (.int .i64 0) (.int .i64 0) (.slice none 0 0) = W := ⟨_, rfl⟩
    obtain ⟨r0, r1, r2, r3, r4, kE⟩ := xam (w4) w.heap.size y0 y1 y2 y3 y4 (.int .i64 0) (.slice none 0 0) (.int .i64 0) (.int .i64 0) (.slice none 0 0)
    rw [hWE] at r0 r1 r2 r3 r4 kE
    unfold st5 at hWE
    rw [hWE]
    have HKE := xoo kE
    clear kE hWE y0 y1 y2 y3 y4
    refine bodyPost_ret (by simp [results, Tryz.results91, go_sem, r0, r1, r2, r3, r4]; try rfl) rfl ?_
    exact xcc (v := ⟨0, .slice none 0 0, 0, 0, .slice none 0 0⟩) (n := 15) K4.out (TAt.zero _ _) HKE.out
  · rw [if_pos (Or.inr hp)]
    have f1 : ((s1.pos : Int) != (rs.length : Int)) = true := by simp; omega
    go_enter Tryz.func91, Tryz.ntmps91
    go_wp2_with fail
    refine (HPt.out _).mono ?_
    rintro e w2 ⟨⟨rv, rfl, hown⟩, k2⟩
    have hs2 := k2.size
    simp at hs2
    have hown2 : w2.ownsRow (w.alloc (.cells #[.int .i64 0, .slice none 0 0, .int .i64 0, .int .i64 0, .slice none 0 0] 154)).heap.size 3 1 rv rs.length (rs.map (Value.int .i64)) := hown
    have hst := PaAt.start (w := w.alloc (.cells #[.int .i64 0, .slice none 0 0, .int .i64 0, .int .i64 0, .slice none 0 0] 154)) hown2 (by omega) HRR.out
    obtain ⟨ra, rc, rfl⟩ := xac hown
    have K2 := xoo k2
    have HS := xoo hst
    clear hown hown2 hst k2
    go_wp2_with fail
    refine (HA.out _ w2.heap.size (.slice ra rs.length rc) ⟨0, 0, false⟩ HS.out ⟨by simp, fun _ => by simp⟩ ⟨by simp, by simp, fun _ => ⟨by simp, by simp⟩⟩).mono ?_
    rw [HE.out]
    rintro e w3 ⟨v, rfl, hv, h3, k3⟩
    obtain ⟨o, a1, n1, c1, m, x, a2, n2, cc2, rfl⟩ := NV.form hv
    have hs3 := k3.size
    simp at hs3
    have k23 : xa (xaj w2.heap.size) (w.alloc (.cells #[.int .i64 0, .slice none 0 0, .int .i64 0, .int .i64 0, .slice none 0 0] 154)) w3 := xa.trans (K2.out.mono (fun _ _ e => e.elim)) (xa.trans (KI.out) k3)
    have d1 := h3.c1
    have d3 := h3.c3
    have HP3 := xoo h3
    have hpl := h3.lt
    simp only at d1 d3
    rw [hb] at d3
    have KX := xoo (xdr k23 (by omega))
    obtain ⟨⟨y0, y1, y2, y3, y4⟩, q0, q1, q2, q3, q4⟩ := xcL k23 (by omega)
    have HV := xoo hv
    clear hv h3 k3
    have y0 := xad y0 (.cells #[.int .i64 o, .slice a1 n1 c1, .int .i64 m, .int .i64 x, .slice a2 n2 cc2] 154)
    have y1 := xad y1 (.cells #[.int .i64 o, .slice a1 n1 c1, .int .i64 m, .int .i64 x, .slice a2 n2 cc2] 154)
    have y2 := xad y2 (.cells #[.int .i64 o, .slice a1 n1 c1, .int .i64 m, .int .i64 x, .slice a2 n2 cc2] 154)
    have y3 := xad y3 (.cells #[.int .i64 o, .slice a1 n1 c1, .int .i64 m, .int .i64 x, .slice a2 n2 cc2] 154)
    have y4 := xad y4 (.cells #[.int .i64 o, .slice a1 n1 c1, .int .i64 m, .int .i64 x, .slice a2 n2 cc2] 154)
    have q0 := xas q0 (by show w.heap.size < w3.heap.size; omega) (.cells #[.int .i64 o, .slice a1 n1 c1, .int .i64 m, .int .i64 x, .slice a2 n2 cc2] 154)
    have q1 := xas q1 (by show w.heap.size < w3.heap.size; omega) (.cells #[.int .i64 o, .slice a1 n1 c1, .int .i64 m, .int .i64 x, .slice a2 n2 cc2] 154)
    have q2 := xas q2 (by show w.heap.size < w3.heap.size; omega) (.cells #[.int .i64 o, .slice a1 n1 c1, .int .i64 m, .int .i64 x, .slice a2 n2 cc2] 154)
    have q3 := xas q3 (by show w.heap.size < w3.heap.size; omega) (.cells #[.int .i64 o, .slice a1 n1 c1, .int .i64 m, .int .i64 x, .slice a2 n2 cc2] 154)
    have q4 := xas q4 (by show w.heap.size < w3.heap.size; omega) (.cells #[.int .i64 o, .slice a1 n1 c1, .int .i64 m, .int .i64 x, .slice a2 n2 cc2] 154)
    unfold NV.val
    clear k23 hp
    go_wp2_with fail
    have k4 : xa (fun _ => False) w3 (w3.alloc (.cells #[.int .i64 o, .slice a1 n1 c1, .int .i64 m, .int .i64 x, .slice a2 n2 cc2] 154)) := (xa.refl _ _).alloc _
    have K4 := xoo (KX.out.trans k4)
    have HV4 := xoo (HV.out.keepsTo (Q := fun b => w.heap.size < b) k4 (fun _ _ => id) (fun b hb => by have := hb.1; simp at this; omega))
    obtain ⟨w4, hw4⟩ : ∃ W, w3.alloc (.cells #[.int .i64 o, .slice a1 n1 c1, .int .i64 m, .int .i64 x, .slice a2 n2 cc2] 154) = W := ⟨_, rfl⟩
    rw [hw4] at y0 y1 y2 y3 y4 K4 HV4 ⊢
    clear q0 q1 q2 q3 q4
    obtain ⟨wE, hWE⟩ : ∃ W, st5 (w4) w.heap.size (.int .i64 0) (.slice none 0 0) (.int .i64 0) (.int .i64 0) (.slice none 0 0) = W := ⟨_, rfl⟩
    obtain ⟨r0, r1, r2, r3, r4, kE⟩ := xam (w4) w.heap.size y0 y1 y2 y3 y4 (.int .i64 0) (.slice none 0 0) (.int .i64 0) (.int .i64 0) (.slice none 0 0)
    rw [hWE] at r0 r1 r2 r3 r4 kE
    unfold st5 at hWE
    rw [hWE]
    have HKE := xoo kE
    clear kE hWE y0 y1 y2 y3 y4
    refine bodyPost_ret (by simp [results, Tryz.results91, go_sem, r0, r1, r2, r3, r4]; try rfl) rfl ?_
    exact xcc (v := ⟨0, .slice none 0 0, 0, 0, .slice none 0 0⟩) (n := 15) K4.out (TAt.zero _ _) HKE.out
  rw [if_neg (by rw [hb]; simp; exact hp)]
  go_enter Tryz.func91, Tryz.ntmps91
  go_wp2_with fail
  refine (HPt.out _).mono ?_
  rintro e w2 ⟨⟨rv, rfl, hown⟩, k2⟩
  have hs2 := k2.size
  simp at hs2
  have hown2 : w2.ownsRow (w.alloc (.cells #[.int .i64 0, .slice none 0 0, .int .i64 0, .int .i64 0, .slice none 0 0] 154)).heap.size 3 1 rv rs.length (rs.map (Value.int .i64)) := hown
  have hst := PaAt.start (w := w.alloc (.cells #[.int .i64 0, .slice none 0 0, .int .i64 0, .int .i64 0, .slice none 0 0] 154)) hown2 (by omega) HRR.out
  obtain ⟨ra, rc, rfl⟩ := xac hown
  have K2 := xoo k2
  have HS := xoo hst
  clear hown hown2 hst k2
  go_wp2_with fail
  refine (HA.out _ w2.heap.size (.slice ra rs.length rc) ⟨0, 0, false⟩ HS.out ⟨by simp, fun _ => by simp⟩ ⟨by simp, by simp, fun _ => ⟨by simp, by simp⟩⟩).mono ?_
  rw [HE.out]
  rintro e w3 ⟨v, rfl, hv, h3, k3⟩
  obtain ⟨o, a1, n1, c1, m, x, a2, n2, cc2, rfl⟩ := NV.form hv
  have hs3 := k3.size
  simp at hs3
  have k23 : xa (xaj w2.heap.size) (w.alloc (.cells #[.int .i64 0, .slice none 0 0, .int .i64 0, .int .i64 0, .slice none 0 0] 154)) w3 := xa.trans (K2.out.mono (fun _ _ e => e.elim)) (xa.trans (KI.out) k3)
  have d1 := h3.c1
  have d3 := h3.c3
  have HP3 := xoo h3
  have hpl := h3.lt
  simp only at d1 d3
  rw [hb] at d3
  have KX := xoo (xdr k23 (by omega))
  obtain ⟨⟨y0, y1, y2, y3, y4⟩, q0, q1, q2, q3, q4⟩ := xcL k23 (by omega)
  have HV := xoo hv
  clear hv h3 k3
  have y0 := xad y0 (.cells #[.int .i64 o, .slice a1 n1 c1, .int .i64 m, .int .i64 x, .slice a2 n2 cc2] 154)
  have y1 := xad y1 (.cells #[.int .i64 o, .slice a1 n1 c1, .int .i64 m, .int .i64 x, .slice a2 n2 cc2] 154)
  have y2 := xad y2 (.cells #[.int .i64 o, .slice a1 n1 c1, .int .i64 m, .int .i64 x, .slice a2 n2 cc2] 154)
  have y3 := xad y3 (.cells #[.int .i64 o, .slice a1 n1 c1, .int .i64 m, .int .i64 x, .slice a2 n2 cc2] 154)
  have y4 := xad y4 (.cells #[.int .i64 o, .slice a1 n1 c1, .int .i64 m, .int .i64 x, .slice a2 n2 cc2] 154)
  have q0 := xas q0 (by show w.heap.size < w3.heap.size; omega) (.cells #[.int .i64 o, .slice a1 n1 c1, .int .i64 m, .int .i64 x, .slice a2 n2 cc2] 154)
  have q1 := xas q1 (by show w.heap.size < w3.heap.size; omega) (.cells #[.int .i64 o, .slice a1 n1 c1, .int .i64 m, .int .i64 x, .slice a2 n2 cc2] 154)
  have q2 := xas q2 (by show w.heap.size < w3.heap.size; omega) (.cells #[.int .i64 o, .slice a1 n1 c1, .int .i64 m, .int .i64 x, .slice a2 n2 cc2] 154)
  have q3 := xas q3 (by show w.heap.size < w3.heap.size; omega) (.cells #[.int .i64 o, .slice a1 n1 c1, .int .i64 m, .int .i64 x, .slice a2 n2 cc2] 154)
  have q4 := xas q4 (by show w.heap.size < w3.heap.size; omega) (.cells #[.int .i64 o, .slice a1 n1 c1, .int .i64 m, .int .i64 x, .slice a2 n2 cc2] 154)
  unfold NV.val
  rw [hp] at d1
  clear k23
  go_wp2_with fail
  have k4 : xa (fun _ => False) w3 (w3.alloc (.cells #[.int .i64 o, .slice a1 n1 c1, .int .i64 m, .int .i64 x, .slice a2 n2 cc2] 154)) := (xa.refl _ _).alloc _
  have K4 := xoo (KX.out.trans k4)
  have HV4 := xoo (HV.out.keepsTo (Q := fun b => w.heap.size < b) k4 (fun _ _ => id) (fun b hb => by have := hb.1; simp at this; omega))
  obtain ⟨w4, hw4⟩ : ∃ W, w3.alloc (.cells #[.int .i64 o, .slice a1 n1 c1, .int .i64 m, .int .i64 x, .slice a2 n2 cc2] 154) = W := ⟨_, rfl⟩
  rw [hw4] at y0 y1 y2 y3 y4 K4 HV4 ⊢
  clear q0 q1 q2 q3 q4
  obtain ⟨wE, hWE⟩ : ∃ W, st5 (w4) w.heap.size (.int .i64 o) (.slice a1 n1 c1) (.int .i64 m) (.int .i64 x) (.slice a2 n2 cc2) = W := ⟨_, rfl⟩
  obtain ⟨r0, r1, r2, r3, r4, kE⟩ := xam (w4) w.heap.size y0 y1 y2 y3 y4 (.int .i64 o) (.slice a1 n1 c1) (.int .i64 m) (.int .i64 x) (.slice a2 n2 cc2)
  rw [hWE] at r0 r1 r2 r3 r4 kE
  unfold st5 at hWE
  rw [hWE]
  have HKE := xoo kE
  clear kE hWE y0 y1 y2 y3 y4
  refine bodyPost_ret (by simp [results, Tryz.results91, go_sem, r0, r1, r2, r3, r4]; try rfl) rfl ?_
  exact xcc (v := ⟨o, .slice a1 n1 c1, m, x, .slice a2 n2 cc2⟩) (n := 0) K4.out HV4.out HKE.out
end Go.Proofs.YtbifklibdkjbeaaGreatDoor
