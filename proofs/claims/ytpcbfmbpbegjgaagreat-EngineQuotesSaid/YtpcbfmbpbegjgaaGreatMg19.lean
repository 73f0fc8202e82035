/-
  Several texts in one: The parser's pieces. The parser's alternatives; all of the parser by induction on how deep parentheses stand.
-/
import Derived.Test.YtpcbfmbpbegjgaaGreatPaParG
import Derived.Maps.AppendAt
section
namespace Go.Proofs.YtpcbfmbpbegjgaaGreat
open Go.RowKit
set_option linter.unusedVariables false
set_option linter.unusedSimpArgs false
set_option maxRecDepth 100000

/-- The blocks of the kids, but the row's own. -/
def Kb (w wr : World) (kv : Value) : Nat → Prop := fun b => w.heap.size < b ∧ b < wr.heap.size ∧ kv.ownBlock ≠ some b
/-- Kids that a call is gathering. -/
structure KidsAt (w : World) (pb : Nat) (rv : Value) (rs : List Int) (wr : World) (kv : Value) (s : PS) (l : List T) (vs : List NV) : Prop where
  own : wr.ownsRow (w.heap.size + 1) 27 5 kv l.length (cellsOf 5 encN vs)
  kids : FAt wr (Kb w wr kv) (F.ofL l) vs
  pa : PaAt wr pb rv rs s
  keep : Keeps (OnlyP pb) (w.alloc (.cells #[.int .i64 0, .slice none 0 0, .int .i64 0, .int .i64 0, .slice none 0 0] 27)) wr
theorem KidsAt.size {w wr : World} {pb : Nat} {rv kv : Value} {rs : List Int} {s : PS} {l : List T} {vs : List NV} (h : KidsAt w pb rv rs wr kv s l vs) : w.heap.size < wr.heap.size := by
  have := h.keep.size; simp at this; omega
theorem KidsAt.start {w w1 : World} {pb : Nat} {rv : Value} {rs : List Int} {s : PS} (hP : PaAt w1 pb rv rs s) (K : Keeps (OnlyP pb) (w.alloc (.cells #[.int .i64 0, .slice none 0 0, .int .i64 0, .int .i64 0, .slice none 0 0] 27)) w1) :
    KidsAt w pb rv rs w1 (.slice none 0 0) s [] [] := ⟨World.ownsRow_nil _ _ _ _, rfl, hP, K⟩
theorem cells_node (v : NV) : [Value.int .i64 v.op, v.sv, .int .i64 v.mn, .int .i64 v.mx, v.kv] = cellsOf 5 encN [v] := by simp [cellsOf, encN_cells]
/-- Between the call that made a node and the append: what stands. -/
structure KidsMid (w : World) (pb : Nat) (rv : Value) (rs : List Int) (wr w2 : World) (kv : Value) (s2 : PS) (l : List T) (vs : List NV) (v : NV) (t : T) : Prop where
  k : KidsAt w pb rv rs wr kv s2 l vs ∨ True
  own : w2.ownsRow (w.heap.size + 1) 27 5 kv l.length (cellsOf 5 encN vs)
  lt : ∀ b, kv.ownBlock = some b → b < wr.heap.size
  base : ∀ b, kv.ownBlock = some b → w.heap.size < b
  kids : FAt w2 (Kb w wr kv) (F.ofL l) vs
  node : TAt w2 (Bt wr w2) v t
  pa : PaAt w2 pb rv rs s2
  size : w.heap.size < wr.heap.size ∧ wr.heap.size ≤ w2.heap.size
  keep : Keeps (OnlyP pb) (w.alloc (.cells #[.int .i64 0, .slice none 0 0, .int .i64 0, .int .i64 0, .slice none 0 0] 27)) w2
theorem KidsAt.mid {w wr w2 : World} {pb : Nat} {rv kv : Value} {rs : List Int} {s s2 : PS} {l : List T} {vs : List NV} {v : NV} {t : T} (h : KidsAt w pb rv rs wr kv s l vs) (hpb : pb < w.heap.size)
    (hT : TAt w2 (Bt wr w2) v t) (hP : PaAt w2 pb rv rs s2) (K : Keeps (OnlyP pb) wr w2) : KidsMid w pb rv rs wr w2 kv s2 l vs v t := by
  refine ⟨Or.inr trivial, own_fresh h.own K (by omega), own_lt h.own, fun b hb => by have := ownBlock_base h.own b hb; omega, h.kids.keepsTo K (fun b hb e => ?_) (fun b hb => hb), hT, hP, ⟨h.size, K.size⟩, h.keep.trans K⟩
  have e : b = pb := e
  have := hb.1; omega
theorem KidsMid.snoc {w wr w2 w9 : World} {o : Obj} {pb : Nat} {rv kv v' : Value} {rs : List Int} {s2 : PS} {l : List T} {vs : List NV} {v : NV} {t : T} (h : KidsMid w pb rv rs wr w2 kv s2 l vs v t) (hpb : pb < w.heap.size) (hrb : ∀ b, rv.ownBlock = some b → b < w.heap.size)
    (hown : w9.ownsRow (w.heap.size + 1) 27 5 v' (l.length + 1) (cellsOf 5 encN vs ++ [Value.int .i64 v.op, v.sv, .int .i64 v.mn, .int .i64 v.mx, v.kv]))
    (hg : (w2.alloc o).grownBy w9 kv.ownBlock) (hloc : v'.ownBlock = kv.ownBlock ∨ v'.ownBlock = some (w2.heap.size + 1)) : KidsAt w pb rv rs w9 v' s2 (l ++ [t]) (vs ++ [v]) := by
  have k9 : Keeps (fun b => kv.ownBlock = some b) w2 w9 := ((Keeps.refl _ _).alloc o).grown hg (fun b hb => Or.inl hb)
  have hs9 := k9.size
  have hs1 := h.size
  have e1 : ∀ b, Kb w wr kv b → Kb w w9 v' b := fun b hb => ⟨hb.1, by have := hb.2.1; omega, fun e => by
    rcases hloc with h1 | h1
    · exact hb.2.2 (h1 ▸ e)
    · rw [h1] at e; have := Option.some.inj e; have := hb.2.1; omega⟩
  have e2 : ∀ b, Bt wr w2 b → Kb w w9 v' b := fun b hb => ⟨by have := hb.1; omega, by have := hb.2; omega, fun e => by
    rcases hloc with h1 | h1
    · have := h.lt b (h1 ▸ e); have := hb.1; omega
    · rw [h1] at e; have := Option.some.inj e; have := hb.2; omega⟩
  refine ⟨?_, ?_, ?_, ?_⟩
  · rw [List.length_append, cellsOf_append, ← cells_node]; exact hown
  · exact FAt.snoc (h.kids.keepsTo k9 (fun b hb e => hb.2.2 e) e1) (h.node.keepsTo k9 (fun b hb e => by have := h.lt b e; have := hb.1; omega) e2)
  · exact h.pa.keeps k9 (fun e => by have := h.base pb e; omega) (fun b hb e => by have := h.base b e; have := hrb b hb; omega)
  · exact h.keep.trans2 k9 (fun b hb e => by have := h.base b e; simp at hb; omega)

theorem KidsAt.keepF {w wr w' : World} {pb : Nat} {rv kv : Value} {rs : List Int} {s : PS} {l : List T} {vs : List NV} (h : KidsAt w pb rv rs wr kv s l vs) (K : Keeps (fun _ => False) wr w') : KidsAt w pb rv rs w' kv s l vs :=
  ⟨ownsRow_keeps h.own K (fun _ _ => id), h.kids.keepsTo K (fun _ _ => id) (fun b hb => ⟨hb.1, by have := hb.2.1; have := K.size; omega, hb.2.2⟩), h.pa.keepsF K, h.keep.trans (K.mono (fun _ _ e => e.elim))⟩
theorem KidsAt.slof {w wr : World} {pb : Nat} {rv kv : Value} {rs : List Int} {s : PS} {l : List T} {vs : List NV} (h : KidsAt w pb rv rs wr kv s l vs) (hl : l.length ≤ 1000000) : SlOf 5 encN wr kv vs :=
  SlOf.ofOwn (by have := h.own; rwa [← h.kids.len] at this) (by rw [h.kids.len]; omega)

def PcR (f : PS → T × PS) (D : PS → Prop) (w : World) (pb : Nat) (rv : Value) (rs : List Int) (R : List T × PS) (kv r : Value) (wr : World) : Prop :=
  ∃ n s l vs, r = .int .i64 (pk rs s) ∧ KidsAt w pb rv rs wr kv s l vs ∧ pcsGo f rs n s l = R ∧ Inv rs s ∧ D s ∧ rs.length + 9 ≤ n + s.pos ∧ l.length ≤ s.pos
set_option maxHeartbeats 8000000 in
theorem pieces_any {f : PS → T × PS} {rs : List Int} {C D : PS → Prop} (H : StepH f rs C D) (w : World) (pb : Nat) (rv : Value) (s : PS) (h : PaAt w pb rv rs s) (hi : Inv rs s) (hd : D s) :
    Calls Tryz.prog 68 #[.pointer (some ⟨pb, 0, none⟩)] w (TreeRet w pb rv rs (piecesP f rs s)) := by
  have hpb := h.lt
  have hrb := h.rb
  obtain ⟨i0, hi0, hz0, hz1, hz2⟩ := info_parts info_node
  have HH := Lib.hid h
  have HRB := Lib.hid hrb
  have HI := Lib.hid hi
  have HD := Lib.hid hd
  have HST := Lib.hid H
  have hlen := H.len
  obtain ⟨R, hR⟩ : ∃ R, pcsR f rs s = R := ⟨_, rfl⟩
  have HR : Hid (pcsGo f rs (rs.length + 9) s [] = R) := Lib.hid hR
  have E : Hid (piecesP f rs s = (joinT 4 R.1, R.2)) := Lib.hid (by unfold piecesP; rw [hR])
  rw [E.out]
  clear E hR h hrb hi hd H
  go_enter Tryz.func68, Tryz.ntmps68
  go_wp2_with fail
  refine (peek_any _ pb rv rs s (HH.out.keepsF (by (repeat' (with_reducible first | exact Keeps.refl _ _ | assumption | refine Keeps.drawN ?_ _ | refine Keeps.drew ?_ | refine Keeps.setCell ?_ ?_ _ | refine Keeps.alloc ?_ _)) <;> (first | exact Or.inr (Nat.le_refl _) | exact Or.inl rfl | exact Or.inl (Or.inl rfl) | exact Or.inl (Or.inr rfl) | (right; simp; done) | (right; simp; omega))))).mono ?_
  rintro e w1 ⟨rfl, k1⟩
  have hst : KidsAt w pb rv rs w1 (.slice none 0 0) s [] [] := KidsAt.start (HH.out.keepsF (Keeps.trans (by (repeat' (with_reducible first | exact Keeps.refl _ _ | assumption | refine Keeps.drawN ?_ _ | refine Keeps.drew ?_ | refine Keeps.setCell ?_ ?_ _ | refine Keeps.alloc ?_ _)) <;> (first | exact Or.inr (Nat.le_refl _) | exact Or.inl rfl | exact Or.inl (Or.inl rfl) | exact Or.inl (Or.inr rfl) | (right; simp; done) | (right; simp; omega))) k1)) (k1.mono (fun _ _ e => e.elim))
  have HST1 := Lib.hid hst
  clear hst k1
  go_wp2_with fail
  go_loopw [3, 4] (fun kv r wr => PcR f D w pb rv rs R kv r wr) (fun _ _ wr => rs.length + 30 - posOf wr pb)
  case atStart => exact ⟨rs.length + 9, s, [], [], rfl, HST1.out, HR.out, HI.out, HD.out, by omega, by simp⟩
  case round =>
    obtain ⟨n, s', l, vs, rfl, hK, hgo, hinv, hd, hn, hll⟩ := hrel
    have HK := Lib.hid hK
    have hsz := hK.size
    obtain ⟨ka, kc, rfl⟩ := ownsRow_slice hK.own
    have hap := hK.pa.lt
    have Hpo := Lib.hid (posOf_eq hK.pa)
    have hpa := hinv.a
    have Hgo := Lib.hid hgo
    have Hinv := Lib.hid hinv
    have Hd := Lib.hid hd
    clear hK hgo hinv hd
    cases hq : isPc (pk rs s') with
    | true =>
      have hp0 := isPc_pos hq
      have hroom := pk_room hp0
      have g0 : decide (0 ≤ pk rs s') = true := by simpa using hp0
      have g1 : (pk rs s' != 124) = true := by simp [isPc] at hq; simpa using hq.2.1
      have g2 : (pk rs s' != 41) = true := by simp [isPc] at hq; simpa using hq.2.2
      have hcg := countedP_go HST.out.go hp0
      have hg1 := counted_go1 HST.out.go hp0
      have Hgo2 : Hid (pcsGo f rs (n - 1) (countedP f rs s').2 (l ++ [(countedP f rs s').1]) = R) := Lib.hid (by
        have := Hgo.out
        obtain ⟨m, rfl⟩ : ∃ m, n = m + 1 := ⟨n - 1, by omega⟩
        unfold pcsGo at this
        rw [if_pos hq] at this
        exact this)
      have HC := Lib.hid (counted_any HST.out wr pb rv s' HK.out.pa Hinv.out Hd.out hp0)
      have Hd2 := Lib.hid (HST.out.dd _ _ Hd.out hg1)
      have Hinv2 := Lib.hid hcg.2.2
      have hcpos := hcg.1
      obtain ⟨t1, ht1⟩ : ∃ x, (countedP f rs s').1 = x := ⟨_, rfl⟩
      obtain ⟨s2, hs2⟩ : ∃ x, (countedP f rs s').2 = x := ⟨_, rfl⟩
      rw [show countedP f rs s' = (t1, s2) by rw [← ht1, ← hs2]] at HC
      rw [ht1, hs2] at Hgo2
      rw [hs2] at Hd2 Hinv2 hcpos
      clear ht1 hs2 hcg hg1 hq
      generalize pk rs s' = r at *
      go_wp2_with fail
      refine HC.out.mono ?_
      rintro e w2 ⟨v, rfl, hv, h2, k2⟩
      obtain ⟨o, a1, n1, c1, m, x, a2, n2, cc2, rfl⟩ := NV.form hv
      have HM := Lib.hid (HK.out.mid hpb hv h2 k2)
      have hs2' := k2.size
      clear hv h2 k2
      unfold NV.val
      go_wp2_with (at_builtin; refine wpList_append_own_at _ rfl (.tmp 19) (.tmp 22) 25 rfl (w.heap.size + 1) 27 i0 _ 5 72 Tryz.underlying25 hi0 hz0 hz1 hz2 rfl (by decide) _ _ _ rfl (ownsRow_alloc HM.out.own _) ⟨w2.heap.size, 0, none⟩ 1 1 [.int .i64 o, .slice a1 n1 c1, .int .i64 m, .int .i64 x, .slice a2 n2 cc2] rfl rfl (by exact cells_new _ [_, _, _, _, _] _) (by intro u hu; simp at hu; rcases hu with rfl | rfl | rfl | rfl | rfl <;> rfl) ?d3 ?d4 ?d5 ?_)
      case d3 => unfold maxLen; omega
      case d4 => omega
      case d5 => simp; omega
      intro v' w9 hown' hgrow _ hloc
      have HK9 := Lib.hid (HM.out.snoc hpb HRB.out hown' hgrow hloc)
      obtain ⟨ka9, kc9, rfl⟩ := ownsRow_slice hown'
      have hs9 := hgrow.size
      simp at hs9
      clear hown' hgrow hloc
      have hap9 := HK9.out.pa.lt
      go_wp2_with fail
      refine (peek_any w9 pb rv rs s2 HK9.out.pa).mono ?_
      rintro e w10 ⟨rfl, k10⟩
      have HKE := Lib.hid (HK9.out.keepF k10)
      go_wp2_with fail
      have h6 := posOf_eq HKE.out.pa
      have h7 := Hpo.out
      have h8 := Hinv2.out.a
      go_roundw
      case rel => exact ⟨n - 1, s2, _, _, rfl, HKE.out, Hgo2.out, Hinv2.out, Hd2.out, by omega, by simp; omega⟩
      case measure => omega
    | false =>
      have hE : R = (l, s') := by
        have := Hgo.out
        cases n with
        | zero => exact this.symm
        | succ n => unfold pcsGo at this; rw [if_neg (by rw [hq]; simp)] at this; exact this.symm
      subst hE
      have hle := pk_le HK.out.pa
      have HJ := Lib.hid (fun (W : World) (K : Keeps (fun _ => False) wr W) => join_any 4 (.slice ka l.length kc) vs l (fun b => w.heap.size < b ∧ b < wr.heap.size) W
        ((HK.out.slof (by omega)).keep K) (HK.out.kids.keepsTo K (fun _ _ => id) (fun b hb => ⟨hb.1, hb.2.1⟩)) (fun b hb => ⟨by have := ownBlock_base HK.out.own b hb; omega, own_lt HK.out.own b hb⟩))
      have hcase : (pk rs s' < 0) ∨ (pk rs s' = 124) ∨ (pk rs s' = 41) := by
        simp [isPc] at hq; omega
      rcases hcase with hc | hc | hc
      · have g0 : decide (0 ≤ pk rs s') = false := by simp; omega
        clear hq hc
        generalize pk rs s' = r at *
        go_wp2_with fail
        refine (HJ.out _ (Keeps.refl _ _)).mono ?_
        rintro e w5 ⟨v, rfl, hv, k5⟩
        obtain ⟨o, a1, n1, c1, m, x, a2, n2, cc2, rfl⟩ := NV.form hv
        have KX := Lib.hid (HK.out.keep.trans (k5.mono (T := OnlyP pb) (fun _ _ e => e.elim)))
        have HPX := Lib.hid (HK.out.pa.keepsF k5)
        have HTX := Lib.hid (hv.keepsTo (Q := fun b => w.heap.size < b ∧ b < w5.heap.size) (Keeps.refl (fun _ => False) _) (fun _ _ => id) (fun b hb => ⟨hb.1, by have := k5.size; omega⟩))
        obtain ⟨⟨y0, y1, y2, y3, y4⟩, q0, q1, q2, q3, q4⟩ := res_facts KX.out hpb
        clear hv k5
        unfold NV.val
        go_wp2_with fail
        obtain ⟨wE, hWE⟩ : ∃ W, st5 (w5) w.heap.size (.int .i64 o) (.slice a1 n1 c1) (.int .i64 m) (.int .i64 x) (.slice a2 n2 cc2) = W := ⟨_, rfl⟩
        obtain ⟨r0, r1, r2, r3, r4, kE⟩ := st5_facts (w5) w.heap.size y0 y1 y2 y3 y4 (.int .i64 o) (.slice a1 n1 c1) (.int .i64 m) (.int .i64 x) (.slice a2 n2 cc2)
        rw [hWE] at r0 r1 r2 r3 r4 kE
        unfold st5 at hWE
        rw [hWE]
        have HKE := Lib.hid kE
        clear kE hWE y0 y1 y2 y3 y4
        refine bodyPost_ret (by simp [results, Tryz.results68, go_sem, r0, r1, r2, r3, r4]; try rfl) rfl ?_
        exact tree_close (v := ⟨o, .slice a1 n1 c1, m, x, .slice a2 n2 cc2⟩) hpb HH.out.rb KX.out HPX.out HTX.out HKE.out
      · rw [hc]
        clear hq
        go_wp2_with fail
        refine (HJ.out _ (Keeps.refl _ _)).mono ?_
        rintro e w5 ⟨v, rfl, hv, k5⟩
        obtain ⟨o, a1, n1, c1, m, x, a2, n2, cc2, rfl⟩ := NV.form hv
        have KX := Lib.hid (HK.out.keep.trans (k5.mono (T := OnlyP pb) (fun _ _ e => e.elim)))
        have HPX := Lib.hid (HK.out.pa.keepsF k5)
        have HTX := Lib.hid (hv.keepsTo (Q := fun b => w.heap.size < b ∧ b < w5.heap.size) (Keeps.refl (fun _ => False) _) (fun _ _ => id) (fun b hb => ⟨hb.1, by have := k5.size; omega⟩))
        obtain ⟨⟨y0, y1, y2, y3, y4⟩, q0, q1, q2, q3, q4⟩ := res_facts KX.out hpb
        clear hv k5
        unfold NV.val
        go_wp2_with fail
        obtain ⟨wE, hWE⟩ : ∃ W, st5 (w5) w.heap.size (.int .i64 o) (.slice a1 n1 c1) (.int .i64 m) (.int .i64 x) (.slice a2 n2 cc2) = W := ⟨_, rfl⟩
        obtain ⟨r0, r1, r2, r3, r4, kE⟩ := st5_facts (w5) w.heap.size y0 y1 y2 y3 y4 (.int .i64 o) (.slice a1 n1 c1) (.int .i64 m) (.int .i64 x) (.slice a2 n2 cc2)
        rw [hWE] at r0 r1 r2 r3 r4 kE
        unfold st5 at hWE
        rw [hWE]
        have HKE := Lib.hid kE
        clear kE hWE y0 y1 y2 y3 y4
        refine bodyPost_ret (by simp [results, Tryz.results68, go_sem, r0, r1, r2, r3, r4]; try rfl) rfl ?_
        exact tree_close (v := ⟨o, .slice a1 n1 c1, m, x, .slice a2 n2 cc2⟩) hpb HH.out.rb KX.out HPX.out HTX.out HKE.out
      · rw [hc]
        clear hq
        go_wp2_with fail
        refine (HJ.out _ (Keeps.refl _ _)).mono ?_
        rintro e w5 ⟨v, rfl, hv, k5⟩
        obtain ⟨o, a1, n1, c1, m, x, a2, n2, cc2, rfl⟩ := NV.form hv
        have KX := Lib.hid (HK.out.keep.trans (k5.mono (T := OnlyP pb) (fun _ _ e => e.elim)))
        have HPX := Lib.hid (HK.out.pa.keepsF k5)
        have HTX := Lib.hid (hv.keepsTo (Q := fun b => w.heap.size < b ∧ b < w5.heap.size) (Keeps.refl (fun _ => False) _) (fun _ _ => id) (fun b hb => ⟨hb.1, by have := k5.size; omega⟩))
        obtain ⟨⟨y0, y1, y2, y3, y4⟩, q0, q1, q2, q3, q4⟩ := res_facts KX.out hpb
        clear hv k5
        unfold NV.val
        go_wp2_with fail
        obtain ⟨wE, hWE⟩ : ∃ W, st5 (w5) w.heap.size (.int .i64 o) (.slice a1 n1 c1) (.int .i64 m) (.int .i64 x) (.slice a2 n2 cc2) = W := ⟨_, rfl⟩
        obtain ⟨r0, r1, r2, r3, r4, kE⟩ := st5_facts (w5) w.heap.size y0 y1 y2 y3 y4 (.int .i64 o) (.slice a1 n1 c1) (.int .i64 m) (.int .i64 x) (.slice a2 n2 cc2)
        rw [hWE] at r0 r1 r2 r3 r4 kE
        unfold st5 at hWE
        rw [hWE]
        have HKE := Lib.hid kE
        clear kE hWE y0 y1 y2 y3 y4
        refine bodyPost_ret (by simp [results, Tryz.results68, go_sem, r0, r1, r2, r3, r4]; try rfl) rfl ?_
        exact tree_close (v := ⟨o, .slice a1 n1 c1, m, x, .slice a2 n2 cc2⟩) hpb HH.out.rb KX.out HPX.out HTX.out HKE.out
end Go.Proofs.YtpcbfmbpbegjgaaGreat
end
section
namespace Go.Proofs.YtpcbfmbpbegjgaaGreat
open Go.RowKit
set_option linter.unusedVariables false
set_option linter.unusedSimpArgs false
set_option maxRecDepth 100000

theorem KidsAt.keepP {w wr w' : World} {pb : Nat} {rv kv : Value} {rs : List Int} {s s2 : PS} {l : List T} {vs : List NV} (h : KidsAt w pb rv rs wr kv s l vs) (hpb : pb < w.heap.size) (hP : PaAt w' pb rv rs s2) (K : Keeps (OnlyP pb) wr w') : KidsAt w pb rv rs w' kv s2 l vs :=
  ⟨own_fresh h.own K (by omega), h.kids.keepsTo K (fun b hb e => by have e : b = pb := e; have := hb.1; omega) (fun b hb => ⟨hb.1, by have := hb.2.1; have := K.size; omega, hb.2.2⟩), hP, h.keep.trans K⟩
/-- A first kid, in a row of its own. -/
theorem KidsAt.first {w w1 w2 : World} {pb : Nat} {rv : Value} {rs : List Int} {s2 : PS} {v : NV} {t : T} (hpb : pb < w.heap.size)
    (K0 : Keeps (OnlyP pb) (w.alloc (.cells #[.int .i64 0, .slice none 0 0, .int .i64 0, .int .i64 0, .slice none 0 0] 27)) w1) (hT : TAt w2 (Bt w1 w2) v t) (hP : PaAt w2 pb rv rs s2) (K : Keeps (OnlyP pb) w1 w2) :
    KidsAt w pb rv rs (w2.alloc (.cells #[.int .i64 v.op, v.sv, .int .i64 v.mn, .int .i64 v.mx, v.kv] 27)) (.slice (some ⟨w2.heap.size, 0, none⟩) 1 1) s2 [t] [v] := by
  have hs0 := K0.size
  have hs1 := K.size
  simp at hs0
  have ka : Keeps (fun _ => False) w2 (w2.alloc (.cells #[.int .i64 v.op, v.sv, .int .i64 v.mn, .int .i64 v.mx, v.kv] 27)) := (Keeps.refl _ _).alloc _
  refine ⟨⟨rfl, Or.inr ⟨w2.heap.size, 1, _, rfl, by omega, heap_alloc_new w2 _, Nat.le_refl _, by unfold maxLen; decide, rfl, rfl⟩⟩, ?_, hP.keepsF ka, (K0.trans K).trans (ka.mono (fun _ _ e => e.elim))⟩
  exact FAt.cons_iff.2 ⟨v, [], rfl, hT.keepsTo ka (fun _ _ => id) (fun b hb => ⟨by have := hb.1; omega, by have := hb.2; simp; omega, fun e => by have := hb.2; simp [Value.ownBlock] at e; omega⟩), rfl⟩

def AltR (f : PS → T × PS) (D : PS → Prop) (w : World) (pb : Nat) (rv : Value) (rs : List Int) (R : List T × PS) (kv : Value) (wr : World) : Prop :=
  ∃ n s l vs, KidsAt w pb rv rs wr kv s l vs ∧ altGo f rs n s l = R ∧ Inv rs s ∧ D s ∧ rs.length + 9 ≤ n + s.pos ∧ l.length ≤ s.pos + 1
set_option maxHeartbeats 8000000 in
theorem alt_step {f : PS → T × PS} {rs : List Int} {C D : PS → Prop} (H : StepH f rs C D) : AltC (altsP f rs) rs D := by
  intro w pb rv s h hi hd
  have hpb := h.lt
  have hrb := h.rb
  obtain ⟨i0, hi0, hz0, hz1, hz2⟩ := info_parts info_node
  have HH := Lib.hid h
  have HRB := Lib.hid hrb
  have HST := Lib.hid H
  have hlen := H.len
  have hpg := piecesP_go H.go s
  have HI := Lib.hid (hpg.inv hi)
  have HD := Lib.hid (H.dd _ _ hd hpg)
  have HPC := Lib.hid (fun (W : World) (hW : PaAt W pb rv rs s) => pieces_any H W pb rv s hW hi hd)
  obtain ⟨R, hR⟩ : ∃ R, altR f rs s = R := ⟨_, rfl⟩
  obtain ⟨t1, ht1⟩ : ∃ x, (piecesP f rs s).1 = x := ⟨_, rfl⟩
  obtain ⟨s1, hs1⟩ : ∃ x, (piecesP f rs s).2 = x := ⟨_, rfl⟩
  have HR : Hid (altGo f rs (rs.length + 9) s1 [t1] = R) := Lib.hid (by rw [← hs1, ← ht1]; exact hR)
  have E : Hid (altsP f rs s = (joinT 5 R.1, R.2)) := Lib.hid (by unfold altsP; rw [hR])
  rw [show piecesP f rs s = (t1, s1) by rw [← ht1, ← hs1]] at HPC
  rw [hs1] at HI HD
  rw [E.out]
  clear E hR h hrb hi hd H hpg ht1 hs1
  go_enter Tryz.func45, Tryz.ntmps45
  go_wp2_with fail
  refine (HPC.out _ (HH.out.keepsF (by (repeat' (with_reducible first | exact Keeps.refl _ _ | assumption | refine Keeps.drawN ?_ _ | refine Keeps.drew ?_ | refine Keeps.setCell ?_ ?_ _ | refine Keeps.alloc ?_ _)) <;> (first | exact Or.inr (Nat.le_refl _) | exact Or.inl rfl | exact Or.inl (Or.inl rfl) | exact Or.inl (Or.inr rfl) | (right; simp; done) | (right; simp; omega))))).mono ?_
  rintro e w1 ⟨v, rfl, hv, h1, k1⟩
  obtain ⟨o, a1, n1, c1, m, x, a2, n2, cc2, rfl⟩ := NV.form hv
  have hst := KidsAt.first hpb (Keeps.refl _ _) hv h1 k1
  have HS1 := Lib.hid hst
  clear hst hv h1 k1
  unfold NV.val
  go_wp2_with fail
  go_loopw [3] (fun kv wr => AltR f D w pb rv rs R kv wr) (fun _ wr => rs.length + 30 - posOf wr pb)
  case atStart => exact ⟨rs.length + 9, s1, [t1], _, HS1.out, HR.out, HI.out, HD.out, by omega, by simp⟩
  case round =>
    obtain ⟨n, s', l, vs, hK, hgo, hinv, hd, hn, hll⟩ := hrel
    have HK := Lib.hid hK
    have hsz := hK.size
    obtain ⟨ka, kc, rfl⟩ := ownsRow_slice hK.own
    have hap := hK.pa.lt
    have Hpo := Lib.hid (posOf_eq hK.pa)
    have hpa := hinv.a
    have Hgo := Lib.hid hgo
    have Hinv := Lib.hid hinv
    have Hd := Lib.hid hd
    clear hK hgo hinv hd
    by_cases hq : pk rs s' = 124
    · have hroom := pk_room (rs := rs) (s := s') (by omega)
      have HTk := Lib.hid (take_any wr pb rv rs s' 124 HK.out.pa (by omega))
      have e1 : tkB rs 124 s' = true := by unfold tkB; simpa using hq
      have e2 : (tk rs 124 s').pos = s'.pos + 1 := by unfold tk; rw [if_pos hq]
      have htg := tk_go rs 124 s' (by omega)
      have hd2 := HST.out.dd _ _ Hd.out htg
      have hi2 := htg.inv Hinv.out
      have hpg := piecesP_go HST.out.go (tk rs 124 s')
      have Hgo2 : Hid (altGo f rs (n - 1) (piecesP f rs (tk rs 124 s')).2 (l ++ [(piecesP f rs (tk rs 124 s')).1]) = R) := Lib.hid (by
        have := Hgo.out
        obtain ⟨m, rfl⟩ : ∃ m, n = m + 1 := ⟨n - 1, by omega⟩
        rw [altGo, if_pos hq] at this
        exact this)
      have hpp := hpg.pos
      have HI3 := Lib.hid (hpg.inv hi2)
      have HD3 := Lib.hid (HST.out.dd _ _ hd2 hpg)
      have HPC2 := Lib.hid (fun (W : World) (hW : PaAt W pb rv rs (tk rs 124 s')) => pieces_any HST.out W pb rv (tk rs 124 s') hW hi2 hd2)
      rw [e1] at HTk
      rw [e2] at hpp
      obtain ⟨t2, ht2⟩ : ∃ x, (piecesP f rs (tk rs 124 s')).1 = x := ⟨_, rfl⟩
      obtain ⟨s2, hs2⟩ : ∃ x, (piecesP f rs (tk rs 124 s')).2 = x := ⟨_, rfl⟩
      rw [show piecesP f rs (tk rs 124 s') = (t2, s2) by rw [← ht2, ← hs2]] at HPC2
      rw [ht2, hs2] at Hgo2
      rw [hs2] at HI3 HD3 hpp
      clear ht2 hs2 hpg hi2 hd2 htg e1 e2 hq
      generalize tk rs 124 s' = st at *
      go_wp2_with fail
      refine HTk.out.mono ?_
      rintro e w2 ⟨rfl, h2, k2⟩
      have P2 := Lib.hid h2
      have HK2 := Lib.hid (HK.out.keepP hpb h2 k2)
      have hsk2 := k2.size
      clear h2 k2
      go_wp2_with fail
      refine (HPC2.out _ P2.out).mono ?_
      rintro e w3 ⟨v, rfl, hv, h3, k3⟩
      obtain ⟨o, a1, n1, c1, m, x, a2, n2, cc2, rfl⟩ := NV.form hv
      have HM := Lib.hid (HK2.out.mid hpb hv h3 k3)
      have hs3 := k3.size
      clear hv h3 k3
      unfold NV.val
      go_wp2_with (at_builtin; refine wpList_append_own_at _ rfl (.tmp 9) (.tmp 12) 25 rfl (w.heap.size + 1) 27 i0 _ 5 72 Tryz.underlying25 hi0 hz0 hz1 hz2 rfl (by decide) _ _ _ rfl (ownsRow_alloc HM.out.own _) ⟨w3.heap.size, 0, none⟩ 1 1 [.int .i64 o, .slice a1 n1 c1, .int .i64 m, .int .i64 x, .slice a2 n2 cc2] rfl rfl (by exact cells_new _ [_, _, _, _, _] _) (by intro u hu; simp at hu; rcases hu with rfl | rfl | rfl | rfl | rfl <;> rfl) ?d3 ?d4 ?d5 ?_)
      case d3 => unfold maxLen; omega
      case d4 => omega
      case d5 => simp; omega
      intro v' w9 hown' hgrow _ hloc
      have HK9 := Lib.hid (HM.out.snoc hpb HRB.out hown' hgrow hloc)
      clear hown' hgrow hloc
      go_wp2_with fail
      have h6 := posOf_eq HK9.out.pa
      have h7 := Hpo.out
      have h8 := HI3.out.a
      go_roundw
      case rel => exact ⟨n - 1, s2, _, _, HK9.out, Hgo2.out, HI3.out, HD3.out, by omega, by simp; omega⟩
      case measure => omega
    · have hE : R = (l, s') := by
        have := Hgo.out
        cases n with
        | zero => exact this.symm
        | succ n => rw [altGo, if_neg hq] at this; exact this.symm
      subst hE
      have HTk := Lib.hid (take_no 124 HK.out.pa hq (by omega))
      have HJ := Lib.hid (fun (W : World) (h : KidsAt w pb rv rs W (.slice ka l.length kc) s' l vs) => join_any 5 (.slice ka l.length kc) vs l (fun b => w.heap.size < b ∧ b < W.heap.size) W
        (h.slof (by omega)) (h.kids.keepsTo (Keeps.refl (fun _ => False) _) (fun _ _ => id) (fun b hb => ⟨hb.1, hb.2.1⟩)) (fun b hb => ⟨by have := ownBlock_base h.own b hb; omega, own_lt h.own b hb⟩))
      clear hq
      go_wp2_with fail
      refine HTk.out.mono ?_
      rintro e w2 ⟨rfl, h2, k2⟩
      have HK2 := Lib.hid (HK.out.keepP hpb h2 k2)
      clear h2 k2
      go_wp2_with fail
      refine (HJ.out _ HK2.out).mono ?_
      rintro e w5 ⟨v, rfl, hv, k5⟩
      obtain ⟨o, a1, n1, c1, m, x, a2, n2, cc2, rfl⟩ := NV.form hv
      have KX := Lib.hid (HK2.out.keep.trans (k5.mono (T := OnlyP pb) (fun _ _ e => e.elim)))
      have HPX := Lib.hid (HK2.out.pa.keepsF k5)
      have HTX := Lib.hid (hv.keepsTo (Q := fun b => w.heap.size < b ∧ b < w5.heap.size) (Keeps.refl (fun _ => False) _) (fun _ _ => id) (fun b hb => ⟨hb.1, by have := k5.size; omega⟩))
      obtain ⟨⟨y0, y1, y2, y3, y4⟩, q0, q1, q2, q3, q4⟩ := res_facts KX.out hpb
      clear hv k5
      unfold NV.val
      go_wp2_with fail
      obtain ⟨wE, hWE⟩ : ∃ W, st5 (w5) w.heap.size (.int .i64 o) (.slice a1 n1 c1) (.int .i64 m) (.int .i64 x) (.slice a2 n2 cc2) = W := ⟨_, rfl⟩
      obtain ⟨r0, r1, r2, r3, r4, kE⟩ := st5_facts (w5) w.heap.size y0 y1 y2 y3 y4 (.int .i64 o) (.slice a1 n1 c1) (.int .i64 m) (.int .i64 x) (.slice a2 n2 cc2)
      rw [hWE] at r0 r1 r2 r3 r4 kE
      unfold st5 at hWE
      rw [hWE]
      have HKE := Lib.hid kE
      clear kE hWE y0 y1 y2 y3 y4
      refine bodyPost_ret (by simp [results, Tryz.results45, go_sem, r0, r1, r2, r3, r4]; try rfl) rfl ?_
      exact tree_close (v := ⟨o, .slice a1 n1 c1, m, x, .slice a2 n2 cc2⟩) hpb HH.out.rb KX.out HPX.out HTX.out HKE.out

/-! ### By induction -/
theorem altsP_bad (f : PS → T × PS) (rs : List Int) (s : PS) (h : s.bad = true) : altsP f rs s = (zeroT, s) := by
  have h1 : pk rs s = -1 := by unfold pk; rw [if_pos h]
  have h2 : piecesP f rs s = (zeroT, s) := by
    unfold piecesP pcsR
    have : pcsGo f rs (rs.length + 9) s [] = ([], s) := by unfold pcsGo; rw [h1]; rfl
    rw [this]; rfl
  unfold altsP altR
  rw [h2]
  have : altGo f rs (rs.length + 9) s [zeroT] = ([zeroT], s) := by unfold altGo; rw [h1]; rfl
  rw [this]; rfl
def Dn (n : Nat) (s : PS) : Prop := 0 ≤ s.deep ∧ s.deep ≤ 11 ∧ (s.bad = false → s.deep ≤ 10 ∧ 10 ≤ s.deep + n)
theorem Dn.go {n : Nat} {rs : List Int} {s s' : PS} (h : Dn n s) (g : Go1 rs s s') : Dn n s' := by
  unfold Dn at h ⊢
  rw [g.deep]
  refine ⟨h.1, h.2.1, fun hb => h.2.2 ?_⟩
  cases hs : s.bad with
  | false => rfl
  | true => rw [g.bad hs] at hb; cases hb
theorem alts_bad (rs : List Int) (hl : rs.length ≤ 9000) : AltC (fun s => (zeroT, s)) rs (fun s => s.bad = true ∧ 0 ≤ s.deep ∧ s.deep ≤ 11) := by
  have h := alt_step (f := fun s => (zeroT, s)) (rs := rs) (C := fun _ => False) (D := fun s => s.bad = true ∧ 0 ≤ s.deep ∧ s.deep ≤ 11)
    ⟨fun s => Go1.refl _ _, fun _ _ _ _ _ _ h => h.elim, fun s h hb => (by rw [h.1] at hb; cases hb), fun s s' h g => ⟨g.bad h.1, by rw [g.deep]; exact h.2.1, by rw [g.deep]; exact h.2.2⟩, fun s h => ⟨h.2.1, by omega⟩, hl⟩
  intro w pb rv s hP hi hc
  have := h w pb rv s hP hi hc
  rwa [altsP_bad _ _ _ hc.1] at this
theorem alts_any (rs : List Int) (hl : rs.length ≤ 9000) : ∀ n, AltC (alts rs n) rs (Dn n) := by
  intro n
  induction n with
  | zero =>
    exact alt_step (f := fun s => (zeroT, s)) ⟨fun s => Go1.refl _ _, alts_bad rs hl, fun s h hb => by
      have := h.2.2 hb
      exact ⟨by simp; omega, by simp only; have := h.1; omega, by simp only; omega⟩, fun s s' h g => h.go g, fun s h => ⟨h.1, by have := h.2.1; omega⟩, hl⟩
  | succ n ih =>
    exact alt_step (f := alts rs n) ⟨alts_go rs n, ih, fun s h hb => by
      have h1 := h.2.2 hb
      have h2 := h.1
      refine ⟨by simp only; omega, by simp only; omega, fun hb2 => ?_⟩
      simp only [decide_eq_false_iff_not] at hb2
      simp only
      push_cast at h1
      omega, fun s s' h g => h.go g, fun s h => ⟨h.1, by have := h.2.1; omega⟩, hl⟩
end Go.Proofs.YtpcbfmbpbegjgaaGreat
end
