/-
  The document's Tree: it comes back with some tree (printed by mk_stree.py).
-/
import Derived.Test.YtjahiihmoglpfaaGreatDoorMg12
import Derived.BigRegion
import Derived.Deep.RegionHeld3
import Derived.Deep.AppendLies
namespace Go.Proofs.YtjahiihmoglpfaaGreatDoor
open Go.RowKit
set_option linter.unusedVariables false
set_option linter.unusedSimpArgs false
set_option maxRecDepth 100000
theorem xeR (d : Int) (D : Nat → Prop) (v : Value) (tvs : List TV) (w : World) (h : KsAt w D v tvs) (hd : 10 < d) : Calls Tryz.prog 60 #[v, .int .i64 d] w (xmn w D) := by
 obtain ⟨a, cap, rfl⟩ := h.form
 have g : decide (10 < d) = true := by simpa using hd
 clear h
 go_enter Tryz.func60, Tryz.ntmps60
 go_wp2_with fail
 refine bodyPost_ret (by simp [results, Tryz.results60, go_sem]; try rfl) rfl ?_
 exact ⟨⟨0, .slice none 0 0, 0, 0, .slice none 0 0⟩, _, false, rfl, TAt.zero _ _, (xaa.refl _ _).alloc _⟩
set_option maxHeartbeats 16000000 in
theorem xiy : ∀ (n : Nat) (d : Int) (D : Nat → Prop) (v : Value) (tvs : List TV) (w : World), 0 ≤ d → d ≤ 11 → 11 ≤ d + n → KsAt w D v tvs → (∀ b, D b → b < w.heap.size) → tvs.length ≤ 200 →
 Calls Tryz.prog 60 #[v, .int .i64 d] w (xmn w D) := by
 intro n
 induction n with
 | zero => intro d D v tvs w h0 h1 h2 hks hD hl; exact xeR d D v tvs w hks (by omega)
 | succ n ih =>
 intro d D v tvs w hd0 hd1 hd2 hks hD hl
 by_cases hd : 10 < d
 · exact xeR d D v tvs w hks hd
 obtain ⟨a, cap, rfl⟩ := hks.form
 obtain ⟨i0, hi0, hz0, hz1, hz2⟩ := info_parts xeq
 have HCP : Hid (tvs.length ≤ cap) := xmA (by
  obtain ⟨a', c', e, h1, _⟩ := hks.row
  obtain ⟨_, h3, h4⟩ := Value.slice.inj e
  omega)
 have HH := xmA hks
 have IH := xmA ih
 clear hks ih
 have gd : decide (10 < d) = false := by simpa using hd
 go_enter Tryz.func60, Tryz.ntmps60
 go_wp2_with fail
 go_loopw [6, 7, 8, 9] (fun av pv lov iv wr => TrW tvs.length D w av pv lov iv wr) (fun _ _ _ iv _ => tvs.length + 2 - (intOf iv).toNat)
 case atStart => exact ⟨0, [], [], [], [], false, rfl, rfl, xaF.start D (xaa.refl _ _), by simp, by simp, by simp, by omega⟩
 case round =>
  obtain ⟨i, al, us, ps, vs, lo, rfl, rfl, hR, hlo, hla, hlp, hi⟩ := hrel
  have hsz := hR.size
  have HR := xmA hR
  obtain ⟨ava, avc, rfl⟩ := xad hR.aown
  obtain ⟨pva, pvc, rfl⟩ := xad hR.pown
  have HK := xmA (HH.out.keep (xaa.trans ((xaa.refl _ _).alloc _) hR.keep))
  have Hlo := xmA hlo
  have HJ := xmA (fun (W : World) (K : xaa (fun _ => False) wr W) => xhR 4 (.slice pva ps.length pvc) vs ps (Kq w.heap.size D wr.heap.size (Value.slice ava al.length avc).ownBlock none) W ((hR.keepF K).slofP (by omega)) (hR.pkids.keepsTo K (fun _ _ => id) (fun b hb => ⟨hb.1, hb.2.1, fun e => by cases e⟩)) (fun b hb => ⟨Or.inr ⟨by have := xab hR.pown b hb; omega, xax hR.pown b hb⟩, fun e => hR.sep b e hb, fun e => by cases e⟩))
  clear hR hlo
  by_cases hil : i < tvs.length
  · obtain ⟨b, off, k, r, sd, se, sf, mm, xx, rfl, hx, hk, hlt, x0, x1, x2, x3, x4⟩ := HK.out.at hil
    obtain ⟨hkk, ⟨s, hs⟩, hsb, hm64, hx64⟩ := hk
    have HS := xmA (And.intro hs hsb)
    have HX := xmA hx
    have hid : decide ((i : Int) ≤ (tvs.length : Int)) = true := by simp; omega
    have hie : ((i : Int) == (tvs.length : Int)) = false := beq_eq_false_iff_ne.2 (by omega)
    have hid0 : (i : Int) < (tvs.length : Int) := by omega
    simp only at hkk
    clear hx hs hsb
    rcases hkk with rfl | rfl | rfl
    · skip
      go_wp2_with (at_builtin; refine wpList_append_own_at _ rfl (.tmp 84) (.tmp 88) 50 rfl (w.heap.size + 1) 52 i0 _ 5 72 Tryz.underlying50 hi0 hz0 hz1 hz2 rfl (by decide) _ _ _ rfl (xac (xac HR.out.pown _) _) ⟨wr.heap.size + 1, 0, none⟩ 1 1 [.int .i64 1, .slice sd se sf, .int .i64 0, .int .i64 0, .slice none 0 0] rfl rfl (by exact xbJ _ _ [_, _, _, _, _] _) (by simp [Value.oneCell']) (by unfold maxLen; omega) (by omega) (by first | omega | (simp; omega)) ?_)
      intro v' w9 hown' hgrow _ hloc
      have HN := xmA (xaF.push hD HR.out (((xaa.refl _ _).alloc _).alloc _) (TAt.char (HS.out.1.keeps (((xaa.refl (fun _ => False) _).alloc _).alloc _) (fun _ _ => id)) (fun b hb => HR.out.old hD (HS.out.2 b hb) _)) hown' hgrow hloc (by simp))
      clear hown' hgrow hloc
      go_wp2_with fail
      go_roundw
      case rel => exact xcf (j := i + 1) HN.out (by omega) (by simp) (by omega) (by simp; omega) (by go_num) rfl
      case measure => first | (simp [intOf]; done) | (simp [intOf]; omega)
    rotate_left
    · cases lo with
      | false =>
       have hB9 := (HR.out.keep.alloc (.cells #[.int .i64 2, .int .i64 r, .slice sd se sf, .int .i64 mm, .int .i64 xx] 116)).heap (heap_alloc_new w _) id
       go_wp2_with (refine xap rfl 52 (.tmp 4) (.tmp 59) rfl rfl w.heap.size _ rfl rfl 52 _ hB9 xbd rfl (by simp [Value.oneCell']) ?_)
       intro w6 h6 k6
       obtain ⟨r0, r1, r2, r3, r4⟩ := five h6
       go_wp2_with fail
       refine bodyPost_ret (by simp [results, Tryz.results60, go_sem, r0, r1, r2, r3, r4]; try rfl) rfl ?_
       exact xcY (v := ⟨0, .slice none 0 0, 0, 0, .slice none 0 0⟩) hD (HR.out.keep.alloc (.cells #[.int .i64 2, .int .i64 r, .slice sd se sf, .int .i64 mm, .int .i64 xx] 116)) (TAt.zero _ _) k6
      | true =>
       obtain ⟨ps0, tn, rfl⟩ : ∃ p t, ps = p ++ [t] := by
        rcases List.eq_nil_or_concat ps with h | ⟨p, t, h⟩
        · exact absurd h (Hlo.out rfl)
        exact ⟨p, t, by rw [h, List.concat_eq_append]⟩
       have hvl := HR.out.pkids.len
       obtain ⟨vs0, vn, rfl⟩ : ∃ p t, vs = p ++ [t] := by
        rcases List.eq_nil_or_concat vs with h | ⟨p, t, h⟩
        · subst h; simp at hvl
        exact ⟨p, t, by rw [h, List.concat_eq_append]⟩
       have hv0 : vs0.length = ps0.length := by simpa using hvl
       obtain ⟨vn', hvn', hTn⟩ := HR.out.pkids.get (i := ps0.length) (t := tn) (by simp)
       obtain rfl : vn = vn' := by rw [← hv0] at hvn'; simpa using hvn'
       obtain ⟨o, a1, n1, c1, m1, x1', a2, n2, cc2, rfl⟩ := NV.form hTn
       obtain ⟨g, gc, hgv, hg1, hg2⟩ := xbx HR.out.pown (by simp)
       obtain ⟨rfl, _, rfl⟩ := Value.slice.inj hgv
       have HTn := xmA hTn
       by_cases hpos : 0 < ps0.length
       · skip
         have hcell : ∀ j u, (encN ⟨o, .slice a1 n1 c1, m1, x1', .slice a2 n2 cc2⟩ j) = u → j < 5 → wr.cell? ⟨g, ps0.length * 5 + j, none⟩ = some u := fun j u hu hj => by
          have h := HR.out.pown.cellAt (ps0.length * 5 + j) (by simp; omega)
          rw [h, xaz 5 encN _ ps0.length ⟨o, .slice a1 n1 c1, m1, x1', .slice a2 n2 cc2⟩ (by rw [← hv0]; simp) j hj, hu]
         have y0 := hcell 0 _ rfl (by omega)
         have y1 := hcell 1 _ rfl (by omega)
         have y2 := hcell 2 _ rfl (by omega)
         have y3 := hcell 3 _ rfl (by omega)
         have y4 := hcell 4 _ rfl (by omega)
         simp only [Nat.add_zero] at y0
         simp only [encN, if_true, Nat.reduceEqDiff, if_false] at y0 y1 y2 y3 y4
         clear hTn hcell hvn' hvl hgv
         simp only [List.length_append, List.length_cons, List.length_nil, Nat.zero_add] at hlp
         have hlen : (ps0 ++ [tn]).length = ps0.length + 1 := by simp
         have HRl := HR.out
         rw [hlen] at HRl
         rw [hlen]
         have hw1 : IntKind.i64.wrap (((ps0.length + 1 : Nat) : Int) - 1) = (ps0.length : Int) := by rw [show ((ps0.length + 1 : Nat) : Int) - 1 = (ps0.length : Int) by omega]; exact IntWalk.i64_in _ (by omega)
         have hgl : g < wr.heap.size := by have := xax HR.out.pown g (by rfl); exact this
         go_wp2_with fail
         obtain ⟨wA, hwA⟩ : ∃ W, (wr.alloc (.cells #[.int .i64 2, .int .i64 r, .slice sd se sf, .int .i64 mm, .int .i64 xx] 116)).alloc (.cells #[.int .i64 o, .slice a1 n1 c1, .int .i64 m1, .int .i64 x1', .slice a2 n2 cc2] 52) = W := ⟨_, rfl⟩
         have KA : xaa (fun _ => False) wr wA := by rw [← hwA]; exact ((xaa.refl _ _).alloc _).alloc _
         have p3 : wA.cell? ⟨wr.heap.size, 3, none⟩ = some (.int .i64 mm) := by rw [← hwA]; exact xaj (by simp [go_sem]) _
         have p4 : wA.cell? ⟨wr.heap.size, 4, none⟩ = some (.int .i64 xx) := by rw [← hwA]; exact xaj (by simp [go_sem]) _
         have k0 : wA.cell? ⟨wr.heap.size + 1, 0, none⟩ = some (.int .i64 o) := by rw [← hwA]; simp [go_sem]
         have k1 : wA.cell? ⟨wr.heap.size + 1, 1, none⟩ = some (.slice a1 n1 c1) := by rw [← hwA]; simp [go_sem]
         have k2 : wA.cell? ⟨wr.heap.size + 1, 2, none⟩ = some (.int .i64 m1) := by rw [← hwA]; simp [go_sem]
         have k3 : wA.cell? ⟨wr.heap.size + 1, 3, none⟩ = some (.int .i64 x1') := by rw [← hwA]; simp [go_sem]
         have k4 : wA.cell? ⟨wr.heap.size + 1, 4, none⟩ = some (.slice a2 n2 cc2) := by rw [← hwA]; simp [go_sem]
         have hsA : wr.heap.size + 2 ≤ wA.heap.size := by rw [← hwA]; simp
         rw [hwA]
         have HS : Hid (∀ w', xaa (fun _ => False) wA w' → (w'.cell? ⟨wr.heap.size, 3, none⟩ = some (.int .i64 mm) ∧ w'.cell? ⟨wr.heap.size, 4, none⟩ = some (.int .i64 xx) ∧ w'.cell? ⟨wr.heap.size + 1, 0, none⟩ = some (.int .i64 o) ∧ w'.cell? ⟨wr.heap.size + 1, 1, none⟩ = some (.slice a1 n1 c1) ∧ w'.cell? ⟨wr.heap.size + 1, 2, none⟩ = some (.int .i64 m1) ∧ w'.cell? ⟨wr.heap.size + 1, 3, none⟩ = some (.int .i64 x1') ∧ w'.cell? ⟨wr.heap.size + 1, 4, none⟩ = some (.slice a2 n2 cc2))) :=
          xmA (fun w' K => ⟨K.cell p3 id, K.cell p4 id, K.cell k0 id, K.cell k1 id, K.cell k2 id, K.cell k3 id, K.cell k4 id⟩)
         have hc1 : (0 : Int) ≤ (ps0.length : Int) := by omega
         have hc2 : (ps0.length : Int) ≤ (pvc : Int) := by have := HRl.pvc_le; omega
         have HNW := xmA (fun W (K : xaa (fun _ => False) wA W) => HR.out.news0 (KA.trans K))
         have HON := xmA (xj7 (FAt.init HR.out.pkids).1)
         clear p3 p4 k0 k1 k2 k3 k4 hwA
         go_region_held3 (fun w' => w'.cell? ⟨wr.heap.size, 3, none⟩ = some (.int .i64 mm) ∧ w'.cell? ⟨wr.heap.size, 4, none⟩ = some (.int .i64 xx) ∧ w'.cell? ⟨wr.heap.size + 1, 0, none⟩ = some (.int .i64 o) ∧ w'.cell? ⟨wr.heap.size + 1, 1, none⟩ = some (.slice a1 n1 c1) ∧ w'.cell? ⟨wr.heap.size + 1, 2, none⟩ = some (.int .i64 m1) ∧ w'.cell? ⟨wr.heap.size + 1, 3, none⟩ = some (.int .i64 x1') ∧ w'.cell? ⟨wr.heap.size + 1, 4, none⟩ = some (.slice a2 n2 cc2))
          (exact HS.out _ (KI.out)) ((first | (refine step_append_lies _ rfl (.tmp 67) (.tmp 70) 50 rfl wA.heap.size 52 i0 _ 5 72 Tryz.underlying50 hi0 hz0 hz1 hz2 rfl (by decide) _ 0 [] rfl ?_ ⟨g, 0, none⟩ ps0.length pvc (cellsOf 5 encN vs0) rfl ?_ ?_ ?_ ?_ ?_ ?_ ?_ _ rfl ?_; (focus (first | exact (xbm (by first | (simp; done) | (simp; omega)) (by first | (simp; done) | (simp; omega))).drew | exact (xac (xbm (by first | (simp; done) | (simp; omega)) (by first | (simp; done) | (simp; omega))) _).drew | exact (xac (xac (xbm (by first | (simp; done) | (simp; omega)) (by first | (simp; done) | (simp; omega))) _) _).drew)); (focus (rw [xah, hv0])); (focus (exact HNW.out _ (KI.out))); (focus (exact HON.out)); (focus omega); (focus (unfold maxLen; omega)); (focus omega); (focus (first | omega | (simp; done) | (simp; omega))); intro gg cap1 w1 hown1 hgrow1 hat1 hlt1; simp only [Nat.zero_add, List.nil_append] at hown1; rw [Nat.zero_add ps0.length]; have hat1n := hat1.imp (fun h => Option.some.inj h) id; (try simp at hat1n); have k01 : xaa (fun _ => False) wA w1 := xaa.grown (KI.out) hgrow1 (fun b hb => Or.inr (by have h := Option.some.inj hb; rw [← h]; first | exact Nat.le_refl _ | (simp; done) | (simp; omega))); have i01 : KI (fun _ => False) wA w1 := ⟨k01⟩; have hsz1 := hgrow1.size; (try simp at hsz1)) | (refine step_append_lies _ rfl (.tmp 71) (.tmp 79) 50 rfl wA.heap.size 52 i0 _ 5 72 Tryz.underlying50 hi0 hz0 hz1 hz2 rfl (by decide) _ ps0.length (cellsOf 5 encN vs0) rfl ?_ _ 1 1 [.int .i64 6, .slice none 0 0, .int .i64 mm, .int .i64 xx, .slice (some ⟨w1.heap.size, 0, none⟩) 1 1] rfl rfl (xke ?_ ?_ ?_ ?_ ?_) (by simp [Value.oneCell']) (by decide) ?_ ?_ ?_ _ rfl ?_; (focus (first | exact hown1 | exact hown1.drew | exact (xac hown1 _).drew | exact xac hown1 _ | exact (xac (xac hown1 _) _).drew | exact xac (xac hown1 _) _)); (focus (first | (simp [go_sem]; done) | (refine xaa.cell (a := w1) (S := fun _ => False) ?_ ?_ id; (focus (exact KI.out)); (focus (refine xaq hgrow1 ?_ ?_ ?_; (focus (first | omega | (simp; done) | (simp; omega))); (focus (intro h; have h9 := Option.some.inj h; first | omega | (simp at h9; done) | (simp at h9; omega))); (focus (simp [go_sem]; done))))))); (focus (first | (simp [go_sem]; done) | (refine xaa.cell (a := w1) (S := fun _ => False) ?_ ?_ id; (focus (exact KI.out)); (focus (refine xaq hgrow1 ?_ ?_ ?_; (focus (first | omega | (simp; done) | (simp; omega))); (focus (intro h; have h9 := Option.some.inj h; first | omega | (simp at h9; done) | (simp at h9; omega))); (focus (simp [go_sem]; done))))))); (focus (first | (simp [go_sem]; done) | (refine xaa.cell (a := w1) (S := fun _ => False) ?_ ?_ id; (focus (exact KI.out)); (focus (refine xaq hgrow1 ?_ ?_ ?_; (focus (first | omega | (simp; done) | (simp; omega))); (focus (intro h; have h9 := Option.some.inj h; first | omega | (simp at h9; done) | (simp at h9; omega))); (focus (simp [go_sem]; done))))))); (focus (first | (simp [go_sem]; done) | (refine xaa.cell (a := w1) (S := fun _ => False) ?_ ?_ id; (focus (exact KI.out)); (focus (refine xaq hgrow1 ?_ ?_ ?_; (focus (first | omega | (simp; done) | (simp; omega))); (focus (intro h; have h9 := Option.some.inj h; first | omega | (simp at h9; done) | (simp at h9; omega))); (focus (simp [go_sem]; done))))))); (focus (first | (simp [go_sem]; done) | (refine xaa.cell (a := w1) (S := fun _ => False) ?_ ?_ id; (focus (exact KI.out)); (focus (refine xaq hgrow1 ?_ ?_ ?_; (focus (first | omega | (simp; done) | (simp; omega))); (focus (intro h; have h9 := Option.some.inj h; first | omega | (simp at h9; done) | (simp at h9; omega))); (focus (simp [go_sem]; done))))))); (focus (unfold maxLen; omega)); (focus omega); (focus (first | omega | (simp; done) | (simp; omega))); intro g2 cap2 w2 hown2 hgrow2 hat2 hlt2; have hat2n := hat2.imp (fun h => Option.some.inj h) id; (try simp at hat2n); have hk9 := xgA (k5 (G := w1.heap.size) (o := o) (s := .slice a1 n1 c1) (m := m1) (x := x1') (k := .slice a2 n2 cc2) (by (first | (simp [go_sem]; done) | (refine xaa.cell (a := w1) (S := fun _ => False) ?_ ?_ id; (focus (exact KI.out)); (focus (refine xaq hgrow1 ?_ ?_ ?_; (focus (first | omega | (simp; done) | (simp; omega))); (focus (intro h; have h9 := Option.some.inj h; first | omega | (simp at h9; done) | (simp at h9; omega))); (focus (simp [go_sem]; done))))))) (by (first | (simp [go_sem]; done) | (refine xaa.cell (a := w1) (S := fun _ => False) ?_ ?_ id; (focus (exact KI.out)); (focus (refine xaq hgrow1 ?_ ?_ ?_; (focus (first | omega | (simp; done) | (simp; omega))); (focus (intro h; have h9 := Option.some.inj h; first | omega | (simp at h9; done) | (simp at h9; omega))); (focus (simp [go_sem]; done))))))) (by (first | (simp [go_sem]; done) | (refine xaa.cell (a := w1) (S := fun _ => False) ?_ ?_ id; (focus (exact KI.out)); (focus (refine xaq hgrow1 ?_ ?_ ?_; (focus (first | omega | (simp; done) | (simp; omega))); (focus (intro h; have h9 := Option.some.inj h; first | omega | (simp at h9; done) | (simp at h9; omega))); (focus (simp [go_sem]; done))))))) (by (first | (simp [go_sem]; done) | (refine xaa.cell (a := w1) (S := fun _ => False) ?_ ?_ id; (focus (exact KI.out)); (focus (refine xaq hgrow1 ?_ ?_ ?_; (focus (first | omega | (simp; done) | (simp; omega))); (focus (intro h; have h9 := Option.some.inj h; first | omega | (simp at h9; done) | (simp at h9; omega))); (focus (simp [go_sem]; done))))))) (by (first | (simp [go_sem]; done) | (refine xaa.cell (a := w1) (S := fun _ => False) ?_ ?_ id; (focus (exact KI.out)); (focus (refine xaq hgrow1 ?_ ?_ ?_; (focus (first | omega | (simp; done) | (simp; omega))); (focus (intro h; have h9 := Option.some.inj h; first | omega | (simp at h9; done) | (simp at h9; omega))); (focus (simp [go_sem]; done)))))))) hgrow2 (by intro h; have h9 := Option.some.inj h; first | omega | (simp at h9; done) | (simp at h9; omega)); have k02 : xaa (fun _ => False) wA w2 := xaa.grown (KI.out) hgrow2 (fun b hb => Or.inr (by have h := Option.some.inj hb; rw [← h]; first | exact Nat.le_refl _ | omega | (simp; done) | (simp; omega))); have i02 : KI (fun _ => False) wA w2 := ⟨k02⟩; have HF := xmA (xaF.count hD HR.out KA k02 hm64 hx64 (rfl) (rfl) hown2 hk9 (by omega) (by omega)); clear hown2 hgrow2 hat2 hk9) | (refine step_append_lies _ rfl (.tmp 71) (.tmp 79) 50 rfl wA.heap.size 52 i0 _ 5 72 Tryz.underlying50 hi0 hz0 hz1 hz2 rfl (by decide) _ ps0.length (cellsOf 5 encN vs0) rfl ?_ _ 1 1 [.int .i64 6, .slice none 0 0, .int .i64 mm, .int .i64 xx, .slice (some ⟨(wA.heap.size + 1), 0, none⟩) 1 1] rfl rfl (xke ?_ ?_ ?_ ?_ ?_) (by simp [Value.oneCell']) (by decide) ?_ ?_ ?_ _ rfl ?_; (focus (first | exact hown1 | exact hown1.drew | exact (xac hown1 _).drew | exact xac hown1 _ | exact (xac (xac hown1 _) _).drew | exact xac (xac hown1 _) _)); (focus (first | (simp [go_sem]; done) | (refine xaa.cell (a := w1) (S := fun _ => False) ?_ ?_ id; (focus (exact KI.out)); (focus (refine xaq hgrow1 ?_ ?_ ?_; (focus (first | omega | (simp; done) | (simp; omega))); (focus (intro h; have h9 := Option.some.inj h; first | omega | (simp at h9; done) | (simp at h9; omega))); (focus (simp [go_sem]; done))))))); (focus (first | (simp [go_sem]; done) | (refine xaa.cell (a := w1) (S := fun _ => False) ?_ ?_ id; (focus (exact KI.out)); (focus (refine xaq hgrow1 ?_ ?_ ?_; (focus (first | omega | (simp; done) | (simp; omega))); (focus (intro h; have h9 := Option.some.inj h; first | omega | (simp at h9; done) | (simp at h9; omega))); (focus (simp [go_sem]; done))))))); (focus (first | (simp [go_sem]; done) | (refine xaa.cell (a := w1) (S := fun _ => False) ?_ ?_ id; (focus (exact KI.out)); (focus (refine xaq hgrow1 ?_ ?_ ?_; (focus (first | omega | (simp; done) | (simp; omega))); (focus (intro h; have h9 := Option.some.inj h; first | omega | (simp at h9; done) | (simp at h9; omega))); (focus (simp [go_sem]; done))))))); (focus (first | (simp [go_sem]; done) | (refine xaa.cell (a := w1) (S := fun _ => False) ?_ ?_ id; (focus (exact KI.out)); (focus (refine xaq hgrow1 ?_ ?_ ?_; (focus (first | omega | (simp; done) | (simp; omega))); (focus (intro h; have h9 := Option.some.inj h; first | omega | (simp at h9; done) | (simp at h9; omega))); (focus (simp [go_sem]; done))))))); (focus (first | (simp [go_sem]; done) | (refine xaa.cell (a := w1) (S := fun _ => False) ?_ ?_ id; (focus (exact KI.out)); (focus (refine xaq hgrow1 ?_ ?_ ?_; (focus (first | omega | (simp; done) | (simp; omega))); (focus (intro h; have h9 := Option.some.inj h; first | omega | (simp at h9; done) | (simp at h9; omega))); (focus (simp [go_sem]; done))))))); (focus (unfold maxLen; omega)); (focus omega); (focus (first | omega | (simp; done) | (simp; omega))); intro g2 cap2 w2 hown2 hgrow2 hat2 hlt2; have hat2n := hat2.imp (fun h => Option.some.inj h) id; (try simp at hat2n); have hk9 := xgA (k5 (G := (wA.heap.size + 1)) (o := o) (s := .slice a1 n1 c1) (m := m1) (x := x1') (k := .slice a2 n2 cc2) (by (first | (simp [go_sem]; done) | (refine xaa.cell (a := w1) (S := fun _ => False) ?_ ?_ id; (focus (exact KI.out)); (focus (refine xaq hgrow1 ?_ ?_ ?_; (focus (first | omega | (simp; done) | (simp; omega))); (focus (intro h; have h9 := Option.some.inj h; first | omega | (simp at h9; done) | (simp at h9; omega))); (focus (simp [go_sem]; done))))))) (by (first | (simp [go_sem]; done) | (refine xaa.cell (a := w1) (S := fun _ => False) ?_ ?_ id; (focus (exact KI.out)); (focus (refine xaq hgrow1 ?_ ?_ ?_; (focus (first | omega | (simp; done) | (simp; omega))); (focus (intro h; have h9 := Option.some.inj h; first | omega | (simp at h9; done) | (simp at h9; omega))); (focus (simp [go_sem]; done))))))) (by (first | (simp [go_sem]; done) | (refine xaa.cell (a := w1) (S := fun _ => False) ?_ ?_ id; (focus (exact KI.out)); (focus (refine xaq hgrow1 ?_ ?_ ?_; (focus (first | omega | (simp; done) | (simp; omega))); (focus (intro h; have h9 := Option.some.inj h; first | omega | (simp at h9; done) | (simp at h9; omega))); (focus (simp [go_sem]; done))))))) (by (first | (simp [go_sem]; done) | (refine xaa.cell (a := w1) (S := fun _ => False) ?_ ?_ id; (focus (exact KI.out)); (focus (refine xaq hgrow1 ?_ ?_ ?_; (focus (first | omega | (simp; done) | (simp; omega))); (focus (intro h; have h9 := Option.some.inj h; first | omega | (simp at h9; done) | (simp at h9; omega))); (focus (simp [go_sem]; done))))))) (by (first | (simp [go_sem]; done) | (refine xaa.cell (a := w1) (S := fun _ => False) ?_ ?_ id; (focus (exact KI.out)); (focus (refine xaq hgrow1 ?_ ?_ ?_; (focus (first | omega | (simp; done) | (simp; omega))); (focus (intro h; have h9 := Option.some.inj h; first | omega | (simp at h9; done) | (simp at h9; omega))); (focus (simp [go_sem]; done)))))))) hgrow2 (by intro h; have h9 := Option.some.inj h; first | omega | (simp at h9; done) | (simp at h9; omega)); have k02 : xaa (fun _ => False) wA w2 := xaa.grown (KI.out) hgrow2 (fun b hb => Or.inr (by have h := Option.some.inj hb; rw [← h]; first | exact Nat.le_refl _ | omega | (simp; done) | (simp; omega))); have i02 : KI (fun _ => False) wA w2 := ⟨k02⟩; have HF := xmA (xaF.count hD HR.out KA k02 hm64 hx64 (rfl) (rfl) hown2 hk9 (by omega) (by omega)); clear hown2 hgrow2 hat2 hk9) | (refine step_append_lies _ rfl (.tmp 71) (.tmp 79) 50 rfl wA.heap.size 52 i0 _ 5 72 Tryz.underlying50 hi0 hz0 hz1 hz2 rfl (by decide) _ ps0.length (cellsOf 5 encN vs0) rfl ?_ _ 1 1 [.int .i64 6, .slice none 0 0, .int .i64 mm, .int .i64 xx, .slice (some ⟨wA.heap.size, 0, none⟩) 1 1] rfl rfl (xke ?_ ?_ ?_ ?_ ?_) (by simp [Value.oneCell']) (by decide) ?_ ?_ ?_ _ rfl ?_; (focus (first | exact hown1 | exact hown1.drew | exact (xac hown1 _).drew | exact xac hown1 _ | exact (xac (xac hown1 _) _).drew | exact xac (xac hown1 _) _)); (focus (first | (simp [go_sem]; done) | (refine xaa.cell (a := w1) (S := fun _ => False) ?_ ?_ id; (focus (exact KI.out)); (focus (refine xaq hgrow1 ?_ ?_ ?_; (focus (first | omega | (simp; done) | (simp; omega))); (focus (intro h; have h9 := Option.some.inj h; first | omega | (simp at h9; done) | (simp at h9; omega))); (focus (simp [go_sem]; done))))))); (focus (first | (simp [go_sem]; done) | (refine xaa.cell (a := w1) (S := fun _ => False) ?_ ?_ id; (focus (exact KI.out)); (focus (refine xaq hgrow1 ?_ ?_ ?_; (focus (first | omega | (simp; done) | (simp; omega))); (focus (intro h; have h9 := Option.some.inj h; first | omega | (simp at h9; done) | (simp at h9; omega))); (focus (simp [go_sem]; done))))))); (focus (first | (simp [go_sem]; done) | (refine xaa.cell (a := w1) (S := fun _ => False) ?_ ?_ id; (focus (exact KI.out)); (focus (refine xaq hgrow1 ?_ ?_ ?_; (focus (first | omega | (simp; done) | (simp; omega))); (focus (intro h; have h9 := Option.some.inj h; first | omega | (simp at h9; done) | (simp at h9; omega))); (focus (simp [go_sem]; done))))))); (focus (first | (simp [go_sem]; done) | (refine xaa.cell (a := w1) (S := fun _ => False) ?_ ?_ id; (focus (exact KI.out)); (focus (refine xaq hgrow1 ?_ ?_ ?_; (focus (first | omega | (simp; done) | (simp; omega))); (focus (intro h; have h9 := Option.some.inj h; first | omega | (simp at h9; done) | (simp at h9; omega))); (focus (simp [go_sem]; done))))))); (focus (first | (simp [go_sem]; done) | (refine xaa.cell (a := w1) (S := fun _ => False) ?_ ?_ id; (focus (exact KI.out)); (focus (refine xaq hgrow1 ?_ ?_ ?_; (focus (first | omega | (simp; done) | (simp; omega))); (focus (intro h; have h9 := Option.some.inj h; first | omega | (simp at h9; done) | (simp at h9; omega))); (focus (simp [go_sem]; done))))))); (focus (unfold maxLen; omega)); (focus omega); (focus (first | omega | (simp; done) | (simp; omega))); intro g2 cap2 w2 hown2 hgrow2 hat2 hlt2; have hat2n := hat2.imp (fun h => Option.some.inj h) id; (try simp at hat2n); have hk9 := xgA (k5 (G := wA.heap.size) (o := o) (s := .slice a1 n1 c1) (m := m1) (x := x1') (k := .slice a2 n2 cc2) (by (first | (simp [go_sem]; done) | (refine xaa.cell (a := w1) (S := fun _ => False) ?_ ?_ id; (focus (exact KI.out)); (focus (refine xaq hgrow1 ?_ ?_ ?_; (focus (first | omega | (simp; done) | (simp; omega))); (focus (intro h; have h9 := Option.some.inj h; first | omega | (simp at h9; done) | (simp at h9; omega))); (focus (simp [go_sem]; done))))))) (by (first | (simp [go_sem]; done) | (refine xaa.cell (a := w1) (S := fun _ => False) ?_ ?_ id; (focus (exact KI.out)); (focus (refine xaq hgrow1 ?_ ?_ ?_; (focus (first | omega | (simp; done) | (simp; omega))); (focus (intro h; have h9 := Option.some.inj h; first | omega | (simp at h9; done) | (simp at h9; omega))); (focus (simp [go_sem]; done))))))) (by (first | (simp [go_sem]; done) | (refine xaa.cell (a := w1) (S := fun _ => False) ?_ ?_ id; (focus (exact KI.out)); (focus (refine xaq hgrow1 ?_ ?_ ?_; (focus (first | omega | (simp; done) | (simp; omega))); (focus (intro h; have h9 := Option.some.inj h; first | omega | (simp at h9; done) | (simp at h9; omega))); (focus (simp [go_sem]; done))))))) (by (first | (simp [go_sem]; done) | (refine xaa.cell (a := w1) (S := fun _ => False) ?_ ?_ id; (focus (exact KI.out)); (focus (refine xaq hgrow1 ?_ ?_ ?_; (focus (first | omega | (simp; done) | (simp; omega))); (focus (intro h; have h9 := Option.some.inj h; first | omega | (simp at h9; done) | (simp at h9; omega))); (focus (simp [go_sem]; done))))))) (by (first | (simp [go_sem]; done) | (refine xaa.cell (a := w1) (S := fun _ => False) ?_ ?_ id; (focus (exact KI.out)); (focus (refine xaq hgrow1 ?_ ?_ ?_; (focus (first | omega | (simp; done) | (simp; omega))); (focus (intro h; have h9 := Option.some.inj h; first | omega | (simp at h9; done) | (simp at h9; omega))); (focus (simp [go_sem]; done)))))))) hgrow2 (by intro h; have h9 := Option.some.inj h; first | omega | (simp at h9; done) | (simp at h9; omega)); have k02 : xaa (fun _ => False) wA w2 := xaa.grown (KI.out) hgrow2 (fun b hb => Or.inr (by have h := Option.some.inj hb; rw [← h]; first | exact Nat.le_refl _ | omega | (simp; done) | (simp; omega))); have i02 : KI (fun _ => False) wA w2 := ⟨k02⟩; have HF := xmA (xaF.count hD HR.out KA k02 hm64 hx64 (rfl) (rfl) hown2 hk9 (by omega) (by omega)); clear hown2 hgrow2 hat2 hk9)))
         all_goals go_wp2_with fail
         all_goals go_roundw
         all_goals first
          | exact xcf (j := i + 1) (lo := false) HF.out (by omega) (by simp) (by omega) (by first | (simp; done) | (simp; omega)) (by go_num) rfl
          | (simp [intOf]; done)
          | (simp [intOf]; omega)
       obtain rfl : ps0 = [] := List.length_eq_zero_iff.1 (by omega)
       obtain rfl : vs0 = [] := List.length_eq_zero_iff.1 hv0
       clear hpos
       have HRx : Hid (xaF w wr D (.slice ava al.length avc) al us (.slice (some ⟨g, 0, none⟩) 1 pvc) [tn] [⟨o, .slice a1 n1 c1, m1, x1', .slice a2 n2 cc2⟩]) := xmA HR.out
       have hcell : ∀ j u, (encN ⟨o, .slice a1 n1 c1, m1, x1', .slice a2 n2 cc2⟩ j) = u → j < 5 → wr.cell? ⟨g, j, none⟩ = some u := fun j u hu hj => by
        have h := HRx.out.pown.cellAt j (by simp; omega)
        have h2 := xaz 5 encN [⟨o, .slice a1 n1 c1, m1, x1', .slice a2 n2 cc2⟩] 0 _ rfl j hj
        rw [h, ← hu, ← h2]; simp
       have y0 := hcell 0 _ rfl (by omega)
       have y1 := hcell 1 _ rfl (by omega)
       have y2 := hcell 2 _ rfl (by omega)
       have y3 := hcell 3 _ rfl (by omega)
       have y4 := hcell 4 _ rfl (by omega)
       simp only [encN, if_true, Nat.reduceEqDiff, if_false] at y0 y1 y2 y3 y4
       have hlp1 : 1 ≤ i := by simpa using hlp
       have hlen : (([] : List T) ++ [tn]).length = 1 := rfl
       rw [hlen]
       clear hTn hcell hvn' hvl hgv hlp HTn HR hlen hv0
       have hgl : g < wr.heap.size := by have := xax HRx.out.pown g (by rfl); exact this
       go_wp2_with fail
       obtain ⟨wA, hwA⟩ : ∃ W, (wr.alloc (.cells #[.int .i64 2, .int .i64 r, .slice sd se sf, .int .i64 mm, .int .i64 xx] 116)).alloc (.cells #[.int .i64 o, .slice a1 n1 c1, .int .i64 m1, .int .i64 x1', .slice a2 n2 cc2] 52) = W := ⟨_, rfl⟩
       have KA : xaa (fun _ => False) wr wA := by rw [← hwA]; exact ((xaa.refl _ _).alloc _).alloc _
       have p3 : wA.cell? ⟨wr.heap.size, 3, none⟩ = some (.int .i64 mm) := by rw [← hwA]; exact xaj (by simp [go_sem]) _
       have p4 : wA.cell? ⟨wr.heap.size, 4, none⟩ = some (.int .i64 xx) := by rw [← hwA]; exact xaj (by simp [go_sem]) _
       have k0 : wA.cell? ⟨wr.heap.size + 1, 0, none⟩ = some (.int .i64 o) := by rw [← hwA]; simp [go_sem]
       have k1 : wA.cell? ⟨wr.heap.size + 1, 1, none⟩ = some (.slice a1 n1 c1) := by rw [← hwA]; simp [go_sem]
       have k2 : wA.cell? ⟨wr.heap.size + 1, 2, none⟩ = some (.int .i64 m1) := by rw [← hwA]; simp [go_sem]
       have k3 : wA.cell? ⟨wr.heap.size + 1, 3, none⟩ = some (.int .i64 x1') := by rw [← hwA]; simp [go_sem]
       have k4 : wA.cell? ⟨wr.heap.size + 1, 4, none⟩ = some (.slice a2 n2 cc2) := by rw [← hwA]; simp [go_sem]
       have hsA : wr.heap.size + 2 ≤ wA.heap.size := by rw [← hwA]; simp
       rw [hwA]
       have HS : Hid (∀ w', xaa (fun _ => False) wA w' → (w'.cell? ⟨wr.heap.size, 3, none⟩ = some (.int .i64 mm) ∧ w'.cell? ⟨wr.heap.size, 4, none⟩ = some (.int .i64 xx) ∧ w'.cell? ⟨wr.heap.size + 1, 0, none⟩ = some (.int .i64 o) ∧ w'.cell? ⟨wr.heap.size + 1, 1, none⟩ = some (.slice a1 n1 c1) ∧ w'.cell? ⟨wr.heap.size + 1, 2, none⟩ = some (.int .i64 m1) ∧ w'.cell? ⟨wr.heap.size + 1, 3, none⟩ = some (.int .i64 x1') ∧ w'.cell? ⟨wr.heap.size + 1, 4, none⟩ = some (.slice a2 n2 cc2))) :=
        xmA (fun w' K => ⟨K.cell p3 id, K.cell p4 id, K.cell k0 id, K.cell k1 id, K.cell k2 id, K.cell k3 id, K.cell k4 id⟩)
       have hc1 : (0 : Int) ≤ (0 : Int) := by omega
       have hc2 : (0 : Int) ≤ (pvc : Int) := by omega
       clear p3 p4 k0 k1 k2 k3 k4 hwA
       go_region_held3 (fun w' => w'.cell? ⟨wr.heap.size, 3, none⟩ = some (.int .i64 mm) ∧ w'.cell? ⟨wr.heap.size, 4, none⟩ = some (.int .i64 xx) ∧ w'.cell? ⟨wr.heap.size + 1, 0, none⟩ = some (.int .i64 o) ∧ w'.cell? ⟨wr.heap.size + 1, 1, none⟩ = some (.slice a1 n1 c1) ∧ w'.cell? ⟨wr.heap.size + 1, 2, none⟩ = some (.int .i64 m1) ∧ w'.cell? ⟨wr.heap.size + 1, 3, none⟩ = some (.int .i64 x1') ∧ w'.cell? ⟨wr.heap.size + 1, 4, none⟩ = some (.slice a2 n2 cc2))
        (exact HS.out _ (KI.out)) ((first | (refine step_append_lies _ rfl (.tmp 71) (.tmp 79) 50 rfl wA.heap.size 52 i0 _ 5 72 Tryz.underlying50 hi0 hz0 hz1 hz2 rfl (by decide) _ 0 [] rfl ?_ _ 1 1 [.int .i64 6, .slice none 0 0, .int .i64 mm, .int .i64 xx, .slice (some ⟨(wA.heap.size + 1), 0, none⟩) 1 1] rfl rfl (xke ?_ ?_ ?_ ?_ ?_) (by simp [Value.oneCell']) (by decide) ?_ ?_ ?_ _ rfl ?_; (focus (first | exact (xbm (by first | (simp; done) | (simp; omega)) (by first | (simp; done) | (simp; omega))).drew | exact (xac (xbm (by first | (simp; done) | (simp; omega)) (by first | (simp; done) | (simp; omega))) _).drew | exact (xac (xac (xbm (by first | (simp; done) | (simp; omega)) (by first | (simp; done) | (simp; omega))) _) _).drew)); (focus (simp [go_sem]; done)); (focus (simp [go_sem]; done)); (focus (simp [go_sem]; done)); (focus (simp [go_sem]; done)); (focus (simp [go_sem]; done)); (focus (unfold maxLen; omega)); (focus omega); (focus (first | omega | (simp; done) | (simp; omega))); intro g2 cap2 w2 hown2 hgrow2 hat2 hlt2; have hat2n := hat2.imp (fun h => Option.some.inj h) id; (try simp at hat2n); have hk9 := xgA (k5 (G := (wA.heap.size + 1)) (o := o) (s := .slice a1 n1 c1) (m := m1) (x := x1') (k := .slice a2 n2 cc2) (by (simp [go_sem]; done)) (by (simp [go_sem]; done)) (by (simp [go_sem]; done)) (by (simp [go_sem]; done)) (by (simp [go_sem]; done))) hgrow2 (by intro h; have h9 := Option.some.inj h; first | omega | (simp at h9; done) | (simp at h9; omega)); have k02 : xaa (fun _ => False) wA w2 := xaa.grown (KI.out) hgrow2 (fun b hb => Or.inr (by have h := Option.some.inj hb; rw [← h]; first | exact Nat.le_refl _ | omega | (simp; done) | (simp; omega))); have i02 : KI (fun _ => False) wA w2 := ⟨k02⟩; have HF := xmA (xaF.count (ps0 := []) (vs0 := []) hD HRx.out KA k02 hm64 hx64 (rfl) (rfl) hown2 hk9 (by omega) (by omega)); clear hown2 hgrow2 hat2 hk9) | (refine step_append_lies _ rfl (.tmp 71) (.tmp 79) 50 rfl wA.heap.size 52 i0 _ 5 72 Tryz.underlying50 hi0 hz0 hz1 hz2 rfl (by decide) _ 0 [] rfl ?_ _ 1 1 [.int .i64 6, .slice none 0 0, .int .i64 mm, .int .i64 xx, .slice (some ⟨wA.heap.size, 0, none⟩) 1 1] rfl rfl (xke ?_ ?_ ?_ ?_ ?_) (by simp [Value.oneCell']) (by decide) ?_ ?_ ?_ _ rfl ?_; (focus (first | exact (xbm (by first | (simp; done) | (simp; omega)) (by first | (simp; done) | (simp; omega))).drew | exact (xac (xbm (by first | (simp; done) | (simp; omega)) (by first | (simp; done) | (simp; omega))) _).drew | exact (xac (xac (xbm (by first | (simp; done) | (simp; omega)) (by first | (simp; done) | (simp; omega))) _) _).drew)); (focus (simp [go_sem]; done)); (focus (simp [go_sem]; done)); (focus (simp [go_sem]; done)); (focus (simp [go_sem]; done)); (focus (simp [go_sem]; done)); (focus (unfold maxLen; omega)); (focus omega); (focus (first | omega | (simp; done) | (simp; omega))); intro g2 cap2 w2 hown2 hgrow2 hat2 hlt2; have hat2n := hat2.imp (fun h => Option.some.inj h) id; (try simp at hat2n); have hk9 := xgA (k5 (G := wA.heap.size) (o := o) (s := .slice a1 n1 c1) (m := m1) (x := x1') (k := .slice a2 n2 cc2) (by (simp [go_sem]; done)) (by (simp [go_sem]; done)) (by (simp [go_sem]; done)) (by (simp [go_sem]; done)) (by (simp [go_sem]; done))) hgrow2 (by intro h; have h9 := Option.some.inj h; first | omega | (simp at h9; done) | (simp at h9; omega)); have k02 : xaa (fun _ => False) wA w2 := xaa.grown (KI.out) hgrow2 (fun b hb => Or.inr (by have h := Option.some.inj hb; rw [← h]; first | exact Nat.le_refl _ | omega | (simp; done) | (simp; omega))); have i02 : KI (fun _ => False) wA w2 := ⟨k02⟩; have HF := xmA (xaF.count (ps0 := []) (vs0 := []) hD HRx.out KA k02 hm64 hx64 (rfl) (rfl) hown2 hk9 (by omega) (by omega)); clear hown2 hgrow2 hat2 hk9)))
       all_goals go_wp2_with fail
       all_goals go_roundw
       all_goals first
        | exact xcf (j := i + 1) (lo := false) HF.out (by omega) (by simp) (by omega) (by first | (simp; done) | (simp; omega)) (by go_num) rfl
        | (simp [intOf]; done)
        | (simp [intOf]; omega)
    by_cases hc : r = 124
    · subst hc
      go_wp2_with fail
      refine (HJ.out _ (xaa.refl _ _)).mono ?_
      rintro e w2 ⟨v, rfl, hv, k2⟩
      obtain ⟨o, a1, n1, c1, mm2, xx2, a2, n2, cc2, rfl⟩ := NV.form hv
      have HV := xmA hv
      have HR2 := xmA (HR.out.keepF k2)
      have hs2 := k2.size
      clear hv k2
      unfold NV.val
      go_wp2_with (at_builtin; refine wpList_append_own_at _ rfl (.tmp 45) (.tmp 48) 50 rfl (w.heap.size + 1) 52 i0 _ 5 72 Tryz.underlying50 hi0 hz0 hz1 hz2 rfl (by decide) _ _ _ rfl (xac HR2.out.aown _) ⟨w2.heap.size, 0, none⟩ 1 1 [.int .i64 o, .slice a1 n1 c1, .int .i64 mm2, .int .i64 xx2, .slice a2 n2 cc2] rfl rfl (by exact xak _ [_, _, _, _, _] _) (by simp [Value.oneCell']) (by unfold maxLen; omega) (by omega) (by first | omega | (simp; omega)) ?_)
      intro v' w9 hown' hgrow _ hloc
      have HN := xmA (xaF.symm (xaF.push hD (xaF.symm (xaF.dropP HR2.out)) ((xaa.refl _ _).alloc _) (HV.out.keepsTo ((xaa.refl (fun _ => False) _).alloc _) (fun _ _ => id) (fun b hb => ⟨hb.1.imp id (fun x => ⟨x.1, by simp; omega⟩), by simp [Value.ownBlock], hb.2.1⟩)) hown' hgrow hloc (by simp)))
      clear hown' hgrow hloc
      go_wp2_with fail
      go_roundw
      case rel => exact xcf (j := i + 1) (lo := false) HN.out (by omega) (by simp) (by simp; omega) (by simp) (by go_num) rfl
      case measure => first | (simp [intOf]; done) | (simp [intOf]; omega)
    have g1 : (r == 124) = false := beq_eq_false_iff_ne.2 hc
    by_cases hc94 : r = 94
    · subst hc94
      go_wp2_with (at_builtin; refine wpList_append_own_at _ rfl (.tmp 119) (.tmp 121) 50 rfl (w.heap.size + 1) 52 i0 _ 5 72 Tryz.underlying50 hi0 hz0 hz1 hz2 rfl (by decide) _ _ _ rfl (xac (xac HR.out.pown _) _) ⟨wr.heap.size + 1, 0, none⟩ 1 1 [.int .i64 2, .slice none 0 0, .int .i64 0, .int .i64 0, .slice none 0 0] rfl rfl (by exact xbJ _ _ [_, _, _, _, _] _) (by simp [Value.oneCell']) (by unfold maxLen; omega) (by omega) (by first | omega | (simp; omega)) ?_)
      intro v' w9 hown' hgrow _ hloc
      have HN := xmA (xaF.push hD HR.out (((xaa.refl _ _).alloc _).alloc _) (TAt.bare _ _ 2) hown' hgrow hloc (by simp))
      clear hown' hgrow hloc
      go_wp2_with fail
      go_roundw
      case rel => exact xcf (j := i + 1) (lo := false) HN.out (by omega) (by simp) (by omega) (by simp; omega) (by go_num) rfl
      case measure => first | (simp [intOf]; done) | (simp [intOf]; omega)
    have g2 : (r == 94) = false := beq_eq_false_iff_ne.2 hc94
    by_cases hc36 : r = 36
    · subst hc36
      go_wp2_with (at_builtin; refine wpList_append_own_at _ rfl (.tmp 125) (.tmp 127) 50 rfl (w.heap.size + 1) 52 i0 _ 5 72 Tryz.underlying50 hi0 hz0 hz1 hz2 rfl (by decide) _ _ _ rfl (xac (xac HR.out.pown _) _) ⟨wr.heap.size + 1, 0, none⟩ 1 1 [.int .i64 3, .slice none 0 0, .int .i64 0, .int .i64 0, .slice none 0 0] rfl rfl (by exact xbJ _ _ [_, _, _, _, _] _) (by simp [Value.oneCell']) (by unfold maxLen; omega) (by omega) (by first | omega | (simp; omega)) ?_)
      intro v' w9 hown' hgrow _ hloc
      have HN := xmA (xaF.push hD HR.out (((xaa.refl _ _).alloc _).alloc _) (TAt.bare _ _ 3) hown' hgrow hloc (by simp))
      clear hown' hgrow hloc
      go_wp2_with fail
      go_roundw
      case rel => exact xcf (j := i + 1) (lo := false) HN.out (by omega) (by simp) (by omega) (by simp; omega) (by go_num) rfl
      case measure => first | (simp [intOf]; done) | (simp [intOf]; omega)
    have g3 : (r == 36) = false := beq_eq_false_iff_ne.2 hc36
    by_cases hc41 : r = 41
    · subst hc41
      have hB9 := (HR.out.keep.alloc (.cells #[.int .i64 1, .int .i64 41, .slice sd se sf, .int .i64 mm, .int .i64 xx] 116)).heap (heap_alloc_new w _) id
      go_wp2_with (refine xap rfl 52 (.tmp 4) (.tmp 131) rfl rfl w.heap.size _ rfl rfl 52 _ hB9 xbd rfl (by simp [Value.oneCell']) ?_)
      intro w6 h6 k6
      obtain ⟨r0, r1, r2, r3, r4⟩ := five h6
      go_wp2_with fail
      refine bodyPost_ret (by simp [results, Tryz.results60, go_sem, r0, r1, r2, r3, r4]; try rfl) rfl ?_
      exact xcY (v := ⟨0, .slice none 0 0, 0, 0, .slice none 0 0⟩) hD (HR.out.keep.alloc (.cells #[.int .i64 1, .int .i64 41, .slice sd se sf, .int .i64 mm, .int .i64 xx] 116)) (TAt.zero _ _) k6
    have g4 : (r == 41) = false := beq_eq_false_iff_ne.2 hc41
    have HCL := xmA (fun W (K : xaa (fun _ => False) wr W) => xmd D _ tvs i W (HK.out.keep K) (by omega) hil (fun x hx => by obtain rfl := Option.some.inj (HX.out.symm.trans hx); exact hc41))
    go_wp2_with fail
    refine (HCL.out _ ((xaa.refl _ _).alloc _)).mono ?_
    rintro e w2 ⟨kk, rfl, hkk, k2⟩
    rcases hkk with rfl | ⟨c, hkc, hc1, hc2⟩
    · skip
      have hB9 := (xaa.trans (HR.out.keep.alloc _) k2).heap (heap_alloc_new w _) id
      go_wp2_with (refine xap rfl 52 (.tmp 4) (.tmp 97) rfl rfl w.heap.size _ rfl rfl 52 _ hB9 xbd rfl (by simp [Value.oneCell']) ?_)
      intro w6 h6 k6
      obtain ⟨r0, r1, r2, r3, r4⟩ := five h6
      go_wp2_with fail
      refine bodyPost_ret (by simp [results, Tryz.results60, go_sem, r0, r1, r2, r3, r4]; try rfl) rfl ?_
      exact xcY (v := ⟨0, .slice none 0 0, 0, 0, .slice none 0 0⟩) hD (xaa.trans (HR.out.keep.alloc _) k2) (TAt.zero _ _) k6
    obtain ⟨m1, rfl⟩ : ∃ m1, c = i + 1 + m1 := ⟨c - (i + 1), by omega⟩
    obtain rfl : kk = (i : Int) + 1 + (m1 : Int) := by omega
    have K2 := xmA (xaa.trans ((xaa.refl _ _).alloc _) k2)
    have HTr : Hid (∀ (W : World) (K : xaa (fun _ => False) wr W), Calls Tryz.prog 60 #[.slice (some ⟨b, off + (i + 1) * 5, none⟩) m1 (cap - (i + 1)), .int .i64 (d + 1)] W (xmn W D)) := xmA (fun W K => by
     have hpt := (HK.out.keep K).part (i + 1) m1 (by omega)
     exact IH.out (d + 1) D _ _ W (by omega) (by omega) (by omega) hpt.1 (fun b hb => by have := K.size; have := hD b hb; omega) (by rw [hpt.2]; omega))
    have hJ1 : (i : Int) + 1 ≤ (i : Int) + 1 + (m1 : Int) := by omega
    have hJ2 : (i : Int) + 1 + (m1 : Int) ≤ (cap : Int) := by have := HCP.out; omega
    have hJ3 : decide ((i : Int) + 1 + (m1 : Int) < 0) = false := by simp; omega
    have hJ4 : ¬ cap = i + 1 := by have := HCP.out; omega
    clear hkc k2
    go_wp2_with fail
    refine (HTr.out _ K2.out).mono ?_
    rintro e w3 ⟨v, t2, ok, rfl, hv, k3⟩
    obtain ⟨o, a1, n1, c1, mm2, xx2, a2, n2, cc2, rfl⟩ := NV.form hv
    have HV := xmA hv
    have K3 := xmA (K2.out.trans k3)
    have HR3 := xmA (HR.out.keepF K3.out)
    have hs2 := K2.out.size
    have hs3 := k3.size
    clear hv k3
    unfold NV.val
    cases ok with
    | false =>
     have hB9 := (xaa.alloc (HR.out.keep.trans K3.out) (.cells #[.int .i64 o, .slice a1 n1 c1, .int .i64 mm2, .int .i64 xx2, .slice a2 n2 cc2] 52)).heap (heap_alloc_new w _) id
     go_wp2_with (refine xap rfl 52 (.tmp 4) (.tmp 111) rfl rfl w.heap.size _ rfl rfl 52 _ hB9 xbd rfl (by simp [Value.oneCell']) ?_)
     intro w6 h6 k6
     obtain ⟨r0, r1, r2, r3, r4⟩ := five h6
     go_wp2_with fail
     refine bodyPost_ret (by simp [results, Tryz.results60, go_sem, r0, r1, r2, r3, r4]; try rfl) rfl ?_
     exact xcY (v := ⟨0, .slice none 0 0, 0, 0, .slice none 0 0⟩) hD (xaa.alloc (HR.out.keep.trans K3.out) (.cells #[.int .i64 o, .slice a1 n1 c1, .int .i64 mm2, .int .i64 xx2, .slice a2 n2 cc2] 52)) (TAt.zero _ _) k6
    | true =>
     go_wp2_with (at_builtin; refine wpList_append_own_at _ rfl (.tmp 112) (.tmp 114) 50 rfl (w.heap.size + 1) 52 i0 _ 5 72 Tryz.underlying50 hi0 hz0 hz1 hz2 rfl (by decide) _ _ _ rfl (xac (xac HR3.out.pown _) _) ⟨w3.heap.size + 1, 0, none⟩ 1 1 [.int .i64 o, .slice a1 n1 c1, .int .i64 mm2, .int .i64 xx2, .slice a2 n2 cc2] rfl rfl (by exact xbJ _ _ [_, _, _, _, _] _) (by simp [Value.oneCell']) (by unfold maxLen; omega) (by omega) (by first | omega | (simp; omega)) ?_)
     intro v' w9 hown' hgrow _ hloc
     have HN := xmA (xaF.push hD HR3.out (((xaa.refl _ _).alloc _).alloc _) (HV.out.keepsTo (((xaa.refl (fun _ => False) _).alloc _).alloc _) (fun _ _ => id) (fun b hb => by rcases hb with h | ⟨h1, h2⟩; exact HR3.out.old hD h _; exact HR.out.new (by omega) (by simp; omega))) hown' hgrow hloc (by simp))
     clear hown' hgrow hloc
     go_wp2_with fail
     go_roundw
     case rel => exact xcf (j := i + 1 + m1 + 1) HN.out (by omega) (by simp) (by omega) (by simp; omega) (by go_num) rfl
     case measure => first | (simp [intOf]; done) | (simp [intOf]; omega)
  by_cases hie2 : i = tvs.length
  · subst hie2
    have hid : decide ((tvs.length : Int) ≤ (tvs.length : Int)) = true := by simp
    have hie : ((tvs.length : Int) == (tvs.length : Int)) = true := by simp
    go_wp2_with fail
    refine (HJ.out _ (xaa.refl _ _)).mono ?_
    rintro e w2 ⟨v, rfl, hv, k2⟩
    obtain ⟨o, a1, n1, c1, mm2, xx2, a2, n2, cc2, rfl⟩ := NV.form hv
    have HV := xmA hv
    have HR2 := xmA (HR.out.keepF k2)
    have hs2 := k2.size
    clear hv k2
    unfold NV.val
    go_wp2_with (at_builtin; refine wpList_append_own_at _ rfl (.tmp 45) (.tmp 48) 50 rfl (w.heap.size + 1) 52 i0 _ 5 72 Tryz.underlying50 hi0 hz0 hz1 hz2 rfl (by decide) _ _ _ rfl (xac HR2.out.aown _) ⟨w2.heap.size, 0, none⟩ 1 1 [.int .i64 o, .slice a1 n1 c1, .int .i64 mm2, .int .i64 xx2, .slice a2 n2 cc2] rfl rfl (by exact xak _ [_, _, _, _, _] _) (by simp [Value.oneCell']) (by unfold maxLen; omega) (by omega) (by first | omega | (simp; omega)) ?_)
    intro v' w9 hown' hgrow _ hloc
    have HN := xmA (xaF.symm (xaF.push hD (xaF.symm (xaF.dropP HR2.out)) ((xaa.refl _ _).alloc _) (HV.out.keepsTo ((xaa.refl (fun _ => False) _).alloc _) (fun _ _ => id) (fun b hb => ⟨hb.1.imp id (fun x => ⟨x.1, by simp; omega⟩), by simp [Value.ownBlock], hb.2.1⟩)) hown' hgrow hloc (by simp)))
    clear hown' hgrow hloc
    go_wp2_with fail
    go_roundw
    case rel => exact xcf (j := tvs.length + 1) (lo := false) HN.out (by omega) (by simp) (by simp; omega) (by simp) (by go_num) rfl
    case measure => first | (simp [intOf]; done) | (simp [intOf]; omega)
  obtain rfl : i = tvs.length + 1 := by omega
  have hid : decide ((tvs.length : Int) + 1 ≤ (tvs.length : Int)) = false := by first | (simp; done) | (simp; omega)
  have hid2 : decide (((tvs.length + 1 : Nat) : Int) ≤ (tvs.length : Int)) = false := by first | (simp; done) | (simp; omega)
  have HJ5 := xmA (fun (W : World) (K : xaa (fun _ => False) wr W) => xhR 5 (.slice ava al.length avc) us al (fun b => D b ∨ w.heap.size < b ∧ b < wr.heap.size) W ((HR.out.symm.keepF K).slofP (by omega)) (HR.out.akids.keepsTo K (fun _ _ => id) (fun b hb => hb.1)) (fun b hb => Or.inr ⟨by have := xab HR.out.aown b hb; omega, xax HR.out.aown b hb⟩))
  go_wp2_with fail
  refine (HJ5.out _ (xaa.refl _ _)).mono ?_
  rintro e w2 ⟨v, rfl, hv, k2⟩
  obtain ⟨o, a1, n1, c1, mm2, xx2, a2, n2, cc2, rfl⟩ := NV.form hv
  have HV := xmA hv
  have K2 := xmA (HR.out.keep.trans k2)
  have hs2 := k2.size
  clear hv k2
  unfold NV.val
  have hB9 := (K2.out).heap (heap_alloc_new w _) id
  go_wp2_with (refine xap rfl 52 (.tmp 4) (.tmp 133) rfl rfl w.heap.size _ rfl rfl 52 _ hB9 xbd rfl (by simp [Value.oneCell']) ?_)
  intro w6 h6 k6
  obtain ⟨r0, r1, r2, r3, r4⟩ := five h6
  go_wp2_with fail
  refine bodyPost_ret (by simp [results, Tryz.results60, go_sem, r0, r1, r2, r3, r4]; try rfl) rfl ?_
  exact xcY (v := ⟨o, .slice a1 n1 c1, mm2, xx2, .slice a2 n2 cc2⟩) hD (K2.out) (HV.out.keepsTo (xaa.refl (fun _ => False) _) (fun _ _ => id) (fun b hb => hb.imp id (fun h => by omega))) k6
end Go.Proofs.YtjahiihmoglpfaaGreatDoor
