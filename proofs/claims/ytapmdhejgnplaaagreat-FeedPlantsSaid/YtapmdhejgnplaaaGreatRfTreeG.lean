/-
  The document's Tree.
-/
import Derived.Test.YtapmdhejgnplaaaGreatMg14
import Derived.BigRegion
import Derived.Deep.RegionHeld3
import Derived.Deep.AppendLies
namespace Go.Proofs.YtapmdhejgnplaaaGreat
open Go.RowKit Go.Proofs.Tryz
set_option linter.unusedVariables false
set_option linter.unusedSimpArgs false
set_option maxRecDepth 100000
set_option maxHeartbeats 16000000
theorem xbq {w wX : World} (K : KF (w.alloc (.cells #[.int .i64 0, .slice none 0 0, .int .i64 0, .int .i64 0, .slice none 0 0] 73)) wX) :
 (wX.cell? ⟨w.heap.size, 0, none⟩ = some (.int .i64 0) /\ wX.cell? ⟨w.heap.size, 1, none⟩ = some (.slice none 0 0) /\ wX.cell? ⟨w.heap.size, 2, none⟩ = some (.int .i64 0) /\ wX.cell? ⟨w.heap.size, 3, none⟩ = some (.int .i64 0) /\ wX.cell? ⟨w.heap.size, 4, none⟩ = some (.slice none 0 0)) /\
 (wX.frozen? ⟨w.heap.size, 0, none⟩ = false /\ wX.frozen? ⟨w.heap.size, 1, none⟩ = false /\ wX.frozen? ⟨w.heap.size, 2, none⟩ = false /\ wX.frozen? ⟨w.heap.size, 3, none⟩ = false /\ wX.frozen? ⟨w.heap.size, 4, none⟩ = false) :=
 ⟨⟨K.cell (by simp [go_sem]) id, K.cell (by simp [go_sem]) id, K.cell (by simp [go_sem]) id, K.cell (by simp [go_sem]) id, K.cell (by simp [go_sem]) id⟩,
  K.frozen (by simp [go_sem]) (by simp) id, K.frozen (by simp [go_sem]) (by simp) id, K.frozen (by simp [go_sem]) (by simp) id, K.frozen (by simp [go_sem]) (by simp) id, K.frozen (by simp [go_sem]) (by simp) id⟩
theorem xdf {w wX wE : World} {D : Nat -> Prop} (K : KF (w.alloc (.cells #[.int .i64 0, .slice none 0 0, .int .i64 0, .int .i64 0, .slice none 0 0] 73)) wX)
 (kE : xaa (fun b => b = w.heap.size) wX wE) : xkz w D none (.returned (.tuple #[NV.val ⟨0, .slice none 0 0, 0, 0, .slice none 0 0⟩, .bool false])) wE :=
 ⟨rfl, (xaa.trans (KI.out) K).trans2 kE (fun b hb e => by omega)⟩
theorem xkJ {w wX wE : World} {D : Nat -> Prop} {v : NV} {t : T} (hD : ∀ b, D b -> b < w.heap.size) (K : KF (w.alloc (.cells #[.int .i64 0, .slice none 0 0, .int .i64 0, .int .i64 0, .slice none 0 0] 73)) wX)
 (hT : TAt wX (fun b => D b \/ w.heap.size < b /\ b < wX.heap.size) v t) (kE : xaa (fun b => b = w.heap.size) wX wE) : xkz w D (some t) (.returned (.tuple #[v.val, .bool true])) wE := by
 have h1 := K.size
 have h2 := kE.size
 simp at h1
 exact ⟨v, rfl, hT.keepsTo kE (fun b hb e => hb.elim (fun h => by have := hD b h; omega) (fun h => by omega)) (fun b hb => hb.imp id (fun h => by omega)), (xaa.trans (KI.out) K).trans2 kE (fun b hb e => by omega)⟩
theorem xkK (d : Int) (D : Nat -> Prop) (v : Value) (tvs : List TV) (ts : List Tok) (w : World) (h : KsAt w D v tvs ts) (hd : 10 < d) (hd2 : d <= 100) : Calls prog 58 #[v, .int .i64 d] w fun e w' => xkz w D none e w' := by
 obtain ⟨a, cap, rfl⟩ := h.form
 have g : decide (10 < d) = true := by simpa using hd
 clear h
 go_enter func58, ntmps58
 go_wp2_with fail
 refine bodyPost_ret (by simp [results, results58, go_sem]; try rfl) rfl ?_
 exact ⟨rfl, (xaa.refl _ _).alloc _⟩
theorem xkI : ∀ (n : Nat) (d : Int) (D : Nat -> Prop) (v : Value) (tvs : List TV) (ts : List Tok) (w : World), 0 <= d -> d <= 10 -> KsAt w D v tvs ts -> (∀ b, D b -> b < w.heap.size) -> ts.length < n -> ts.length <= 200 -> (∀ t ∈ ts, t.ok) ->
 Calls prog 58 #[v, .int .i64 d] w fun e w' => xkz w D (xaG n d ts [] [] false) e w' := by
 intro n
 induction n using Nat.strongRecOn with
 | _ n ih =>
 intro d D v tvs ts w hd0 hd hks hD hn hl hok
 obtain ⟨a, cap, rfl⟩ := hks.form
 obtain ⟨i0, hi0, hz0, hz1, hz2⟩ := info_parts xeS
 have HCP : Hid (ts.length <= cap) := xa (by
  obtain ⟨a', c', e, h1, _⟩ := hks.row
  obtain ⟨_, h3, h4⟩ := Value.slice.inj e
  omega)
 have HH := xa hks
 have IH := xa ih
 have HOK := xa hok
 obtain ⟨G, hG⟩ : ∃ G, xaG n d ts [] [] false = G := ⟨_, rfl⟩
 have HG := xa hG
 rw [hG]
 clear hG hks ih hok
 have gd : decide (10 < d) = false := by simpa using hd
 go_enter func58, ntmps58
 go_wp2_with fail
 go_loopw [6, 7, 8, 9] (fun av pv lov iv wr => TrR G n d ts D w av pv lov iv wr) (fun _ _ _ iv _ => ts.length + 2 - (intOf iv).toNat)
 case atStart => exact ⟨n, 0, [], [], [], [], false, rfl, rfl, xaJ.start D (xaa.refl _ _), by simp, by simp, by simp, Nat.le_refl _, Or.inl ⟨by omega, by omega, HG.out⟩⟩
 case round =>
  obtain ⟨mx0, i, al, us, ps, vs, lo, rfl, rfl, hR, hlo, hla, hlp, hmn, hst⟩ := hrel
  have hsz := hR.size
  have HR := xa hR
  obtain ⟨ava, avc, rfl⟩ := xad hR.aown
  obtain ⟨pva, pvc, rfl⟩ := xad hR.pown
  have HK := xa (HH.out.keep (xaa.trans ((xaa.refl _ _).alloc _) hR.keep))
  have Hlo := xa hlo
  clear hR hlo
  rcases hst with ⟨hi, hmi, hg⟩ | ⟨rfl, hg⟩
  · obtain ⟨m, rfl⟩ : ∃ y, mx0 = y + 1 := ⟨mx0 - 1, by omega⟩
    have Hg := xa hg
    clear hg
    by_cases hil : i < ts.length
    · obtain ⟨t, ht⟩ : ∃ t, ts[i]? = some t := ⟨_, List.getElem?_eq_getElem hil⟩
      have Hg2 : Hid (xaG (m + 1) d (t :: ts.drop (i + 1)) al ps lo = G) := xa (by rw [<- xh5 ht]; exact Hg.out)
      obtain ⟨b, off, k, r, sd, se, sf, mm, xx, rfl, hk, hlt, x0, x1, x2, x3, x4⟩ := HK.out.at ht
      have HT := xa ht
      have htok := HOK.out t (List.mem_of_getElem? ht)
      have hid : decide ((i : Int) <= (ts.length : Int)) = true := by simp; omega
      have hie : ((i : Int) == (ts.length : Int)) = false := beq_eq_false_iff_ne.2 (by omega)
      have hid0 : (i : Int) < (ts.length : Int) := by omega
      clear ht
      cases t with
      | pt s =>
       obtain ⟨rfl, hs⟩ := hk
       have HS := xa hs
       clear hs
       go_wp2_with (at_builtin; refine wpList_append_own_at _ rfl (.tmp 84) (.tmp 88) 71 rfl (w.heap.size + 1) 73 i0 _ 5 72 underlying71 hi0 hz0 hz1 hz2 rfl (by decide) _ _ _ rfl (xac (xac HR.out.pown _) _) ⟨wr.heap.size + 1, 0, none⟩ 1 1 [.int .i64 1, .slice sd se sf, .int .i64 0, .int .i64 0, .slice none 0 0] rfl rfl (by exact xbM _ _ [_, _, _, _, _] _) (by simp [Value.oneCell']) ?d3 ?d4 ?d5 ?_)
       case d3 => unfold maxLen; omega
       case d4 => omega
       case d5 => first | omega | (simp; omega)
       intro v' w9 hown' hgrow _ hloc
       have HN := xa (xaJ.push hD HR.out (((xaa.refl _ _).alloc _).alloc _) (TAt.char (HS.out.1.keeps (((xaa.refl (fun _ => False) _).alloc _).alloc _) (fun _ _ => id)) (fun b hb => HR.out.old hD (HS.out.2 b hb) _)) hown' hgrow hloc (by simp))
       clear hown' hgrow hloc
       go_wp2
       go_roundw
       case rel => exact xcY HN.out hmn hmi (Nat.lt_succ_self _) (by omega) (by rw [<- xmH]; exact Hg2.out) (by simp) (by omega) (by simp; omega) (by go_num) rfl
       case measure => first | (simp [intOf]; done) | (simp [intOf]; omega)
      | ct mm0 xx0 =>
       obtain ⟨hk, hm64, hx64⟩ := hk
       obtain ⟨rfl, rfl, hsv, rfl, rfl⟩ := TV.mk.inj hk
       obtain ⟨rfl, rfl, rfl⟩ := Value.slice.inj hsv
       clear hk hsv
       cases lo with
       | false =>
        have E : Hid (G = none) := xa (by rw [<- Hg2.out, xfP]; rfl)
        clear Hg Hg2
        obtain ⟨⟨y0, y1, y2, y3, y4⟩, q0, q1, q2, q3, q4⟩ := xbq (HR.out.keep)
        have hlt9 : w.heap.size < wr.heap.size := by have := (HR.out.keep).size; simp at this; omega
        obtain ⟨wE, hWE⟩ : ∃ W, st5 wr w.heap.size (.int .i64 0) (.slice none 0 0) (.int .i64 0) (.int .i64 0) (.slice none 0 0) = W := ⟨_, rfl⟩
        obtain ⟨r0, r1, r2, r3, r4, kE⟩ := xap wr w.heap.size y0 y1 y2 y3 y4 (.int .i64 0) (.slice none 0 0) (.int .i64 0) (.int .i64 0) (.slice none 0 0)
        rw [hWE] at r0 r1 r2 r3 r4 kE
        unfold st5 at hWE
        have z0 := xaf r0 (.cells #[.int .i64 2, .int .i64 0, .slice none 0 0, .int .i64 mm, .int .i64 xx] 152)
        have z1 := xaf r1 (.cells #[.int .i64 2, .int .i64 0, .slice none 0 0, .int .i64 mm, .int .i64 xx] 152)
        have z2 := xaf r2 (.cells #[.int .i64 2, .int .i64 0, .slice none 0 0, .int .i64 mm, .int .i64 xx] 152)
        have z3 := xaf r3 (.cells #[.int .i64 2, .int .i64 0, .slice none 0 0, .int .i64 mm, .int .i64 xx] 152)
        have z4 := xaf r4 (.cells #[.int .i64 2, .int .i64 0, .slice none 0 0, .int .i64 mm, .int .i64 xx] 152)
        have HKE := xa kE
        have HWE := xa hWE
        clear kE hWE
        go_wp2_with fail
        rw [HWE.out]
        clear y0 y1 y2 y3 y4
        refine bodyPost_ret (by simp [results, results58, go_sem, z0, z1, z2, z3, z4]; try rfl) rfl ?_
        rw [E.out]
        exact xdf (HR.out.keep) (HKE.out.alloc _)
       | true =>
        obtain ⟨ps0, tn, rfl⟩ : ∃ p t, ps = p ++ [t] := by
         rcases List.eq_nil_or_concat ps with h | ⟨p, t, h⟩
         · exact absurd h (Hlo.out rfl)
         exact ⟨p, t, by rw [h, List.concat_eq_append]⟩
        have hvl := HR.out.pkids.len
        obtain ⟨vs0, vn, rfl⟩ : ∃ p t, vs = p ++ [t] := by
         rcases List.eq_nil_or_concat vs with h | ⟨p, t, h⟩
         · subst h; simp at hvl
         exact ⟨p, t, by rw [h, List.concat_eq_append]⟩
        have hv0 : vs0.length = ps0.length := by simpa using hvl
        obtain ⟨vn', hvn', hTn⟩ := HR.out.pkids.get (i := ps0.length) (t := tn) (by simp)
        obtain rfl : vn = vn' := by rw [<- hv0] at hvn'; simpa using hvn'
        obtain ⟨o, a1, n1, c1, m1, x1', a2, n2, cc2, rfl⟩ := NV.form hTn
        obtain ⟨g, gc, hgv, hg1, hg2⟩ := xbA HR.out.pown (by simp)
        obtain ⟨rfl, _, rfl⟩ := Value.slice.inj hgv
        have HTn := xa hTn
        by_cases hpos : 0 < ps0.length
        · skip
          have hcell : ∀ j u, (encN ⟨o, .slice a1 n1 c1, m1, x1', .slice a2 n2 cc2⟩ j) = u -> j < 5 -> wr.cell? ⟨g, ps0.length * 5 + j, none⟩ = some u := fun j u hu hj => by
           have h := HR.out.pown.cellAt (ps0.length * 5 + j) (by simp; omega)
           rw [h, xaI 5 encN _ ps0.length ⟨o, .slice a1 n1 c1, m1, x1', .slice a2 n2 cc2⟩ (by rw [<- hv0]; simp) j hj, hu]
          have y0 := hcell 0 _ rfl (by omega)
          have y1 := hcell 1 _ rfl (by omega)
          have y2 := hcell 2 _ rfl (by omega)
          have y3 := hcell 3 _ rfl (by omega)
          have y4 := hcell 4 _ rfl (by omega)
          simp only [Nat.add_zero] at y0
          simp only [encN, if_true, Nat.reduceEqDiff, if_false] at y0 y1 y2 y3 y4
          have HG6 : Hid (xaG m d (ts.drop (i + 1)) al (ps0 ++ [⟨6, [], mm, xx, F.ofL [tn]⟩]) false = G) := xa (by have e := Hg2.out; rw [xfP, if_pos rfl] at e; simpa [repT] using e)
          clear hTn hcell hvn' hvl hgv Hg2 Hg
          simp only [List.length_append, List.length_cons, List.length_nil, Nat.zero_add] at hlp
          have hlen : (ps0 ++ [tn]).length = ps0.length + 1 := by simp
          have HRl := HR.out
          rw [hlen] at HRl
          rw [hlen]
          have hw1 : IntKind.i64.wrap (((ps0.length + 1 : Nat) : Int) - 1) = (ps0.length : Int) := by rw [show ((ps0.length + 1 : Nat) : Int) - 1 = (ps0.length : Int) by omega]; exact IntWalk.i64_in _ (by omega)
          have hgl : g < wr.heap.size := by have := xaM HR.out.pown g (by rfl); exact this
          go_wp2_with fail
          obtain ⟨wA, hwA⟩ : ∃ W, (wr.alloc (.cells #[.int .i64 2, .int .i64 0, .slice none 0 0, .int .i64 mm, .int .i64 xx] 152)).alloc (.cells #[.int .i64 o, .slice a1 n1 c1, .int .i64 m1, .int .i64 x1', .slice a2 n2 cc2] 73) = W := ⟨_, rfl⟩
          have KA : KF wr wA := by rw [<- hwA]; exact ((xaa.refl _ _).alloc _).alloc _
          have p3 : wA.cell? ⟨wr.heap.size, 3, none⟩ = some (.int .i64 mm) := by rw [<- hwA]; exact xaf (by simp [go_sem]) _
          have p4 : wA.cell? ⟨wr.heap.size, 4, none⟩ = some (.int .i64 xx) := by rw [<- hwA]; exact xaf (by simp [go_sem]) _
          have k0 : wA.cell? ⟨wr.heap.size + 1, 0, none⟩ = some (.int .i64 o) := by rw [<- hwA]; simp [go_sem]
          have k1 : wA.cell? ⟨wr.heap.size + 1, 1, none⟩ = some (.slice a1 n1 c1) := by rw [<- hwA]; simp [go_sem]
          have k2 : wA.cell? ⟨wr.heap.size + 1, 2, none⟩ = some (.int .i64 m1) := by rw [<- hwA]; simp [go_sem]
          have k3 : wA.cell? ⟨wr.heap.size + 1, 3, none⟩ = some (.int .i64 x1') := by rw [<- hwA]; simp [go_sem]
          have k4 : wA.cell? ⟨wr.heap.size + 1, 4, none⟩ = some (.slice a2 n2 cc2) := by rw [<- hwA]; simp [go_sem]
          have hsA : wr.heap.size + 2 <= wA.heap.size := by rw [<- hwA]; simp
          rw [hwA]
          have HS : Hid (∀ w', KF wA w' -> (w'.cell? ⟨wr.heap.size, 3, none⟩ = some (.int .i64 mm) /\ w'.cell? ⟨wr.heap.size, 4, none⟩ = some (.int .i64 xx) /\ w'.cell? ⟨wr.heap.size + 1, 0, none⟩ = some (.int .i64 o) /\ w'.cell? ⟨wr.heap.size + 1, 1, none⟩ = some (.slice a1 n1 c1) /\ w'.cell? ⟨wr.heap.size + 1, 2, none⟩ = some (.int .i64 m1) /\ w'.cell? ⟨wr.heap.size + 1, 3, none⟩ = some (.int .i64 x1') /\ w'.cell? ⟨wr.heap.size + 1, 4, none⟩ = some (.slice a2 n2 cc2))) :=
           xa (fun w' K => ⟨K.cell p3 id, K.cell p4 id, K.cell k0 id, K.cell k1 id, K.cell k2 id, K.cell k3 id, K.cell k4 id⟩)
          have hc1 : (0 : Int) <= (ps0.length : Int) := by omega
          have hc2 : (ps0.length : Int) <= (pvc : Int) := by have := HRl.pvc_le; omega
          have HNW := xa (fun W (K : KF wA W) => HR.out.news0 (KA.trans K))
          have HON := xa (xlr (FAt.init HR.out.pkids).1)
          clear p3 p4 k0 k1 k2 k3 k4 hwA
          go_region_held3 (fun w' => w'.cell? ⟨wr.heap.size, 3, none⟩ = some (.int .i64 mm) /\ w'.cell? ⟨wr.heap.size, 4, none⟩ = some (.int .i64 xx) /\ w'.cell? ⟨wr.heap.size + 1, 0, none⟩ = some (.int .i64 o) /\ w'.cell? ⟨wr.heap.size + 1, 1, none⟩ = some (.slice a1 n1 c1) /\ w'.cell? ⟨wr.heap.size + 1, 2, none⟩ = some (.int .i64 m1) /\ w'.cell? ⟨wr.heap.size + 1, 3, none⟩ = some (.int .i64 x1') /\ w'.cell? ⟨wr.heap.size + 1, 4, none⟩ = some (.slice a2 n2 cc2))
           (exact HS.out _ (KI.out)) ((first | (refine step_append_lies _ rfl (.tmp 67) (.tmp 70) 71 rfl wA.heap.size 73 i0 _ 5 72 underlying71 hi0 hz0 hz1 hz2 rfl (by decide) _ 0 [] rfl ?_ ⟨g, 0, none⟩ ps0.length pvc (cellsOf 5 encN vs0) rfl ?_ ?_ ?_ ?_ ?_ ?_ ?_ _ rfl ?_; (focus (first | exact (xbm (by first | (simp; done) | (simp; omega)) (by first | (simp; done) | (simp; omega))).drew | exact (xac (xbm (by first | (simp; done) | (simp; omega)) (by first | (simp; done) | (simp; omega))) _).drew | exact (xac (xac (xbm (by first | (simp; done) | (simp; omega)) (by first | (simp; done) | (simp; omega))) _) _).drew)); (focus (rw [xai, hv0])); (focus (exact HNW.out _ (KI.out))); (focus (exact HON.out)); (focus omega); (focus (unfold maxLen; omega)); (focus omega); (focus (first | omega | (simp; done) | (simp; omega))); intro gg cap1 w1 hown1 hgrow1 hat1 hlt1; simp only [Nat.zero_add, List.nil_append] at hown1; rw [Nat.zero_add ps0.length]; have hat1n := hat1.imp (fun h => Option.some.inj h) id; (try simp at hat1n); have k01 : KF wA w1 := xaa.grown (KI.out) hgrow1 (fun b hb => Or.inr (by have h := Option.some.inj hb; rw [<- h]; first | exact Nat.le_refl _ | (simp; done) | (simp; omega))); have ik01 : KI (fun _ => False) wA w1 := ⟨k01⟩; have hsz1 := hgrow1.size; (try simp at hsz1)) | (refine step_append_lies _ rfl (.tmp 71) (.tmp 79) 71 rfl wA.heap.size 73 i0 _ 5 72 underlying71 hi0 hz0 hz1 hz2 rfl (by decide) _ ps0.length (cellsOf 5 encN vs0) rfl ?_ _ 1 1 [.int .i64 6, .slice none 0 0, .int .i64 mm, .int .i64 xx, .slice (some ⟨w1.heap.size, 0, none⟩) 1 1] rfl rfl (xlC ?_ ?_ ?_ ?_ ?_) (by simp [Value.oneCell']) (by decide) ?_ ?_ ?_ _ rfl ?_; (focus (first | exact hown1 | exact hown1.drew | exact (xac hown1 _).drew | exact xac hown1 _ | exact (xac (xac hown1 _) _).drew | exact xac (xac hown1 _) _)); (focus (first | (simp [go_sem]; done) | (refine xaa.cell (a := w1) (S := fun _ => False) ?_ ?_ id; (focus (exact KI.out)); (focus (refine xao hgrow1 ?_ ?_ ?_; (focus (first | omega | (simp; done) | (simp; omega))); (focus (intro h; have h9 := Option.some.inj h; first | omega | (simp at h9; done) | (simp at h9; omega))); (focus (simp [go_sem]; done))))))); (focus (first | (simp [go_sem]; done) | (refine xaa.cell (a := w1) (S := fun _ => False) ?_ ?_ id; (focus (exact KI.out)); (focus (refine xao hgrow1 ?_ ?_ ?_; (focus (first | omega | (simp; done) | (simp; omega))); (focus (intro h; have h9 := Option.some.inj h; first | omega | (simp at h9; done) | (simp at h9; omega))); (focus (simp [go_sem]; done))))))); (focus (first | (simp [go_sem]; done) | (refine xaa.cell (a := w1) (S := fun _ => False) ?_ ?_ id; (focus (exact KI.out)); (focus (refine xao hgrow1 ?_ ?_ ?_; (focus (first | omega | (simp; done) | (simp; omega))); (focus (intro h; have h9 := Option.some.inj h; first | omega | (simp at h9; done) | (simp at h9; omega))); (focus (simp [go_sem]; done))))))); (focus (first | (simp [go_sem]; done) | (refine xaa.cell (a := w1) (S := fun _ => False) ?_ ?_ id; (focus (exact KI.out)); (focus (refine xao hgrow1 ?_ ?_ ?_; (focus (first | omega | (simp; done) | (simp; omega))); (focus (intro h; have h9 := Option.some.inj h; first | omega | (simp at h9; done) | (simp at h9; omega))); (focus (simp [go_sem]; done))))))); (focus (first | (simp [go_sem]; done) | (refine xaa.cell (a := w1) (S := fun _ => False) ?_ ?_ id; (focus (exact KI.out)); (focus (refine xao hgrow1 ?_ ?_ ?_; (focus (first | omega | (simp; done) | (simp; omega))); (focus (intro h; have h9 := Option.some.inj h; first | omega | (simp at h9; done) | (simp at h9; omega))); (focus (simp [go_sem]; done))))))); (focus (unfold maxLen; omega)); (focus omega); (focus (first | omega | (simp; done) | (simp; omega))); intro g2 cap2 w2 hown2 hgrow2 hat2 hlt2; have hat2n := hat2.imp (fun h => Option.some.inj h) id; (try simp at hat2n); have hk9 := xg2 (k5 (G := w1.heap.size) (o := o) (s := .slice a1 n1 c1) (m := m1) (x := x1') (k := .slice a2 n2 cc2) (by (first | (simp [go_sem]; done) | (refine xaa.cell (a := w1) (S := fun _ => False) ?_ ?_ id; (focus (exact KI.out)); (focus (refine xao hgrow1 ?_ ?_ ?_; (focus (first | omega | (simp; done) | (simp; omega))); (focus (intro h; have h9 := Option.some.inj h; first | omega | (simp at h9; done) | (simp at h9; omega))); (focus (simp [go_sem]; done))))))) (by (first | (simp [go_sem]; done) | (refine xaa.cell (a := w1) (S := fun _ => False) ?_ ?_ id; (focus (exact KI.out)); (focus (refine xao hgrow1 ?_ ?_ ?_; (focus (first | omega | (simp; done) | (simp; omega))); (focus (intro h; have h9 := Option.some.inj h; first | omega | (simp at h9; done) | (simp at h9; omega))); (focus (simp [go_sem]; done))))))) (by (first | (simp [go_sem]; done) | (refine xaa.cell (a := w1) (S := fun _ => False) ?_ ?_ id; (focus (exact KI.out)); (focus (refine xao hgrow1 ?_ ?_ ?_; (focus (first | omega | (simp; done) | (simp; omega))); (focus (intro h; have h9 := Option.some.inj h; first | omega | (simp at h9; done) | (simp at h9; omega))); (focus (simp [go_sem]; done))))))) (by (first | (simp [go_sem]; done) | (refine xaa.cell (a := w1) (S := fun _ => False) ?_ ?_ id; (focus (exact KI.out)); (focus (refine xao hgrow1 ?_ ?_ ?_; (focus (first | omega | (simp; done) | (simp; omega))); (focus (intro h; have h9 := Option.some.inj h; first | omega | (simp at h9; done) | (simp at h9; omega))); (focus (simp [go_sem]; done))))))) (by (first | (simp [go_sem]; done) | (refine xaa.cell (a := w1) (S := fun _ => False) ?_ ?_ id; (focus (exact KI.out)); (focus (refine xao hgrow1 ?_ ?_ ?_; (focus (first | omega | (simp; done) | (simp; omega))); (focus (intro h; have h9 := Option.some.inj h; first | omega | (simp at h9; done) | (simp at h9; omega))); (focus (simp [go_sem]; done)))))))) hgrow2 (by intro h; have h9 := Option.some.inj h; first | omega | (simp at h9; done) | (simp at h9; omega)); have k02 : KF wA w2 := xaa.grown (KI.out) hgrow2 (fun b hb => Or.inr (by have h := Option.some.inj hb; rw [<- h]; first | exact Nat.le_refl _ | omega | (simp; done) | (simp; omega))); have ik02 : KI (fun _ => False) wA w2 := ⟨k02⟩; have HF := xa (xaJ.count hD HR.out KA k02 hm64 hx64 (rfl) (rfl) hown2 hk9 (by omega) (by omega)); clear hown2 hgrow2 hat2 hk9) | (refine step_append_lies _ rfl (.tmp 71) (.tmp 79) 71 rfl wA.heap.size 73 i0 _ 5 72 underlying71 hi0 hz0 hz1 hz2 rfl (by decide) _ ps0.length (cellsOf 5 encN vs0) rfl ?_ _ 1 1 [.int .i64 6, .slice none 0 0, .int .i64 mm, .int .i64 xx, .slice (some ⟨(wA.heap.size + 1), 0, none⟩) 1 1] rfl rfl (xlC ?_ ?_ ?_ ?_ ?_) (by simp [Value.oneCell']) (by decide) ?_ ?_ ?_ _ rfl ?_; (focus (first | exact hown1 | exact hown1.drew | exact (xac hown1 _).drew | exact xac hown1 _ | exact (xac (xac hown1 _) _).drew | exact xac (xac hown1 _) _)); (focus (first | (simp [go_sem]; done) | (refine xaa.cell (a := w1) (S := fun _ => False) ?_ ?_ id; (focus (exact KI.out)); (focus (refine xao hgrow1 ?_ ?_ ?_; (focus (first | omega | (simp; done) | (simp; omega))); (focus (intro h; have h9 := Option.some.inj h; first | omega | (simp at h9; done) | (simp at h9; omega))); (focus (simp [go_sem]; done))))))); (focus (first | (simp [go_sem]; done) | (refine xaa.cell (a := w1) (S := fun _ => False) ?_ ?_ id; (focus (exact KI.out)); (focus (refine xao hgrow1 ?_ ?_ ?_; (focus (first | omega | (simp; done) | (simp; omega))); (focus (intro h; have h9 := Option.some.inj h; first | omega | (simp at h9; done) | (simp at h9; omega))); (focus (simp [go_sem]; done))))))); (focus (first | (simp [go_sem]; done) | (refine xaa.cell (a := w1) (S := fun _ => False) ?_ ?_ id; (focus (exact KI.out)); (focus (refine xao hgrow1 ?_ ?_ ?_; (focus (first | omega | (simp; done) | (simp; omega))); (focus (intro h; have h9 := Option.some.inj h; first | omega | (simp at h9; done) | (simp at h9; omega))); (focus (simp [go_sem]; done))))))); (focus (first | (simp [go_sem]; done) | (refine xaa.cell (a := w1) (S := fun _ => False) ?_ ?_ id; (focus (exact KI.out)); (focus (refine xao hgrow1 ?_ ?_ ?_; (focus (first | omega | (simp; done) | (simp; omega))); (focus (intro h; have h9 := Option.some.inj h; first | omega | (simp at h9; done) | (simp at h9; omega))); (focus (simp [go_sem]; done))))))); (focus (first | (simp [go_sem]; done) | (refine xaa.cell (a := w1) (S := fun _ => False) ?_ ?_ id; (focus (exact KI.out)); (focus (refine xao hgrow1 ?_ ?_ ?_; (focus (first | omega | (simp; done) | (simp; omega))); (focus (intro h; have h9 := Option.some.inj h; first | omega | (simp at h9; done) | (simp at h9; omega))); (focus (simp [go_sem]; done))))))); (focus (unfold maxLen; omega)); (focus omega); (focus (first | omega | (simp; done) | (simp; omega))); intro g2 cap2 w2 hown2 hgrow2 hat2 hlt2; have hat2n := hat2.imp (fun h => Option.some.inj h) id; (try simp at hat2n); have hk9 := xg2 (k5 (G := (wA.heap.size + 1)) (o := o) (s := .slice a1 n1 c1) (m := m1) (x := x1') (k := .slice a2 n2 cc2) (by (first | (simp [go_sem]; done) | (refine xaa.cell (a := w1) (S := fun _ => False) ?_ ?_ id; (focus (exact KI.out)); (focus (refine xao hgrow1 ?_ ?_ ?_; (focus (first | omega | (simp; done) | (simp; omega))); (focus (intro h; have h9 := Option.some.inj h; first | omega | (simp at h9; done) | (simp at h9; omega))); (focus (simp [go_sem]; done))))))) (by (first | (simp [go_sem]; done) | (refine xaa.cell (a := w1) (S := fun _ => False) ?_ ?_ id; (focus (exact KI.out)); (focus (refine xao hgrow1 ?_ ?_ ?_; (focus (first | omega | (simp; done) | (simp; omega))); (focus (intro h; have h9 := Option.some.inj h; first | omega | (simp at h9; done) | (simp at h9; omega))); (focus (simp [go_sem]; done))))))) (by (first | (simp [go_sem]; done) | (refine xaa.cell (a := w1) (S := fun _ => False) ?_ ?_ id; (focus (exact KI.out)); (focus (refine xao hgrow1 ?_ ?_ ?_; (focus (first | omega | (simp; done) | (simp; omega))); (focus (intro h; have h9 := Option.some.inj h; first | omega | (simp at h9; done) | (simp at h9; omega))); (focus (simp [go_sem]; done))))))) (by (first | (simp [go_sem]; done) | (refine xaa.cell (a := w1) (S := fun _ => False) ?_ ?_ id; (focus (exact KI.out)); (focus (refine xao hgrow1 ?_ ?_ ?_; (focus (first | omega | (simp; done) | (simp; omega))); (focus (intro h; have h9 := Option.some.inj h; first | omega | (simp at h9; done) | (simp at h9; omega))); (focus (simp [go_sem]; done))))))) (by (first | (simp [go_sem]; done) | (refine xaa.cell (a := w1) (S := fun _ => False) ?_ ?_ id; (focus (exact KI.out)); (focus (refine xao hgrow1 ?_ ?_ ?_; (focus (first | omega | (simp; done) | (simp; omega))); (focus (intro h; have h9 := Option.some.inj h; first | omega | (simp at h9; done) | (simp at h9; omega))); (focus (simp [go_sem]; done)))))))) hgrow2 (by intro h; have h9 := Option.some.inj h; first | omega | (simp at h9; done) | (simp at h9; omega)); have k02 : KF wA w2 := xaa.grown (KI.out) hgrow2 (fun b hb => Or.inr (by have h := Option.some.inj hb; rw [<- h]; first | exact Nat.le_refl _ | omega | (simp; done) | (simp; omega))); have ik02 : KI (fun _ => False) wA w2 := ⟨k02⟩; have HF := xa (xaJ.count hD HR.out KA k02 hm64 hx64 (rfl) (rfl) hown2 hk9 (by omega) (by omega)); clear hown2 hgrow2 hat2 hk9) | (refine step_append_lies _ rfl (.tmp 71) (.tmp 79) 71 rfl wA.heap.size 73 i0 _ 5 72 underlying71 hi0 hz0 hz1 hz2 rfl (by decide) _ ps0.length (cellsOf 5 encN vs0) rfl ?_ _ 1 1 [.int .i64 6, .slice none 0 0, .int .i64 mm, .int .i64 xx, .slice (some ⟨wA.heap.size, 0, none⟩) 1 1] rfl rfl (xlC ?_ ?_ ?_ ?_ ?_) (by simp [Value.oneCell']) (by decide) ?_ ?_ ?_ _ rfl ?_; (focus (first | exact hown1 | exact hown1.drew | exact (xac hown1 _).drew | exact xac hown1 _ | exact (xac (xac hown1 _) _).drew | exact xac (xac hown1 _) _)); (focus (first | (simp [go_sem]; done) | (refine xaa.cell (a := w1) (S := fun _ => False) ?_ ?_ id; (focus (exact KI.out)); (focus (refine xao hgrow1 ?_ ?_ ?_; (focus (first | omega | (simp; done) | (simp; omega))); (focus (intro h; have h9 := Option.some.inj h; first | omega | (simp at h9; done) | (simp at h9; omega))); (focus (simp [go_sem]; done))))))); (focus (first | (simp [go_sem]; done) | (refine xaa.cell (a := w1) (S := fun _ => False) ?_ ?_ id; (focus (exact KI.out)); (focus (refine xao hgrow1 ?_ ?_ ?_; (focus (first | omega | (simp; done) | (simp; omega))); (focus (intro h; have h9 := Option.some.inj h; first | omega | (simp at h9; done) | (simp at h9; omega))); (focus (simp [go_sem]; done))))))); (focus (first | (simp [go_sem]; done) | (refine xaa.cell (a := w1) (S := fun _ => False) ?_ ?_ id; (focus (exact KI.out)); (focus (refine xao hgrow1 ?_ ?_ ?_; (focus (first | omega | (simp; done) | (simp; omega))); (focus (intro h; have h9 := Option.some.inj h; first | omega | (simp at h9; done) | (simp at h9; omega))); (focus (simp [go_sem]; done))))))); (focus (first | (simp [go_sem]; done) | (refine xaa.cell (a := w1) (S := fun _ => False) ?_ ?_ id; (focus (exact KI.out)); (focus (refine xao hgrow1 ?_ ?_ ?_; (focus (first | omega | (simp; done) | (simp; omega))); (focus (intro h; have h9 := Option.some.inj h; first | omega | (simp at h9; done) | (simp at h9; omega))); (focus (simp [go_sem]; done))))))); (focus (first | (simp [go_sem]; done) | (refine xaa.cell (a := w1) (S := fun _ => False) ?_ ?_ id; (focus (exact KI.out)); (focus (refine xao hgrow1 ?_ ?_ ?_; (focus (first | omega | (simp; done) | (simp; omega))); (focus (intro h; have h9 := Option.some.inj h; first | omega | (simp at h9; done) | (simp at h9; omega))); (focus (simp [go_sem]; done))))))); (focus (unfold maxLen; omega)); (focus omega); (focus (first | omega | (simp; done) | (simp; omega))); intro g2 cap2 w2 hown2 hgrow2 hat2 hlt2; have hat2n := hat2.imp (fun h => Option.some.inj h) id; (try simp at hat2n); have hk9 := xg2 (k5 (G := wA.heap.size) (o := o) (s := .slice a1 n1 c1) (m := m1) (x := x1') (k := .slice a2 n2 cc2) (by (first | (simp [go_sem]; done) | (refine xaa.cell (a := w1) (S := fun _ => False) ?_ ?_ id; (focus (exact KI.out)); (focus (refine xao hgrow1 ?_ ?_ ?_; (focus (first | omega | (simp; done) | (simp; omega))); (focus (intro h; have h9 := Option.some.inj h; first | omega | (simp at h9; done) | (simp at h9; omega))); (focus (simp [go_sem]; done))))))) (by (first | (simp [go_sem]; done) | (refine xaa.cell (a := w1) (S := fun _ => False) ?_ ?_ id; (focus (exact KI.out)); (focus (refine xao hgrow1 ?_ ?_ ?_; (focus (first | omega | (simp; done) | (simp; omega))); (focus (intro h; have h9 := Option.some.inj h; first | omega | (simp at h9; done) | (simp at h9; omega))); (focus (simp [go_sem]; done))))))) (by (first | (simp [go_sem]; done) | (refine xaa.cell (a := w1) (S := fun _ => False) ?_ ?_ id; (focus (exact KI.out)); (focus (refine xao hgrow1 ?_ ?_ ?_; (focus (first | omega | (simp; done) | (simp; omega))); (focus (intro h; have h9 := Option.some.inj h; first | omega | (simp at h9; done) | (simp at h9; omega))); (focus (simp [go_sem]; done))))))) (by (first | (simp [go_sem]; done) | (refine xaa.cell (a := w1) (S := fun _ => False) ?_ ?_ id; (focus (exact KI.out)); (focus (refine xao hgrow1 ?_ ?_ ?_; (focus (first | omega | (simp; done) | (simp; omega))); (focus (intro h; have h9 := Option.some.inj h; first | omega | (simp at h9; done) | (simp at h9; omega))); (focus (simp [go_sem]; done))))))) (by (first | (simp [go_sem]; done) | (refine xaa.cell (a := w1) (S := fun _ => False) ?_ ?_ id; (focus (exact KI.out)); (focus (refine xao hgrow1 ?_ ?_ ?_; (focus (first | omega | (simp; done) | (simp; omega))); (focus (intro h; have h9 := Option.some.inj h; first | omega | (simp at h9; done) | (simp at h9; omega))); (focus (simp [go_sem]; done)))))))) hgrow2 (by intro h; have h9 := Option.some.inj h; first | omega | (simp at h9; done) | (simp at h9; omega)); have k02 : KF wA w2 := xaa.grown (KI.out) hgrow2 (fun b hb => Or.inr (by have h := Option.some.inj hb; rw [<- h]; first | exact Nat.le_refl _ | omega | (simp; done) | (simp; omega))); have ik02 : KI (fun _ => False) wA w2 := ⟨k02⟩; have HF := xa (xaJ.count hD HR.out KA k02 hm64 hx64 (rfl) (rfl) hown2 hk9 (by omega) (by omega)); clear hown2 hgrow2 hat2 hk9)))
          all_goals go_wp2_with fail
          all_goals go_roundw
          all_goals first
           | exact xcY HF.out hmn hmi (Nat.lt_succ_self _) (by omega) HG6.out (by simp) (by omega) (by first | (simp; done) | (simp; omega)) (by go_num) rfl
           | (simp [intOf]; done)
           | (simp [intOf]; omega)
        obtain rfl : ps0 = [] := List.length_eq_zero_iff.1 (by omega)
        obtain rfl : vs0 = [] := List.length_eq_zero_iff.1 hv0
        clear hpos
        have HRx : Hid (xaJ w wr D (.slice ava al.length avc) al us (.slice (some ⟨g, 0, none⟩) 1 pvc) [tn] [⟨o, .slice a1 n1 c1, m1, x1', .slice a2 n2 cc2⟩]) := xa HR.out
        have hcell : ∀ j u, (encN ⟨o, .slice a1 n1 c1, m1, x1', .slice a2 n2 cc2⟩ j) = u -> j < 5 -> wr.cell? ⟨g, j, none⟩ = some u := fun j u hu hj => by
         have h := HRx.out.pown.cellAt j (by simp; omega)
         have h2 := xaI 5 encN [⟨o, .slice a1 n1 c1, m1, x1', .slice a2 n2 cc2⟩] 0 _ rfl j hj
         rw [h, <- hu, <- h2]; simp
        have y0 := hcell 0 _ rfl (by omega)
        have y1 := hcell 1 _ rfl (by omega)
        have y2 := hcell 2 _ rfl (by omega)
        have y3 := hcell 3 _ rfl (by omega)
        have y4 := hcell 4 _ rfl (by omega)
        simp only [encN, if_true, Nat.reduceEqDiff, if_false] at y0 y1 y2 y3 y4
        have HG6 : Hid (xaG m d (ts.drop (i + 1)) al ([] ++ [⟨6, [], mm, xx, F.ofL [tn]⟩]) false = G) := xa (by have e := Hg2.out; rw [xfP, if_pos rfl] at e; simpa [repT] using e)
        have hlp1 : 1 <= i := by simpa using hlp
        have hlen : (([] : List T) ++ [tn]).length = 1 := rfl
        rw [hlen]
        clear hTn hcell hvn' hvl hgv Hg2 Hg hlp HTn HR hlen hv0
        have hgl : g < wr.heap.size := by have := xaM HRx.out.pown g (by rfl); exact this
        go_wp2_with fail
        obtain ⟨wA, hwA⟩ : ∃ W, (wr.alloc (.cells #[.int .i64 2, .int .i64 0, .slice none 0 0, .int .i64 mm, .int .i64 xx] 152)).alloc (.cells #[.int .i64 o, .slice a1 n1 c1, .int .i64 m1, .int .i64 x1', .slice a2 n2 cc2] 73) = W := ⟨_, rfl⟩
        have KA : KF wr wA := by rw [<- hwA]; exact ((xaa.refl _ _).alloc _).alloc _
        have p3 : wA.cell? ⟨wr.heap.size, 3, none⟩ = some (.int .i64 mm) := by rw [<- hwA]; exact xaf (by simp [go_sem]) _
        have p4 : wA.cell? ⟨wr.heap.size, 4, none⟩ = some (.int .i64 xx) := by rw [<- hwA]; exact xaf (by simp [go_sem]) _
        have k0 : wA.cell? ⟨wr.heap.size + 1, 0, none⟩ = some (.int .i64 o) := by rw [<- hwA]; simp [go_sem]
        have k1 : wA.cell? ⟨wr.heap.size + 1, 1, none⟩ = some (.slice a1 n1 c1) := by rw [<- hwA]; simp [go_sem]
        have k2 : wA.cell? ⟨wr.heap.size + 1, 2, none⟩ = some (.int .i64 m1) := by rw [<- hwA]; simp [go_sem]
        have k3 : wA.cell? ⟨wr.heap.size + 1, 3, none⟩ = some (.int .i64 x1') := by rw [<- hwA]; simp [go_sem]
        have k4 : wA.cell? ⟨wr.heap.size + 1, 4, none⟩ = some (.slice a2 n2 cc2) := by rw [<- hwA]; simp [go_sem]
        have hsA : wr.heap.size + 2 <= wA.heap.size := by rw [<- hwA]; simp
        rw [hwA]
        have HS : Hid (∀ w', KF wA w' -> (w'.cell? ⟨wr.heap.size, 3, none⟩ = some (.int .i64 mm) /\ w'.cell? ⟨wr.heap.size, 4, none⟩ = some (.int .i64 xx) /\ w'.cell? ⟨wr.heap.size + 1, 0, none⟩ = some (.int .i64 o) /\ w'.cell? ⟨wr.heap.size + 1, 1, none⟩ = some (.slice a1 n1 c1) /\ w'.cell? ⟨wr.heap.size + 1, 2, none⟩ = some (.int .i64 m1) /\ w'.cell? ⟨wr.heap.size + 1, 3, none⟩ = some (.int .i64 x1') /\ w'.cell? ⟨wr.heap.size + 1, 4, none⟩ = some (.slice a2 n2 cc2))) :=
         xa (fun w' K => ⟨K.cell p3 id, K.cell p4 id, K.cell k0 id, K.cell k1 id, K.cell k2 id, K.cell k3 id, K.cell k4 id⟩)
        have hc1 : (0 : Int) <= (0 : Int) := by omega
        have hc2 : (0 : Int) <= (pvc : Int) := by omega
        clear p3 p4 k0 k1 k2 k3 k4 hwA
        go_region_held3 (fun w' => w'.cell? ⟨wr.heap.size, 3, none⟩ = some (.int .i64 mm) /\ w'.cell? ⟨wr.heap.size, 4, none⟩ = some (.int .i64 xx) /\ w'.cell? ⟨wr.heap.size + 1, 0, none⟩ = some (.int .i64 o) /\ w'.cell? ⟨wr.heap.size + 1, 1, none⟩ = some (.slice a1 n1 c1) /\ w'.cell? ⟨wr.heap.size + 1, 2, none⟩ = some (.int .i64 m1) /\ w'.cell? ⟨wr.heap.size + 1, 3, none⟩ = some (.int .i64 x1') /\ w'.cell? ⟨wr.heap.size + 1, 4, none⟩ = some (.slice a2 n2 cc2))
         (exact HS.out _ (KI.out)) ((first | (refine step_append_lies _ rfl (.tmp 71) (.tmp 79) 71 rfl wA.heap.size 73 i0 _ 5 72 underlying71 hi0 hz0 hz1 hz2 rfl (by decide) _ 0 [] rfl ?_ _ 1 1 [.int .i64 6, .slice none 0 0, .int .i64 mm, .int .i64 xx, .slice (some ⟨(wA.heap.size + 1), 0, none⟩) 1 1] rfl rfl (xlC ?_ ?_ ?_ ?_ ?_) (by simp [Value.oneCell']) (by decide) ?_ ?_ ?_ _ rfl ?_; (focus (first | exact (xbm (by first | (simp; done) | (simp; omega)) (by first | (simp; done) | (simp; omega))).drew | exact (xac (xbm (by first | (simp; done) | (simp; omega)) (by first | (simp; done) | (simp; omega))) _).drew | exact (xac (xac (xbm (by first | (simp; done) | (simp; omega)) (by first | (simp; done) | (simp; omega))) _) _).drew)); (focus (simp [go_sem]; done)); (focus (simp [go_sem]; done)); (focus (simp [go_sem]; done)); (focus (simp [go_sem]; done)); (focus (simp [go_sem]; done)); (focus (unfold maxLen; omega)); (focus omega); (focus (first | omega | (simp; done) | (simp; omega))); intro g2 cap2 w2 hown2 hgrow2 hat2 hlt2; have hat2n := hat2.imp (fun h => Option.some.inj h) id; (try simp at hat2n); have hk9 := xg2 (k5 (G := (wA.heap.size + 1)) (o := o) (s := .slice a1 n1 c1) (m := m1) (x := x1') (k := .slice a2 n2 cc2) (by (simp [go_sem]; done)) (by (simp [go_sem]; done)) (by (simp [go_sem]; done)) (by (simp [go_sem]; done)) (by (simp [go_sem]; done))) hgrow2 (by intro h; have h9 := Option.some.inj h; first | omega | (simp at h9; done) | (simp at h9; omega)); have k02 : KF wA w2 := xaa.grown (KI.out) hgrow2 (fun b hb => Or.inr (by have h := Option.some.inj hb; rw [<- h]; first | exact Nat.le_refl _ | omega | (simp; done) | (simp; omega))); have ik02 : KI (fun _ => False) wA w2 := ⟨k02⟩; have HF := xa (xaJ.count (ps0 := []) (vs0 := []) hD HRx.out KA k02 hm64 hx64 (rfl) (rfl) hown2 hk9 (by omega) (by omega)); clear hown2 hgrow2 hat2 hk9) | (refine step_append_lies _ rfl (.tmp 71) (.tmp 79) 71 rfl wA.heap.size 73 i0 _ 5 72 underlying71 hi0 hz0 hz1 hz2 rfl (by decide) _ 0 [] rfl ?_ _ 1 1 [.int .i64 6, .slice none 0 0, .int .i64 mm, .int .i64 xx, .slice (some ⟨wA.heap.size, 0, none⟩) 1 1] rfl rfl (xlC ?_ ?_ ?_ ?_ ?_) (by simp [Value.oneCell']) (by decide) ?_ ?_ ?_ _ rfl ?_; (focus (first | exact (xbm (by first | (simp; done) | (simp; omega)) (by first | (simp; done) | (simp; omega))).drew | exact (xac (xbm (by first | (simp; done) | (simp; omega)) (by first | (simp; done) | (simp; omega))) _).drew | exact (xac (xac (xbm (by first | (simp; done) | (simp; omega)) (by first | (simp; done) | (simp; omega))) _) _).drew)); (focus (simp [go_sem]; done)); (focus (simp [go_sem]; done)); (focus (simp [go_sem]; done)); (focus (simp [go_sem]; done)); (focus (simp [go_sem]; done)); (focus (unfold maxLen; omega)); (focus omega); (focus (first | omega | (simp; done) | (simp; omega))); intro g2 cap2 w2 hown2 hgrow2 hat2 hlt2; have hat2n := hat2.imp (fun h => Option.some.inj h) id; (try simp at hat2n); have hk9 := xg2 (k5 (G := wA.heap.size) (o := o) (s := .slice a1 n1 c1) (m := m1) (x := x1') (k := .slice a2 n2 cc2) (by (simp [go_sem]; done)) (by (simp [go_sem]; done)) (by (simp [go_sem]; done)) (by (simp [go_sem]; done)) (by (simp [go_sem]; done))) hgrow2 (by intro h; have h9 := Option.some.inj h; first | omega | (simp at h9; done) | (simp at h9; omega)); have k02 : KF wA w2 := xaa.grown (KI.out) hgrow2 (fun b hb => Or.inr (by have h := Option.some.inj hb; rw [<- h]; first | exact Nat.le_refl _ | omega | (simp; done) | (simp; omega))); have ik02 : KI (fun _ => False) wA w2 := ⟨k02⟩; have HF := xa (xaJ.count (ps0 := []) (vs0 := []) hD HRx.out KA k02 hm64 hx64 (rfl) (rfl) hown2 hk9 (by omega) (by omega)); clear hown2 hgrow2 hat2 hk9)))
        all_goals go_wp2_with fail
        all_goals go_roundw
        all_goals first
         | exact xcY HF.out hmn hmi (Nat.lt_succ_self _) (by omega) HG6.out (by simp) (by omega) (by first | (simp; done) | (simp; omega)) (by go_num) rfl
         | (simp [intOf]; done)
         | (simp [intOf]; omega)
      | sg c =>
       obtain ⟨rfl, rfl, hsv, rfl, rfl⟩ := TV.mk.inj hk
       obtain ⟨rfl, rfl, rfl⟩ := Value.slice.inj hsv
       clear hk hsv
       by_cases hc : r = 124
       · skip
         subst hc
         have HJ := xa (fun (W : World) (K : KF wr W) => xfV 4 (.slice pva ps.length pvc) vs ps (Kq w.heap.size D wr.heap.size (Value.slice ava al.length avc).ownBlock none) W ((HR.out.keepF K).slofP (by omega)) (HR.out.pkids.keepsTo K (fun _ _ => id) (fun b hb => ⟨hb.1, hb.2.1, fun e => by cases e⟩)) (fun b hb => ⟨Or.inr ⟨by have := xab HR.out.pown b hb; omega, xaM HR.out.pown b hb⟩, fun e => HR.out.sep b e hb, fun e => by cases e⟩))
         go_wp2_with fail
         refine (HJ.out _ (xaa.refl _ _)).mono ?_
         rintro e w2 ⟨v, rfl, hv, k2⟩
         obtain ⟨o, a1, n1, c1, mm2, xx2, a2, n2, cc2, rfl⟩ := NV.form hv
         have HV := xa hv
         have HR2 := xa (HR.out.keepF k2)
         have hs2 := k2.size
         clear hv k2
         unfold NV.val
         go_wp2_with (at_builtin; refine wpList_append_own_at _ rfl (.tmp 45) (.tmp 48) 71 rfl (w.heap.size + 1) 73 i0 _ 5 72 underlying71 hi0 hz0 hz1 hz2 rfl (by decide) _ _ _ rfl (xac HR2.out.aown _) ⟨w2.heap.size, 0, none⟩ 1 1 [.int .i64 o, .slice a1 n1 c1, .int .i64 mm2, .int .i64 xx2, .slice a2 n2 cc2] rfl rfl (by exact xaq _ [_, _, _, _, _] _) (by simp [Value.oneCell']) ?d3 ?d4 ?d5 ?_)
         case d3 => unfold maxLen; omega
         case d4 => omega
         case d5 => first | omega | (simp; omega)
         intro v' w9 hown' hgrow _ hloc
         have HN := xa (xaJ.symm (xaJ.push hD (xaJ.symm (xaJ.dropP HR2.out)) ((xaa.refl _ _).alloc _) (HV.out.keepsTo ((xaa.refl (fun _ => False) _).alloc _) (fun _ _ => id) (fun b hb => ⟨hb.1.imp id (fun x => ⟨x.1, by simp; omega⟩), by simp [Value.ownBlock], hb.2.1⟩)) hown' hgrow hloc (by simp)))
         clear hown' hgrow hloc
         go_wp2
         go_roundw
         case rel => exact xcY HN.out hmn hmi (Nat.lt_succ_self _) (by omega) (by rw [<- xkM]; exact Hg2.out) (by simp) (by simp; omega) (by simp) (by go_num) rfl
         case measure => first | (simp [intOf]; done) | (simp [intOf]; omega)
       have g1 : (r == 124) = false := beq_eq_false_iff_ne.2 hc
       by_cases hc : r = 94
       · skip
         subst hc
         go_wp2_with (at_builtin; refine wpList_append_own_at _ rfl (.tmp 119) (.tmp 121) 71 rfl (w.heap.size + 1) 73 i0 _ 5 72 underlying71 hi0 hz0 hz1 hz2 rfl (by decide) _ _ _ rfl (xac (xac HR.out.pown _) _) ⟨wr.heap.size + 1, 0, none⟩ 1 1 [.int .i64 2, .slice none 0 0, .int .i64 0, .int .i64 0, .slice none 0 0] rfl rfl (by exact xbM _ _ [_, _, _, _, _] _) (by simp [Value.oneCell']) ?d3 ?d4 ?d5 ?_)
         case d3 => unfold maxLen; omega
         case d4 => omega
         case d5 => first | omega | (simp; omega)
         intro v' w9 hown' hgrow _ hloc
         have HN := xa (xaJ.push hD HR.out (((xaa.refl _ _).alloc _).alloc _) (TAt.bare _ _ 2) hown' hgrow hloc (by simp))
         clear hown' hgrow hloc
         go_wp2
         go_roundw
         case rel => exact xcY HN.out hmn hmi (Nat.lt_succ_self _) (by omega) (by rw [<- xmI]; exact Hg2.out) (by simp) (by omega) (by simp; omega) (by go_num) rfl
         case measure => first | (simp [intOf]; done) | (simp [intOf]; omega)
       have g2 : (r == 94) = false := beq_eq_false_iff_ne.2 hc
       by_cases hc : r = 36
       · skip
         subst hc
         go_wp2_with (at_builtin; refine wpList_append_own_at _ rfl (.tmp 125) (.tmp 127) 71 rfl (w.heap.size + 1) 73 i0 _ 5 72 underlying71 hi0 hz0 hz1 hz2 rfl (by decide) _ _ _ rfl (xac (xac HR.out.pown _) _) ⟨wr.heap.size + 1, 0, none⟩ 1 1 [.int .i64 3, .slice none 0 0, .int .i64 0, .int .i64 0, .slice none 0 0] rfl rfl (by exact xbM _ _ [_, _, _, _, _] _) (by simp [Value.oneCell']) ?d3 ?d4 ?d5 ?_)
         case d3 => unfold maxLen; omega
         case d4 => omega
         case d5 => first | omega | (simp; omega)
         intro v' w9 hown' hgrow _ hloc
         have HN := xa (xaJ.push hD HR.out (((xaa.refl _ _).alloc _).alloc _) (TAt.bare _ _ 3) hown' hgrow hloc (by simp))
         clear hown' hgrow hloc
         go_wp2
         go_roundw
         case rel => exact xcY HN.out hmn hmi (Nat.lt_succ_self _) (by omega) (by rw [<- xmK]; exact Hg2.out) (by simp) (by omega) (by simp; omega) (by go_num) rfl
         case measure => first | (simp [intOf]; done) | (simp [intOf]; omega)
       have g3 : (r == 36) = false := beq_eq_false_iff_ne.2 hc
       by_cases hc : r = 41
       · skip
         subst hc
         have E : Hid (G = none) := xa (by rw [<- Hg2.out, xmJ])
         clear Hg Hg2
         obtain ⟨⟨y0, y1, y2, y3, y4⟩, q0, q1, q2, q3, q4⟩ := xbq (HR.out.keep)
         have hlt9 : w.heap.size < wr.heap.size := by have := (HR.out.keep).size; simp at this; omega
         obtain ⟨wE, hWE⟩ : ∃ W, st5 wr w.heap.size (.int .i64 0) (.slice none 0 0) (.int .i64 0) (.int .i64 0) (.slice none 0 0) = W := ⟨_, rfl⟩
         obtain ⟨r0, r1, r2, r3, r4, kE⟩ := xap wr w.heap.size y0 y1 y2 y3 y4 (.int .i64 0) (.slice none 0 0) (.int .i64 0) (.int .i64 0) (.slice none 0 0)
         rw [hWE] at r0 r1 r2 r3 r4 kE
         unfold st5 at hWE
         have z0 := xaf r0 (.cells #[.int .i64 1, .int .i64 41, .slice none 0 0, .int .i64 0, .int .i64 0] 152)
         have z1 := xaf r1 (.cells #[.int .i64 1, .int .i64 41, .slice none 0 0, .int .i64 0, .int .i64 0] 152)
         have z2 := xaf r2 (.cells #[.int .i64 1, .int .i64 41, .slice none 0 0, .int .i64 0, .int .i64 0] 152)
         have z3 := xaf r3 (.cells #[.int .i64 1, .int .i64 41, .slice none 0 0, .int .i64 0, .int .i64 0] 152)
         have z4 := xaf r4 (.cells #[.int .i64 1, .int .i64 41, .slice none 0 0, .int .i64 0, .int .i64 0] 152)
         have HKE := xa kE
         have HWE := xa hWE
         clear kE hWE
         go_wp2_with fail
         rw [HWE.out]
         clear y0 y1 y2 y3 y4
         refine bodyPost_ret (by simp [results, results58, go_sem, z0, z1, z2, z3, z4]; try rfl) rfl ?_
         rw [E.out]
         exact xdf (HR.out.keep) (HKE.out.alloc _)
       have g4 : (r == 41) = false := beq_eq_false_iff_ne.2 hc
       have hc : r = 40 := by rcases htok with h | h | h | h | h <;> first | exact h | (subst h; simp at g1 g2 g3 g4)
       subst hc
       have HCL := xa (fun (W : World) (K : KF wr W) => xm D (.slice (some ⟨b, off, none⟩) ts.length cap) tvs ts i W (HK.out.keep K) (by omega) HT.out)
       rw [cloZ_eq _ 0] at HCL
       cases hcl : xaD 0 (ts.drop (i + 1)) with
       | none =>
        rw [hcl] at HCL
        have E : Hid (G = none) := xa (by rw [<- Hg2.out, xio, hcl])
        clear Hg Hg2 hcl
        simp only at HCL
        go_wp2_with fail
        refine (HCL.out _ ((xaa.refl _ _).alloc _)).mono ?_
        rintro e w2 ⟨rfl, k2⟩
        have K2 := xa ((HR.out.keep.alloc _).trans k2)
        clear k2
        obtain ⟨⟨y0, y1, y2, y3, y4⟩, q0, q1, q2, q3, q4⟩ := xbq (K2.out)
        go_wp2_with fail
        obtain ⟨wE, hWE⟩ : ∃ W, st5 (w2) w.heap.size (.int .i64 0) (.slice none 0 0) (.int .i64 0) (.int .i64 0) (.slice none 0 0) = W := ⟨_, rfl⟩
        obtain ⟨r0, r1, r2, r3, r4, kE⟩ := xap (w2) w.heap.size y0 y1 y2 y3 y4 (.int .i64 0) (.slice none 0 0) (.int .i64 0) (.int .i64 0) (.slice none 0 0)
        rw [hWE] at r0 r1 r2 r3 r4 kE
        unfold st5 at hWE
        rw [hWE]
        have HKE := xa kE
        clear kE hWE y0 y1 y2 y3 y4
        refine bodyPost_ret (by simp [results, results58, go_sem, r0, r1, r2, r3, r4]; try rfl) rfl ?_
        rw [E.out]
        exact xdf (K2.out) HKE.out
       | some q =>
        obtain ⟨l1, r'⟩ := q
        have hsp := xcC _ _ _ _ hcl
        have hl1 : i + 1 + l1.length < ts.length := by
         have := congrArg List.length hsp
         simp only [List.length_drop, List.length_append, List.length_cons] at this
         omega
        have e1 : (ts.drop (i + 1)).take l1.length = l1 := by rw [hsp]; simp
        have e2 : ts.drop (i + 1 + l1.length + 1) = r' := by
         rw [show i + 1 + l1.length + 1 = (i + 1) + (l1.length + 1) by omega, <- List.drop_drop, hsp, show l1.length + 1 = (l1 ++ [Tok.sg 41]).length by simp, show l1 ++ Tok.sg 41 :: r' = (l1 ++ [Tok.sg 41]) ++ r' by simp, List.drop_left]
        rw [hcl] at HCL
        simp only at HCL
        obtain ⟨q, hq⟩ : ∃ q, (if 10 < d + 1 then none else xaG m (d + 1) l1 [] [] false) = q := ⟨_, rfl⟩
        have hG4 : (q.bind fun t => xaG m d (ts.drop (i + 1 + l1.length + 1)) al (ps ++ [t]) true) = G := by
         have e := Hg2.out
         rw [xio, hcl, <- e2] at e
         rw [<- e, <- hq]
         by_cases h : 10 < d + 1
         · simp only [if_pos h]; rfl
         simp only [if_neg h]; cases xaG m (d + 1) l1 [] [] false <;> rfl
        have HTr : Hid (∀ (W : World) (K : KF wr W), Calls prog 58 #[.slice (some ⟨b, off + (i + 1) * 5, none⟩) l1.length (cap - (i + 1)), .int .i64 (d + 1)] W fun e w' => xkz W D q e w') := xa (fun W K => by
         have hpt := (HK.out.keep K).part (i + 1) l1.length (by omega)
         rw [e1] at hpt
         rw [<- hq]
         by_cases h : 10 < d + 1
         · rw [if_pos h]; exact xkK _ _ _ _ _ _ hpt h (by omega)
         rw [if_neg h]
         exact IH.out m (by omega) (d + 1) D _ _ l1 W (by omega) (by omega) hpt (fun b hb => by have := K.size; have := hD b hb; omega) (by omega) (by omega) (fun t ht => HOK.out t (List.mem_of_mem_drop (i := i + 1) (by rw [hsp]; simp [ht]))))
        have HG4 := xa hG4
        have hJ1 : (i : Int) + 1 <= (i : Int) + 1 + (l1.length : Int) := by omega
        have hJ2 : (i : Int) + 1 + (l1.length : Int) <= (cap : Int) := by have := HCP.out; omega
        have hJ3 : decide ((i : Int) + 1 + (l1.length : Int) < 0) = false := by simp; omega
        have hJ4 : ¬ cap = i + 1 := by have := HCP.out; omega
        clear hG4 hq hcl hsp e1 e2 Hg Hg2
        go_wp2_with fail
        refine (HCL.out _ ((xaa.refl _ _).alloc _)).mono ?_
        rintro e w2 ⟨rfl, k2⟩
        have K2 := xa (xaa.trans ((xaa.refl _ _).alloc _) k2)
        clear k2
        go_wp2_with fail
        refine (HTr.out _ K2.out).mono ?_
        cases q with
        | none =>
         have E : Hid (G = none) := xa HG4.out.symm
         clear HG4
         rintro e w3 ⟨rfl, k3⟩
         have K3 := xa (HR.out.keep.trans (K2.out.trans k3))
         clear k3
         unfold NV.val
         obtain ⟨⟨y0, y1, y2, y3, y4⟩, q0, q1, q2, q3, q4⟩ := xbq (K3.out)
         have hlt9 : w.heap.size < w3.heap.size := by have := (K3.out).size; simp at this; omega
         obtain ⟨wE, hWE⟩ : ∃ W, st5 w3 w.heap.size (.int .i64 0) (.slice none 0 0) (.int .i64 0) (.int .i64 0) (.slice none 0 0) = W := ⟨_, rfl⟩
         obtain ⟨r0, r1, r2, r3, r4, kE⟩ := xap w3 w.heap.size y0 y1 y2 y3 y4 (.int .i64 0) (.slice none 0 0) (.int .i64 0) (.int .i64 0) (.slice none 0 0)
         rw [hWE] at r0 r1 r2 r3 r4 kE
         unfold st5 at hWE
         have z0 := xaf r0 (.cells #[.int .i64 0, .slice none 0 0, .int .i64 0, .int .i64 0, .slice none 0 0] 73)
         have z1 := xaf r1 (.cells #[.int .i64 0, .slice none 0 0, .int .i64 0, .int .i64 0, .slice none 0 0] 73)
         have z2 := xaf r2 (.cells #[.int .i64 0, .slice none 0 0, .int .i64 0, .int .i64 0, .slice none 0 0] 73)
         have z3 := xaf r3 (.cells #[.int .i64 0, .slice none 0 0, .int .i64 0, .int .i64 0, .slice none 0 0] 73)
         have z4 := xaf r4 (.cells #[.int .i64 0, .slice none 0 0, .int .i64 0, .int .i64 0, .slice none 0 0] 73)
         have HKE := xa kE
         have HWE := xa hWE
         clear kE hWE
         go_wp2_with fail
         rw [HWE.out]
         clear y0 y1 y2 y3 y4
         refine bodyPost_ret (by simp [results, results58, go_sem, z0, z1, z2, z3, z4]; try rfl) rfl ?_
         rw [E.out]
         exact xdf (K3.out) (HKE.out.alloc _)
        | some t2 =>
         have HG5 : Hid (xaG m d (ts.drop (i + 1 + l1.length + 1)) al (ps ++ [t2]) true = G) := xa HG4.out
         clear HG4
         rintro e w3 ⟨v, rfl, hv, k3⟩
         obtain ⟨o, a1, n1, c1, mm2, xx2, a2, n2, cc2, rfl⟩ := NV.form hv
         have HV := xa hv
         have K3 := xa (K2.out.trans k3)
         have HR3 := xa (HR.out.keepF K3.out)
         have hs2 := K2.out.size
         have hs3 := k3.size
         clear hv k3
         unfold NV.val
         go_wp2_with (at_builtin; refine wpList_append_own_at _ rfl (.tmp 112) (.tmp 114) 71 rfl (w.heap.size + 1) 73 i0 _ 5 72 underlying71 hi0 hz0 hz1 hz2 rfl (by decide) _ _ _ rfl (xac (xac HR3.out.pown _) _) ⟨w3.heap.size + 1, 0, none⟩ 1 1 [.int .i64 o, .slice a1 n1 c1, .int .i64 mm2, .int .i64 xx2, .slice a2 n2 cc2] rfl rfl (by exact xbM _ _ [_, _, _, _, _] _) (by simp [Value.oneCell']) ?d3 ?d4 ?d5 ?_)
         case d3 => unfold maxLen; omega
         case d4 => omega
         case d5 => first | omega | (simp; omega)
         intro v' w9 hown' hgrow _ hloc
         have HN := xa (xaJ.push hD HR3.out (((xaa.refl _ _).alloc _).alloc _) (HV.out.keepsTo (((xaa.refl (fun _ => False) _).alloc _).alloc _) (fun _ _ => id) (fun b hb => by
          rcases hb with h | ⟨h1, h2⟩
          · exact HR3.out.old hD h _
          exact HR.out.new (by omega) (by simp; omega))) hown' hgrow hloc (by simp))
         clear hown' hgrow hloc
         go_wp2
         go_roundw
         case rel => exact xcY (j := i + 1 + l1.length + 1) HN.out hmn hmi (by omega) (by omega) HG5.out (by simp) (by omega) (by simp; omega) (by go_num) rfl
         case measure => first | (simp [intOf]; done) | (simp [intOf]; omega)
    skip
    obtain rfl : i = ts.length := by omega
    have E : Hid (G = some (xa4 5 (al ++ [xa4 4 ps]))) := xa (by have e := Hg.out; rw [List.drop_eq_nil_of_le (Nat.le_refl _), xkL] at e; exact e.symm)
    have hid : decide ((ts.length : Int) <= (ts.length : Int)) = true := by simp
    have hie : ((ts.length : Int) == (ts.length : Int)) = true := by simp
    have HJ := xa (fun (W : World) (K : KF wr W) => xfV 4 (.slice pva ps.length pvc) vs ps (Kq w.heap.size D wr.heap.size (Value.slice ava al.length avc).ownBlock none) W ((HR.out.keepF K).slofP (by omega)) (HR.out.pkids.keepsTo K (fun _ _ => id) (fun b hb => ⟨hb.1, hb.2.1, fun e => by cases e⟩)) (fun b hb => ⟨Or.inr ⟨by have := xab HR.out.pown b hb; omega, xaM HR.out.pown b hb⟩, fun e => HR.out.sep b e hb, fun e => by cases e⟩))
    clear Hg
    go_wp2_with fail
    refine (HJ.out _ (xaa.refl _ _)).mono ?_
    rintro e w2 ⟨v, rfl, hv, k2⟩
    obtain ⟨o, a1, n1, c1, mm2, xx2, a2, n2, cc2, rfl⟩ := NV.form hv
    have HV := xa hv
    have HR2 := xa (HR.out.keepF k2)
    have hs2 := k2.size
    clear hv k2
    unfold NV.val
    go_wp2_with (at_builtin; refine wpList_append_own_at _ rfl (.tmp 45) (.tmp 48) 71 rfl (w.heap.size + 1) 73 i0 _ 5 72 underlying71 hi0 hz0 hz1 hz2 rfl (by decide) _ _ _ rfl (xac HR2.out.aown _) ⟨w2.heap.size, 0, none⟩ 1 1 [.int .i64 o, .slice a1 n1 c1, .int .i64 mm2, .int .i64 xx2, .slice a2 n2 cc2] rfl rfl (by exact xaq _ [_, _, _, _, _] _) (by simp [Value.oneCell']) ?d3 ?d4 ?d5 ?_)
    case d3 => unfold maxLen; omega
    case d4 => omega
    case d5 => first | omega | (simp; omega)
    intro v' w9 hown' hgrow _ hloc
    have HN := xa (xaJ.symm (xaJ.push hD (xaJ.symm (xaJ.dropP HR2.out)) ((xaa.refl _ _).alloc _) (HV.out.keepsTo ((xaa.refl (fun _ => False) _).alloc _) (fun _ _ => id) (fun b hb => ⟨hb.1.imp id (fun x => ⟨x.1, by simp; omega⟩), by simp [Value.ownBlock], hb.2.1⟩)) hown' hgrow hloc (by simp)))
    clear hown' hgrow hloc
    go_wp2
    go_roundw
    case rel => exact ⟨m, ts.length + 1, _, _, [], [], false, by go_num, rfl, HN.out, (by simp), by simp; omega, by simp, by omega, Or.inr ⟨rfl, E.out⟩⟩
    case measure => first | (simp [intOf]; done) | (simp [intOf]; omega)
  skip
  have hid : decide ((ts.length : Int) + 1 <= (ts.length : Int)) = false := by first | (simp; done) | (simp; omega)
  have hid2 : decide (((ts.length + 1 : Nat) : Int) <= (ts.length : Int)) = false := by first | (simp; done) | (simp; omega)
  have HJ := xa (fun (W : World) (K : KF wr W) => xfV 5 (.slice ava al.length avc) us al (fun b => D b \/ w.heap.size < b /\ b < wr.heap.size) W ((HR.out.symm.keepF K).slofP (by omega)) (HR.out.akids.keepsTo K (fun _ _ => id) (fun b hb => hb.1)) (fun b hb => Or.inr ⟨by have := xab HR.out.aown b hb; omega, xaM HR.out.aown b hb⟩))
  have Hg := xa hg
  clear hg
  go_wp2_with fail
  refine (HJ.out _ (xaa.refl _ _)).mono ?_
  rintro e w2 ⟨v, rfl, hv, k2⟩
  obtain ⟨o, a1, n1, c1, mm2, xx2, a2, n2, cc2, rfl⟩ := NV.form hv
  have HV := xa hv
  have K2 := xa (HR.out.keep.trans k2)
  have hs2 := k2.size
  obtain ⟨⟨y0, y1, y2, y3, y4⟩, q0, q1, q2, q3, q4⟩ := xbq (K2.out)
  clear hv k2
  unfold NV.val
  go_wp2_with fail
  obtain ⟨wE, hWE⟩ : ∃ W, st5 (w2) w.heap.size (.int .i64 o) (.slice a1 n1 c1) (.int .i64 mm2) (.int .i64 xx2) (.slice a2 n2 cc2) = W := ⟨_, rfl⟩
  obtain ⟨r0, r1, r2, r3, r4, kE⟩ := xap (w2) w.heap.size y0 y1 y2 y3 y4 (.int .i64 o) (.slice a1 n1 c1) (.int .i64 mm2) (.int .i64 xx2) (.slice a2 n2 cc2)
  rw [hWE] at r0 r1 r2 r3 r4 kE
  unfold st5 at hWE
  rw [hWE]
  have HKE := xa kE
  clear kE hWE y0 y1 y2 y3 y4
  refine bodyPost_ret (by simp [results, results58, go_sem, r0, r1, r2, r3, r4]; try rfl) rfl ?_
  rw [Hg.out]
  exact xkJ (v := ⟨o, .slice a1 n1 c1, mm2, xx2, .slice a2 n2 cc2⟩) hD K2.out (HV.out.keepsTo (xaa.refl (fun _ => False) _) (fun _ _ => id) (fun b hb => hb.imp id (fun h => by omega))) HKE.out
end Go.Proofs.YtapmdhejgnplaaaGreat
