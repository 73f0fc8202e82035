/-
  ModelLooks: its walk (printed by mk_laws.py).
-/
import Derived.Test.YtjahiihmoglpfaaGreatDoorMg40
import Derived.BigRegion
import Derived.Deep.Cut
import Derived.Deep.RegionHeld
namespace Go.Proofs.YtjahiihmoglpfaaGreatDoor
open Go.RowKit
set_option linter.unusedVariables false
set_option linter.unusedSimpArgs false
set_option maxRecDepth 100000
theorem lk_set (wc wd : World) (ba bb n : Nat) (j : JV) (ha : JbAt wc ba j) (hb : JbAt wc bb j) (hne : ba ≠ bb) (hna : n ≤ ba) (hnb : n ≤ bb)
 (e : ((wc.setCell ⟨ba, 8, none⟩ (.int .i64 0)).setCell ⟨bb, 8, none⟩ (.int .i64 0)).setCell ⟨bb, 6, none⟩ (.int .i64 0) = wd) :
 JbAt wd ba { j with te := 0 } ∧ JbAt wd bb { j with te := 0, ev := 0 } ∧ xaa (fun b => n ≤ b) wc wd := by
 have k1 : xaa (fun b => b = ba) wc (wc.setCell ⟨ba, 8, none⟩ (.int .i64 0)) := xaa.setCell (S := fun b => b = ba) (xaa.refl _ wc) (p := ⟨ba, 8, none⟩) (Or.inl rfl) _
 have h1 : JbAt (wc.setCell ⟨ba, 8, none⟩ (.int .i64 0)) ba { j with te := 0 } := by
  have h0 : wc.heap[ba]? = some (.cells (jCs j) 25 (0, 0)) := ha
  show (World.setCell _ _ _).heap[ba]? = _
  simp [World.setCell, Array.getElem?_modify, h0, jCs]
 have h2 := hb.keeps k1 (fun e => hne e.symm)
 generalize wc.setCell ⟨ba, 8, none⟩ (.int .i64 0) = w1 at *
 have k2 : xaa (fun b => b = bb) w1 (w1.setCell ⟨bb, 8, none⟩ (.int .i64 0)) := xaa.setCell (S := fun b => b = bb) (xaa.refl _ w1) (p := ⟨bb, 8, none⟩) (Or.inl rfl) _
 have h4 : JbAt (w1.setCell ⟨bb, 8, none⟩ (.int .i64 0)) bb { j with te := 0 } := by
  have h0 : w1.heap[bb]? = some (.cells (jCs j) 25 (0, 0)) := h2
  show (World.setCell _ _ _).heap[bb]? = _
  simp [World.setCell, Array.getElem?_modify, h0, jCs]
 have h5 := h1.keeps k2 hne
 generalize w1.setCell ⟨bb, 8, none⟩ (.int .i64 0) = w2 at *
 have k3 : xaa (fun b => b = bb) w2 (w2.setCell ⟨bb, 6, none⟩ (.int .i64 0)) := xaa.setCell (S := fun b => b = bb) (xaa.refl _ w2) (p := ⟨bb, 6, none⟩) (Or.inl rfl) _
 have h6 : JbAt (w2.setCell ⟨bb, 6, none⟩ (.int .i64 0)) bb { j with te := 0, ev := 0 } := by
  have h0 : w2.heap[bb]? = some (.cells (jCs { j with te := 0 }) 25 (0, 0)) := h4
  show (World.setCell _ _ _).heap[bb]? = _
  simp [World.setCell, Array.getElem?_modify, h0, jCs]
 have h7 := h5.keeps k3 hne
 subst e
 exact ⟨h7, h6, ((k1.mono (fun b _ e => by have e : b = ba := e; show n ≤ b; omega)).trans (k2.mono (fun b _ e => by have e : b = bb := e; show n ≤ b; omega))).trans (k3.mono (fun b _ e => by have e : b = bb := e; show n ≤ b; omega))⟩
theorem jok_te {j : JV} (h : JOk j) : JOk { j with te := 0 } := ⟨h.da, h.sz, h.cd, h.mo, by simp, h.be, h.af, h.bu, h.ch, h.ro, h.wo, h.rg⟩
theorem jok_te2 {j : JV} (h : JOk j) : JOk { j with te := 0, ev := 0 } := ⟨h.da, h.sz, h.cd, h.mo, by simp, h.be, h.af, h.bu, h.ch, h.ro, h.wo, h.rg⟩
theorem xkk (f : List UInt8 → List (Int × Int)) (bad : Bool) (j : JV) (data : List UInt8) (P1 P2 : List (List UInt8) × Int)
 (h1 : (if bad then ([], 2) else runJ f { j with te := 0 } data) = P1) (h2 : (if bad then ([], 2) else runJ f { j with te := 0, ev := 0 } data) = P2) :
 P1.2 = P2.2 ∧ P1.1.Sublist P2.1 := by
 cases bad with
 | true =>
  subst h1; subst h2
  exact ⟨rfl, List.Sublist.refl _⟩
 | false =>
  rw [if_neg (by simp)] at h1 h2
  have e : ∀ R, xcj { j with te := 0 } j.mo.toNat j.fl.toNat data = R → xcj { j with te := 0, ev := 0 } j.mo.toNat j.fl.toNat data = R := fun R h => h
  have e1 : runJ f { j with te := 0 } data = runP j.ev f 0 j.be.toNat j.af.toNat (xcj { j with te := 0 } j.mo.toNat j.fl.toNat data) := rfl
  have e2 : runJ f { j with te := 0, ev := 0 } data = runP 0 f 0 j.be.toNat j.af.toNat (xcj { j with te := 0 } j.mo.toNat j.fl.toNat data) := rfl
  rw [e1, xfp] at h1
  rw [e2, xfp] at h2
  subst h1; subst h2
  exact ⟨rfl, xgy _ _ _⟩
set_option maxHeartbeats 40000000 in
theorem xkl (j : JV) (n : Int) (hn : in64 n) (w : World) (hD : j.dn ≤ 200 → ∃ data : List UInt8, SlOf 1 encB w (.slice j.da j.dn j.dc) data) (hT : TabW w) (hp : j.pt.length ≤ 9223372036854775807) :
 Calls Tryz.prog 5 #[jV j, .int .i64 n] w fun e w' => e = .returned (.bool true) ∧ xaa (fun _ => False) w w' := by
 obtain ⟨bad, f, hR⟩ := xec j.pt hp
 have HA := xmA (fun (W : World) (h : TabW W) => xdG W h)
 have hLi := fun W => xdw j W hp
 have hSh := fun W => xdu j W hp
 have HRi := xmA (fun (y : JV) W (h1 : y.dn ≤ 65536) (h2 : y.sn ≤ 64) (h3 : y.pt.length ≤ 9223372036854775807) => xdv y h1 h2 h3 W)
 have HR := xmA hR
 have HT := xmA hT
 have HD0 := xmA hD
 have hjb := xdc w j
 obtain ⟨w1, hw⟩ : ∃ W, w.alloc (.cells (jCs j) 25) = W := ⟨_, rfl⟩
 rw [hw] at hjb
 have hk1 : xaa (fun _ => False) w w1 := by rw [← hw]; exact (xaa.refl _ _).alloc _
 have hs1 : w1.heap.size = w.heap.size + 1 := by rw [← hw]; simp
 have HK1 := xmA hk1
 have HJ1 := xmA hjb
 unfold jCs at hw
 have HW := xmA hw
 clear hjb hk1 hw hR hD hT
 unfold jV at hLi hSh
 have HLi := xmA hLi
 have HSh := xmA hSh
 clear hLi hSh
 have HW0 := HW
 unfold jV jCs
 go_enter Tryz.func5, Tryz.ntmps5
 go_upto_region 1 with fail
 rw [HW.out]
 clear HW HW0
 generalize (Value.agg #[.slice j.da j.dn j.dc, .slice j.sa j.sn j.sc, .int .i64 j.fl, .int .i64 j.cd, .int .i64 j.mo, .string ⟨j.pt.toArray⟩, .int .i64 j.ev, .int .i64 j.bd, .int .i64 j.te, .int .i64 j.be, .int .i64 j.af, .int .i64 j.rf, .int .i64 j.bu, .int .i64 j.ch, .int .i64 j.ro, .int .i64 j.wo, .int .i64 j.rg]) = z0
 go_wp2_with fail
 refine (HA.out _ (HT.out.keeps HK1.out)).mono ?_
 rintro e w2 ⟨rfl, k2⟩
 have HK2 := xmA (HK1.out.trans k2)
 have HJ2 := xmA (HJ1.out.keeps k2 id)
 clear k2 HK1 HJ1
 go_wp2_with (refine xam rfl 25 (.tmp 2) rfl w.heap.size rfl 25 (jCs j) (0, 0) _ HJ2.out Tryz.underlying25 rfl (xar j) ?_)
 refine (HLi.out _).mono ?_
 rintro e w3 ⟨b, rfl, hb, k3⟩
 have HK3 := xmA (HK2.out.trans k3)
 have HJ3 := xmA (HJ2.out.keeps k3 id)
 clear k3 HK2 HJ2
 cases b with
 | false =>
  clear hb
  go_wp2_with fail
  refine (HA.out _ (HT.out.keeps HK3.out)).mono ?_
  rintro e w4 ⟨rfl, k4⟩
  have HK4 := xmA (HK3.out.trans k4)
  have HJ4 := xmA (HJ3.out.keeps k4 id)
  clear k4 HK3 HJ3
  go_wp2_with fail
  go_ret
  exact ⟨rfl, HK4.out⟩
 | true =>
  obtain ⟨l1, l2, l3⟩ := hb rfl
  obtain ⟨data, hD1⟩ := HD0.out l1
  have hdl0 : data.length = j.dn := by
   obtain ⟨a', c', e9, _⟩ := hD1
   exact (Value.slice.inj e9).2.1.symm
  have HD := xmA hD1
  clear hD1 HD0 hb
  go_wp2_with (refine xam rfl 25 (.tmp 2) rfl w.heap.size rfl 25 (jCs j) (0, 0) _ HJ3.out Tryz.underlying25 rfl (xar j) ?_)
  refine (HSh.out _).mono ?_
  rintro e w4 ⟨b, rfl, hb, k4⟩
  have HK4 := xmA (HK3.out.trans k4)
  have HJ4 := xmA (HJ3.out.keeps k4 id)
  clear k4 HK3 HJ3
  cases b with
  | false =>
   clear hb
   go_wp2_with fail
   refine (HA.out _ (HT.out.keeps HK4.out)).mono ?_
   rintro e w5 ⟨rfl, k5⟩
   have HK5 := xmA (HK4.out.trans k5)
   have HJ5 := xmA (HJ4.out.keeps k5 id)
   clear k5 HK4 HJ4
   go_wp2_with fail
   go_ret
   exact ⟨rfl, HK5.out⟩
  | true =>
   clear hb
   have hRj := fun W => HRi.out j W (by omega) (by omega) hp
   unfold jV at hRj
   have HRj := xmA hRj
   clear hRj
   go_wp2_with (refine xam rfl 25 (.tmp 2) rfl w.heap.size rfl 25 (jCs j) (0, 0) _ HJ4.out Tryz.underlying25 rfl (xar j) ?_)
   refine (HRj.out _).mono ?_
   rintro e w5 ⟨b, rfl, hb, k5⟩
   have HK5 := xmA (HK4.out.trans k5)
   have HJ5 := xmA (HJ4.out.keeps k5 id)
   clear k5 HK4 HJ4
   cases b with
   | false =>
    clear hb
    go_wp2_with fail
    refine (HA.out _ (HT.out.keeps HK5.out)).mono ?_
    rintro e w6 ⟨rfl, k6⟩
    have HK6 := xmA (HK5.out.trans k6)
    have HJ6 := xmA (HJ5.out.keeps k6 id)
    clear k6 HK5 HJ5
    go_wp2_with fail
    go_ret
    exact ⟨rfl, HK6.out⟩
   | true =>
    have hok := hb rfl
    have hdl : data.length ≤ 200 := by omega
    clear hdl0 hb
    have HOk := xmA hok
    clear hok
    go_upto_region 3 with fail
    generalize Value.agg (jCs j) = z2
    have hlt9 : w.heap.size < w5.heap.size := (Array.getElem?_eq_some_iff.1 HJ5.out).1
    obtain ⟨q, hq⟩ : ∃ q, xcb j.ev n = q := ⟨_, rfl⟩
    have hLA := fun (W : World) => xe7 j n hn W
    have hLB := fun (W : World) => xhb j n hn W
    rw [hq] at hLA hLB
    unfold jV at hLA hLB
    have HLA := xmA hLA
    have HLB := xmA hLB
    clear hLA hLB hq
    go_cut [37] (fun v wd => v = .bool false ∧ xaa (fun _ => False) w5 wd)
    case first =>
     obtain ⟨wd, hwd⟩ : ∃ W : World, { w5 with drawn := w5.drawn + 1 } = W := ⟨_, rfl⟩
     have hS : JbAt wd w.heap.size j ∧ xaa (fun _ => False) w5 wd := by rw [← hwd]; exact ⟨HJ5.out, rfl, rfl, rfl, Nat.le_refl _, fun _ _ _ => rfl⟩
     refine wp_region_held (S := fun w' => JbAt w' w.heap.size j ∧ xaa (fun _ => False) w5 w') (by kernel_rfl) ?_
     rw [hwd]
     refine wpAnyH_take (i := 0) (v := .agg (jCs j)) rfl (by kernel_rfl) (by kernel_rfl) (by kernel_rfl) (fun _ _ _ h => h) (Or.inl ⟨by rfl, fun w' hs => xbb 25 (.tmp 2) (by rfl) w.heap.size (by rfl) 25 (jCs j) (0, 0) _ hs.1 Tryz.underlying25 (by rfl) (xar j)⟩) hS ?_
     refine wpAnyH_take (i := 1) (v := .int .i64 n) rfl (by kernel_rfl) (by kernel_rfl) (by kernel_rfl) (fun _ _ _ h => h) (Or.inl ⟨by rfl, fun w' hs => by rfl⟩) hS ?_
     refine wpAnyH_take (i := 3) (v := .agg (jCs j)) rfl (by kernel_rfl) (by kernel_rfl) (by kernel_rfl) (fun _ _ _ h => h) (Or.inl ⟨by rfl, fun w' hs => xbb 25 (.tmp 2) (by rfl) w.heap.size (by rfl) 25 (jCs j) (0, 0) _ hs.1 Tryz.underlying25 (by rfl) (xar j)⟩) hS ?_
     refine wpAnyH_take (i := 4) (v := .int .i64 n) rfl (by kernel_rfl) (by kernel_rfl) (by kernel_rfl) (fun _ _ _ h => h) (Or.inl ⟨by rfl, fun w' hs => by rfl⟩) hS ?_
     refine wpAnyH_ready (rs := [2]) (by kernel_rfl) (by simp) (AllReadyH.cons rfl (fun K hK => ?_) AllReadyH.nil)
     refine xf2 rfl 13 #[.agg (jCs j), .int .i64 n] (by go_simp) ?_
     refine (HLA.out _).mono ?_
     rintro e we ⟨rfl, ke⟩
     refine ⟨_, rfl, hK.out _ _ ⟨hS.1.keeps ke id, hS.2.trans ke⟩ (fun hS2 => ?_)⟩
     refine wpAnyH_ready (rs := [5]) (by kernel_rfl) (by simp) (AllReadyH.cons rfl (fun K hK => ?_) AllReadyH.nil)
     refine xf2 rfl 14 #[.agg (jCs j), .int .i64 n] (by go_simp) ?_
     refine (HLB.out _).mono ?_
     rintro e wf ⟨rfl, kf⟩
     refine ⟨_, rfl, hK.out _ _ ⟨hS2.1.keeps kf id, hS2.2.trans kf⟩ (fun hS3 => ?_)⟩
     refine wpAnyH_take (i := 6) (v := .bool false) rfl (by kernel_rfl) (by kernel_rfl) (by kernel_rfl) (fun _ _ _ h => h) (Or.inl ⟨by rfl, fun w' hs => xfG (.tmp 33) (.tmp 36) (by rfl) q (by rfl) (by rfl)⟩) hS3 ?_
     refine wpAnyH_done (by kernel_rfl) ?_ _
     generalize Value.agg (jCs j) = z4 at *
     go_wp2_with fail
     go_meet
     case rel => exact ⟨rfl, hS3.2⟩
    case rest =>
     obtain ⟨rfl, kc⟩ := hcut
     rename World => w6
     have HK6 := xmA (HK5.out.trans kc)
     have HJ6 := xmA (HJ5.out.keeps kc id)
     have hlt8 : w.heap.size < w6.heap.size := (Array.getElem?_eq_some_iff.1 HJ6.out).1
     clear kc HK5 HJ5 HLA HLB
     go_upto_region 5 with fail
     go_cut [5, 6] (fun v5 v6 wc => TwoJ w6 j v5 v6 wc)
     case first =>
      obtain ⟨wd, hwd⟩ : ∃ W : World, { w6 with drawn := w6.drawn + 1 } = W := ⟨_, rfl⟩
      have hS : JbAt wd w.heap.size j := by rw [← hwd]; exact HJ6.out
      have hsd : wd.heap.size = w6.heap.size := by rw [← hwd]
      refine wp_region_held (S := fun w' => JbAt w' w.heap.size j) (by kernel_rfl) ?_
      rw [hwd]
      refine wpAnyH_take (i := 0) (v := .agg (jCs j)) rfl (by kernel_rfl) (by kernel_rfl) (by kernel_rfl) (fun _ _ _ h => h) (Or.inl ⟨by rfl, fun w' hs => xbb 25 (.tmp 2) (by rfl) w.heap.size (by rfl) 25 (jCs j) (0, 0) _ hs Tryz.underlying25 (by rfl) (xar j)⟩) hS ?_
      refine wpAnyH_take (i := 1) (v := .agg (jCs j)) rfl (by kernel_rfl) (by kernel_rfl) (by kernel_rfl) (fun _ _ _ h => h) (Or.inl ⟨by rfl, fun w' hs => xbb 25 (.tmp 2) (by rfl) w.heap.size (by rfl) 25 (jCs j) (0, 0) _ hs Tryz.underlying25 (by rfl) (xar j)⟩) hS ?_
      have hS1 : JbAt (wd.alloc (.cells #[.slice none 0 0, .slice none 0 0, .int .i64 0, .int .i64 0, .int .i64 0, .string ⟨#[]⟩, .int .i64 0, .int .i64 0, .int .i64 0, .int .i64 0, .int .i64 0, .int .i64 0, .int .i64 0, .int .i64 0, .int .i64 0, .int .i64 0, .int .i64 0] 25)) w.heap.size j := hS.keeps (S := fun _ => False) ((xaa.refl _ _).alloc _) id
      have hS2 : JbAt ((wd.alloc (.cells #[.slice none 0 0, .slice none 0 0, .int .i64 0, .int .i64 0, .int .i64 0, .string ⟨#[]⟩, .int .i64 0, .int .i64 0, .int .i64 0, .int .i64 0, .int .i64 0, .int .i64 0, .int .i64 0, .int .i64 0, .int .i64 0, .int .i64 0, .int .i64 0] 25)).alloc (.cells #[.slice none 0 0, .slice none 0 0, .int .i64 0, .int .i64 0, .int .i64 0, .string ⟨#[]⟩, .int .i64 0, .int .i64 0, .int .i64 0, .int .i64 0, .int .i64 0, .int .i64 0, .int .i64 0, .int .i64 0, .int .i64 0, .int .i64 0, .int .i64 0] 25)) w.heap.size j := hS1.keeps (S := fun _ => False) ((xaa.refl _ _).alloc _) id
      have hlt : w.heap.size < wd.heap.size := (Array.getElem?_eq_some_iff.1 hS).1
      refine wpAnyH_ready (rs := [2, 3]) (by kernel_rfl) (by simp) ?_
      refine AllReadyH.cons rfl (fun K hK => ?_) (AllReadyH.cons rfl (fun K hK => ?_) AllReadyH.nil)
      · skip
        refine xaI rfl rfl (hK.out _ _ hS1 (fun _ => ?_))
        refine wpAnyH_ready (rs := [3]) (by kernel_rfl) (by simp) (AllReadyH.cons rfl (fun K hK => ?_) AllReadyH.nil)
        refine xaI rfl rfl (hK.out _ _ hS2 (fun _ => ?_))
        have hz : (wd.alloc (.cells #[.slice none 0 0, .slice none 0 0, .int .i64 0, .int .i64 0, .int .i64 0, .string ⟨#[]⟩, .int .i64 0, .int .i64 0, .int .i64 0, .int .i64 0, .int .i64 0, .int .i64 0, .int .i64 0, .int .i64 0, .int .i64 0, .int .i64 0, .int .i64 0] 25)).heap.size = wd.heap.size + 1 := by simp
        rw [hz]
        have n1 := xaa.heap (S := fun _ => False) ((xaa.refl _ _).alloc (.cells #[.slice none 0 0, .slice none 0 0, .int .i64 0, .int .i64 0, .int .i64 0, .string ⟨#[]⟩, .int .i64 0, .int .i64 0, .int .i64 0, .int .i64 0, .int .i64 0, .int .i64 0, .int .i64 0, .int .i64 0, .int .i64 0, .int .i64 0, .int .i64 0] 25)) (heap_alloc_new wd (.cells #[.slice none 0 0, .slice none 0 0, .int .i64 0, .int .i64 0, .int .i64 0, .string ⟨#[]⟩, .int .i64 0, .int .i64 0, .int .i64 0, .int .i64 0, .int .i64 0, .int .i64 0, .int .i64 0, .int .i64 0, .int .i64 0, .int .i64 0, .int .i64 0] 25)) id
        have n2 := heap_alloc_new (wd.alloc (.cells #[.slice none 0 0, .slice none 0 0, .int .i64 0, .int .i64 0, .int .i64 0, .string ⟨#[]⟩, .int .i64 0, .int .i64 0, .int .i64 0, .int .i64 0, .int .i64 0, .int .i64 0, .int .i64 0, .int .i64 0, .int .i64 0, .int .i64 0, .int .i64 0] 25)) (.cells #[.slice none 0 0, .slice none 0 0, .int .i64 0, .int .i64 0, .int .i64 0, .string ⟨#[]⟩, .int .i64 0, .int .i64 0, .int .i64 0, .int .i64 0, .int .i64 0, .int .i64 0, .int .i64 0, .int .i64 0, .int .i64 0, .int .i64 0, .int .i64 0] 25)
        rw [hz] at n2
        obtain ⟨we, hwe⟩ : ∃ W, (wd.alloc (.cells #[.slice none 0 0, .slice none 0 0, .int .i64 0, .int .i64 0, .int .i64 0, .string ⟨#[]⟩, .int .i64 0, .int .i64 0, .int .i64 0, .int .i64 0, .int .i64 0, .int .i64 0, .int .i64 0, .int .i64 0, .int .i64 0, .int .i64 0, .int .i64 0] 25)).alloc (.cells #[.slice none 0 0, .slice none 0 0, .int .i64 0, .int .i64 0, .int .i64 0, .string ⟨#[]⟩, .int .i64 0, .int .i64 0, .int .i64 0, .int .i64 0, .int .i64 0, .int .i64 0, .int .i64 0, .int .i64 0, .int .i64 0, .int .i64 0, .int .i64 0] 25) = W := ⟨_, rfl⟩
        rw [hwe] at n1 n2 hS2 ⊢
        have ka : ∀ (X : World) (g : Nat), xaa (fun x => x = g) X (X.setRow g (jCs j)) := fun X g => ⟨rfl, rfl, rfl, by simp, fun k hk hs => setRow_other _ _ _ _ hs⟩
        have hS3 := hS2.keeps (ka we wd.heap.size) (by show ¬ w.heap.size = wd.heap.size; omega)
        have hS4 := hS3.keeps (ka _ (wd.heap.size + 1)) (by show ¬ w.heap.size = (wd.heap.size + 1); omega)
        have n4 := (ka we wd.heap.size).heap n2 (by show ¬ (wd.heap.size + 1) = wd.heap.size; omega)
        refine wpAnyH_ready (rs := [4]) (by kernel_rfl) (by simp) (AllReadyH.cons rfl (fun K hK => ?_) AllReadyH.nil)
        refine xaH rfl 25 (.tmp 5) (.tmp 38) rfl wd.heap.size (jCs j) rfl rfl 25 _ n1 (xar j) rfl (xbU j) (hK.out _ _ hS3 (fun _ => ?_))
        refine wpAnyH_ready (rs := [5]) (by kernel_rfl) (by simp) (AllReadyH.cons rfl (fun K hK => ?_) AllReadyH.nil)
        refine xaH rfl 25 (.tmp 6) (.tmp 39) rfl (wd.heap.size + 1) (jCs j) rfl rfl 25 _ n4 (xar j) rfl (xbU j) (hK.out _ _ hS4 (fun _ => wpAnyH_done (by kernel_rfl) ?_ _))
        have hT := xdS w6 wd hwd.symm j wd.heap.size (wd.heap.size + 1) (by omega) _ (by rw [hwe])
        generalize (we.setRow wd.heap.size (jCs j)).setRow (wd.heap.size + 1) (jCs j) = wf at *
        generalize Value.agg (jCs j) = z4 at *
        go_wp2_with fail
        go_meet
        case rel => exact hT
      skip
      refine xaI rfl rfl (hK.out _ _ hS1 (fun _ => ?_))
      refine wpAnyH_ready (rs := [2]) (by kernel_rfl) (by simp) (AllReadyH.cons rfl (fun K hK => ?_) AllReadyH.nil)
      refine xaI rfl rfl (hK.out _ _ hS2 (fun _ => ?_))
      have hz : (wd.alloc (.cells #[.slice none 0 0, .slice none 0 0, .int .i64 0, .int .i64 0, .int .i64 0, .string ⟨#[]⟩, .int .i64 0, .int .i64 0, .int .i64 0, .int .i64 0, .int .i64 0, .int .i64 0, .int .i64 0, .int .i64 0, .int .i64 0, .int .i64 0, .int .i64 0] 25)).heap.size = wd.heap.size + 1 := by simp
      rw [hz]
      have n1 := xaa.heap (S := fun _ => False) ((xaa.refl _ _).alloc (.cells #[.slice none 0 0, .slice none 0 0, .int .i64 0, .int .i64 0, .int .i64 0, .string ⟨#[]⟩, .int .i64 0, .int .i64 0, .int .i64 0, .int .i64 0, .int .i64 0, .int .i64 0, .int .i64 0, .int .i64 0, .int .i64 0, .int .i64 0, .int .i64 0] 25)) (heap_alloc_new wd (.cells #[.slice none 0 0, .slice none 0 0, .int .i64 0, .int .i64 0, .int .i64 0, .string ⟨#[]⟩, .int .i64 0, .int .i64 0, .int .i64 0, .int .i64 0, .int .i64 0, .int .i64 0, .int .i64 0, .int .i64 0, .int .i64 0, .int .i64 0, .int .i64 0] 25)) id
      have n2 := heap_alloc_new (wd.alloc (.cells #[.slice none 0 0, .slice none 0 0, .int .i64 0, .int .i64 0, .int .i64 0, .string ⟨#[]⟩, .int .i64 0, .int .i64 0, .int .i64 0, .int .i64 0, .int .i64 0, .int .i64 0, .int .i64 0, .int .i64 0, .int .i64 0, .int .i64 0, .int .i64 0] 25)) (.cells #[.slice none 0 0, .slice none 0 0, .int .i64 0, .int .i64 0, .int .i64 0, .string ⟨#[]⟩, .int .i64 0, .int .i64 0, .int .i64 0, .int .i64 0, .int .i64 0, .int .i64 0, .int .i64 0, .int .i64 0, .int .i64 0, .int .i64 0, .int .i64 0] 25)
      rw [hz] at n2
      obtain ⟨we, hwe⟩ : ∃ W, (wd.alloc (.cells #[.slice none 0 0, .slice none 0 0, .int .i64 0, .int .i64 0, .int .i64 0, .string ⟨#[]⟩, .int .i64 0, .int .i64 0, .int .i64 0, .int .i64 0, .int .i64 0, .int .i64 0, .int .i64 0, .int .i64 0, .int .i64 0, .int .i64 0, .int .i64 0] 25)).alloc (.cells #[.slice none 0 0, .slice none 0 0, .int .i64 0, .int .i64 0, .int .i64 0, .string ⟨#[]⟩, .int .i64 0, .int .i64 0, .int .i64 0, .int .i64 0, .int .i64 0, .int .i64 0, .int .i64 0, .int .i64 0, .int .i64 0, .int .i64 0, .int .i64 0] 25) = W := ⟨_, rfl⟩
      rw [hwe] at n1 n2 hS2 ⊢
      have ka : ∀ (X : World) (g : Nat), xaa (fun x => x = g) X (X.setRow g (jCs j)) := fun X g => ⟨rfl, rfl, rfl, by simp, fun k hk hs => setRow_other _ _ _ _ hs⟩
      have hS3 := hS2.keeps (ka we (wd.heap.size + 1)) (by show ¬ w.heap.size = (wd.heap.size + 1); omega)
      have hS4 := hS3.keeps (ka _ wd.heap.size) (by show ¬ w.heap.size = wd.heap.size; omega)
      have n4 := (ka we (wd.heap.size + 1)).heap n1 (by show ¬ wd.heap.size = (wd.heap.size + 1); omega)
      refine wpAnyH_ready (rs := [4]) (by kernel_rfl) (by simp) (AllReadyH.cons rfl (fun K hK => ?_) AllReadyH.nil)
      refine xaH rfl 25 (.tmp 5) (.tmp 38) rfl (wd.heap.size + 1) (jCs j) rfl rfl 25 _ n2 (xar j) rfl (xbU j) (hK.out _ _ hS3 (fun _ => ?_))
      refine wpAnyH_ready (rs := [5]) (by kernel_rfl) (by simp) (AllReadyH.cons rfl (fun K hK => ?_) AllReadyH.nil)
      refine xaH rfl 25 (.tmp 6) (.tmp 39) rfl wd.heap.size (jCs j) rfl rfl 25 _ n4 (xar j) rfl (xbU j) (hK.out _ _ hS4 (fun _ => wpAnyH_done (by kernel_rfl) ?_ _))
      have hT := xdS w6 wd hwd.symm j (wd.heap.size + 1) wd.heap.size (by omega) _ (by rw [hwe])
      generalize (we.setRow (wd.heap.size + 1) (jCs j)).setRow wd.heap.size (jCs j) = wf at *
      generalize Value.agg (jCs j) = z4 at *
      go_wp2_with fail
      go_meet
      case rel => exact hT
     case rest =>
      obtain ⟨ba, bb, rfl, rfl, hne, hba, hbb, hja, hjb, kc⟩ := hcut
      have HK7 := xmA (HK6.out.trans kc)
      have HA7 := xmA hja
      have HB7 := xmA hjb
      have ya := hja.c.2.2.2.2.2.2.2.2.1
      have yb := hjb.c.2.2.2.2.2.2.2.2.1
      have yb6 := hjb.c.2.2.2.2.2.2.1
      have yfa : ∀ i, wc.frozen? ⟨ba, i, none⟩ = false := fun i => Lib.frozen_of_heap HA7.out i
      have yfb : ∀ i, wc.frozen? ⟨bb, i, none⟩ = false := fun i => Lib.frozen_of_heap HB7.out i
      have hne2 : ¬ bb = ba := fun e => hne e.symm
      clear hja hjb kc HK6 HJ6
      go_upto_region 7 with fail
      obtain ⟨wd, hwd⟩ : ∃ W, ((wc.setCell ⟨ba, 8, none⟩ (.int .i64 0)).setCell ⟨bb, 8, none⟩ (.int .i64 0)).setCell ⟨bb, 6, none⟩ (.int .i64 0) = W := ⟨_, rfl⟩
      rw [hwd]
      obtain ⟨ha, hb, kd⟩ := lk_set wc wd ba bb w6.heap.size j HA7.out HB7.out hne hba hbb hwd
      have HK8 := xmA (HK7.out.trans2 kd (fun b hb e => by have e : w6.heap.size ≤ b := e; omega))
      have HA8 := xmA ha
      have HB8 := xmA hb
      clear ha hb kd hwd ya yb yb6 yfa yfb HK7 HA7 HB7
      obtain ⟨P1, hP1⟩ : ∃ P, (if bad then ([], 2) else runJ f { j with te := 0 } data) = P := ⟨_, rfl⟩
      obtain ⟨P2, hP2⟩ : ∃ P, (if bad then ([], 2) else runJ f { j with te := 0, ev := 0 } data) = P := ⟨_, rfl⟩
      obtain ⟨hE, hSub⟩ := xkk f bad j data P1 P2 hP1 hP2
      have hRa := fun (W : World) (K : xaa (fun _ => False) w W) => HR.out { j with te := 0 } data W rfl (jok_te HOk.out) (HD.out.keep K) hdl (HT.out.keeps K)
      have hRb := fun (W : World) (K : xaa (fun _ => False) w W) => HR.out { j with te := 0, ev := 0 } data W rfl (jok_te2 HOk.out) (HD.out.keep K) hdl (HT.out.keeps K)
      rw [hP1] at hRa
      rw [hP2] at hRb
      obtain ⟨xa, hxa⟩ : ∃ x : JV, { j with te := 0 } = x := ⟨_, rfl⟩
      obtain ⟨xb, hxb⟩ : ∃ x : JV, { j with te := 0, ev := 0 } = x := ⟨_, rfl⟩
      rw [hxa] at hRa HA8
      rw [hxb] at hRb HB8
      unfold jV RunE at hRa hRb
      have HRa := xmA hRa
      have HRb := xmA hRb
      have HSub := xmA hSub
      have ge : (P1.2 == P2.2) = true := by rw [hE]; simp
      clear hRa hRb hP1 hP2 hxa hxb hE hSub
      go_wp2_with (refine xam rfl 25 (.tmp 5) rfl ba rfl 25 (jCs xa) (0, 0) _ HA8.out Tryz.underlying25 rfl (xar xa) ?_)
      refine (HRa.out _ HK8.out).mono ?_
      rintro e w9 ⟨va, rfl, hOa, k9, hlena⟩
      have HK9 := xmA (HK8.out.trans k9)
      have HA9 := xmA (HA8.out.keeps k9 id)
      have HB9 := xmA (HB8.out.keeps k9 id)
      have HOa := xmA hOa
      clear hOa
      clear k9 HK8 HA8 HB8
      generalize Value.agg (jCs xa) = z5
      go_wp2_with (refine xam rfl 25 (.tmp 6) rfl bb rfl 25 (jCs xb) (0, 0) _ HB9.out Tryz.underlying25 rfl (xar xb) ?_)
      refine (HRb.out _ HK9.out).mono ?_
      rintro e w10 ⟨vb, rfl, hOb, k10, hlenb⟩
      have HK10 := xmA (HK9.out.trans k10)
      have HA10 := xmA (HA9.out.keeps k10 id)
      have HB10 := xmA (HB9.out.keeps k10 id)
      have hSa := xbE.ofOwn (xae HOa.out k10 (fun _ _ => id)) (by omega)
      have hSb := xbE.ofOwn hOb (by omega)
      clear hOb HOa
      clear k10 HK9 HA9 HB9
      generalize Value.agg (jCs xb) = z6
      obtain ⟨L1, e1⟩ := P1
      obtain ⟨L2, e2⟩ := P2
      have HSub : Hid (L1.Sublist L2) := HSub
      have ge : (e1 == e2) = true := ge
      have hlena : L1.length ≤ 1000000000 := hlena
      have hlenb : L2.length ≤ 1000000000 := hlenb
      obtain ⟨aa, ca, rfl, ⟨hca, _⟩, _, hcA⟩ := hSa
      obtain ⟨ab, cb, rfl, ⟨hcb, _⟩, _, hcB⟩ := hSb
      have HCA := xmA hcA
      have HCB := xmA hcB
      clear hcA hcB
      go_wp2_with fail
      go_loopw [11, 12] (fun kv iv wr => ∃ k i : Nat, kv = .int .i64 k ∧ iv = .int .i64 i ∧ k ≤ L1.length ∧ i ≤ L2.length ∧ (L1.drop k).Sublist (L2.drop i) ∧ xaa (fun _ => False) w10 wr) (fun _ iv _ => L2.length - (intOf iv).toNat)
      case atStart => exact ⟨0, 0, rfl, rfl, Nat.zero_le _, Nat.zero_le _, by simpa using HSub.out, xaa.refl _ _⟩
      case round =>
       obtain ⟨k, i, rfl, rfl, hk, hi, hs, hkr⟩ := hrel
       have HS := xmA hs
       have HKR := xmA hkr
       clear hs
       by_cases hil : i < L2.length
       · have b1 : decide ((i : Int) < (L2.length : Int)) = true := by simp; omega
         by_cases hkl : k < L1.length
         · have b2 : decide ((k : Int) < (L1.length : Int)) = true := by simp; omega
           obtain ⟨x, hx⟩ : ∃ x, L1[k]? = some x := ⟨_, List.getElem?_eq_getElem hkl⟩
           obtain ⟨y, hy⟩ : ∃ y, L2[i]? = some y := ⟨_, List.getElem?_eq_getElem hil⟩
           obtain ⟨pb, po, rfl, hcc⟩ := HCA.out (by omega)
           obtain ⟨qb, qo, rfl, hdd⟩ := HCB.out (by omega)
           have c0 := hkr.cell (hcc k x hx 0 (by omega)) id
           have c1 := hkr.cell (hdd i y hy 0 (by omega)) id
           simp only [Nat.add_zero, Nat.mul_one, encS, strL] at c0 c1
           have hd1 : L1.drop k = x :: L1.drop (k + 1) := by
            rw [List.drop_eq_getElem_cons hkl]
            rw [List.getElem?_eq_getElem hkl] at hx
            rw [Option.some.inj hx]
           have hd2 : L2.drop i = y :: L2.drop (i + 1) := by
            rw [List.drop_eq_getElem_cons hil]
            rw [List.getElem?_eq_getElem hil] at hy
            rw [Option.some.inj hy]
           have hst := HS.out
           rw [hd1, hd2] at hst
           have hst := xlc hst
           clear hcc hdd hx hy hd2 hkr
           have a1 : (0 : Int) ≤ (i : Int) := by omega
           have a2 : (i : Int) < (L2.length : Int) := by omega
           have a3 : (0 : Int) ≤ (k : Int) := by omega
           have a4 : (k : Int) < (L1.length : Int) := by omega
           have w1' : IntKind.i64.wrap ((k : Int) + 1) = (k : Int) + 1 := IntWalk.i64_in _ (by omega)
           have w2' : IntKind.i64.wrap ((i : Int) + 1) = (i : Int) + 1 := IntWalk.i64_in _ (by omega)
           by_cases hxy : y = x
           · subst hxy
             rw [if_pos rfl] at hst
             have HSt := xmA hst
             have g1 : ((⟨y.toArray⟩ : ByteArray).toList == (⟨y.toArray⟩ : ByteArray).toList) = true := by simp
             clear hst hd1 HS
             go_wp2_with fail
             go_region
             go_wp2_with fail
             go_roundw
             case rel => exact ⟨k + 1, i + 1, by go_num, by go_num, by omega, by omega, HSt.out, HKR.out.drew⟩
             case measure => simp [intOf]; omega
           rw [if_neg hxy, ← hd1] at hst
           have HSt := xmA hst
           have g1 : ((⟨y.toArray⟩ : ByteArray).toList == (⟨x.toArray⟩ : ByteArray).toList) = false := baNe (fun h => hxy (ba_eq.1 h))
           have g4 : (y.toArray == x.toArray) = false := by rw [beq_eq_false_iff_ne]; exact fun h => hxy (by simpa using h)
           have g6 : (y == x) = false := by rw [beq_eq_false_iff_ne]; exact hxy
           clear hst hd1 HS hxy
           go_wp2_with fail
           go_region
           go_wp2_with fail
           go_roundw
           case rel => exact ⟨k, i + 1, by go_num, by go_num, by omega, by omega, HSt.out, HKR.out.drew⟩
           case measure => simp [intOf]; omega
         have b2 : decide ((k : Int) < (L1.length : Int)) = false := by simp; omega
         obtain rfl : k = L1.length := by omega
         have HKf := xmA (HK10.out.trans hkr)
         have g9 : ((L1.length : Int) == (L1.length : Int)) = true := by simp
         clear hkr
         go_wp2_with fail
         go_ret
         exact ⟨rfl, HKf.out⟩
       have b1 : decide ((i : Int) < (L2.length : Int)) = false := by simp; omega
       obtain rfl : k = L1.length := by
        have h := HS.out
        rw [List.drop_eq_nil_of_le (by omega : L2.length ≤ i)] at h
        have h2 := List.sublist_nil.1 h
        have h3 := congrArg List.length h2
        rw [List.length_drop] at h3
        simp at h3; omega
       have HKf := xmA (HK10.out.trans hkr)
       have g9 : ((L1.length : Int) == (L1.length : Int)) = true := by simp
       clear hkr
       go_wp2_with fail
       go_ret
       exact ⟨rfl, HKf.out⟩
end Go.Proofs.YtjahiihmoglpfaaGreatDoor
