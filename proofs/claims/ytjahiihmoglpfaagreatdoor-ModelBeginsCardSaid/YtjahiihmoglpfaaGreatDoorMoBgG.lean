/-
  ModelBegins: its walk (printed by mk_laws.py).
-/
import Derived.Test.YtjahiihmoglpfaaGreatDoorMg40
import Derived.BigRegion
import Derived.Deep.Cut
import Derived.Deep.RegionHeld
namespace Go.Proofs.YtjahiihmoglpfaaGreatDoor
open Go.RowKit
set_option linter.unusedVariables false
set_option linter.unusedSimpArgs false
set_option maxRecDepth 100000
theorem xjD (a N : Int) (h : 0 < N) : -N < Int.tmod a N ∧ Int.tmod a N < N := by
 have h1 := Int.tmod_lt_of_pos a h
 refine ⟨?_, h1⟩
 have h2 := Int.tmod_lt_of_pos (-a) h
 rw [Int.neg_tmod] at h2
 omega
theorem fl_set (wc wd : World) (b0 ba bb n : Nat) (j : JV) (F : Int) (h0 : JbAt wc b0 j) (ha : JbAt wc ba j) (hb : JbAt wc bb j) (hne : ba ≠ bb) (h0n : b0 < n) (hna : n ≤ ba) (hnb : n ≤ bb)
 (e : ((wc.setCell ⟨ba, 2, none⟩ (.int .i64 (-1))).setCell ⟨bb, 2, none⟩ (.int .i64 F)).drew = wd) :
 JbAt wd b0 j ∧ JbAt wd ba { j with fl := -1 } ∧ JbAt wd bb { j with fl := F } ∧ xaa (fun b => n ≤ b) wc wd := by
 have k1 : xaa (fun b => b = ba) wc (wc.setCell ⟨ba, 2, none⟩ (.int .i64 (-1))) := xaa.setCell (S := fun b => b = ba) (xaa.refl _ wc) (p := ⟨ba, 2, none⟩) (Or.inl rfl) _
 have h1 : JbAt (wc.setCell ⟨ba, 2, none⟩ (.int .i64 (-1))) ba { j with fl := -1 } := by
  have h0 : wc.heap[ba]? = some (.cells (jCs j) 25 (0, 0)) := ha
  show (World.setCell _ _ _).heap[ba]? = _
  simp [World.setCell, Array.getElem?_modify, h0, jCs]
 have h2 := hb.keeps k1 (fun e => hne e.symm)
 have h3 := h0.keeps k1 (by omega)
 generalize wc.setCell ⟨ba, 2, none⟩ (.int .i64 (-1)) = w1 at *
 have k2 : xaa (fun b => b = bb) w1 (w1.setCell ⟨bb, 2, none⟩ (.int .i64 F)) := xaa.setCell (S := fun b => b = bb) (xaa.refl _ w1) (p := ⟨bb, 2, none⟩) (Or.inl rfl) _
 have h4 : JbAt (w1.setCell ⟨bb, 2, none⟩ (.int .i64 F)) bb { j with fl := F } := by
  have h0 : w1.heap[bb]? = some (.cells (jCs j) 25 (0, 0)) := h2
  show (World.setCell _ _ _).heap[bb]? = _
  simp [World.setCell, Array.getElem?_modify, h0, jCs]
 have h5 := h1.keeps k2 hne
 have h6 := h3.keeps k2 (by omega)
 subst e
 exact ⟨h6, h5, h4, ((k1.mono (fun b _ e => by have e : b = ba := e; show n ≤ b; omega)).trans (k2.mono (fun b _ e => by have e : b = bb := e; show n ≤ b; omega))).drew⟩
theorem xmt {j : JV} (h : JOk j) (F : Int) : JOk { j with fl := F } := ⟨h.da, h.sz, h.cd, h.mo, h.te, h.be, h.af, h.bu, h.ch, h.ro, h.wo, h.rg⟩
theorem xjp (f : List UInt8 → List (Int × Int)) (bad : Bool) (j : JV) (F : Nat) (data : List UInt8) (hF : F ≤ j.dn) (hcd : 0 ≤ j.cd ∧ j.cd ≤ 3) (hte : j.te ≠ 2) (P1 P2 : List (List UInt8) × Int)
 (h1 : (if bad then ([], 2) else runJ f { j with fl := -1 } data) = P1) (h2 : (if bad then ([], 2) else runJ f { j with fl := (F : Int) } data) = P2) :
 (∃ z, P1.1 = P2.1 ++ z) ∧ (P2.2 = 11 ∨ P2 = P1) := by
 cases bad with
 | true =>
  subst h1; subst h2
  exact ⟨⟨[], by simp⟩, Or.inr rfl⟩
 | false =>
  rw [if_neg (by simp)] at h1 h2
  have e1 : runJ f { j with fl := -1 } data = runP j.ev f j.te j.be.toNat j.af.toNat (xdP j.cd j.mo.toNat data) := by
   unfold runJ xcj
   rw [if_neg (by unfold xbT; simp)]
  have e2 : runJ f { j with fl := (F : Int) } data = runP j.ev f j.te j.be.toNat j.af.toNat (xeH j.cd j.mo.toNat (data.take F)) := by
   unfold runJ xcj
   rw [if_pos (by unfold xbT; simp; omega)]
   rfl
  rw [e1] at h1
  rw [e2] at h2
  obtain ⟨b1, b2⟩ := xhf j.cd hcd j.mo.toNat data F
  have := xiJ j.ev f j.te j.be.toNat j.af.toNat hte _ _ b1 b2
  rw [h1, h2] at this
  exact this
theorem xbE.take {w : World} {a : Option Addr} {n c : Nat} {l : List (List UInt8)} (h : xbE w (.slice a n c) l) (k : Nat) (hk : k ≤ n) : xbE w (.slice a k c) (l.take k) := by
 obtain ⟨a', c', e, ⟨h1, h2⟩, h3, h4⟩ := h
 obtain ⟨rfl, rfl, rfl⟩ := Value.slice.inj e
 have hl : (l.take k).length = k := by rw [List.length_take]; omega
 refine ⟨a, c, by rw [hl], ⟨by omega, h2⟩, by omega, fun h0 => ?_⟩
 obtain ⟨b, off, rfl, hc⟩ := h4 (by omega)
 refine ⟨b, off, rfl, fun i x hx j hj => hc i x ?_ j hj⟩
 rw [List.getElem?_take] at hx
 split at hx
 · exact hx
 cases hx
set_option maxHeartbeats 40000000 in
theorem xjq (j : JV) (fail : Int) (hf : in64 fail) (w : World) (hD : j.dn ≤ 200 → ∃ data : List UInt8, SlOf 1 encB w (.slice j.da j.dn j.dc) data) (hT : TabW w) (hp : j.pt.length ≤ 9223372036854775807) :
 Calls Tryz.prog 4 #[jV j, .int .i64 fail] w fun e w' => e = .returned (.bool true) ∧ xaa (fun _ => False) w w' := by
 obtain ⟨bad, f, hR⟩ := xec j.pt hp
 have HA := xmA (fun (W : World) (h : TabW W) => xdG W h)
 have hLi := fun W => xdw j W hp
 have hSh := fun W => xdu j W hp
 have HRi := xmA (fun (y : JV) W (h1 : y.dn ≤ 65536) (h2 : y.sn ≤ 64) (h3 : y.pt.length ≤ 9223372036854775807) => xdv y h1 h2 h3 W)
 have HR := xmA hR
 have HT := xmA hT
 have HD0 := xmA hD
 have hjb := xdc w j
 obtain ⟨w1, hw⟩ : ∃ W, w.alloc (.cells (jCs j) 25) = W := ⟨_, rfl⟩
 rw [hw] at hjb
 have hk1 : xaa (fun _ => False) w w1 := by rw [← hw]; exact (xaa.refl _ _).alloc _
 have hs1 : w1.heap.size = w.heap.size + 1 := by rw [← hw]; simp
 have HK1 := xmA hk1
 have HJ1 := xmA hjb
 unfold jCs at hw
 have HW := xmA hw
 clear hjb hk1 hw hR hD hT
 unfold jV at hLi hSh
 have HLi := xmA hLi
 have HSh := xmA hSh
 clear hLi hSh
 have HW0 := HW
 unfold jV jCs
 go_enter Tryz.func4, Tryz.ntmps4
 go_upto_region 1 with fail
 rw [HW.out]
 clear HW HW0
 generalize (Value.agg #[.slice j.da j.dn j.dc, .slice j.sa j.sn j.sc, .int .i64 j.fl, .int .i64 j.cd, .int .i64 j.mo, .string ⟨j.pt.toArray⟩, .int .i64 j.ev, .int .i64 j.bd, .int .i64 j.te, .int .i64 j.be, .int .i64 j.af, .int .i64 j.rf, .int .i64 j.bu, .int .i64 j.ch, .int .i64 j.ro, .int .i64 j.wo, .int .i64 j.rg]) = z0
 go_wp2_with fail
 refine (HA.out _ (HT.out.keeps HK1.out)).mono ?_
 rintro e w2 ⟨rfl, k2⟩
 have HK2 := xmA (HK1.out.trans k2)
 have HJ2 := xmA (HJ1.out.keeps k2 id)
 clear k2 HK1 HJ1
 go_wp2_with (refine xam rfl 25 (.tmp 2) rfl w.heap.size rfl 25 (jCs j) (0, 0) _ HJ2.out Tryz.underlying25 rfl (xar j) ?_)
 refine (HLi.out _).mono ?_
 rintro e w3 ⟨b, rfl, hb, k3⟩
 have HK3 := xmA (HK2.out.trans k3)
 have HJ3 := xmA (HJ2.out.keeps k3 id)
 clear k3 HK2 HJ2
 cases b with
 | false =>
  clear hb
  go_wp2_with fail
  refine (HA.out _ (HT.out.keeps HK3.out)).mono ?_
  rintro e w4 ⟨rfl, k4⟩
  have HK4 := xmA (HK3.out.trans k4)
  have HJ4 := xmA (HJ3.out.keeps k4 id)
  clear k4 HK3 HJ3
  go_wp2_with fail
  go_ret
  exact ⟨rfl, HK4.out⟩
 | true =>
  obtain ⟨l1, l2, l3⟩ := hb rfl
  obtain ⟨data, hD1⟩ := HD0.out l1
  have hdl0 : data.length = j.dn := by
   obtain ⟨a', c', e9, _⟩ := hD1
   exact (Value.slice.inj e9).2.1.symm
  have HD := xmA hD1
  clear hD1 HD0 hb
  go_wp2_with (refine xam rfl 25 (.tmp 2) rfl w.heap.size rfl 25 (jCs j) (0, 0) _ HJ3.out Tryz.underlying25 rfl (xar j) ?_)
  refine (HSh.out _).mono ?_
  rintro e w4 ⟨b, rfl, hb, k4⟩
  have HK4 := xmA (HK3.out.trans k4)
  have HJ4 := xmA (HJ3.out.keeps k4 id)
  clear k4 HK3 HJ3
  cases b with
  | false =>
   clear hb
   go_wp2_with fail
   refine (HA.out _ (HT.out.keeps HK4.out)).mono ?_
   rintro e w5 ⟨rfl, k5⟩
   have HK5 := xmA (HK4.out.trans k5)
   have HJ5 := xmA (HJ4.out.keeps k5 id)
   clear k5 HK4 HJ4
   go_wp2_with fail
   go_ret
   exact ⟨rfl, HK5.out⟩
  | true =>
   clear hb
   have hRj := fun W => HRi.out j W (by omega) (by omega) hp
   unfold jV at hRj
   have HRj := xmA hRj
   clear hRj
   go_wp2_with (refine xam rfl 25 (.tmp 2) rfl w.heap.size rfl 25 (jCs j) (0, 0) _ HJ4.out Tryz.underlying25 rfl (xar j) ?_)
   refine (HRj.out _).mono ?_
   rintro e w5 ⟨b, rfl, hb, k5⟩
   have HK5 := xmA (HK4.out.trans k5)
   have HJ5 := xmA (HJ4.out.keeps k5 id)
   clear k5 HK4 HJ4
   cases b with
   | false =>
    clear hb
    go_wp2_with fail
    refine (HA.out _ (HT.out.keeps HK5.out)).mono ?_
    rintro e w6 ⟨rfl, k6⟩
    have HK6 := xmA (HK5.out.trans k6)
    have HJ6 := xmA (HJ5.out.keeps k6 id)
    clear k6 HK5 HJ5
    go_wp2_with fail
    go_ret
    exact ⟨rfl, HK6.out⟩
   | true =>
    have hok := hb rfl
    have hdl : data.length ≤ 200 := by omega
    clear hdl0 hb
    have HOk := xmA hok
    clear hok
    by_cases hte : j.te = 2
    · have g9 : (j.te == 2) = true := by simp [hte]
      clear hte
      have q8 := HJ5.out.c.2.2.2.2.2.2.2.2.1
      go_wp2_with fail
      refine (HA.out _ (HT.out.keeps HK5.out)).mono ?_
      rintro e w6 ⟨rfl, k6⟩
      have HK6 := xmA (HK5.out.trans k6)
      have HJ6 := xmA (HJ5.out.keeps k6 id)
      clear k6 HK5 HJ5
      go_wp2_with fail
      go_ret
      exact ⟨rfl, HK6.out⟩
    have g9 : (j.te == 2) = false := by simp [hte]
    have q8 := HJ5.out.c.2.2.2.2.2.2.2.2.1
    go_upto_region 3 with fail
    generalize Value.agg (jCs j) = z2
    clear q8 g9
    have hlt9 : w.heap.size < w5.heap.size := (Array.getElem?_eq_some_iff.1 HJ5.out).1
    go_cut [5, 6] (fun v5 v6 wc => TwoJ w5 j v5 v6 wc)
    case first =>
     obtain ⟨wd, hwd⟩ : ∃ W : World, { w5 with drawn := w5.drawn + 1 } = W := ⟨_, rfl⟩
     have hS : JbAt wd w.heap.size j := by rw [← hwd]; exact HJ5.out
     have hsd : wd.heap.size = w5.heap.size := by rw [← hwd]
     refine wp_region_held (S := fun w' => JbAt w' w.heap.size j) (by kernel_rfl) ?_
     rw [hwd]
     refine wpAnyH_take (i := 0) (v := .agg (jCs j)) rfl (by kernel_rfl) (by kernel_rfl) (by kernel_rfl) (fun _ _ _ h => h) (Or.inl ⟨by rfl, fun w' hs => xbb 25 (.tmp 2) (by rfl) w.heap.size (by rfl) 25 (jCs j) (0, 0) _ hs Tryz.underlying25 (by rfl) (xar j)⟩) hS ?_
     refine wpAnyH_take (i := 1) (v := .agg (jCs j)) rfl (by kernel_rfl) (by kernel_rfl) (by kernel_rfl) (fun _ _ _ h => h) (Or.inl ⟨by rfl, fun w' hs => xbb 25 (.tmp 2) (by rfl) w.heap.size (by rfl) 25 (jCs j) (0, 0) _ hs Tryz.underlying25 (by rfl) (xar j)⟩) hS ?_
     have hS1 : JbAt (wd.alloc (.cells #[.slice none 0 0, .slice none 0 0, .int .i64 0, .int .i64 0, .int .i64 0, .string ⟨#[]⟩, .int .i64 0, .int .i64 0, .int .i64 0, .int .i64 0, .int .i64 0, .int .i64 0, .int .i64 0, .int .i64 0, .int .i64 0, .int .i64 0, .int .i64 0] 25)) w.heap.size j := hS.keeps (S := fun _ => False) ((xaa.refl _ _).alloc _) id
     have hS2 : JbAt ((wd.alloc (.cells #[.slice none 0 0, .slice none 0 0, .int .i64 0, .int .i64 0, .int .i64 0, .string ⟨#[]⟩, .int .i64 0, .int .i64 0, .int .i64 0, .int .i64 0, .int .i64 0, .int .i64 0, .int .i64 0, .int .i64 0, .int .i64 0, .int .i64 0, .int .i64 0] 25)).alloc (.cells #[.slice none 0 0, .slice none 0 0, .int .i64 0, .int .i64 0, .int .i64 0, .string ⟨#[]⟩, .int .i64 0, .int .i64 0, .int .i64 0, .int .i64 0, .int .i64 0, .int .i64 0, .int .i64 0, .int .i64 0, .int .i64 0, .int .i64 0, .int .i64 0] 25)) w.heap.size j := hS1.keeps (S := fun _ => False) ((xaa.refl _ _).alloc _) id
     have hlt : w.heap.size < wd.heap.size := (Array.getElem?_eq_some_iff.1 hS).1
     refine wpAnyH_ready (rs := [2, 3]) (by kernel_rfl) (by simp) ?_
     refine AllReadyH.cons rfl (fun K hK => ?_) (AllReadyH.cons rfl (fun K hK => ?_) AllReadyH.nil)
     · skip
       refine xaI rfl rfl (hK.out _ _ hS1 (fun _ => ?_))
       refine wpAnyH_ready (rs := [3]) (by kernel_rfl) (by simp) (AllReadyH.cons rfl (fun K hK => ?_) AllReadyH.nil)
       refine xaI rfl rfl (hK.out _ _ hS2 (fun _ => ?_))
       have hz : (wd.alloc (.cells #[.slice none 0 0, .slice none 0 0, .int .i64 0, .int .i64 0, .int .i64 0, .string ⟨#[]⟩, .int .i64 0, .int .i64 0, .int .i64 0, .int .i64 0, .int .i64 0, .int .i64 0, .int .i64 0, .int .i64 0, .int .i64 0, .int .i64 0, .int .i64 0] 25)).heap.size = wd.heap.size + 1 := by simp
       rw [hz]
       have n1 := xaa.heap (S := fun _ => False) ((xaa.refl _ _).alloc (.cells #[.slice none 0 0, .slice none 0 0, .int .i64 0, .int .i64 0, .int .i64 0, .string ⟨#[]⟩, .int .i64 0, .int .i64 0, .int .i64 0, .int .i64 0, .int .i64 0, .int .i64 0, .int .i64 0, .int .i64 0, .int .i64 0, .int .i64 0, .int .i64 0] 25)) (heap_alloc_new wd (.cells #[.slice none 0 0, .slice none 0 0, .int .i64 0, .int .i64 0, .int .i64 0, .string ⟨#[]⟩, .int .i64 0, .int .i64 0, .int .i64 0, .int .i64 0, .int .i64 0, .int .i64 0, .int .i64 0, .int .i64 0, .int .i64 0, .int .i64 0, .int .i64 0] 25)) id
       have n2 := heap_alloc_new (wd.alloc (.cells #[.slice none 0 0, .slice none 0 0, .int .i64 0, .int .i64 0, .int .i64 0, .string ⟨#[]⟩, .int .i64 0, .int .i64 0, .int .i64 0, .int .i64 0, .int .i64 0, .int .i64 0, .int .i64 0, .int .i64 0, .int .i64 0, .int .i64 0, .int .i64 0] 25)) (.cells #[.slice none 0 0, .slice none 0 0, .int .i64 0, .int .i64 0, .int .i64 0, .string ⟨#[]⟩, .int .i64 0, .int .i64 0, .int .i64 0, .int .i64 0, .int .i64 0, .int .i64 0, .int .i64 0, .int .i64 0, .int .i64 0, .int .i64 0, .int .i64 0] 25)
       rw [hz] at n2
       obtain ⟨we, hwe⟩ : ∃ W, (wd.alloc (.cells #[.slice none 0 0, .slice none 0 0, .int .i64 0, .int .i64 0, .int .i64 0, .string ⟨#[]⟩, .int .i64 0, .int .i64 0, .int .i64 0, .int .i64 0, .int .i64 0, .int .i64 0, .int .i64 0, .int .i64 0, .int .i64 0, .int .i64 0, .int .i64 0] 25)).alloc (.cells #[.slice none 0 0, .slice none 0 0, .int .i64 0, .int .i64 0, .int .i64 0, .string ⟨#[]⟩, .int .i64 0, .int .i64 0, .int .i64 0, .int .i64 0, .int .i64 0, .int .i64 0, .int .i64 0, .int .i64 0, .int .i64 0, .int .i64 0, .int .i64 0] 25) = W := ⟨_, rfl⟩
       rw [hwe] at n1 n2 hS2 ⊢
       have ka : ∀ (X : World) (g : Nat), xaa (fun x => x = g) X (X.setRow g (jCs j)) := fun X g => ⟨rfl, rfl, rfl, by simp, fun k hk hs => setRow_other _ _ _ _ hs⟩
       have hS3 := hS2.keeps (ka we wd.heap.size) (by show ¬ w.heap.size = wd.heap.size; omega)
       have hS4 := hS3.keeps (ka _ (wd.heap.size + 1)) (by show ¬ w.heap.size = (wd.heap.size + 1); omega)
       have n4 := (ka we wd.heap.size).heap n2 (by show ¬ (wd.heap.size + 1) = wd.heap.size; omega)
       refine wpAnyH_ready (rs := [4]) (by kernel_rfl) (by simp) (AllReadyH.cons rfl (fun K hK => ?_) AllReadyH.nil)
       refine xaH rfl 25 (.tmp 5) (.tmp 34) rfl wd.heap.size (jCs j) rfl rfl 25 _ n1 (xar j) rfl (xbU j) (hK.out _ _ hS3 (fun _ => ?_))
       refine wpAnyH_ready (rs := [5]) (by kernel_rfl) (by simp) (AllReadyH.cons rfl (fun K hK => ?_) AllReadyH.nil)
       refine xaH rfl 25 (.tmp 6) (.tmp 35) rfl (wd.heap.size + 1) (jCs j) rfl rfl 25 _ n4 (xar j) rfl (xbU j) (hK.out _ _ hS4 (fun _ => wpAnyH_done (by kernel_rfl) ?_ _))
       have hT := xdS w5 wd hwd.symm j wd.heap.size (wd.heap.size + 1) (by omega) _ (by rw [hwe])
       generalize (we.setRow wd.heap.size (jCs j)).setRow (wd.heap.size + 1) (jCs j) = wf at *
       generalize Value.agg (jCs j) = z4 at *
       go_wp2_with fail
       go_meet
       case rel => exact hT
     skip
     refine xaI rfl rfl (hK.out _ _ hS1 (fun _ => ?_))
     refine wpAnyH_ready (rs := [2]) (by kernel_rfl) (by simp) (AllReadyH.cons rfl (fun K hK => ?_) AllReadyH.nil)
     refine xaI rfl rfl (hK.out _ _ hS2 (fun _ => ?_))
     have hz : (wd.alloc (.cells #[.slice none 0 0, .slice none 0 0, .int .i64 0, .int .i64 0, .int .i64 0, .string ⟨#[]⟩, .int .i64 0, .int .i64 0, .int .i64 0, .int .i64 0, .int .i64 0, .int .i64 0, .int .i64 0, .int .i64 0, .int .i64 0, .int .i64 0, .int .i64 0] 25)).heap.size = wd.heap.size + 1 := by simp
     rw [hz]
     have n1 := xaa.heap (S := fun _ => False) ((xaa.refl _ _).alloc (.cells #[.slice none 0 0, .slice none 0 0, .int .i64 0, .int .i64 0, .int .i64 0, .string ⟨#[]⟩, .int .i64 0, .int .i64 0, .int .i64 0, .int .i64 0, .int .i64 0, .int .i64 0, .int .i64 0, .int .i64 0, .int .i64 0, .int .i64 0, .int .i64 0] 25)) (heap_alloc_new wd (.cells #[.slice none 0 0, .slice none 0 0, .int .i64 0, .int .i64 0, .int .i64 0, .string ⟨#[]⟩, .int .i64 0, .int .i64 0, .int .i64 0, .int .i64 0, .int .i64 0, .int .i64 0, .int .i64 0, .int .i64 0, .int .i64 0, .int .i64 0, .int .i64 0] 25)) id
     have n2 := heap_alloc_new (wd.alloc (.cells #[.slice none 0 0, .slice none 0 0, .int .i64 0, .int .i64 0, .int .i64 0, .string ⟨#[]⟩, .int .i64 0, .int .i64 0, .int .i64 0, .int .i64 0, .int .i64 0, .int .i64 0, .int .i64 0, .int .i64 0, .int .i64 0, .int .i64 0, .int .i64 0] 25)) (.cells #[.slice none 0 0, .slice none 0 0, .int .i64 0, .int .i64 0, .int .i64 0, .string ⟨#[]⟩, .int .i64 0, .int .i64 0, .int .i64 0, .int .i64 0, .int .i64 0, .int .i64 0, .int .i64 0, .int .i64 0, .int .i64 0, .int .i64 0, .int .i64 0] 25)
     rw [hz] at n2
     obtain ⟨we, hwe⟩ : ∃ W, (wd.alloc (.cells #[.slice none 0 0, .slice none 0 0, .int .i64 0, .int .i64 0, .int .i64 0, .string ⟨#[]⟩, .int .i64 0, .int .i64 0, .int .i64 0, .int .i64 0, .int .i64 0, .int .i64 0, .int .i64 0, .int .i64 0, .int .i64 0, .int .i64 0, .int .i64 0] 25)).alloc (.cells #[.slice none 0 0, .slice none 0 0, .int .i64 0, .int .i64 0, .int .i64 0, .string ⟨#[]⟩, .int .i64 0, .int .i64 0, .int .i64 0, .int .i64 0, .int .i64 0, .int .i64 0, .int .i64 0, .int .i64 0, .int .i64 0, .int .i64 0, .int .i64 0] 25) = W := ⟨_, rfl⟩
     rw [hwe] at n1 n2 hS2 ⊢
     have ka : ∀ (X : World) (g : Nat), xaa (fun x => x = g) X (X.setRow g (jCs j)) := fun X g => ⟨rfl, rfl, rfl, by simp, fun k hk hs => setRow_other _ _ _ _ hs⟩
     have hS3 := hS2.keeps (ka we (wd.heap.size + 1)) (by show ¬ w.heap.size = (wd.heap.size + 1); omega)
     have hS4 := hS3.keeps (ka _ wd.heap.size) (by show ¬ w.heap.size = wd.heap.size; omega)
     have n4 := (ka we (wd.heap.size + 1)).heap n1 (by show ¬ wd.heap.size = (wd.heap.size + 1); omega)
     refine wpAnyH_ready (rs := [4]) (by kernel_rfl) (by simp) (AllReadyH.cons rfl (fun K hK => ?_) AllReadyH.nil)
     refine xaH rfl 25 (.tmp 5) (.tmp 34) rfl (wd.heap.size + 1) (jCs j) rfl rfl 25 _ n2 (xar j) rfl (xbU j) (hK.out _ _ hS3 (fun _ => ?_))
     refine wpAnyH_ready (rs := [5]) (by kernel_rfl) (by simp) (AllReadyH.cons rfl (fun K hK => ?_) AllReadyH.nil)
     refine xaH rfl 25 (.tmp 6) (.tmp 35) rfl wd.heap.size (jCs j) rfl rfl 25 _ n4 (xar j) rfl (xbU j) (hK.out _ _ hS4 (fun _ => wpAnyH_done (by kernel_rfl) ?_ _))
     have hT := xdS w5 wd hwd.symm j (wd.heap.size + 1) wd.heap.size (by omega) _ (by rw [hwe])
     generalize (we.setRow (wd.heap.size + 1) (jCs j)).setRow wd.heap.size (jCs j) = wf at *
     generalize Value.agg (jCs j) = z4 at *
     go_wp2_with fail
     go_meet
     case rel => exact hT
    case rest =>
     obtain ⟨ba, bb, rfl, rfl, hne, hba, hbb, hja, hjb, kc⟩ := hcut
     have HK6 := xmA (HK5.out.trans kc)
     have HJ6 := xmA (HJ5.out.keeps kc id)
     have HA6 := xmA hja
     have HB6 := xmA hjb
     clear hja hjb kc HK5 HJ5
     go_upto_region 4 with fail
     go_cut [] (fun wd => ∃ F : Nat, F ≤ j.dn ∧ JbAt wd w.heap.size j ∧ JbAt wd ba { j with fl := -1 } ∧ JbAt wd bb { j with fl := (F : Int) } ∧ xaa (fun b => w5.heap.size ≤ b) wc wd)
     case first =>
      have x0 := HJ6.out.c.1
      obtain ⟨ya, _⟩ : wc.cell? ⟨ba, 2, none⟩ = some (.int .i64 j.fl) ∧ True := ⟨HA6.out.c.2.2.1, trivial⟩
      obtain ⟨yb, _⟩ : wc.cell? ⟨bb, 2, none⟩ = some (.int .i64 j.fl) ∧ True := ⟨HB6.out.c.2.2.1, trivial⟩
      have yfa : ∀ i, wc.frozen? ⟨ba, i, none⟩ = false := fun i => Lib.frozen_of_heap HA6.out i
      have yfb : ∀ i, wc.frozen? ⟨bb, i, none⟩ = false := fun i => Lib.frozen_of_heap HB6.out i
      obtain ⟨N, hN⟩ : ∃ N : Int, (j.dn : Int) + 1 = N := ⟨_, rfl⟩
      have k1 : IntKind.i64.wrap ((j.dn : Int) + 1) = N := by rw [hN]; exact IntWalk.i64_in _ (by omega)
      have hN0 : ¬ N = 0 := by omega
      have hNb : (N == 0) = false := by simp [hN0]
      obtain ⟨M, hM⟩ : ∃ M, Int.tmod fail N = M := ⟨_, rfl⟩
      have hMb := xjD fail N (by omega)
      rw [hM] at hMb
      have k2 : IntKind.i64.wrap (M + (j.dn : Int)) = M + (j.dn : Int) := IntWalk.i64_in _ (by omega)
      have k3 : IntKind.i64.wrap (M + (j.dn : Int) + 1) = M + (j.dn : Int) + 1 := IntWalk.i64_in _ (by omega)
      obtain ⟨G, hG⟩ : ∃ G, Int.tmod (M + (j.dn : Int) + 1) N = G := ⟨_, rfl⟩
      have hGb := xjD (M + (j.dn : Int) + 1) N (by omega)
      have hGp := Int.tmod_nonneg N (show 0 ≤ M + (j.dn : Int) + 1 by omega)
      rw [hG] at hGb hGp
      obtain ⟨F, rfl⟩ : ∃ F : Nat, (F : Int) = G := ⟨G.toNat, by omega⟩
      have hF : F ≤ j.dn := by omega
      have HF := xmA hF
      clear hN hMb hGb hGp hF
      go_region
      obtain ⟨wd, hwd⟩ : ∃ W, ((wc.setCell ⟨ba, 2, none⟩ (.int .i64 (-1))).setCell ⟨bb, 2, none⟩ (.int .i64 (F : Int))).drew = W := ⟨_, rfl⟩
      rw [hwd]
      have hfs := fl_set wc wd w.heap.size ba bb w5.heap.size j F HJ6.out HA6.out HB6.out hne hlt9 hba hbb hwd
      go_wp2_with fail
      go_meet
      case rel => exact ⟨F, HF.out, hfs.1, hfs.2.1, hfs.2.2.1, hfs.2.2.2⟩
     case rest =>
      obtain ⟨F, hF, h0, ha, hb, kd⟩ := hcut
      have HK7 := xmA (HK6.out.trans2 kd (fun b hb e => by have e : w5.heap.size ≤ b := e; omega))
      have HA7 := xmA ha
      have HB7 := xmA hb
      clear h0 ha hb kd HK6 HJ6 HA6 HB6
      obtain ⟨P1, hP1⟩ : ∃ P, (if bad then ([], 2) else runJ f { j with fl := -1 } data) = P := ⟨_, rfl⟩
      obtain ⟨P2, hP2⟩ : ∃ P, (if bad then ([], 2) else runJ f { j with fl := (F : Int) } data) = P := ⟨_, rfl⟩
      obtain ⟨⟨Z, hZ⟩, hpl⟩ := xjp f bad j F data hF HOk.out.cd hte P1 P2 hP1 hP2
      have hRa := fun (W : World) (K : xaa (fun _ => False) w W) => HR.out { j with fl := -1 } data W rfl (xmt HOk.out _) (HD.out.keep K) hdl (HT.out.keeps K)
      have hRb := fun (W : World) (K : xaa (fun _ => False) w W) => HR.out { j with fl := (F : Int) } data W rfl (xmt HOk.out _) (HD.out.keep K) hdl (HT.out.keeps K)
      rw [hP1] at hRa
      rw [hP2] at hRb
      obtain ⟨xa, hxa⟩ : ∃ x : JV, { j with fl := -1 } = x := ⟨_, rfl⟩
      obtain ⟨xb, hxb⟩ : ∃ x : JV, { j with fl := (F : Int) } = x := ⟨_, rfl⟩
      rw [hxa] at hRa HA7
      rw [hxb] at hRb HB7
      unfold jV RunE at hRa hRb
      have HRa := xmA hRa
      have HRb := xmA hRb
      have HZ := xmA hZ
      have HPl := xmA hpl
      have hlen12 : P2.1.length ≤ P1.1.length := by rw [hZ, List.length_append]; omega
      clear hRa hRb hZ hpl hP1 hP2 hxa hxb hte hF
      go_wp2_with (refine xam rfl 25 (.tmp 5) rfl ba rfl 25 (jCs xa) (0, 0) _ HA7.out Tryz.underlying25 rfl (xar xa) ?_)
      refine (HRa.out _ HK7.out).mono ?_
      rintro e w8 ⟨va, rfl, hOa, k8, hlena⟩
      have HK8 := xmA (HK7.out.trans k8)
      have HA8 := xmA (HA7.out.keeps k8 id)
      have HB8 := xmA (HB7.out.keeps k8 id)
      have HOa := xmA hOa
      clear hOa
      clear k8 HK7 HA7 HB7
      generalize Value.agg (jCs xa) = z5
      go_wp2_with (refine xam rfl 25 (.tmp 6) rfl bb rfl 25 (jCs xb) (0, 0) _ HB8.out Tryz.underlying25 rfl (xar xb) ?_)
      refine (HRb.out _ HK8.out).mono ?_
      rintro e w9 ⟨vb, rfl, hOb, k9, hlenb⟩
      have HK9 := xmA (HK8.out.trans k9)
      have HA9 := xmA (HA8.out.keeps k9 id)
      have HB9 := xmA (HB8.out.keeps k9 id)
      have hSa := xbE.ofOwn (xae HOa.out k9 (fun _ _ => id)) (by omega)
      have hSb := xbE.ofOwn hOb (by omega)
      clear hOb HOa
      clear k9 HK8 HA8 HB8
      generalize Value.agg (jCs xb) = z6
      obtain ⟨aa, ca, rfl, ⟨hca, _⟩, _, _⟩ := id hSa
      obtain ⟨ab, cb, rfl, _, _, _⟩ := id hSb
      have HSa := xmA hSa
      have HSb := xmA hSb
      have hSt := xbE.take hSa P2.1.length hlen12
      rw [HZ.out, List.take_left] at hSt
      rw [← List.append_nil (P2.1)] at hSt
      rw [List.append_nil] at hSt
      have HSt := xmA hSt
      have b1 : decide ((P1.1.length : Int) < (P2.1.length : Int)) = false := by simp; omega
      have b2 : (P2.1.length : Int) ≤ (ca : Int) := by omega
      have b3 : (0 : Int) ≤ (P2.1.length : Int) := by omega
      clear hSa hSb hSt
      go_wp2_with fail
      refine (xcZ P2.1 P2.1 _ _ _ HSb.out HSt.out (by omega)).mono ?_
      rw [decide_eq_true (rfl : P2.1 = P2.1)]
      rintro e w10 ⟨rfl, k10⟩
      have HK10 := xmA (HK9.out.trans k10)
      have hSa := HSa.out.keep k10
      have hSb := HSb.out.keep k10
      have HSa := xmA hSa
      have HSb := xmA hSb
      clear hSa hSb HSt
      clear k10 HK9
      by_cases h11 : P2.2 = 11
      · have g11 : (P2.2 == 11) = true := by simp [h11]
        clear h11
        go_wp2_with fail
        go_ret
        exact ⟨rfl, HK10.out⟩
      have g11 : (P2.2 == 11) = false := by simp [h11]
      have hE : P2 = P1 := HPl.out.resolve_left h11
      clear h11 b1 b2
      subst hE
      have g12 : (P2.2 == P2.2) = true := by simp
      go_wp2_with fail
      refine (xcZ P2.1 P2.1 _ _ _ HSa.out HSb.out (by omega)).mono ?_
      rw [decide_eq_true (rfl : P2.1 = P2.1)]
      rintro e w20 ⟨rfl, k20⟩
      have HK20 := xmA (HK10.out.trans k20)
      clear k20
      go_wp2_with fail
      go_ret
      exact ⟨rfl, HK20.out⟩
end Go.Proofs.YtjahiihmoglpfaaGreatDoor
