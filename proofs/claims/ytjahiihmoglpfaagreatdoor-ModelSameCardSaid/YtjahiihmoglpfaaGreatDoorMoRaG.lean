/-
  model.Run at every pattern; the guards at every pattern.
-/
import Derived.Test.YtjahiihmoglpfaaGreatDoorMg31
import Derived.Test.YtjahiihmoglpfaaGreatDoorMg30
import Derived.Test.YtjahiihmoglpfaaGreatDoorRsGdG
namespace Go.Proofs.YtjahiihmoglpfaaGreatDoor
open Go.RowKit
set_option linter.unusedVariables false
set_option linter.unusedSimpArgs false
set_option maxRecDepth 100000
set_option maxHeartbeats 8000000 in
theorem run_bad (j : JV) (c : Int) (hc : c ≠ 0) (hj : JOk j) (hC : CoEr j.pt c) (w : World) :
 Calls Tryz.prog 11 #[jV j] w (RunE ([], 2) w) := by
 have hRt := fun W => xe5 j c hj hC W
 have g0 : (c == 0) = false := beq_eq_false_iff_ne.2 hc
 rw [g0] at hRt
 have hjb := xdc w j
 obtain ⟨w1, hw⟩ : ∃ W, w.alloc (.cells (jCs j) 25) = W := ⟨_, rfl⟩
 rw [hw] at hjb
 have hk1 : xaa (fun _ => False) w w1 := by rw [← hw]; exact (xaa.refl _ _).alloc _
 have HJ := xmA hjb
 have HK1 := xmA hk1
 unfold jV at hRt
 unfold jCs at hw
 have HW := xmA hw
 have HRt := xmA hRt
 clear hjb hw hk1 hRt
 unfold jV jCs
 go_enter Tryz.func11, Tryz.ntmps11
 go_upto_region 1 with fail
 rw [HW.out]
 clear HW
 generalize (Value.agg #[.slice j.da j.dn j.dc, .slice j.sa j.sn j.sc, .int .i64 j.fl, .int .i64 j.cd, .int .i64 j.mo, .string ⟨j.pt.toArray⟩, .int .i64 j.ev, .int .i64 j.bd, .int .i64 j.te, .int .i64 j.be, .int .i64 j.af, .int .i64 j.rf, .int .i64 j.bu, .int .i64 j.ch, .int .i64 j.ro, .int .i64 j.wo, .int .i64 j.rg]) = z0
 go_wp2_with (refine wpList_load_row rfl 25 (.tmp 1) rfl w.heap.size rfl 25 (jCs j) (0, 0) _ HJ.out Tryz.underlying25 rfl (xar j) ?_)
 refine (HRt.out _).mono ?_
 rintro e w2 ⟨rfl, k2⟩
 have HK2 := xmA (HK1.out.trans k2)
 clear k2 HJ HK1 HRt
 go_wp2_with fail
 go_ret2
 exact ⟨_, rfl, World.ownsRow_nil _ _ _ _, HK2.out, by simp⟩
def runJ (f : List UInt8 → List (Int × Int)) (j : JV) (data : List UInt8) : List (List UInt8) × Int :=
 runP j.ev f j.te j.be.toNat j.af.toNat (xcj j j.mo.toNat j.fl.toNat data)
def xmz (pt : List UInt8) (bad : Bool) (f : List UInt8 → List (Int × Int)) : Prop :=
 ∀ (j : JV) (data : List UInt8) (w : World), j.pt = pt → JOk j → SlOf 1 encB w (.slice j.da j.dn j.dc) data → data.length ≤ 200 → TabW w →
  Calls Tryz.prog 11 #[jV j] w (RunE (if bad then ([], 2) else runJ f j data) w)
theorem xjQ (pt : List UInt8) (is : List Ins) (r : List UInt8 × Bool) (f : List UInt8 → List (Int × Int)) (hF : HitF is r f)
 (hCo : ∀ W, Calls Tryz.prog 21 #[.string ⟨pt.toArray⟩] W fun e w' => xk7 W is r e w') : xmz pt false f := by
 intro j data w hpt hj hD hdl hT
 subst hpt
 rw [if_neg (by simp)]
 obtain ⟨a', c', e9, ⟨h1, h2⟩, h3, h4⟩ := id hD
 obtain ⟨rfl, hn, rfl⟩ := Value.slice.inj e9
 refine run_any j j.mo.toNat j.fl.toNat j.be.toNat j.af.toNat data is r f w hj hD hdl ?_ ?_ ?_ (fun h => ?_) hT hF hCo
 · have := hj.mo; omega
 · have := hj.be; omega
 · have := hj.af; omega
 unfold xbT at h
 simp only [Bool.and_eq_true, decide_eq_true_eq] at h
 omega
theorem xec (pt : List UInt8) (hm : pt.length ≤ 9223372036854775807) : ∃ bad f, xmz pt bad f := by
 rcases xgJ pt hm with ⟨c, hc, h⟩ | ⟨is, r, ⟨h0, hl⟩, hr, hok, h⟩
 · refine ⟨true, fun _ => [], fun j data w hpt hj hD hdl hT => ?_⟩
   subst hpt
   rw [if_pos rfl]
   exact run_bad j c hc hj (fun W => (h W).mono (fun e w' he => by obtain ⟨rfl, k⟩ := he; exact ⟨_, rfl, k⟩)) w
 obtain ⟨f, hF⟩ := xkv is r hok h0 (by omega) (by omega)
 exact ⟨false, f, xjQ pt is r f hF h⟩
end Go.Proofs.YtjahiihmoglpfaaGreatDoor
