/-
  Several texts in one: model.Run (printed by mk_run.py). The pattern "b": its program, its prefix, its hits in two texts. The law's plain job. Plain laws: a source that fails; which records are looked at.
-/
import Derived.Test.YtjahiihmoglpfaaGreatDoorMg30
import Derived.Handy
namespace Go.Proofs.YtjahiihmoglpfaaGreatDoor
open Go.RowKit
set_option linter.unusedVariables false
set_option linter.unusedSimpArgs false
set_option maxRecDepth 100000
theorem xar (j : JV) : (Tryz.prog.info? 25).map (·.size) = some (jCs j).size := by
 show _ = some 17
 kernel_rfl
theorem xe3 {w : World} {base : Nat} {e : TypeId} {size n : Nat} {v : Value} {xs : List Value} (h : w.ownsRow base e size v n xs) (b : Nat) (hb : v.ownBlock = some b) : b < w.heap.size := by
 rcases h.2 with ⟨rfl, _⟩ | ⟨g, cap, cur, rfl, _, hg, _⟩
 · simp [Value.ownBlock] at hb
 have : g = b := by simpa [Value.ownBlock] using hb
 subst this
 exact (Array.getElem?_eq_some_iff.1 hg).1
theorem xfk (l : List (List UInt8)) : ∀ u ∈ l.map strL, u.oneCell' = true := by
 intro u hu
 obtain ⟨y, _, rfl⟩ := List.mem_map.1 hu
 rfl
def RunE (p : List (List UInt8) × Int) (w : World) (e : Ending) (w' : World) : Prop := ∃ v, e = .returned (.tuple #[v, .int .i64 p.2]) ∧ w'.ownsRow w.heap.size 9 1 v p.1.length (p.1.map strL) ∧ xaa (fun _ => False) w w' ∧ p.1.length ≤ 1000000000
structure RnS (ev : Int) (f : List UInt8 → List (Int × Int)) (rcs : List Rc) (tell : Int) (be af tb : Nat) (wl : World) (ov : Value) (wr : World) (i : Nat) (t : Tel) (hv : Value) (acc : List (List UInt8)) : Prop where
 le : i ≤ rcs.length
 run : runL ev f (tel0 tell be af) rcs = (acc ++ (runL ev f t (rcs.drop i)).1, (runL ev f t (rcs.drop i)).2)
 own : wr.ownsRow wl.heap.size 9 1 ov acc.length (acc.map strL)
 tel : TelC wr tb t hv
 held : xba wr hv t.held
 far : ∀ b, hv.ownBlock = some b → wl.heap.size ≤ b ∧ b < wr.heap.size ∧ ov.ownBlock ≠ some b
 kp : xaa (fun b => b = tb) wl wr
 inv : TelI tell be af t
 rcd : t.records ≤ i
 hit : t.hits ≤ i * 4001
 acc : acc.length ≤ i * 5000
def RnR (ev : Int) (f : List UInt8 → List (Int × Int)) (rcs : List Rc) (tell : Int) (be af tb : Nat) (wl : World) (ov iv : Value) (wr : World) : Prop := ∃ (i : Nat) (t : Tel) (hv : Value) (acc : List (List UInt8)), iv = .int .i64 i ∧ RnS ev f rcs tell be af tb wl ov wr i t hv acc
theorem RnS.start (ev : Int) (f : List UInt8 → List (Int × Int)) (rcs : List Rc) (tell : Int) (be af tb : Nat) (wl : World) (h : TelC wl tb (tel0 tell be af) (.slice none 0 0)) (h1 : be ≤ 16) (h2 : af ≤ 16) :
 RnS ev f rcs tell be af tb wl (.slice none 0 0) wl 0 (tel0 tell be af) (.slice none 0 0) [] :=
 ⟨Nat.zero_le _, by simp, World.ownsRow_nil _ _ _ _, h, Or.inl ⟨rfl, rfl⟩, fun b hb => by simp [Value.ownBlock] at hb, xaa.refl _ _, TelI.new _ _ _ h1 h2, by simp [tel0], by simp [tel0], by simp⟩
theorem xgd {ev : Int} {f : List UInt8 → List (Int × Int)} {t : Tel} {r : Rc} {rs : List Rc} {ls : List (List UInt8)} {t' : Tel} (h : addP t r (xbz ev f r) = (ls, t')) (he : t'.enough = false) : runL ev f t (r :: rs) = (ls ++ (runL ev f t' rs).1, (runL ev f t' rs).2) := by
 rw [runL, h, if_neg (by rw [he]; simp)]
theorem xgc {ev : Int} {f : List UInt8 → List (Int × Int)} {t : Tel} {r : Rc} {rs : List Rc} {ls : List (List UInt8)} {t' : Tel} (h : addP t r (xbz ev f r) = (ls, t')) (he : t'.enough = true) : runL ev f t (r :: rs) = (ls, t', true) := by
 rw [runL, h, if_pos he]
set_option maxHeartbeats 40000000 in
theorem run_any (j : JV) (mo fl be af : Nat) (data : List UInt8) (is : List Ins) (r : List UInt8 × Bool) (f : List UInt8 → List (Int × Int)) (w : World) (hj : JOk j) (hD : SlOf 1 encB w (.slice j.da j.dn j.dc) data) (hdl : data.length ≤ 200)
 (hmo : j.mo = (mo : Int)) (hbe : j.be = (be : Int)) (haf : j.af = (af : Int)) (hfl : xbT j = true → j.fl = (fl : Int) ∧ fl ≤ j.dn) (hTab : TabW w)
 (hF : HitF is r f) (hCo : ∀ W, Calls Tryz.prog 21 #[.string ⟨j.pt.toArray⟩] W fun e w' => xk7 W is r e w') :
 Calls Tryz.prog 11 #[jV j] w (RunE (runP j.ev f j.te be af (xcj j mo fl data)) w) := by
 obtain ⟨i0, hi, hz0, hz1, hz2⟩ := info_parts xdW
 have h1 : 1 ≤ mo ∧ mo ≤ 4096 := by have := hj.mo; omega
 have hb16 : be ≤ 16 := by have := hj.be; omega
 have ha16 : af ≤ 16 := by have := hj.af; omega
 have hte := hj.te
 have hRt := fun W => xe5 j 0 hj (fun W => (hCo W).mono (fun e w' h => by obtain ⟨eb, pv, rfl, _, k⟩ := h; exact ⟨_, rfl, k⟩)) W
 have hRd := fun (W : World) (K : xaa (fun _ => False) w W) => xjR j mo fl data W (hD.keep K) hj.cd hmo h1 hdl hfl
 have hLk := fun (n : Nat) (hn : n ≤ 1000) (W : World) => xe7 j (n : Int) (by unfold in64; omega) W
 have hbd := xll j mo fl data hdl
 unfold RdE at hRd
 generalize hRDe : xcj j mo fl data = RD at *
 clear hRDe hD hfl hj
 obtain ⟨rcs, er⟩ := RD
 obtain ⟨hrl, hrb⟩ := hbd
 have hrl : rcs.length ≤ 801 := hrl
 have HRB : Hid (∀ r ∈ rcs, r.n ≤ 1000 ∧ r.text.length ≤ 1000) := xmA hrb
 have hnew := fun (W : World) (hT : TabW W) => xk9 j.te be af W hT hte hb16 ha16
 obtain ⟨P, hP⟩ : ∃ P, runP j.ev f j.te be af (rcs, er) = P := ⟨_, rfl⟩
 rw [hP]
 unfold runP at hP
 simp only at hP
 have HP := xmA hP
 have HF := xmA hF
 unfold HitF at HF
 have HCo := xmA hCo
 have hjb := xdc w j
 obtain ⟨w1, hw⟩ : ∃ W, w.alloc (.cells (jCs j) 25) = W := ⟨_, rfl⟩
 rw [hw] at hjb
 have hk1 : xaa (fun _ => False) w w1 := by rw [← hw]; exact (xaa.refl _ _).alloc _
 have hs1 : w.heap.size + 1 ≤ w1.heap.size := by rw [← hw]; simp
 have HJ := xmA hjb
 have HK1 := xmA hk1
 have HTab := xmA hTab
 unfold jV at hRt hRd hLk
 unfold jCs at hw
 rw [hbe, haf] at hw
 have HW := xmA hw
 have HRt := xmA hRt
 have HRd := xmA hRd
 have HLk := xmA hLk
 have HNew := xmA hnew
 clear hP hF hCo hjb hw hk1 hTab hRt hRd hLk hnew hrb hmo
 unfold jV jCs
 rw [hbe, haf]
 go_enter Tryz.func11, Tryz.ntmps11
 go_upto_region 1 with fail
 rw [HW.out]
 clear HW
 generalize (Value.agg #[.slice j.da j.dn j.dc, .slice j.sa j.sn j.sc, .int .i64 j.fl, .int .i64 j.cd, .int .i64 j.mo, .string ⟨j.pt.toArray⟩, .int .i64 j.ev, .int .i64 j.bd, .int .i64 j.te, .int .i64 (be : Int), .int .i64 (af : Int), .int .i64 j.rf, .int .i64 j.bu, .int .i64 j.ch, .int .i64 j.ro, .int .i64 j.wo, .int .i64 j.rg]) = z0
 go_wp2_with (refine wpList_load_row rfl 25 (.tmp 1) rfl w.heap.size rfl 25 (jCs j) (0, 0) _ HJ.out Tryz.underlying25 rfl (xar j) ?_)
 refine (HRt.out _).mono ?_
 rintro e w2 ⟨rfl, k2⟩
 have HK2 := xmA (HK1.out.trans k2)
 have HJ2 := xmA (HJ.out.keeps k2 id)
 have hs2 := k2.size
 clear k2 HJ HK1 HRt
 have j5 := HJ2.out.c.2.2.2.2.2.1
 go_wp2_with fail
 refine (HCo.out _).mono ?_
 rintro e w3 ⟨eb, pv, rfl, hE, k3⟩
 have HK3 := xmA (HK2.out.trans k3)
 have HJ3 := xmA (HJ2.out.keeps k3 id)
 have HE := xmA hE
 have hs3 := k3.size
 clear k3 HJ2 HK2 hE HCo j5
 obtain ⟨_, _, _, _, _, _, _, _, j8, j9, j10⟩ := HJ3.out.c
 rw [hbe] at j9
 rw [haf] at j10
 go_wp2_with fail
 refine (HNew.out _ (HTab.out.keeps HK3.out)).mono ?_
 rintro e w4 ⟨tb, rfl, htb, hTl, k4⟩
 have HK34 := xmA k4
 have HK4 := xmA (HK3.out.trans k4)
 have HJ4 := xmA (HJ3.out.keeps k4 id)
 have HTl := xmA hTl
 have htlt := hTl.lt
 have hs4 := k4.size
 clear k4 HJ3 HK3 hTl HNew j8 j9 j10
 go_wp2_with (refine wpList_load_row rfl 25 (.tmp 1) rfl w.heap.size rfl 25 (jCs j) (0, 0) _ HJ4.out Tryz.underlying25 rfl (xar j) ?_)
 refine (HRd.out _ HK4.out).mono ?_
 rintro e wl ⟨rv, rfl, hRO, k5⟩
 obtain ⟨ra, rc, rfl⟩ := xad hRO
 have HK35 := xmA (HK34.out.trans k5)
 have HK5 := xmA (HK4.out.trans k5)
 have HJ5 := xmA (HJ4.out.keeps k5 id)
 have HTl5 := xmA (HTl.out.keeps k5 id)
 have HRO : Hid (wl.ownsRow w4.heap.size 39 3 (.slice ra rcs.length rc) rcs.length (cellsOf 3 xbe rcs)) := xmA hRO
 have HTab5 := xmA (HTab.out.keeps HK5.out)
 have hs5 := k5.size
 clear k5 HJ4 HK4 hRO HTl HK34 HRd HTab
 generalize Value.agg (jCs j) = z2
 go_wp2_with fail
 go_loopw [10, 40] (fun ov iv wr => RnR j.ev f rcs j.te be af tb wl ov iv wr) (fun _ iv _ => rcs.length - (intOf iv).toNat)
 case atStart => exact ⟨0, _, _, [], rfl, RnS.start _ _ _ _ _ _ _ _ HTl5.out hb16 ha16⟩
 case round =>
  obtain ⟨i, t, hv, acc, rfl, hS⟩ := hrel
  have HS := xmA hS
  have hle := hS.le
  obtain ⟨oa, oc, rfl⟩ := xad hS.own
  have hacc := hS.acc
  have hsr := hS.kp.size
  clear hS
  by_cases hil : i < rcs.length
  · obtain ⟨x, hx⟩ : ∃ x, rcs[i]? = some x := ⟨_, List.getElem?_eq_getElem hil⟩
    have hdr : rcs.drop i = x :: rcs.drop (i + 1) := by
     rw [List.drop_eq_getElem_cons hil]
     rw [List.getElem?_eq_getElem hil] at hx
     rw [Option.some.inj hx]
    have HDr := xmA hdr
    have hROr := xae HRO.out HS.out.kp (fun b hb e => by have := xab HRO.out b hb; have e : b = tb := e; omega)
    obtain ⟨ra', rc', e9, _, _, hcc⟩ := SlOf.ofOwn (l := rcs) hROr (by omega)
    obtain ⟨e1, _, e3⟩ := Value.slice.inj e9
    subst e1
    subst e3
    obtain ⟨pb, po, rfl, hcd⟩ := hcc (by omega)
    have c0 := hcd i x hx 0 (by omega)
    have c1 := hcd i x hx 1 (by omega)
    have c2 := hcd i x hx 2 (by omega)
    simp only [Nat.add_zero, xbe, if_true, Nat.one_ne_zero, if_false, show ¬ ((2 : Nat) = 0) by decide, show ¬ ((2 : Nat) = 1) by decide] at c0 c1 c2
    obtain ⟨hx1, hx2⟩ := HRB.out x (List.mem_of_getElem? hx)
    obtain ⟨xn, xp, xt⟩ := x
    simp only at c0 c1 c2 hx1 hx2
    obtain ⟨wa, hwa⟩ : ∃ W, wr.alloc (.cells #[.int .i64 (xn : Int), .int .i64 (xp : Int), .string ⟨xt.toArray⟩] 39) = W := ⟨_, rfl⟩
    have hka : xaa (fun _ => False) wr wa := by rw [← hwa]; exact (xaa.refl _ _).alloc _
    have r0 : wa.cell? ⟨wr.heap.size, 0, none⟩ = some (.int .i64 (xn : Int)) := by rw [← hwa]; simp [go_sem]
    have r1 : wa.cell? ⟨wr.heap.size, 1, none⟩ = some (.int .i64 (xp : Int)) := by rw [← hwa]; simp [go_sem]
    have r2 : wa.cell? ⟨wr.heap.size, 2, none⟩ = some (.string ⟨xt.toArray⟩) := by rw [← hwa]; simp [go_sem]
    have HWA := xmA hwa
    have HKA := xmA hka
    have R0 := xmA r0
    have R1 := xmA r1
    have R2 := xmA r2
    have hsa := hka.size
    have hjr := HJ5.out.keeps HS.out.kp (by show ¬ w.heap.size = tb; omega)
    have HJa := xmA (hjr.keeps hka id)
    clear hx hdr hROr hcc hcd hwa hka r0 r1 r2 e9 hjr
    go_upto_region 10 with fail
    rw [HWA.out]
    clear HWA c0 c1 c2
    have r0 := R0.out
    go_wp2_with (refine wpList_load_row rfl 25 (.tmp 1) rfl w.heap.size rfl 25 (jCs j) (0, 0) _ HJa.out Tryz.underlying25 rfl (xar j) ?_)
    refine (HLk.out xn hx1 _).mono ?_
    rintro e wb ⟨rfl, kb⟩
    have HKB := xmA (HKA.out.trans kb)
    have R0b := xmA (kb.cell R0.out id)
    have R1b := xmA (kb.cell R1.out id)
    have R2b := xmA (kb.cell R2.out id)
    have hsb := kb.size
    clear kb r0 HJa HKA R0 R1 R2
    generalize Value.agg (jCs j) = z3
    have HK3b := xmA ((HK35.out.mono (T := fun b => b = tb) (fun _ _ h => h.elim)).trans (HS.out.kp.trans (HKB.out.mono (fun _ _ h => h.elim))))
    obtain ⟨hF1, hF2⟩ := HF.out xt hx2
    have hEb := HE.out.keepsTo HK3b.out (fun b hb e => by have h1 : b < w3.heap.size := hb; have h2 : b = tb := e; omega) (Q := fun b => b < wb.heap.size) (fun b hb => by have h1 : b < w3.heap.size := hb; show b < wb.heap.size; omega) (by have := HE.out.lt; show ¬ eb = tb; omega)
    have HAl := xmA (hF2 eb pv wb hEb)
    have HFb := xmA hF1
    clear hF1 hF2 hEb
    cases hlk : xcb j.ev (xn : Int) with
    | true =>
     have HL : Hid (xbz j.ev f ⟨xn, xp, xt⟩ = f xt) := xmA (by unfold xbz; rw [if_pos hlk])
     clear hlk
     generalize f xt = L at *
     have r2b := R2b.out
     go_wp2_with fail
     refine HAl.out.mono ?_
     rintro e wc ⟨u, rfl, hOu, kc⟩
     obtain ⟨ua, uc, rfl⟩ := xad hOu
     have HU := xmA (SlOf.ofOwn hOu (by have := HFb.out.1; omega))
     have HLl : Hid (L.length ≤ 4001 ∧ InT xt.length L) := HFb
     have HKC := xmA (HKB.out.trans kc)
     have R0c := xmA (kc.cell R0b.out id)
     have R1c := xmA (kc.cell R1b.out id)
     have R2c := xmA (kc.cell R2b.out id)
     have hsc := kc.size
     clear hOu kc R0b R1b R2b HKB HAl HFb r2b
     have hinv := HS.out.inv
     have hkc := HS.out.kp.trans (HKC.out.mono (T := fun b => b = tb) (fun _ _ h => h.elim))
     have hTc := HS.out.tel.keeps HKC.out id
     have hHc := HS.out.held.keeps HKC.out (fun _ _ => id)
     have hTabc := HTab5.out.keepsS hkc (by show ¬ _ = tb; exact fun e => HS.out.tel.ne e.symm)
     have hadd := xk4 t ⟨xn, xp, xt⟩ L tb hv (.slice ua L.length uc) wc hTc hHc (fun b hb => by have := HS.out.far b hb; omega) hinv.ok hTabc (by show xn ≤ _; omega) (by show xt.length ≤ _; omega) HU.out (by have := HLl.out.1; omega) HLl.out.2 (by rw [hinv.te]; exact hte) (by have h1 := HS.out.rcd; have h2 := HS.out.hit; omega)
     obtain ⟨hi1, hi2, hi3, hi4⟩ := xis hinv ⟨xn, xp, xt⟩ L (by show xn ≤ _; omega) (by show xt.length ≤ _; omega) HLl.out.1
     have hrn := HS.out.run
     rw [HDr.out] at hrn
     have hadp : addP t ⟨xn, xp, xt⟩ (xbz j.ev f ⟨xn, xp, xt⟩) = addP t ⟨xn, xp, xt⟩ L := by rw [HL.out]
     unfold CtE at hadd
     generalize addP t ⟨xn, xp, xt⟩ L = ap at *
     obtain ⟨ls, t'⟩ := ap
     have hi2 : ls.length ≤ 5000 := hi2
     have hi3 : t'.records ≤ t.records + 1 := hi3
     have hi4 : t'.hits ≤ t.hits + 4001 := hi4
     unfold rcV at hadd
     have HAdd := xmA hadd
     have HRn := xmA hrn
     have HAp := xmA hadp
     have HI1 : Hid (TelI j.te be af t') := xmA hi1
     have HKc := xmA hkc
     have r0c := R0c.out
     have r1c := R1c.out
     have r2c := R2c.out
     clear hadd hrn hadp hi1 hkc hTc hHc hTabc R0c R1c R2c hinv
     go_wp2_with fail
     refine HAdd.out.mono ?_
     rintro e wd ⟨v, hv', rfl, hOv, hTd, hHd, hb1, hb2, kd⟩
     obtain ⟨va, vc, rfl⟩ := xad hOv
     have hOd := xae (xae HS.out.own HKC.out (fun _ _ => id)) kd (fun b hb e => by
      have h1 := xab HS.out.own b hb
      rcases e with e | e
      · omega
      exact (HS.out.far b e).2.2 hb)
     have HO := xmA hOd
     have HOv : Hid (wd.ownsRow wc.heap.size 9 1 (.slice va ls.length vc) ls.length (ls.map strL)) := xmA hOv
     have hkd := HKc.out.trans2 kd (fun b hb e => by
      rcases e with e | e
      · exact e
      have := (HS.out.far b e).1; omega)
     have HKd := xmA hkd
     have HTd : Hid (TelC wd tb t' hv') := xmA hTd
     have HHd : Hid (xba wd hv' t'.held) := xmA hHd
     have hsd := kd.size
     have HFd : Hid (∀ b, hv'.ownBlock = some b → wl.heap.size ≤ b ∧ b < wd.heap.size ∧ (Value.slice oa acc.length oc).ownBlock ≠ some b) := xmA (fun b hb => by
      refine ⟨?_, ?_, fun e => ?_⟩
      · rcases hb1 b hb with h | h
        · exact (HS.out.far b h).1
        omega
      · rcases hb1 b hb with h | h
        · have := (HS.out.far b h).2.1; omega
        exact h.2
      rcases hb1 b hb with h | h
      · exact (HS.out.far b h).2.2 e
      have hlt := xe3 HS.out.own b e
      omega)
     have hac := HS.out.acc
     clear hOv hTd hHd hb1 hb2 kd hOd hkd r0c r1c r2c HAdd HU
     go_wp2_with (at_builtin; refine xbf rfl (.tmp 52) (.tmp 56) 28 rfl wl.heap.size 9 i0 _ 1 16 Tryz.underlying28 hi hz0 hz1 hz2 rfl (by decide) _ acc.length (acc.map strL) rfl HO.out _ ls.length (ls.map strL) wc.heap.size rfl HOv.out (xfk _) (by unfold maxLen; omega) (by omega) (by omega) ?_)
     intro v9 w9 hown9 hgrow9 hfr9
     obtain ⟨a9, c9, rfl⟩ := xad hown9
     have kg : xaa (fun b => (Value.slice oa acc.length oc).ownBlock = some b) wd w9 := (xaa.refl (fun b => (Value.slice oa acc.length oc).ownBlock = some b) wd).grown hgrow9 (fun b hb => Or.inl hb)
     have HK9 := xmA (HKd.out.trans2 kg (fun b hb e => by have := xab HO.out b e; omega))
     have HT9 := xmA (HTd.out.keeps kg (fun e => by have := xab HO.out tb e; omega))
     have HH9 := xmA (HHd.out.keeps kg (fun b hb e => (HFd.out b hb).2.2 e))
     have HO9 : Hid (w9.ownsRow wl.heap.size 9 1 (.slice a9 (acc.length + ls.length) c9) (acc ++ ls).length ((acc ++ ls).map strL)) := xmA (by rw [List.length_append, List.map_append]; exact hown9)
     have hs9 := kg.size
     have HF9 : Hid (∀ b, hv'.ownBlock = some b → wl.heap.size ≤ b ∧ b < w9.heap.size ∧ (Value.slice a9 (acc.length + ls.length) c9).ownBlock ≠ some b) := xmA (fun b hb => by
      obtain ⟨q1, q2, q3⟩ := HFd.out b hb
      refine ⟨q1, by omega, fun e => ?_⟩
      rcases hfr9 b e with h | h
      · exact q3 h
      omega)
     clear hown9 hgrow9 hfr9 kg HTd HHd HFd HOv HO HKd
     have HEn := xmA (xfd t' tb hv' w9 HT9.out)
     cases hen : t'.enough with
     | true =>
      rw [hen] at HEn
      have HRS := xmA (xgc (rs := rcs.drop (i + 1)) HAp.out hen)
      have HPP : Hid (P = (acc ++ ls, 0)) := xmA (by rw [← HP.out, HRn.out, HRS.out]; simp)
      have HKf := xmA (HK5.out.trans2 HK9.out (fun b hb e => by have e : b = tb := e; omega))
      have HOf := xmA (xag HO9.out (by omega : w.heap.size ≤ wl.heap.size))
      clear hen
      go_wp2_with fail
      refine HEn.out.mono ?_
      rintro e w10 ⟨rfl, rfl⟩
      go_wp2_with fail
      go_ret2
      exact ⟨_, by rw [HPP.out]; rfl, by rw [HPP.out]; exact HOf.out, HKf.out, by rw [HPP.out]; show (acc ++ ls).length ≤ _; rw [List.length_append]; omega⟩
     | false =>
      rw [hen] at HEn
      have HRS := xmA (xgd (rs := rcs.drop (i + 1)) HAp.out hen)
      have HRf : Hid (runL j.ev f (tel0 j.te be af) rcs = ((acc ++ ls) ++ (runL j.ev f t' (rcs.drop (i + 1))).1, (runL j.ev f t' (rcs.drop (i + 1))).2)) := xmA (by rw [HRn.out, HRS.out, List.append_assoc])
      have hrc := HS.out.rcd
      have hhc := HS.out.hit
      clear hen
      go_wp2_with fail
      refine HEn.out.mono ?_
      rintro e w10 ⟨rfl, rfl⟩
      go_wp2_with fail
      go_roundw
      case rel => exact ⟨i + 1, t', hv', acc ++ ls, by go_num, ⟨by omega, HRf.out, HO9.out, HT9.out, HH9.out, HF9.out, HK9.out, HI1.out, by omega, by omega, by rw [List.length_append]; omega⟩⟩
      case measure => simp [intOf]; omega
    | false =>
     have HL : Hid (xbz j.ev f ⟨xn, xp, xt⟩ = []) := xmA (by unfold xbz; rw [if_neg (by rw [hlk]; simp)])
     clear hlk HAl HFb
     obtain ⟨wc, hwc⟩ : ∃ wc, wb = wc := ⟨_, rfl⟩
     have HU : Hid (SlOf 2 encR wc (.slice none 0 0) ([] : List (Int × Int))) := xmA (SlOf.nil _ _ _)
     have HLl : Hid (([] : List (Int × Int)).length ≤ 4001 ∧ InT xt.length []) := xmA ⟨by simp, fun p hp => by cases hp⟩
     obtain ⟨L, hLe⟩ : ∃ L : List (Int × Int), [] = L := ⟨_, rfl⟩
     rw [hLe] at HL HU HLl
     subst hwc
     have HKC := HKB
     have R0c := R0b
     have R1c := R1b
     have R2c := R2b
     have hsc : wb.heap.size ≤ wb.heap.size := Nat.le_refl _
     clear hLe
     have hinv := HS.out.inv
     have hkc := HS.out.kp.trans (HKC.out.mono (T := fun b => b = tb) (fun _ _ h => h.elim))
     have hTc := HS.out.tel.keeps HKC.out id
     have hHc := HS.out.held.keeps HKC.out (fun _ _ => id)
     have hTabc := HTab5.out.keepsS hkc (by show ¬ _ = tb; exact fun e => HS.out.tel.ne e.symm)
     have hadd := xk4 t ⟨xn, xp, xt⟩ L tb hv (.slice none 0 0) wb hTc hHc (fun b hb => by have := HS.out.far b hb; omega) hinv.ok hTabc (by show xn ≤ _; omega) (by show xt.length ≤ _; omega) HU.out (by have := HLl.out.1; omega) HLl.out.2 (by rw [hinv.te]; exact hte) (by have h1 := HS.out.rcd; have h2 := HS.out.hit; omega)
     obtain ⟨hi1, hi2, hi3, hi4⟩ := xis hinv ⟨xn, xp, xt⟩ L (by show xn ≤ _; omega) (by show xt.length ≤ _; omega) HLl.out.1
     have hrn := HS.out.run
     rw [HDr.out] at hrn
     have hadp : addP t ⟨xn, xp, xt⟩ (xbz j.ev f ⟨xn, xp, xt⟩) = addP t ⟨xn, xp, xt⟩ L := by rw [HL.out]
     unfold CtE at hadd
     generalize addP t ⟨xn, xp, xt⟩ L = ap at *
     obtain ⟨ls, t'⟩ := ap
     have hi2 : ls.length ≤ 5000 := hi2
     have hi3 : t'.records ≤ t.records + 1 := hi3
     have hi4 : t'.hits ≤ t.hits + 4001 := hi4
     unfold rcV at hadd
     have HAdd := xmA hadd
     have HRn := xmA hrn
     have HAp := xmA hadp
     have HI1 : Hid (TelI j.te be af t') := xmA hi1
     have HKc := xmA hkc
     have r0c := R0c.out
     have r1c := R1c.out
     have r2c := R2c.out
     clear hadd hrn hadp hi1 hkc hTc hHc hTabc R0c R1c R2c hinv
     go_wp2_with fail
     refine HAdd.out.mono ?_
     rintro e wd ⟨v, hv', rfl, hOv, hTd, hHd, hb1, hb2, kd⟩
     obtain ⟨va, vc, rfl⟩ := xad hOv
     have hOd := xae (xae HS.out.own HKC.out (fun _ _ => id)) kd (fun b hb e => by
      have h1 := xab HS.out.own b hb
      rcases e with e | e
      · omega
      exact (HS.out.far b e).2.2 hb)
     have HO := xmA hOd
     have HOv : Hid (wd.ownsRow wb.heap.size 9 1 (.slice va ls.length vc) ls.length (ls.map strL)) := xmA hOv
     have hkd := HKc.out.trans2 kd (fun b hb e => by
      rcases e with e | e
      · exact e
      have := (HS.out.far b e).1; omega)
     have HKd := xmA hkd
     have HTd : Hid (TelC wd tb t' hv') := xmA hTd
     have HHd : Hid (xba wd hv' t'.held) := xmA hHd
     have hsd := kd.size
     have HFd : Hid (∀ b, hv'.ownBlock = some b → wl.heap.size ≤ b ∧ b < wd.heap.size ∧ (Value.slice oa acc.length oc).ownBlock ≠ some b) := xmA (fun b hb => by
      refine ⟨?_, ?_, fun e => ?_⟩
      · rcases hb1 b hb with h | h
        · exact (HS.out.far b h).1
        omega
      · rcases hb1 b hb with h | h
        · have := (HS.out.far b h).2.1; omega
        exact h.2
      rcases hb1 b hb with h | h
      · exact (HS.out.far b h).2.2 e
      have hlt := xe3 HS.out.own b e
      omega)
     have hac := HS.out.acc
     clear hOv hTd hHd hb1 hb2 kd hOd hkd r0c r1c r2c HAdd HU
     go_wp2_with (at_builtin; refine xbf rfl (.tmp 52) (.tmp 56) 28 rfl wl.heap.size 9 i0 _ 1 16 Tryz.underlying28 hi hz0 hz1 hz2 rfl (by decide) _ acc.length (acc.map strL) rfl HO.out _ ls.length (ls.map strL) wb.heap.size rfl HOv.out (xfk _) (by unfold maxLen; omega) (by omega) (by omega) ?_)
     intro v9 w9 hown9 hgrow9 hfr9
     obtain ⟨a9, c9, rfl⟩ := xad hown9
     have kg : xaa (fun b => (Value.slice oa acc.length oc).ownBlock = some b) wd w9 := (xaa.refl (fun b => (Value.slice oa acc.length oc).ownBlock = some b) wd).grown hgrow9 (fun b hb => Or.inl hb)
     have HK9 := xmA (HKd.out.trans2 kg (fun b hb e => by have := xab HO.out b e; omega))
     have HT9 := xmA (HTd.out.keeps kg (fun e => by have := xab HO.out tb e; omega))
     have HH9 := xmA (HHd.out.keeps kg (fun b hb e => (HFd.out b hb).2.2 e))
     have HO9 : Hid (w9.ownsRow wl.heap.size 9 1 (.slice a9 (acc.length + ls.length) c9) (acc ++ ls).length ((acc ++ ls).map strL)) := xmA (by rw [List.length_append, List.map_append]; exact hown9)
     have hs9 := kg.size
     have HF9 : Hid (∀ b, hv'.ownBlock = some b → wl.heap.size ≤ b ∧ b < w9.heap.size ∧ (Value.slice a9 (acc.length + ls.length) c9).ownBlock ≠ some b) := xmA (fun b hb => by
      obtain ⟨q1, q2, q3⟩ := HFd.out b hb
      refine ⟨q1, by omega, fun e => ?_⟩
      rcases hfr9 b e with h | h
      · exact q3 h
      omega)
     clear hown9 hgrow9 hfr9 kg HTd HHd HFd HOv HO HKd
     have HEn := xmA (xfd t' tb hv' w9 HT9.out)
     cases hen : t'.enough with
     | true =>
      rw [hen] at HEn
      have HRS := xmA (xgc (rs := rcs.drop (i + 1)) HAp.out hen)
      have HPP : Hid (P = (acc ++ ls, 0)) := xmA (by rw [← HP.out, HRn.out, HRS.out]; simp)
      have HKf := xmA (HK5.out.trans2 HK9.out (fun b hb e => by have e : b = tb := e; omega))
      have HOf := xmA (xag HO9.out (by omega : w.heap.size ≤ wl.heap.size))
      clear hen
      go_wp2_with fail
      refine HEn.out.mono ?_
      rintro e w10 ⟨rfl, rfl⟩
      go_wp2_with fail
      go_ret2
      exact ⟨_, by rw [HPP.out]; rfl, by rw [HPP.out]; exact HOf.out, HKf.out, by rw [HPP.out]; show (acc ++ ls).length ≤ _; rw [List.length_append]; omega⟩
     | false =>
      rw [hen] at HEn
      have HRS := xmA (xgd (rs := rcs.drop (i + 1)) HAp.out hen)
      have HRf : Hid (runL j.ev f (tel0 j.te be af) rcs = ((acc ++ ls) ++ (runL j.ev f t' (rcs.drop (i + 1))).1, (runL j.ev f t' (rcs.drop (i + 1))).2)) := xmA (by rw [HRn.out, HRS.out, List.append_assoc])
      have hrc := HS.out.rcd
      have hhc := HS.out.hit
      clear hen
      go_wp2_with fail
      refine HEn.out.mono ?_
      rintro e w10 ⟨rfl, rfl⟩
      go_wp2_with fail
      go_roundw
      case rel => exact ⟨i + 1, t', hv', acc ++ ls, by go_num, ⟨by omega, HRf.out, HO9.out, HT9.out, HH9.out, HF9.out, HK9.out, HI1.out, by omega, by omega, by rw [List.length_append]; omega⟩⟩
      case measure => simp [intOf]; omega
  obtain rfl : i = rcs.length := by omega
  have hrun := HS.out.run
  rw [List.drop_length] at hrun
  simp only [runL, List.append_nil] at hrun
  have HRun := xmA hrun
  clear hrun
  have hinv := HS.out.inv
  by_cases he : er = 0
  · subst he
    have HPP : Hid (P = (acc ++ endP t, 0)) := xmA (by rw [← HP.out, HRun.out]; simp)
    have HKr := xmA (HK5.out.trans2 HS.out.kp (fun b hb e => by have e : b = tb := e; omega))
    have HEn := xmA (xl t tb hv wr HS.out.tel (HTab5.out.keepsS HS.out.kp (by show ¬ _ = tb; exact fun e => HS.out.tel.ne e.symm)) (by have := HS.out.rcd; omega) (by have := HS.out.hit; omega))
    have hel : (endP t).length ≤ 1 := by unfold endP; split <;> simp
    unfold EnE at HEn
    generalize endP t = EL at *
    go_wp2_with fail
    refine HEn.out.mono ?_
    rintro e wd ⟨v, rfl, hOv, kd⟩
    obtain ⟨va, vc, rfl⟩ := xad hOv
    have HOv := xmA hOv
    have hO := xae HS.out.own kd (fun b hb e => by have := xab HS.out.own b hb; have e : b = tb := e; omega)
    have HO := xmA hO
    have HKd := xmA (HKr.out.trans2 kd (fun b hb e => by have e : b = tb := e; omega))
    have hsd := kd.size
    clear hOv kd hO
    go_wp2_with (at_builtin; refine xbf rfl (.tmp 66) (.tmp 68) 28 rfl wl.heap.size 9 i0 _ 1 16 Tryz.underlying28 hi hz0 hz1 hz2 rfl (by decide) _ acc.length (acc.map strL) rfl HO.out _ EL.length (EL.map strL) wr.heap.size rfl HOv.out (xfk _) (by unfold maxLen; omega) (by omega) (by omega) ?_)
    intro v9 w9 hown9 hgrow9 _
    have kg : xaa (fun b => wl.heap.size ≤ b) wd w9 := (xaa.refl (fun b => wl.heap.size ≤ b) wd).grown hgrow9 (fun b hb => Or.inl (xab HO.out b hb))
    have HK9 := xmA (HKd.out.trans2 kg (fun b hb e => by have e : wl.heap.size ≤ b := e; omega))
    have HO9 := xmA (xag hown9 (by omega : w.heap.size ≤ wl.heap.size))
    clear hown9 hgrow9 kg
    go_wp2_with fail
    go_ret2
    exact ⟨v9, by rw [HPP.out]; rfl, by rw [HPP.out]; show World.ownsRow _ _ _ _ _ (acc ++ EL).length ((acc ++ EL).map strL); rw [List.length_append, List.map_append]; exact HO9.out, HK9.out, by rw [HPP.out]; show (acc ++ EL).length ≤ _; rw [List.length_append]; omega⟩
  have g0 : (er != 0) = true := by simp [he]
  have HPP : Hid (P = (acc, er)) := xmA (by rw [← HP.out, HRun.out]; simp [he])
  have HKr := xmA (HK5.out.trans2 HS.out.kp (fun b hb e => by have e : b = tb := e; omega))
  have HO9 := xmA (xag HS.out.own (by omega : w.heap.size ≤ wl.heap.size))
  go_wp2_with fail
  go_ret2
  exact ⟨_, by rw [HPP.out]; rfl, by rw [HPP.out]; exact HO9.out, HKr.out, by rw [HPP.out]; show acc.length ≤ _; omega⟩
theorem xj2 : xbw [98] = (xbn [((98 : Int), (98 : Int))], 0) := by decide +kernel
theorem comp_b : ∃ is : List Ins, (0 < is.length ∧ is.length ≤ 2001) ∧ (∀ (k : Nat) (i : Ins), is[k]? = some i → okI is.length i) ∧ ∀ w, Calls Tryz.prog 21 #[.string ⟨([98] : List UInt8).toArray⟩] w fun e w' => xk7 w is ([98], true) e w' := by
 have hW := xh1 [98]
 rw [xj2] at hW
 obtain ⟨hn, hk⟩ := hW
 have hlen := xkm (xbn [((98 : Int), (98 : Int))]) [] hn rfl (fun i k n h1 h2 => by simp at h2)
 have hN := xgr (xbn [((98 : Int), (98 : Int))]) rfl (by simp [xbn])
 refine ⟨_, ⟨?_, ?_⟩, xjX hN, fun w => xdO [98] _ 1 _ ([98], true) xj2 (LenG.exact hlen (by decide)) (by omega) (hN.empty (by omega)) ?_ (xlt 98 (by decide)) w (by simp)⟩
 · simp
 · simp
 simp
theorem lit_b (c : UInt8) (hc : c = 97 ∨ c = 99) : LitR [98] [c, 98] 0 [((1 : Int), (2 : Int))] := by
 rcases hc with rfl | rfl
 all_goals
  refine .some (a := 1) (by omega) (by decide) (by decide) (fun b h1 h2 => ?_) (.none (fun a h1 h2 => ?_))
  · have h : b = 0 := by omega
    rw [h]; decide
  have h : a = 2 := by simp at h1 h2; omega
  rw [h]; decide
theorem hit_b (is : List Ins) (hok : ∀ (k : Nat) (i : Ins), is[k]? = some i → okI is.length i) (h0 : 0 < is.length) (his : is.length ≤ 4000) : ∃ f, HitF is ([98], true) f ∧ f [97, 98] = [((1 : Int), (2 : Int))] ∧ f [99, 98] = [((1 : Int), (2 : Int))] := by
 obtain ⟨g, hg⟩ := xkv is ([98], true) hok h0 his (by decide)
 refine ⟨fun tx => if tx = [97, 98] ∨ tx = [99, 98] then [(1, 2)] else g tx, fun tx htx => ?_, by simp, by simp⟩
 by_cases h : tx = [97, 98] ∨ tx = [99, 98]
 · simp only [if_pos h]
   obtain ⟨c, hc, rfl⟩ : ∃ c : UInt8, (c = 97 ∨ c = 99) ∧ tx = [c, 98] := by
    rcases h with rfl | rfl
    · exact ⟨97, Or.inl rfl, rfl⟩
    exact ⟨99, Or.inr rfl, rfl⟩
   refine ⟨⟨by simp, fun p hp => ?_⟩, fun eb pv w hE => xii eb _ pv is [98] [c, 98] _ w hE (by simp) (by simp) (Or.inr (Or.inl ⟨1, by simp, ?_⟩)) (by simp) ?_ (lit_b c hc) (by simp)⟩
   · obtain rfl : p = (1, 2) := by simpa using hp
     simp
   · rcases hc with rfl | rfl <;> decide
   rcases hc with rfl | rfl <;> decide
 simp only [if_neg h]
 exact hg tx htx
def xbL (a : Option Addr) (n c : Nat) (pt : List UInt8) : JV := ⟨a, n, c, none, 0, 0, -1, 0, 100, pt, 0, -1, 0, 0, 0, -1, 1, 8, 0, 1, 1⟩
theorem xbU (j : JV) : (jCs j).all (·.oneCell') = true := by simp [jCs, Value.oneCell']
set_option maxHeartbeats 4000000 in
theorem xj0 (l pt : List UInt8) (w : World) (hl : l.length ≤ 1000) :
 Calls Tryz.prog 17 #[.string ⟨l.toArray⟩, .string ⟨pt.toArray⟩] w fun e w' => ∃ a c, e = .returned (jV (xbL a l.length c pt)) ∧ SlOf 1 encB w' (.slice a l.length c) l ∧ xaa (fun _ => False) w w' := by
 have Hs : Hid ((⟨l.toArray⟩ : ByteArray).data.toList = l) := rfl
 have Hz : Hid ((⟨l.toArray⟩ : ByteArray).size = l.length) := by show l.toArray.size = _; simp
 generalize (⟨l.toArray⟩ : ByteArray) = s at *
 go_enter Tryz.func17, Tryz.ntmps17
 go_upto_region 1 with fail
 have hb0 := heap_alloc_new w (.cells #[.slice none 0 0, .slice none 0 0, .int .i64 0, .int .i64 0, .int .i64 0, .string ⟨#[]⟩, .int .i64 0, .int .i64 0, .int .i64 0, .int .i64 0, .int .i64 0, .int .i64 0, .int .i64 0, .int .i64 0, .int .i64 0, .int .i64 0, .int .i64 0] 25)
 have hk0 : xaa (fun _ => False) w (w.alloc (.cells #[.slice none 0 0, .slice none 0 0, .int .i64 0, .int .i64 0, .int .i64 0, .string ⟨#[]⟩, .int .i64 0, .int .i64 0, .int .i64 0, .int .i64 0, .int .i64 0, .int .i64 0, .int .i64 0, .int .i64 0, .int .i64 0, .int .i64 0, .int .i64 0] 25)) := (xaa.refl _ _).alloc _
 generalize (w.alloc (.cells #[.slice none 0 0, .slice none 0 0, .int .i64 0, .int .i64 0, .int .i64 0, .string ⟨#[]⟩, .int .i64 0, .int .i64 0, .int .i64 0, .int .i64 0, .int .i64 0, .int .i64 0, .int .i64 0, .int .i64 0, .int .i64 0, .int .i64 0, .int .i64 0] 25)) = w1 at *
 have hconv := fun W => Lib.run_convert_string_bytes (P := Tryz.prog) W 9 22 5 s Tryz.underlying9 Tryz.underlying22 Tryz.underlying5
 have hlt1 : w.heap.size < w1.heap.size := (Array.getElem?_eq_some_iff.1 hb0).1
 have hb1 : (Lib.bytesWorld w1 5 s).heap[w.heap.size]? = _ := (Lib.bytesWorld_at_old w1 5 s w.heap.size hlt1).trans hb0
 have HB1 := xmA hb1
 have HB0 := xmA hb0
 clear hb1 hb0
 have HSz : Hid (∃ c, grownCap w1 s.size 0 5 = c ∧ s.size ≤ c) := xmA ⟨_, rfl, grownCap_ge _ _ _ _⟩
 go_wp2_with (refine wpList_store_row rfl 25 (.tmp 4) (.tmp 8) rfl w.heap.size (jCs (xbL (some ⟨w1.heap.size, 0, none⟩) s.size (grownCap w1 s.size 0 5) pt)) rfl rfl 25 _ HB1.out (xar _) rfl (xbU _) ?_)
 refine bodyPost_ret (results_cell_row rfl _ _ w.heap.size 25 (jCs (xbL (some ⟨w1.heap.size, 0, none⟩) s.size (grownCap w1 s.size 0 5) pt)) (0, 0) _ rfl (setRow_heap _ _ _ _ _ _ HB1.out) Tryz.underlying25 rfl (xar _)) rfl ?_
 have hk2 : xaa (fun _ => False) w1 (Lib.bytesWorld w1 5 s) := ⟨rfl, rfl, rfl, by rw [Lib.bytesWorld_size]; omega, fun k hk _ => Lib.bytesWorld_at_old w1 5 s k hk⟩
 have hk3 : xaa (fun b => b = w.heap.size) (Lib.bytesWorld w1 5 s) ((Lib.bytesWorld w1 5 s).setRow w.heap.size (jCs (xbL (some ⟨w1.heap.size, 0, none⟩) s.size (grownCap w1 s.size 0 5) pt))) :=
  ⟨rfl, rfl, rfl, by simp, fun k hk hs => setRow_other _ _ _ _ hs⟩
 obtain ⟨c, hc, hc2⟩ := HSz.out
 rw [hc] at hk3 ⊢
 refine ⟨some ⟨w1.heap.size, 0, none⟩, c, by rw [← Hz.out]; rfl, ?_, (hk0.trans hk2).trans2 hk3 (fun b hb e => by have e : b = w.heap.size := e; omega)⟩
 have hz := Hz.out
 refine ⟨some ⟨w1.heap.size, 0, none⟩, c, rfl, ⟨by omega, fun h => by cases h⟩, by omega, fun h0 => ⟨w1.heap.size, 0, rfl, fun i x hx j hj => ?_⟩⟩
 obtain rfl : j = 0 := by omega
 have hi : i < s.size := by
  rw [hz]
  exact (List.getElem?_eq_some_iff.1 hx).1
 have hcell := Lib.bytesWorld_cell w1 5 s i hi
 rw [show 0 + i * 1 + 0 = i by omega]
 refine hk3.cell ?_ (by show ¬ w1.heap.size = w.heap.size; omega)
 rw [hcell, Hs.out]
 simp [encB, List.getD, hx]
theorem xhf (cd : Int) (hcd : 0 ≤ cd ∧ cd ≤ 3) (mo : Nat) (data : List UInt8) (fl : Nat) :
 (∃ y, (xdP cd mo data).1 = (xeH cd mo (data.take fl)).1 ++ y) ∧ ((xeH cd mo (data.take fl)).2 = 11 ∨ xeH cd mo (data.take fl) = xdP cd mo data) := by
 obtain ⟨y1, hy1⟩ := xjf cd (by omega) (data.take fl) (data.drop fl)
 rw [List.take_append_drop] at hy1
 obtain ⟨y, hy⟩ : ∃ y, xbv cd data = (decW (decN cd) (data.take fl)).1 ++ y := ⟨y1 ++ (xbk true (decW (decN cd) data).2).1, by unfold xbv; rw [hy1, List.append_assoc]⟩
 unfold xeH xdP
 rw [hy]
 generalize (decW (decN cd) (data.take fl)).1 = a
 obtain ⟨h1, h2⟩ := xld mo a.length a y 0 0 (Nat.le_refl _)
 by_cases he : (splA mo a 0 0).2.1 = 10
 · rw [h1 he, he]
   exact ⟨⟨[], by simp⟩, Or.inr (by simp)⟩
 obtain ⟨h', n', p', e1, e2⟩ := h2 he
 have e0 : (splA mo a 0 0).2.1 = 0 := by rw [e1]
 rw [e2]
 generalize splA mo (h' ++ y) n' p' = B
 refine ⟨?_, Or.inl (by rw [e0]; simp)⟩
 by_cases hB : B.2.1 ≠ 0
 · rw [if_pos hB]; exact ⟨_, rfl⟩
 rw [if_neg hB]; exact ⟨_, List.append_assoc _ _ _⟩
theorem xhV (ev : Int) (f : List UInt8 → List (Int × Int)) : ∀ (a b : List Rc) (t : Tel), runL ev f t (a ++ b) = if (runL ev f t a).2.2 then runL ev f t a else ((runL ev f t a).1 ++ (runL ev f (runL ev f t a).2.1 b).1, (runL ev f (runL ev f t a).2.1 b).2)
 | [], b, t => by simp [runL]
 | r :: a, b, t => by
  rw [List.cons_append, runL, runL]
  by_cases h : (addP t r (xbz ev f r)).2.enough = true
  · rw [if_pos h, if_pos h]; simp
  rw [if_neg h, if_neg h, xhV ev f a b]
  simp only
  split <;> simp [List.append_assoc]
theorem xgR (t : Tel) (r : Rc) (l : List (Int × Int)) : (addP t r l).2.tell = t.tell := by
 unfold addP ctxP
 repeat' split
 all_goals first | rfl | exact (xdy _ _).1
theorem xgb (ev : Int) (f : List UInt8 → List (Int × Int)) : ∀ (a : List Rc) (t : Tel), (runL ev f t a).2.1.tell = t.tell
 | [], t => rfl
 | r :: a, t => by
  rw [runL]
  split
  · exact xgR _ _ _
  exact (xgb ev f a _).trans (xgR _ _ _)
theorem xgG {t : Tel} (h : t.tell ≠ 2) : endP t = [] := by
 unfold endP
 rw [if_pos (by simp [h])]
theorem xiJ (ev : Int) (f : List UInt8 → List (Int × Int)) (tell : Int) (be af : Nat) (ht : tell ≠ 2) (A F : List Rc × Int) (hb : ∃ y, A.1 = F.1 ++ y) (he : F.2 = 11 ∨ F = A) :
 (∃ z, (runP ev f tell be af A).1 = (runP ev f tell be af F).1 ++ z) ∧ ((runP ev f tell be af F).2 = 11 ∨ runP ev f tell be af F = runP ev f tell be af A) := by
 rcases he with he | rfl
 rotate_left
 · exact ⟨⟨[], by simp⟩, Or.inr rfl⟩
 obtain ⟨y, hy⟩ := hb
 have ha := xhV ev f F.1 y (tel0 tell be af)
 rw [← hy] at ha
 by_cases hen : (runL ev f (tel0 tell be af) F.1).2.2 = true
 · rw [if_pos hen] at ha
   have : runP ev f tell be af F = runP ev f tell be af A := by
    unfold runP
    rw [ha, if_pos hen, if_pos hen]
   exact ⟨⟨[], by rw [this]; simp⟩, Or.inr this⟩
 rw [if_neg hen] at ha
 have hF : runP ev f tell be af F = ((runL ev f (tel0 tell be af) F.1).1, 11) := by
  unfold runP
  rw [if_neg hen, if_pos (by omega), he]
 rw [hF]
 refine ⟨?_, Or.inl rfl⟩
 show ∃ z, _ = (runL ev f (tel0 tell be af) F.1).1 ++ z
 generalize (runL ev f (tel0 tell be af) F.1).1 = p at *
 have ha1 := congrArg Prod.fst ha
 unfold runP
 split
 · exact ⟨_, ha1⟩
 split
 · exact ⟨_, ha1⟩
 rw [xgG (by rw [xgb]; exact ht)]
 exact ⟨_, by rw [List.append_nil]; exact ha1⟩
theorem xhW (ev : Int) (f : List UInt8 → List (Int × Int)) : ∀ (a : List Rc) (t : Tel), t.tell = 0 → t.over = false → t.enough = false → runL ev f t a = (a.flatMap fun r => xew r (xbz ev f r), t, false)
 | [], t, _, _, _ => rfl
 | r :: a, t, h1, h2, h3 => by
  have e : addP t r (xbz ev f r) = (xew r (xbz ev f r), t) := by
   unfold addP
   rw [if_neg (by rw [h2]; simp), if_pos h1]
  rw [runL, e, if_neg (by rw [h3]; simp), xhW ev f a t h1 h2 h3]
  rfl
theorem xfp (ev : Int) (f : List UInt8 → List (Int × Int)) (be af : Nat) (rd : List Rc × Int) : runP ev f 0 be af rd = (rd.1.flatMap (fun r => xew r (xbz ev f r)), rd.2) := by
 unfold runP
 rw [xhW ev f rd.1 (tel0 0 be af) rfl rfl rfl]
 simp only
 rw [xgG (by show (0 : Int) ≠ 2; omega), List.append_nil]
 split
 · contradiction
 split
 · rfl
 rename_i h
 have : rd.2 = 0 := by simpa using h
 rw [this]
theorem xgy (ev : Int) (f : List UInt8 → List (Int × Int)) : ∀ (a : List Rc), (a.flatMap (fun r => xew r (xbz ev f r))).Sublist (a.flatMap (fun r => xew r (xbz 0 f r)))
 | [] => List.Sublist.refl _
 | r :: a => by
  rw [List.flatMap_cons, List.flatMap_cons]
  refine List.Sublist.append ?_ (xgy ev f a)
  have h0 : xbz 0 f r = f r.text := by unfold xbz; rw [if_pos (by unfold xcb; simp)]
  rw [h0]
  unfold xbz
  split
  · exact List.Sublist.refl _
  exact List.nil_sublist _
theorem xlc {x y : List UInt8} {l m : List (List UInt8)} (h : (x :: l).Sublist (y :: m)) : (if y = x then l else x :: l).Sublist m := by
 by_cases e : y = x
 · subst e
   rw [if_pos rfl]
   exact List.cons_sublist_cons.1 h
 rw [if_neg e]
 cases h with
 | cons _ h => exact h
 | cons_cons _ h => exact absurd rfl e
end Go.Proofs.YtjahiihmoglpfaaGreatDoor
