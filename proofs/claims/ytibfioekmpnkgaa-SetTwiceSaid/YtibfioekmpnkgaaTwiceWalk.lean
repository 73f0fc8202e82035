/-
  The walk of_ SetTwice.
-/
import Derived.Test.YtibfioekmpnkgaaSetWrap
namespace Go.Proofs.Ytibfioekmpnkgaa
open Go.RowKit
set_option linter.unusedVariables false
set_option linter.unusedSimpArgs false
set_option maxRecDepth 100000

set_option maxHeartbeats 2000000 in
theorem twice_main (l m : List (Int × Int)) (v u : Value) (w : World) (h : RSl w v l) (g : RSl w u m) (hl : l.length ≤ 12) (hm : m.length ≤ 12) :
    Calls Try.prog 10 #[v, u] w fun e w' => e = .returned (.bool true) ∧ Keeps (fun _ => False) w w' := by
  obtain ⟨a0, c0, rfl, _, _⟩ := h.cells
  obtain ⟨a1, c1, rfl, _, _⟩ := g.cells
  have H := h
  have G := g
  clear h g
  go_enter Try.func10, Try.ntmps10
  go_wp2_with fail
  refine (lawAwake_any _).mono ?_
  rintro e w1 ⟨rfl, k⟩
  go_wp2_with fail
  refine (not_r l _ H k 12 hl (by omega)).mono ?_
  rintro e w2 ⟨ua, oa, rfl, pa, ra, na, j⟩
  have k := k.trans j
  have ja := Keeps.refl (fun _ => False) w2
  clear j
  go_wp2_with fail
  refine (not_r oa _ ra ja 13 na (by omega)).mono ?_
  rintro e w3 ⟨ub, ob, rfl, pb, rb, nb, j⟩
  have k := k.trans j
  have ja := ja.trans j
  have jb := Keeps.refl (fun _ => False) w3
  clear j
  go_wp2_with fail
  refine (of_r l _ H k 12 hl (by omega)).mono ?_
  rintro e w4 ⟨uc, oc, rfl, pc, rc, nc, j⟩
  have k := k.trans j
  have ja := ja.trans j
  have jb := jb.trans j
  have jc := Keeps.refl (fun _ => False) w4
  clear j
  go_wp2_with fail
  refine (same_r ob _ _ rb jb oc rc jc (not_not pa pb pc)).mono ?_
  rintro e w5 ⟨rfl, j⟩
  have k := k.trans j
  have ja := ja.trans j
  have jb := jb.trans j
  have jc := jc.trans j
  clear j
  clear ra ja
  clear rb jb
  clear rc jc
  go_wp2_with fail
  refine (or_r l m _ _ H k G k 12 12 hl hm (by omega) (by omega)).mono ?_
  rintro e w6 ⟨ud, od, rfl, pd, rd, nd, j⟩
  have k := k.trans j
  have jd := Keeps.refl (fun _ => False) w6
  clear j
  go_wp2_with fail
  refine (not_r od _ rd jd 24 nd (by omega)).mono ?_
  rintro e w7 ⟨ue, oe, rfl, pe, re, ne, j⟩
  have k := k.trans j
  have jd := jd.trans j
  have je := Keeps.refl (fun _ => False) w7
  clear j
  go_wp2_with fail
  refine (not_r l _ H k 12 hl (by omega)).mono ?_
  rintro e w8 ⟨uf, of_, rfl, pf, rf, nf, j⟩
  have k := k.trans j
  have jd := jd.trans j
  have je := je.trans j
  have jf := Keeps.refl (fun _ => False) w8
  clear j
  go_wp2_with fail
  refine (not_r m _ G k 12 hm (by omega)).mono ?_
  rintro e w9 ⟨ug, og, rfl, pg, rg, ng, j⟩
  have k := k.trans j
  have jd := jd.trans j
  have je := je.trans j
  have jf := jf.trans j
  have jg := Keeps.refl (fun _ => False) w9
  clear j
  go_wp2_with fail
  refine (and_r of_ og _ _ rf jf rg jg 13 13 nf ng (by omega) (by omega)).mono ?_
  rintro e w10 ⟨uh, oh, rfl, ph, rh, nh, j⟩
  have k := k.trans j
  have jd := jd.trans j
  have je := je.trans j
  have jf := jf.trans j
  have jg := jg.trans j
  have jh := Keeps.refl (fun _ => False) w10
  clear j
  go_wp2_with fail
  refine (same_r oe _ _ re je oh rh jh (de_morgan pd pe pf pg ph)).mono ?_
  rintro e w11 ⟨rfl, j⟩
  have k := k.trans j
  have jd := jd.trans j
  have je := je.trans j
  have jf := jf.trans j
  have jg := jg.trans j
  have jh := jh.trans j
  clear j
  clear rd jd
  clear re je
  clear rf jf
  clear rg jg
  clear rh jh
  go_wp2_with fail
  refine (or_r l m _ _ H k G k 12 12 hl hm (by omega) (by omega)).mono ?_
  rintro e w12 ⟨ui, oi, rfl, pi, ri, ni, j⟩
  have k := k.trans j
  have ji := Keeps.refl (fun _ => False) w12
  clear j
  go_wp2_with fail
  refine (or_r m l _ _ G k H k 12 12 hm hl (by omega) (by omega)).mono ?_
  rintro e w13 ⟨uj, oj, rfl, pj, rj, nj, j⟩
  have k := k.trans j
  have ji := ji.trans j
  have jj := Keeps.refl (fun _ => False) w13
  clear j
  go_wp2_with fail
  refine (same_r oi _ _ ri ji oj rj jj (or_comm' pi pj)).mono ?_
  rintro e w14 ⟨rfl, j⟩
  have k := k.trans j
  have ji := ji.trans j
  have jj := jj.trans j
  clear j
  clear ri ji
  clear rj jj
  go_wp2_with fail
  refine (and_r l m _ _ H k G k 12 12 hl hm (by omega) (by omega)).mono ?_
  rintro e w15 ⟨uq, oq, rfl, pq, rq, nq, j⟩
  have k := k.trans j
  have jq := Keeps.refl (fun _ => False) w15
  clear j
  go_wp2_with fail
  refine (and_r m l _ _ G k H k 12 12 hm hl (by omega) (by omega)).mono ?_
  rintro e w16 ⟨us, os, rfl, ps, rs, ns, j⟩
  have k := k.trans j
  have jq := jq.trans j
  have js := Keeps.refl (fun _ => False) w16
  clear j
  go_wp2_with fail
  refine (same_r oq _ _ rq jq os rs js (and_comm' pq ps)).mono ?_
  rintro e w17 ⟨rfl, j⟩
  have k := k.trans j
  have jq := jq.trans j
  have js := js.trans j
  clear j
  clear rq jq
  clear rs js
  go_wp2_with fail
  refine (or_r l m _ _ H k G k 12 12 hl hm (by omega) (by omega)).mono ?_
  rintro e w18 ⟨ut, ot, rfl, pt, rt, nt, j⟩
  have k := k.trans j
  have jt := Keeps.refl (fun _ => False) w18
  clear j
  go_wp2_with fail
  refine (count_r ot _ rt jt (by omega) (card ot) (fun out ho => card_of ho)).mono ?_
  rintro e w19 ⟨rfl, bt, j⟩
  have k := k.trans j
  have jt := jt.trans j
  clear j
  clear rt jt
  go_wp2_with fail
  refine (and_r l m _ _ H k G k 12 12 hl hm (by omega) (by omega)).mono ?_
  rintro e w20 ⟨uv, ov, rfl, pv, rv, nv, j⟩
  have k := k.trans j
  have jv := Keeps.refl (fun _ => False) w20
  clear j
  go_wp2_with fail
  refine (count_r ov _ rv jv (by omega) (card ov) (fun out ho => card_of ho)).mono ?_
  rintro e w21 ⟨rfl, bv, j⟩
  have k := k.trans j
  have jv := jv.trans j
  clear j
  clear rv jv
  go_wp2_with fail
  refine (count_r l _ H k (by omega) (card l) (fun out ho => card_of ho)).mono ?_
  rintro e w22 ⟨rfl, bx, j⟩
  have k := k.trans j
  clear j
  go_wp2_with fail
  refine (count_r m _ G k (by omega) (card m) (fun out ho => card_of ho)).mono ?_
  rintro e w23 ⟨rfl, by_, j⟩
  have k := k.trans j
  clear j
  have hcc := card_two pt pv
  clear H G
  generalize card ot = x1 at *
  generalize card ov = x2 at *
  generalize card l = x3 at *
  generalize card m = x4 at *
  obtain ⟨y1, y2⟩ := bt
  obtain ⟨y3, y4⟩ := bv
  obtain ⟨y5, y6⟩ := bx
  obtain ⟨y7, y8⟩ := by_
  have hw2 : wrap64 (x3 + x4) = x3 + x4 := by unfold wrap64; omega
  have hw3 : wrap64 (x1 + x2) = x3 + x4 := by rw [hcc]; exact hw2
  have hb : (wrap64 (x3 + x4) == x3 + x4) = true := by rw [hw2]; simp
  go_wp2_with fail
  go_ret
  exact ⟨rfl, k⟩
end Go.Proofs.Ytibfioekmpnkgaa
