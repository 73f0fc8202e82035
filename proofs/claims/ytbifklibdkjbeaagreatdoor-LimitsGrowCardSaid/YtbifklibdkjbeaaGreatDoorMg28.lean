/-
  Several texts in one: The document's class: all of it. A struct is stored into a block that is known whole: by one step, and the world behind it a letter.
-/
import Derived.Test.YtbifklibdkjbeaaGreatDoorMg27
import Derived.Test.YtbifklibdkjbeaaGreatDoorMg26
import Derived.BigQuiet
import Derived.Test.YtbifklibdkjbeaaGreatDoorMg1
import Derived.Test.YtbifklibdkjbeaaGreatDoorProg
import Derived.Great.BuildSlice
import Derived.Laws.Tables
import Derived.Laws.Rows
namespace Go.Proofs.YtbifklibdkjbeaaGreatDoor
open Go.RowKit
set_option linter.unusedVariables false
set_option linter.unusedSimpArgs false
set_option maxRecDepth 100000
set_option maxHeartbeats 16000000
theorem xjy (l : List Int) (b off cap : Nat) (w : World) (h : ISl w (.slice (some ⟨b, off, none⟩) l.length cap) l) (hl : l.length ≤ 200) (hpos : 0 < l.length) (h94 : l.head? ≠ some 94) : Calls Tryz.prog 149 #[.slice (some ⟨b, off, none⟩) l.length cap] w fun e w' => ClE w (clP l) e w' := by
 obtain ⟨a, cap', e1, hcap, hc⟩ := h.cells
 injection e1 with e1 _ e2
 subst e1 e2
 have HI := xoo h
 clear h
 obtain ⟨b', off', e1, hcc⟩ := hc hpos
 injection e1 with e1
 injection e1 with e1 e2
 subst e1 e2
 obtain ⟨r0, hr0⟩ : ∃ r, l[0]? = some r := ⟨_, List.getElem?_eq_getElem hpos⟩
 obtain ⟨c0, c1, c2⟩ := hcc 0 r0 hr0
 simp only [Nat.add_zero] at c0
 have gr : (r0 == 94) = false := beq_eq_false_iff_ne.2 (by rintro rfl; exact h94 (by rw [List.head?_eq_getElem?]; exact hr0))
 have HCC := xoo hcc
 have HC : Hid (clP l = (clG (l.length + 1) true (l.drop 0) [] 0).map fun p => (ofL p.1, p.2)) := xoo (by unfold clP; rw [if_neg h94]; rfl)
 generalize clP l = P at *
 obtain ⟨G, HG'⟩ : ∃ G, clG (l.length + 1) true (l.drop 0) [] 0 = G := ⟨_, rfl⟩
 rw [HG'] at HC
 have HG := xoo HG'
 clear HG' hc hcc h94 hr0
 have hp1 : decide ((0 : Int) < (l.length : Int)) = true := by simpa using hpos
 have hp2 : (0 : Int) < (l.length : Int) := by omega
 go_enter Tryz.func149, Tryz.ntmps149
 go_wp2_with fail
 go_loopw [4, 6, 7] (fun atv av pv wr => xmH G l w atv av pv wr) (fun atv _ _ _ => l.length + 1 - (intOf atv).toNat)
 case atStart => exact ⟨0, 0, l.length + 1, [], rfl, rfl, by first | omega | simp, by omega, by omega, by simp, World.ownsRow_nil _ _ _ _, xa.refl _ _, HG.out, by simp⟩
 case round =>
  obtain ⟨i, p, n, all, rfl, rfl, hi, hpi, hn, hal, hown, hk, hg, h64⟩ := hrel
  have hsz := hk.size
  obtain ⟨m, rfl⟩ : ∃ m, n = m + 1 := ⟨n - 1, by omega⟩
  obtain ⟨ava, avc, rfl⟩ := xac hown
  have HOW := xoo hown
  have HK := xoo hk
  have Hg := xoo hg
  have HIr := xoo (HI.out.keep hk)
  clear hown hk hg
  have hI3 : (0 : Int) ≤ (i : Int) := by omega
  have hI4 : (i : Int) ≤ (l.length : Int) := by omega
  have hI5 : (i : Int) ≤ (cap : Int) := by omega
  by_cases hil : i < l.length
  · obtain ⟨x, hx⟩ : ∃ x, l[i]? = some x := ⟨_, List.getElem?_eq_getElem hil⟩
    have hxc := HK.out.cell (HCC.out i x hx).1 id
    have Hhd : Hid ((l.drop i).head? = some x) := xoo (by rw [List.head?_drop, hx])
    have hid : decide ((i : Int) < (l.length : Int)) = true := by simp; omega
    have hid0 : (i : Int) < (l.length : Int) := by omega
    clear hx
    by_cases hA : x = 93 ∧ 0 < p
    · obtain ⟨rfl, hp0⟩ := hA
      have hpd : decide ((0 : Int) < (p : Int)) = true := by simpa using hp0
      have E : Hid (G = some (all, i + 1)) := xoo (by rw [← Hg.out]; unfold clG; rw [if_pos ⟨by simp; omega, Hhd.out⟩])
      have HM := xoo (fun W v' hW => xeq all v' false W hW (by omega))
      have HRS := xoo (show RSl wr (.slice ava all.length avc) all from ⟨SlOf.ofOwn HOW.out (by omega), h64⟩)
      go_wp2_with fail
      refine (HM.out _ _ HRS.out).mono ?_
      rintro e w4 ⟨u4', rfl, hu4⟩
      have HU4 := xoo hu4
      obtain ⟨va, vc, rfl⟩ := xac hu4.1
      clear hu4
      go_wp2_with fail
      go_ret2
      rw [HC.out, E.out]
      exact ⟨_, rfl, xdh HU4.out.1 hsz, HK.out.trans HU4.out.2⟩
    have hA1 : (decide (p = 0) = false ∧ (l.drop i).head? = some 93) ↔ False := by
     rw [Hhd.out]; simp; intro h1 h2; exact hA ⟨h2, by omega⟩
    have Hg2 : Hid ((match ptP (l.drop i) with
     | none => none
     | some (s, is, a) =>
      if is = true ∧ ((l.drop i).drop a).head? = some 45 then
       match ptP ((l.drop i).drop (a + 1)) with
       | none => none
       | some (t, too, b) => if too = false ∨ lo1 t < lo1 s then none else clG m false ((l.drop i).drop (a + 1 + b)) (all ++ [(lo1 s, lo1 t)]) (i + a + 1 + b)
      else clG m false ((l.drop i).drop a) (all ++ s) (i + a)) = G) := xoo (by
       have e := Hg.out; unfold clG at e; rw [if_neg (by rw [hA1]; exact id)] at e; exact e)
    have hI2 := HIr.out.dropI i (by omega) (by omega)
    have HRP := xoo (xaN (l.drop i) _ wr hI2)
    have Hrng := xoo (fun s is k (h : ptP (l.drop i) = some (s, is, k)) => xf4 hI2.2 h)
    have Hloc := xoo (fun s is k (h : ptP (l.drop i) = some (s, is, k)) => xbA h)
    clear hI2
    by_cases hx93 : x = 93
    · subst hx93
      have hp0 : ¬ 0 < p := fun h => hA ⟨rfl, h⟩
      have hpd : decide ((0 : Int) < (p : Int)) = false := by simp; omega
      have hPN : ptP (l.drop i) = none := by
       have e := Hhd.out
       cases hd : l.drop i with
       | nil => rfl
       | cons y t =>
        rw [hd] at e; simp at e; subst e
        rw [xbI, if_neg (by decide), if_pos (by decide +kernel)]
      rw [hPN] at HRP Hg2
      have E : Hid (G = none) := xoo Hg2.out.symm
      clear Hg2 hPN
      go_wp2_with fail
      refine HRP.out.mono ?_
      rintro e w3 ⟨rfl, K⟩
      have K3 := xoo K
      clear K
      go_wp2_with fail
      go_ret2
      rw [HC.out, E.out]
      exact ⟨rfl, HK.out.trans K3.out⟩
    have gx : (x == 93) = false := beq_eq_false_iff_ne.2 hx93
    cases hP : ptP (l.drop i) with
    | none =>
     rw [hP] at HRP Hg2
     have E : Hid (G = none) := xoo Hg2.out.symm
     clear Hg2 hP
     go_wp2_with fail
     refine HRP.out.mono ?_
     rintro e w3 ⟨rfl, K⟩
     have K3 := xoo K
     clear K
     go_wp2_with fail
     go_ret2
     rw [HC.out, E.out]
     exact ⟨rfl, HK.out.trans K3.out⟩
    | some q =>
     obtain ⟨s, is, k⟩ := q
     obtain ⟨k1, k2, _⟩ := Hloc.out s is k hP
     obtain ⟨r1, r2⟩ := Hrng.out s is k hP
     rw [List.length_drop] at k2
     rw [hP] at HRP Hg2
     dsimp only at Hg2
     have H64s := xoo r2
     have gk : ((k : Int) == 0) = false := beq_eq_false_iff_ne.2 (by omega)
     clear r2 Hloc Hrng
     cases is with
     | false =>
      have Hg3 : Hid (clG m false (l.drop (i + k)) (all ++ s) (i + k) = G) := xoo (by have e := Hg2.out; rw [if_neg (by simp), List.drop_drop] at e; exact e)
      clear Hg2 hP
      go_wp2_with fail
      refine HRP.out.mono ?_
      rintro e w3 ⟨u, rfl, hu⟩
      have HU := xoo hu
      obtain ⟨ua, uc, rfl⟩ := xac hu.1
      clear hu
      have KW : Hid (xa (fun _ => False) w w3) := xoo (HK.out.trans HU.out.2)
      have HO3 : Hid (w3.ownsRow w.heap.size 287 2 (.slice ava all.length avc) all.length (cellsOf 2 encR all)) := xoo (xae HOW.out HU.out.2 (fun _ _ h => h))
      have HSS : Hid (SlOf 2 encR w3 (.slice ua s.length uc) s) := xoo (SlOf.ofOwn HU.out.1 (by omega))
      have hsz3 := KW.out.size
      go_wp2_with (at_builtin; refine xaw rfl (.tmp 113) (.tmp 114) rfl w.heap.size _ _ _ rfl HO3.out _ s rfl HSS.out ?f1 ?f2 ?_)
      case f1 => first | omega | (simp; omega)
      case f2 => omega
      intro v4 w4 hown4 hgrow4
      have KW4 : Hid (xa (fun _ => False) w w4) := xoo (KW.out.grown hgrow4 (fun b hb => Or.inr (xaa HO3.out b hb)))
      have HO4 := xoo hown4
      clear hown4 hgrow4
      go_wp2_with fail
      go_roundw
      case rel => exact xcC (i := i) (k := k) (p := p) (m := m) (by omega) (by omega) hpi hn hal r1 h64 H64s.out KW4.out (by rw [← Hg3.out]) (by first | rfl | omega | (simp; done)) (by rfl) HO4.out (by go_num) (by go_num)
      case measure => simp [intOf]; omega
     | true =>
      obtain ⟨x1, rfl⟩ := xf5 hP
      have Hg4 : Hid ((if ((l.drop (i + k)).head? = some 45) then
       match ptP (l.drop (i + k + 1)) with
       | none => none
       | some (t, too, b) => if too = false ∨ lo1 t < x1 then none else clG m false (l.drop (i + (k + 1 + b))) (all ++ [(x1, lo1 t)]) (i + (k + 1 + b))
      else clG m false (l.drop (i + k)) (all ++ [(x1, x1)]) (i + k)) = G) := xoo (by
       have e := Hg2.out
       simp only [List.drop_drop, true_and, lo1, List.head?_cons, Option.getD_some] at e ⊢
       simp only [Nat.add_assoc] at e ⊢
       exact e)
      clear Hg2 hP
      by_cases hat : i + k < l.length
      · obtain ⟨y, hy⟩ : ∃ y, l[i + k]? = some y := ⟨_, List.getElem?_eq_getElem hat⟩
        rw [List.head?_drop, hy] at Hg4
        have hyc := HK.out.cell (HCC.out (i + k) y hy).1 id
        have hat1 : decide ((i : Int) + (k : Int) < (l.length : Int)) = true := by simp; omega
        have hat2 : (i : Int) + (k : Int) < (l.length : Int) := by omega
        clear hy
        by_cases hy45 : y = 45
        · subst hy45
          have hJ3 : (0 : Int) ≤ (i : Int) + (k : Int) + 1 := by omega
          have hJ4 : (i : Int) + (k : Int) + 1 ≤ (l.length : Int) := by omega
          have hJ5 : (i : Int) + (k : Int) + 1 ≤ (cap : Int) := by omega
          have Hg5 : Hid ((match ptP (l.drop (i + k + 1)) with
           | none => none
           | some (t, too, b) => if too = false ∨ lo1 t < x1 then none else clG m false (l.drop (i + (k + 1 + b))) (all ++ [(x1, lo1 t)]) (i + (k + 1 + b))) = G) := xoo (by have e := Hg4.out; rw [if_pos rfl] at e; exact e)
          clear Hg4
          by_cases hlt : i + k + 1 < l.length
          · have hcn : ¬ cap = i + k + 1 := by omega
            have HRP2 := xoo (fun W (K : xa (fun _ => False) wr W) => xaN (l.drop (i + k + 1)) _ W ((HIr.out.keep K).dropI (i + k + 1) (by omega) hcn))
            have Hrng2 := xoo (fun s is b (h : ptP (l.drop (i + k + 1)) = some (s, is, b)) => xf4 (HIr.out.dropI (i + k + 1) (by omega) hcn).2 h)
            cases hP2 : ptP (l.drop (i + k + 1)) with
            | none =>
             rw [hP2] at HRP2 Hg5
             have E : Hid (G = none) := xoo Hg5.out.symm
             clear Hg5 hP2 Hrng2
             go_wp2_with fail
             refine HRP.out.mono ?_
             rintro e w3 ⟨u, rfl, hu⟩
             have HU := xoo hu
             have hyc := hu.2.cell hyc id
             obtain ⟨ua, uc, rfl⟩ := xac hu.1
             clear hu
             go_wp2_with fail
             refine (HRP2.out w3 HU.out.2).mono ?_
             rintro e w5 ⟨rfl, K⟩
             have K5 := xoo K
             clear K
             go_wp2_with fail
             go_quiet (fail)
             go_wp2_with fail
             go_ret2
             rw [HC.out, E.out]
             exact ⟨rfl, ((HK.out.trans HU.out.2).trans K5.out).drawN _⟩
            | some q2 =>
             obtain ⟨t, too, b2⟩ := q2
             obtain ⟨b1, b3, _⟩ := xbA hP2
             rw [List.length_drop] at b3
             have Hr2 := xoo (Hrng2.out _ _ _ hP2).2
             have gb : ((b2 : Int) == 0) = false := beq_eq_false_iff_ne.2 (by omega)
             rw [hP2] at HRP2 Hg5
             dsimp only at Hg5
             cases too with
             | false =>
              have E : Hid (G = none) := xoo (by have e := Hg5.out; rw [if_pos (Or.inl rfl)] at e; exact e.symm)
              clear Hg5 hP2 Hrng2 Hr2
              go_wp2_with fail
              refine HRP.out.mono ?_
              rintro e w3 ⟨u, rfl, hu⟩
              have HU := xoo hu
              have hyc := hu.2.cell hyc id
              obtain ⟨ua, uc, rfl⟩ := xac hu.1
              clear hu
              go_wp2_with fail
              refine (HRP2.out w3 HU.out.2).mono ?_
              rintro e w5 ⟨u5, rfl, hu5⟩
              have HU5 := xoo hu5
              obtain ⟨ta, tc, rfl⟩ := xac hu5.1
              clear hu5
              go_wp2_with fail
              go_quiet (fail)
              go_wp2_with fail
              go_ret2
              rw [HC.out, E.out]
              exact ⟨rfl, ((HK.out.trans HU.out.2).trans HU5.out.2).drawN _⟩
             | true =>
              obtain ⟨x2, rfl⟩ := xf5 hP2
              have Hg6 : Hid ((if x2 < x1 then none else clG m false (l.drop (i + (k + 1 + b2))) (all ++ [(x1, x2)]) (i + (k + 1 + b2))) = G) := xoo (by
               have e := Hg5.out
               simp only [lo1, List.head?_cons, Option.getD_some, Bool.true_eq_false, false_or] at e
               exact e)
              clear hP2 Hrng2 Hg5
              by_cases hlo : x2 < x1
              · have gl : decide (x2 < x1) = true := by simpa using hlo
                have E : Hid (G = none) := xoo (by have e := Hg6.out; rw [if_pos hlo] at e; exact e.symm)
                clear Hg6 Hr2
                go_wp2_with fail
                refine HRP.out.mono ?_
                rintro e w3 ⟨u, rfl, hu⟩
                have HU := xoo hu
                have hyc := hu.2.cell hyc id
                obtain ⟨ua, uc, rfl⟩ := xac hu.1
                clear hu
                go_wp2_with fail
                refine (HRP2.out w3 HU.out.2).mono ?_
                rintro e w5 ⟨u5, rfl, hu5⟩
                have HU5 := xoo hu5
                obtain ⟨tg, tc, rfl, q1, q2⟩ := xbC hu5.1
                obtain ⟨sg, sc, hs1, q3, q4⟩ := xbC (xae HU.out.1 hu5.2 (fun _ _ h => h))
                injection hs1 with hs1 _ hs2
                subst hs1 hs2
                clear hu5
                go_wp2_with fail
                go_quiet (fail)
                go_wp2_with fail
                go_ret2
                rw [HC.out, E.out]
                exact ⟨rfl, ((HK.out.trans HU.out.2).trans HU5.out.2).drawN _⟩
              have gl : decide (x2 < x1) = false := by simpa using hlo
              have Hg3 : Hid (clG m false (l.drop (i + (k + 1 + b2))) (all ++ [(x1, x2)]) (i + (k + 1 + b2)) = G) := xoo (by have e := Hg6.out; rw [if_neg hlo] at e; exact e)
              have H64t : Hid (∀ q ∈ [(x1, x2)], in64 q.1 ∧ in64 q.2) := xoo (by
               intro q hq
               obtain rfl : q = (x1, x2) := by simpa using hq
               exact ⟨(H64s.out (x1, x1) (by simp)).1, (Hr2.out (x2, x2) (by simp)).1⟩)
              clear Hg6 Hr2
              go_wp2_with fail
              refine HRP.out.mono ?_
              rintro e w3 ⟨u, rfl, hu⟩
              have HU := xoo hu
              have hyc := hu.2.cell hyc id
              obtain ⟨ua, uc, rfl⟩ := xac hu.1
              clear hu
              go_wp2_with fail
              refine (HRP2.out w3 HU.out.2).mono ?_
              rintro e w5 ⟨u5, rfl, hu5⟩
              have HU5 := xoo hu5
              obtain ⟨tg, tc, rfl, q1, q2⟩ := xbC hu5.1
              obtain ⟨sg, sc, hs1, q3, q4⟩ := xbC (xae HU.out.1 hu5.2 (fun _ _ h => h))
              injection hs1 with hs1 _ hs2
              subst hs1 hs2
              have KX := xoo (HU.out.2.trans hu5.2)
              clear hu5
              go_wp2_with fail
              go_quiet (fail)
              have KX := xoo (KX.out.drawN nq)
              have q1 : (w5.drewN nq).cell? ⟨tg, 0, none⟩ = some (.int .i64 x2) := q1
              have q3 : (w5.drewN nq).cell? ⟨sg, 0, none⟩ = some (.int .i64 x1) := q3
              generalize w5.drewN nq = w6 at *
              go_wp2_with fail
              go_region_held3 (fun w' => w'.cell? ⟨tg, 0, none⟩ = some (.int .i64 x2) ∧ w'.cell? ⟨sg, 0, none⟩ = some (.int .i64 x1)) (first | exact ⟨by go_keep, by go_keep⟩ | go_keep) (fail)
              have KX := xoo ((KX.out.trans (xd5 w6 x1 x2).2).drew)
              have HS9 := xoo (SlOf.ofOwn ((xd5 w6 x1 x2).1.drew) (by simp))
              generalize w6.heap.size = s6 at *
              generalize (w6.alloc (.cells #[.int .i64 x1, .int .i64 x2] 287)).drew = w7 at *
              clear q1 q3
              have KW : Hid (xa (fun _ => False) w w7) := xoo (HK.out.trans KX.out)
              have HO3 : Hid (w7.ownsRow w.heap.size 287 2 (.slice ava all.length avc) all.length (cellsOf 2 encR all)) := xoo (xae HOW.out KX.out (fun _ _ h => h))
              have HSS : Hid (SlOf 2 encR w7 (.slice (some ⟨s6, 0, none⟩) 1 1) [(x1, x2)]) := xoo (HS9.out)
              have hsz3 := KW.out.size
              go_wp2_with (at_builtin; refine xaw rfl (.tmp 113) (.tmp 114) rfl w.heap.size _ _ _ rfl HO3.out _ [(x1, x2)] rfl HSS.out ?f1 ?f2 ?_)
              case f1 => first | omega | (simp; omega)
              case f2 => omega
              intro v4 w4 hown4 hgrow4
              have KW4 : Hid (xa (fun _ => False) w w4) := xoo (KW.out.grown hgrow4 (fun b hb => Or.inr (xaa HO3.out b hb)))
              have HO4 := xoo hown4
              clear hown4 hgrow4
              go_wp2_with fail
              go_roundw
              case rel => exact xcC (i := i) (k := (k + 1 + b2)) (p := p) (m := m) (by omega) (by omega) hpi hn hal (by simp) h64 H64t.out KW4.out (by rw [← Hg3.out]) (by first | rfl | omega | (simp; done)) (by rfl) HO4.out (by go_num) (by go_num)
              case measure => simp [intOf]; omega
          have hN2 : ptP (l.drop (i + k + 1)) = none := by rw [List.drop_eq_nil_of_le (by omega)]; rfl
          rw [hN2] at Hg5
          have E : Hid (G = none) := xoo Hg5.out.symm
          have hll : l.length = i + k + 1 := by omega
          clear Hg5 hN2
          by_cases hcn : cap = i + k + 1
          · have HRP2 := xoo (fun W (K : xa (fun _ => False) wr W) => xaN [] (.slice (some ⟨b, off, none⟩) 0 0) W ⟨⟨_, 0, rfl, ⟨Nat.le_refl _, (fun h => by cases h)⟩, by simp, fun h => by simp at h⟩, fun r hr => by cases hr⟩)
            rw [show ptP [] = none from rfl] at HRP2
            obtain rfl := hcn
            have Hll := xoo hll
            clear hll
            go_wp2_with fail
            refine HRP.out.mono ?_
            rintro e w3 ⟨u, rfl, hu⟩
            have HU := xoo hu
            have hyc := hu.2.cell hyc id
            obtain ⟨ua, uc, rfl⟩ := xac hu.1
            clear hu
            go_wp2_with fail
            refine (HRP2.out w3 HU.out.2).mono ?_
            rintro e w5 ⟨rfl, K⟩
            have K5 := xoo K
            clear K
            go_wp2_with fail
            go_quiet (fail)
            go_wp2_with fail
            go_ret2
            rw [HC.out, E.out]
            exact ⟨rfl, ((HK.out.trans HU.out.2).trans K5.out).drawN _⟩
          have HRP2 := xoo (fun W (K : xa (fun _ => False) wr W) => xaN (l.drop (i + k + 1)) _ W ((HIr.out.keep K).dropI (i + k + 1) (by omega) hcn))
          rw [show ptP (l.drop (i + k + 1)) = none by rw [List.drop_eq_nil_of_le (by omega)]; rfl] at HRP2
          clear hll
          go_wp2_with fail
          refine HRP.out.mono ?_
          rintro e w3 ⟨u, rfl, hu⟩
          have HU := xoo hu
          have hyc := hu.2.cell hyc id
          obtain ⟨ua, uc, rfl⟩ := xac hu.1
          clear hu
          go_wp2_with fail
          refine (HRP2.out w3 HU.out.2).mono ?_
          rintro e w5 ⟨rfl, K⟩
          have K5 := xoo K
          clear K
          go_wp2_with fail
          go_quiet (fail)
          go_wp2_with fail
          go_ret2
          rw [HC.out, E.out]
          exact ⟨rfl, ((HK.out.trans HU.out.2).trans K5.out).drawN _⟩
        have gy : (y == 45) = false := beq_eq_false_iff_ne.2 hy45
        generalize hS : [(x1, x1)] = s at *
        have Hg3 : Hid (clG m false (l.drop (i + k)) (all ++ s) (i + k) = G) := xoo (by have e := Hg4.out; rw [if_neg (by intro e; exact hy45 (Option.some.inj e))] at e; exact e)
        clear Hg4 hS
        go_wp2_with fail
        refine HRP.out.mono ?_
        rintro e w3 ⟨u, rfl, hu⟩
        have HU := xoo hu
        have hyc := hu.2.cell hyc id
        obtain ⟨ua, uc, rfl⟩ := xac hu.1
        clear hu
        have KW : Hid (xa (fun _ => False) w w3) := xoo (HK.out.trans HU.out.2)
        have HO3 : Hid (w3.ownsRow w.heap.size 287 2 (.slice ava all.length avc) all.length (cellsOf 2 encR all)) := xoo (xae HOW.out HU.out.2 (fun _ _ h => h))
        have HSS : Hid (SlOf 2 encR w3 (.slice ua s.length uc) s) := xoo (SlOf.ofOwn HU.out.1 (by omega))
        have hsz3 := KW.out.size
        go_wp2_with (at_builtin; refine xaw rfl (.tmp 113) (.tmp 114) rfl w.heap.size _ _ _ rfl HO3.out _ s rfl HSS.out ?f1 ?f2 ?_)
        case f1 => first | omega | (simp; omega)
        case f2 => omega
        intro v4 w4 hown4 hgrow4
        have KW4 : Hid (xa (fun _ => False) w w4) := xoo (KW.out.grown hgrow4 (fun b hb => Or.inr (xaa HO3.out b hb)))
        have HO4 := xoo hown4
        clear hown4 hgrow4
        go_wp2_with fail
        go_roundw
        case rel => exact xcC (i := i) (k := k) (p := p) (m := m) (by omega) (by omega) hpi hn hal r1 h64 H64s.out KW4.out (by rw [← Hg3.out]) (by first | rfl | omega | (simp; done)) (by rfl) HO4.out (by go_num) (by go_num)
        case measure => simp [intOf]; omega
      have hat1 : decide ((i : Int) + (k : Int) < (l.length : Int)) = false := by simp; omega
      generalize hS : [(x1, x1)] = s at *
      have Hg3 : Hid (clG m false (l.drop (i + k)) (all ++ s) (i + k) = G) := xoo (by have e := Hg4.out; have hn0 : l.drop (i + k) = [] := List.drop_eq_nil_of_le (by omega); rw [hn0] at e ⊢; simpa using e)
      clear Hg4 hS
      go_wp2_with fail
      refine HRP.out.mono ?_
      rintro e w3 ⟨u, rfl, hu⟩
      have HU := xoo hu
      obtain ⟨ua, uc, rfl⟩ := xac hu.1
      clear hu
      have KW : Hid (xa (fun _ => False) w w3) := xoo (HK.out.trans HU.out.2)
      have HO3 : Hid (w3.ownsRow w.heap.size 287 2 (.slice ava all.length avc) all.length (cellsOf 2 encR all)) := xoo (xae HOW.out HU.out.2 (fun _ _ h => h))
      have HSS : Hid (SlOf 2 encR w3 (.slice ua s.length uc) s) := xoo (SlOf.ofOwn HU.out.1 (by omega))
      have hsz3 := KW.out.size
      go_wp2_with (at_builtin; refine xaw rfl (.tmp 113) (.tmp 114) rfl w.heap.size _ _ _ rfl HO3.out _ s rfl HSS.out ?f1 ?f2 ?_)
      case f1 => first | omega | (simp; omega)
      case f2 => omega
      intro v4 w4 hown4 hgrow4
      have KW4 : Hid (xa (fun _ => False) w w4) := xoo (KW.out.grown hgrow4 (fun b hb => Or.inr (xaa HO3.out b hb)))
      have HO4 := xoo hown4
      clear hown4 hgrow4
      go_wp2_with fail
      go_roundw
      case rel => exact xcC (i := i) (k := k) (p := p) (m := m) (by omega) (by omega) hpi hn hal r1 h64 H64s.out KW4.out (by rw [← Hg3.out]) (by first | rfl | omega | (simp; done)) (by rfl) HO4.out (by go_num) (by go_num)
      case measure => simp [intOf]; omega
  obtain rfl : i = l.length := by omega
  have hid : decide ((l.length : Int) < (l.length : Int)) = false := by simp
  have E : Hid (G = none) := xoo (by
   have e := Hg.out
   unfold clG at e
   rw [List.drop_eq_nil_of_le (Nat.le_refl _), if_neg (by simp)] at e
   exact e.symm)
  by_cases hcn : cap = l.length
  · have HRP := xoo (fun W => xaN [] (.slice (some ⟨b, off, none⟩) 0 0) W ⟨⟨_, 0, rfl, ⟨Nat.le_refl _, (fun h => by cases h)⟩, by simp, fun h => by simp at h⟩, fun r hr => by cases hr⟩)
    rw [show ptP [] = none from rfl] at HRP
    obtain rfl := hcn
    go_wp2_with fail
    refine (HRP.out _).mono ?_
    rintro e w3 ⟨rfl, K⟩
    have K3 := xoo K
    clear K
    go_wp2_with fail
    go_ret2
    rw [HC.out, E.out]
    exact ⟨rfl, HK.out.trans K3.out⟩
  have HRP := xoo (xaN (l.drop l.length) _ wr (HIr.out.dropI l.length (Nat.le_refl _) hcn))
  rw [show ptP (l.drop l.length) = none by rw [List.drop_eq_nil_of_le (Nat.le_refl _)]; rfl, Nat.sub_self] at HRP
  go_wp2_with fail
  refine HRP.out.mono ?_
  rintro e w3 ⟨rfl, K⟩
  have K3 := xoo K
  clear K
  go_wp2_with fail
  go_ret2
  rw [HC.out, E.out]
  exact ⟨rfl, HK.out.trans K3.out⟩
def ClN (w : World) (atv av pv : Value) (wr : World) : Prop := atv = .int .i64 0 ∧ av = .slice none 0 0 ∧ pv = .int .i64 0 ∧ w = wr
theorem xjA (b off cap : Nat) (w : World) (h : ISl w (.slice (some ⟨b, off, none⟩) 0 cap) []) : Calls Tryz.prog 149 #[.slice (some ⟨b, off, none⟩) 0 cap] w fun e w' => ClE w (clP []) e w' := by
 have HP := xoo (xaN [] _ w h)
 rw [show ptP [] = none from rfl] at HP
 rw [show clP [] = none from rfl]
 clear h
 go_enter Tryz.func149, Tryz.ntmps149
 go_wp2_with fail
 go_loopw [4, 6, 7] (fun atv av pv wr => ClN w atv av pv wr) (fun _ _ _ _ => 0)
 case atStart => exact ⟨rfl, rfl, rfl, rfl⟩
 case round =>
  obtain ⟨rfl, rfl, rfl, rfl⟩ := hrel
  by_cases hc0 : cap = 0
  · subst hc0
    go_wp2_with fail
    refine HP.out.mono ?_
    rintro e w3 ⟨rfl, K⟩
    have K3 := xoo K
    clear K
    go_wp2_with fail
    go_ret2
    exact ⟨rfl, K3.out⟩
  go_wp2_with fail
  refine HP.out.mono ?_
  rintro e w3 ⟨rfl, K⟩
  have K3 := xoo K
  clear K
  go_wp2_with fail
  go_ret2
  exact ⟨rfl, K3.out⟩
theorem xjB : xmI := by
 intro l b off cap w h hl
 by_cases hpos : 0 < l.length
 · by_cases h94 : l.head? = some 94
   · exact xjz l b off cap w h hl h94
   exact xjy l b off cap w h hl hpos h94
 obtain rfl : l = [] := List.length_eq_zero_iff.1 (by omega)
 exact xjA b off cap w h
theorem xa.setRow {S : Nat → Prop} {a b : World} (h : xa S a b) {g : Nat} (hg : S g) (cs : Array Value) : xa S a (b.setRow g cs) :=
 ⟨h.os, h.tape, h.output, by have := h.size; simp; omega, fun k hk hs => by
  have hne : g ≠ k := fun e => hs (e ▸ hg)
  have : (b.setRow g cs).heap[k]? = b.heap[k]? := by
   unfold World.setRow
   simp [Array.getElem?_modify, hne]
  rw [this]; exact h.block k hk hs⟩
theorem xbi {P : Program} {ops : Array Oper} {rest : List Oper} {o : Oper} {a : Act} {w : World} {Q : Exit → Act → World → Prop} (hgd : o.guard = none) (ty : TypeId) (x y : Operand) (ho : o.op = .store ty x y)
 (hd : o.dst = none) (g : Nat) (cells : Array Value) (hx : a.eval x = .pointer (some ⟨g, 0, none⟩)) (hy : a.eval y = .agg cells)
 (t : TypeId) (old : Array Value) (hg : w.heap[g]? = some (.cells old t (0, 0))) (hi : (P.info? ty).map (·.size) = some cells.size)
 (hold : old.size = cells.size) (h1 : cells.all (·.oneCell') = true)
 (h : ∀ w6 : World, w6.heap[g]? = some (.cells cells t (0, 0)) → xa (fun b => b = g) w w6 → wpList P ops Q rest a w6) : wpList P ops Q (o :: rest) a w :=
 wpList_store_rowTo hgd ty x y ho hd g cells hx hy t old hg hi hold h1 (h _ (setRow_heap w g old cells t (0, 0) hg) (xa.setRow (S := fun b => b = g) (xa.refl _ _) rfl cells))
theorem five {w : World} {b : Nat} {v0 v1 v2 v3 v4 : Value} {T : TypeId} (h : w.heap[b]? = some (.cells #[v0, v1, v2, v3, v4] T (0, 0))) :
 w.cell? ⟨b, 0, none⟩ = some v0 ∧ w.cell? ⟨b, 1, none⟩ = some v1 ∧ w.cell? ⟨b, 2, none⟩ = some v2 ∧ w.cell? ⟨b, 3, none⟩ = some v3 ∧ w.cell? ⟨b, 4, none⟩ = some v4 :=
 ⟨by rw [xa8 h]; rfl, by rw [xa8 h]; rfl, by rw [xa8 h]; rfl, by rw [xa8 h]; rfl, by rw [xa8 h]; rfl⟩
theorem xde : (Tryz.prog.info? 154).map (·.size) = some 5 := by kernel_rfl
end Go.Proofs.YtbifklibdkjbeaaGreatDoor
