/-
  The document's class: all of it.
-/
import Derived.Test.YtapmdhejgnplaaaGreatMg21
import Derived.BigQuiet
import Derived.Test.YtapmdhejgnplaaaGreatMg1
import Derived.Test.YtapmdhejgnplaaaGreatProg
import Derived.Great.BuildSlice
import Derived.Laws.Tables
import Derived.Laws.Rows
import Derived.Test.YtapmdhejgnplaaaGreatRfTreeG
import Derived.Test.YtapmdhejgnplaaaGreatMg17
import Derived.Test.YtapmdhejgnplaaaGreatMg16
import Derived.Test.YtapmdhejgnplaaaGreatMg15
import Derived.Test.YtapmdhejgnplaaaGreatMg18
import Derived.Test.YtapmdhejgnplaaaGreatMg7
import Derived.Deep.CutBlock
import Derived.Deep.DeepCutAuto
import Derived.Test.YtapmdhejgnplaaaGreatMg8
import Derived.Test.YtapmdhejgnplaaaGreatChecked
import Derived.KernelRfl
import Derived.Test.YtapmdhejgnplaaaGreatRows
import Derived.JoinedOf
import Derived.ProofKit
import Derived.ChangeSlices
namespace Go.Proofs.YtapmdhejgnplaaaGreat
open Go.RowKit Go.Proofs.Tryz
set_option linter.unusedVariables false
set_option linter.unusedSimpArgs false
set_option maxRecDepth 100000
set_option maxHeartbeats 40000000
theorem xjz (l : List Int) (b off cap : Nat) (w : World) (h : ISl w (.slice (some ⟨b, off, none⟩) l.length cap) l) (hl : l.length <= 200) (hpos : 0 < l.length) (h94 : l.head? ≠ some 94) : Calls prog 66 #[.slice (some ⟨b, off, none⟩) l.length cap] w fun e w' => ClE w (clP l) e w' := by
 obtain ⟨a, cap', e1, hcap, hc⟩ := h.cells
 injection e1 with e1 _ e2
 subst e1 e2
 have HI := xa h
 clear h
 obtain ⟨b', off', e1, hcc⟩ := hc hpos
 injection e1 with e1
 injection e1 with e1 e2
 subst e1 e2
 obtain ⟨r0, hr0⟩ : ∃ r, l[0]? = some r := ⟨_, List.getElem?_eq_getElem hpos⟩
 obtain ⟨c0, c1, c2⟩ := hcc 0 r0 hr0
 simp only [Nat.add_zero] at c0
 have gr : (r0 == 94) = false := beq_eq_false_iff_ne.2 (by rintro rfl; exact h94 (by rw [List.head?_eq_getElem?]; exact hr0))
 have HCC := xa hcc
 have HC : Hid (clP l = (clG (l.length + 1) true (l.drop 0) [] 0).map fun p => (ofL p.1, p.2)) := xa (by unfold clP; rw [if_neg h94]; rfl)
 generalize clP l = P at *
 obtain ⟨G, HG'⟩ : ∃ G, clG (l.length + 1) true (l.drop 0) [] 0 = G := ⟨_, rfl⟩
 rw [HG'] at HC
 have HG := xa HG'
 clear HG' hc hcc h94 hr0
 have hp1 : decide ((0 : Int) < (l.length : Int)) = true := by simpa using hpos
 have hp2 : (0 : Int) < (l.length : Int) := by omega
 go_enter func66, ntmps66
 go_wp2_with fail
 go_loopw [4, 6, 7] (fun atv av pv wr => xmB G l w atv av pv wr) (fun atv _ _ _ => l.length + 1 - (intOf atv).toNat)
 case atStart => exact ⟨0, 0, l.length + 1, [], rfl, rfl, by first | omega | simp, by omega, by omega, by simp, World.ownsRow_nil _ _ _ _, xaa.refl _ _, HG.out, by simp⟩
 case round =>
  obtain ⟨i, p, n, all, rfl, rfl, hi, hpi, hn, hal, hown, hk, hg, h64⟩ := hrel
  have hsz := hk.size
  obtain ⟨m, rfl⟩ : ∃ m, n = m + 1 := ⟨n - 1, by omega⟩
  obtain ⟨ava, avc, rfl⟩ := xad hown
  have HOW := xa hown
  have HK := xa hk
  have Hg := xa hg
  have HIr := xa (HI.out.keep hk)
  clear hown hk hg
  have hI3 : (0 : Int) <= (i : Int) := by omega
  have hI4 : (i : Int) <= (l.length : Int) := by omega
  have hI5 : (i : Int) <= (cap : Int) := by omega
  by_cases hil : i < l.length
  · obtain ⟨x, hx⟩ : ∃ x, l[i]? = some x := ⟨_, List.getElem?_eq_getElem hil⟩
    have hxc := HK.out.cell (HCC.out i x hx).1 id
    have Hhd : Hid ((l.drop i).head? = some x) := xa (by rw [List.head?_drop, hx])
    have hid : decide ((i : Int) < (l.length : Int)) = true := by simp; omega
    have hid0 : (i : Int) < (l.length : Int) := by omega
    clear hx
    by_cases hA : x = 93 /\ 0 < p
    · obtain ⟨rfl, hp0⟩ := hA
      have hpd : decide ((0 : Int) < (p : Int)) = true := by simpa using hp0
      have E : Hid (G = some (all, i + 1)) := xa (by rw [<- Hg.out]; unfold clG; rw [if_pos ⟨by simp; omega, Hhd.out⟩])
      have HM := xa (fun W v' hW => xev all v' false W hW (by omega))
      have HRS := xa (show RSl wr (.slice ava all.length avc) all from ⟨SlOf.ofOwn HOW.out (by omega), h64⟩)
      go_wp2_with fail
      refine (HM.out _ _ HRS.out).mono ?_
      rintro e w4 ⟨u4', rfl, hu4⟩
      have HU4 := xa hu4
      obtain ⟨va, vc, rfl⟩ := xad hu4.1
      clear hu4
      go_wp2
      go_ret2
      rw [HC.out, E.out]
      exact ⟨_, rfl, xdl HU4.out.1 hsz, HK.out.trans HU4.out.2⟩
    have hA1 : (decide (p = 0) = false /\ (l.drop i).head? = some 93) ↔ False := by
     rw [Hhd.out]; simp; intro h1 h2; exact hA ⟨h2, by omega⟩
    have Hg2 : Hid ((match ptP (l.drop i) with
     | none => none
     | some (s, is, a) =>
      if is = true /\ ((l.drop i).drop a).head? = some 45 then
       match ptP ((l.drop i).drop (a + 1)) with
       | none => none
       | some (t, too, b) => if too = false \/ lo1 t < lo1 s then none else clG m false ((l.drop i).drop (a + 1 + b)) (all ++ [(lo1 s, lo1 t)]) (i + a + 1 + b)
      else clG m false ((l.drop i).drop a) (all ++ s) (i + a)) = G) := xa (by
       have e := Hg.out; unfold clG at e; rw [if_neg (by rw [hA1]; exact id)] at e; exact e)
    have hI2 := HIr.out.dropI i (by omega) (by omega)
    have HRP := xa (xaN (l.drop i) _ wr hI2)
    have Hrng := xa (fun s is k (h : ptP (l.drop i) = some (s, is, k)) => xf3 hI2.2 h)
    have Hloc := xa (fun s is k (h : ptP (l.drop i) = some (s, is, k)) => xbz h)
    clear hI2
    by_cases hx93 : x = 93
    · subst hx93
      have hp0 : ¬ 0 < p := fun h => hA ⟨rfl, h⟩
      have hpd : decide ((0 : Int) < (p : Int)) = false := by simp; omega
      have hPN : ptP (l.drop i) = none := by
       have e := Hhd.out
       cases hd : l.drop i with
       | nil => rfl
       | cons y t =>
        rw [hd] at e; simp at e; subst e
        rw [xbH, if_neg (by decide), if_pos (by decide +kernel)]
      rw [hPN] at HRP Hg2
      have E : Hid (G = none) := xa Hg2.out.symm
      clear Hg2 hPN
      go_wp2_with fail
      refine HRP.out.mono ?_
      rintro e w3 ⟨rfl, K⟩
      have K3 := xa K
      clear K
      go_wp2
      go_ret2
      rw [HC.out, E.out]
      exact ⟨rfl, HK.out.trans K3.out⟩
    have gx : (x == 93) = false := beq_eq_false_iff_ne.2 hx93
    cases hP : ptP (l.drop i) with
    | none =>
     rw [hP] at HRP Hg2
     have E : Hid (G = none) := xa Hg2.out.symm
     clear Hg2 hP
     go_wp2_with fail
     refine HRP.out.mono ?_
     rintro e w3 ⟨rfl, K⟩
     have K3 := xa K
     clear K
     go_wp2
     go_ret2
     rw [HC.out, E.out]
     exact ⟨rfl, HK.out.trans K3.out⟩
    | some q =>
     obtain ⟨s, is, k⟩ := q
     obtain ⟨k1, k2, _⟩ := Hloc.out s is k hP
     obtain ⟨r1, r2⟩ := Hrng.out s is k hP
     rw [List.length_drop] at k2
     rw [hP] at HRP Hg2
     dsimp only at Hg2
     have H64s := xa r2
     have gk : ((k : Int) == 0) = false := beq_eq_false_iff_ne.2 (by omega)
     clear r2 Hloc Hrng
     cases is with
     | false =>
      have Hg3 : Hid (clG m false (l.drop (i + k)) (all ++ s) (i + k) = G) := xa (by have e := Hg2.out; rw [if_neg (by simp), List.drop_drop] at e; exact e)
      clear Hg2 hP
      go_wp2_with fail
      refine HRP.out.mono ?_
      rintro e w3 ⟨u, rfl, hu⟩
      have HU := xa hu
      obtain ⟨ua, uc, rfl⟩ := xad hu.1
      clear hu
      have KW : Hid (KF w w3) := xa (HK.out.trans HU.out.2)
      have HO3 : Hid (w3.ownsRow w.heap.size 180 2 (.slice ava all.length avc) all.length (cellsOf 2 encR all)) := xa (xag HOW.out HU.out.2 (fun _ _ h => h))
      have HSS : Hid (SlOf 2 encR w3 (.slice ua s.length uc) s) := xa (SlOf.ofOwn HU.out.1 (by omega))
      have hsz3 := KW.out.size
      go_wp2_with (at_builtin; refine xaA rfl (.tmp 113) (.tmp 114) rfl w.heap.size _ _ _ rfl HO3.out _ s rfl HSS.out ?f1 ?f2 ?_)
      case f1 => first | omega | (simp; omega)
      case f2 => omega
      intro v4 w4 hown4 hgrow4
      have KW4 : Hid (KF w w4) := xa (KW.out.grown hgrow4 (fun b hb => Or.inr (xab HO3.out b hb)))
      have HO4 := xa hown4
      clear hown4 hgrow4
      go_wp2
      go_roundw
      case rel => exact xcE (i := i) (k := k) (p := p) (m := m) (by omega) (by omega) hpi hn hal r1 h64 H64s.out KW4.out (by rw [<- Hg3.out]) (by first | rfl | omega | (simp; done)) (by rfl) HO4.out (by go_num) (by go_num)
      case measure => simp [intOf]; omega
     | true =>
      obtain ⟨x1, rfl⟩ := xf4 hP
      have Hg4 : Hid ((if ((l.drop (i + k)).head? = some 45) then
       match ptP (l.drop (i + k + 1)) with
       | none => none
       | some (t, too, b) => if too = false \/ lo1 t < x1 then none else clG m false (l.drop (i + (k + 1 + b))) (all ++ [(x1, lo1 t)]) (i + (k + 1 + b))
      else clG m false (l.drop (i + k)) (all ++ [(x1, x1)]) (i + k)) = G) := xa (by
       have e := Hg2.out
       simp only [List.drop_drop, true_and, lo1, List.head?_cons, Option.getD_some] at e ⊢
       simp only [Nat.add_assoc] at e ⊢
       exact e)
      clear Hg2 hP
      by_cases hat : i + k < l.length
      · obtain ⟨y, hy⟩ : ∃ y, l[i + k]? = some y := ⟨_, List.getElem?_eq_getElem hat⟩
        rw [List.head?_drop, hy] at Hg4
        have hyc := HK.out.cell (HCC.out (i + k) y hy).1 id
        have hat1 : decide ((i : Int) + (k : Int) < (l.length : Int)) = true := by simp; omega
        have hat2 : (i : Int) + (k : Int) < (l.length : Int) := by omega
        clear hy
        by_cases hy45 : y = 45
        · subst hy45
          have hJ3 : (0 : Int) <= (i : Int) + (k : Int) + 1 := by omega
          have hJ4 : (i : Int) + (k : Int) + 1 <= (l.length : Int) := by omega
          have hJ5 : (i : Int) + (k : Int) + 1 <= (cap : Int) := by omega
          have Hg5 : Hid ((match ptP (l.drop (i + k + 1)) with
           | none => none
           | some (t, too, b) => if too = false \/ lo1 t < x1 then none else clG m false (l.drop (i + (k + 1 + b))) (all ++ [(x1, lo1 t)]) (i + (k + 1 + b))) = G) := xa (by have e := Hg4.out; rw [if_pos rfl] at e; exact e)
          clear Hg4
          by_cases hlt : i + k + 1 < l.length
          · have hcn : ¬ cap = i + k + 1 := by omega
            have HRP2 := xa (fun W (K : KF wr W) => xaN (l.drop (i + k + 1)) _ W ((HIr.out.keep K).dropI (i + k + 1) (by omega) hcn))
            have Hrng2 := xa (fun s is b (h : ptP (l.drop (i + k + 1)) = some (s, is, b)) => xf3 (HIr.out.dropI (i + k + 1) (by omega) hcn).2 h)
            cases hP2 : ptP (l.drop (i + k + 1)) with
            | none =>
             rw [hP2] at HRP2 Hg5
             have E : Hid (G = none) := xa Hg5.out.symm
             clear Hg5 hP2 Hrng2
             go_wp2_with fail
             refine HRP.out.mono ?_
             rintro e w3 ⟨u, rfl, hu⟩
             have HU := xa hu
             have hyc := hu.2.cell hyc id
             obtain ⟨ua, uc, rfl⟩ := xad hu.1
             clear hu
             go_wp2_with fail
             refine (HRP2.out w3 HU.out.2).mono ?_
             rintro e w5 ⟨rfl, K⟩
             have K5 := xa K
             clear K
             go_wp2_with fail
             go_quiet (fail)
             go_wp2
             go_ret2
             rw [HC.out, E.out]
             exact ⟨rfl, ((HK.out.trans HU.out.2).trans K5.out).drawN _⟩
            | some q2 =>
             obtain ⟨t, too, b2⟩ := q2
             obtain ⟨b1, b3, _⟩ := xbz hP2
             rw [List.length_drop] at b3
             have Hr2 := xa (Hrng2.out _ _ _ hP2).2
             have gb : ((b2 : Int) == 0) = false := beq_eq_false_iff_ne.2 (by omega)
             rw [hP2] at HRP2 Hg5
             dsimp only at Hg5
             cases too with
             | false =>
              have E : Hid (G = none) := xa (by have e := Hg5.out; rw [if_pos (Or.inl rfl)] at e; exact e.symm)
              clear Hg5 hP2 Hrng2 Hr2
              go_wp2_with fail
              refine HRP.out.mono ?_
              rintro e w3 ⟨u, rfl, hu⟩
              have HU := xa hu
              have hyc := hu.2.cell hyc id
              obtain ⟨ua, uc, rfl⟩ := xad hu.1
              clear hu
              go_wp2_with fail
              refine (HRP2.out w3 HU.out.2).mono ?_
              rintro e w5 ⟨u5, rfl, hu5⟩
              have HU5 := xa hu5
              obtain ⟨ta, tc, rfl⟩ := xad hu5.1
              clear hu5
              go_wp2_with fail
              go_quiet (fail)
              go_wp2
              go_ret2
              rw [HC.out, E.out]
              exact ⟨rfl, ((HK.out.trans HU.out.2).trans HU5.out.2).drawN _⟩
             | true =>
              obtain ⟨x2, rfl⟩ := xf4 hP2
              have Hg6 : Hid ((if x2 < x1 then none else clG m false (l.drop (i + (k + 1 + b2))) (all ++ [(x1, x2)]) (i + (k + 1 + b2))) = G) := xa (by
               have e := Hg5.out
               simp only [lo1, List.head?_cons, Option.getD_some, Bool.true_eq_false, false_or] at e
               exact e)
              clear hP2 Hrng2 Hg5
              by_cases hlo : x2 < x1
              · have gl : decide (x2 < x1) = true := by simpa using hlo
                have E : Hid (G = none) := xa (by have e := Hg6.out; rw [if_pos hlo] at e; exact e.symm)
                clear Hg6 Hr2
                go_wp2_with fail
                refine HRP.out.mono ?_
                rintro e w3 ⟨u, rfl, hu⟩
                have HU := xa hu
                have hyc := hu.2.cell hyc id
                obtain ⟨ua, uc, rfl⟩ := xad hu.1
                clear hu
                go_wp2_with fail
                refine (HRP2.out w3 HU.out.2).mono ?_
                rintro e w5 ⟨u5, rfl, hu5⟩
                have HU5 := xa hu5
                obtain ⟨tg, tc, rfl, q1, q2⟩ := xbB hu5.1
                obtain ⟨sg, sc, hs1, q3, q4⟩ := xbB (xag HU.out.1 hu5.2 (fun _ _ h => h))
                injection hs1 with hs1 _ hs2
                subst hs1 hs2
                clear hu5
                go_wp2_with fail
                go_quiet (fail)
                go_wp2
                go_ret2
                rw [HC.out, E.out]
                exact ⟨rfl, ((HK.out.trans HU.out.2).trans HU5.out.2).drawN _⟩
              have gl : decide (x2 < x1) = false := by simpa using hlo
              have Hg3 : Hid (clG m false (l.drop (i + (k + 1 + b2))) (all ++ [(x1, x2)]) (i + (k + 1 + b2)) = G) := xa (by have e := Hg6.out; rw [if_neg hlo] at e; exact e)
              have H64t : Hid (∀ q ∈ [(x1, x2)], in64 q.1 /\ in64 q.2) := xa (by
               intro q hq
               obtain rfl : q = (x1, x2) := by simpa using hq
               exact ⟨(H64s.out (x1, x1) (by simp)).1, (Hr2.out (x2, x2) (by simp)).1⟩)
              clear Hg6 Hr2
              go_wp2_with fail
              refine HRP.out.mono ?_
              rintro e w3 ⟨u, rfl, hu⟩
              have HU := xa hu
              have hyc := hu.2.cell hyc id
              obtain ⟨ua, uc, rfl⟩ := xad hu.1
              clear hu
              go_wp2_with fail
              refine (HRP2.out w3 HU.out.2).mono ?_
              rintro e w5 ⟨u5, rfl, hu5⟩
              have HU5 := xa hu5
              obtain ⟨tg, tc, rfl, q1, q2⟩ := xbB hu5.1
              obtain ⟨sg, sc, hs1, q3, q4⟩ := xbB (xag HU.out.1 hu5.2 (fun _ _ h => h))
              injection hs1 with hs1 _ hs2
              subst hs1 hs2
              have KX := xa (HU.out.2.trans hu5.2)
              clear hu5
              go_wp2_with fail
              go_quiet (fail)
              have KX := xa (KX.out.drawN nq)
              have q1 : (w5.drewN nq).cell? ⟨tg, 0, none⟩ = some (.int .i64 x2) := q1
              have q3 : (w5.drewN nq).cell? ⟨sg, 0, none⟩ = some (.int .i64 x1) := q3
              generalize w5.drewN nq = w6 at *
              go_wp2_with fail
              go_region_held3 (fun w' => w'.cell? ⟨tg, 0, none⟩ = some (.int .i64 x2) /\ w'.cell? ⟨sg, 0, none⟩ = some (.int .i64 x1)) (first | exact ⟨by go_keep, by go_keep⟩ | go_keep) (fail)
              have KX := xa ((KX.out.trans (xe w6 x1 x2).2).drew)
              have HS9 := xa (SlOf.ofOwn ((xe w6 x1 x2).1.drew) (by simp))
              generalize w6.heap.size = s6 at *
              generalize (w6.alloc (.cells #[.int .i64 x1, .int .i64 x2] 180)).drew = w7 at *
              clear q1 q3
              have KW : Hid (KF w w7) := xa (HK.out.trans KX.out)
              have HO3 : Hid (w7.ownsRow w.heap.size 180 2 (.slice ava all.length avc) all.length (cellsOf 2 encR all)) := xa (xag HOW.out KX.out (fun _ _ h => h))
              have HSS : Hid (SlOf 2 encR w7 (.slice (some ⟨s6, 0, none⟩) 1 1) [(x1, x2)]) := xa (HS9.out)
              have hsz3 := KW.out.size
              go_wp2_with (at_builtin; refine xaA rfl (.tmp 113) (.tmp 114) rfl w.heap.size _ _ _ rfl HO3.out _ [(x1, x2)] rfl HSS.out ?f1 ?f2 ?_)
              case f1 => first | omega | (simp; omega)
              case f2 => omega
              intro v4 w4 hown4 hgrow4
              have KW4 : Hid (KF w w4) := xa (KW.out.grown hgrow4 (fun b hb => Or.inr (xab HO3.out b hb)))
              have HO4 := xa hown4
              clear hown4 hgrow4
              go_wp2
              go_roundw
              case rel => exact xcE (i := i) (k := (k + 1 + b2)) (p := p) (m := m) (by omega) (by omega) hpi hn hal (by simp) h64 H64t.out KW4.out (by rw [<- Hg3.out]) (by first | rfl | omega | (simp; done)) (by rfl) HO4.out (by go_num) (by go_num)
              case measure => simp [intOf]; omega
          have hN2 : ptP (l.drop (i + k + 1)) = none := by rw [List.drop_eq_nil_of_le (by omega)]; rfl
          rw [hN2] at Hg5
          have E : Hid (G = none) := xa Hg5.out.symm
          have hll : l.length = i + k + 1 := by omega
          clear Hg5 hN2
          by_cases hcn : cap = i + k + 1
          · have HRP2 := xa (fun W (K : KF wr W) => xaN [] (.slice (some ⟨b, off, none⟩) 0 0) W ⟨⟨_, 0, rfl, ⟨Nat.le_refl _, (fun h => by cases h)⟩, by simp, fun h => by simp at h⟩, fun r hr => by cases hr⟩)
            rw [show ptP [] = none from rfl] at HRP2
            obtain rfl := hcn
            have Hll := xa hll
            clear hll
            go_wp2_with fail
            refine HRP.out.mono ?_
            rintro e w3 ⟨u, rfl, hu⟩
            have HU := xa hu
            have hyc := hu.2.cell hyc id
            obtain ⟨ua, uc, rfl⟩ := xad hu.1
            clear hu
            go_wp2_with fail
            refine (HRP2.out w3 HU.out.2).mono ?_
            rintro e w5 ⟨rfl, K⟩
            have K5 := xa K
            clear K
            go_wp2_with fail
            go_quiet (fail)
            go_wp2
            go_ret2
            rw [HC.out, E.out]
            exact ⟨rfl, ((HK.out.trans HU.out.2).trans K5.out).drawN _⟩
          have HRP2 := xa (fun W (K : KF wr W) => xaN (l.drop (i + k + 1)) _ W ((HIr.out.keep K).dropI (i + k + 1) (by omega) hcn))
          rw [show ptP (l.drop (i + k + 1)) = none by rw [List.drop_eq_nil_of_le (by omega)]; rfl] at HRP2
          clear hll
          go_wp2_with fail
          refine HRP.out.mono ?_
          rintro e w3 ⟨u, rfl, hu⟩
          have HU := xa hu
          have hyc := hu.2.cell hyc id
          obtain ⟨ua, uc, rfl⟩ := xad hu.1
          clear hu
          go_wp2_with fail
          refine (HRP2.out w3 HU.out.2).mono ?_
          rintro e w5 ⟨rfl, K⟩
          have K5 := xa K
          clear K
          go_wp2_with fail
          go_quiet (fail)
          go_wp2
          go_ret2
          rw [HC.out, E.out]
          exact ⟨rfl, ((HK.out.trans HU.out.2).trans K5.out).drawN _⟩
        have gy : (y == 45) = false := beq_eq_false_iff_ne.2 hy45
        generalize hS : [(x1, x1)] = s at *
        have Hg3 : Hid (clG m false (l.drop (i + k)) (all ++ s) (i + k) = G) := xa (by have e := Hg4.out; rw [if_neg (by intro e; exact hy45 (Option.some.inj e))] at e; exact e)
        clear Hg4 hS
        go_wp2_with fail
        refine HRP.out.mono ?_
        rintro e w3 ⟨u, rfl, hu⟩
        have HU := xa hu
        have hyc := hu.2.cell hyc id
        obtain ⟨ua, uc, rfl⟩ := xad hu.1
        clear hu
        have KW : Hid (KF w w3) := xa (HK.out.trans HU.out.2)
        have HO3 : Hid (w3.ownsRow w.heap.size 180 2 (.slice ava all.length avc) all.length (cellsOf 2 encR all)) := xa (xag HOW.out HU.out.2 (fun _ _ h => h))
        have HSS : Hid (SlOf 2 encR w3 (.slice ua s.length uc) s) := xa (SlOf.ofOwn HU.out.1 (by omega))
        have hsz3 := KW.out.size
        go_wp2_with (at_builtin; refine xaA rfl (.tmp 113) (.tmp 114) rfl w.heap.size _ _ _ rfl HO3.out _ s rfl HSS.out ?f1 ?f2 ?_)
        case f1 => first | omega | (simp; omega)
        case f2 => omega
        intro v4 w4 hown4 hgrow4
        have KW4 : Hid (KF w w4) := xa (KW.out.grown hgrow4 (fun b hb => Or.inr (xab HO3.out b hb)))
        have HO4 := xa hown4
        clear hown4 hgrow4
        go_wp2
        go_roundw
        case rel => exact xcE (i := i) (k := k) (p := p) (m := m) (by omega) (by omega) hpi hn hal r1 h64 H64s.out KW4.out (by rw [<- Hg3.out]) (by first | rfl | omega | (simp; done)) (by rfl) HO4.out (by go_num) (by go_num)
        case measure => simp [intOf]; omega
      have hat1 : decide ((i : Int) + (k : Int) < (l.length : Int)) = false := by simp; omega
      generalize hS : [(x1, x1)] = s at *
      have Hg3 : Hid (clG m false (l.drop (i + k)) (all ++ s) (i + k) = G) := xa (by have e := Hg4.out; have hn0 : l.drop (i + k) = [] := List.drop_eq_nil_of_le (by omega); rw [hn0] at e ⊢; simpa using e)
      clear Hg4 hS
      go_wp2_with fail
      refine HRP.out.mono ?_
      rintro e w3 ⟨u, rfl, hu⟩
      have HU := xa hu
      obtain ⟨ua, uc, rfl⟩ := xad hu.1
      clear hu
      have KW : Hid (KF w w3) := xa (HK.out.trans HU.out.2)
      have HO3 : Hid (w3.ownsRow w.heap.size 180 2 (.slice ava all.length avc) all.length (cellsOf 2 encR all)) := xa (xag HOW.out HU.out.2 (fun _ _ h => h))
      have HSS : Hid (SlOf 2 encR w3 (.slice ua s.length uc) s) := xa (SlOf.ofOwn HU.out.1 (by omega))
      have hsz3 := KW.out.size
      go_wp2_with (at_builtin; refine xaA rfl (.tmp 113) (.tmp 114) rfl w.heap.size _ _ _ rfl HO3.out _ s rfl HSS.out ?f1 ?f2 ?_)
      case f1 => first | omega | (simp; omega)
      case f2 => omega
      intro v4 w4 hown4 hgrow4
      have KW4 : Hid (KF w w4) := xa (KW.out.grown hgrow4 (fun b hb => Or.inr (xab HO3.out b hb)))
      have HO4 := xa hown4
      clear hown4 hgrow4
      go_wp2
      go_roundw
      case rel => exact xcE (i := i) (k := k) (p := p) (m := m) (by omega) (by omega) hpi hn hal r1 h64 H64s.out KW4.out (by rw [<- Hg3.out]) (by first | rfl | omega | (simp; done)) (by rfl) HO4.out (by go_num) (by go_num)
      case measure => simp [intOf]; omega
  obtain rfl : i = l.length := by omega
  have hid : decide ((l.length : Int) < (l.length : Int)) = false := by simp
  have E : Hid (G = none) := xa (by
   have e := Hg.out
   unfold clG at e
   rw [List.drop_eq_nil_of_le (Nat.le_refl _), if_neg (by simp)] at e
   exact e.symm)
  by_cases hcn : cap = l.length
  · have HRP := xa (fun W => xaN [] (.slice (some ⟨b, off, none⟩) 0 0) W ⟨⟨_, 0, rfl, ⟨Nat.le_refl _, (fun h => by cases h)⟩, by simp, fun h => by simp at h⟩, fun r hr => by cases hr⟩)
    rw [show ptP [] = none from rfl] at HRP
    obtain rfl := hcn
    go_wp2_with fail
    refine (HRP.out _).mono ?_
    rintro e w3 ⟨rfl, K⟩
    have K3 := xa K
    clear K
    go_wp2
    go_ret2
    rw [HC.out, E.out]
    exact ⟨rfl, HK.out.trans K3.out⟩
  have HRP := xa (xaN (l.drop l.length) _ wr (HIr.out.dropI l.length (Nat.le_refl _) hcn))
  rw [show ptP (l.drop l.length) = none by rw [List.drop_eq_nil_of_le (Nat.le_refl _)]; rfl, Nat.sub_self] at HRP
  go_wp2_with fail
  refine HRP.out.mono ?_
  rintro e w3 ⟨rfl, K⟩
  have K3 := xa K
  clear K
  go_wp2
  go_ret2
  rw [HC.out, E.out]
  exact ⟨rfl, HK.out.trans K3.out⟩
def ClN (w : World) (atv av pv : Value) (wr : World) : Prop := atv = .int .i64 0 /\ av = .slice none 0 0 /\ pv = .int .i64 0 /\ w = wr
theorem xjB (b off cap : Nat) (w : World) (h : ISl w (.slice (some ⟨b, off, none⟩) 0 cap) []) : Calls prog 66 #[.slice (some ⟨b, off, none⟩) 0 cap] w fun e w' => ClE w (clP []) e w' := by
 have HP := xa (xaN [] _ w h)
 rw [show ptP [] = none from rfl] at HP
 rw [show clP [] = none from rfl]
 clear h
 go_enter func66, ntmps66
 go_wp2_with fail
 go_loopw [4, 6, 7] (fun atv av pv wr => ClN w atv av pv wr) (fun _ _ _ _ => 0)
 case atStart => exact ⟨rfl, rfl, rfl, rfl⟩
 case round =>
  obtain ⟨rfl, rfl, rfl, rfl⟩ := hrel
  by_cases hc0 : cap = 0
  · subst hc0
    go_wp2_with fail
    refine HP.out.mono ?_
    rintro e w3 ⟨rfl, K⟩
    have K3 := xa K
    clear K
    go_wp2
    go_ret2
    exact ⟨rfl, K3.out⟩
  go_wp2_with fail
  refine HP.out.mono ?_
  rintro e w3 ⟨rfl, K⟩
  have K3 := xa K
  clear K
  go_wp2
  go_ret2
  exact ⟨rfl, K3.out⟩
theorem xjC : xmC := by
 intro l b off cap w h hl
 by_cases hpos : 0 < l.length
 · by_cases h94 : l.head? = some 94
   · exact xjA l b off cap w h hl h94
   exact xjz l b off cap w h hl hpos h94
 obtain rfl : l = [] := List.length_eq_zero_iff.1 (by omega)
 exact xjB b off cap w h
theorem xaa.setRow {S : Nat -> Prop} {a b : World} (h : xaa S a b) {g : Nat} (hg : S g) (cs : Array Value) : xaa S a (b.setRow g cs) :=
 ⟨h.os, h.tape, h.output, by have := h.size; simp; omega, fun k hk hs => by
  have hne : g ≠ k := fun e => hs (e ▸ hg)
  have : (b.setRow g cs).heap[k]? = b.heap[k]? := by
   unfold World.setRow
   simp [Array.getElem?_modify, hne]
  rw [this]; exact h.block k hk hs⟩
theorem xbg {P : Program} {ops : Array Oper} {rest : List Oper} {o : Oper} {a : Act} {w : World} {Q : Exit -> Act -> World -> Prop} (hgd : o.guard = none) (ty : TypeId) (x y : Operand) (ho : o.op = .store ty x y)
 (hd : o.dst = none) (g : Nat) (cells : Array Value) (hx : a.eval x = .pointer (some ⟨g, 0, none⟩)) (hy : a.eval y = .agg cells)
 (t : TypeId) (old : Array Value) (hg : w.heap[g]? = some (.cells old t (0, 0))) (hi : (P.info? ty).map (·.size) = some cells.size)
 (hold : old.size = cells.size) (h1 : cells.all (·.oneCell') = true)
 (h : ∀ w6 : World, w6.heap[g]? = some (.cells cells t (0, 0)) -> xaa (fun b => b = g) w w6 -> wpList P ops Q rest a w6) : wpList P ops Q (o :: rest) a w :=
 wpList_store_rowTo hgd ty x y ho hd g cells hx hy t old hg hi hold h1 (h _ (setRow_heap w g old cells t (0, 0) hg) (xaa.setRow (S := fun b => b = g) (xaa.refl _ _) rfl cells))
theorem five {w : World} {b : Nat} {v0 v1 v2 v3 v4 : Value} {T : TypeId} (h : w.heap[b]? = some (.cells #[v0, v1, v2, v3, v4] T (0, 0))) :
 w.cell? ⟨b, 0, none⟩ = some v0 /\ w.cell? ⟨b, 1, none⟩ = some v1 /\ w.cell? ⟨b, 2, none⟩ = some v2 /\ w.cell? ⟨b, 3, none⟩ = some v3 /\ w.cell? ⟨b, 4, none⟩ = some v4 :=
 ⟨by rw [xaj h]; rfl, by rw [xaj h]; rfl, by rw [xaj h]; rfl, by rw [xaj h]; rfl, by rw [xaj h]; rfl⟩
theorem xdh : (prog.info? 73).map (·.size) = some 5 := by kernel_rfl
theorem xnz : (prog.info? 152).map (fun i => (i.zero, i.size, i.bytes)) = some (some (.agg #[.int .i64 0, .int .i64 0, .slice none 0 0, .int .i64 0, .int .i64 0]), 5, 56) := by kernel_rfl
def RParE (w : World) (r : T × Int) (e : Ending) (w' : World) : Prop :=
 ∃ v : NV, e = .returned (.tuple #[v.val, .int .i64 r.2]) /\ TAt w' (fun _ => True) v r.1 /\ KF w w'
theorem xgz {w wX wE : World} {n : Int} (K : KF (w.alloc (.cells #[.int .i64 0, .slice none 0 0, .int .i64 0, .int .i64 0, .slice none 0 0] 73)) wX)
 (kE : xaa (fun b => b = w.heap.size) wX wE) : RParE w (xa1, n) (.returned (.tuple #[NV.val ⟨0, .slice none 0 0, 0, 0, .slice none 0 0⟩, .int .i64 n])) wE :=
 ⟨_, rfl, TAt.zero _ _, (xaa.trans (KI.out) K).trans2 kE (fun b hb e => by omega)⟩
structure PrA (w1 wr : World) (rsv : Value) (rest : List Int) (lv : Value) (ts : List Tok) (tvs : List TV) : Prop where
 rs : ISl wr rsv rest
 rb : ∀ b, rsv.ownBlock = some b -> b < w1.heap.size
 own : wr.ownsRow w1.heap.size 152 5 lv ts.length (cellsOf 5 encK tvs)
 len : tvs.length = ts.length
 tok : ∀ (i : Nat) (x : TV) (t : Tok), tvs[i]? = some x -> ts[i]? = some t -> KAt wr (fun b => w1.heap.size <= b /\ b < wr.heap.size /\ lv.ownBlock ≠ some b) x t
 keep : KF w1 wr
theorem xmd (v : TV) : [Value.int .i64 v.k, .int .i64 v.r, v.sv, .int .i64 v.m, .int .i64 v.x] = cellsOf 5 encK [v] := by simp [cellsOf, xkg]
theorem ISl.keeps {S : Nat -> Prop} {w w' : World} {v : Value} {l : List Int} (h : ISl w v l) (K : xaa S w w') (hs : ∀ b, v.ownBlock = some b -> ¬ S b) : ISl w' v l := ⟨h.1.keeps K hs, h.2⟩
theorem PrA.push {w1 wr w3 wP w9 : World} {rsv rsv' lv lv' : Value} {rest rest' : List Int} {ts : List Tok} {tvs : List TV} {v : TV} {t : Tok} (h : PrA w1 wr rsv rest lv ts tvs) (K : KF wr w3) (hT : KAt w3 (Bt wr w3) v t) (K2 : KF w3 wP)
 (hown : w9.ownsRow w1.heap.size 152 5 lv' (ts.length + 1) (cellsOf 5 encK tvs ++ [Value.int .i64 v.k, .int .i64 v.r, v.sv, .int .i64 v.m, .int .i64 v.x]))
 (hg : wP.grownBy w9 lv.ownBlock) {H : Nat} (hloc : lv'.ownBlock = lv.ownBlock \/ lv'.ownBlock = some H) (hH : wP.heap.size <= H)
 (hrs : ISl wr rsv' rest') (hrb : ∀ b, rsv'.ownBlock = some b -> b < w1.heap.size) : PrA w1 w9 rsv' rest' lv' (ts ++ [t]) (tvs ++ [v]) := by
 have k9 : xaa (fun b => lv.ownBlock = some b) wP w9 := (xaa.refl _ _).grown hg (fun b hb => Or.inl hb)
 have KP := K.trans K2
 have hs1 := K.size
 have hs2 := K2.size
 have hs9 := k9.size
 have hs0 := h.keep.size
 have olt := xaM h.own
 have obs := xab h.own
 refine ⟨(hrs.keep KP).keeps k9 (fun b hb e => by have := hrb b hb; have := obs b e; omega), hrb, ?_, by simp [h.len], fun i x t' hx ht => ?_, (h.keep.trans KP).trans2 k9 (fun b hb e => by have := obs b e; omega)⟩
 · rw [List.length_append, xah, <- xmd]; exact hown
 have e1 : ∀ b, w1.heap.size <= b -> b < wP.heap.size -> lv.ownBlock ≠ some b -> (w1.heap.size <= b /\ b < w9.heap.size /\ lv'.ownBlock ≠ some b) := fun b h1 h2 h3 => ⟨h1, by omega, fun e => by
  rcases hloc with h4 | h4
  · exact h3 (h4 ▸ e)
  rw [h4] at e; have := Option.some.inj e; omega⟩
 by_cases hi : i < ts.length
 · rw [List.getElem?_append_left (by rw [h.len]; exact hi)] at hx
   rw [List.getElem?_append_left hi] at ht
   exact ((h.tok i x t' hx ht).keepsTo (Q := fun b => w1.heap.size <= b /\ b < wr.heap.size /\ lv.ownBlock ≠ some b) KP (fun _ _ => id) (fun _ h => h)).keepsTo k9 (fun b hb e => hb.2.2 e) (fun b hb => e1 b hb.1 (by omega) hb.2.2)
 have hi2 : i = ts.length := by
  have := (List.getElem?_eq_some_iff.1 ht).1
  simp at this; omega
 subst hi2
 obtain rfl : v = x := by rw [<- h.len] at hx; simpa using hx
 obtain rfl : t = t' := by simpa using ht
 exact (hT.keepsTo (Q := Bt wr w3) K2 (fun _ _ => id) (fun _ h => h)).keepsTo k9 (fun b hb e => by have := olt b e; have := hb.1; omega) (fun b hb => e1 b (by have := hb.1; omega) (by have := hb.2; omega) (fun e => by have := olt b e; have := hb.1; omega))
def parT : Option T -> T × Int
 | none => (xa1, 15)
 | some t => (t, 0)
noncomputable def parD (R : Option (List Tok)) : T × Int :=
 match R with
 | none => (xa1, 15)
 | some ts => parT (xe9 ts)
theorem parD_eq {rs : List Int} (hr : ∀ r ∈ rs, 0 <= r /\ r <= 1114111) : xcV rs = parD (toks rs) := by
 rw [xjR hr]
 unfold parD
 cases toks rs with
 | none => rfl
 | some ts =>
  simp only
  cases xe9 ts <;> rfl
def PrR (R : Option (List Tok)) (w1 : World) (rsv lv : Value) (wr : World) : Prop :=
 ∃ rest ts tvs, PrA w1 wr rsv rest lv ts tvs /\ ts.length + rest.length <= 200 /\ (toks rest).map (ts ++ ·) = R
theorem PrA.ks {w1 wr : World} {rsv : Value} {rest : List Int} {lv : Value} {ts : List Tok} {tvs : List TV} (h : PrA w1 wr rsv rest lv ts tvs) (hl : ts.length <= 1000) : KsAt wr (fun b => w1.heap.size <= b /\ b < wr.heap.size) lv tvs ts :=
 ⟨SlOf.ofOwn (by have := h.own; rwa [<- h.len] at this) (by rw [h.len]; omega), h.len, fun i x t hx ht => (h.tok i x t hx ht).keepsTo (xaa.refl (fun _ => False) _) (fun _ _ => id) (fun b hb => ⟨hb.1, hb.2.1⟩)⟩
theorem xju (l : List UInt8) (w : World) (hm : l.length <= 9223372036854775807) : Calls prog 44 #[.string ⟨l.toArray⟩] w fun e w' => RParE w (xaX l) e w' := by
 obtain ⟨i0, hi0, hz0, hz1, hz2⟩ := info_parts xnz
 by_cases hlen : 200 < l.length
 · skip
   have hP : xaX l = (xa1, 16) := by unfold xaX; rw [if_pos hlen]
   rw [hP]
   have g0 : decide ((200 : Int) < (l.length : Int)) = true := by simp; omega
   have g1 : decide (200 < l.length) = true := by simpa using hlen
   go_enter func44, ntmps44
   go_wp2_with fail
   refine bodyPost_ret (by simp [results, results44, go_sem]; try rfl) rfl ?_
   exact ⟨⟨0, .slice none 0 0, 0, 0, .slice none 0 0⟩, rfl, TAt.zero _ _, (xaa.refl _ _).alloc _⟩
 have g0 : decide ((200 : Int) < (l.length : Int)) = false := by simp; omega
 have g1 : decide (200 < l.length) = false := by simpa using hlen
 have HPt := xa (fun W => xhI l W (by omega))
 unfold PtsE at HPt
 cases hpt : pts l with
 | none =>
  rw [show xaX l = (xa1, 15) by unfold xaX; rw [if_neg hlen, hpt]]
  rw [hpt] at HPt
  clear hpt
  simp only at HPt
  go_enter func44, ntmps44
  go_wp2_with fail
  refine (HPt.out _).mono ?_
  rintro e w2 ⟨rfl, k2⟩
  have K2 := xa k2
  clear k2
  go_wp2_with fail
  go_loopw [4, 6] (fun rsv lv wr => rsv = .slice none 0 0 /\ lv = .slice none 0 0 /\ w2 = wr) (fun _ _ _ => 0)
  case atStart => exact ⟨rfl, rfl, rfl⟩
  case round =>
   obtain ⟨rfl, rfl, rfl⟩ := hrel
   have hlt9 : w.heap.size < w2.heap.size := by have := (K2.out).size; simp at this; omega
   obtain ⟨⟨y0, y1, y2, y3, y4⟩, q0, q1, q2, q3, q4⟩ := xbq (K2.out)
   obtain ⟨wE, hWE⟩ : ∃ W, st5 w2 w.heap.size (.int .i64 0) (.slice none 0 0) (.int .i64 0) (.int .i64 0) (.slice none 0 0) = W := ⟨_, rfl⟩
   obtain ⟨r0, r1, r2, r3, r4, kE⟩ := xap w2 w.heap.size y0 y1 y2 y3 y4 (.int .i64 0) (.slice none 0 0) (.int .i64 0) (.int .i64 0) (.slice none 0 0)
   rw [hWE] at r0 r1 r2 r3 r4 kE
   unfold st5 at hWE
   have z0 := xaf r0 (.cells #[.int .i64 0, .slice none 0 0, .int .i64 0, .int .i64 0, .slice none 0 0] 73)
   have z1 := xaf r1 (.cells #[.int .i64 0, .slice none 0 0, .int .i64 0, .int .i64 0, .slice none 0 0] 73)
   have z2 := xaf r2 (.cells #[.int .i64 0, .slice none 0 0, .int .i64 0, .int .i64 0, .slice none 0 0] 73)
   have z3 := xaf r3 (.cells #[.int .i64 0, .slice none 0 0, .int .i64 0, .int .i64 0, .slice none 0 0] 73)
   have z4 := xaf r4 (.cells #[.int .i64 0, .slice none 0 0, .int .i64 0, .int .i64 0, .slice none 0 0] 73)
   have HKE := xa kE
   have HWE := xa hWE
   clear kE hWE
   go_wp2_with fail
   rw [HWE.out]
   clear y0 y1 y2 y3 y4
   refine bodyPost_ret (by simp [results, results44, go_sem, z0, z1, z2, z3, z4]; try rfl) rfl ?_
   exact xgz (n := 15) K2.out (HKE.out.alloc _)
 | some rs =>
  obtain ⟨hrl, hrr⟩ := xeB hpt
  obtain ⟨R, hR⟩ : ∃ R, toks rs = R := ⟨_, rfl⟩
  have HPP : Hid (xaX l = parD R) := xa (by rw [show xaX l = xcV rs by unfold xaX; rw [if_neg hlen, hpt], parD_eq hrr, hR])
  have HR := xa hR
  have HRR := xa hrr
  rw [hpt] at HPt
  clear hpt hR hrr
  simp only at HPt
  go_enter func44, ntmps44
  go_wp2_with fail
  refine (HPt.out _).mono ?_
  rintro e w1 ⟨⟨rv, rfl, hown⟩, k1⟩
  have hs1 := k1.size
  simp at hs1
  have hst : PrA w1 w1 rv rs (.slice none 0 0) [] [] := by
   refine ⟨⟨SlOf.ofOwn (by rw [<- xhk] at hown; exact hown) (by omega), HRR.out⟩, fun b hb => xaM hown b hb, World.ownsRow_nil _ _ _ _, rfl, fun i x t hx ht => by simp at hx, xaa.refl _ _⟩
  obtain ⟨ra, rc, rfl⟩ := xad hown
  have HST := xa hst
  have K1 := xa k1
  clear hown hst k1
  go_wp2_with fail
  go_loopw [4, 6] (fun rsv lv wr => PrR R w1 rsv lv wr) (fun rsv _ _ => xb0 rsv)
  case atStart => exact ⟨rs, [], [], HST.out, by simp; omega, by rw [HR.out]; cases R <;> simp⟩
  case round =>
   obtain ⟨rest, ts, tvs, hA, hll, hg⟩ := hrel
   have HA := xa hA
   have HR2 := xa hg
   have hsz := hA.keep.size
   obtain ⟨la, lc, rfl⟩ := xad hA.own
   obtain ⟨a, cap, rfl, hcap, hc⟩ := hA.rs.cells
   clear hA hg
   cases rest with
   | nil =>
    have E : Hid (R = some ts) := xa (by rw [<- HR2.out, xbl]; simp)
    have hok : ∀ t ∈ ts, t.ok := fun t ht => by
     have e := HR.out
     rw [E.out] at e
     exact xfQ e t ht
    have HTr : Hid (∀ (W : World) (K : KF wr W), Calls prog 58 #[.slice la ts.length lc, .int .i64 0] W fun e w' => xkz W (fun b => w1.heap.size <= b /\ b < wr.heap.size) (xe9 ts) e w') := xa (fun W K =>
     xkI (ts.length + 1) 0 _ _ tvs ts W (by omega) (by omega) ((HA.out.ks (by omega)).keep K) (fun b hb => by have := K.size; omega) (by omega) (by omega) hok)
    clear hc HR2 hok
    simp only [List.length_nil] at *
    cases hft : xe9 ts with
    | none =>
     have E2 : Hid (xaX l = (xa1, 15)) := xa (by rw [HPP.out, E.out, show parD (some ts) = parT (xe9 ts) from rfl, hft]; rfl)
     rw [hft] at HTr
     clear hft HPP
     go_wp2_with fail
     refine (HTr.out _ ((xaa.refl _ _).alloc _)).mono ?_
     rintro e w5 ⟨rfl, k5⟩
     have K5 := xa ((K1.out.trans HA.out.keep).trans (xaa.trans ((xaa.refl _ _).alloc _) k5))
     have hC := k5.heap (heap_alloc_new wr _) id
     have hB := K5.out.heap (heap_alloc_new w _) id
     have hsz5 := k5.size
     simp at hsz5
     have hne : ¬ w.heap.size = wr.heap.size := by omega
     have HB := xa hB
     clear hB
     unfold NV.val
     go_wp2_with (refine xbg rfl 73 (.tmp 9) (.tmp 45) rfl rfl wr.heap.size #[.int .i64 0, .slice none 0 0, .int .i64 0, .int .i64 0, .slice none 0 0] rfl rfl 73 _ hC xdh rfl (by simp [Value.oneCell']) ?_)
     intro w6 h6 k6
     obtain ⟨f0, f1, f2, f3, f4⟩ := five h6
     have hB6 := k6.heap HB.out hne
     go_wp2_with (refine xbg rfl 73 (.tmp 2) (.tmp 49) rfl rfl w.heap.size #[.int .i64 0, .slice none 0 0, .int .i64 0, .int .i64 0, .slice none 0 0] rfl rfl 73 _ hB6 xdh rfl (by simp [Value.oneCell']) ?_)
     intro w7 h7 k7
     obtain ⟨r0, r1, r2, r3, r4⟩ := five h7
     go_wp2_with fail
     have HKE := xa ((k6.mono (T := fun b => b = w.heap.size \/ b = wr.heap.size) (fun _ _ e => Or.inr e)).trans (k7.mono (fun _ _ e => Or.inl e)))
     clear h6 k6 h7 k7 f0 f1 f2 f3 f4
     refine bodyPost_ret (by simp [results, results44, go_sem, r0, r1, r2, r3, r4]; try rfl) rfl ?_
     rw [E2.out]
     exact ⟨⟨0, .slice none 0 0, 0, 0, .slice none 0 0⟩, rfl, TAt.zero _ _, (xaa.trans (KI.out) K5.out).trans2 HKE.out (fun b hb e => by rcases e with e | e <;> omega)⟩
    | some t =>
     have E2 : Hid (xaX l = (t, 0)) := xa (by rw [HPP.out, E.out, show parD (some ts) = parT (xe9 ts) from rfl, hft]; rfl)
     rw [hft] at HTr
     clear hft HPP
     go_wp2_with fail
     refine (HTr.out _ ((xaa.refl _ _).alloc _)).mono ?_
     rintro e w5 ⟨v, rfl, hv, k5⟩
     obtain ⟨o, a1, n1, c1, mm2, xx2, a2, n2, cc2, rfl⟩ := NV.form hv
     have HV := xa hv
     have K5 := xa ((K1.out.trans HA.out.keep).trans (xaa.trans ((xaa.refl _ _).alloc _) k5))
     clear hv
     have hC := k5.heap (heap_alloc_new wr _) id
     have hB := K5.out.heap (heap_alloc_new w _) id
     have hsz5 := k5.size
     simp at hsz5
     have hne : ¬ w.heap.size = wr.heap.size := by omega
     have HB := xa hB
     clear hB
     unfold NV.val
     go_wp2_with (refine xbg rfl 73 (.tmp 9) (.tmp 45) rfl rfl wr.heap.size #[.int .i64 o, .slice a1 n1 c1, .int .i64 mm2, .int .i64 xx2, .slice a2 n2 cc2] rfl rfl 73 _ hC xdh rfl (by simp [Value.oneCell']) ?_)
     intro w6 h6 k6
     obtain ⟨f0, f1, f2, f3, f4⟩ := five h6
     have hB6 := k6.heap HB.out hne
     go_wp2_with (refine xbg rfl 73 (.tmp 2) (.tmp 50) rfl rfl w.heap.size #[.int .i64 o, .slice a1 n1 c1, .int .i64 mm2, .int .i64 xx2, .slice a2 n2 cc2] rfl rfl 73 _ hB6 xdh rfl (by simp [Value.oneCell']) ?_)
     intro w7 h7 k7
     obtain ⟨r0, r1, r2, r3, r4⟩ := five h7
     go_wp2_with fail
     have HKE := xa ((k6.mono (T := fun b => b = w.heap.size \/ b = wr.heap.size) (fun _ _ e => Or.inr e)).trans (k7.mono (fun _ _ e => Or.inl e)))
     clear h6 k6 h7 k7 f0 f1 f2 f3 f4
     refine bodyPost_ret (by simp [results, results44, go_sem, r0, r1, r2, r3, r4]; try rfl) rfl ?_
     rw [E2.out]
     exact ⟨⟨o, .slice a1 n1 c1, mm2, xx2, .slice a2 n2 cc2⟩, rfl, HV.out.keepsTo HKE.out (fun b hb e => by
      rcases hb with ⟨h, h'⟩ | ⟨h, _⟩
      · rcases e with e | e <;> omega
      simp at h; rcases e with e | e <;> omega) (fun _ _ => trivial), (xaa.trans (KI.out) K5.out).trans2 HKE.out (fun b hb e => by rcases e with e | e <;> omega)⟩
   | cons r rest =>
    obtain ⟨b, off, rfl, _⟩ := hc (by simp)
    simp only [List.length_cons] at hll hcap
    have HTk := xa (fun W (K : KF wr W) => xjs xjC r rest _ W (HA.out.rs.keep K) (by omega))
    have hp0 : decide ((0 : Int) < (rest.length : Int) + 1) = true := by first | (simp; done) | (simp; omega)
    clear hc
    simp only [List.length_cons] at *
    cases htk : tokP (r :: rest) with
    | none =>
     have E : Hid (R = none) := xa (by rw [<- HR2.out, xbN htk]; rfl)
     have E2 : Hid (xaX l = (xa1, 15)) := xa (by rw [HPP.out, E.out]; rfl)
     clear HR2
     rw [htk] at HTk
     clear htk
     go_wp2_with fail
     refine (HTk.out _ (xaa.refl _ _)).mono ?_
     rintro e w3 ⟨rfl, k3⟩
     have K3 := xa (K1.out.trans (HA.out.keep.trans k3))
     clear k3
     unfold tokV
     have hlt9 : w.heap.size < w3.heap.size := by have := (K3.out).size; simp at this; omega
     obtain ⟨⟨y0, y1, y2, y3, y4⟩, q0, q1, q2, q3, q4⟩ := xbq (K3.out)
     obtain ⟨wE, hWE⟩ : ∃ W, st5 w3 w.heap.size (.int .i64 0) (.slice none 0 0) (.int .i64 0) (.int .i64 0) (.slice none 0 0) = W := ⟨_, rfl⟩
     obtain ⟨r0, r1, r2, r3, r4, kE⟩ := xap w3 w.heap.size y0 y1 y2 y3 y4 (.int .i64 0) (.slice none 0 0) (.int .i64 0) (.int .i64 0) (.slice none 0 0)
     rw [hWE] at r0 r1 r2 r3 r4 kE
     unfold st5 at hWE
     have z0 := xaf r0 (.cells #[.int .i64 0, .int .i64 0, .slice none 0 0, .int .i64 0, .int .i64 0] 152)
     have z1 := xaf r1 (.cells #[.int .i64 0, .int .i64 0, .slice none 0 0, .int .i64 0, .int .i64 0] 152)
     have z2 := xaf r2 (.cells #[.int .i64 0, .int .i64 0, .slice none 0 0, .int .i64 0, .int .i64 0] 152)
     have z3 := xaf r3 (.cells #[.int .i64 0, .int .i64 0, .slice none 0 0, .int .i64 0, .int .i64 0] 152)
     have z4 := xaf r4 (.cells #[.int .i64 0, .int .i64 0, .slice none 0 0, .int .i64 0, .int .i64 0] 152)
     have HKE := xa kE
     have HWE := xa hWE
     clear kE hWE
     go_wp2_with fail
     rw [HWE.out]
     clear y0 y1 y2 y3 y4
     refine bodyPost_ret (by simp [results, results44, go_sem, z0, z1, z2, z3, z4]; try rfl) rfl ?_
     rw [E2.out]
     exact xgz (n := 15) K3.out (HKE.out.alloc _)
    | some q =>
     obtain ⟨t, k⟩ := q
     obtain ⟨hk1, hk2, _, _⟩ := xb3 htk
     have HR3 : Hid ((toks ((r :: rest).drop k)).map ((ts ++ [t]) ++ ·) = R) := xa (by rw [<- HR2.out, xaV htk]; cases toks ((r :: rest).drop k) <;> simp)
     have gk : ((k : Int) == 0) = false := beq_eq_false_iff_ne.2 (by omega)
     rw [htk] at HTk
     simp only [List.length_cons] at hk2
     have hq1 : (k : Int) <= (rest.length : Int) + 1 := by omega
     have hq2 : (k : Int) <= (cap : Int) := by omega
     have hq3 : (0 : Int) <= (k : Int) := by omega
     clear htk HR2
     by_cases hck : cap = k
     · subst hck
       have hrl : rest.length + 1 = cap := by omega
       have hdr : (r :: rest).drop cap = [] := List.drop_eq_nil_of_le (by simp; omega)
       rw [hdr] at HR3
       have Hrl := xa hrl
       clear hrl hdr
       go_wp2_with fail
       refine (HTk.out _ (xaa.refl _ _)).mono ?_
       rintro e w3 ⟨v, rfl, hT, k3⟩
       obtain ⟨sa, sn, sc, hsv⟩ := hT.form
       obtain ⟨vk, vr, vs, vm, vx⟩ := v
       obtain rfl := hsv
       have HT3 := xa hT
       have K3 := xa k3
       have hs3 := k3.size
       clear hT k3
       unfold TV.val
       go_wp2_with (at_builtin; refine wpList_append_own_at _ rfl (.tmp 33) (.tmp 35) 150 rfl w1.heap.size 152 i0 _ 5 56 underlying150 hi0 hz0 hz1 hz2 rfl (by decide) _ _ _ rfl (xac (xac (xag HA.out.own K3.out (fun _ _ => id)) _) _) ⟨w3.heap.size + 1, 0, none⟩ 1 1 [.int .i64 vk, .int .i64 vr, .slice sa sn sc, .int .i64 vm, .int .i64 vx] rfl rfl (by exact xbM _ _ [_, _, _, _, _] _) (by simp [Value.oneCell']) ?d3 ?d4 ?d5 ?_)
       case d3 => unfold maxLen; omega
       case d4 => omega
       case d5 => first | omega | (simp; omega)
       intro v' w9 hown' hgrow _ hloc
       have HN := xa (PrA.push HA.out K3.out HT3.out (((xaa.refl _ _).alloc _).alloc _) hown' hgrow hloc (by simp) (show ISl wr (.slice (some ⟨b, off, none⟩) 0 0) [] from ⟨⟨_, 0, rfl, ⟨Nat.le_refl _, (fun h => by cases h)⟩, by simp, fun h => by simp at h⟩, fun r hr => by cases hr⟩) (fun b hb => HA.out.rb b hb))
       clear hown' hgrow hloc
       go_wp2
       go_roundw
       case rel => exact ⟨_, _, _, HN.out, by simp; omega, HR3.out⟩
       case measure => first | (simp [xb0]; done) | (simp [xb0]; omega)
     skip
     go_wp2_with fail
     refine (HTk.out _ (xaa.refl _ _)).mono ?_
     rintro e w3 ⟨v, rfl, hT, k3⟩
     obtain ⟨sa, sn, sc, hsv⟩ := hT.form
     obtain ⟨vk, vr, vs, vm, vx⟩ := v
     obtain rfl := hsv
     have HT3 := xa hT
     have K3 := xa k3
     have hs3 := k3.size
     clear hT k3
     unfold TV.val
     go_wp2_with (at_builtin; refine wpList_append_own_at _ rfl (.tmp 33) (.tmp 35) 150 rfl w1.heap.size 152 i0 _ 5 56 underlying150 hi0 hz0 hz1 hz2 rfl (by decide) _ _ _ rfl (xac (xac (xag HA.out.own K3.out (fun _ _ => id)) _) _) ⟨w3.heap.size + 1, 0, none⟩ 1 1 [.int .i64 vk, .int .i64 vr, .slice sa sn sc, .int .i64 vm, .int .i64 vx] rfl rfl (by exact xbM _ _ [_, _, _, _, _] _) (by simp [Value.oneCell']) ?d3 ?d4 ?d5 ?_)
     case d3 => unfold maxLen; omega
     case d4 => omega
     case d5 => first | omega | (simp; omega)
     intro v' w9 hown' hgrow _ hloc
     have HN := xa (PrA.push HA.out K3.out HT3.out (((xaa.refl _ _).alloc _).alloc _) hown' hgrow hloc (by simp) (HA.out.rs.dropI k (by first | omega | (simp; omega)) hck) (fun b hb => HA.out.rb b hb))
     clear hown' hgrow hloc
     go_wp2
     go_roundw
     case rel => exact ⟨_, _, _, HN.out, by simp; omega, HR3.out⟩
     case measure => first | (simp [xb0]; done) | (simp [xb0]; omega)
theorem xmi : ∀ q : List Nat, xat (xax (q.map xat)) = xat (xax q)
 | [] => rfl
 | n :: q => by
  have := xmi q
  simp only [List.map_cons, xax]
  unfold xat at *
  omega
theorem xnW (t : T) (q : List Nat) (hW : WGn t) (hq : q.length = t.kids.toL.length) : xgA t (xax (q.map xat)) = xat (lenOf t (xax q)) := by
 have hs := xmi q
 obtain ⟨_, hops⟩ := hW
 unfold xgA lenOf
 rcases hops with h | h | h | h | h | ⟨h, h5⟩ | ⟨h, ⟨k, hk⟩, h6, h7, h8⟩
 · rw [if_pos h, if_pos h]; rfl
 · rw [if_neg (show ¬ t.op = 0 by omega), if_neg (show ¬ t.op = 4 by omega), if_neg (show ¬ t.op = 5 by omega), if_neg (show ¬ t.op = 6 by omega), if_neg (show ¬ t.op = 0 by omega), if_neg (show ¬ t.op = 4 by omega), if_neg (show ¬ t.op = 5 by omega), if_neg (show ¬ t.op = 6 by omega)]; rfl
 · rw [if_neg (show ¬ t.op = 0 by omega), if_neg (show ¬ t.op = 4 by omega), if_neg (show ¬ t.op = 5 by omega), if_neg (show ¬ t.op = 6 by omega), if_neg (show ¬ t.op = 0 by omega), if_neg (show ¬ t.op = 4 by omega), if_neg (show ¬ t.op = 5 by omega), if_neg (show ¬ t.op = 6 by omega)]; rfl
 · rw [if_neg (show ¬ t.op = 0 by omega), if_neg (show ¬ t.op = 4 by omega), if_neg (show ¬ t.op = 5 by omega), if_neg (show ¬ t.op = 6 by omega), if_neg (show ¬ t.op = 0 by omega), if_neg (show ¬ t.op = 4 by omega), if_neg (show ¬ t.op = 5 by omega), if_neg (show ¬ t.op = 6 by omega)]; rfl
 · rw [if_neg (show ¬ t.op = 0 by omega), if_pos h, if_neg (show ¬ t.op = 0 by omega), if_pos h]; exact hs
 · rw [if_neg (show ¬ t.op = 0 by omega), if_neg (show ¬ t.op = 4 by omega), if_pos h, if_neg (show ¬ t.op = 0 by omega), if_neg (show ¬ t.op = 4 by omega), if_pos h]
   unfold xat at *
   omega
 rw [if_neg (show ¬ t.op = 0 by omega), if_neg (show ¬ t.op = 4 by omega), if_neg (show ¬ t.op = 5 by omega), if_pos h, if_neg (show ¬ t.op = 0 by omega), if_neg (show ¬ t.op = 4 by omega), if_neg (show ¬ t.op = 5 by omega), if_pos h]
 obtain ⟨n, rfl⟩ : ∃ n, q = [n] := by
  rw [hk] at hq
  rcases q with _ | ⟨p, _ | ⟨p2, r⟩⟩
  · simp at hq
  · exact ⟨p, rfl⟩
  simp at hq
 have e1 : xax ([n].map xat) = xat n := by simp [xax]
 have e2 : xax [n] = n := by simp [xax]
 rw [e1, e2]
 by_cases hm : t.mx < 0
 · rw [if_pos hm, if_pos hm, xmk _ n 2 (Nat.succ_pos _)]
   rw [Nat.succ_mul, Nat.add_assoc]; rfl
 rw [if_neg hm, if_neg hm, xja]; rfl
theorem xfB : ∀ (L : List T), (∀ (i : Nat) (k : T), L[i]? = some k -> ∃ (p : Cd) (b : Nat), (xbS k p.1 p.2 /\ LenG k p.2 /\ xhu k (xat p.2)) /\ (b <= 1099511627776 /\ xhv k b)) ->
 ∃ (q : List Cd) (r : List Nat), (q.length = L.length /\ r.length = L.length) /\ (∀ n ∈ r, n <= 1099511627776) /\ (∀ (i : Nat) (k : T) (p : Cd), L[i]? = some k -> q[i]? = some p -> xbS k p.1 p.2 /\ LenG k p.2 /\ xhu k (xat p.2)) /\ (∀ (i : Nat) (k : T) (n : Nat), L[i]? = some k -> r[i]? = some n -> xhv k n)
 | [], _ => ⟨[], [], ⟨rfl, rfl⟩, by simp, fun i k n h => by simp at h, fun i k n h => by simp at h⟩
 | t :: L, h => by
  obtain ⟨a, b, ha, hb, hb2⟩ := h 0 t rfl
  obtain ⟨q, r, ⟨h1, h2⟩, h4, h5, h6⟩ := xfB L (fun i k hk => h (i + 1) k (by simpa using hk))
  refine ⟨a :: q, b :: r, ⟨by simp [h1], by simp [h2]⟩, fun n hn => ?_, fun i k n hk hn => ?_, fun i k n hk hn => ?_⟩
  · rcases List.mem_cons.1 hn with rfl | hn
    · exact hb
    exact h4 n hn
  · rcases i with _ | i
    · obtain rfl : t = k := by simpa using hk
      obtain rfl : a = n := by simpa using hn
      exact ha
    exact h5 i k n (by simpa using hk) (by simpa using hn)
  rcases i with _ | i
  · obtain rfl : t = k := by simpa using hk
    obtain rfl : b = n := by simpa using hn
    exact hb2
  exact h6 i k n (by simpa using hk) (by simpa using hn)
theorem xlQ {t : T} (hW : WG t) : ∃ (p : Cd) (b : Nat), (xbS t p.1 p.2 /\ LenG t p.2 /\ xhu t (xat p.2)) /\ (b <= 1099511627776 /\ xhv t b) := by
 induction hW with
 | @mk t h hk ih =>
  obtain ⟨q, r, ⟨h1, h2⟩, h4, h5, h6⟩ := xfB t.kids.toL ih
  have ha := len_any t (q.map (·.2)) h (by simpa using h1) (fun i k n a b => by
   obtain ⟨p, hp, rfl⟩ := xfy q i n b
   exact (h5 i k p a hp).2.1)
  have hr := xmQ t ((q.map (·.2)).map xat) h (by simpa using h1) (fun n hn => by obtain ⟨x, _, rfl⟩ := List.mem_map.1 hn; exact xbY x) (fun i k n a b => by
   rw [List.getElem?_map, Option.map_eq_some_iff] at b
   obtain ⟨x, b, rfl⟩ := b
   obtain ⟨p, hp, rfl⟩ := xfy q i x b
   exact (h5 i k p a hp).2.2)
  rw [xnW t (q.map (·.2)) h (by simpa using h1)] at hr
  obtain ⟨b, hb, hb2⟩ := xmW t r h h2 h4 h6
  obtain ⟨c, n, hN, rfl⟩ := xkH h q h1 (fun i k p h1 h2 => (h5 i k p h1 h2).1)
  exact ⟨(c, _), b, ⟨hN, ha, hr.2⟩, hb, hb2⟩
theorem xhq (l : List UInt8) (hm : l.length <= 9223372036854775807) : ∃ (c : Int) (t : T) (b : Nat), CoEr l c /\ RCo l t c /\ xhv t b /\ b <= 1099511627776 := by
 obtain ⟨⟨t, c⟩, hp⟩ : ∃ p, xaX l = p := ⟨_, rfl⟩
 have hW := xm7 l
 rw [hp] at hW
 have hR : RPar l (t, c) := fun W => by
  have := xju l W hm
  rw [hp] at this
  exact this
 obtain ⟨⟨cd, n⟩, b, ⟨hN, hL, hRL⟩, hb, hb2⟩ := xlQ hW
 replace hN : xbS t cd n := hN
 replace hL : LenG t n := hL
 replace hRL : xhu t (xat n) := hRL
 by_cases hc : c = 0
 · subst hc
   have hRC := xk6 l t (xat n) hR (xbY n) hRL
   by_cases hn : n < 2000
   · obtain ⟨r, hr, hr2⟩ := pre_all hW
     rw [if_neg (by unfold xat; omega)] at hRC
     refine ⟨0, t, b, fun W => ?_, hRC, hb2, hb⟩
     refine (xhd l t n (cd 0) r hp (hL.exact hn) hn (hN.empty (by omega)) (by have := hN.len 0; omega) hr W hm).mono ?_
     rintro e w' ⟨eb, pv, rfl, _, k⟩
     exact ⟨_, rfl, k⟩
   rw [if_pos (by unfold xat; omega)] at hRC
   exact ⟨16, t, b, fun W => (xhc l t n hp hL (by omega) W hm).mono fun e w' h => ⟨none, h.1, h.2⟩, hRC, hb2, hb⟩
 exact ⟨c, t, b, fun W => (xgd l t c hp hc W hm).mono fun e w' h => ⟨none, h.1, h.2⟩, xk7 l t c hR hc, hb2, hb⟩
def xco (j : JV) : Bool := decide (j.dn <= 200) && decide (j.pt.length <= 40) && decide (j.sn <= 10) && (decide (j.ch <= 200) || decide (4096 < j.ch))
theorem xlP (j : JV) (w : World) (hp : j.pt.length <= 9223372036854775807) : Calls prog 5 #[jV j] w fun e w' => e = .returned (.bool (xco j)) /\ KF w w' := by
 obtain ⟨q, hq⟩ : ∃ q, xco j = q := ⟨_, rfl⟩
 rw [hq]
 have HQ := xa hq
 clear hq
 by_cases h0 : j.dn <= 200
 rotate_left
 · obtain rfl : false = q := by rw [<- HQ.out]; unfold xco; simp [h0]
   have g0 : decide ((j.dn : Int) <= 200) = false := by simp; omega
   clear HQ
   unfold jV jCs
   go_enter func5, ntmps5
   go_wp2
   go_ret
   exact ⟨rfl, KI.out⟩
 have g0 : decide ((j.dn : Int) <= 200) = true := by simp; omega
 by_cases h1 : j.pt.length <= 40
 rotate_left
 · obtain rfl : false = q := by rw [<- HQ.out]; unfold xco; simp [h0, h1]
   have g1 : decide ((j.pt.length : Int) <= 40) = false := by simp; omega
   clear HQ
   unfold jV jCs
   go_enter func5, ntmps5
   go_wp2
   go_ret
   exact ⟨rfl, KI.out⟩
 have g1 : decide ((j.pt.length : Int) <= 40) = true := by simp; omega
 by_cases h2 : j.sn <= 10
 rotate_left
 · obtain rfl : false = q := by rw [<- HQ.out]; unfold xco; simp [h0, h1, h2]
   have g2 : decide ((j.sn : Int) <= 10) = false := by simp; omega
   clear HQ
   unfold jV jCs
   go_enter func5, ntmps5
   go_wp2
   go_ret
   exact ⟨rfl, KI.out⟩
 have g2 : decide ((j.sn : Int) <= 10) = true := by simp; omega
 by_cases h3 : j.ch <= 200
 · obtain rfl : true = q := by rw [<- HQ.out]; unfold xco; simp [h0, h1, h2, h3]
   have g3 : decide (j.ch <= 200) = true := by simp; omega
   clear HQ
   unfold jV jCs
   go_enter func5, ntmps5
   go_wp2
   go_ret
   exact ⟨rfl, KI.out⟩
 have g3 : decide (j.ch <= 200) = false := by simp; omega
 by_cases h4 : 4096 < j.ch
 · obtain rfl : true = q := by rw [<- HQ.out]; unfold xco; simp [h0, h1, h2, h4]
   have g4 : decide (4096 < j.ch) = true := by simp; omega
   clear HQ
   unfold jV jCs
   go_enter func5, ntmps5
   go_wp2
   go_ret
   exact ⟨rfl, KI.out⟩
 obtain rfl : false = q := by rw [<- HQ.out]; unfold xco; simp [h0, h1, h2, h3, h4]
 have g4 : decide (4096 < j.ch) = false := by simp; omega
 clear HQ
 unfold jV jCs
 go_enter func5, ntmps5
 go_wp2
 go_ret
 exact ⟨rfl, KI.out⟩
def xaL (j : JV) : Bool := !decide (j.cd < 0) && !decide (3 < j.cd) && !decide (j.mo < 1) && !decide (4096 < j.mo) && !decide (j.te < 0) && !decide (3 < j.te) && !decide (j.be < 0) && !decide (16 < j.be) && !decide (j.af < 0) && !decide (16 < j.af) && !decide (j.bu < 1) && !decide (64 < j.bu) && !decide (j.ch < 1) && !decide (4096 < j.ch) && !decide (j.ro < 0) && !decide (64 < j.ro) && !decide (j.wo < 1) && !decide (16 < j.wo) && !decide (j.rg < 1) && !decide (64 < j.rg)
theorem xgB {j : JV} (h : xaL j = true) (h1 : j.dn <= 65536) (h2 : j.sn <= 64) : JOk j := by
 unfold xaL at h
 simp only [Bool.and_eq_true, Bool.not_eq_true', decide_eq_false_iff_not] at h
 constructor <;> omega
theorem xjt (j : JV) (t : T) (c : Int) (hC : RCo j.pt t c) (h1 : j.dn <= 200) (h2 : j.sn <= 10) (w : World) :
 Calls prog 8 #[jV j] w fun e w' => e = .returned (.bool (xaL j && (c == 0))) /\ KF w w' := by
 have HC := xa hC
 unfold RCo RCoE at HC
 have d1 : decide (65536 < (j.dn : Int)) = false := by simp; omega
 have d2 : decide (64 < (j.sn : Int)) = false := by simp; omega
 obtain ⟨q, hq⟩ : ∃ q, (xaL j && (c == 0)) = q := ⟨_, rfl⟩
 rw [hq]
 have HQ := xa hq
 clear hq hC
 by_cases h0' : j.cd < 0
 · obtain rfl : false = q := by rw [<- HQ.out]; unfold xaL; simp [h0']
   have g0 : decide (j.cd < 0) = true := by simpa using h0'
   clear HQ HC
   unfold jV jCs
   go_enter func8, ntmps8
   go_wp2
   go_ret
   exact ⟨rfl, KI.out⟩
 have g0 : decide (j.cd < 0) = false := by simpa using h0'
 by_cases h1' : 3 < j.cd
 · obtain rfl : false = q := by rw [<- HQ.out]; unfold xaL; simp [h1']
   have g1 : decide (3 < j.cd) = true := by simpa using h1'
   clear HQ HC
   unfold jV jCs
   go_enter func8, ntmps8
   go_wp2
   go_ret
   exact ⟨rfl, KI.out⟩
 have g1 : decide (3 < j.cd) = false := by simpa using h1'
 by_cases h2' : j.mo < 1
 · obtain rfl : false = q := by rw [<- HQ.out]; unfold xaL; simp [h2']
   have g2 : decide (j.mo < 1) = true := by simpa using h2'
   clear HQ HC
   unfold jV jCs
   go_enter func8, ntmps8
   go_wp2
   go_ret
   exact ⟨rfl, KI.out⟩
 have g2 : decide (j.mo < 1) = false := by simpa using h2'
 by_cases h3' : 4096 < j.mo
 · obtain rfl : false = q := by rw [<- HQ.out]; unfold xaL; simp [h3']
   have g3 : decide (4096 < j.mo) = true := by simpa using h3'
   clear HQ HC
   unfold jV jCs
   go_enter func8, ntmps8
   go_wp2
   go_ret
   exact ⟨rfl, KI.out⟩
 have g3 : decide (4096 < j.mo) = false := by simpa using h3'
 by_cases h4' : j.te < 0
 · obtain rfl : false = q := by rw [<- HQ.out]; unfold xaL; simp [h4']
   have g4 : decide (j.te < 0) = true := by simpa using h4'
   clear HQ HC
   unfold jV jCs
   go_enter func8, ntmps8
   go_wp2
   go_ret
   exact ⟨rfl, KI.out⟩
 have g4 : decide (j.te < 0) = false := by simpa using h4'
 by_cases h5' : 3 < j.te
 · obtain rfl : false = q := by rw [<- HQ.out]; unfold xaL; simp [h5']
   have g5 : decide (3 < j.te) = true := by simpa using h5'
   clear HQ HC
   unfold jV jCs
   go_enter func8, ntmps8
   go_wp2
   go_ret
   exact ⟨rfl, KI.out⟩
 have g5 : decide (3 < j.te) = false := by simpa using h5'
 by_cases h6' : j.be < 0
 · obtain rfl : false = q := by rw [<- HQ.out]; unfold xaL; simp [h6']
   have g6 : decide (j.be < 0) = true := by simpa using h6'
   clear HQ HC
   unfold jV jCs
   go_enter func8, ntmps8
   go_wp2
   go_ret
   exact ⟨rfl, KI.out⟩
 have g6 : decide (j.be < 0) = false := by simpa using h6'
 by_cases h7' : 16 < j.be
 · obtain rfl : false = q := by rw [<- HQ.out]; unfold xaL; simp [h7']
   have g7 : decide (16 < j.be) = true := by simpa using h7'
   clear HQ HC
   unfold jV jCs
   go_enter func8, ntmps8
   go_wp2
   go_ret
   exact ⟨rfl, KI.out⟩
 have g7 : decide (16 < j.be) = false := by simpa using h7'
 by_cases h8' : j.af < 0
 · obtain rfl : false = q := by rw [<- HQ.out]; unfold xaL; simp [h8']
   have g8 : decide (j.af < 0) = true := by simpa using h8'
   clear HQ HC
   unfold jV jCs
   go_enter func8, ntmps8
   go_wp2
   go_ret
   exact ⟨rfl, KI.out⟩
 have g8 : decide (j.af < 0) = false := by simpa using h8'
 by_cases h9' : 16 < j.af
 · obtain rfl : false = q := by rw [<- HQ.out]; unfold xaL; simp [h9']
   have g9 : decide (16 < j.af) = true := by simpa using h9'
   clear HQ HC
   unfold jV jCs
   go_enter func8, ntmps8
   go_wp2
   go_ret
   exact ⟨rfl, KI.out⟩
 have g9 : decide (16 < j.af) = false := by simpa using h9'
 by_cases h10' : j.bu < 1
 · obtain rfl : false = q := by rw [<- HQ.out]; unfold xaL; simp [h10']
   have g10 : decide (j.bu < 1) = true := by simpa using h10'
   clear HQ HC
   unfold jV jCs
   go_enter func8, ntmps8
   go_wp2
   go_ret
   exact ⟨rfl, KI.out⟩
 have g10 : decide (j.bu < 1) = false := by simpa using h10'
 by_cases h11' : 64 < j.bu
 · obtain rfl : false = q := by rw [<- HQ.out]; unfold xaL; simp [h11']
   have g11 : decide (64 < j.bu) = true := by simpa using h11'
   clear HQ HC
   unfold jV jCs
   go_enter func8, ntmps8
   go_wp2
   go_ret
   exact ⟨rfl, KI.out⟩
 have g11 : decide (64 < j.bu) = false := by simpa using h11'
 by_cases h12' : j.ch < 1
 · obtain rfl : false = q := by rw [<- HQ.out]; unfold xaL; simp [h12']
   have g12 : decide (j.ch < 1) = true := by simpa using h12'
   clear HQ HC
   unfold jV jCs
   go_enter func8, ntmps8
   go_wp2
   go_ret
   exact ⟨rfl, KI.out⟩
 have g12 : decide (j.ch < 1) = false := by simpa using h12'
 by_cases h13' : 4096 < j.ch
 · obtain rfl : false = q := by rw [<- HQ.out]; unfold xaL; simp [h13']
   have g13 : decide (4096 < j.ch) = true := by simpa using h13'
   clear HQ HC
   unfold jV jCs
   go_enter func8, ntmps8
   go_wp2
   go_ret
   exact ⟨rfl, KI.out⟩
 have g13 : decide (4096 < j.ch) = false := by simpa using h13'
 by_cases h14' : j.ro < 0
 · obtain rfl : false = q := by rw [<- HQ.out]; unfold xaL; simp [h14']
   have g14 : decide (j.ro < 0) = true := by simpa using h14'
   clear HQ HC
   unfold jV jCs
   go_enter func8, ntmps8
   go_wp2
   go_ret
   exact ⟨rfl, KI.out⟩
 have g14 : decide (j.ro < 0) = false := by simpa using h14'
 by_cases h15' : 64 < j.ro
 · obtain rfl : false = q := by rw [<- HQ.out]; unfold xaL; simp [h15']
   have g15 : decide (64 < j.ro) = true := by simpa using h15'
   clear HQ HC
   unfold jV jCs
   go_enter func8, ntmps8
   go_wp2
   go_ret
   exact ⟨rfl, KI.out⟩
 have g15 : decide (64 < j.ro) = false := by simpa using h15'
 by_cases h16' : j.wo < 1
 · obtain rfl : false = q := by rw [<- HQ.out]; unfold xaL; simp [h16']
   have g16 : decide (j.wo < 1) = true := by simpa using h16'
   clear HQ HC
   unfold jV jCs
   go_enter func8, ntmps8
   go_wp2
   go_ret
   exact ⟨rfl, KI.out⟩
 have g16 : decide (j.wo < 1) = false := by simpa using h16'
 by_cases h17' : 16 < j.wo
 · obtain rfl : false = q := by rw [<- HQ.out]; unfold xaL; simp [h17']
   have g17 : decide (16 < j.wo) = true := by simpa using h17'
   clear HQ HC
   unfold jV jCs
   go_enter func8, ntmps8
   go_wp2
   go_ret
   exact ⟨rfl, KI.out⟩
 have g17 : decide (16 < j.wo) = false := by simpa using h17'
 by_cases h18' : j.rg < 1
 · obtain rfl : false = q := by rw [<- HQ.out]; unfold xaL; simp [h18']
   have g18 : decide (j.rg < 1) = true := by simpa using h18'
   clear HQ HC
   unfold jV jCs
   go_enter func8, ntmps8
   go_wp2
   go_ret
   exact ⟨rfl, KI.out⟩
 have g18 : decide (j.rg < 1) = false := by simpa using h18'
 by_cases h19' : 64 < j.rg
 · obtain rfl : false = q := by rw [<- HQ.out]; unfold xaL; simp [h19']
   have g19 : decide (64 < j.rg) = true := by simpa using h19'
   clear HQ HC
   unfold jV jCs
   go_enter func8, ntmps8
   go_wp2
   go_ret
   exact ⟨rfl, KI.out⟩
 have g19 : decide (64 < j.rg) = false := by simpa using h19'
 obtain rfl : (c == 0) = q := by rw [<- HQ.out]; unfold xaL; simp only [g0, g1, g2, g3, g4, g5, g6, g7, g8, g9, g10, g11, g12, g13, g14, g15, g16, g17, g18, g19, Bool.not_false, Bool.true_and, Bool.and_true]
 clear HQ
 have hjb := xfC w j
 obtain ⟨w1, hw⟩ : ∃ W, w.alloc (.cells (jCs j) 25) = W := ⟨_, rfl⟩
 have hk1 : KF w w1 := by rw [<- hw]; exact (xaa.refl _ _).alloc _
 have hw2 := hw
 unfold jCs at hw2
 have HW2 := xa hw2
 have HK1 := xa hk1
 clear hjb hw2 hw hk1
 unfold jV jCs
 go_enter func8, ntmps8
 go_wp2_with fail
 rw [HW2.out]
 clear HW2
 refine (HC.out _).mono ?_
 rintro e w2 ⟨p, rfl, k2, _⟩
 have HK2 := xa (HK1.out.trans k2)
 clear k2
 go_wp2
 go_ret
 exact ⟨rfl, HK2.out⟩
theorem xkO (j : JV) (t : T) (c : Int) (b : Nat) (hC : RCo j.pt t c) (hb : xhv t b) (hb2 : b <= 1099511627776) (w : World) :
 Calls prog 6 #[jV j] w fun e w' => e = .returned (.bool (c != 0 || decide ((b : Int) <= 120))) /\ KF w w' := by
 have HC := xa hC
 unfold RCo at HC
 have HB := xa hb
 unfold xhv at HB
 have hk1 : KF w (w.alloc (.cells (jCs j) 25)) := (xaa.refl _ _).alloc _
 have HK1 := xa hk1
 unfold jCs at HK1
 clear hk1 hC hb
 by_cases hc : c = 0
 · subst hc
   unfold jV jCs
   go_enter func6, ntmps6
   go_wp2_with fail
   refine (HC.out _).mono ?_
   rintro e w2 ⟨p, rfl, k2, h0⟩
   obtain ⟨eb, o, a1, n1, c1, m, x, a2, n2, cc2, rfl, hh, ht⟩ := h0 rfl
   have b0 : w2.cell? ⟨eb, 0, none⟩ = some (.int .i64 o) := by rw [Lib.cell_of_heap hh]; rfl
   have b1 : w2.cell? ⟨eb, 1, none⟩ = some (.slice a1 n1 c1) := by rw [Lib.cell_of_heap hh]; rfl
   have b2 : w2.cell? ⟨eb, 2, none⟩ = some (.int .i64 m) := by rw [Lib.cell_of_heap hh]; rfl
   have b3 : w2.cell? ⟨eb, 3, none⟩ = some (.int .i64 x) := by rw [Lib.cell_of_heap hh]; rfl
   have b4 : w2.cell? ⟨eb, 4, none⟩ = some (.slice a2 n2 cc2) := by rw [Lib.cell_of_heap hh]; rfl
   have HS := xa (HB.out _ _ _ ht)
   unfold NV.val at HS
   have HK2 := xa (HK1.out.trans k2)
   clear h0 hh ht k2 HB HC
   go_wp2_with fail
   refine HS.out.mono ?_
   rintro e w3 ⟨rfl, k3⟩
   have HK3 := xa (HK2.out.trans k3)
   clear k3
   go_wp2
   go_ret
   exact ⟨by simp, HK3.out⟩
 have g0 : (c != 0) = true := by simp [hc]
 unfold jV jCs
 go_enter func6, ntmps6
 go_wp2_with fail
 refine (HC.out _).mono ?_
 rintro e w2 ⟨p, rfl, k2, h0⟩
 have HK2 := xa (HK1.out.trans k2)
 clear h0 k2 HC
 go_wp2
 go_ret
 exact ⟨by simp [g0], HK2.out⟩
theorem xif (n a b : Int) (w : World) : Calls prog 46 #[.int .i64 n, .int .i64 a, .int .i64 b] w fun e w' => ∃ q : Bool, e = .returned (.bool q) /\ (q = true ↔ a <= n /\ n <= b) /\ w' = w :=
 (xe5 n a b w).mono fun e w' h => ⟨_, h.1, by simp, h.2⟩
def xoa (p : Prop) (w1 : World) (v : Value) (wc : World) : Prop := ∃ q : Bool, v = .bool q /\ (q = true ↔ p) /\ w1 = wc
theorem xj1 (j : JV) (hn : ¬ JOk j) (h1 : j.dn <= 200) (h2 : j.sn <= 10) (w : World) :
 Calls prog 26 #[jV j] w fun e w' => e = .returned (.bool false) /\ KF w w' := by
 have hsz : decide ((j.sn : Int) <= 64) = true := by simp; omega
 have hb1 : (j.dn : Int) <= 65536 := by omega
 have hb2 : (0 : Int) <= (j.dn : Int) := by omega
 have HN := xa hn
 have HB := xa (fun n a b W => xif n a b W)
 have hjb := xfC w j
 obtain ⟨w1, hw⟩ : ∃ W, w.alloc (.cells (jCs j) 25) = W := ⟨_, rfl⟩
 rw [hw] at hjb
 have hk1 : KF w w1 := by rw [<- hw]; exact (xaa.refl _ _).alloc _
 have hs1 : w.heap.size + 1 <= w1.heap.size := by rw [<- hw]; simp
 have hw2 := hw
 unfold jCs at hw2
 have HW2 := xa hw2
 have HJ := xa hjb
 have HK1 := xa hk1
 clear hw2 hw hjb hk1 hn
 unfold jV jCs
 go_enter func26, ntmps26
 go_upto_region 1 with fail
 rw [HW2.out]
 clear HW2
 obtain ⟨j0, j1, j2, j3, j4, j5, j6, j7, j8, j9, j10⟩ := HJ.out.c
 obtain ⟨j11, j12, j13, j14, j15, j16⟩ := HJ.out.d
 go_cut [3] (fun v wc => xoa ((0 <= j.cd /\ j.cd <= 3) /\ (1 <= j.mo /\ j.mo <= 4096)) w1 v wc)
 case first =>
  go_wp2_with fail
  refine (HB.out _ _ _ _).mono ?_
  rintro e w' ⟨q0, rfl, hq0, rfl⟩
  obtain rfl : q0 = true := hq0.2 (by omega)
  clear hq0
  go_wp2_with fail
  refine (HB.out _ _ _ _).mono ?_
  rintro e w' ⟨q1, rfl, hq1, rfl⟩
  cases q1 with
  | false =>
   have HF := xa (show ¬ (0 <= j.cd /\ j.cd <= 3) from fun h => absurd (hq1.2 h) (by simp))
   clear hq1
   go_wp2
   go_meet
   exact ⟨false, rfl, ⟨fun h => (by cases h), fun h => absurd h.1 HF.out⟩, rfl⟩
  | true =>
   have HT1 := xa (hq1.1 rfl)
   clear hq1
   go_wp2_with fail
   refine (HB.out _ _ _ _).mono ?_
   rintro e w' ⟨q2, rfl, hq2, rfl⟩
   cases q2 with
   | false =>
    have HF := xa (mt hq2.2 (by simp))
    clear hq2
    go_wp2
    go_meet
    exact ⟨false, rfl, ⟨fun h => (by cases h), fun h => absurd h.2 HF.out⟩, rfl⟩
   | true =>
    have HT := xa (hq2.1 rfl)
    clear hq2
    go_wp2
    go_meet
    exact ⟨true, rfl, ⟨fun _ => ⟨HT1.out, HT.out⟩, fun _ => rfl⟩, rfl⟩
 case rest =>
  obtain ⟨g0, rfl, hg0, rfl⟩ := hcut
  have HG0 := xa hg0
  clear hg0
  go_upto_region 2 with fail
  go_cut [4] (fun v wc => xoa ((0 <= j.te /\ j.te <= 3) /\ (0 <= j.be /\ j.be <= 16) /\ (0 <= j.af /\ j.af <= 16)) w1 v wc)
  case first =>
   go_wp2_with fail
   refine (HB.out _ _ _ _).mono ?_
   rintro e w' ⟨q0, rfl, hq0, rfl⟩
   cases q0 with
   | false =>
    have HF := xa (show ¬ (0 <= j.te /\ j.te <= 3) from fun h => absurd (hq0.2 h) (by simp))
    clear hq0
    go_wp2
    go_meet
    exact ⟨false, rfl, ⟨fun h => (by cases h), fun h => absurd h.1 HF.out⟩, rfl⟩
   | true =>
    have HT0 := xa (hq0.1 rfl)
    clear hq0
    go_wp2_with fail
    refine (HB.out _ _ _ _).mono ?_
    rintro e w' ⟨q1, rfl, hq1, rfl⟩
    cases q1 with
    | false =>
     have HF := xa (show ¬ (0 <= j.be /\ j.be <= 16) from fun h => absurd (hq1.2 h) (by simp))
     clear hq1
     go_wp2
     go_meet
     exact ⟨false, rfl, ⟨fun h => (by cases h), fun h => absurd h.2.1 HF.out⟩, rfl⟩
    | true =>
     have HT1 := xa (hq1.1 rfl)
     clear hq1
     go_wp2_with fail
     refine (HB.out _ _ _ _).mono ?_
     rintro e w' ⟨q2, rfl, hq2, rfl⟩
     cases q2 with
     | false =>
      have HF := xa (mt hq2.2 (by simp))
      clear hq2
      go_wp2
      go_meet
      exact ⟨false, rfl, ⟨fun h => (by cases h), fun h => absurd h.2.2 HF.out⟩, rfl⟩
     | true =>
      have HT := xa (hq2.1 rfl)
      clear hq2
      go_wp2
      go_meet
      exact ⟨true, rfl, ⟨fun _ => ⟨HT0.out, HT1.out, HT.out⟩, fun _ => rfl⟩, rfl⟩
  case rest =>
   obtain ⟨g1, rfl, hg1, rfl⟩ := hcut
   have HG1 := xa hg1
   clear hg1
   go_upto_region 3 with fail
   go_cut [5] (fun v wc => xoa ((1 <= j.bu /\ j.bu <= 64) /\ (1 <= j.ch /\ j.ch <= 4096) /\ (0 <= j.ro /\ j.ro <= 64)) w1 v wc)
   case first =>
    go_wp2_with fail
    refine (HB.out _ _ _ _).mono ?_
    rintro e w' ⟨q0, rfl, hq0, rfl⟩
    cases q0 with
    | false =>
     have HF := xa (show ¬ (1 <= j.bu /\ j.bu <= 64) from fun h => absurd (hq0.2 h) (by simp))
     clear hq0
     go_wp2
     go_meet
     exact ⟨false, rfl, ⟨fun h => (by cases h), fun h => absurd h.1 HF.out⟩, rfl⟩
    | true =>
     have HT0 := xa (hq0.1 rfl)
     clear hq0
     go_wp2_with fail
     refine (HB.out _ _ _ _).mono ?_
     rintro e w' ⟨q1, rfl, hq1, rfl⟩
     cases q1 with
     | false =>
      have HF := xa (show ¬ (1 <= j.ch /\ j.ch <= 4096) from fun h => absurd (hq1.2 h) (by simp))
      clear hq1
      go_wp2
      go_meet
      exact ⟨false, rfl, ⟨fun h => (by cases h), fun h => absurd h.2.1 HF.out⟩, rfl⟩
     | true =>
      have HT1 := xa (hq1.1 rfl)
      clear hq1
      go_wp2_with fail
      refine (HB.out _ _ _ _).mono ?_
      rintro e w' ⟨q2, rfl, hq2, rfl⟩
      cases q2 with
      | false =>
       have HF := xa (mt hq2.2 (by simp))
       clear hq2
       go_wp2
       go_meet
       exact ⟨false, rfl, ⟨fun h => (by cases h), fun h => absurd h.2.2 HF.out⟩, rfl⟩
      | true =>
       have HT := xa (hq2.1 rfl)
       clear hq2
       go_wp2
       go_meet
       exact ⟨true, rfl, ⟨fun _ => ⟨HT0.out, HT1.out, HT.out⟩, fun _ => rfl⟩, rfl⟩
   case rest =>
    obtain ⟨g2, rfl, hg2, rfl⟩ := hcut
    have HG2 := xa hg2
    clear hg2
    go_upto_region 4 with fail
    go_cut [6] (fun v wc => xoa ((1 <= j.wo /\ j.wo <= 16) /\ (1 <= j.rg /\ j.rg <= 64)) w1 v wc)
    case first =>
     go_wp2_with fail
     refine (HB.out _ _ _ _).mono ?_
     rintro e w' ⟨q0, rfl, hq0, rfl⟩
     cases q0 with
     | false =>
      have HF := xa (show ¬ (1 <= j.wo /\ j.wo <= 16) from fun h => absurd (hq0.2 h) (by simp))
      clear hq0
      go_wp2
      go_meet
      exact ⟨false, rfl, ⟨fun h => (by cases h), fun h => absurd h.1 HF.out⟩, rfl⟩
     | true =>
      have HT0 := xa (hq0.1 rfl)
      clear hq0
      go_wp2_with fail
      refine (HB.out _ _ _ _).mono ?_
      rintro e w' ⟨q1, rfl, hq1, rfl⟩
      cases q1 with
      | false =>
       have HF := xa (mt hq1.2 (by simp))
       clear hq1
       go_wp2
       go_meet
       exact ⟨false, rfl, ⟨fun h => (by cases h), fun h => absurd h.2 HF.out⟩, rfl⟩
      | true =>
       have HT := xa (hq1.1 rfl)
       clear hq1
       go_wp2
       go_meet
       exact ⟨true, rfl, ⟨fun _ => ⟨HT0.out, HT.out⟩, fun _ => rfl⟩, rfl⟩
    case rest =>
     obtain ⟨g3, rfl, hg3, rfl⟩ := hcut
     have HG3 := xa hg3
     clear hg3
     obtain h | h | h | h : g0 = false \/ (g0 = true /\ g1 = false) \/ (g0 = true /\ g1 = true /\ g2 = false) \/ (g0 = true /\ g1 = true /\ g2 = true /\ g3 = false) := by
      cases g0; exact .inl rfl
      cases g1; exact .inr (.inl ⟨rfl, rfl⟩)
      cases g2; exact .inr (.inr (.inl ⟨rfl, rfl, rfl⟩))
      cases g3; exact .inr (.inr (.inr ⟨rfl, rfl, rfl, rfl⟩))
      exact (HN.out ⟨by omega, by omega, (HG0.out.1 rfl).1, (HG0.out.1 rfl).2, (HG1.out.1 rfl).1, (HG1.out.1 rfl).2.1, (HG1.out.1 rfl).2.2, (HG2.out.1 rfl).1, (HG2.out.1 rfl).2.1, (HG2.out.1 rfl).2.2, (HG3.out.1 rfl).1, (HG3.out.1 rfl).2⟩).elim
     · subst h
       go_wp2
       go_ret
       exact ⟨rfl, HK1.out⟩
     · obtain ⟨rfl, rfl⟩ := h
       go_wp2
       go_ret
       exact ⟨rfl, HK1.out⟩
     · obtain ⟨rfl, rfl, rfl⟩ := h
       go_wp2
       go_ret
       exact ⟨rfl, HK1.out⟩
     obtain ⟨rfl, rfl, rfl, rfl⟩ := h
     go_wp2
     go_ret
     exact ⟨rfl, HK1.out⟩
theorem xkZ {j : JV} (h : xaL j = false) : ¬ JOk j := fun k => by
 have h2 : xaL j = true := by
  unfold xaL
  have := k.cd; have := k.mo; have := k.te; have := k.be; have := k.af; have := k.bu; have := k.ch; have := k.ro; have := k.wo; have := k.rg
  simp; omega
 rw [h] at h2; cases h2
theorem xjv (l : List UInt8) (hm : l.length <= 9223372036854775807) : ∃ (c : Int) (s : Bool), ∀ j : JV, j.pt = l ->
 xcj 6 j s /\ (j.dn <= 200 -> j.sn <= 10 -> xcj 26 j (xaL j && (c == 0)) /\ xcj 8 j (xaL j && (c == 0))) := by
 obtain ⟨c, t, b, hE, hC, hb, hb2⟩ := xhq l hm
 refine ⟨c, c != 0 || decide ((b : Int) <= 120), fun j hj => ?_⟩
 subst hj
 refine ⟨fun W => xkO j t c b hC hb hb2 W, fun h1 h2 => ⟨fun W => ?_, fun W => xjt j t c hC h1 h2 W⟩⟩
 cases hr : xaL j with
 | true => rw [Bool.true_and]; exact xj2 j c (xgB hr (by omega) (by omega)) hE W
 | false => rw [Bool.false_and]; exact xj1 j (xkZ hr) h1 h2 W
theorem xnr (j : JV) (hm : j.pt.length <= 9223372036854775807) : xcj 5 j (xco j) := fun W => xlP j W hm
theorem xdv {j : JV} (h : xco j = true) : j.dn <= 200 /\ j.sn <= 10 := by
 unfold xco at h
 simp only [Bool.and_eq_true, decide_eq_true_eq] at h
 exact ⟨h.1.1.1, h.1.2⟩
section
open Go
set_option maxRecDepth 1000000
theorem run21 : xfT (xd8 prog 3000 4 [] AH.empty) = true := by kernel_rfl
theorem awake21 (w : World) : Calls prog 4 #[] w fun e w' => e = .returned (.bool true) /\ KF w w' :=
 xkr ng21 xhS 3000 4 run21 w
end
theorem xjL (j : JV) (hp : j.pt.length <= 9223372036854775807) (t : ByteArray) (ht : (t.size : Int) <= 9223372036854775807) (w : World) :
 Calls prog 3 #[jV j, .string t] w fun e w' => e = .returned (.bool true) /\ KF w w' := by
 obtain ⟨c, s, h⟩ := xjv j.pt hp
 obtain ⟨hS, hR⟩ := h j rfl
 refine xjK j t (xco j) s (xaL j && (c == 0)) ht (fun W => awake21 W) (xnr j hp) (fun _ => hS) (fun hl => ?_) (fun hl => ?_) (fun hl hr => ?_) w
 · exact (hR (xdv hl).1 (xdv hl).2).2
 · exact (hR (xdv hl).1 (xdv hl).2).1
 have := xdv hl
 exact xgB (by simp at hr; exact hr.1) (by omega) (by omega)
end Go.Proofs.YtapmdhejgnplaaaGreat
section
set_option linter.unusedVariables false
set_option linter.unusedSimpArgs false
namespace Go.Proofs.YtapmdhejgnplaaaGreat.feedPlants
set_option maxRecDepth 100000
theorem band {a b : Bool} (h : a = true) (k : b = true) : (a && b) = true := by rw [h, k]; rfl
noncomputable def ft (g : Program -> FuncId -> Func -> ChangeSpec -> OpenClaim -> Bool) : Bool := g Tryz.prog 3 Tryz.f3 Rows.feedPlantsSpec Rows.feedPlantsRow
theorem fact0 : ft (fun P f fn s c => c.wf (OpenSpec.ofChange s)) = true := by kernel_rfl
theorem fact1 : ft (fun P f fn s c => laidOutB P) = true := by kernel_rfl
theorem fact2 : ft (fun P f fn s c => mapsRowed P) = true := by kernel_rfl
theorem fact3 : ft (fun P f fn s c => fn.params.all (P.readableRec ·)) = true := by kernel_rfl
theorem fact4 : ft (fun P f fn s c => namedTie P c.named s.vars) = true := by kernel_rfl
theorem fact5 : ft (fun P f fn s c => (c.stops == [])) = true := by kernel_rfl
theorem fact6 : ft (fun P f fn s c => (P.stops == [])) = true := by kernel_rfl
theorem fact7 : ft (fun P f fn s c => (c.knobs == [])) = true := by kernel_rfl
theorem fact8 : ft (fun P f fn s c => (P.stopKnobs == [])) = true := by kernel_rfl
theorem fact9 : ft (fun P f fn s c => (c.inPlace == P.inPlace f)) = true := by kernel_rfl
theorem fact10 : ft (fun P f fn s c => (c.unfollowed == P.unfollowed f)) = true := by kernel_rfl
theorem fact11 : ft (fun P f fn s c => (c.recurses == P.recurses f)) = true := by kernel_rfl
theorem fact12 : ft (fun P f fn s c => (c.named == P.varsNamed f)) = true := by kernel_rfl
theorem fact13 : ft (fun P f fn s c => (c.maps == (fn.params.toList ++ s.plain.varTypes P).any (P.mapsRec ·))) = true := by kernel_rfl
theorem fact14 : ft (fun P f fn s c => (c.ifaces == (fn.params.toList ++ s.plain.varTypes P).any (P.ifacesRec ·))) = true := by kernel_rfl
theorem fact15 : ft (fun P f fn s c => (c.mapsOut == P.mapsAmong fn.resultTypes.toList)) = true := by kernel_rfl
theorem fact16 : ft (fun P f fn s c => (c.loops == (fn.params.toList ++ s.plain.varTypes P).any (P.loopsFrom ·))) = true := by kernel_rfl
theorem fact17 : ft (fun P f fn s c => (c.wideKeys == (fn.params.toList ++ s.plain.varTypes P ++ fn.resultTypes.toList).any (P.wideKeysFrom ·))) = true := by kernel_rfl
theorem fact18 : ft (fun P f fn s c => s.vars.all (P.varReadable ·)) = true := by kernel_rfl
theorem fact19 : ft (fun P f fn s c => fn.resultTypes.all (fun t => P.readableRec t && decide (t < P.types.size))) = true := by kernel_rfl
theorem fact20 : ft (fun P f fn s c => (c.ifacesOut == fn.resultTypes.toList.any (P.ifacesRec ·))) = true := by kernel_rfl
theorem fact21 : ft (fun P f fn s c => (c.loopsOut == fn.resultTypes.toList.any (P.loopsFrom ·))) = true := by kernel_rfl
theorem fact22 : ft (fun P f fn s c => (c.plainKeys == P.plainKeys)) = true := by kernel_rfl
theorem fact23 : ft (fun P f fn s c => c.shortTexts.isNone) = true := by kernel_rfl
theorem fact24 : ft (fun P f fn s c => P.stopsHeard) = true := by kernel_rfl
theorem fact25 : ft (fun P f fn s c => P.mayEnter) = true := by kernel_rfl
theorem fact26 : ft (fun P f fn s c => (c.lifted == P.liftsFinal)) = true := by kernel_rfl
theorem fact27 : ft (fun P f fn s c => (P.make == some c.make)) = true := by kernel_rfl
theorem fact28 : ft (fun P f fn s c => (c.kinds == (if c.domain.isEmpty then [] else fn.params.toList.map fun t => match P.underlying t with | some (.int k) => some k | _ => none))) = true := by kernel_rfl
theorem fact29 : ft (fun P f fn s c => (c.pinned == c.pinnedBy)) = true := by kernel_rfl
theorem fact30 : ft (fun P f fn s c => (c.veiled == (fn.params.toList ++ s.plain.varTypes P ++ fn.resultTypes.toList).any (P.veiledRec ·))) = true := by kernel_rfl
theorem fact31 : ft (fun P f fn s c => c.veiledFits P fn.params.toList (fn.params.toList ++ s.plain.varTypes P ++ fn.resultTypes.toList)) = true := by kernel_rfl
theorem xiX : joinedFacts Tryz.prog 3 Tryz.f3 Rows.feedPlantsSpec Rows.feedPlantsRow = true := (band (band (band (band (band (band (band (band (band (band (band (band (band (band (band (band (band (band (band (band (band (band (band (band (band (band (band (band (band (band (band fact0 fact1) fact2) fact3) fact4) fact5) fact6) fact7) fact8) fact9) fact10) fact11) fact12) fact13) fact14) fact15) fact16) fact17) fact18) fact19) fact20) fact21) fact22) fact23) fact24) fact25) fact26) fact27) fact28) fact29) fact30) fact31)
end Go.Proofs.YtapmdhejgnplaaaGreat.feedPlants
end
namespace Go.Proofs.YtapmdhejgnplaaaGreat
open Go.RowKit Go.Proofs.Tryz
set_option maxRecDepth 100000
section
open Go.ChangeShapes Go.WideShapes Go.ChangeAt
section
variable {H : Type} {enc : TypeId × Value -> H} {w : World} {base : Nat} {spare : Nat -> Bool} {held : Bool}
theorem xgj {cs : List Value} {i : Nat} {v : Value} (hv : cs[i]? = some v) : (cs.drop i).take 1 = [v] := by
 obtain ⟨hi, rfl⟩ := List.getElem?_eq_some_iff.1 hv
 rw [List.drop_eq_getElem_cons hi]; rfl
theorem xbX {cs : List Value} {i fuel : Nat} {v : Value} {y : DataW H × List MemPlace} (hv : cs[i]? = some v) (h : DataW.trod enc prog w base spare held fuel 3 ((cs.drop i).take (prog.cellsOf 3)) = some y) : ∃ n, v = .int .i64 n := by
 rw [show prog.cellsOf 3 = 1 by kernel_rfl, xgj hv] at h
 obtain ⟨n, p, _, _⟩ := DataW.trod_int underlying3 h
 exact ⟨n, by simpa using p⟩
theorem str_at {cs : List Value} {i fuel : Nat} {v : Value} {y : DataW H × List MemPlace} (hv : cs[i]? = some v) (h : DataW.trod enc prog w base spare held fuel 9 ((cs.drop i).take (prog.cellsOf 9)) = some y) : ∃ s, v = .string s /\ s.size <= maxLen := by
 rw [show prog.cellsOf 9 = 1 by kernel_rfl, xgj hv] at h
 obtain ⟨n, p, _, hs⟩ := DataW.trod_string underlying9 h
 exact ⟨n, by simpa using p, hs⟩
theorem xis {t e : TypeId} (ht : prog.underlying t = some (.slice e)) (h1 : prog.cellsOf t = 1) {cs : List Value} {i fuel : Nat} {v : Value} {y : DataW H × List MemPlace} (hv : cs[i]? = some v) (h : DataW.trod enc prog w base spare held fuel t ((cs.drop i).take (prog.cellsOf t)) = some y) :
 ∃ (a : Option Addr) (n c : Nat), v = .slice a n c := by
 rw [h1, xgj hv] at h
 rcases DataW.trod_slice ht h with ⟨h0, _⟩ | ⟨a, len, cap, elems, rest, n, _, h0, _⟩
 · exact ⟨none, 0, 0, by simpa using h0⟩
 exact ⟨some a, len, cap, by simpa using h0⟩
theorem xnv (fuel : Nat) (cs : List Value) (x : DataW H × List MemPlace) (h : DataW.trod enc prog w base spare held fuel 25 cs = some x) : ∃ j : JV, cs = (jCs j).toList /\ j.pt.length <= 9223372036854775807 := by
 obtain ⟨xs, k, rfl, _, hlen, hxl, hfs⟩ := DataW.trod_struct underlying25 h
 have hlen17 : cs.length = 17 := by rw [hlen]; kernel_rfl
 match xs, hxl, cs, hlen17 with
 | [y0, y1, y2, y3, y4, y5, y6, y7, y8, y9, y10, y11, y12, y13, y14, y15, y16], _, [v0, v1, v2, v3, v4, v5, v6, v7, v8, v9, v10, v11, v12, v13, v14, v15, v16], _ =>
  obtain ⟨fl, rfl⟩ := xbX (i := 2) rfl (hfs 2 _ rfl)
  obtain ⟨cd, rfl⟩ := xbX (i := 3) rfl (hfs 3 _ rfl)
  obtain ⟨mo, rfl⟩ := xbX (i := 4) rfl (hfs 4 _ rfl)
  obtain ⟨ev, rfl⟩ := xbX (i := 6) rfl (hfs 6 _ rfl)
  obtain ⟨bd, rfl⟩ := xbX (i := 7) rfl (hfs 7 _ rfl)
  obtain ⟨te, rfl⟩ := xbX (i := 8) rfl (hfs 8 _ rfl)
  obtain ⟨be, rfl⟩ := xbX (i := 9) rfl (hfs 9 _ rfl)
  obtain ⟨af, rfl⟩ := xbX (i := 10) rfl (hfs 10 _ rfl)
  obtain ⟨rf, rfl⟩ := xbX (i := 11) rfl (hfs 11 _ rfl)
  obtain ⟨bu, rfl⟩ := xbX (i := 12) rfl (hfs 12 _ rfl)
  obtain ⟨ch, rfl⟩ := xbX (i := 13) rfl (hfs 13 _ rfl)
  obtain ⟨ro, rfl⟩ := xbX (i := 14) rfl (hfs 14 _ rfl)
  obtain ⟨wo, rfl⟩ := xbX (i := 15) rfl (hfs 15 _ rfl)
  obtain ⟨rg, rfl⟩ := xbX (i := 16) rfl (hfs 16 _ rfl)
  obtain ⟨s, rfl, hs⟩ := str_at (i := 5) rfl (hfs 5 _ rfl)
  obtain ⟨da, dn, dc, rfl⟩ := xis underlying22 (by kernel_rfl) (i := 0) rfl (hfs 0 _ rfl)
  obtain ⟨sa, sn, sc, rfl⟩ := xis underlying23 (by kernel_rfl) (i := 1) rfl (hfs 1 _ rfl)
  obtain ⟨⟨pt⟩⟩ := s
  refine ⟨⟨da, dn, dc, sa, sn, sc, fl, cd, mo, pt, ev, bd, te, be, af, rf, bu, ch, ro, wo, rg⟩, rfl, ?_⟩
  have hs2 : pt.length <= maxLen := hs
  unfold maxLen at hs2
  show pt.length <= _
  omega
end
theorem xnw {H : Type} {enc : TypeId × Value -> H} {W : World} {b0 base : Nat} {spare : Nat -> Bool} {held : Bool} {v : Value} {d : DataW H} {ps : List MemPlace} (hval : Value.okWide prog W .any b0 25 v) (hd : DataW.Trod enc prog W base spare held 25 v d ps) :
 ∃ j : JV, v = jV j /\ j.pt.length <= 9223372036854775807 := by
 unfold Value.okWide at hval
 rw [underlying25] at hval
 obtain ⟨cs, rfl, _, _⟩ := hval
 obtain ⟨fuel, hf⟩ := hd
 obtain ⟨j, e, hn⟩ := xnv _ _ _ hf
 refine ⟨j, ?_, hn⟩
 obtain ⟨l⟩ := cs
 simp only [Value.cells] at e
 have e : l = (jCs j).toList := e
 rw [e]; rfl
end
end Go.Proofs.YtapmdhejgnplaaaGreat
