/-
  Several texts in one: The document's token: at a backslash, at a point. The document's class.
-/
import Derived.Test.YtbifklibdkjbeaaGreatDoorMg26
import Derived.Deep.RegionHeld3
import Derived.BigQuiet
namespace Go.Proofs.YtbifklibdkjbeaaGreatDoor
open Go.RowKit
set_option linter.unusedVariables false
set_option linter.unusedSimpArgs false
set_option maxRecDepth 100000
set_option maxHeartbeats 16000000
theorem xjn (r : Int) (t : List Int) (b off cap : Nat) (w : World) (h : ISl w (.slice (some ⟨b, off, none⟩) (t.length + 1) cap) (r :: t)) (hl : t.length ≤ 200) (hr : r = 92) : Calls Tryz.prog 107 #[.slice (some ⟨b, off, none⟩) (t.length + 1) cap] w fun e w' => TokE w (tokP (r :: t)) e w' := by
 obtain ⟨_, _, e1, hcap, hc⟩ := h.cells
 simp only [List.length_cons] at e1 hcap hc
 injection e1 with e1 _ e2
 subst e1 e2
 obtain ⟨_, _, e1, hcc⟩ := hc (by omega)
 injection e1 with e1
 injection e1 with e1 e2
 subst e1 e2
 obtain ⟨c0, c1, c2⟩ := hcc 0 r rfl
 simp only [Nat.add_zero] at c0
 have x0 := xad c0 (.cells #[.int .i64 0, .int .i64 0, .slice none 0 0, .int .i64 0, .int .i64 0] 218)
 have HCC := xoo hcc
 have HI := xoo h
 have HP := xoo (xaq r t)
 generalize tokP (r :: t) = P at *
 clear hc hcc c0 h
 subst hr
 clear HI
 rcases t with _ | ⟨r2, t⟩
 · have E : Hid (P = none) := xoo (by rw [HP.out]; rfl)
   clear HP HCC
   simp only [List.length_nil] at *
   go_enter Tryz.func107, Tryz.ntmps107
   go_wp2_with fail
   refine bodyPost_ret (by simp [results, Tryz.results107, go_sem]; try rfl) rfl ?_
   rw [E.out]
   exact ⟨rfl, (xa.refl _ _).alloc _⟩
 have HP2 : Hid (P = (escP r2).map fun p => (.pt p.1, 2)) := xoo (by rw [HP.out]; rfl)
 clear HP
 obtain ⟨d0, d1, d2⟩ := HCC.out 1 r2 rfl
 have z0 := xad d0 (.cells #[.int .i64 0, .int .i64 0, .slice none 0 0, .int .i64 0, .int .i64 0] 218)
 have HB := xoo (fun W => xdW r2 W ⟨d1, d2⟩)
 have hI4 : decide ((t.length : Int) + 1 + 1 < 2) = false := by simp; omega
 have hI5 : (1 : Int) < (t.length : Int) + 1 + 1 := by omega
 simp only [List.length_cons] at *
 cases hb : escP r2 with
 | none =>
  have E : Hid (P = none) := xoo (by rw [HP2.out, hb]; rfl)
  rw [hb] at HB
  clear HP2 HCC hb d0
  go_enter Tryz.func107, Tryz.ntmps107
  go_wp2_with fail
  refine (HB.out _).mono ?_
  rintro e w3 ⟨rfl, K⟩
  have K3 := xoo K
  clear K
  obtain ⟨⟨y0, y1, y2, y3, y4⟩, q0, q1, q2, q3, q4⟩ := xbl K3.out
  go_wp2_with fail
  obtain ⟨wE, hWE⟩ : ∃ W, st5 (w3) w.heap.size (.int .i64 0) (.int .i64 0) (.slice none 0 0) (.int .i64 0) (.int .i64 0) = W := ⟨_, rfl⟩
  obtain ⟨r0, r1, r2, r3, r4, kE⟩ := xam (w3) w.heap.size y0 y1 y2 y3 y4 (.int .i64 0) (.int .i64 0) (.slice none 0 0) (.int .i64 0) (.int .i64 0)
  rw [hWE] at r0 r1 r2 r3 r4 kE
  unfold st5 at hWE
  rw [hWE]
  have HKE := xoo kE
  clear kE hWE y0 y1 y2 y3 y4
  refine bodyPost_ret (by simp [results, Tryz.results107, go_sem, r0, r1, r2, r3, r4]; try rfl) rfl ?_
  rw [E.out]
  exact xdd K3.out HKE.out
 | some q =>
  obtain ⟨s, is⟩ := q
  have HN := xoo (xi3 ⟨d1, d2⟩ hb)
  have E : Hid (P = some (.pt s, 2)) := xoo (by rw [HP2.out, hb]; rfl)
  rw [hb] at HB
  clear HP2 HCC hb d0
  go_enter Tryz.func107, Tryz.ntmps107
  go_wp2_with fail
  refine (HB.out _).mono ?_
  rintro e w3 ⟨u, rfl, hu⟩
  have K3 := xoo hu.2
  have HU := xoo hu.1
  obtain ⟨ua, uc, rfl⟩ := xac hu.1
  clear hu
  obtain ⟨⟨y0, y1, y2, y3, y4⟩, q0, q1, q2, q3, q4⟩ := xbl K3.out
  go_wp2_with fail
  obtain ⟨wE, hWE⟩ : ∃ W, st5 (w3) w.heap.size (.int .i64 0) (.int .i64 0) (.slice ua s.length uc) (.int .i64 0) (.int .i64 0) = W := ⟨_, rfl⟩
  obtain ⟨r0, r1, r2, r3, r4, kE⟩ := xam (w3) w.heap.size y0 y1 y2 y3 y4 (.int .i64 0) (.int .i64 0) (.slice ua s.length uc) (.int .i64 0) (.int .i64 0)
  rw [hWE] at r0 r1 r2 r3 r4 kE
  unfold st5 at hWE
  rw [hWE]
  have HKE := xoo kE
  clear kE hWE y0 y1 y2 y3 y4
  refine bodyPost_ret (by simp [results, Tryz.results107, go_sem, r0, r1, r2, r3, r4]; try rfl) rfl ?_
  rw [E.out]
  exact xei (v := ⟨0, 0, .slice ua s.length uc, 0, 0⟩) K3.out (xn8 HU.out (by have := HN.out.1; omega) HN.out.2) HKE.out
theorem xjo (r : Int) (t : List Int) (b off cap : Nat) (w : World) (h : ISl w (.slice (some ⟨b, off, none⟩) (t.length + 1) cap) (r :: t)) (hl : t.length ≤ 200) (hr : r ≠ 124 ∧ r ≠ 40 ∧ r ≠ 41 ∧ r ≠ 94 ∧ r ≠ 36 ∧ r ≠ 42 ∧ r ≠ 43 ∧ r ≠ 63 ∧ r ≠ 123 ∧ r ≠ 46 ∧ r ≠ 91 ∧ r ≠ 92 ∧ r ≠ 93 ∧ r ≠ 125) : Calls Tryz.prog 107 #[.slice (some ⟨b, off, none⟩) (t.length + 1) cap] w fun e w' => TokE w (tokP (r :: t)) e w' := by
 obtain ⟨_, _, e1, hcap, hc⟩ := h.cells
 simp only [List.length_cons] at e1 hcap hc
 injection e1 with e1 _ e2
 subst e1 e2
 obtain ⟨_, _, e1, hcc⟩ := hc (by omega)
 injection e1 with e1
 injection e1 with e1 e2
 subst e1 e2
 obtain ⟨c0, c1, c2⟩ := hcc 0 r rfl
 simp only [Nat.add_zero] at c0
 have x0 := xad c0 (.cells #[.int .i64 0, .int .i64 0, .slice none 0 0, .int .i64 0, .int .i64 0] 218)
 have HCC := xoo hcc
 have HI := xoo h
 have HP := xoo (xaq r t)
 generalize tokP (r :: t) = P at *
 clear hc hcc c0 h
 obtain ⟨h1, h2, h3, h4, h5, h6, h7, h8, h9, ha, hb, hc, hd, he⟩ := hr
 have E : Hid (P = some (.pt [(r, r)], 1)) := xoo (by rw [HP.out, if_neg (by omega), if_neg h6, if_neg h7, if_neg h8, if_neg h9, if_neg ha, if_neg hb, if_neg hc, if_neg (by omega)])
 have x00 : w.cell? ⟨b, off, none⟩ = some (.int .i64 r) := by simpa using (HCC.out 0 r rfl).1
 have hne : w.heap.size ≠ b := World.new_ne w ⟨b, off, none⟩ x00
 clear HP HI HCC
 have g0 : (r == 124) = false := beq_eq_false_iff_ne.2 h1
 have g1 : (r == 40) = false := beq_eq_false_iff_ne.2 h2
 have g2 : (r == 41) = false := beq_eq_false_iff_ne.2 h3
 have g3 : (r == 94) = false := beq_eq_false_iff_ne.2 h4
 have g4 : (r == 36) = false := beq_eq_false_iff_ne.2 h5
 have g5 : (r == 42) = false := beq_eq_false_iff_ne.2 h6
 have g6 : (r == 43) = false := beq_eq_false_iff_ne.2 h7
 have g7 : (r == 63) = false := beq_eq_false_iff_ne.2 h8
 have g8 : (r == 123) = false := beq_eq_false_iff_ne.2 h9
 have g9 : (r == 46) = false := beq_eq_false_iff_ne.2 ha
 have g10 : (r == 91) = false := beq_eq_false_iff_ne.2 hb
 have g11 : (r == 92) = false := beq_eq_false_iff_ne.2 hc
 have g12 : (r == 93) = false := beq_eq_false_iff_ne.2 hd
 have g13 : (r == 125) = false := beq_eq_false_iff_ne.2 he
 go_enter Tryz.func107, Tryz.ntmps107
 go_wp2_with fail
 go_region_held3 (fun w' => w'.cell? ⟨b, off, none⟩ = some (.int .i64 r)) (go_keep) (fail)
 all_goals go_wp2_with fail
 refine bodyPost_ret (by simp [results, Tryz.results107, go_sem]; try rfl) rfl ?_
 rw [E.out]
 have h9 := xcb (w.alloc (.cells #[.int .i64 0, .int .i64 0, .slice (some ⟨w.heap.size + 1, 0, none⟩) 1 1, .int .i64 0, .int .i64 0] 218)) r
 rw [show (w.alloc (.cells #[.int .i64 0, .int .i64 0, .slice (some ⟨w.heap.size + 1, 0, none⟩) 1 1, .int .i64 0, .int .i64 0] 218)).heap.size = w.heap.size + 1 by simp] at h9
 have h10 := xob (w := w) (by simp) h9.1 (by simp) (by intro p hp; simp at hp; subst hp; unfold in64; simp only; omega)
 have K := xa.drew (((xa.refl (fun _ => False) w).alloc (.cells #[.int .i64 0, .int .i64 0, .slice (some ⟨w.heap.size + 1, 0, none⟩) 1 1, .int .i64 0, .int .i64 0] 218)).alloc (.cells #[.int .i64 r, .int .i64 r] 287))
 exact ⟨⟨0, 0, .slice (some ⟨w.heap.size + 1, 0, none⟩) 1 1, 0, 0⟩, rfl, h10.keepsTo (xa.drew (xa.refl (fun _ => False) _)) (fun _ _ => id) (fun b hb => hb), K⟩
theorem xjq (HCL : xmI) (r : Int) (t : List Int) (v : Value) (w : World) (h : ISl w v (r :: t)) (hl : t.length ≤ 200) : Calls Tryz.prog 107 #[v] w fun e w' => TokE w (tokP (r :: t)) e w' := by
 obtain ⟨a, cap, rfl, _, hc⟩ := h.cells
 obtain ⟨b, off, rfl, _⟩ := hc (by simp)
 by_cases h1 : r = 124 ∨ r = 40 ∨ r = 41 ∨ r = 94 ∨ r = 36
 · exact xkK r t b off cap w h hl h1
 by_cases h2 : r = 42 ∨ r = 43 ∨ r = 63
 · exact xkM r t b off cap w h hl h2
 by_cases h3 : r = 46
 · exact xjp r t b off cap w h hl h3
 by_cases h4 : r = 93 ∨ r = 125
 · exact xkL r t b off cap w h hl h4
 by_cases h5 : r = 123
 · exact xkO r t b off cap w h hl h5
 by_cases h6 : r = 91
 · exact xkN r t b off cap w h hl HCL h6
 by_cases h7 : r = 92
 · exact xjn r t b off cap w h hl h7
 exact xjo r t b off cap w h hl (by omega)
theorem xd5 (w : World) (x y : Int) : ROwn w (w.alloc (.cells #[.int .i64 x, .int .i64 y] 287)) (.slice (some ⟨w.heap.size, 0, none⟩) 1 1) [(x, y)] :=
 ⟨⟨rfl, Or.inr ⟨w.heap.size, 1, _, rfl, Nat.le_refl _, heap_alloc_new w _, Nat.le_refl _, by unfold maxLen; decide, rfl, rfl⟩⟩, (xa.refl _ _).alloc _⟩
theorem xbC {w : World} {base : Nat} {v : Value} {x y : Int} (h : w.ownsRow base 287 2 v [(x, y)].length (cellsOf 2 encR [(x, y)])) : ∃ g cap, v = .slice (some ⟨g, 0, none⟩) 1 cap ∧ w.cell? ⟨g, 0, none⟩ = some (.int .i64 x) ∧ w.cell? ⟨g, 1, none⟩ = some (.int .i64 y) := by
 obtain ⟨g, gc, rfl, hg1, hg2⟩ := xbB h (by simp)
 exact ⟨g, gc, rfl, by rw [h.cellAt 0 (by simp)]; rfl, by rw [h.cellAt 1 (by simp)]; rfl⟩
theorem xjz (l : List Int) (b off cap : Nat) (w : World) (h : ISl w (.slice (some ⟨b, off, none⟩) l.length cap) l) (hl : l.length ≤ 200) (h94 : l.head? = some 94) : Calls Tryz.prog 149 #[.slice (some ⟨b, off, none⟩) l.length cap] w fun e w' => ClE w (clP l) e w' := by
 obtain ⟨a, cap', e1, hcap, hc⟩ := h.cells
 injection e1 with e1 _ e2
 subst e1 e2
 have HI := xoo h
 clear h
 have hpos : 0 < l.length := by cases l <;> simp_all
 obtain ⟨b', off', e1, hcc⟩ := hc hpos
 injection e1 with e1
 injection e1 with e1 e2
 subst e1 e2
 obtain ⟨c0, c1, c2⟩ := hcc 0 94 (by rw [← List.head?_eq_getElem?]; exact h94)
 simp only [Nat.add_zero] at c0
 have HCC := xoo hcc
 have HC : Hid (clP l = (clG (l.length + 1) true (l.drop 1) [] 1).map fun p => (notL p.1, p.2)) := xoo (by unfold clP; rw [if_pos h94])
 generalize clP l = P at *
 obtain ⟨G, HG'⟩ : ∃ G, clG (l.length + 1) true (l.drop 1) [] 1 = G := ⟨_, rfl⟩
 rw [HG'] at HC
 have HG := xoo HG'
 clear HG' hc hcc h94
 have hp1 : decide ((0 : Int) < (l.length : Int)) = true := by simpa using hpos
 have hp2 : (0 : Int) < (l.length : Int) := by omega
 go_enter Tryz.func149, Tryz.ntmps149
 go_wp2_with fail
 go_loopw [4, 6, 7] (fun atv av pv wr => xmH G l w atv av pv wr) (fun atv _ _ _ => l.length + 1 - (intOf atv).toNat)
 case atStart => exact ⟨1, 0, l.length + 1, [], rfl, rfl, by first | omega | simp, by omega, by omega, by simp, World.ownsRow_nil _ _ _ _, xa.refl _ _, HG.out, by simp⟩
 case round =>
  obtain ⟨i, p, n, all, rfl, rfl, hi, hpi, hn, hal, hown, hk, hg, h64⟩ := hrel
  have hsz := hk.size
  obtain ⟨m, rfl⟩ : ∃ m, n = m + 1 := ⟨n - 1, by omega⟩
  obtain ⟨ava, avc, rfl⟩ := xac hown
  have HOW := xoo hown
  have HK := xoo hk
  have Hg := xoo hg
  have HIr := xoo (HI.out.keep hk)
  clear hown hk hg
  have hI3 : (0 : Int) ≤ (i : Int) := by omega
  have hI4 : (i : Int) ≤ (l.length : Int) := by omega
  have hI5 : (i : Int) ≤ (cap : Int) := by omega
  by_cases hil : i < l.length
  · obtain ⟨x, hx⟩ : ∃ x, l[i]? = some x := ⟨_, List.getElem?_eq_getElem hil⟩
    have hxc := HK.out.cell (HCC.out i x hx).1 id
    have Hhd : Hid ((l.drop i).head? = some x) := xoo (by rw [List.head?_drop, hx])
    have hid : decide ((i : Int) < (l.length : Int)) = true := by simp; omega
    have hid0 : (i : Int) < (l.length : Int) := by omega
    clear hx
    by_cases hA : x = 93 ∧ 0 < p
    · obtain ⟨rfl, hp0⟩ := hA
      have hpd : decide ((0 : Int) < (p : Int)) = true := by simpa using hp0
      have E : Hid (G = some (all, i + 1)) := xoo (by rw [← Hg.out]; unfold clG; rw [if_pos ⟨by simp; omega, Hhd.out⟩])
      have HM := xoo (fun W v' hW => xeq all v' true W hW (by omega))
      have HRS := xoo (show RSl wr (.slice ava all.length avc) all from ⟨SlOf.ofOwn HOW.out (by omega), h64⟩)
      go_wp2_with fail
      refine (HM.out _ _ HRS.out).mono ?_
      rintro e w4 ⟨u4', rfl, hu4⟩
      have HU4 := xoo hu4
      obtain ⟨va, vc, rfl⟩ := xac hu4.1
      clear hu4
      go_wp2_with fail
      go_ret2
      rw [HC.out, E.out]
      exact ⟨_, rfl, xdh HU4.out.1 hsz, HK.out.trans HU4.out.2⟩
    have hA1 : (decide (p = 0) = false ∧ (l.drop i).head? = some 93) ↔ False := by
     rw [Hhd.out]; simp; intro h1 h2; exact hA ⟨h2, by omega⟩
    have Hg2 : Hid ((match ptP (l.drop i) with
     | none => none
     | some (s, is, a) =>
      if is = true ∧ ((l.drop i).drop a).head? = some 45 then
       match ptP ((l.drop i).drop (a + 1)) with
       | none => none
       | some (t, too, b) => if too = false ∨ lo1 t < lo1 s then none else clG m false ((l.drop i).drop (a + 1 + b)) (all ++ [(lo1 s, lo1 t)]) (i + a + 1 + b)
      else clG m false ((l.drop i).drop a) (all ++ s) (i + a)) = G) := xoo (by
       have e := Hg.out; unfold clG at e; rw [if_neg (by rw [hA1]; exact id)] at e; exact e)
    have hI2 := HIr.out.dropI i (by omega) (by omega)
    have HRP := xoo (xaN (l.drop i) _ wr hI2)
    have Hrng := xoo (fun s is k (h : ptP (l.drop i) = some (s, is, k)) => xf4 hI2.2 h)
    have Hloc := xoo (fun s is k (h : ptP (l.drop i) = some (s, is, k)) => xbA h)
    clear hI2
    by_cases hx93 : x = 93
    · subst hx93
      have hp0 : ¬ 0 < p := fun h => hA ⟨rfl, h⟩
      have hpd : decide ((0 : Int) < (p : Int)) = false := by simp; omega
      have hPN : ptP (l.drop i) = none := by
       have e := Hhd.out
       cases hd : l.drop i with
       | nil => rfl
       | cons y t =>
        rw [hd] at e; simp at e; subst e
        rw [xbI, if_neg (by decide), if_pos (by decide +kernel)]
      rw [hPN] at HRP Hg2
      have E : Hid (G = none) := xoo Hg2.out.symm
      clear Hg2 hPN
      go_wp2_with fail
      refine HRP.out.mono ?_
      rintro e w3 ⟨rfl, K⟩
      have K3 := xoo K
      clear K
      go_wp2_with fail
      go_ret2
      rw [HC.out, E.out]
      exact ⟨rfl, HK.out.trans K3.out⟩
    have gx : (x == 93) = false := beq_eq_false_iff_ne.2 hx93
    cases hP : ptP (l.drop i) with
    | none =>
     rw [hP] at HRP Hg2
     have E : Hid (G = none) := xoo Hg2.out.symm
     clear Hg2 hP
     go_wp2_with fail
     refine HRP.out.mono ?_
     rintro e w3 ⟨rfl, K⟩
     have K3 := xoo K
     clear K
     go_wp2_with fail
     go_ret2
     rw [HC.out, E.out]
     exact ⟨rfl, HK.out.trans K3.out⟩
    | some q =>
     obtain ⟨s, is, k⟩ := q
     obtain ⟨k1, k2, _⟩ := Hloc.out s is k hP
     obtain ⟨r1, r2⟩ := Hrng.out s is k hP
     rw [List.length_drop] at k2
     rw [hP] at HRP Hg2
     dsimp only at Hg2
     have H64s := xoo r2
     have gk : ((k : Int) == 0) = false := beq_eq_false_iff_ne.2 (by omega)
     clear r2 Hloc Hrng
     cases is with
     | false =>
      have Hg3 : Hid (clG m false (l.drop (i + k)) (all ++ s) (i + k) = G) := xoo (by have e := Hg2.out; rw [if_neg (by simp), List.drop_drop] at e; exact e)
      clear Hg2 hP
      go_wp2_with fail
      refine HRP.out.mono ?_
      rintro e w3 ⟨u, rfl, hu⟩
      have HU := xoo hu
      obtain ⟨ua, uc, rfl⟩ := xac hu.1
      clear hu
      have KW : Hid (xa (fun _ => False) w w3) := xoo (HK.out.trans HU.out.2)
      have HO3 : Hid (w3.ownsRow w.heap.size 287 2 (.slice ava all.length avc) all.length (cellsOf 2 encR all)) := xoo (xae HOW.out HU.out.2 (fun _ _ h => h))
      have HSS : Hid (SlOf 2 encR w3 (.slice ua s.length uc) s) := xoo (SlOf.ofOwn HU.out.1 (by omega))
      have hsz3 := KW.out.size
      go_wp2_with (at_builtin; refine xaw rfl (.tmp 113) (.tmp 114) rfl w.heap.size _ _ _ rfl HO3.out _ s rfl HSS.out ?f1 ?f2 ?_)
      case f1 => first | omega | (simp; omega)
      case f2 => omega
      intro v4 w4 hown4 hgrow4
      have KW4 : Hid (xa (fun _ => False) w w4) := xoo (KW.out.grown hgrow4 (fun b hb => Or.inr (xaa HO3.out b hb)))
      have HO4 := xoo hown4
      clear hown4 hgrow4
      go_wp2_with fail
      go_roundw
      case rel => exact xcC (i := i) (k := k) (p := p) (m := m) (by omega) (by omega) hpi hn hal r1 h64 H64s.out KW4.out (by rw [← Hg3.out]) (by first | rfl | omega | (simp; done)) (by rfl) HO4.out (by go_num) (by go_num)
      case measure => simp [intOf]; omega
     | true =>
      obtain ⟨x1, rfl⟩ := xf5 hP
      have Hg4 : Hid ((if ((l.drop (i + k)).head? = some 45) then
       match ptP (l.drop (i + k + 1)) with
       | none => none
       | some (t, too, b) => if too = false ∨ lo1 t < x1 then none else clG m false (l.drop (i + (k + 1 + b))) (all ++ [(x1, lo1 t)]) (i + (k + 1 + b))
      else clG m false (l.drop (i + k)) (all ++ [(x1, x1)]) (i + k)) = G) := xoo (by
       have e := Hg2.out
       simp only [List.drop_drop, true_and, lo1, List.head?_cons, Option.getD_some] at e ⊢
       simp only [Nat.add_assoc] at e ⊢
       exact e)
      clear Hg2 hP
      by_cases hat : i + k < l.length
      · obtain ⟨y, hy⟩ : ∃ y, l[i + k]? = some y := ⟨_, List.getElem?_eq_getElem hat⟩
        rw [List.head?_drop, hy] at Hg4
        have hyc := HK.out.cell (HCC.out (i + k) y hy).1 id
        have hat1 : decide ((i : Int) + (k : Int) < (l.length : Int)) = true := by simp; omega
        have hat2 : (i : Int) + (k : Int) < (l.length : Int) := by omega
        clear hy
        by_cases hy45 : y = 45
        · subst hy45
          have hJ3 : (0 : Int) ≤ (i : Int) + (k : Int) + 1 := by omega
          have hJ4 : (i : Int) + (k : Int) + 1 ≤ (l.length : Int) := by omega
          have hJ5 : (i : Int) + (k : Int) + 1 ≤ (cap : Int) := by omega
          have Hg5 : Hid ((match ptP (l.drop (i + k + 1)) with
           | none => none
           | some (t, too, b) => if too = false ∨ lo1 t < x1 then none else clG m false (l.drop (i + (k + 1 + b))) (all ++ [(x1, lo1 t)]) (i + (k + 1 + b))) = G) := xoo (by have e := Hg4.out; rw [if_pos rfl] at e; exact e)
          clear Hg4
          by_cases hlt : i + k + 1 < l.length
          · have hcn : ¬ cap = i + k + 1 := by omega
            have HRP2 := xoo (fun W (K : xa (fun _ => False) wr W) => xaN (l.drop (i + k + 1)) _ W ((HIr.out.keep K).dropI (i + k + 1) (by omega) hcn))
            have Hrng2 := xoo (fun s is b (h : ptP (l.drop (i + k + 1)) = some (s, is, b)) => xf4 (HIr.out.dropI (i + k + 1) (by omega) hcn).2 h)
            cases hP2 : ptP (l.drop (i + k + 1)) with
            | none =>
             rw [hP2] at HRP2 Hg5
             have E : Hid (G = none) := xoo Hg5.out.symm
             clear Hg5 hP2 Hrng2
             go_wp2_with fail
             refine HRP.out.mono ?_
             rintro e w3 ⟨u, rfl, hu⟩
             have HU := xoo hu
             have hyc := hu.2.cell hyc id
             obtain ⟨ua, uc, rfl⟩ := xac hu.1
             clear hu
             go_wp2_with fail
             refine (HRP2.out w3 HU.out.2).mono ?_
             rintro e w5 ⟨rfl, K⟩
             have K5 := xoo K
             clear K
             go_wp2_with fail
             go_quiet (fail)
             go_wp2_with fail
             go_ret2
             rw [HC.out, E.out]
             exact ⟨rfl, ((HK.out.trans HU.out.2).trans K5.out).drawN _⟩
            | some q2 =>
             obtain ⟨t, too, b2⟩ := q2
             obtain ⟨b1, b3, _⟩ := xbA hP2
             rw [List.length_drop] at b3
             have Hr2 := xoo (Hrng2.out _ _ _ hP2).2
             have gb : ((b2 : Int) == 0) = false := beq_eq_false_iff_ne.2 (by omega)
             rw [hP2] at HRP2 Hg5
             dsimp only at Hg5
             cases too with
             | false =>
              have E : Hid (G = none) := xoo (by have e := Hg5.out; rw [if_pos (Or.inl rfl)] at e; exact e.symm)
              clear Hg5 hP2 Hrng2 Hr2
              go_wp2_with fail
              refine HRP.out.mono ?_
              rintro e w3 ⟨u, rfl, hu⟩
              have HU := xoo hu
              have hyc := hu.2.cell hyc id
              obtain ⟨ua, uc, rfl⟩ := xac hu.1
              clear hu
              go_wp2_with fail
              refine (HRP2.out w3 HU.out.2).mono ?_
              rintro e w5 ⟨u5, rfl, hu5⟩
              have HU5 := xoo hu5
              obtain ⟨ta, tc, rfl⟩ := xac hu5.1
              clear hu5
              go_wp2_with fail
              go_quiet (fail)
              go_wp2_with fail
              go_ret2
              rw [HC.out, E.out]
              exact ⟨rfl, ((HK.out.trans HU.out.2).trans HU5.out.2).drawN _⟩
             | true =>
              obtain ⟨x2, rfl⟩ := xf5 hP2
              have Hg6 : Hid ((if x2 < x1 then none else clG m false (l.drop (i + (k + 1 + b2))) (all ++ [(x1, x2)]) (i + (k + 1 + b2))) = G) := xoo (by
               have e := Hg5.out
               simp only [lo1, List.head?_cons, Option.getD_some, Bool.true_eq_false, false_or] at e
               exact e)
              clear hP2 Hrng2 Hg5
              by_cases hlo : x2 < x1
              · have gl : decide (x2 < x1) = true := by simpa using hlo
                have E : Hid (G = none) := xoo (by have e := Hg6.out; rw [if_pos hlo] at e; exact e.symm)
                clear Hg6 Hr2
                go_wp2_with fail
                refine HRP.out.mono ?_
                rintro e w3 ⟨u, rfl, hu⟩
                have HU := xoo hu
                have hyc := hu.2.cell hyc id
                obtain ⟨ua, uc, rfl⟩ := xac hu.1
                clear hu
                go_wp2_with fail
                refine (HRP2.out w3 HU.out.2).mono ?_
                rintro e w5 ⟨u5, rfl, hu5⟩
                have HU5 := xoo hu5
                obtain ⟨tg, tc, rfl, q1, q2⟩ := xbC hu5.1
                obtain ⟨sg, sc, hs1, q3, q4⟩ := xbC (xae HU.out.1 hu5.2 (fun _ _ h => h))
                injection hs1 with hs1 _ hs2
                subst hs1 hs2
                clear hu5
                go_wp2_with fail
                go_quiet (fail)
                go_wp2_with fail
                go_ret2
                rw [HC.out, E.out]
                exact ⟨rfl, ((HK.out.trans HU.out.2).trans HU5.out.2).drawN _⟩
              have gl : decide (x2 < x1) = false := by simpa using hlo
              have Hg3 : Hid (clG m false (l.drop (i + (k + 1 + b2))) (all ++ [(x1, x2)]) (i + (k + 1 + b2)) = G) := xoo (by have e := Hg6.out; rw [if_neg hlo] at e; exact e)
              have H64t : Hid (∀ q ∈ [(x1, x2)], in64 q.1 ∧ in64 q.2) := xoo (by
               intro q hq
               obtain rfl : q = (x1, x2) := by simpa using hq
               exact ⟨(H64s.out (x1, x1) (by simp)).1, (Hr2.out (x2, x2) (by simp)).1⟩)
              clear Hg6 Hr2
              go_wp2_with fail
              refine HRP.out.mono ?_
              rintro e w3 ⟨u, rfl, hu⟩
              have HU := xoo hu
              have hyc := hu.2.cell hyc id
              obtain ⟨ua, uc, rfl⟩ := xac hu.1
              clear hu
              go_wp2_with fail
              refine (HRP2.out w3 HU.out.2).mono ?_
              rintro e w5 ⟨u5, rfl, hu5⟩
              have HU5 := xoo hu5
              obtain ⟨tg, tc, rfl, q1, q2⟩ := xbC hu5.1
              obtain ⟨sg, sc, hs1, q3, q4⟩ := xbC (xae HU.out.1 hu5.2 (fun _ _ h => h))
              injection hs1 with hs1 _ hs2
              subst hs1 hs2
              have KX := xoo (HU.out.2.trans hu5.2)
              clear hu5
              go_wp2_with fail
              go_quiet (fail)
              have KX := xoo (KX.out.drawN nq)
              have q1 : (w5.drewN nq).cell? ⟨tg, 0, none⟩ = some (.int .i64 x2) := q1
              have q3 : (w5.drewN nq).cell? ⟨sg, 0, none⟩ = some (.int .i64 x1) := q3
              generalize w5.drewN nq = w6 at *
              go_wp2_with fail
              go_region_held3 (fun w' => w'.cell? ⟨tg, 0, none⟩ = some (.int .i64 x2) ∧ w'.cell? ⟨sg, 0, none⟩ = some (.int .i64 x1)) (first | exact ⟨by go_keep, by go_keep⟩ | go_keep) (fail)
              have KX := xoo ((KX.out.trans (xd5 w6 x1 x2).2).drew)
              have HS9 := xoo (SlOf.ofOwn ((xd5 w6 x1 x2).1.drew) (by simp))
              generalize w6.heap.size = s6 at *
              generalize (w6.alloc (.cells #[.int .i64 x1, .int .i64 x2] 287)).drew = w7 at *
              clear q1 q3
              have KW : Hid (xa (fun _ => False) w w7) := xoo (HK.out.trans KX.out)
              have HO3 : Hid (w7.ownsRow w.heap.size 287 2 (.slice ava all.length avc) all.length (cellsOf 2 encR all)) := xoo (xae HOW.out KX.out (fun _ _ h => h))
              have HSS : Hid (SlOf 2 encR w7 (.slice (some ⟨s6, 0, none⟩) 1 1) [(x1, x2)]) := xoo (HS9.out)
              have hsz3 := KW.out.size
              go_wp2_with (at_builtin; refine xaw rfl (.tmp 113) (.tmp 114) rfl w.heap.size _ _ _ rfl HO3.out _ [(x1, x2)] rfl HSS.out ?f1 ?f2 ?_)
              case f1 => first | omega | (simp; omega)
              case f2 => omega
              intro v4 w4 hown4 hgrow4
              have KW4 : Hid (xa (fun _ => False) w w4) := xoo (KW.out.grown hgrow4 (fun b hb => Or.inr (xaa HO3.out b hb)))
              have HO4 := xoo hown4
              clear hown4 hgrow4
              go_wp2_with fail
              go_roundw
              case rel => exact xcC (i := i) (k := (k + 1 + b2)) (p := p) (m := m) (by omega) (by omega) hpi hn hal (by simp) h64 H64t.out KW4.out (by rw [← Hg3.out]) (by first | rfl | omega | (simp; done)) (by rfl) HO4.out (by go_num) (by go_num)
              case measure => simp [intOf]; omega
          have hN2 : ptP (l.drop (i + k + 1)) = none := by rw [List.drop_eq_nil_of_le (by omega)]; rfl
          rw [hN2] at Hg5
          have E : Hid (G = none) := xoo Hg5.out.symm
          have hll : l.length = i + k + 1 := by omega
          clear Hg5 hN2
          by_cases hcn : cap = i + k + 1
          · have HRP2 := xoo (fun W (K : xa (fun _ => False) wr W) => xaN [] (.slice (some ⟨b, off, none⟩) 0 0) W ⟨⟨_, 0, rfl, ⟨Nat.le_refl _, (fun h => by cases h)⟩, by simp, fun h => by simp at h⟩, fun r hr => by cases hr⟩)
            rw [show ptP [] = none from rfl] at HRP2
            obtain rfl := hcn
            have Hll := xoo hll
            clear hll
            go_wp2_with fail
            refine HRP.out.mono ?_
            rintro e w3 ⟨u, rfl, hu⟩
            have HU := xoo hu
            have hyc := hu.2.cell hyc id
            obtain ⟨ua, uc, rfl⟩ := xac hu.1
            clear hu
            go_wp2_with fail
            refine (HRP2.out w3 HU.out.2).mono ?_
            rintro e w5 ⟨rfl, K⟩
            have K5 := xoo K
            clear K
            go_wp2_with fail
            go_quiet (fail)
            go_wp2_with fail
            go_ret2
            rw [HC.out, E.out]
            exact ⟨rfl, ((HK.out.trans HU.out.2).trans K5.out).drawN _⟩
          have HRP2 := xoo (fun W (K : xa (fun _ => False) wr W) => xaN (l.drop (i + k + 1)) _ W ((HIr.out.keep K).dropI (i + k + 1) (by omega) hcn))
          rw [show ptP (l.drop (i + k + 1)) = none by rw [List.drop_eq_nil_of_le (by omega)]; rfl] at HRP2
          clear hll
          go_wp2_with fail
          refine HRP.out.mono ?_
          rintro e w3 ⟨u, rfl, hu⟩
          have HU := xoo hu
          have hyc := hu.2.cell hyc id
          obtain ⟨ua, uc, rfl⟩ := xac hu.1
          clear hu
          go_wp2_with fail
          refine (HRP2.out w3 HU.out.2).mono ?_
          rintro e w5 ⟨rfl, K⟩
          have K5 := xoo K
          clear K
          go_wp2_with fail
          go_quiet (fail)
          go_wp2_with fail
          go_ret2
          rw [HC.out, E.out]
          exact ⟨rfl, ((HK.out.trans HU.out.2).trans K5.out).drawN _⟩
        have gy : (y == 45) = false := beq_eq_false_iff_ne.2 hy45
        generalize hS : [(x1, x1)] = s at *
        have Hg3 : Hid (clG m false (l.drop (i + k)) (all ++ s) (i + k) = G) := xoo (by have e := Hg4.out; rw [if_neg (by intro e; exact hy45 (Option.some.inj e))] at e; exact e)
        clear Hg4 hS
        go_wp2_with fail
        refine HRP.out.mono ?_
        rintro e w3 ⟨u, rfl, hu⟩
        have HU := xoo hu
        have hyc := hu.2.cell hyc id
        obtain ⟨ua, uc, rfl⟩ := xac hu.1
        clear hu
        have KW : Hid (xa (fun _ => False) w w3) := xoo (HK.out.trans HU.out.2)
        have HO3 : Hid (w3.ownsRow w.heap.size 287 2 (.slice ava all.length avc) all.length (cellsOf 2 encR all)) := xoo (xae HOW.out HU.out.2 (fun _ _ h => h))
        have HSS : Hid (SlOf 2 encR w3 (.slice ua s.length uc) s) := xoo (SlOf.ofOwn HU.out.1 (by omega))
        have hsz3 := KW.out.size
        go_wp2_with (at_builtin; refine xaw rfl (.tmp 113) (.tmp 114) rfl w.heap.size _ _ _ rfl HO3.out _ s rfl HSS.out ?f1 ?f2 ?_)
        case f1 => first | omega | (simp; omega)
        case f2 => omega
        intro v4 w4 hown4 hgrow4
        have KW4 : Hid (xa (fun _ => False) w w4) := xoo (KW.out.grown hgrow4 (fun b hb => Or.inr (xaa HO3.out b hb)))
        have HO4 := xoo hown4
        clear hown4 hgrow4
        go_wp2_with fail
        go_roundw
        case rel => exact xcC (i := i) (k := k) (p := p) (m := m) (by omega) (by omega) hpi hn hal r1 h64 H64s.out KW4.out (by rw [← Hg3.out]) (by first | rfl | omega | (simp; done)) (by rfl) HO4.out (by go_num) (by go_num)
        case measure => simp [intOf]; omega
      have hat1 : decide ((i : Int) + (k : Int) < (l.length : Int)) = false := by simp; omega
      generalize hS : [(x1, x1)] = s at *
      have Hg3 : Hid (clG m false (l.drop (i + k)) (all ++ s) (i + k) = G) := xoo (by have e := Hg4.out; have hn0 : l.drop (i + k) = [] := List.drop_eq_nil_of_le (by omega); rw [hn0] at e ⊢; simpa using e)
      clear Hg4 hS
      go_wp2_with fail
      refine HRP.out.mono ?_
      rintro e w3 ⟨u, rfl, hu⟩
      have HU := xoo hu
      obtain ⟨ua, uc, rfl⟩ := xac hu.1
      clear hu
      have KW : Hid (xa (fun _ => False) w w3) := xoo (HK.out.trans HU.out.2)
      have HO3 : Hid (w3.ownsRow w.heap.size 287 2 (.slice ava all.length avc) all.length (cellsOf 2 encR all)) := xoo (xae HOW.out HU.out.2 (fun _ _ h => h))
      have HSS : Hid (SlOf 2 encR w3 (.slice ua s.length uc) s) := xoo (SlOf.ofOwn HU.out.1 (by omega))
      have hsz3 := KW.out.size
      go_wp2_with (at_builtin; refine xaw rfl (.tmp 113) (.tmp 114) rfl w.heap.size _ _ _ rfl HO3.out _ s rfl HSS.out ?f1 ?f2 ?_)
      case f1 => first | omega | (simp; omega)
      case f2 => omega
      intro v4 w4 hown4 hgrow4
      have KW4 : Hid (xa (fun _ => False) w w4) := xoo (KW.out.grown hgrow4 (fun b hb => Or.inr (xaa HO3.out b hb)))
      have HO4 := xoo hown4
      clear hown4 hgrow4
      go_wp2_with fail
      go_roundw
      case rel => exact xcC (i := i) (k := k) (p := p) (m := m) (by omega) (by omega) hpi hn hal r1 h64 H64s.out KW4.out (by rw [← Hg3.out]) (by first | rfl | omega | (simp; done)) (by rfl) HO4.out (by go_num) (by go_num)
      case measure => simp [intOf]; omega
  obtain rfl : i = l.length := by omega
  have hid : decide ((l.length : Int) < (l.length : Int)) = false := by simp
  have E : Hid (G = none) := xoo (by
   have e := Hg.out
   unfold clG at e
   rw [List.drop_eq_nil_of_le (Nat.le_refl _), if_neg (by simp)] at e
   exact e.symm)
  by_cases hcn : cap = l.length
  · have HRP := xoo (fun W => xaN [] (.slice (some ⟨b, off, none⟩) 0 0) W ⟨⟨_, 0, rfl, ⟨Nat.le_refl _, (fun h => by cases h)⟩, by simp, fun h => by simp at h⟩, fun r hr => by cases hr⟩)
    rw [show ptP [] = none from rfl] at HRP
    obtain rfl := hcn
    go_wp2_with fail
    refine (HRP.out _).mono ?_
    rintro e w3 ⟨rfl, K⟩
    have K3 := xoo K
    clear K
    go_wp2_with fail
    go_ret2
    rw [HC.out, E.out]
    exact ⟨rfl, HK.out.trans K3.out⟩
  have HRP := xoo (xaN (l.drop l.length) _ wr (HIr.out.dropI l.length (Nat.le_refl _) hcn))
  rw [show ptP (l.drop l.length) = none by rw [List.drop_eq_nil_of_le (Nat.le_refl _)]; rfl, Nat.sub_self] at HRP
  go_wp2_with fail
  refine HRP.out.mono ?_
  rintro e w3 ⟨rfl, K⟩
  have K3 := xoo K
  clear K
  go_wp2_with fail
  go_ret2
  rw [HC.out, E.out]
  exact ⟨rfl, HK.out.trans K3.out⟩
end Go.Proofs.YtbifklibdkjbeaaGreatDoor
