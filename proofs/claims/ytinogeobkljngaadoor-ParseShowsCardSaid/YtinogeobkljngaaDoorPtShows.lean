/-
  The law on what is shown: its walk.
-/
import Derived.Test.YtinogeobkljngaaDoorPtAwake
import Derived.Test.YtinogeobkljngaaDoorPaWf
import Derived.Test.YtinogeobkljngaaDoorPaSmR
import Derived.Deep.RegionHeld3
namespace Go.Proofs.YtinogeobkljngaaDoor
open Go.RowKit
set_option linter.unusedVariables false
set_option linter.unusedSimpArgs false
set_option maxRecDepth 100000

theorem shows_long (l m : List UInt8) (w : World) (ht : TabW w) (hl : l.length ≤ 9223372036854775807) (hm : m.length ≤ 9223372036854775807) (h : 200 < l.length ∨ 200 < m.length) :
    Calls Tryd.prog 5 #[.string ⟨l.toArray⟩, .string ⟨m.toArray⟩] w fun e w' => e = .returned (.bool true) ∧ Keeps (fun _ => False) w w' := by
  have HT := Lib.hid ht
  clear ht
  rcases (by omega : 200 < l.length ∨ (¬ 200 < l.length ∧ 200 < m.length)) with h1 | ⟨h1, h2⟩
  · have g0 : decide ((200 : Int) < (l.length : Int)) = true := by simp; omega
    have g1 : decide (200 < l.length) = true := by simpa using h1
    go_enter Tryd.func5, Tryd.ntmps5
    go_wp2_with fail
    refine (parseAwake_any _ HT.out).mono ?_
    rintro e w1 ⟨rfl, k1⟩
    go_wp2_with fail
    refine (parseAwake_any _ (HT.out.keeps k1)).mono ?_
    rintro e w2 ⟨rfl, k2⟩
    go_wp2_with fail
    go_ret
    exact ⟨rfl, k1.trans k2⟩
  · have g0 : decide ((200 : Int) < (l.length : Int)) = false := by simp; omega
    have g1 : decide (200 < l.length) = false := by simpa using h1
    have g2 : decide ((200 : Int) < (m.length : Int)) = true := by simp; omega
    have g3 : decide (200 < m.length) = true := by simpa using h2
    go_enter Tryd.func5, Tryd.ntmps5
    go_wp2_with fail
    refine (parseAwake_any _ HT.out).mono ?_
    rintro e w1 ⟨rfl, k1⟩
    go_wp2_with fail
    refine (parseAwake_any _ (HT.out.keeps k1)).mono ?_
    rintro e w2 ⟨rfl, k2⟩
    go_wp2_with fail
    go_ret
    exact ⟨rfl, k1.trans k2⟩
set_option maxHeartbeats 16000000 in
theorem shows_short (l m : List UInt8) (w : World) (ht : TabW w) (hl : l.length ≤ 200) (hm : m.length ≤ 200) :
    Calls Tryd.prog 5 #[.string ⟨l.toArray⟩, .string ⟨m.toArray⟩] w fun e w' => e = .returned (.bool true) ∧ Keeps (fun _ => False) w w' := by
  have HT := Lib.hid ht
  clear ht
  have g0 : decide ((200 : Int) < (l.length : Int)) = false := by simp; omega
  have g1 : decide (200 < l.length) = false := by simp; omega
  have g2 : decide ((200 : Int) < (m.length : Int)) = false := by simp; omega
  have g3 : decide (200 < m.length) = false := by simp; omega
  have HPl := Lib.hid (fun W => parse_any l W (by omega))
  have HPm := Lib.hid (fun W => parse_any m W (by omega))
  have hgl := parse_good l
  have hgm := parse_good m
  obtain ⟨ta, ea, hpa⟩ : ∃ a b, parseP l = (a, b) := ⟨_, _, rfl⟩
  obtain ⟨tb0, eb, hpb⟩ : ∃ a b, parseP m = (a, b) := ⟨_, _, rfl⟩
  rw [hpa] at HPl hgl
  rw [hpb] at HPm hgm
  have HGl := Lib.hid hgl
  have HGm := Lib.hid hgm
  clear hpa hpb hgl hgm
  go_enter Tryd.func5, Tryd.ntmps5
  go_wp2_with fail
  refine (parseAwake_any _ HT.out).mono ?_
  rintro e w1 ⟨rfl, k1⟩
  have K1 := Lib.hid k1
  clear k1
  go_wp2_with fail
  refine (HPl.out _).mono ?_
  rintro e w2 ⟨v, rfl, hv, k2⟩
  obtain ⟨o, a1, n1, c1, m1, x, a2, n2, cc2, rfl⟩ := NV.form hv
  have HV := Lib.hid hv
  have K2 := Lib.hid (K1.out.trans k2)
  clear hv k2
  unfold NV.val
  go_wp2_with fail
  refine (HPm.out _).mono ?_
  rintro e w3 ⟨v', rfl, hv', k3⟩
  obtain ⟨o', a1', n1', c1', m1', x', a2', n2', cc2', rfl⟩ := NV.form hv'
  have z0 : w3.cell? ⟨w2.heap.size, 0, none⟩ = some (.int .i64 o) := k3.cell (by simp [go_sem]) id
  have z1 : w3.cell? ⟨w2.heap.size, 1, none⟩ = some (.slice a1 n1 c1) := k3.cell (by simp [go_sem]) id
  have z2 : w3.cell? ⟨w2.heap.size, 2, none⟩ = some (.int .i64 m1) := k3.cell (by simp [go_sem]) id
  have z3 : w3.cell? ⟨w2.heap.size, 3, none⟩ = some (.int .i64 x) := k3.cell (by simp [go_sem]) id
  have z4 : w3.cell? ⟨w2.heap.size, 4, none⟩ = some (.slice a2 n2 cc2) := k3.cell (by simp [go_sem]) id
  have k23 : Keeps (fun _ => False) w2 w3 := Keeps.trans (by (repeat' (with_reducible first | exact Keeps.refl _ _ | assumption | refine Keeps.drawN ?_ _ | refine Keeps.drew ?_ | refine Keeps.setCell ?_ ?_ _ | refine Keeps.alloc ?_ _)) <;> (first | exact Or.inr (Nat.le_refl _) | exact Or.inl rfl | exact Or.inl (Or.inl rfl) | exact Or.inl (Or.inr rfl) | (right; simp; done) | (right; simp; omega))) k3
  have K3 := Lib.hid (K2.out.trans k23)
  have HV3 := Lib.hid (HV.out.keepsTo (Q := fun _ => True) k23 (fun _ _ => id) (fun _ _ => trivial))
  have HV3' := Lib.hid (hv'.keepsTo (Q := fun _ => True) (Keeps.refl (fun _ => False) _) (fun _ _ => id) (fun _ _ => trivial))
  clear hv' k3 k23
  unfold NV.val
  by_cases he : ea = 0
  · by_cases hf : eb = 0
    · subst he
      subst hf
      obtain ⟨wa, hwa⟩ : ∃ W, w3.alloc (.cells #[.int .i64 o', .slice a1' n1' c1', .int .i64 m1', .int .i64 x', .slice a2' n2' cc2'] 26) = W := ⟨_, rfl⟩
      have kwa : Keeps (fun _ => False) w3 wa := hwa ▸ (Keeps.refl _ _).alloc _
      have KW := Lib.hid (K3.out.trans kwa)
      have hta := HV3.out.keepsTo (Q := fun _ => True) kwa (fun _ _ => id) (fun _ h => h)
      obtain ⟨tb, htb, hgb, hab⟩ : ∃ tb, TAt wa (fun _ => True) ⟨o', .slice a1' n1' c1', m1', x', .slice a2' n2' cc2'⟩ tb ∧ (WFT tb ∧ wT tb ≤ 2000) ∧
          (Value.agg #[.int .i64 o, .slice a1 n1 c1, .int .i64 m1, .int .i64 x, .slice a2 n2 cc2] = Value.agg #[.int .i64 o', .slice a1' n1' c1', .int .i64 m1', .int .i64 x', .slice a2' n2' cc2'] → ta = tb) := by
        by_cases he : (⟨o, .slice a1 n1 c1, m1, x, .slice a2 n2 cc2⟩ : NV) = ⟨o', .slice a1' n1' c1', m1', x', .slice a2' n2' cc2'⟩
        · rw [he] at hta
          exact ⟨ta, hta, HGl.out, fun _ => rfl⟩
        · refine ⟨tb0, HV3'.out.keepsTo (Q := fun _ => True) kwa (fun _ _ => id) (fun _ h => h), HGm.out, fun h => absurd ?_ he⟩
          simp only [Value.agg.injEq, Array.mk.injEq, List.cons.injEq, Value.int.injEq] at h
          obtain ⟨h1, h2, h3, h4, h5, _⟩ := h
          rw [h1.2, h2, h3.2, h4.2, h5]
      obtain ⟨A, hA⟩ : ∃ A, Value.agg #[.int .i64 o, .slice a1 n1 c1, .int .i64 m1, .int .i64 x, .slice a2 n2 cc2] = A := ⟨_, rfl⟩
      obtain ⟨B, hB⟩ : ∃ B, Value.agg #[.int .i64 o', .slice a1' n1' c1', .int .i64 m1', .int .i64 x', .slice a2' n2' cc2'] = B := ⟨_, rfl⟩
      obtain ⟨q, hq⟩ : ∃ q, decide (ta = tb) = q := ⟨_, rfl⟩
      obtain ⟨SA, hSA⟩ : ∃ x, showT ta = x := ⟨_, rfl⟩
      obtain ⟨SB, hSB⟩ : ∃ x, showT tb = x := ⟨_, rfl⟩
      have hqs : decide (SA = SB) = q := by
        rw [← hq, ← hSA, ← hSB, decide_eq_decide]
        exact ⟨fun h => show_inj HGl.out.1 hgb.1 h, fun h => by rw [h]⟩
      obtain ⟨gz, hgA, hgB⟩ : ∃ gz : Value → List UInt8, gz A = SA ∧ gz B = SB := by
        rw [hA, hB] at hab
        by_cases he : A = B
        · exact ⟨fun _ => SA, rfl, by rw [← hSA, hab he, hSB]⟩
        · classical
          exact ⟨fun z => if z = A then SA else SB, by simp, by simp [Ne.symm he]⟩
      have l1 := show_len ta _ hta
      have l2 := show_len tb _ htb
      have l3 := HGl.out.2
      have l4 := hgb.2
      have mv : ∀ {v : NV} {t : T} {W : World}, TAt wa (fun _ => True) v t → Keeps (fun _ => False) wa W → TAt W (fun _ => True) v t := fun h k => h.keepsTo k (fun _ _ => id) (fun _ h => h)
      have KS1 : ∀ W z, (z = A ∨ z = B) → Keeps (fun _ => False) wa W → Calls Tryd.prog 12 #[z] W fun e w' => e = .returned (.string ⟨(gz z).toArray⟩) ∧ Keeps (fun _ => False) wa w' := fun W z hz kW => by
        rcases hz with rfl | rfl
        · rw [hgA, ← hSA, ← hA]
          exact (show_any ta _ _ W (mv hta kW) (HT.out.keeps (KW.out.trans kW)) (by omega)).mono fun e w' ⟨e1, e2⟩ => ⟨e1, kW.trans e2⟩
        · rw [hgB, ← hSB, ← hB]
          exact (show_any tb _ _ W (mv htb kW) (HT.out.keeps (KW.out.trans kW)) (by omega)).mono fun e w' ⟨e1, e2⟩ => ⟨e1, kW.trans e2⟩
      have KS2 : ∀ W, Keeps (fun _ => False) wa W → Calls Tryd.prog 13 #[A, B] W fun e w' => e = .returned (.bool q) ∧ Keeps (fun _ => False) wa w' := fun W kW => by
        rw [← hA, ← hB, ← hq]
        exact (treeSame_any ta tb _ _ _ _ W (mv hta kW) (mv htb kW)).mono fun e w' ⟨e1, e2⟩ => ⟨e1, kW.trans e2⟩
      have KS3 : ∀ W, Keeps (fun _ => False) wa W → Calls Tryd.prog 10 #[A, B] W fun e w' => e = .returned (.bool q) ∧ Keeps (fun _ => False) wa w' := fun W kW => by
        rw [← hA, ← hB, ← hq]
        exact (refTreeSame_any ta tb _ _ _ _ W (mv hta kW) (mv htb kW)).mono fun e w' ⟨e1, e2⟩ => ⟨e1, kW.trans e2⟩
      subst hA
      subst hB
      have hkd : Keeps (fun _ => False) wa wa.drew := (Keeps.refl _ _).drew
      have x0 : wa.cell? ⟨w2.heap.size, 0, none⟩ = some (.int .i64 o) := kwa.cell z0 id
      have x1 : wa.cell? ⟨w2.heap.size, 1, none⟩ = some (.slice a1 n1 c1) := kwa.cell z1 id
      have x2 : wa.cell? ⟨w2.heap.size, 2, none⟩ = some (.int .i64 m1) := kwa.cell z2 id
      have x3 : wa.cell? ⟨w2.heap.size, 3, none⟩ = some (.int .i64 x) := kwa.cell z3 id
      have x4 : wa.cell? ⟨w2.heap.size, 4, none⟩ = some (.slice a2 n2 cc2) := kwa.cell z4 id
      have y0 : wa.cell? ⟨w3.heap.size, 0, none⟩ = some (.int .i64 o') := by rw [← hwa]; simp [go_sem]
      have y1 : wa.cell? ⟨w3.heap.size, 1, none⟩ = some (.slice a1' n1' c1') := by rw [← hwa]; simp [go_sem]
      have y2 : wa.cell? ⟨w3.heap.size, 2, none⟩ = some (.int .i64 m1') := by rw [← hwa]; simp [go_sem]
      have y3 : wa.cell? ⟨w3.heap.size, 3, none⟩ = some (.int .i64 x') := by rw [← hwa]; simp [go_sem]
      have y4 : wa.cell? ⟨w3.heap.size, 4, none⟩ = some (.slice a2' n2' cc2') := by rw [← hwa]; simp [go_sem]
      have HS : ∀ W, Keeps (fun _ => False) wa W → W.cell? ⟨w2.heap.size, 0, none⟩ = some (.int .i64 o) ∧ W.cell? ⟨w2.heap.size, 1, none⟩ = some (.slice a1 n1 c1) ∧ W.cell? ⟨w2.heap.size, 2, none⟩ = some (.int .i64 m1) ∧ W.cell? ⟨w2.heap.size, 3, none⟩ = some (.int .i64 x) ∧ W.cell? ⟨w2.heap.size, 4, none⟩ = some (.slice a2 n2 cc2) ∧
          W.cell? ⟨w3.heap.size, 0, none⟩ = some (.int .i64 o') ∧ W.cell? ⟨w3.heap.size, 1, none⟩ = some (.slice a1' n1' c1') ∧ W.cell? ⟨w3.heap.size, 2, none⟩ = some (.int .i64 m1') ∧ W.cell? ⟨w3.heap.size, 3, none⟩ = some (.int .i64 x') ∧ W.cell? ⟨w3.heap.size, 4, none⟩ = some (.slice a2' n2' cc2') ∧ Keeps (fun _ => False) wa W :=
        fun W K => ⟨K.cell x0 id, K.cell x1 id, K.cell x2 id, K.cell x3 id, K.cell x4 id, K.cell y0 id, K.cell y1 id, K.cell y2 id, K.cell y3 id, K.cell y4 id, K⟩
      have HSd := HS _ hkd
      have HWA := Lib.hid hwa
      clear hab hq hta htb mv hSA hSB l1 l2 l3 l4 hgb z0 z1 z2 z3 z4 x0 x1 x2 x3 x4 y0 y1 y2 y3 y4 kwa hwa
      cases q with
      | true =>
        obtain rfl : SA = SB := by simpa using hqs
        clear hqs
        go_wp2_with fail
        rw [HWA.out]
        go_region_held3 (fun w' => w'.cell? ⟨w2.heap.size, 0, none⟩ = some (.int .i64 o) ∧ w'.cell? ⟨w2.heap.size, 1, none⟩ = some (.slice a1 n1 c1) ∧ w'.cell? ⟨w2.heap.size, 2, none⟩ = some (.int .i64 m1) ∧ w'.cell? ⟨w2.heap.size, 3, none⟩ = some (.int .i64 x) ∧ w'.cell? ⟨w2.heap.size, 4, none⟩ = some (.slice a2 n2 cc2) ∧
          w'.cell? ⟨w3.heap.size, 0, none⟩ = some (.int .i64 o') ∧ w'.cell? ⟨w3.heap.size, 1, none⟩ = some (.slice a1' n1' c1') ∧ w'.cell? ⟨w3.heap.size, 2, none⟩ = some (.int .i64 m1') ∧ w'.cell? ⟨w3.heap.size, 3, none⟩ = some (.int .i64 x') ∧ w'.cell? ⟨w3.heap.size, 4, none⟩ = some (.slice a2' n2' cc2') ∧ Keeps (fun _ => False) wa w') (first | exact HSd | exact HS _ (by assumption))
          (first | (go_at_call 12; refine (KS1 _ _ ?_ ?_).mono ?_; (first | exact Or.inl rfl | exact Or.inr rfl); (first | exact hkd | assumption); rintro e w' ⟨rfl, hkn⟩) | (go_at_call 13; refine (KS2 _ ?_).mono ?_; (first | exact hkd | assumption); rintro e w' ⟨rfl, hkn⟩) | (go_at_call 10; refine (KS3 _ ?_).mono ?_; (first | exact hkd | assumption); rintro e w' ⟨rfl, hkn⟩))
        go_wp2_with fail
        go_ret
        exact ⟨by simp [hgA, hgB], KW.out.trans (by assumption)⟩
      | false =>
        have hne : (SA == SB) = false := by simpa using hqs
        clear hqs
        go_wp2_with fail
        rw [HWA.out]
        go_region_held3 (fun w' => w'.cell? ⟨w2.heap.size, 0, none⟩ = some (.int .i64 o) ∧ w'.cell? ⟨w2.heap.size, 1, none⟩ = some (.slice a1 n1 c1) ∧ w'.cell? ⟨w2.heap.size, 2, none⟩ = some (.int .i64 m1) ∧ w'.cell? ⟨w2.heap.size, 3, none⟩ = some (.int .i64 x) ∧ w'.cell? ⟨w2.heap.size, 4, none⟩ = some (.slice a2 n2 cc2) ∧
          w'.cell? ⟨w3.heap.size, 0, none⟩ = some (.int .i64 o') ∧ w'.cell? ⟨w3.heap.size, 1, none⟩ = some (.slice a1' n1' c1') ∧ w'.cell? ⟨w3.heap.size, 2, none⟩ = some (.int .i64 m1') ∧ w'.cell? ⟨w3.heap.size, 3, none⟩ = some (.int .i64 x') ∧ w'.cell? ⟨w3.heap.size, 4, none⟩ = some (.slice a2' n2' cc2') ∧ Keeps (fun _ => False) wa w') (first | exact HSd | exact HS _ (by assumption))
          (first | (go_at_call 12; refine (KS1 _ _ ?_ ?_).mono ?_; (first | exact Or.inl rfl | exact Or.inr rfl); (first | exact hkd | assumption); rintro e w' ⟨rfl, hkn⟩) | (go_at_call 13; refine (KS2 _ ?_).mono ?_; (first | exact hkd | assumption); rintro e w' ⟨rfl, hkn⟩) | (go_at_call 10; refine (KS3 _ ?_).mono ?_; (first | exact hkd | assumption); rintro e w' ⟨rfl, hkn⟩))
        go_wp2_with fail
        go_ret
        exact ⟨by simp [hgA, hgB], KW.out.trans (by assumption)⟩
    · have f1 : ((ea : Int) != 0) = false := by simp [he]
      have f2 : (eb != 0) = true := by simpa using hf
      subst he
      clear hf
      go_wp2_with fail
      go_ret
      exact ⟨rfl, Keeps.trans K3.out (by (repeat' (with_reducible first | exact Keeps.refl _ _ | assumption | refine Keeps.drawN ?_ _ | refine Keeps.drew ?_ | refine Keeps.setCell ?_ ?_ _ | refine Keeps.alloc ?_ _)) <;> (first | exact Or.inr (Nat.le_refl _) | exact Or.inl rfl | exact Or.inl (Or.inl rfl) | exact Or.inl (Or.inr rfl) | (right; simp; done) | (right; simp; omega)))⟩
  · have f1 : (ea != 0) = true := by simpa using he
    clear he
    go_wp2_with fail
    go_ret
    exact ⟨rfl, Keeps.trans K3.out (by (repeat' (with_reducible first | exact Keeps.refl _ _ | assumption | refine Keeps.drawN ?_ _ | refine Keeps.drew ?_ | refine Keeps.setCell ?_ ?_ _ | refine Keeps.alloc ?_ _)) <;> (first | exact Or.inr (Nat.le_refl _) | exact Or.inl rfl | exact Or.inl (Or.inl rfl) | exact Or.inl (Or.inr rfl) | (right; simp; done) | (right; simp; omega)))⟩
theorem shows_main (s t : ByteArray) (hs : s.size ≤ 9223372036854775807) (ht' : t.size ≤ 9223372036854775807) (w : World) (ht : TabW w) :
    Calls Tryd.prog 5 #[.string s, .string t] w fun e w' => e = .returned (.bool true) ∧ Keeps (fun _ => False) w w' := by
  obtain ⟨⟨l⟩⟩ := s
  obtain ⟨⟨m⟩⟩ := t
  have hl : l.length ≤ 9223372036854775807 := hs
  have hm : m.length ≤ 9223372036854775807 := ht'
  by_cases h : 200 < l.length ∨ 200 < m.length
  · exact shows_long l m w ht hl hm h
  · exact shows_short l m w ht (by omega) (by omega)
end Go.Proofs.YtinogeobkljngaaDoor
