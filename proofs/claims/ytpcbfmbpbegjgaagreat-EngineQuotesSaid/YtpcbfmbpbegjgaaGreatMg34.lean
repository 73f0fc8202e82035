/-
  Several texts in one: The document's token: at a brace, a bracket. The document's token: at a backslash, at a point.
-/
import Derived.Test.YtpcbfmbpbegjgaaGreatRfTokG
import Derived.Deep.RegionHeld3
section
namespace Go.Proofs.YtpcbfmbpbegjgaaGreat
open Go.RowKit
set_option linter.unusedVariables false
set_option linter.unusedSimpArgs false
set_option maxRecDepth 100000

theorem Norm.len {l : List (Int × Int)} (h : Norm l) : l.length ≤ 4611686018427387904 := by
  have h2 : ∀ l : List (Int × Int), Norm l → (l.length : Int) ≤ sumR l := by
    intro l
    induction l with
    | nil => intro _; simp [sumR]
    | cons p l ih => intro h; have h3 := h.rng p (by simp); have h4 := ih h.tail; rw [sumR_cons]; simp only [List.length_cons]; push_cast; omega
  have := h2 l h
  have := (sumR_nonneg l h).2
  omega
theorem Norm.in64 {l : List (Int × Int)} (h : Norm l) : ∀ p ∈ l, in64 p.1 ∧ in64 p.2 := fun p hp => by
  have := h.rng p hp; unfold Go.Proofs.YtpcbfmbpbegjgaaGreat.in64; omega
theorem own_pt {w w3 : World} {o : Obj} {u : Value} {L : List (Int × Int)} (h : w3.ownsRow (w.alloc o).heap.size 87 2 u L.length (cellsOf 2 encR L)) (hl : L.length ≤ 4611686018427387904) (hr : ∀ p ∈ L, in64 p.1 ∧ in64 p.2) :
    KAt w3 (fun b => w.heap.size < b ∧ b < w3.heap.size) ⟨0, 0, u, 0, 0⟩ (.pt L) :=
  (KAt.pt h hl hr).keepsTo (Keeps.refl (fun _ => False) _) (fun _ _ => id) (fun b hb => ⟨by have := hb.1; simp at this; omega, hb.2⟩)
set_option maxHeartbeats 16000000 in
theorem rtoken_br (r : Int) (t : List Int) (b off cap : Nat) (w : World) (h : ISl w (.slice (some ⟨b, off, none⟩) (t.length + 1) cap) (r :: t)) (hl : t.length ≤ 200) (hr : r = 123) : Calls Tryz.prog 22 #[.slice (some ⟨b, off, none⟩) (t.length + 1) cap] w fun e w' => TokE w (tokP (r :: t)) e w' := by
  obtain ⟨_, _, e1, hcap, hc⟩ := h.cells
  simp only [List.length_cons] at e1 hcap hc
  injection e1 with e1 _ e2
  subst e1 e2
  obtain ⟨_, _, e1, hcc⟩ := hc (by omega)
  injection e1 with e1
  injection e1 with e1 e2
  subst e1 e2
  obtain ⟨c0, c1, c2⟩ := hcc 0 r rfl
  simp only [Nat.add_zero] at c0
  have x0 := alloc_cell c0 (.cells #[.int .i64 0, .int .i64 0, .slice none 0 0, .int .i64 0, .int .i64 0] 63)
  have HCC := Lib.hid hcc
  have HI := Lib.hid h
  have HP := Lib.hid (tokP_cons r t)
  generalize tokP (r :: t) = P at *
  clear hc hcc c0 h
  subst hr
  have HP2 : Hid (P = (brP t).map fun p => (.ct p.1 p.2.1, p.2.2 + 1)) := Lib.hid (by rw [HP.out]; rfl)
  clear HP HCC
  have hI4 : (1 : Int) ≤ (t.length : Int) + 1 := by omega
  have hI5 : (1 : Int) ≤ (cap : Int) := by omega
  by_cases hcp : cap = 1
  · subst hcp
    obtain rfl : t = [] := List.length_eq_zero_iff.1 (by omega)
    have E : Hid (P = none) := Lib.hid HP2.out
    have HB := Lib.hid (fun W (K : Keeps (fun _ => False) w W) => rbraces_any [] (.slice (some ⟨b, off, none⟩) 0 0) W (by simp) ⟨⟨_, 0, rfl, ⟨Nat.le_refl _, (fun h => by cases h)⟩, by simp, fun h => by simp at h⟩, fun r hr => by cases hr⟩)
    rw [show brV (brP []) = .tuple #[tokV 0 0 (.slice none 0 0) 0 0, .int .i64 0] from rfl] at HB
    clear HP2 HI
    simp only [List.length_nil] at *
    go_enter Tryz.func22, Tryz.ntmps22
    go_wp2_with fail
    refine (HB.out _ (Keeps.alloc (Keeps.refl _ _) _)).mono ?_
    rintro e w3 ⟨rfl, K⟩
    have K3 := Lib.hid (K.alloc (.cells #[.int .i64 0, .int .i64 0, .slice none 0 0, .int .i64 0, .int .i64 0] 63))
    obtain ⟨⟨y0, y1, y2, y3, y4⟩, q0, q1, q2, q3, q4⟩ := res_factsK K3.out
    clear K
    unfold tokV
    go_wp2_with fail
    obtain ⟨wE, hWE⟩ : ∃ W, st5 (w3.alloc (.cells #[.int .i64 0, .int .i64 0, .slice none 0 0, .int .i64 0, .int .i64 0] 63)) w.heap.size (.int .i64 0) (.int .i64 0) (.slice none 0 0) (.int .i64 0) (.int .i64 0) = W := ⟨_, rfl⟩
    obtain ⟨r0, r1, r2, r3, r4, kE⟩ := st5_facts (w3.alloc (.cells #[.int .i64 0, .int .i64 0, .slice none 0 0, .int .i64 0, .int .i64 0] 63)) w.heap.size y0 y1 y2 y3 y4 (.int .i64 0) (.int .i64 0) (.slice none 0 0) (.int .i64 0) (.int .i64 0)
    rw [hWE] at r0 r1 r2 r3 r4 kE
    unfold st5 at hWE
    rw [hWE]
    have HKE := Lib.hid kE
    clear kE hWE y0 y1 y2 y3 y4
    refine bodyPost_ret (by simp [results, Tryz.results22, go_sem, r0, r1, r2, r3, r4]; try rfl) rfl ?_
    rw [E.out]
    exact tok_none K3.out HKE.out
  · have hI6 : ¬ (cap : Int) = 1 := by omega
    have HB := Lib.hid (fun W (K : Keeps (fun _ => False) w W) => rbraces_any t _ W (by omega) ((HI.out.keep K).dropI 1 (by omega) hcp))
    cases hb : brP t with
    | none =>
      have E : Hid (P = none) := Lib.hid (by rw [HP2.out, hb]; rfl)
      rw [hb] at HB
      simp only [brV] at HB
      clear HP2 HI hb
      go_enter Tryz.func22, Tryz.ntmps22
      go_wp2_with fail
      refine (HB.out _ (Keeps.alloc (Keeps.refl _ _) _)).mono ?_
      rintro e w3 ⟨rfl, K⟩
      have K3 := Lib.hid (K.alloc (.cells #[.int .i64 0, .int .i64 0, .slice none 0 0, .int .i64 0, .int .i64 0] 63))
      obtain ⟨⟨y0, y1, y2, y3, y4⟩, q0, q1, q2, q3, q4⟩ := res_factsK K3.out
      clear K
      unfold tokV
      go_wp2_with fail
      obtain ⟨wE, hWE⟩ : ∃ W, st5 (w3.alloc (.cells #[.int .i64 0, .int .i64 0, .slice none 0 0, .int .i64 0, .int .i64 0] 63)) w.heap.size (.int .i64 0) (.int .i64 0) (.slice none 0 0) (.int .i64 0) (.int .i64 0) = W := ⟨_, rfl⟩
      obtain ⟨r0, r1, r2, r3, r4, kE⟩ := st5_facts (w3.alloc (.cells #[.int .i64 0, .int .i64 0, .slice none 0 0, .int .i64 0, .int .i64 0] 63)) w.heap.size y0 y1 y2 y3 y4 (.int .i64 0) (.int .i64 0) (.slice none 0 0) (.int .i64 0) (.int .i64 0)
      rw [hWE] at r0 r1 r2 r3 r4 kE
      unfold st5 at hWE
      rw [hWE]
      have HKE := Lib.hid kE
      clear kE hWE y0 y1 y2 y3 y4
      refine bodyPost_ret (by simp [results, Tryz.results22, go_sem, r0, r1, r2, r3, r4]; try rfl) rfl ?_
      rw [E.out]
      exact tok_none K3.out HKE.out
    | some q =>
      obtain ⟨m, x, k⟩ := q
      have hk1 := (brP_local hb).1
      have hk2 := (brP_local hb).2.1
      have HR := Lib.hid (brP_rng hb)
      have gk : ((k : Int) == 0) = false := beq_eq_false_iff_ne.2 (by omega)
      have E : Hid (P = some (.ct m x, k + 1)) := Lib.hid (by rw [HP2.out, hb]; rfl)
      rw [hb] at HB
      simp only [brV] at HB
      clear HP2 HI hb
      go_enter Tryz.func22, Tryz.ntmps22
      go_wp2_with fail
      refine (HB.out _ (Keeps.alloc (Keeps.refl _ _) _)).mono ?_
      rintro e w3 ⟨rfl, K⟩
      have K3 := Lib.hid (K.alloc (.cells #[.int .i64 2, .int .i64 0, .slice none 0 0, .int .i64 m, .int .i64 x] 63))
      obtain ⟨⟨y0, y1, y2, y3, y4⟩, q0, q1, q2, q3, q4⟩ := res_factsK K3.out
      clear K
      unfold tokV
      go_wp2_with fail
      obtain ⟨wE, hWE⟩ : ∃ W, st5 (w3.alloc (.cells #[.int .i64 2, .int .i64 0, .slice none 0 0, .int .i64 m, .int .i64 x] 63)) w.heap.size (.int .i64 2) (.int .i64 0) (.slice none 0 0) (.int .i64 m) (.int .i64 x) = W := ⟨_, rfl⟩
      obtain ⟨r0, r1, r2, r3, r4, kE⟩ := st5_facts (w3.alloc (.cells #[.int .i64 2, .int .i64 0, .slice none 0 0, .int .i64 m, .int .i64 x] 63)) w.heap.size y0 y1 y2 y3 y4 (.int .i64 2) (.int .i64 0) (.slice none 0 0) (.int .i64 m) (.int .i64 x)
      rw [hWE] at r0 r1 r2 r3 r4 kE
      unfold st5 at hWE
      rw [hWE]
      have HKE := Lib.hid kE
      clear kE hWE y0 y1 y2 y3 y4
      refine bodyPost_ret (by simp [results, Tryz.results22, go_sem, r0, r1, r2, r3, r4]; try rfl) rfl ?_
      rw [E.out]
      exact tok_close (v := ⟨2, 0, .slice none 0 0, m, x⟩) K3.out ⟨rfl, HR.out⟩ HKE.out
set_option maxHeartbeats 16000000 in
theorem rtoken_cl (r : Int) (t : List Int) (b off cap : Nat) (w : World) (h : ISl w (.slice (some ⟨b, off, none⟩) (t.length + 1) cap) (r :: t)) (hl : t.length ≤ 200) (HCL : ClassC) (hr : r = 91) : Calls Tryz.prog 22 #[.slice (some ⟨b, off, none⟩) (t.length + 1) cap] w fun e w' => TokE w (tokP (r :: t)) e w' := by
  obtain ⟨_, _, e1, hcap, hc⟩ := h.cells
  simp only [List.length_cons] at e1 hcap hc
  injection e1 with e1 _ e2
  subst e1 e2
  obtain ⟨_, _, e1, hcc⟩ := hc (by omega)
  injection e1 with e1
  injection e1 with e1 e2
  subst e1 e2
  obtain ⟨c0, c1, c2⟩ := hcc 0 r rfl
  simp only [Nat.add_zero] at c0
  have x0 := alloc_cell c0 (.cells #[.int .i64 0, .int .i64 0, .slice none 0 0, .int .i64 0, .int .i64 0] 63)
  have HCC := Lib.hid hcc
  have HI := Lib.hid h
  have HP := Lib.hid (tokP_cons r t)
  generalize tokP (r :: t) = P at *
  clear hc hcc c0 h
  subst hr
  have HP2 : Hid (P = (clP t).map fun p => (.pt p.1, p.2 + 1)) := Lib.hid (by rw [HP.out]; rfl)
  clear HP HCC
  have hI4 : (1 : Int) ≤ (t.length : Int) + 1 := by omega
  have hI5 : (1 : Int) ≤ (cap : Int) := by omega
  by_cases hcp : cap = 1
  · subst hcp
    obtain rfl : t = [] := List.length_eq_zero_iff.1 (by omega)
    have E : Hid (P = none) := Lib.hid HP2.out
    have HB := Lib.hid (fun W (K : Keeps (fun _ => False) w W) => HCL [] b off 0 W ⟨⟨_, 0, rfl, ⟨Nat.le_refl _, (fun h => by cases h)⟩, by simp, fun h => by simp at h⟩, fun r hr => by cases hr⟩ (by simp))
    rw [show clP [] = none from rfl] at HB
    clear HP2 HI
    simp only [List.length_nil] at *
    go_enter Tryz.func22, Tryz.ntmps22
    go_wp2_with fail
    refine (HB.out _ (Keeps.alloc (Keeps.refl _ _) _)).mono ?_
    rintro e w3 ⟨rfl, K⟩
    have K3 := Lib.hid K
    clear K
    obtain ⟨⟨y0, y1, y2, y3, y4⟩, q0, q1, q2, q3, q4⟩ := res_factsK K3.out
    go_wp2_with fail
    obtain ⟨wE, hWE⟩ : ∃ W, st5 (w3) w.heap.size (.int .i64 0) (.int .i64 0) (.slice none 0 0) (.int .i64 0) (.int .i64 0) = W := ⟨_, rfl⟩
    obtain ⟨r0, r1, r2, r3, r4, kE⟩ := st5_facts (w3) w.heap.size y0 y1 y2 y3 y4 (.int .i64 0) (.int .i64 0) (.slice none 0 0) (.int .i64 0) (.int .i64 0)
    rw [hWE] at r0 r1 r2 r3 r4 kE
    unfold st5 at hWE
    rw [hWE]
    have HKE := Lib.hid kE
    clear kE hWE y0 y1 y2 y3 y4
    refine bodyPost_ret (by simp [results, Tryz.results22, go_sem, r0, r1, r2, r3, r4]; try rfl) rfl ?_
    rw [E.out]
    exact tok_none K3.out HKE.out
  · have hI6 : ¬ (cap : Int) = 1 := by omega
    have HB := Lib.hid (fun W (K : Keeps (fun _ => False) w W) => HCL t _ _ _ W ((HI.out.keep K).dropI 1 (by omega) hcp) (by omega))
    cases hb : clP t with
    | none =>
      have E : Hid (P = none) := Lib.hid (by rw [HP2.out, hb]; rfl)
      rw [hb] at HB
      clear HP2 HI hb
      go_enter Tryz.func22, Tryz.ntmps22
      go_wp2_with fail
      refine (HB.out _ (Keeps.alloc (Keeps.refl _ _) _)).mono ?_
      rintro e w3 ⟨rfl, K⟩
      have K3 := Lib.hid K
      clear K
      obtain ⟨⟨y0, y1, y2, y3, y4⟩, q0, q1, q2, q3, q4⟩ := res_factsK K3.out
      go_wp2_with fail
      obtain ⟨wE, hWE⟩ : ∃ W, st5 (w3) w.heap.size (.int .i64 0) (.int .i64 0) (.slice none 0 0) (.int .i64 0) (.int .i64 0) = W := ⟨_, rfl⟩
      obtain ⟨r0, r1, r2, r3, r4, kE⟩ := st5_facts (w3) w.heap.size y0 y1 y2 y3 y4 (.int .i64 0) (.int .i64 0) (.slice none 0 0) (.int .i64 0) (.int .i64 0)
      rw [hWE] at r0 r1 r2 r3 r4 kE
      unfold st5 at hWE
      rw [hWE]
      have HKE := Lib.hid kE
      clear kE hWE y0 y1 y2 y3 y4
      refine bodyPost_ret (by simp [results, Tryz.results22, go_sem, r0, r1, r2, r3, r4]; try rfl) rfl ?_
      rw [E.out]
      exact tok_none K3.out HKE.out
    | some q =>
      obtain ⟨s, k⟩ := q
      have hk1 := (clP_local hb).1
      have hk2 := (clP_local hb).2.1
      have HN := Lib.hid (clP_norm hb)
      have gk : ((k : Int) == 0) = false := beq_eq_false_iff_ne.2 (by omega)
      have E : Hid (P = some (.pt s, k + 1)) := Lib.hid (by rw [HP2.out, hb]; rfl)
      rw [hb] at HB
      clear HP2 HI hb
      go_enter Tryz.func22, Tryz.ntmps22
      go_wp2_with fail
      refine (HB.out _ (Keeps.alloc (Keeps.refl _ _) _)).mono ?_
      rintro e w3 ⟨u, rfl, hu⟩
      have K3 := Lib.hid hu.2
      have HU := Lib.hid hu.1
      obtain ⟨ua, uc, rfl⟩ := ownsRow_slice hu.1
      clear hu
      obtain ⟨⟨y0, y1, y2, y3, y4⟩, q0, q1, q2, q3, q4⟩ := res_factsK K3.out
      go_wp2_with fail
      obtain ⟨wE, hWE⟩ : ∃ W, st5 (w3) w.heap.size (.int .i64 0) (.int .i64 0) (.slice ua s.length uc) (.int .i64 0) (.int .i64 0) = W := ⟨_, rfl⟩
      obtain ⟨r0, r1, r2, r3, r4, kE⟩ := st5_facts (w3) w.heap.size y0 y1 y2 y3 y4 (.int .i64 0) (.int .i64 0) (.slice ua s.length uc) (.int .i64 0) (.int .i64 0)
      rw [hWE] at r0 r1 r2 r3 r4 kE
      unfold st5 at hWE
      rw [hWE]
      have HKE := Lib.hid kE
      clear kE hWE y0 y1 y2 y3 y4
      refine bodyPost_ret (by simp [results, Tryz.results22, go_sem, r0, r1, r2, r3, r4]; try rfl) rfl ?_
      rw [E.out]
      exact tok_close (v := ⟨0, 0, .slice ua s.length uc, 0, 0⟩) K3.out (own_pt HU.out HN.out.len HN.out.in64) HKE.out
end Go.Proofs.YtpcbfmbpbegjgaaGreat
end
section
namespace Go.Proofs.YtpcbfmbpbegjgaaGreat
open Go.RowKit
set_option linter.unusedVariables false
set_option linter.unusedSimpArgs false
set_option maxRecDepth 100000

set_option maxHeartbeats 16000000 in
theorem rtoken_esc (r : Int) (t : List Int) (b off cap : Nat) (w : World) (h : ISl w (.slice (some ⟨b, off, none⟩) (t.length + 1) cap) (r :: t)) (hl : t.length ≤ 200) (hr : r = 92) : Calls Tryz.prog 22 #[.slice (some ⟨b, off, none⟩) (t.length + 1) cap] w fun e w' => TokE w (tokP (r :: t)) e w' := by
  obtain ⟨_, _, e1, hcap, hc⟩ := h.cells
  simp only [List.length_cons] at e1 hcap hc
  injection e1 with e1 _ e2
  subst e1 e2
  obtain ⟨_, _, e1, hcc⟩ := hc (by omega)
  injection e1 with e1
  injection e1 with e1 e2
  subst e1 e2
  obtain ⟨c0, c1, c2⟩ := hcc 0 r rfl
  simp only [Nat.add_zero] at c0
  have x0 := alloc_cell c0 (.cells #[.int .i64 0, .int .i64 0, .slice none 0 0, .int .i64 0, .int .i64 0] 63)
  have HCC := Lib.hid hcc
  have HI := Lib.hid h
  have HP := Lib.hid (tokP_cons r t)
  generalize tokP (r :: t) = P at *
  clear hc hcc c0 h
  subst hr
  clear HI
  rcases t with _ | ⟨r2, t⟩
  · have E : Hid (P = none) := Lib.hid (by rw [HP.out]; rfl)
    clear HP HCC
    simp only [List.length_nil] at *
    go_enter Tryz.func22, Tryz.ntmps22
    go_wp2_with fail
    refine bodyPost_ret (by simp [results, Tryz.results22, go_sem]; try rfl) rfl ?_
    rw [E.out]
    exact ⟨rfl, (Keeps.refl _ _).alloc _⟩
  · have HP2 : Hid (P = (escP r2).map fun p => (.pt p.1, 2)) := Lib.hid (by rw [HP.out]; rfl)
    clear HP
    obtain ⟨d0, d1, d2⟩ := HCC.out 1 r2 rfl
    have z0 := alloc_cell d0 (.cells #[.int .i64 0, .int .i64 0, .slice none 0 0, .int .i64 0, .int .i64 0] 63)
    have HB := Lib.hid (fun W => rescaped_any r2 W ⟨d1, d2⟩)
    have hI4 : decide ((t.length : Int) + 1 + 1 < 2) = false := by simp; omega
    have hI5 : (1 : Int) < (t.length : Int) + 1 + 1 := by omega
    simp only [List.length_cons] at *
    cases hb : escP r2 with
    | none =>
      have E : Hid (P = none) := Lib.hid (by rw [HP2.out, hb]; rfl)
      rw [hb] at HB
      clear HP2 HCC hb d0
      go_enter Tryz.func22, Tryz.ntmps22
      go_wp2_with fail
      refine (HB.out _).mono ?_
      rintro e w3 ⟨rfl, K⟩
      have K3 := Lib.hid K
      clear K
      obtain ⟨⟨y0, y1, y2, y3, y4⟩, q0, q1, q2, q3, q4⟩ := res_factsK K3.out
      go_wp2_with fail
      obtain ⟨wE, hWE⟩ : ∃ W, st5 (w3) w.heap.size (.int .i64 0) (.int .i64 0) (.slice none 0 0) (.int .i64 0) (.int .i64 0) = W := ⟨_, rfl⟩
      obtain ⟨r0, r1, r2, r3, r4, kE⟩ := st5_facts (w3) w.heap.size y0 y1 y2 y3 y4 (.int .i64 0) (.int .i64 0) (.slice none 0 0) (.int .i64 0) (.int .i64 0)
      rw [hWE] at r0 r1 r2 r3 r4 kE
      unfold st5 at hWE
      rw [hWE]
      have HKE := Lib.hid kE
      clear kE hWE y0 y1 y2 y3 y4
      refine bodyPost_ret (by simp [results, Tryz.results22, go_sem, r0, r1, r2, r3, r4]; try rfl) rfl ?_
      rw [E.out]
      exact tok_none K3.out HKE.out
    | some q =>
      obtain ⟨s, is⟩ := q
      have HN := Lib.hid (escP_rng ⟨d1, d2⟩ hb)
      have E : Hid (P = some (.pt s, 2)) := Lib.hid (by rw [HP2.out, hb]; rfl)
      rw [hb] at HB
      clear HP2 HCC hb d0
      go_enter Tryz.func22, Tryz.ntmps22
      go_wp2_with fail
      refine (HB.out _).mono ?_
      rintro e w3 ⟨u, rfl, hu⟩
      have K3 := Lib.hid hu.2
      have HU := Lib.hid hu.1
      obtain ⟨ua, uc, rfl⟩ := ownsRow_slice hu.1
      clear hu
      obtain ⟨⟨y0, y1, y2, y3, y4⟩, q0, q1, q2, q3, q4⟩ := res_factsK K3.out
      go_wp2_with fail
      obtain ⟨wE, hWE⟩ : ∃ W, st5 (w3) w.heap.size (.int .i64 0) (.int .i64 0) (.slice ua s.length uc) (.int .i64 0) (.int .i64 0) = W := ⟨_, rfl⟩
      obtain ⟨r0, r1, r2, r3, r4, kE⟩ := st5_facts (w3) w.heap.size y0 y1 y2 y3 y4 (.int .i64 0) (.int .i64 0) (.slice ua s.length uc) (.int .i64 0) (.int .i64 0)
      rw [hWE] at r0 r1 r2 r3 r4 kE
      unfold st5 at hWE
      rw [hWE]
      have HKE := Lib.hid kE
      clear kE hWE y0 y1 y2 y3 y4
      refine bodyPost_ret (by simp [results, Tryz.results22, go_sem, r0, r1, r2, r3, r4]; try rfl) rfl ?_
      rw [E.out]
      exact tok_close (v := ⟨0, 0, .slice ua s.length uc, 0, 0⟩) K3.out (own_pt HU.out (by have := HN.out.1; omega) HN.out.2) HKE.out
set_option maxHeartbeats 16000000 in
theorem rtoken_els (r : Int) (t : List Int) (b off cap : Nat) (w : World) (h : ISl w (.slice (some ⟨b, off, none⟩) (t.length + 1) cap) (r :: t)) (hl : t.length ≤ 200) (hr : r ≠ 124 ∧ r ≠ 40 ∧ r ≠ 41 ∧ r ≠ 94 ∧ r ≠ 36 ∧ r ≠ 42 ∧ r ≠ 43 ∧ r ≠ 63 ∧ r ≠ 123 ∧ r ≠ 46 ∧ r ≠ 91 ∧ r ≠ 92 ∧ r ≠ 93 ∧ r ≠ 125) : Calls Tryz.prog 22 #[.slice (some ⟨b, off, none⟩) (t.length + 1) cap] w fun e w' => TokE w (tokP (r :: t)) e w' := by
  obtain ⟨_, _, e1, hcap, hc⟩ := h.cells
  simp only [List.length_cons] at e1 hcap hc
  injection e1 with e1 _ e2
  subst e1 e2
  obtain ⟨_, _, e1, hcc⟩ := hc (by omega)
  injection e1 with e1
  injection e1 with e1 e2
  subst e1 e2
  obtain ⟨c0, c1, c2⟩ := hcc 0 r rfl
  simp only [Nat.add_zero] at c0
  have x0 := alloc_cell c0 (.cells #[.int .i64 0, .int .i64 0, .slice none 0 0, .int .i64 0, .int .i64 0] 63)
  have HCC := Lib.hid hcc
  have HI := Lib.hid h
  have HP := Lib.hid (tokP_cons r t)
  generalize tokP (r :: t) = P at *
  clear hc hcc c0 h
  obtain ⟨h1, h2, h3, h4, h5, h6, h7, h8, h9, ha, hb, hc, hd, he⟩ := hr
  have E : Hid (P = some (.pt [(r, r)], 1)) := Lib.hid (by rw [HP.out, if_neg (by omega), if_neg h6, if_neg h7, if_neg h8, if_neg h9, if_neg ha, if_neg hb, if_neg hc, if_neg (by omega)])
  have x00 : w.cell? ⟨b, off, none⟩ = some (.int .i64 r) := by simpa using (HCC.out 0 r rfl).1
  have hne : w.heap.size ≠ b := World.new_ne w ⟨b, off, none⟩ x00
  clear HP HI HCC
  have g0 : (r == 124) = false := beq_eq_false_iff_ne.2 h1
  have g1 : (r == 40) = false := beq_eq_false_iff_ne.2 h2
  have g2 : (r == 41) = false := beq_eq_false_iff_ne.2 h3
  have g3 : (r == 94) = false := beq_eq_false_iff_ne.2 h4
  have g4 : (r == 36) = false := beq_eq_false_iff_ne.2 h5
  have g5 : (r == 42) = false := beq_eq_false_iff_ne.2 h6
  have g6 : (r == 43) = false := beq_eq_false_iff_ne.2 h7
  have g7 : (r == 63) = false := beq_eq_false_iff_ne.2 h8
  have g8 : (r == 123) = false := beq_eq_false_iff_ne.2 h9
  have g9 : (r == 46) = false := beq_eq_false_iff_ne.2 ha
  have g10 : (r == 91) = false := beq_eq_false_iff_ne.2 hb
  have g11 : (r == 92) = false := beq_eq_false_iff_ne.2 hc
  have g12 : (r == 93) = false := beq_eq_false_iff_ne.2 hd
  have g13 : (r == 125) = false := beq_eq_false_iff_ne.2 he
  go_enter Tryz.func22, Tryz.ntmps22
  go_wp2_with fail
  go_region_held3 (fun w' => w'.cell? ⟨b, off, none⟩ = some (.int .i64 r)) (go_keep) (fail)
  all_goals go_wp2_with fail
  refine bodyPost_ret (by simp [results, Tryz.results22, go_sem]; try rfl) rfl ?_
  rw [E.out]
  have h9 := rown_one (w.alloc (.cells #[.int .i64 0, .int .i64 0, .slice (some ⟨w.heap.size + 1, 0, none⟩) 1 1, .int .i64 0, .int .i64 0] 63)) r
  rw [show (w.alloc (.cells #[.int .i64 0, .int .i64 0, .slice (some ⟨w.heap.size + 1, 0, none⟩) 1 1, .int .i64 0, .int .i64 0] 63)).heap.size = w.heap.size + 1 by simp] at h9
  have h10 := lit_pt (w := w) (by simp) h9.1 (by simp) (by intro p hp; simp at hp; subst hp; unfold in64; simp only; omega)
  have K := Keeps.drew (((Keeps.refl (fun _ => False) w).alloc (.cells #[.int .i64 0, .int .i64 0, .slice (some ⟨w.heap.size + 1, 0, none⟩) 1 1, .int .i64 0, .int .i64 0] 63)).alloc (.cells #[.int .i64 r, .int .i64 r] 87))
  exact ⟨⟨0, 0, .slice (some ⟨w.heap.size + 1, 0, none⟩) 1 1, 0, 0⟩, rfl, h10.keepsTo (Keeps.drew (Keeps.refl (fun _ => False) _)) (fun _ _ => id) (fun b hb => hb), K⟩
theorem rtoken_any (HCL : ClassC) (r : Int) (t : List Int) (v : Value) (w : World) (h : ISl w v (r :: t)) (hl : t.length ≤ 200) : Calls Tryz.prog 22 #[v] w fun e w' => TokE w (tokP (r :: t)) e w' := by
  obtain ⟨a, cap, rfl, _, hc⟩ := h.cells
  obtain ⟨b, off, rfl, _⟩ := hc (by simp)
  by_cases h1 : r = 124 ∨ r = 40 ∨ r = 41 ∨ r = 94 ∨ r = 36
  · exact rtoken_sg r t b off cap w h hl h1
  by_cases h2 : r = 42 ∨ r = 43 ∨ r = 63
  · exact rtoken_ct r t b off cap w h hl h2
  by_cases h3 : r = 46
  · exact rtoken_dot r t b off cap w h hl h3
  by_cases h4 : r = 93 ∨ r = 125
  · exact rtoken_no r t b off cap w h hl h4
  by_cases h5 : r = 123
  · exact rtoken_br r t b off cap w h hl h5
  by_cases h6 : r = 91
  · exact rtoken_cl r t b off cap w h hl HCL h6
  by_cases h7 : r = 92
  · exact rtoken_esc r t b off cap w h hl h7
  exact rtoken_els r t b off cap w h hl (by omega)
end Go.Proofs.YtpcbfmbpbegjgaaGreat
end
