/-
  The document's token.
-/
import Derived.Test.YtpcbfmbpbegjgaaGreatMg32
import Derived.Deep.RegionHeld3
namespace Go.Proofs.YtpcbfmbpbegjgaaGreat
open Go.RowKit
set_option linter.unusedVariables false
set_option linter.unusedSimpArgs false
set_option maxRecDepth 100000

theorem norm_nil : Norm [] := trivial
theorem ofL_norm (l : List (Int × Int)) : Norm (ofL l) := by
  unfold ofL
  split
  · rename_i h; exact (Classical.choose_spec h).1
  · exact norm_nil
theorem notL_norm (l : List (Int × Int)) : Norm (notL l) := by
  unfold notL
  split
  · rename_i h; exact (Classical.choose_spec h).1
  · exact norm_nil
theorem clP_norm {l : List Int} {s : List (Int × Int)} {k : Nat} (h : clP l = some (s, k)) : Norm s := by
  unfold clP at h
  split at h
  · simp only [Option.map_eq_some_iff, Prod.mk.injEq] at h
    obtain ⟨p, _, h2, _⟩ := h
    rw [← h2]; exact notL_norm p.1
  · simp only [Option.map_eq_some_iff, Prod.mk.injEq] at h
    obtain ⟨p, _, h2, _⟩ := h
    rw [← h2]; exact ofL_norm p.1
theorem rown_pair (w : World) (a b c d : Int) : ROwn w (w.alloc (.cells #[.int .i64 a, .int .i64 b, .int .i64 c, .int .i64 d] 87)) (.slice (some ⟨w.heap.size, 0, none⟩) 2 2) [(a, b), (c, d)] :=
  ⟨⟨rfl, Or.inr ⟨w.heap.size, 2, _, rfl, Nat.le_refl _, heap_alloc_new w _, Nat.le_refl _, by unfold maxLen; decide, rfl, rfl⟩⟩, (Keeps.refl _ _).alloc _⟩
/-- A token of a set laid in it at once. -/
theorem lit_pt {w W : World} {lo : Nat} {u : Value} {L : List (Int × Int)} (hlo : w.heap.size ≤ lo) (h : W.ownsRow lo 87 2 u L.length (cellsOf 2 encR L)) (hl : L.length ≤ 4611686018427387904) (hr : ∀ p ∈ L, in64 p.1 ∧ in64 p.2) :
    KAt W (Bt w W) ⟨0, 0, u, 0, 0⟩ (.pt L) :=
  (KAt.pt h hl hr).keepsTo (Keeps.refl (fun _ => False) _) (fun _ _ => id) (fun b hb => ⟨Nat.le_trans hlo hb.1, hb.2⟩)
set_option maxHeartbeats 16000000 in
theorem rtoken_sg (r : Int) (t : List Int) (b off cap : Nat) (w : World) (h : ISl w (.slice (some ⟨b, off, none⟩) (t.length + 1) cap) (r :: t)) (hl : t.length ≤ 200) (hr : r = 124 ∨ r = 40 ∨ r = 41 ∨ r = 94 ∨ r = 36) : Calls Tryz.prog 22 #[.slice (some ⟨b, off, none⟩) (t.length + 1) cap] w fun e w' => TokE w (tokP (r :: t)) e w' := by
  obtain ⟨_, _, e1, hcap, hc⟩ := h.cells
  simp only [List.length_cons] at e1 hcap hc
  injection e1 with e1 _ e2
  subst e1 e2
  obtain ⟨_, _, e1, hcc⟩ := hc (by omega)
  injection e1 with e1
  injection e1 with e1 e2
  subst e1 e2
  obtain ⟨c0, c1, c2⟩ := hcc 0 r rfl
  simp only [Nat.add_zero] at c0
  have x0 := alloc_cell c0 (.cells #[.int .i64 0, .int .i64 0, .slice none 0 0, .int .i64 0, .int .i64 0] 63)
  have HCC := Lib.hid hcc
  have HI := Lib.hid h
  have HP := Lib.hid (tokP_cons r t)
  generalize tokP (r :: t) = P at *
  clear hc hcc c0 h
  have E : Hid (P = some (.sg r, 1)) := Lib.hid (by rw [HP.out, if_pos hr])
  clear HP HI HCC
  rcases hr with rfl | rfl | rfl | rfl | rfl
  · skip
    go_enter Tryz.func22, Tryz.ntmps22
    go_wp2_with fail
    refine bodyPost_ret (by simp [results, Tryz.results22, go_sem]; try rfl) rfl ?_
    rw [E.out]
    exact ⟨⟨1, 124, .slice none 0 0, 0, 0⟩, rfl, rfl, (Keeps.refl _ _).alloc _⟩
  · skip
    go_enter Tryz.func22, Tryz.ntmps22
    go_wp2_with fail
    refine bodyPost_ret (by simp [results, Tryz.results22, go_sem]; try rfl) rfl ?_
    rw [E.out]
    exact ⟨⟨1, 40, .slice none 0 0, 0, 0⟩, rfl, rfl, (Keeps.refl _ _).alloc _⟩
  · skip
    go_enter Tryz.func22, Tryz.ntmps22
    go_wp2_with fail
    refine bodyPost_ret (by simp [results, Tryz.results22, go_sem]; try rfl) rfl ?_
    rw [E.out]
    exact ⟨⟨1, 41, .slice none 0 0, 0, 0⟩, rfl, rfl, (Keeps.refl _ _).alloc _⟩
  · skip
    go_enter Tryz.func22, Tryz.ntmps22
    go_wp2_with fail
    refine bodyPost_ret (by simp [results, Tryz.results22, go_sem]; try rfl) rfl ?_
    rw [E.out]
    exact ⟨⟨1, 94, .slice none 0 0, 0, 0⟩, rfl, rfl, (Keeps.refl _ _).alloc _⟩
  · skip
    go_enter Tryz.func22, Tryz.ntmps22
    go_wp2_with fail
    refine bodyPost_ret (by simp [results, Tryz.results22, go_sem]; try rfl) rfl ?_
    rw [E.out]
    exact ⟨⟨1, 36, .slice none 0 0, 0, 0⟩, rfl, rfl, (Keeps.refl _ _).alloc _⟩
set_option maxHeartbeats 16000000 in
theorem rtoken_ct (r : Int) (t : List Int) (b off cap : Nat) (w : World) (h : ISl w (.slice (some ⟨b, off, none⟩) (t.length + 1) cap) (r :: t)) (hl : t.length ≤ 200) (hr : r = 42 ∨ r = 43 ∨ r = 63) : Calls Tryz.prog 22 #[.slice (some ⟨b, off, none⟩) (t.length + 1) cap] w fun e w' => TokE w (tokP (r :: t)) e w' := by
  obtain ⟨_, _, e1, hcap, hc⟩ := h.cells
  simp only [List.length_cons] at e1 hcap hc
  injection e1 with e1 _ e2
  subst e1 e2
  obtain ⟨_, _, e1, hcc⟩ := hc (by omega)
  injection e1 with e1
  injection e1 with e1 e2
  subst e1 e2
  obtain ⟨c0, c1, c2⟩ := hcc 0 r rfl
  simp only [Nat.add_zero] at c0
  have x0 := alloc_cell c0 (.cells #[.int .i64 0, .int .i64 0, .slice none 0 0, .int .i64 0, .int .i64 0] 63)
  have HCC := Lib.hid hcc
  have HI := Lib.hid h
  have HP := Lib.hid (tokP_cons r t)
  generalize tokP (r :: t) = P at *
  clear hc hcc c0 h
  rcases hr with rfl | rfl | rfl
  · have E : Hid (P = some (.ct 0 (-1), 1)) := Lib.hid (by rw [HP.out]; rfl)
    clear HP HI HCC
    go_enter Tryz.func22, Tryz.ntmps22
    go_wp2_with fail
    refine bodyPost_ret (by simp [results, Tryz.results22, go_sem]; try rfl) rfl ?_
    rw [E.out]
    exact ⟨⟨2, 0, .slice none 0 0, 0, -1⟩, rfl, ⟨rfl, by unfold in64; omega, by unfold in64; omega⟩, (Keeps.refl _ _).alloc _⟩
  · have E : Hid (P = some (.ct 1 (-1), 1)) := Lib.hid (by rw [HP.out]; rfl)
    clear HP HI HCC
    go_enter Tryz.func22, Tryz.ntmps22
    go_wp2_with fail
    refine bodyPost_ret (by simp [results, Tryz.results22, go_sem]; try rfl) rfl ?_
    rw [E.out]
    exact ⟨⟨2, 0, .slice none 0 0, 1, -1⟩, rfl, ⟨rfl, by unfold in64; omega, by unfold in64; omega⟩, (Keeps.refl _ _).alloc _⟩
  · have E : Hid (P = some (.ct 0 (1), 1)) := Lib.hid (by rw [HP.out]; rfl)
    clear HP HI HCC
    go_enter Tryz.func22, Tryz.ntmps22
    go_wp2_with fail
    refine bodyPost_ret (by simp [results, Tryz.results22, go_sem]; try rfl) rfl ?_
    rw [E.out]
    exact ⟨⟨2, 0, .slice none 0 0, 0, 1⟩, rfl, ⟨rfl, by unfold in64; omega, by unfold in64; omega⟩, (Keeps.refl _ _).alloc _⟩
set_option maxHeartbeats 16000000 in
theorem rtoken_dot (r : Int) (t : List Int) (b off cap : Nat) (w : World) (h : ISl w (.slice (some ⟨b, off, none⟩) (t.length + 1) cap) (r :: t)) (hl : t.length ≤ 200) (hr : r = 46) : Calls Tryz.prog 22 #[.slice (some ⟨b, off, none⟩) (t.length + 1) cap] w fun e w' => TokE w (tokP (r :: t)) e w' := by
  obtain ⟨_, _, e1, hcap, hc⟩ := h.cells
  simp only [List.length_cons] at e1 hcap hc
  injection e1 with e1 _ e2
  subst e1 e2
  obtain ⟨_, _, e1, hcc⟩ := hc (by omega)
  injection e1 with e1
  injection e1 with e1 e2
  subst e1 e2
  obtain ⟨c0, c1, c2⟩ := hcc 0 r rfl
  simp only [Nat.add_zero] at c0
  have x0 := alloc_cell c0 (.cells #[.int .i64 0, .int .i64 0, .slice none 0 0, .int .i64 0, .int .i64 0] 63)
  have HCC := Lib.hid hcc
  have HI := Lib.hid h
  have HP := Lib.hid (tokP_cons r t)
  generalize tokP (r :: t) = P at *
  clear hc hcc c0 h
  subst hr
  have E : Hid (P = some (.pt [(0, 9), (11, 1114111)], 1)) := Lib.hid (by rw [HP.out]; rfl)
  clear HP HI HCC
  go_enter Tryz.func22, Tryz.ntmps22
  go_wp2_with fail
  refine bodyPost_ret (by simp [results, Tryz.results22, go_sem]; try rfl) rfl ?_
  rw [E.out]
  have h9 := rown_pair (w.alloc (.cells #[.int .i64 0, .int .i64 0, .slice (some ⟨w.heap.size + 1, 0, none⟩) 2 2, .int .i64 0, .int .i64 0] 63)) 0 9 11 1114111
  rw [show (w.alloc (.cells #[.int .i64 0, .int .i64 0, .slice (some ⟨w.heap.size + 1, 0, none⟩) 2 2, .int .i64 0, .int .i64 0] 63)).heap.size = w.heap.size + 1 by simp] at h9
  exact ⟨⟨0, 0, .slice (some ⟨w.heap.size + 1, 0, none⟩) 2 2, 0, 0⟩, rfl, lit_pt (by simp) h9.1 (by simp) (by intro p hp; simp at hp; rcases hp with rfl | rfl <;> (unfold in64; decide)), ((Keeps.refl _ _).alloc _).alloc _⟩
set_option maxHeartbeats 16000000 in
theorem rtoken_no (r : Int) (t : List Int) (b off cap : Nat) (w : World) (h : ISl w (.slice (some ⟨b, off, none⟩) (t.length + 1) cap) (r :: t)) (hl : t.length ≤ 200) (hr : r = 93 ∨ r = 125) : Calls Tryz.prog 22 #[.slice (some ⟨b, off, none⟩) (t.length + 1) cap] w fun e w' => TokE w (tokP (r :: t)) e w' := by
  obtain ⟨_, _, e1, hcap, hc⟩ := h.cells
  simp only [List.length_cons] at e1 hcap hc
  injection e1 with e1 _ e2
  subst e1 e2
  obtain ⟨_, _, e1, hcc⟩ := hc (by omega)
  injection e1 with e1
  injection e1 with e1 e2
  subst e1 e2
  obtain ⟨c0, c1, c2⟩ := hcc 0 r rfl
  simp only [Nat.add_zero] at c0
  have x0 := alloc_cell c0 (.cells #[.int .i64 0, .int .i64 0, .slice none 0 0, .int .i64 0, .int .i64 0] 63)
  have HCC := Lib.hid hcc
  have HI := Lib.hid h
  have HP := Lib.hid (tokP_cons r t)
  generalize tokP (r :: t) = P at *
  clear hc hcc c0 h
  have E : Hid (P = none) := Lib.hid (by rw [HP.out]; rcases hr with rfl | rfl <;> rfl)
  clear HP HI HCC
  rcases hr with rfl | rfl
  · skip
    go_enter Tryz.func22, Tryz.ntmps22
    go_wp2_with fail
    refine bodyPost_ret (by simp [results, Tryz.results22, go_sem]; try rfl) rfl ?_
    rw [E.out]
    exact ⟨rfl, (Keeps.refl _ _).alloc _⟩
  · skip
    go_enter Tryz.func22, Tryz.ntmps22
    go_wp2_with fail
    refine bodyPost_ret (by simp [results, Tryz.results22, go_sem]; try rfl) rfl ?_
    rw [E.out]
    exact ⟨rfl, (Keeps.refl _ _).alloc _⟩
end Go.Proofs.YtpcbfmbpbegjgaaGreat
