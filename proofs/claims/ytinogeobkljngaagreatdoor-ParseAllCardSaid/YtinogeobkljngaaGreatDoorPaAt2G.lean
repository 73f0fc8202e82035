/-
  The parser's atom: all its other cases.
-/
import Derived.Test.YtinogeobkljngaaGreatDoorMg13
import Derived.Test.YtinogeobkljngaaGreatDoorMg8
namespace Go.Proofs.YtinogeobkljngaaGreatDoor
open Go.RowKit
set_option linter.unusedVariables false
set_option linter.unusedSimpArgs false
set_option maxRecDepth 100000

/-- The result's block as it was laid. -/
theorem res_facts {w wX : World} {pb : Nat} (K : Keeps (OnlyP pb) (w.alloc (.cells #[.int .i64 0, .slice none 0 0, .int .i64 0, .int .i64 0, .slice none 0 0] 26)) wX) (hpb : pb < w.heap.size) :
    (wX.cell? ⟨w.heap.size, 0, none⟩ = some (.int .i64 0) ∧ wX.cell? ⟨w.heap.size, 1, none⟩ = some (.slice none 0 0) ∧ wX.cell? ⟨w.heap.size, 2, none⟩ = some (.int .i64 0) ∧ wX.cell? ⟨w.heap.size, 3, none⟩ = some (.int .i64 0) ∧ wX.cell? ⟨w.heap.size, 4, none⟩ = some (.slice none 0 0)) ∧
    (wX.frozen? ⟨w.heap.size, 0, none⟩ = false ∧ wX.frozen? ⟨w.heap.size, 1, none⟩ = false ∧ wX.frozen? ⟨w.heap.size, 2, none⟩ = false ∧ wX.frozen? ⟨w.heap.size, 3, none⟩ = false ∧ wX.frozen? ⟨w.heap.size, 4, none⟩ = false) := by
  have hne1 : ¬ (w.heap.size = pb) := by omega
  exact ⟨⟨K.cell (by simp [go_sem]) hne1, K.cell (by simp [go_sem]) hne1, K.cell (by simp [go_sem]) hne1, K.cell (by simp [go_sem]) hne1, K.cell (by simp [go_sem]) hne1⟩,
    K.frozen (by simp [go_sem]) (by simp) hne1, K.frozen (by simp [go_sem]) (by simp) hne1, K.frozen (by simp [go_sem]) (by simp) hne1, K.frozen (by simp [go_sem]) (by simp) hne1, K.frozen (by simp [go_sem]) (by simp) hne1⟩
/-- A tree has been stored over it. -/
theorem tree_close {w wX wE : World} {pb : Nat} {rv : Value} {rs : List Int} {s' : PS} {t : T} {v : NV} (hpb : pb < w.heap.size) (hrb : ∀ b, rv.ownBlock = some b → b < w.heap.size)
    (K : Keeps (OnlyP pb) (w.alloc (.cells #[.int .i64 0, .slice none 0 0, .int .i64 0, .int .i64 0, .slice none 0 0] 26)) wX) (hP : PaAt wX pb rv rs s')
    (hT : TAt wX (fun b => w.heap.size < b ∧ b < wX.heap.size) v t) (kE : Keeps (fun b => b = w.heap.size) wX wE) : TreeRet w pb rv rs (t, s') (.returned v.val) wE := by
  have hs := K.size
  simp at hs
  have hs2 := kE.size
  refine ⟨v, rfl, hT.keepsTo kE (fun b hb e => by omega) (fun b hb => ⟨by omega, by omega⟩), hP.keeps kE (by omega) (fun b hb e => by have := hrb b hb; omega), ?_⟩
  exact (Keeps.trans (by (repeat' (with_reducible first | exact Keeps.refl _ _ | assumption | refine Keeps.drawN ?_ _ | refine Keeps.drew ?_ | refine Keeps.setCell ?_ ?_ _ | refine Keeps.alloc ?_ _)) <;> (first | exact Or.inr (Nat.le_refl _) | exact Or.inl rfl | exact Or.inl (Or.inl rfl) | exact Or.inl (Or.inr rfl) | (right; simp; done) | (right; simp; omega))) K).trans2 kE (fun b hb e => by omega)
/-- A set that a call made, as a node's. -/
theorem charT_at {w' : World} {lo : Nat} {u : Value} {L : List (Int × Int)} (h : w'.ownsRow lo 61 2 u L.length (cellsOf 2 encR L)) (hl : L.length ≤ 4611686018427387904) (hr : ∀ p ∈ L, in64 p.1 ∧ in64 p.2) :
    TAt w' (fun b => lo ≤ b ∧ b < w'.heap.size) ⟨1, u, 0, 0, .slice none 0 0⟩ (charT L) := by
  exact ⟨rfl, rfl, rfl, zero64, zero64, ⟨SlOf.ofOwn h hl, hr⟩, fun b hb => ⟨ownBlock_base h b hb, own_lt h b hb⟩, ⟨[], SlOf.nil _ _ _, rfl⟩, fun b hb => by simp [Value.ownBlock] at hb⟩

theorem norm_len {l : List (Int × Int)} (h : Norm l) : l.length ≤ 1114112 := by
  have h1 := (sumR_nonneg l h).2
  have h2 : ∀ l : List (Int × Int), (∀ p ∈ l, p.1 ≤ p.2) → (l.length : Int) ≤ sumR l := by
    intro l
    induction l with
    | nil => intro _; simp [sumR_nil]
    | cons p l ih =>
      intro hp
      have h3 := ih (fun q hq => hp q (by simp [hq]))
      have h4 := hp p (by simp)
      rw [sumR_cons]; simp; omega
  have h5 := h2 l (fun p hp => (h.rng p hp).2.1)
  omega

def AtomR (f : PS → T × PS) (rs : List Int) (w : World) (pb : Nat) (rv : Value) (s : PS) : Prop :=
  Calls Tryz.prog 48 #[.pointer (some ⟨pb, 0, none⟩)] w (TreeRet w pb rv rs (atomP f rs s))

set_option maxHeartbeats 8000000 in
theorem atom_begin {f : PS → T × PS} {rs : List Int} (hlen : rs.length ≤ 9000) (w : World) (pb : Nat) (rv : Value) (s : PS) (h : PaAt w pb rv rs s) (hr : pk rs s = 94) : AtomR f rs w pb rv s := by
  have hpb := h.lt
  have hpos := (pk_room (rs := rs) (s := s) (by omega)).1
  unfold AtomR
  rw [show atomP f rs s = (⟨2, [], 0, 0, .nil⟩, nx rs s) by unfold atomP; rw [if_neg (by omega), if_pos hr]]
  have HN := Lib.hid (fun (W : World) (hW : PaAt W pb rv rs s) => next_any W pb rv rs s hW (by omega))
  have HH := Lib.hid h
  clear h
  go_enter Tryz.func48, Tryz.ntmps48
  go_wp2_with fail
  refine (HN.out _ (HH.out.keepsF (by (repeat' (with_reducible first | exact Keeps.refl _ _ | assumption | refine Keeps.drawN ?_ _ | refine Keeps.drew ?_ | refine Keeps.setCell ?_ ?_ _ | refine Keeps.alloc ?_ _)) <;> (first | exact Or.inr (Nat.le_refl _) | exact Or.inl rfl | exact Or.inl (Or.inl rfl) | exact Or.inl (Or.inr rfl) | (right; simp; done) | (right; simp; omega))))).mono ?_
  rintro e w3 ⟨rfl, h3, k3⟩
  rw [hr]
  obtain ⟨⟨y0, y1, y2, y3, y4⟩, q0, q1, q2, q3, q4⟩ := res_facts k3 hpb
  have H3 := Lib.hid h3
  have K3 := Lib.hid k3
  have hs3 := k3.size
  simp at hs3
  clear h3 k3
  go_wp2_with fail
  obtain ⟨wE, hWE⟩ : ∃ W, st5 (w3) w.heap.size (.int .i64 2) (.slice none 0 0) (.int .i64 0) (.int .i64 0) (.slice none 0 0) = W := ⟨_, rfl⟩
  obtain ⟨r0, r1, r2, r3, r4, kE⟩ := st5_facts (w3) w.heap.size y0 y1 y2 y3 y4 (.int .i64 2) (.slice none 0 0) (.int .i64 0) (.int .i64 0) (.slice none 0 0)
  rw [hWE] at r0 r1 r2 r3 r4 kE
  unfold st5 at hWE
  rw [hWE]
  have HKE := Lib.hid kE
  clear kE hWE y0 y1 y2 y3 y4
  refine bodyPost_ret (by simp [results, Tryz.results48, go_sem, r0, r1, r2, r3, r4]; try rfl) rfl ?_
  exact tree_close (v := ⟨2, .slice none 0 0, 0, 0, .slice none 0 0⟩) hpb HH.out.rb K3.out H3.out ⟨rfl, rfl, rfl, zero64, zero64, ⟨SlOf.nil _ _ _, fun p hp => by cases hp⟩, fun b hb => by simp [Value.ownBlock] at hb, ⟨[], SlOf.nil _ _ _, rfl⟩, fun b hb => by simp [Value.ownBlock] at hb⟩ HKE.out

set_option maxHeartbeats 8000000 in
theorem atom_end {f : PS → T × PS} {rs : List Int} (hlen : rs.length ≤ 9000) (w : World) (pb : Nat) (rv : Value) (s : PS) (h : PaAt w pb rv rs s) (hr : pk rs s = 36) : AtomR f rs w pb rv s := by
  have hpb := h.lt
  have hpos := (pk_room (rs := rs) (s := s) (by omega)).1
  unfold AtomR
  rw [show atomP f rs s = (⟨3, [], 0, 0, .nil⟩, nx rs s) by unfold atomP; rw [if_neg (by omega), if_neg (by omega), if_pos hr]]
  have HN := Lib.hid (fun (W : World) (hW : PaAt W pb rv rs s) => next_any W pb rv rs s hW (by omega))
  have HH := Lib.hid h
  clear h
  go_enter Tryz.func48, Tryz.ntmps48
  go_wp2_with fail
  refine (HN.out _ (HH.out.keepsF (by (repeat' (with_reducible first | exact Keeps.refl _ _ | assumption | refine Keeps.drawN ?_ _ | refine Keeps.drew ?_ | refine Keeps.setCell ?_ ?_ _ | refine Keeps.alloc ?_ _)) <;> (first | exact Or.inr (Nat.le_refl _) | exact Or.inl rfl | exact Or.inl (Or.inl rfl) | exact Or.inl (Or.inr rfl) | (right; simp; done) | (right; simp; omega))))).mono ?_
  rintro e w3 ⟨rfl, h3, k3⟩
  rw [hr]
  obtain ⟨⟨y0, y1, y2, y3, y4⟩, q0, q1, q2, q3, q4⟩ := res_facts k3 hpb
  have H3 := Lib.hid h3
  have K3 := Lib.hid k3
  have hs3 := k3.size
  simp at hs3
  clear h3 k3
  go_wp2_with fail
  obtain ⟨wE, hWE⟩ : ∃ W, st5 (w3) w.heap.size (.int .i64 3) (.slice none 0 0) (.int .i64 0) (.int .i64 0) (.slice none 0 0) = W := ⟨_, rfl⟩
  obtain ⟨r0, r1, r2, r3, r4, kE⟩ := st5_facts (w3) w.heap.size y0 y1 y2 y3 y4 (.int .i64 3) (.slice none 0 0) (.int .i64 0) (.int .i64 0) (.slice none 0 0)
  rw [hWE] at r0 r1 r2 r3 r4 kE
  unfold st5 at hWE
  rw [hWE]
  have HKE := Lib.hid kE
  clear kE hWE y0 y1 y2 y3 y4
  refine bodyPost_ret (by simp [results, Tryz.results48, go_sem, r0, r1, r2, r3, r4]; try rfl) rfl ?_
  exact tree_close (v := ⟨3, .slice none 0 0, 0, 0, .slice none 0 0⟩) hpb HH.out.rb K3.out H3.out ⟨rfl, rfl, rfl, zero64, zero64, ⟨SlOf.nil _ _ _, fun p hp => by cases hp⟩, fun b hb => by simp [Value.ownBlock] at hb, ⟨[], SlOf.nil _ _ _, rfl⟩, fun b hb => by simp [Value.ownBlock] at hb⟩ HKE.out

set_option maxHeartbeats 8000000 in
theorem atom_dot {f : PS → T × PS} {rs : List Int} (hlen : rs.length ≤ 9000) (w : World) (pb : Nat) (rv : Value) (s : PS) (h : PaAt w pb rv rs s) (hr : pk rs s = 46) : AtomR f rs w pb rv s := by
  have hpb := h.lt
  have hpos := (pk_room (rs := rs) (s := s) (by omega)).1
  unfold AtomR
  rw [show atomP f rs s = (charT [(0, 9), (11, 1114111)], nx rs s) by unfold atomP; rw [if_neg (by omega), if_neg (by omega), if_neg (by omega), if_pos hr]]
  have HN := Lib.hid (fun (W : World) (hW : PaAt W pb rv rs s) => next_any W pb rv rs s hW (by omega))
  have HH := Lib.hid h
  clear h
  go_enter Tryz.func48, Tryz.ntmps48
  go_wp2_with fail
  refine (HN.out _ (HH.out.keepsF (by (repeat' (with_reducible first | exact Keeps.refl _ _ | assumption | refine Keeps.drawN ?_ _ | refine Keeps.drew ?_ | refine Keeps.setCell ?_ ?_ _ | refine Keeps.alloc ?_ _)) <;> (first | exact Or.inr (Nat.le_refl _) | exact Or.inl rfl | exact Or.inl (Or.inl rfl) | exact Or.inl (Or.inr rfl) | (right; simp; done) | (right; simp; omega))))).mono ?_
  rintro e w3 ⟨rfl, h3, k3⟩
  rw [hr]
  have H3 := Lib.hid h3
  have K3 := Lib.hid k3
  have hs3 := k3.size
  simp at hs3
  clear h3 k3
  go_wp2_with fail
  refine (one_u _ _).mono ?_
  rintro e w4 ⟨u4, rfl, h4⟩
  have R4 := Lib.hid (h4.read (by simp) (by intro p hp; simp at hp; subst hp; unfold in64; simp))
  have K4 := Lib.hid h4.2
  obtain ⟨ua, uc, rfl⟩ := ownsRow_slice h4.1
  clear h4
  go_wp2_with fail
  refine (not_any [(10, 10)] _ _ R4.out (by simp)).mono ?_
  rintro e w5 ⟨u5, out, rfl, hno, h5, hl5⟩
  obtain rfl : out = [(0, 9), (11, 1114111)] := norm_unique _ _ hno.1 (by simp [Norm]) (fun r => by
    rw [hno.2]; apply Bool.eq_iff_iff.2; simp [has, mem, inAll]; omega)
  obtain ⟨sa, sc, rfl⟩ := ownsRow_slice h5.1
  have hs4 := K4.out.size
  have hs5 := h5.2.size
  have KS : Hid (Keeps (OnlyP pb) (w.alloc (.cells #[.int .i64 0, .slice none 0 0, .int .i64 0, .int .i64 0, .slice none 0 0] 26)) w5) := Lib.hid (K3.out.trans ((K4.out.trans h5.2).mono (fun _ _ e => e.elim)))
  have HPS := Lib.hid (H3.out.keepsF (K4.out.trans h5.2))
  have HTS : Hid (TAt w5 (fun b => w.heap.size < b ∧ b < w5.heap.size) ⟨1, .slice sa 2 sc, 0, 0, .slice none 0 0⟩ (charT [(0, 9), (11, 1114111)])) := Lib.hid ((charT_at h5.1 (by simp) (norm64 hno.1)).keepsTo (Keeps.refl (fun _ => False) _) (fun _ _ => id) (fun b hb => ⟨by have := hb.1; omega, hb.2⟩))
  clear hno h5 hl5
  simp only [List.length_cons, List.length_nil, Nat.zero_add]
  obtain ⟨sn, hsn⟩ : ∃ n, (2 : Nat) = n := ⟨_, rfl⟩
  simp only [Nat.reduceAdd, hsn] at HTS ⊢
  clear hsn
  go_wp2_with fail
  refine (char_any sa sn sc _).mono ?_
  rintro e w9 ⟨rfl, k9⟩
  have KX := Lib.hid (KS.out.trans (k9.mono (T := OnlyP pb) (fun _ _ e => e.elim)))
  have HPX := Lib.hid (HPS.out.keepsF k9)
  have HTX := Lib.hid (HTS.out.keepsTo (Q := fun b => w.heap.size < b ∧ b < w9.heap.size) k9 (fun _ _ => id) (fun b hb => ⟨hb.1, by have := k9.size; omega⟩))
  obtain ⟨⟨y0, y1, y2, y3, y4⟩, q0, q1, q2, q3, q4⟩ := res_facts KX.out hpb
  clear k9
  unfold NV.val
  go_wp2_with fail
  obtain ⟨wE, hWE⟩ : ∃ W, st5 (w9) w.heap.size (.int .i64 1) (.slice sa sn sc) (.int .i64 0) (.int .i64 0) (.slice none 0 0) = W := ⟨_, rfl⟩
  obtain ⟨r0, r1, r2, r3, r4, kE⟩ := st5_facts (w9) w.heap.size y0 y1 y2 y3 y4 (.int .i64 1) (.slice sa sn sc) (.int .i64 0) (.int .i64 0) (.slice none 0 0)
  rw [hWE] at r0 r1 r2 r3 r4 kE
  unfold st5 at hWE
  rw [hWE]
  have HKE := Lib.hid kE
  clear kE hWE y0 y1 y2 y3 y4
  refine bodyPost_ret (by simp [results, Tryz.results48, go_sem, r0, r1, r2, r3, r4]; try rfl) rfl ?_
  exact tree_close (v := ⟨1, .slice sa sn sc, 0, 0, .slice none 0 0⟩) hpb HH.out.rb KX.out HPX.out HTX.out HKE.out

set_option maxHeartbeats 8000000 in
theorem atom_class {f : PS → T × PS} {rs : List Int} (hlen : rs.length ≤ 9000) (w : World) (pb : Nat) (rv : Value) (s : PS) (h : PaAt w pb rv rs s) (hr : pk rs s = 91) : AtomR f rs w pb rv s := by
  have hpb := h.lt
  have hpos := (pk_room (rs := rs) (s := s) (by omega)).1
  unfold AtomR
  rw [show atomP f rs s = (charT (clsL rs (nx rs s)), (clsR rs (nx rs s)).2) by unfold atomP; rw [if_neg (by omega), if_neg (by omega), if_neg (by omega), if_neg (by omega), if_pos hr]]
  have HN := Lib.hid (fun (W : World) (hW : PaAt W pb rv rs s) => next_any W pb rv rs s hW (by omega))
  have HH := Lib.hid h
  clear h
  have hnx : (nx rs s).pos = s.pos + 1 := by rw [nx_ok (by omega)]
  have hpn : (nx rs s).pos ≤ 10000 := by omega
  obtain ⟨s1, hs1⟩ : ∃ x, nx rs s = x := ⟨_, rfl⟩
  rw [hs1] at hpn
  rw [hs1] at HN ⊢
  clear hnx hs1
  go_enter Tryz.func48, Tryz.ntmps48
  go_wp2_with fail
  refine (HN.out _ (HH.out.keepsF (by (repeat' (with_reducible first | exact Keeps.refl _ _ | assumption | refine Keeps.drawN ?_ _ | refine Keeps.drew ?_ | refine Keeps.setCell ?_ ?_ _ | refine Keeps.alloc ?_ _)) <;> (first | exact Or.inr (Nat.le_refl _) | exact Or.inl rfl | exact Or.inl (Or.inl rfl) | exact Or.inl (Or.inr rfl) | (right; simp; done) | (right; simp; omega))))).mono ?_
  rintro e w3 ⟨rfl, h3, k3⟩
  rw [hr]
  have H3 := Lib.hid h3
  have K3 := Lib.hid k3
  have hs3 := k3.size
  simp at hs3
  clear h3 k3
  go_wp2_with fail
  refine (class_any _ _ _ _ _ H3.out (by omega) hpn).mono ?_
  rintro e w5 ⟨u5, rfl, h5, k5, hp5, hno⟩
  obtain ⟨sa, sc, rfl⟩ := ownsRow_slice h5
  have hs5 := k5.size
  have KS := Lib.hid (K3.out.trans k5)
  have HPS := Lib.hid hp5
  have HTS : Hid (TAt w5 (fun b => w.heap.size < b ∧ b < w5.heap.size) ⟨1, .slice sa (clsL rs s1).length sc, 0, 0, .slice none 0 0⟩ (charT (clsL rs s1))) := Lib.hid ((charT_at h5 (by have := norm_len hno; omega) (norm64 hno)).keepsTo (Keeps.refl (fun _ => False) _) (fun _ _ => id) (fun b hb => ⟨by have := hb.1; omega, hb.2⟩))
  clear hno h5 k5 hp5
  obtain ⟨sn, hsn⟩ : ∃ n, (clsL rs s1).length = n := ⟨_, rfl⟩
  rw [hsn] at HTS ⊢
  clear hsn
  go_wp2_with fail
  refine (char_any sa sn sc _).mono ?_
  rintro e w9 ⟨rfl, k9⟩
  have KX := Lib.hid (KS.out.trans (k9.mono (T := OnlyP pb) (fun _ _ e => e.elim)))
  have HPX := Lib.hid (HPS.out.keepsF k9)
  have HTX := Lib.hid (HTS.out.keepsTo (Q := fun b => w.heap.size < b ∧ b < w9.heap.size) k9 (fun _ _ => id) (fun b hb => ⟨hb.1, by have := k9.size; omega⟩))
  obtain ⟨⟨y0, y1, y2, y3, y4⟩, q0, q1, q2, q3, q4⟩ := res_facts KX.out hpb
  clear k9
  unfold NV.val
  go_wp2_with fail
  obtain ⟨wE, hWE⟩ : ∃ W, st5 (w9) w.heap.size (.int .i64 1) (.slice sa sn sc) (.int .i64 0) (.int .i64 0) (.slice none 0 0) = W := ⟨_, rfl⟩
  obtain ⟨r0, r1, r2, r3, r4, kE⟩ := st5_facts (w9) w.heap.size y0 y1 y2 y3 y4 (.int .i64 1) (.slice sa sn sc) (.int .i64 0) (.int .i64 0) (.slice none 0 0)
  rw [hWE] at r0 r1 r2 r3 r4 kE
  unfold st5 at hWE
  rw [hWE]
  have HKE := Lib.hid kE
  clear kE hWE y0 y1 y2 y3 y4
  refine bodyPost_ret (by simp [results, Tryz.results48, go_sem, r0, r1, r2, r3, r4]; try rfl) rfl ?_
  exact tree_close (v := ⟨1, .slice sa sn sc, 0, 0, .slice none 0 0⟩) hpb HH.out.rb KX.out HPX.out HTX.out HKE.out

set_option maxHeartbeats 8000000 in
theorem atom_esc {f : PS → T × PS} {rs : List Int} (hlen : rs.length ≤ 9000) (w : World) (pb : Nat) (rv : Value) (s : PS) (h : PaAt w pb rv rs s) (hr : pk rs s = 92) : AtomR f rs w pb rv s := by
  have hpb := h.lt
  have hpos := (pk_room (rs := rs) (s := s) (by omega)).1
  unfold AtomR
  rw [show atomP f rs s = (charT (escL rs (nx rs s)), escS rs (nx rs s)) by unfold atomP; rw [if_neg (by omega), if_neg (by omega), if_neg (by omega), if_neg (by omega), if_neg (by omega), if_pos hr]]
  have HN := Lib.hid (fun (W : World) (hW : PaAt W pb rv rs s) => next_any W pb rv rs s hW (by omega))
  have HH := Lib.hid h
  clear h
  have hnx : (nx rs s).pos = s.pos + 1 := by rw [nx_ok (by omega)]
  have hpn : (nx rs s).pos + 1 ≤ 1000000 := by omega
  obtain ⟨s1, hs1⟩ : ∃ x, nx rs s = x := ⟨_, rfl⟩
  rw [hs1] at hpn
  rw [hs1] at HN ⊢
  clear hnx hs1
  go_enter Tryz.func48, Tryz.ntmps48
  go_wp2_with fail
  refine (HN.out _ (HH.out.keepsF (by (repeat' (with_reducible first | exact Keeps.refl _ _ | assumption | refine Keeps.drawN ?_ _ | refine Keeps.drew ?_ | refine Keeps.setCell ?_ ?_ _ | refine Keeps.alloc ?_ _)) <;> (first | exact Or.inr (Nat.le_refl _) | exact Or.inl rfl | exact Or.inl (Or.inl rfl) | exact Or.inl (Or.inr rfl) | (right; simp; done) | (right; simp; omega))))).mono ?_
  rintro e w3 ⟨rfl, h3, k3⟩
  rw [hr]
  have H3 := Lib.hid h3
  have K3 := Lib.hid k3
  have hs3 := k3.size
  simp at hs3
  clear h3 k3
  go_wp2_with fail
  refine (escape_any _ _ _ _ _ H3.out hpn).mono ?_
  rintro e w5 ⟨u5, rfl, h5, hp5, k5⟩
  have hel := escL_len HH.out.rng s1
  obtain ⟨sa, sc, rfl⟩ := ownsRow_slice h5
  have hs5 := k5.size
  have KS := Lib.hid (K3.out.trans k5)
  have HPS := Lib.hid hp5
  have HTS : Hid (TAt w5 (fun b => w.heap.size < b ∧ b < w5.heap.size) ⟨1, .slice sa (escL rs s1).length sc, 0, 0, .slice none 0 0⟩ (charT (escL rs s1))) := Lib.hid ((charT_at h5 (by omega) (fun p hp => by have := hel.2.2 p hp; unfold in64; omega)).keepsTo (Keeps.refl (fun _ => False) _) (fun _ _ => id) (fun b hb => ⟨by have := hb.1; omega, hb.2⟩))
  clear hel h5 k5 hp5
  obtain ⟨sn, hsn⟩ : ∃ n, (escL rs s1).length = n := ⟨_, rfl⟩
  rw [hsn] at HTS ⊢
  clear hsn
  go_wp2_with fail
  refine (char_any sa sn sc _).mono ?_
  rintro e w9 ⟨rfl, k9⟩
  have KX := Lib.hid (KS.out.trans (k9.mono (T := OnlyP pb) (fun _ _ e => e.elim)))
  have HPX := Lib.hid (HPS.out.keepsF k9)
  have HTX := Lib.hid (HTS.out.keepsTo (Q := fun b => w.heap.size < b ∧ b < w9.heap.size) k9 (fun _ _ => id) (fun b hb => ⟨hb.1, by have := k9.size; omega⟩))
  obtain ⟨⟨y0, y1, y2, y3, y4⟩, q0, q1, q2, q3, q4⟩ := res_facts KX.out hpb
  clear k9
  unfold NV.val
  go_wp2_with fail
  obtain ⟨wE, hWE⟩ : ∃ W, st5 (w9) w.heap.size (.int .i64 1) (.slice sa sn sc) (.int .i64 0) (.int .i64 0) (.slice none 0 0) = W := ⟨_, rfl⟩
  obtain ⟨r0, r1, r2, r3, r4, kE⟩ := st5_facts (w9) w.heap.size y0 y1 y2 y3 y4 (.int .i64 1) (.slice sa sn sc) (.int .i64 0) (.int .i64 0) (.slice none 0 0)
  rw [hWE] at r0 r1 r2 r3 r4 kE
  unfold st5 at hWE
  rw [hWE]
  have HKE := Lib.hid kE
  clear kE hWE y0 y1 y2 y3 y4
  refine bodyPost_ret (by simp [results, Tryz.results48, go_sem, r0, r1, r2, r3, r4]; try rfl) rfl ?_
  exact tree_close (v := ⟨1, .slice sa sn sc, 0, 0, .slice none 0 0⟩) hpb HH.out.rb KX.out HPX.out HTX.out HKE.out

set_option maxHeartbeats 8000000 in
theorem atom_other {f : PS → T × PS} {rs : List Int} (hlen : rs.length ≤ 9000) (w : World) (pb : Nat) (rv : Value) (s : PS) (h : PaAt w pb rv rs s) (hr : 0 ≤ pk rs s ∧ pk rs s ≠ 40 ∧ pk rs s ≠ 94 ∧ pk rs s ≠ 36 ∧ pk rs s ≠ 46 ∧ pk rs s ≠ 91 ∧ pk rs s ≠ 92) : AtomR f rs w pb rv s := by
  have hpb := h.lt
  have hpos := (pk_room (rs := rs) (s := s) (by omega)).1
  unfold AtomR
  rw [show atomP f rs s = (charT [(pk rs s, pk rs s)], ⟨s.pos + 1, s.deep, (nx rs s).bad || amg sgL (pk rs s)⟩) by unfold atomP; rw [if_neg hr.2.1, if_neg hr.2.2.1, if_neg hr.2.2.2.1, if_neg hr.2.2.2.2.1, if_neg hr.2.2.2.2.2.1, if_neg hr.2.2.2.2.2.2]]
  have HN := Lib.hid (fun (W : World) (hW : PaAt W pb rv rs s) => next_any W pb rv rs s hW (by omega))
  have HH := Lib.hid h
  clear h
  have hb : s.bad = false := (pk_room (rs := rs) (s := s) (by omega)).2
  have hnx : nx rs s = ⟨s.pos + 1, s.deep, false⟩ := by rw [nx_ok (by omega), hb]
  rw [hnx] at HN ⊢
  have hle := pk_le HH.out
  obtain ⟨h0, m1, m2, m3, m4, m5, m6⟩ := hr
  have f1 : (pk rs s == 40) = false := by simpa using m1
  have f2 : (pk rs s == 94) = false := by simpa using m2
  have f3 : (pk rs s == 36) = false := by simpa using m3
  have f4 : (pk rs s == 46) = false := by simpa using m4
  have f5 : (pk rs s == 91) = false := by simpa using m5
  have f6 : (pk rs s == 92) = false := by simpa using m6
  have HG : Hid (∀ W, Calls Tryz.prog 66 #[.string ⟨#[46, 94, 36, 124, 40, 41, 91, 93, 123, 125, 42, 43, 63, 92]⟩, .int .i64 (pk rs s)] W fun e w' => e = .returned (.bool (amg sgL (pk rs s))) ∧ W = w') := Lib.hid (fun W => among_any ⟨#[46, 94, 36, 124, 40, 41, 91, 93, 123, 125, 42, 43, 63, 92]⟩ (pk rs s) W)
  obtain ⟨q, hq⟩ : ∃ q, amg sgL (pk rs s) = q := ⟨_, rfl⟩
  rw [hq] at HG ⊢
  clear hq hnx m1 m2 m3 m4 m5 m6
  simp only [Bool.false_or]
  generalize pk rs s = r at *
  go_enter Tryz.func48, Tryz.ntmps48
  go_wp2_with fail
  refine (HN.out _ (HH.out.keepsF (by (repeat' (with_reducible first | exact Keeps.refl _ _ | assumption | refine Keeps.drawN ?_ _ | refine Keeps.drew ?_ | refine Keeps.setCell ?_ ?_ _ | refine Keeps.alloc ?_ _)) <;> (first | exact Or.inr (Nat.le_refl _) | exact Or.inl rfl | exact Or.inl (Or.inl rfl) | exact Or.inl (Or.inr rfl) | (right; simp; done) | (right; simp; omega))))).mono ?_
  rintro e w3 ⟨rfl, h3, k3⟩
  have c3 := h3.c3
  have r3 := h3.fr 3
  have hb3 := h3.lt
  simp only at c3
  have H3 := Lib.hid h3
  have K3 := Lib.hid k3
  have hs3 := k3.size
  simp at hs3
  clear h3 k3
  go_wp2_with fail
  refine (HG.out _).mono ?_
  rintro e w4 ⟨rfl, rfl⟩
  have HP4 : Hid (PaAt (w3.setCell ⟨pb, 3, none⟩ (.bool q)) pb rv rs ⟨s.pos + 1, s.deep, q⟩) := Lib.hid (H3.out.setBad q)
  have K4 := Lib.hid (K3.out.set (p := ⟨pb, 3, none⟩) rfl (.bool q))
  go_wp2_with fail
  refine (one_u _ _).mono ?_
  rintro e w5 ⟨u5, rfl, h5⟩
  obtain ⟨sa, sc, rfl⟩ := ownsRow_slice h5.1
  have hs5 := h5.2.size
  have hs4 := K4.out.size
  simp at hs4
  have KS : Hid (Keeps (OnlyP pb) (w.alloc (.cells #[.int .i64 0, .slice none 0 0, .int .i64 0, .int .i64 0, .slice none 0 0] 26)) w5) := Lib.hid (K4.out.trans (h5.2.mono (fun _ _ e => e.elim)))
  have HPS := Lib.hid (HP4.out.keepsF h5.2)
  have HTS : Hid (TAt w5 (fun b => w.heap.size < b ∧ b < w5.heap.size) ⟨1, .slice sa 1 sc, 0, 0, .slice none 0 0⟩ (charT [(r, r)])) := Lib.hid ((charT_at h5.1 (by simp) (by intro p hp; simp at hp; subst hp; unfold in64; simp only; omega)).keepsTo (Keeps.refl (fun _ => False) _) (fun _ _ => id) (fun b hb => ⟨by have := hb.1; simp at this; omega, hb.2⟩))
  clear h5
  obtain ⟨sn, hsn⟩ : ∃ n, (1 : Nat) = n := ⟨_, rfl⟩
  simp only [List.length_cons, List.length_nil, Nat.zero_add, hsn] at HTS ⊢
  clear hsn
  go_wp2_with fail
  refine (char_any sa sn sc _).mono ?_
  rintro e w9 ⟨rfl, k9⟩
  have KX := Lib.hid (KS.out.trans (k9.mono (T := OnlyP pb) (fun _ _ e => e.elim)))
  have HPX := Lib.hid (HPS.out.keepsF k9)
  have HTX := Lib.hid (HTS.out.keepsTo (Q := fun b => w.heap.size < b ∧ b < w9.heap.size) k9 (fun _ _ => id) (fun b hb => ⟨hb.1, by have := k9.size; omega⟩))
  obtain ⟨⟨y0, y1, y2, y3, y4⟩, q0, q1, q2, q3, q4⟩ := res_facts KX.out hpb
  clear k9
  unfold NV.val
  go_wp2_with fail
  obtain ⟨wE, hWE⟩ : ∃ W, st5 (w9) w.heap.size (.int .i64 1) (.slice sa sn sc) (.int .i64 0) (.int .i64 0) (.slice none 0 0) = W := ⟨_, rfl⟩
  obtain ⟨r0, r1, r2, r3, r4, kE⟩ := st5_facts (w9) w.heap.size y0 y1 y2 y3 y4 (.int .i64 1) (.slice sa sn sc) (.int .i64 0) (.int .i64 0) (.slice none 0 0)
  rw [hWE] at r0 r1 r2 r3 r4 kE
  unfold st5 at hWE
  rw [hWE]
  have HKE := Lib.hid kE
  clear kE hWE y0 y1 y2 y3 y4
  refine bodyPost_ret (by simp [results, Tryz.results48, go_sem, r0, r1, r2, r3, r4]; try rfl) rfl ?_
  exact tree_close (v := ⟨1, .slice sa sn sc, 0, 0, .slice none 0 0⟩) hpb HH.out.rb KX.out HPX.out HTX.out HKE.out

theorem atom_any {f : PS → T × PS} {rs : List Int} {C D : PS → Prop} (H : StepH f rs C D) (w : World) (pb : Nat) (rv : Value) (s : PS) (h : PaAt w pb rv rs s) (hi : Inv rs s) (hd : D s) (hr : 0 ≤ pk rs s) : AtomR f rs w pb rv s := by
  by_cases h1 : pk rs s = 40
  · exact atom_paren H w pb rv s h hi hd h1
  by_cases h2 : pk rs s = 94
  · exact atom_begin H.len w pb rv s h h2
  by_cases h3 : pk rs s = 36
  · exact atom_end H.len w pb rv s h h3
  by_cases h4 : pk rs s = 46
  · exact atom_dot H.len w pb rv s h h4
  by_cases h5 : pk rs s = 91
  · exact atom_class H.len w pb rv s h h5
  by_cases h6 : pk rs s = 92
  · exact atom_esc H.len w pb rv s h h6
  exact atom_other H.len w pb rv s h ⟨hr, h1, h2, h3, h4, h5, h6⟩
end Go.Proofs.YtinogeobkljngaaGreatDoor
