/-
  Several texts in one: Are two trees the same: the program's Same (and slices.EqualFunc). The parser's atom, given its alternatives.
-/
import Derived.Test.YtinogeobkljngaaGreatDoorMg12
import Derived.Test.YtinogeobkljngaaGreatDoorMg7
import Derived.Handy
section
namespace Go.Proofs.YtinogeobkljngaaGreatDoor
open Go.RowKit
set_option linter.unusedVariables false
set_option linter.unusedSimpArgs false
set_option maxRecDepth 100000

/-- A row of nodes that is read: of each its five cells. -/
def KRow (w : World) (P : Nat → Prop) (a : Option Addr) (L : List T) : Prop :=
  0 < L.length → ∃ b off, a = some ⟨b, off, none⟩ ∧ ∀ i k, L[i]? = some k → ∃ u : NV, TAt w P u k ∧ (∃ d1 e1 f1, u.sv = .slice d1 e1 f1) ∧ (∃ d2 e2 f2, u.kv = .slice d2 e2 f2) ∧
      w.cell? ⟨b, off + i * 5, none⟩ = some (.int .i64 u.op) ∧ w.cell? ⟨b, off + i * 5 + 1, none⟩ = some u.sv ∧ w.cell? ⟨b, off + i * 5 + 2, none⟩ = some (.int .i64 u.mn) ∧ w.cell? ⟨b, off + i * 5 + 3, none⟩ = some (.int .i64 u.mx) ∧ w.cell? ⟨b, off + i * 5 + 4, none⟩ = some u.kv
theorem TAt.krow {w : World} {P : Nat → Prop} {v : NV} {t : T} (h : TAt w P v t) : ∃ a1 n1 c1 a2 c2, v.sv = .slice a1 n1 c1 ∧ v.kv = .slice a2 t.kids.toL.length c2 ∧ t.kids.toL.length ≤ 4611686018427387904 ∧ KRow w P a2 t.kids.toL := h.open
theorem KRow.keep {w w' : World} {P : Nat → Prop} {a : Option Addr} {L : List T} (h : KRow w P a L) (K : Keeps (fun _ => False) w w') : KRow w' P a L := by
  intro h0
  obtain ⟨b, off, rfl, hc⟩ := h h0
  refine ⟨b, off, rfl, fun i k hi => ?_⟩
  obtain ⟨u, h1, h2, h3, x0, x1, x2, x3, x4⟩ := hc i k hi
  exact ⟨u, h1.keepsTo K (fun _ _ => id) (fun _ h => h), h2, h3, K.cell x0 id, K.cell x1 id, K.cell x2 id, K.cell x3 id, K.cell x4 id⟩
/-- One element, with its value written out. -/
theorem KRow.at {w : World} {P : Nat → Prop} {a : Option Addr} {L : List T} (h : KRow w P a L) {i : Nat} {k : T} (hi : L[i]? = some k) : ∃ b off uo d1 f1 g1 um ux d2 f2 g2, a = some ⟨b, off, none⟩ ∧
    TAt w P ⟨uo, .slice d1 f1 g1, um, ux, .slice d2 f2 g2⟩ k ∧ b < w.heap.size ∧
    w.cell? ⟨b, off + i * 5, none⟩ = some (.int .i64 uo) ∧ w.cell? ⟨b, off + i * 5 + 1, none⟩ = some (.slice d1 f1 g1) ∧ w.cell? ⟨b, off + i * 5 + 2, none⟩ = some (.int .i64 um) ∧ w.cell? ⟨b, off + i * 5 + 3, none⟩ = some (.int .i64 ux) ∧ w.cell? ⟨b, off + i * 5 + 4, none⟩ = some (.slice d2 f2 g2) := by
  have h0 : 0 < L.length := by
    have := (List.getElem?_eq_some_iff.1 hi).1; omega
  obtain ⟨b, off, rfl, hc⟩ := h h0
  obtain ⟨⟨uo, us, um, ux, uk⟩, h1, ⟨d1, f1, g1, q1⟩, ⟨d2, f2, g2, q2⟩, x0, x1, x2, x3, x4⟩ := hc i k hi
  obtain rfl := q1
  obtain rfl := q2
  exact ⟨b, off, uo, d1, f1, g1, um, ux, d2, f2, g2, rfl, h1, lt_of_cell x0, x0, x1, x2, x3, x4⟩

theorem T.eq_iff {t t' : T} : t = t' ↔ t.op = t'.op ∧ t.mn = t'.mn ∧ t.mx = t'.mx ∧ t.set = t'.set ∧ t.kids.toL = t'.kids.toL := by
  constructor
  · rintro rfl; exact ⟨rfl, rfl, rfl, rfl, rfl⟩
  · obtain ⟨a, b, c, d, e⟩ := t
    obtain ⟨a', b', c', d', e'⟩ := t'
    rintro ⟨rfl, rfl, rfl, rfl, h⟩
    have : e = e' := by have h1 := congrArg F.ofL h; rw [F.of_to, F.of_to] at h1; exact h1
    rw [this]
end Go.Proofs.YtinogeobkljngaaGreatDoor
end
section
namespace Go.Proofs.YtinogeobkljngaaGreatDoor
open Go.RowKit
set_option linter.unusedVariables false
set_option linter.unusedSimpArgs false
set_option maxRecDepth 100000

/-- New blocks between two worlds. -/
def Bt (w w' : World) : Nat → Prop := fun b => w.heap.size ≤ b ∧ b < w'.heap.size
/-- A parser's function has come back with a tree and a state. -/
def TreeRet (w : World) (pb : Nat) (rv : Value) (rs : List Int) (r : T × PS) (e : Ending) (w' : World) : Prop :=
  ∃ v : NV, e = .returned v.val ∧ TAt w' (Bt w w') v r.1 ∧ PaAt w' pb rv rs r.2 ∧ Keeps (OnlyP pb) w w'
def AltC (f : PS → T × PS) (rs : List Int) (C : PS → Prop) : Prop :=
  ∀ (w : World) (pb : Nat) (rv : Value) (s : PS), PaAt w pb rv rs s → Inv rs s → C s → Calls Tryz.prog 10 #[.pointer (some ⟨pb, 0, none⟩)] w (TreeRet w pb rv rs (f s))
structure StepH (f : PS → T × PS) (rs : List Int) (C D : PS → Prop) : Prop where
  go : ∀ s, Go1 rs s (f s).2
  alt : AltC f rs C
  cd : ∀ s, D s → s.bad = false → C ⟨s.pos + 1, s.deep + 1, decide (10 < s.deep + 1)⟩
  dd : ∀ s s', D s → Go1 rs s s' → D s'
  dp : ∀ s, D s → 0 ≤ s.deep ∧ s.deep ≤ 100
  len : rs.length ≤ 9000
theorem NV.form {w : World} {P : Nat → Prop} {v : NV} {t : T} (h : TAt w P v t) : ∃ o a1 n1 c1 m x a2 n2 c2, v = ⟨o, .slice a1 n1 c1, m, x, .slice a2 n2 c2⟩ := by
  obtain ⟨a1, n1, c1, a2, c2, e1, e2, _⟩ := h.krow
  obtain ⟨o, s, m, x, k⟩ := v
  obtain rfl := e1
  obtain rfl := e2
  exact ⟨_, _, _, _, _, _, _, _, _, rfl⟩

/-- A node stored over a block's five cells. -/
def st5 (W : World) (B : Nat) (a b c d e : Value) : World := ((((W.setCell ⟨B, 0, none⟩ a).setCell ⟨B, 1, none⟩ b).setCell ⟨B, 2, none⟩ c).setCell ⟨B, 3, none⟩ d).setCell ⟨B, 4, none⟩ e
theorem st5_facts (W : World) (B : Nat) {o0 o1 o2 o3 o4 : Value} (h0 : W.cell? ⟨B, 0, none⟩ = some o0) (h1 : W.cell? ⟨B, 1, none⟩ = some o1) (h2 : W.cell? ⟨B, 2, none⟩ = some o2) (h3 : W.cell? ⟨B, 3, none⟩ = some o3) (h4 : W.cell? ⟨B, 4, none⟩ = some o4) (a b c d e : Value) :
    (st5 W B a b c d e).cell? ⟨B, 0, none⟩ = some a ∧ (st5 W B a b c d e).cell? ⟨B, 1, none⟩ = some b ∧ (st5 W B a b c d e).cell? ⟨B, 2, none⟩ = some c ∧ (st5 W B a b c d e).cell? ⟨B, 3, none⟩ = some d ∧ (st5 W B a b c d e).cell? ⟨B, 4, none⟩ = some e ∧
      Keeps (fun x => x = B) W (st5 W B a b c d e) := by
  unfold st5
  refine ⟨?_, ?_, ?_, ?_, ?_, by (repeat' (with_reducible first | exact Keeps.refl _ _ | assumption | refine Keeps.drawN ?_ _ | refine Keeps.drew ?_ | refine Keeps.setCell ?_ ?_ _ | refine Keeps.alloc ?_ _)) <;> (first | exact Or.inr (Nat.le_refl _) | exact Or.inl rfl | exact Or.inl (Or.inl rfl) | exact Or.inl (Or.inr rfl) | (right; simp; done) | (right; simp; omega))⟩
  · rw [cell_set_other (by simp), cell_set_other (by simp), cell_set_other (by simp), cell_set_other (by simp)]; exact cell_set_same h0
  · rw [cell_set_other (by simp), cell_set_other (by simp), cell_set_other (by simp)]; exact cell_set_same (by rw [cell_set_other (by simp)]; exact h1)
  · rw [cell_set_other (by simp), cell_set_other (by simp)]; exact cell_set_same (by rw [cell_set_other (by simp), cell_set_other (by simp)]; exact h2)
  · rw [cell_set_other (by simp)]; exact cell_set_same (by rw [cell_set_other (by simp), cell_set_other (by simp), cell_set_other (by simp)]; exact h3)
  · exact cell_set_same (by rw [cell_set_other (by simp), cell_set_other (by simp), cell_set_other (by simp), cell_set_other (by simp)]; exact h4)

set_option maxHeartbeats 8000000 in
theorem atom_paren {f : PS → T × PS} {rs : List Int} {C D : PS → Prop} (H : StepH f rs C D) (w : World) (pb : Nat) (rv : Value) (s : PS) (h : PaAt w pb rv rs s) (hi : Inv rs s) (hd : D s) (hr : pk rs s = 40) :
    Calls Tryz.prog 48 #[.pointer (some ⟨pb, 0, none⟩)] w (TreeRet w pb rv rs (atomP f rs s)) := by
  have hpb := h.lt
  have hbad : s.bad = false := (pk_room (rs := rs) (s := s) (by omega)).2
  have hpos := (pk_room (rs := rs) (s := s) (by omega)).1
  have hnx : nx rs s = ⟨s.pos + 1, s.deep, false⟩ := by rw [nx_ok (by omega), hbad]
  have hdp := H.dp s hd
  have hlen := H.len
  have hcd := H.cd s hd hbad
  obtain ⟨s2, hs2⟩ : ∃ s2, (⟨s.pos + 1, s.deep + 1, decide (10 < s.deep + 1)⟩ : PS) = s2 := ⟨_, rfl⟩
  have hinv2 : Inv rs s2 := by rw [← hs2]; exact ⟨by simp; omega, fun _ => by simp; omega⟩
  have hg := H.go s2
  have hE : Hid (atomP f rs s = ((f s2).1, ⟨(wt rs 41 (f s2).2).pos, (wt rs 41 (f s2).2).deep - 1, (wt rs 41 (f s2).2).bad⟩)) := by
    have : (⟨s.pos + 1, s.deep + 1, (nx rs s).bad || decide (10 < s.deep + 1)⟩ : PS) = s2 := by rw [hnx, ← hs2]; simp
    unfold atomP
    rw [if_pos hr, this]; exact Lib.hid rfl
  rw [hE.out]
  have hwt := wt_go rs 41 (f s2).2 (by omega)
  have hdeep : (wt rs 41 (f s2).2).deep = s.deep + 1 := by rw [hwt.deep, hg.deep, ← hs2]
  have hpos3 := (hwt.inv (hg.inv hinv2)).a
  have hpos2 := (hg.inv hinv2).a
  have HA := Lib.hid (fun (W : World) (hW : PaAt W pb rv rs s2) => H.alt W pb rv s2 hW hinv2 (by rw [← hs2]; exact hcd))
  obtain ⟨F1, hF1⟩ : ∃ x, (f s2).1 = x := ⟨_, rfl⟩
  obtain ⟨S1, hS1⟩ : ∃ x, (f s2).2 = x := ⟨_, rfl⟩
  rw [hF1, hS1]
  rw [hS1] at hdeep hpos3 hpos2
  have HF1 := Lib.hid hF1
  have HS1 := Lib.hid hS1
  have HS2 := Lib.hid hs2
  have HN := Lib.hid (fun (W : World) (hW : PaAt W pb rv rs s) => next_any W pb rv rs s hW (by have := H.len; omega))
  have HH := Lib.hid h
  have w1 : IntKind.i64.wrap (s.deep + 1) = s.deep + 1 := IntWalk.i64_in _ (by omega)
  have w2 : IntKind.i64.wrap s.deep = s.deep := IntWalk.i64_in _ (by omega)
  have Hnx := Lib.hid hnx
  have Hdeep := Lib.hid hdeep
  clear hE hcd hinv2 hg hwt hF1 hS1 hs2 h hd hi hnx hdeep
  obtain ⟨p, d, b⟩ := s
  simp only at hbad hpos hdp w1 w2
  subst hbad
  go_enter Tryz.func48, Tryz.ntmps48
  go_wp2_with fail
  refine (HN.out _ (HH.out.keepsF (by (repeat' (with_reducible first | exact Keeps.refl _ _ | assumption | refine Keeps.drawN ?_ _ | refine Keeps.drew ?_ | refine Keeps.setCell ?_ ?_ _ | refine Keeps.alloc ?_ _)) <;> (first | exact Or.inr (Nat.le_refl _) | exact Or.inl rfl | exact Or.inl (Or.inl rfl) | exact Or.inl (Or.inr rfl) | (right; simp; done) | (right; simp; omega))))).mono ?_
  rintro e w3 ⟨rfl, h3, k3⟩
  rw [hr]
  rw [Hnx.out] at h3
  have c2 := h3.c2
  have f2 := h3.fr 2
  have h4 := h3.setDeep (d + 1)
  have c3 := h4.c3
  have f3 := h4.fr 3
  have c2' := h4.c2
  have h5 := h4.setBad (decide (10 < d + 1))
  simp only at c2 c3 c2' h5
  rw [HS2.out] at h5
  have H5 := Lib.hid h5
  have K5 := Lib.hid ((k3.set (p := ⟨pb, 2, none⟩) rfl (.int .i64 (d + 1))).set (p := ⟨pb, 3, none⟩) rfl (.bool (decide (10 < d + 1))))
  clear h3 h4 h5 k3
  go_wp2_with fail
  refine (HA.out _ H5.out).mono ?_
  rintro e w6 ⟨v, rfl, hv, h6, k6⟩
  obtain ⟨o, a1, n1, c1, m, x, a2, n2, cc2, rfl⟩ := NV.form hv
  rw [HF1.out] at hv
  rw [HS1.out] at h6
  unfold NV.val
  have HV := Lib.hid hv
  have H6 := Lib.hid h6
  have K6 := Lib.hid (K5.out.trans k6)
  have hsz5 := K5.out.size
  have hsz6 := k6.size
  simp at hsz5 hsz6
  clear hv h6 k6
  have HW := Lib.hid (fun (W : World) (hW : PaAt W pb rv rs S1) => want_any W pb rv rs S1 41 hW (by omega))
  go_wp2_with fail
  refine (HW.out _ (H6.out.keepsF (by (repeat' (with_reducible first | exact Keeps.refl _ _ | assumption | refine Keeps.drawN ?_ _ | refine Keeps.drew ?_ | refine Keeps.setCell ?_ ?_ _ | refine Keeps.alloc ?_ _)) <;> (first | exact Or.inr (Nat.le_refl _) | exact Or.inl rfl | exact Or.inl (Or.inl rfl) | exact Or.inl (Or.inr rfl) | (right; simp; done) | (right; simp; omega))))).mono ?_
  rintro e w7 ⟨rfl, h7, k7⟩
  have K7a : Keeps (OnlyP pb) (w.alloc (.cells #[.int .i64 0, .slice none 0 0, .int .i64 0, .int .i64 0, .slice none 0 0] 26)) w7 := (K6.out.alloc _).trans k7
  have hne1 : ¬ (w.heap.size = pb) := by omega
  have hne2 : ¬ (pb = w.heap.size) := by omega
  have hne3 : ¬ (w6.heap.size = pb) := by omega
  have hne4 : ¬ (pb = w6.heap.size) := by omega
  have y0 : w7.cell? ⟨w.heap.size, 0, none⟩ = some (.int .i64 0) := K7a.cell (by simp [go_sem]) hne1
  have y1 : w7.cell? ⟨w.heap.size, 1, none⟩ = some (.slice none 0 0) := K7a.cell (by simp [go_sem]) hne1
  have y2 : w7.cell? ⟨w.heap.size, 2, none⟩ = some (.int .i64 0) := K7a.cell (by simp [go_sem]) hne1
  have y3 : w7.cell? ⟨w.heap.size, 3, none⟩ = some (.int .i64 0) := K7a.cell (by simp [go_sem]) hne1
  have y4 : w7.cell? ⟨w.heap.size, 4, none⟩ = some (.slice none 0 0) := K7a.cell (by simp [go_sem]) hne1
  have q0 : w7.frozen? ⟨w.heap.size, 0, none⟩ = false := K7a.frozen (by simp [go_sem]) (by simp) hne1
  have q1 : w7.frozen? ⟨w.heap.size, 1, none⟩ = false := K7a.frozen (by simp [go_sem]) (by simp) hne1
  have q2 : w7.frozen? ⟨w.heap.size, 2, none⟩ = false := K7a.frozen (by simp [go_sem]) (by simp) hne1
  have q3 : w7.frozen? ⟨w.heap.size, 3, none⟩ = false := K7a.frozen (by simp [go_sem]) (by simp) hne1
  have q4 : w7.frozen? ⟨w.heap.size, 4, none⟩ = false := K7a.frozen (by simp [go_sem]) (by simp) hne1
  have z0 : w7.cell? ⟨w6.heap.size, 0, none⟩ = some (.int .i64 o) := k7.cell (by simp [go_sem]) hne3
  have z1 : w7.cell? ⟨w6.heap.size, 1, none⟩ = some (.slice a1 n1 c1) := k7.cell (by simp [go_sem]) hne3
  have z2 : w7.cell? ⟨w6.heap.size, 2, none⟩ = some (.int .i64 m) := k7.cell (by simp [go_sem]) hne3
  have z3 : w7.cell? ⟨w6.heap.size, 3, none⟩ = some (.int .i64 x) := k7.cell (by simp [go_sem]) hne3
  have z4 : w7.cell? ⟨w6.heap.size, 4, none⟩ = some (.slice a2 n2 cc2) := k7.cell (by simp [go_sem]) hne3
  have e2 := h7.c2
  rw [Hdeep.out] at e2
  have g2 := h7.fr 2
  have h8 := h7.setDeep d
  have HD8 := Lib.hid h8
  have K7 : Hid (Keeps (OnlyP pb) w w7) := Lib.hid (Keeps.trans (by (repeat' (with_reducible first | exact Keeps.refl _ _ | assumption | refine Keeps.drawN ?_ _ | refine Keeps.drew ?_ | refine Keeps.setCell ?_ ?_ _ | refine Keeps.alloc ?_ _)) <;> (first | exact Or.inr (Nat.le_refl _) | exact Or.inl rfl | exact Or.inl (Or.inl rfl) | exact Or.inl (Or.inr rfl) | (right; simp; done) | (right; simp; omega))) K7a)
  have k7b : Keeps (fun b => b = pb ∨ b = w.heap.size) w6 w7 := Keeps.trans ((Keeps.refl _ _).alloc _) (k7.mono (fun b _ e => Or.inl e))
  have K7b := Lib.hid k7b
  clear h7 h8 k7 K7a k7b
  go_wp2_with fail
  obtain ⟨wE, hWE⟩ : ∃ W, st5 (w7.setCell ⟨pb, 2, none⟩ (.int .i64 d)) w.heap.size (.int .i64 o) (.slice a1 n1 c1) (.int .i64 m) (.int .i64 x) (.slice a2 n2 cc2) = W := ⟨_, rfl⟩
  obtain ⟨r0, r1, r2, r3, r4, kE⟩ := st5_facts (w7.setCell ⟨pb, 2, none⟩ (.int .i64 d)) w.heap.size (by rw [cell_set_other (by simp [hne2])]; exact y0) (by rw [cell_set_other (by simp [hne2])]; exact y1) (by rw [cell_set_other (by simp [hne2])]; exact y2) (by rw [cell_set_other (by simp [hne2])]; exact y3) (by rw [cell_set_other (by simp [hne2])]; exact y4) (.int .i64 o) (.slice a1 n1 c1) (.int .i64 m) (.int .i64 x) (.slice a2 n2 cc2)
  rw [hWE] at r0 r1 r2 r3 r4 kE
  unfold st5 at hWE
  rw [hWE]
  have HKE := Lib.hid kE
  clear kE hWE y0 y1 y2 y3 y4 z0 z1 z2 z3 z4
  refine bodyPost_ret (by simp [results, Tryz.results48, go_sem, r0, r1, r2, r3, r4]; try rfl) rfl ?_
  have k8 : Keeps (fun b => b = pb ∨ b = w.heap.size) w6 wE := (K7b.out.set (p := ⟨pb, 2, none⟩) (Or.inl rfl) _).trans (HKE.out.mono (fun b _ e => Or.inr e))
  have hszE := k8.size
  refine ⟨⟨o, .slice a1 n1 c1, m, x, .slice a2 n2 cc2⟩, rfl, ?_, ?_, ?_⟩
  · refine HV.out.keepsTo k8 ?_ ?_
    · rintro b ⟨hb1, hb2⟩ hb3
      simp at hb1
      rcases hb3 with hb3 | hb3 <;> omega
    · rintro b ⟨hb1, hb2⟩
      simp at hb1
      exact ⟨by omega, by omega⟩
  · have := HD8.out.keeps HKE.out hne2 (fun b hb e => by have := HH.out.rb b hb; omega)
    rw [show (wt rs 41 S1).deep - 1 = d by rw [Hdeep.out]; omega]
    exact this
  · exact (K7.out.set (p := ⟨pb, 2, none⟩) rfl _).trans2 HKE.out (fun b hb e => by omega)
end Go.Proofs.YtinogeobkljngaaGreatDoor
end
