/-
  Several texts in one: The parser's Parse. The document's digits of a number. How trees are shown, as plain words.
-/
import Derived.Test.YtinogeobkljngaaGreatDoorMg16
import Derived.Test.YtinogeobkljngaaGreatDoorPaEvG
import Derived.Test.YtinogeobkljngaaGreatDoorMg1
import Derived.Test.YtinogeobkljngaaGreatDoorMg3
import Derived.Lib.ItoaNum
import Derived.Lib.ConvBytes
import Derived.IntWalk
import Derived.Test.YtinogeobkljngaaGreatDoorMg12
import Derived.Lib.Join
section
namespace Go.Proofs.YtinogeobkljngaaGreatDoor
open Go.RowKit
set_option linter.unusedVariables false
set_option linter.unusedSimpArgs false
set_option maxRecDepth 100000

theorem ptsP_facts : ∀ (n : Nat) (l : List UInt8) (rs : List Int), ptsP n l = some rs → rs.length ≤ l.length ∧ ∀ r ∈ rs, 0 ≤ r ∧ r ≤ 1114111 := by
  intro n
  induction n with
  | zero => intro l rs h; simp [ptsP] at h; subst h; simp
  | succ n ih =>
    intro l rs h
    rcases l with _ | ⟨c, l⟩
    · simp [ptsP] at h; subst h; simp
    · rw [ptsP, if_neg (by simp)] at h
      by_cases hs : sizP (getP (c :: l)).1 = ((getP (c :: l)).2 : Int)
      · rw [if_pos hs, Option.map_eq_some_iff] at h
        obtain ⟨rs', h1, rfl⟩ := h
        have h2 := ih _ _ h1
        have hp := getP_pos c l
        have hb : isB (getP (c :: l)).1 = true := by
          unfold sizP at hs
          cases hb : isB (getP (c :: l)).1 with
          | true => rfl
          | false => rw [hb] at hs; simp at hs; omega
        have hr : 0 ≤ (getP (c :: l)).1 ∧ (getP (c :: l)).1 ≤ 1114111 := by
          simp [isB] at hb; omega
        refine ⟨?_, ?_⟩
        · have h3 := h2.1
          rw [List.length_drop] at h3
          simp only [List.length_cons] at h3 ⊢; omega
        · intro r hr'
          rcases List.mem_cons.1 hr' with rfl | hr'
          · exact hr
          · exact h2.2 r hr'
      · rw [if_neg hs] at h; cases h
theorem pts_facts {l : List UInt8} {rs : List Int} (h : pts l = some rs) : rs.length ≤ l.length ∧ ∀ r ∈ rs, 0 ≤ r ∧ r ≤ 1114111 := ptsP_facts _ _ _ h
theorem cells_int (rs : List Int) : cellsOf 1 encI rs = rs.map (Value.int .i64) := by
  induction rs with
  | nil => rfl
  | cons r rs ih => rw [List.map_cons, ← ih]; simp [cellsOf, encI, List.range_succ]
theorem frozen_cells (w : World) (cs : Array Value) (T : TypeId) (o : Nat) : (w.alloc (.cells cs T)).frozen? ⟨w.heap.size, o, none⟩ = false := by simp [go_sem]
/-- A parser at its beginning. -/
theorem PaAt.start {w w2 : World} {rv : Value} {rs : List Int} (hown : w2.ownsRow w.heap.size 3 1 rv rs.length (rs.map (Value.int .i64))) (hl : rs.length ≤ 1000) (hr : ∀ r ∈ rs, 0 ≤ r ∧ r ≤ 1114111) :
    PaAt (w2.alloc (.cells #[rv, .int .i64 0, .int .i64 0, .bool false] 40)) w2.heap.size rv rs ⟨0, 0, false⟩ := by
  have hlt := own_lt hown
  rw [← cells_int] at hown
  have hs := SlOf.ofOwn (enc := encI) hown (by omega)
  have K : Keeps (fun _ => False) w2 (w2.alloc (.cells #[rv, .int .i64 0, .int .i64 0, .bool false] 40)) := (Keeps.refl _ _).alloc _
  exact ⟨by simp [go_sem], by simp [go_sem], by simp [go_sem], by simp [go_sem], fun o => frozen_cells _ _ _ _, hs.keep K, fun e => by have := hlt _ e; omega, by omega, by simp, hr, fun b hb => by have := hlt _ hb; simp; omega⟩

def ParseRet (w : World) (r : T × Int) (e : Ending) (w' : World) : Prop :=
  ∃ v : NV, e = .returned (.tuple #[v.val, .int .i64 r.2]) ∧ TAt w' (fun b => w.heap.size ≤ b) v r.1 ∧ Keeps (fun _ => False) w w'
theorem zeroRet (w w' : World) (n : Int) (K : Keeps (fun _ => False) w w') : ParseRet w (zeroT, n) (.returned (.tuple #[NV.val ⟨0, .slice none 0 0, 0, 0, .slice none 0 0⟩, .int .i64 n])) w' := ⟨_, rfl, TAt.zero _ _, K⟩
theorem parse_close {w wX wE : World} {t : T} {v : NV} {n : Int} (K : Keeps (fun _ => False) w wX) (hT : TAt wX (fun b => w.heap.size < b) v t) (kE : Keeps (fun b => b = w.heap.size) wX wE) : ParseRet w (t, n) (.returned (.tuple #[v.val, .int .i64 n])) wE :=
  ⟨v, rfl, hT.keepsTo kE (fun b hb e => by omega) (fun b hb => by omega), K.trans2 kE (fun b hb e => by omega)⟩
theorem res_facts2 {w wX : World} {pb : Nat} (K : Keeps (OnlyP pb) (w.alloc (.cells #[.int .i64 0, .slice none 0 0, .int .i64 0, .int .i64 0, .slice none 0 0] 26)) wX) (hpb : ¬ w.heap.size = pb) :
    (wX.cell? ⟨w.heap.size, 0, none⟩ = some (.int .i64 0) ∧ wX.cell? ⟨w.heap.size, 1, none⟩ = some (.slice none 0 0) ∧ wX.cell? ⟨w.heap.size, 2, none⟩ = some (.int .i64 0) ∧ wX.cell? ⟨w.heap.size, 3, none⟩ = some (.int .i64 0) ∧ wX.cell? ⟨w.heap.size, 4, none⟩ = some (.slice none 0 0)) ∧
    (wX.frozen? ⟨w.heap.size, 0, none⟩ = false ∧ wX.frozen? ⟨w.heap.size, 1, none⟩ = false ∧ wX.frozen? ⟨w.heap.size, 2, none⟩ = false ∧ wX.frozen? ⟨w.heap.size, 3, none⟩ = false ∧ wX.frozen? ⟨w.heap.size, 4, none⟩ = false) :=
  ⟨⟨K.cell (by simp [go_sem]) hpb, K.cell (by simp [go_sem]) hpb, K.cell (by simp [go_sem]) hpb, K.cell (by simp [go_sem]) hpb, K.cell (by simp [go_sem]) hpb⟩,
    K.frozen (by simp [go_sem]) (by simp) hpb, K.frozen (by simp [go_sem]) (by simp) hpb, K.frozen (by simp [go_sem]) (by simp) hpb, K.frozen (by simp [go_sem]) (by simp) hpb, K.frozen (by simp [go_sem]) (by simp) hpb⟩
theorem keeps_new {w wX : World} {pb : Nat} (K : Keeps (OnlyP pb) (w.alloc (.cells #[.int .i64 0, .slice none 0 0, .int .i64 0, .int .i64 0, .slice none 0 0] 26)) wX) (hpb : w.heap.size ≤ pb) : Keeps (fun _ => False) w wX :=
  Keeps.trans2 (Keeps.alloc (Keeps.refl _ _) _) K (fun b hb e => by have e : b = pb := e; omega)
set_option maxHeartbeats 8000000 in
theorem parse_any (l : List UInt8) (w : World) (hm : l.length ≤ 9223372036854775807) : Calls Tryz.prog 5 #[.string ⟨l.toArray⟩] w (ParseRet w (parseP l)) := by
  by_cases hlen : 200 < l.length
  · have hP : parseP l = (zeroT, 16) := by unfold parseP; rw [if_pos hlen]
    rw [hP]
    have g0 : decide ((200 : Int) < (l.length : Int)) = true := by simp; omega
    have g1 : decide (200 < l.length) = true := by simpa using hlen
    go_enter Tryz.func5, Tryz.ntmps5
    go_wp2_with fail
    go_returns
    exact zeroRet _ _ _ (by (repeat' (with_reducible first | exact Keeps.refl _ _ | assumption | refine Keeps.drawN ?_ _ | refine Keeps.drew ?_ | refine Keeps.setCell ?_ ?_ _ | refine Keeps.alloc ?_ _)) <;> (first | exact Or.inr (Nat.le_refl _) | exact Or.inl rfl | exact Or.inl (Or.inl rfl) | exact Or.inl (Or.inr rfl) | (right; simp; done) | (right; simp; omega)))
  have g0 : decide ((200 : Int) < (l.length : Int)) = false := by simp; omega
  have g1 : decide (200 < l.length) = false := by simpa using hlen
  have HPt := Lib.hid (fun W => points_any l W (by omega))
  unfold PtsE at HPt
  cases hpt : pts l with
  | none =>
    rw [show parseP l = (zeroT, 15) by unfold parseP; rw [if_neg hlen, hpt]]
    rw [hpt] at HPt
    clear hpt
    simp only at HPt
    go_enter Tryz.func5, Tryz.ntmps5
    go_wp2_with fail
    refine (HPt.out _).mono ?_
    rintro e w2 ⟨rfl, k2⟩
    have k3 : Keeps (OnlyP (w.heap.size + 1)) (w.alloc (.cells #[.int .i64 0, .slice none 0 0, .int .i64 0, .int .i64 0, .slice none 0 0] 26)) w2 := k2.mono (fun _ _ e => e.elim)
    have K3 := Lib.hid (keeps_new k3 (by omega))
    obtain ⟨⟨y0, y1, y2, y3, y4⟩, q0, q1, q2, q3, q4⟩ := res_facts2 k3 (by omega)
    clear k2 k3
    go_wp2_with fail
    obtain ⟨wE, hWE⟩ : ∃ W, st5 (w2) w.heap.size (.int .i64 0) (.slice none 0 0) (.int .i64 0) (.int .i64 0) (.slice none 0 0) = W := ⟨_, rfl⟩
    obtain ⟨r0, r1, r2, r3, r4, kE⟩ := st5_facts (w2) w.heap.size y0 y1 y2 y3 y4 (.int .i64 0) (.slice none 0 0) (.int .i64 0) (.int .i64 0) (.slice none 0 0)
    rw [hWE] at r0 r1 r2 r3 r4 kE
    unfold st5 at hWE
    rw [hWE]
    have HKE := Lib.hid kE
    clear kE hWE y0 y1 y2 y3 y4
    refine bodyPost_ret (by simp [results, Tryz.results5, go_sem, r0, r1, r2, r3, r4]; try rfl) rfl ?_
    exact parse_close (v := ⟨0, .slice none 0 0, 0, 0, .slice none 0 0⟩) (n := 15) K3.out (TAt.zero _ _) HKE.out
  | some rs =>
    obtain ⟨hrl, hrr⟩ := pts_facts hpt
    rw [show parseP l = parseR rs by unfold parseP; rw [if_neg hlen, hpt]]
    rw [hpt] at HPt
    clear hpt
    simp only at HPt
    have HA := Lib.hid (alts_any rs (by omega) 11)
    have HGo := Lib.hid (alts_go rs 11 ⟨0, 0, false⟩)
    obtain ⟨t1, ht1⟩ : ∃ x, (alts rs 11 ⟨0, 0, false⟩).1 = x := ⟨_, rfl⟩
    obtain ⟨s1, hs1⟩ : ∃ x, (alts rs 11 ⟨0, 0, false⟩).2 = x := ⟨_, rfl⟩
    have hR : parseR rs = if s1.bad = true ∨ s1.pos ≠ rs.length then (zeroT, 15) else (t1, 0) := by unfold parseR; rw [ht1, hs1]
    rw [hR]
    have HE : Hid (alts rs 11 ⟨0, 0, false⟩ = (t1, s1)) := Lib.hid (by rw [← ht1, ← hs1])
    clear hR ht1 hs1
    have HRR := Lib.hid hrr
    clear hrr
    have hcase : (s1.bad = true) ∨ (s1.bad = false ∧ s1.pos ≠ rs.length) ∨ (s1.bad = false ∧ s1.pos = rs.length) := by
      cases s1.bad <;> simp; omega
    rcases hcase with hb | ⟨hb, hp⟩ | ⟨hb, hp⟩
    · rw [if_pos (Or.inl hb)]
      go_enter Tryz.func5, Tryz.ntmps5
      go_wp2_with fail
      refine (HPt.out _).mono ?_
      rintro e w2 ⟨⟨rv, rfl, hown⟩, k2⟩
      have hs2 := k2.size
      simp at hs2
      have hown2 : w2.ownsRow (w.alloc (.cells #[.int .i64 0, .slice none 0 0, .int .i64 0, .int .i64 0, .slice none 0 0] 26)).heap.size 3 1 rv rs.length (rs.map (Value.int .i64)) := hown
      have hst := PaAt.start (w := w.alloc (.cells #[.int .i64 0, .slice none 0 0, .int .i64 0, .int .i64 0, .slice none 0 0] 26)) hown2 (by omega) HRR.out
      obtain ⟨ra, rc, rfl⟩ := ownsRow_slice hown
      have K2 := Lib.hid k2
      have HS := Lib.hid hst
      clear hown hown2 hst k2
      go_wp2_with fail
      refine (HA.out _ w2.heap.size (.slice ra rs.length rc) ⟨0, 0, false⟩ HS.out ⟨by simp, fun _ => by simp⟩ ⟨by simp, by simp, fun _ => ⟨by simp, by simp⟩⟩).mono ?_
      rw [HE.out]
      rintro e w3 ⟨v, rfl, hv, h3, k3⟩
      obtain ⟨o, a1, n1, c1, m, x, a2, n2, cc2, rfl⟩ := NV.form hv
      have hs3 := k3.size
      simp at hs3
      have k23 : Keeps (OnlyP w2.heap.size) (w.alloc (.cells #[.int .i64 0, .slice none 0 0, .int .i64 0, .int .i64 0, .slice none 0 0] 26)) w3 := Keeps.trans (K2.out.mono (fun _ _ e => e.elim)) (Keeps.trans (by (repeat' (with_reducible first | exact Keeps.refl _ _ | assumption | refine Keeps.drawN ?_ _ | refine Keeps.drew ?_ | refine Keeps.setCell ?_ ?_ _ | refine Keeps.alloc ?_ _)) <;> (first | exact Or.inr (Nat.le_refl _) | exact Or.inl rfl | exact Or.inl (Or.inl rfl) | exact Or.inl (Or.inr rfl) | (right; simp; done) | (right; simp; omega))) k3)
      have d1 := h3.c1
      have d3 := h3.c3
      have HP3 := Lib.hid h3
      have hpl := h3.lt
      simp only at d1 d3
      rw [hb] at d3
      have KX := Lib.hid (keeps_new k23 (by omega))
      obtain ⟨⟨y0, y1, y2, y3, y4⟩, q0, q1, q2, q3, q4⟩ := res_facts2 k23 (by omega)
      have HV := Lib.hid hv
      clear hv h3 k3
      have y0 := alloc_cell y0 (.cells #[.int .i64 o, .slice a1 n1 c1, .int .i64 m, .int .i64 x, .slice a2 n2 cc2] 26)
      have y1 := alloc_cell y1 (.cells #[.int .i64 o, .slice a1 n1 c1, .int .i64 m, .int .i64 x, .slice a2 n2 cc2] 26)
      have y2 := alloc_cell y2 (.cells #[.int .i64 o, .slice a1 n1 c1, .int .i64 m, .int .i64 x, .slice a2 n2 cc2] 26)
      have y3 := alloc_cell y3 (.cells #[.int .i64 o, .slice a1 n1 c1, .int .i64 m, .int .i64 x, .slice a2 n2 cc2] 26)
      have y4 := alloc_cell y4 (.cells #[.int .i64 o, .slice a1 n1 c1, .int .i64 m, .int .i64 x, .slice a2 n2 cc2] 26)
      have q0 := alloc_frozen q0 (by show w.heap.size < w3.heap.size; omega) (.cells #[.int .i64 o, .slice a1 n1 c1, .int .i64 m, .int .i64 x, .slice a2 n2 cc2] 26)
      have q1 := alloc_frozen q1 (by show w.heap.size < w3.heap.size; omega) (.cells #[.int .i64 o, .slice a1 n1 c1, .int .i64 m, .int .i64 x, .slice a2 n2 cc2] 26)
      have q2 := alloc_frozen q2 (by show w.heap.size < w3.heap.size; omega) (.cells #[.int .i64 o, .slice a1 n1 c1, .int .i64 m, .int .i64 x, .slice a2 n2 cc2] 26)
      have q3 := alloc_frozen q3 (by show w.heap.size < w3.heap.size; omega) (.cells #[.int .i64 o, .slice a1 n1 c1, .int .i64 m, .int .i64 x, .slice a2 n2 cc2] 26)
      have q4 := alloc_frozen q4 (by show w.heap.size < w3.heap.size; omega) (.cells #[.int .i64 o, .slice a1 n1 c1, .int .i64 m, .int .i64 x, .slice a2 n2 cc2] 26)
      unfold NV.val
      clear k23
      go_wp2_with fail
      have k4 : Keeps (fun _ => False) w3 (w3.alloc (.cells #[.int .i64 o, .slice a1 n1 c1, .int .i64 m, .int .i64 x, .slice a2 n2 cc2] 26)) := (Keeps.refl _ _).alloc _
      have K4 := Lib.hid (KX.out.trans k4)
      have HV4 := Lib.hid (HV.out.keepsTo (Q := fun b => w.heap.size < b) k4 (fun _ _ => id) (fun b hb => by have := hb.1; simp at this; omega))
      obtain ⟨w4, hw4⟩ : ∃ W, w3.alloc (.cells #[.int .i64 o, .slice a1 n1 c1, .int .i64 m, .int .i64 x, .slice a2 n2 cc2] 26) = W := ⟨_, rfl⟩
      rw [hw4] at y0 y1 y2 y3 y4 K4 HV4 ⊢
      clear q0 q1 q2 q3 q4
      obtain ⟨wE, hWE⟩ : ∃ W, st5 (w4) w.heap.size (.int .i64 0) (.slice none 0 0) (.int .i64 0) (.int .i64 0) (.slice none 0 0) = W := ⟨_, rfl⟩
      obtain ⟨r0, r1, r2, r3, r4, kE⟩ := st5_facts (w4) w.heap.size y0 y1 y2 y3 y4 (.int .i64 0) (.slice none 0 0) (.int .i64 0) (.int .i64 0) (.slice none 0 0)
      rw [hWE] at r0 r1 r2 r3 r4 kE
      unfold st5 at hWE
      rw [hWE]
      have HKE := Lib.hid kE
      clear kE hWE y0 y1 y2 y3 y4
      refine bodyPost_ret (by simp [results, Tryz.results5, go_sem, r0, r1, r2, r3, r4]; try rfl) rfl ?_
      exact parse_close (v := ⟨0, .slice none 0 0, 0, 0, .slice none 0 0⟩) (n := 15) K4.out (TAt.zero _ _) HKE.out
    · rw [if_pos (Or.inr hp)]
      have f1 : ((s1.pos : Int) != (rs.length : Int)) = true := by simp; omega
      go_enter Tryz.func5, Tryz.ntmps5
      go_wp2_with fail
      refine (HPt.out _).mono ?_
      rintro e w2 ⟨⟨rv, rfl, hown⟩, k2⟩
      have hs2 := k2.size
      simp at hs2
      have hown2 : w2.ownsRow (w.alloc (.cells #[.int .i64 0, .slice none 0 0, .int .i64 0, .int .i64 0, .slice none 0 0] 26)).heap.size 3 1 rv rs.length (rs.map (Value.int .i64)) := hown
      have hst := PaAt.start (w := w.alloc (.cells #[.int .i64 0, .slice none 0 0, .int .i64 0, .int .i64 0, .slice none 0 0] 26)) hown2 (by omega) HRR.out
      obtain ⟨ra, rc, rfl⟩ := ownsRow_slice hown
      have K2 := Lib.hid k2
      have HS := Lib.hid hst
      clear hown hown2 hst k2
      go_wp2_with fail
      refine (HA.out _ w2.heap.size (.slice ra rs.length rc) ⟨0, 0, false⟩ HS.out ⟨by simp, fun _ => by simp⟩ ⟨by simp, by simp, fun _ => ⟨by simp, by simp⟩⟩).mono ?_
      rw [HE.out]
      rintro e w3 ⟨v, rfl, hv, h3, k3⟩
      obtain ⟨o, a1, n1, c1, m, x, a2, n2, cc2, rfl⟩ := NV.form hv
      have hs3 := k3.size
      simp at hs3
      have k23 : Keeps (OnlyP w2.heap.size) (w.alloc (.cells #[.int .i64 0, .slice none 0 0, .int .i64 0, .int .i64 0, .slice none 0 0] 26)) w3 := Keeps.trans (K2.out.mono (fun _ _ e => e.elim)) (Keeps.trans (by (repeat' (with_reducible first | exact Keeps.refl _ _ | assumption | refine Keeps.drawN ?_ _ | refine Keeps.drew ?_ | refine Keeps.setCell ?_ ?_ _ | refine Keeps.alloc ?_ _)) <;> (first | exact Or.inr (Nat.le_refl _) | exact Or.inl rfl | exact Or.inl (Or.inl rfl) | exact Or.inl (Or.inr rfl) | (right; simp; done) | (right; simp; omega))) k3)
      have d1 := h3.c1
      have d3 := h3.c3
      have HP3 := Lib.hid h3
      have hpl := h3.lt
      simp only at d1 d3
      rw [hb] at d3
      have KX := Lib.hid (keeps_new k23 (by omega))
      obtain ⟨⟨y0, y1, y2, y3, y4⟩, q0, q1, q2, q3, q4⟩ := res_facts2 k23 (by omega)
      have HV := Lib.hid hv
      clear hv h3 k3
      have y0 := alloc_cell y0 (.cells #[.int .i64 o, .slice a1 n1 c1, .int .i64 m, .int .i64 x, .slice a2 n2 cc2] 26)
      have y1 := alloc_cell y1 (.cells #[.int .i64 o, .slice a1 n1 c1, .int .i64 m, .int .i64 x, .slice a2 n2 cc2] 26)
      have y2 := alloc_cell y2 (.cells #[.int .i64 o, .slice a1 n1 c1, .int .i64 m, .int .i64 x, .slice a2 n2 cc2] 26)
      have y3 := alloc_cell y3 (.cells #[.int .i64 o, .slice a1 n1 c1, .int .i64 m, .int .i64 x, .slice a2 n2 cc2] 26)
      have y4 := alloc_cell y4 (.cells #[.int .i64 o, .slice a1 n1 c1, .int .i64 m, .int .i64 x, .slice a2 n2 cc2] 26)
      have q0 := alloc_frozen q0 (by show w.heap.size < w3.heap.size; omega) (.cells #[.int .i64 o, .slice a1 n1 c1, .int .i64 m, .int .i64 x, .slice a2 n2 cc2] 26)
      have q1 := alloc_frozen q1 (by show w.heap.size < w3.heap.size; omega) (.cells #[.int .i64 o, .slice a1 n1 c1, .int .i64 m, .int .i64 x, .slice a2 n2 cc2] 26)
      have q2 := alloc_frozen q2 (by show w.heap.size < w3.heap.size; omega) (.cells #[.int .i64 o, .slice a1 n1 c1, .int .i64 m, .int .i64 x, .slice a2 n2 cc2] 26)
      have q3 := alloc_frozen q3 (by show w.heap.size < w3.heap.size; omega) (.cells #[.int .i64 o, .slice a1 n1 c1, .int .i64 m, .int .i64 x, .slice a2 n2 cc2] 26)
      have q4 := alloc_frozen q4 (by show w.heap.size < w3.heap.size; omega) (.cells #[.int .i64 o, .slice a1 n1 c1, .int .i64 m, .int .i64 x, .slice a2 n2 cc2] 26)
      unfold NV.val
      clear k23 hp
      go_wp2_with fail
      have k4 : Keeps (fun _ => False) w3 (w3.alloc (.cells #[.int .i64 o, .slice a1 n1 c1, .int .i64 m, .int .i64 x, .slice a2 n2 cc2] 26)) := (Keeps.refl _ _).alloc _
      have K4 := Lib.hid (KX.out.trans k4)
      have HV4 := Lib.hid (HV.out.keepsTo (Q := fun b => w.heap.size < b) k4 (fun _ _ => id) (fun b hb => by have := hb.1; simp at this; omega))
      obtain ⟨w4, hw4⟩ : ∃ W, w3.alloc (.cells #[.int .i64 o, .slice a1 n1 c1, .int .i64 m, .int .i64 x, .slice a2 n2 cc2] 26) = W := ⟨_, rfl⟩
      rw [hw4] at y0 y1 y2 y3 y4 K4 HV4 ⊢
      clear q0 q1 q2 q3 q4
      obtain ⟨wE, hWE⟩ : ∃ W, st5 (w4) w.heap.size (.int .i64 0) (.slice none 0 0) (.int .i64 0) (.int .i64 0) (.slice none 0 0) = W := ⟨_, rfl⟩
      obtain ⟨r0, r1, r2, r3, r4, kE⟩ := st5_facts (w4) w.heap.size y0 y1 y2 y3 y4 (.int .i64 0) (.slice none 0 0) (.int .i64 0) (.int .i64 0) (.slice none 0 0)
      rw [hWE] at r0 r1 r2 r3 r4 kE
      unfold st5 at hWE
      rw [hWE]
      have HKE := Lib.hid kE
      clear kE hWE y0 y1 y2 y3 y4
      refine bodyPost_ret (by simp [results, Tryz.results5, go_sem, r0, r1, r2, r3, r4]; try rfl) rfl ?_
      exact parse_close (v := ⟨0, .slice none 0 0, 0, 0, .slice none 0 0⟩) (n := 15) K4.out (TAt.zero _ _) HKE.out
    · rw [if_neg (by rw [hb]; simp; exact hp)]
      go_enter Tryz.func5, Tryz.ntmps5
      go_wp2_with fail
      refine (HPt.out _).mono ?_
      rintro e w2 ⟨⟨rv, rfl, hown⟩, k2⟩
      have hs2 := k2.size
      simp at hs2
      have hown2 : w2.ownsRow (w.alloc (.cells #[.int .i64 0, .slice none 0 0, .int .i64 0, .int .i64 0, .slice none 0 0] 26)).heap.size 3 1 rv rs.length (rs.map (Value.int .i64)) := hown
      have hst := PaAt.start (w := w.alloc (.cells #[.int .i64 0, .slice none 0 0, .int .i64 0, .int .i64 0, .slice none 0 0] 26)) hown2 (by omega) HRR.out
      obtain ⟨ra, rc, rfl⟩ := ownsRow_slice hown
      have K2 := Lib.hid k2
      have HS := Lib.hid hst
      clear hown hown2 hst k2
      go_wp2_with fail
      refine (HA.out _ w2.heap.size (.slice ra rs.length rc) ⟨0, 0, false⟩ HS.out ⟨by simp, fun _ => by simp⟩ ⟨by simp, by simp, fun _ => ⟨by simp, by simp⟩⟩).mono ?_
      rw [HE.out]
      rintro e w3 ⟨v, rfl, hv, h3, k3⟩
      obtain ⟨o, a1, n1, c1, m, x, a2, n2, cc2, rfl⟩ := NV.form hv
      have hs3 := k3.size
      simp at hs3
      have k23 : Keeps (OnlyP w2.heap.size) (w.alloc (.cells #[.int .i64 0, .slice none 0 0, .int .i64 0, .int .i64 0, .slice none 0 0] 26)) w3 := Keeps.trans (K2.out.mono (fun _ _ e => e.elim)) (Keeps.trans (by (repeat' (with_reducible first | exact Keeps.refl _ _ | assumption | refine Keeps.drawN ?_ _ | refine Keeps.drew ?_ | refine Keeps.setCell ?_ ?_ _ | refine Keeps.alloc ?_ _)) <;> (first | exact Or.inr (Nat.le_refl _) | exact Or.inl rfl | exact Or.inl (Or.inl rfl) | exact Or.inl (Or.inr rfl) | (right; simp; done) | (right; simp; omega))) k3)
      have d1 := h3.c1
      have d3 := h3.c3
      have HP3 := Lib.hid h3
      have hpl := h3.lt
      simp only at d1 d3
      rw [hb] at d3
      have KX := Lib.hid (keeps_new k23 (by omega))
      obtain ⟨⟨y0, y1, y2, y3, y4⟩, q0, q1, q2, q3, q4⟩ := res_facts2 k23 (by omega)
      have HV := Lib.hid hv
      clear hv h3 k3
      have y0 := alloc_cell y0 (.cells #[.int .i64 o, .slice a1 n1 c1, .int .i64 m, .int .i64 x, .slice a2 n2 cc2] 26)
      have y1 := alloc_cell y1 (.cells #[.int .i64 o, .slice a1 n1 c1, .int .i64 m, .int .i64 x, .slice a2 n2 cc2] 26)
      have y2 := alloc_cell y2 (.cells #[.int .i64 o, .slice a1 n1 c1, .int .i64 m, .int .i64 x, .slice a2 n2 cc2] 26)
      have y3 := alloc_cell y3 (.cells #[.int .i64 o, .slice a1 n1 c1, .int .i64 m, .int .i64 x, .slice a2 n2 cc2] 26)
      have y4 := alloc_cell y4 (.cells #[.int .i64 o, .slice a1 n1 c1, .int .i64 m, .int .i64 x, .slice a2 n2 cc2] 26)
      have q0 := alloc_frozen q0 (by show w.heap.size < w3.heap.size; omega) (.cells #[.int .i64 o, .slice a1 n1 c1, .int .i64 m, .int .i64 x, .slice a2 n2 cc2] 26)
      have q1 := alloc_frozen q1 (by show w.heap.size < w3.heap.size; omega) (.cells #[.int .i64 o, .slice a1 n1 c1, .int .i64 m, .int .i64 x, .slice a2 n2 cc2] 26)
      have q2 := alloc_frozen q2 (by show w.heap.size < w3.heap.size; omega) (.cells #[.int .i64 o, .slice a1 n1 c1, .int .i64 m, .int .i64 x, .slice a2 n2 cc2] 26)
      have q3 := alloc_frozen q3 (by show w.heap.size < w3.heap.size; omega) (.cells #[.int .i64 o, .slice a1 n1 c1, .int .i64 m, .int .i64 x, .slice a2 n2 cc2] 26)
      have q4 := alloc_frozen q4 (by show w.heap.size < w3.heap.size; omega) (.cells #[.int .i64 o, .slice a1 n1 c1, .int .i64 m, .int .i64 x, .slice a2 n2 cc2] 26)
      unfold NV.val
      rw [hp] at d1
      clear k23
      go_wp2_with fail
      have k4 : Keeps (fun _ => False) w3 (w3.alloc (.cells #[.int .i64 o, .slice a1 n1 c1, .int .i64 m, .int .i64 x, .slice a2 n2 cc2] 26)) := (Keeps.refl _ _).alloc _
      have K4 := Lib.hid (KX.out.trans k4)
      have HV4 := Lib.hid (HV.out.keepsTo (Q := fun b => w.heap.size < b) k4 (fun _ _ => id) (fun b hb => by have := hb.1; simp at this; omega))
      obtain ⟨w4, hw4⟩ : ∃ W, w3.alloc (.cells #[.int .i64 o, .slice a1 n1 c1, .int .i64 m, .int .i64 x, .slice a2 n2 cc2] 26) = W := ⟨_, rfl⟩
      rw [hw4] at y0 y1 y2 y3 y4 K4 HV4 ⊢
      clear q0 q1 q2 q3 q4
      obtain ⟨wE, hWE⟩ : ∃ W, st5 (w4) w.heap.size (.int .i64 o) (.slice a1 n1 c1) (.int .i64 m) (.int .i64 x) (.slice a2 n2 cc2) = W := ⟨_, rfl⟩
      obtain ⟨r0, r1, r2, r3, r4, kE⟩ := st5_facts (w4) w.heap.size y0 y1 y2 y3 y4 (.int .i64 o) (.slice a1 n1 c1) (.int .i64 m) (.int .i64 x) (.slice a2 n2 cc2)
      rw [hWE] at r0 r1 r2 r3 r4 kE
      unfold st5 at hWE
      rw [hWE]
      have HKE := Lib.hid kE
      clear kE hWE y0 y1 y2 y3 y4
      refine bodyPost_ret (by simp [results, Tryz.results5, go_sem, r0, r1, r2, r3, r4]; try rfl) rfl ?_
      exact parse_close (v := ⟨o, .slice a1 n1 c1, m, x, .slice a2 n2 cc2⟩) (n := 0) K4.out HV4.out HKE.out
end Go.Proofs.YtinogeobkljngaaGreatDoor
end
section
namespace Go.Proofs.YtinogeobkljngaaGreatDoor
open Go.RowKit
set_option linter.unusedVariables false
set_option linter.unusedSimpArgs false
set_option maxRecDepth 100000

def strL (l : List UInt8) : Value := .string ⟨l.toArray⟩
theorem back1 (w : World) (c : UInt8) : (convert 53 9 (.slice (some ⟨w.heap.size, 0, none⟩) 1 1)).run Tryz.prog (w.alloc (.cells #[.int .u8 (c.toNat : Int)] 5)) = .ok (.string ⟨#[c]⟩) (w.alloc (.cells #[.int .u8 (c.toNat : Int)] 5)) := by
  have := run_convert_bytes_back (P := Tryz.prog) (w.alloc (.cells #[.int .u8 (c.toNat : Int)] 5)) 53 9 5 ⟨w.heap.size, 0, none⟩ 1 [c] Tryz.underlying53 Tryz.underlying5 Tryz.underlying9 (fun j hj => by
    obtain rfl : j = 0 := by simp at hj; omega
    exact cells_new w [.int .u8 (c.toNat : Int)] 5 0 _ rfl)
  exact this
theorem str_app (a b : List UInt8) : (⟨a.toArray⟩ : ByteArray) ++ ⟨b.toArray⟩ = ⟨(a ++ b).toArray⟩ := by
  apply ByteArray.ext
  simp [ByteArray.data_append]
theorem decDigits_len : ∀ m, (Lib.decDigits m).length ≤ m + 1 := by
  intro m
  induction m using Nat.strongRecOn with
  | _ m ih =>
    rw [Lib.decDigits]
    split
    · simp
    · have := ih (m / 10) (by omega)
      simp; omega
theorem decDigits_short (m k : Nat) (h : m < 10 ^ (k + 1)) : (Lib.decDigits m).length ≤ k + 1 := by
  induction k generalizing m with
  | zero => rw [Lib.decDigits, dif_pos (by omega)]; simp
  | succ k ih =>
    rw [Lib.decDigits]
    split
    · simp
    · have := ih (m / 10) (by rw [Nat.pow_succ] at h; omega)
      simp; omega
theorem itoa_nat (m : Nat) : Lib.itoa (m : Int) = Lib.decDigits m := by
  unfold Lib.itoa
  rw [if_neg (by omega)]; simp
theorem itoa_neg (m : Nat) (h : 1 ≤ m) : Lib.itoa (-(m : Int)) = 45 :: Lib.decDigits m := by
  unfold Lib.itoa
  rw [if_pos (by omega)]; simp
theorem itoa_len (n : Int) (h : in64 n) : (Lib.itoa n).length ≤ 20 ∧ 1 ≤ (Lib.itoa n).length := by
  have hp : ∀ m, 1 ≤ (Lib.decDigits m).length := fun m => by rw [Lib.decDigits]; split <;> simp
  unfold in64 at h
  unfold Lib.itoa
  split
  · have := decDigits_short n.natAbs 18 (by omega)
    simp; omega
  · have := decDigits_short n.toNat 18 (by omega)
    have := hp n.toNat
    omega
end Go.Proofs.YtinogeobkljngaaGreatDoor
end
section
namespace Go.Proofs.YtinogeobkljngaaGreatDoor
open Go.RowKit
set_option linter.unusedVariables false
set_option linter.unusedSimpArgs false
set_option maxRecDepth 100000

def rangeS (p : Int × Int) : List UInt8 := if p.2 = p.1 then Lib.itoa p.1 else Lib.itoa p.1 ++ 45 :: Lib.itoa p.2
def rangesS (l : List (Int × Int)) : List UInt8 := 123 :: (Lib.join (l.map rangeS) [32] ++ [125])
def shownS (ks : List (List UInt8)) : List UInt8 := 40 :: (Lib.join ks [44] ++ [41])
def nodeS (op : Int) (set : List (Int × Int)) (mn mx : Int) (ks : List (List UInt8)) : List UInt8 :=
  if op = 0 then [101, 109, 112, 116, 121] else if op = 1 then [99, 104, 97, 114] ++ rangesS set else if op = 2 then [98, 101, 103, 105, 110] else if op = 3 then [101, 110, 100]
  else if op = 4 then [99, 97, 116] ++ shownS ks else if op = 5 then [97, 108, 116] ++ shownS ks
  else if op = 6 then [114, 101, 112, 123] ++ Lib.itoa mn ++ [32] ++ Lib.itoa mx ++ [125] ++ shownS ks else [63]
def showF : F → List (List UInt8)
  | .nil => []
  | .cons op set mn mx k r => nodeS op set mn mx (showF k) :: showF r
def showT (t : T) : List UInt8 := nodeS t.op t.set t.mn t.mx (showF t.kids)
theorem showF_of (l : List T) : showF (F.ofL l) = l.map showT := by
  induction l with
  | nil => rfl
  | cons t l ih => simp only [F.ofL, showF, ih, List.map_cons]; rfl
theorem showF_to (f : F) : showF f = f.toL.map showT := by rw [← showF_of, F.of_to]

theorem join_snoc (l : List (List UInt8)) (x sep : List UInt8) : Lib.join (l ++ [x]) sep = if l = [] then x else Lib.join l sep ++ sep ++ x := by
  cases l with
  | nil => simp [Lib.join_one]
  | cons y l =>
    rw [List.cons_append, Lib.join_cons, Lib.join_cons, if_neg (by simp)]
    simp [Lib.joinTail]
theorem join_take_le (l : List (List UInt8)) (sep : List UInt8) (i : Nat) : (Lib.join (l.take i) sep).length ≤ (Lib.join l sep).length := by
  cases l with
  | nil => simp
  | cons y l =>
    cases i with
    | zero => simp [Lib.join_nil]
    | succ i =>
      rw [List.take_succ_cons, Lib.join_cons, Lib.join_cons]
      have := Lib.joinTail_take_le sep l i
      simp only [List.length_append]; omega
theorem join_count (l : List (List UInt8)) (sep : List UInt8) (h1 : 1 ≤ sep.length) : l.length ≤ (Lib.join l sep).length + 1 := by
  cases l with
  | nil => simp
  | cons y l =>
    rw [Lib.join_length]
    have : l.length ≤ sep.length * l.length := Nat.le_mul_of_pos_left _ h1
    simp only [List.length_cons]; omega
theorem mem_lens : ∀ (l : List (List UInt8)) (x : List UInt8), x ∈ l → x.length ≤ Lib.lens l := by
  intro l
  induction l with
  | nil => intro x hx; simp at hx
  | cons z l ih =>
    intro x hx
    have e : Lib.lens (z :: l) = z.length + Lib.lens l := by simp [Lib.lens]
    rw [e]
    rcases List.mem_cons.1 hx with rfl | hx
    · omega
    · have := ih x hx; omega
theorem join_item (l : List (List UInt8)) (sep : List UInt8) (x : List UInt8) (hx : x ∈ l) : x.length ≤ (Lib.join l sep).length := by
  cases l with
  | nil => simp at hx
  | cons y l =>
    rw [Lib.join_cons]
    simp only [List.length_append]
    rcases List.mem_cons.1 hx with rfl | hx
    · omega
    · have h1 := mem_lens l x hx
      rw [Lib.joinTail_length]
      omega
theorem rangeS_len (p : Int × Int) (h1 : in64 p.1) (h2 : in64 p.2) : (rangeS p).length ≤ 41 ∧ 1 ≤ (rangeS p).length := by
  have a := itoa_len p.1 h1
  have b := itoa_len p.2 h2
  unfold rangeS
  split
  · omega
  · simp; omega
/-- A node that shows its kids. -/
def showsKids (op : Int) : Prop := op = 4 ∨ op = 5 ∨ op = 6
theorem nodeS_shown {op : Int} {set : List (Int × Int)} {mn mx : Int} {ks : List (List UInt8)} (h : showsKids op) : (Lib.join ks [44]).length + 2 ≤ (nodeS op set mn mx ks).length := by
  unfold nodeS shownS
  rcases h with rfl | rfl | rfl <;> simp <;> omega
theorem kid_len {t : T} (h : showsKids t.op) {i : Nat} {k : T} (hk : t.kids.toL[i]? = some k) : (showT k).length ≤ (showT t).length := by
  have h1 := nodeS_shown (set := t.set) (mn := t.mn) (mx := t.mx) (ks := showF t.kids) h
  have h2 := join_item (showF t.kids) [44] (showT k) (by rw [showF_to]; exact List.mem_map_of_mem (List.mem_of_getElem? hk))
  have h3 : showT t = nodeS t.op t.set t.mn t.mx (showF t.kids) := rfl
  rw [h3]; omega
end Go.Proofs.YtinogeobkljngaaGreatDoor
end
