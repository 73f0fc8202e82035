/-
  Several texts in one: The parser's Parse. The document's digits of a number. The document's code points: Is, Size, value, Put.
-/
import Derived.Test.YtpcbfmbpbegjgaaGreatMg19
import Derived.Test.YtpcbfmbpbegjgaaGreatMg11
import Derived.Test.YtpcbfmbpbegjgaaGreatMg1
import Derived.Test.YtpcbfmbpbegjgaaGreatMg2
import Derived.Lib.ItoaNum
import Derived.Lib.ConvBytes
import Derived.IntWalk
section
namespace Go.Proofs.YtpcbfmbpbegjgaaGreat
open Go.RowKit
set_option linter.unusedVariables false
set_option linter.unusedSimpArgs false
set_option maxRecDepth 100000

theorem ptsP_facts : ∀ (n : Nat) (l : List UInt8) (rs : List Int), ptsP n l = some rs → rs.length ≤ l.length ∧ ∀ r ∈ rs, 0 ≤ r ∧ r ≤ 1114111 := by
  intro n
  induction n with
  | zero => intro l rs h; simp [ptsP] at h; subst h; simp
  | succ n ih =>
    intro l rs h
    rcases l with _ | ⟨c, l⟩
    · simp [ptsP] at h; subst h; simp
    · rw [ptsP, if_neg (by simp)] at h
      by_cases hs : sizP (getP (c :: l)).1 = ((getP (c :: l)).2 : Int)
      · rw [if_pos hs, Option.map_eq_some_iff] at h
        obtain ⟨rs', h1, rfl⟩ := h
        have h2 := ih _ _ h1
        have hp := getP_pos c l
        have hb : isB (getP (c :: l)).1 = true := by
          unfold sizP at hs
          cases hb : isB (getP (c :: l)).1 with
          | true => rfl
          | false => rw [hb] at hs; simp at hs; omega
        have hr : 0 ≤ (getP (c :: l)).1 ∧ (getP (c :: l)).1 ≤ 1114111 := by
          simp [isB] at hb; omega
        refine ⟨?_, ?_⟩
        · have h3 := h2.1
          rw [List.length_drop] at h3
          simp only [List.length_cons] at h3 ⊢; omega
        · intro r hr'
          rcases List.mem_cons.1 hr' with rfl | hr'
          · exact hr
          · exact h2.2 r hr'
      · rw [if_neg hs] at h; cases h
theorem pts_facts {l : List UInt8} {rs : List Int} (h : pts l = some rs) : rs.length ≤ l.length ∧ ∀ r ∈ rs, 0 ≤ r ∧ r ≤ 1114111 := ptsP_facts _ _ _ h
theorem cells_int (rs : List Int) : cellsOf 1 encI rs = rs.map (Value.int .i64) := by
  induction rs with
  | nil => rfl
  | cons r rs ih => rw [List.map_cons, ← ih]; simp [cellsOf, encI, List.range_succ]
theorem frozen_cells (w : World) (cs : Array Value) (T : TypeId) (o : Nat) : (w.alloc (.cells cs T)).frozen? ⟨w.heap.size, o, none⟩ = false := by simp [go_sem]
/-- A parser at its beginning. -/
theorem PaAt.start {w w2 : World} {rv : Value} {rs : List Int} (hown : w2.ownsRow w.heap.size 3 1 rv rs.length (rs.map (Value.int .i64))) (hl : rs.length ≤ 1000) (hr : ∀ r ∈ rs, 0 ≤ r ∧ r ≤ 1114111) :
    PaAt (w2.alloc (.cells #[rv, .int .i64 0, .int .i64 0, .bool false] 96)) w2.heap.size rv rs ⟨0, 0, false⟩ := by
  have hlt := own_lt hown
  rw [← cells_int] at hown
  have hs := SlOf.ofOwn (enc := encI) hown (by omega)
  have K : Keeps (fun _ => False) w2 (w2.alloc (.cells #[rv, .int .i64 0, .int .i64 0, .bool false] 96)) := (Keeps.refl _ _).alloc _
  exact ⟨by simp [go_sem], by simp [go_sem], by simp [go_sem], by simp [go_sem], fun o => frozen_cells _ _ _ _, hs.keep K, fun e => by have := hlt _ e; omega, by omega, by simp, hr, fun b hb => by have := hlt _ hb; simp; omega⟩

def ParseRet (w : World) (r : T × Int) (e : Ending) (w' : World) : Prop :=
  ∃ v : NV, e = .returned (.tuple #[v.val, .int .i64 r.2]) ∧ TAt w' (fun b => w.heap.size ≤ b) v r.1 ∧ Keeps (fun _ => False) w w'
theorem zeroRet (w w' : World) (n : Int) (K : Keeps (fun _ => False) w w') : ParseRet w (zeroT, n) (.returned (.tuple #[NV.val ⟨0, .slice none 0 0, 0, 0, .slice none 0 0⟩, .int .i64 n])) w' := ⟨_, rfl, TAt.zero _ _, K⟩
theorem parse_close {w wX wE : World} {t : T} {v : NV} {n : Int} (K : Keeps (fun _ => False) w wX) (hT : TAt wX (fun b => w.heap.size < b) v t) (kE : Keeps (fun b => b = w.heap.size) wX wE) : ParseRet w (t, n) (.returned (.tuple #[v.val, .int .i64 n])) wE :=
  ⟨v, rfl, hT.keepsTo kE (fun b hb e => by omega) (fun b hb => by omega), K.trans2 kE (fun b hb e => by omega)⟩
theorem res_facts2 {w wX : World} {pb : Nat} (K : Keeps (OnlyP pb) (w.alloc (.cells #[.int .i64 0, .slice none 0 0, .int .i64 0, .int .i64 0, .slice none 0 0] 27)) wX) (hpb : ¬ w.heap.size = pb) :
    (wX.cell? ⟨w.heap.size, 0, none⟩ = some (.int .i64 0) ∧ wX.cell? ⟨w.heap.size, 1, none⟩ = some (.slice none 0 0) ∧ wX.cell? ⟨w.heap.size, 2, none⟩ = some (.int .i64 0) ∧ wX.cell? ⟨w.heap.size, 3, none⟩ = some (.int .i64 0) ∧ wX.cell? ⟨w.heap.size, 4, none⟩ = some (.slice none 0 0)) ∧
    (wX.frozen? ⟨w.heap.size, 0, none⟩ = false ∧ wX.frozen? ⟨w.heap.size, 1, none⟩ = false ∧ wX.frozen? ⟨w.heap.size, 2, none⟩ = false ∧ wX.frozen? ⟨w.heap.size, 3, none⟩ = false ∧ wX.frozen? ⟨w.heap.size, 4, none⟩ = false) :=
  ⟨⟨K.cell (by simp [go_sem]) hpb, K.cell (by simp [go_sem]) hpb, K.cell (by simp [go_sem]) hpb, K.cell (by simp [go_sem]) hpb, K.cell (by simp [go_sem]) hpb⟩,
    K.frozen (by simp [go_sem]) (by simp) hpb, K.frozen (by simp [go_sem]) (by simp) hpb, K.frozen (by simp [go_sem]) (by simp) hpb, K.frozen (by simp [go_sem]) (by simp) hpb, K.frozen (by simp [go_sem]) (by simp) hpb⟩
theorem keeps_new {w wX : World} {pb : Nat} (K : Keeps (OnlyP pb) (w.alloc (.cells #[.int .i64 0, .slice none 0 0, .int .i64 0, .int .i64 0, .slice none 0 0] 27)) wX) (hpb : w.heap.size ≤ pb) : Keeps (fun _ => False) w wX :=
  Keeps.trans2 (Keeps.alloc (Keeps.refl _ _) _) K (fun b hb e => by have e : b = pb := e; omega)
set_option maxHeartbeats 8000000 in
theorem parse_any (l : List UInt8) (w : World) (hm : l.length ≤ 9223372036854775807) : Calls Tryz.prog 24 #[.string ⟨l.toArray⟩] w (ParseRet w (parseP l)) := by
  by_cases hlen : 200 < l.length
  · have hP : parseP l = (zeroT, 16) := by unfold parseP; rw [if_pos hlen]
    rw [hP]
    have g0 : decide ((200 : Int) < (l.length : Int)) = true := by simp; omega
    have g1 : decide (200 < l.length) = true := by simpa using hlen
    go_enter Tryz.func24, Tryz.ntmps24
    go_wp2_with fail
    go_returns
    exact zeroRet _ _ _ (by (repeat' (with_reducible first | exact Keeps.refl _ _ | assumption | refine Keeps.drawN ?_ _ | refine Keeps.drew ?_ | refine Keeps.setCell ?_ ?_ _ | refine Keeps.alloc ?_ _)) <;> (first | exact Or.inr (Nat.le_refl _) | exact Or.inl rfl | exact Or.inl (Or.inl rfl) | exact Or.inl (Or.inr rfl) | (right; simp; done) | (right; simp; omega)))
  have g0 : decide ((200 : Int) < (l.length : Int)) = false := by simp; omega
  have g1 : decide (200 < l.length) = false := by simpa using hlen
  have HPt := Lib.hid (fun W => points_any l W (by omega))
  unfold PtsE at HPt
  cases hpt : pts l with
  | none =>
    rw [show parseP l = (zeroT, 15) by unfold parseP; rw [if_neg hlen, hpt]]
    rw [hpt] at HPt
    clear hpt
    simp only at HPt
    go_enter Tryz.func24, Tryz.ntmps24
    go_wp2_with fail
    refine (HPt.out _).mono ?_
    rintro e w2 ⟨rfl, k2⟩
    have k3 : Keeps (OnlyP (w.heap.size + 1)) (w.alloc (.cells #[.int .i64 0, .slice none 0 0, .int .i64 0, .int .i64 0, .slice none 0 0] 27)) w2 := k2.mono (fun _ _ e => e.elim)
    have K3 := Lib.hid (keeps_new k3 (by omega))
    obtain ⟨⟨y0, y1, y2, y3, y4⟩, q0, q1, q2, q3, q4⟩ := res_facts2 k3 (by omega)
    clear k2 k3
    go_wp2_with fail
    obtain ⟨wE, hWE⟩ : ∃ W, st5 (w2) w.heap.size (.int .i64 0) (.slice none 0 0) (.int .i64 0) (.int .i64 0) (.slice none 0 0) = W := ⟨_, rfl⟩
    obtain ⟨r0, r1, r2, r3, r4, kE⟩ := st5_facts (w2) w.heap.size y0 y1 y2 y3 y4 (.int .i64 0) (.slice none 0 0) (.int .i64 0) (.int .i64 0) (.slice none 0 0)
    rw [hWE] at r0 r1 r2 r3 r4 kE
    unfold st5 at hWE
    rw [hWE]
    have HKE := Lib.hid kE
    clear kE hWE y0 y1 y2 y3 y4
    refine bodyPost_ret (by simp [results, Tryz.results24, go_sem, r0, r1, r2, r3, r4]; try rfl) rfl ?_
    exact parse_close (v := ⟨0, .slice none 0 0, 0, 0, .slice none 0 0⟩) (n := 15) K3.out (TAt.zero _ _) HKE.out
  | some rs =>
    obtain ⟨hrl, hrr⟩ := pts_facts hpt
    rw [show parseP l = parseR rs by unfold parseP; rw [if_neg hlen, hpt]]
    rw [hpt] at HPt
    clear hpt
    simp only at HPt
    have HA := Lib.hid (alts_any rs (by omega) 11)
    have HGo := Lib.hid (alts_go rs 11 ⟨0, 0, false⟩)
    obtain ⟨t1, ht1⟩ : ∃ x, (alts rs 11 ⟨0, 0, false⟩).1 = x := ⟨_, rfl⟩
    obtain ⟨s1, hs1⟩ : ∃ x, (alts rs 11 ⟨0, 0, false⟩).2 = x := ⟨_, rfl⟩
    have hR : parseR rs = if s1.bad = true ∨ s1.pos ≠ rs.length then (zeroT, 15) else (t1, 0) := by unfold parseR; rw [ht1, hs1]
    rw [hR]
    have HE : Hid (alts rs 11 ⟨0, 0, false⟩ = (t1, s1)) := Lib.hid (by rw [← ht1, ← hs1])
    clear hR ht1 hs1
    have HRR := Lib.hid hrr
    clear hrr
    have hcase : (s1.bad = true) ∨ (s1.bad = false ∧ s1.pos ≠ rs.length) ∨ (s1.bad = false ∧ s1.pos = rs.length) := by
      cases s1.bad <;> simp; omega
    rcases hcase with hb | ⟨hb, hp⟩ | ⟨hb, hp⟩
    · rw [if_pos (Or.inl hb)]
      go_enter Tryz.func24, Tryz.ntmps24
      go_wp2_with fail
      refine (HPt.out _).mono ?_
      rintro e w2 ⟨⟨rv, rfl, hown⟩, k2⟩
      have hs2 := k2.size
      simp at hs2
      have hown2 : w2.ownsRow (w.alloc (.cells #[.int .i64 0, .slice none 0 0, .int .i64 0, .int .i64 0, .slice none 0 0] 27)).heap.size 3 1 rv rs.length (rs.map (Value.int .i64)) := hown
      have hst := PaAt.start (w := w.alloc (.cells #[.int .i64 0, .slice none 0 0, .int .i64 0, .int .i64 0, .slice none 0 0] 27)) hown2 (by omega) HRR.out
      obtain ⟨ra, rc, rfl⟩ := ownsRow_slice hown
      have K2 := Lib.hid k2
      have HS := Lib.hid hst
      clear hown hown2 hst k2
      go_wp2_with fail
      refine (HA.out _ w2.heap.size (.slice ra rs.length rc) ⟨0, 0, false⟩ HS.out ⟨by simp, fun _ => by simp⟩ ⟨by simp, by simp, fun _ => ⟨by simp, by simp⟩⟩).mono ?_
      rw [HE.out]
      rintro e w3 ⟨v, rfl, hv, h3, k3⟩
      obtain ⟨o, a1, n1, c1, m, x, a2, n2, cc2, rfl⟩ := NV.form hv
      have hs3 := k3.size
      simp at hs3
      have k23 : Keeps (OnlyP w2.heap.size) (w.alloc (.cells #[.int .i64 0, .slice none 0 0, .int .i64 0, .int .i64 0, .slice none 0 0] 27)) w3 := Keeps.trans (K2.out.mono (fun _ _ e => e.elim)) (Keeps.trans (by (repeat' (with_reducible first | exact Keeps.refl _ _ | assumption | refine Keeps.drawN ?_ _ | refine Keeps.drew ?_ | refine Keeps.setCell ?_ ?_ _ | refine Keeps.alloc ?_ _)) <;> (first | exact Or.inr (Nat.le_refl _) | exact Or.inl rfl | exact Or.inl (Or.inl rfl) | exact Or.inl (Or.inr rfl) | (right; simp; done) | (right; simp; omega))) k3)
      have d1 := h3.c1
      have d3 := h3.c3
      have HP3 := Lib.hid h3
      have hpl := h3.lt
      simp only at d1 d3
      rw [hb] at d3
      have KX := Lib.hid (keeps_new k23 (by omega))
      obtain ⟨⟨y0, y1, y2, y3, y4⟩, q0, q1, q2, q3, q4⟩ := res_facts2 k23 (by omega)
      have HV := Lib.hid hv
      clear hv h3 k3
      have y0 := alloc_cell y0 (.cells #[.int .i64 o, .slice a1 n1 c1, .int .i64 m, .int .i64 x, .slice a2 n2 cc2] 27)
      have y1 := alloc_cell y1 (.cells #[.int .i64 o, .slice a1 n1 c1, .int .i64 m, .int .i64 x, .slice a2 n2 cc2] 27)
      have y2 := alloc_cell y2 (.cells #[.int .i64 o, .slice a1 n1 c1, .int .i64 m, .int .i64 x, .slice a2 n2 cc2] 27)
      have y3 := alloc_cell y3 (.cells #[.int .i64 o, .slice a1 n1 c1, .int .i64 m, .int .i64 x, .slice a2 n2 cc2] 27)
      have y4 := alloc_cell y4 (.cells #[.int .i64 o, .slice a1 n1 c1, .int .i64 m, .int .i64 x, .slice a2 n2 cc2] 27)
      have q0 := alloc_frozen q0 (by show w.heap.size < w3.heap.size; omega) (.cells #[.int .i64 o, .slice a1 n1 c1, .int .i64 m, .int .i64 x, .slice a2 n2 cc2] 27)
      have q1 := alloc_frozen q1 (by show w.heap.size < w3.heap.size; omega) (.cells #[.int .i64 o, .slice a1 n1 c1, .int .i64 m, .int .i64 x, .slice a2 n2 cc2] 27)
      have q2 := alloc_frozen q2 (by show w.heap.size < w3.heap.size; omega) (.cells #[.int .i64 o, .slice a1 n1 c1, .int .i64 m, .int .i64 x, .slice a2 n2 cc2] 27)
      have q3 := alloc_frozen q3 (by show w.heap.size < w3.heap.size; omega) (.cells #[.int .i64 o, .slice a1 n1 c1, .int .i64 m, .int .i64 x, .slice a2 n2 cc2] 27)
      have q4 := alloc_frozen q4 (by show w.heap.size < w3.heap.size; omega) (.cells #[.int .i64 o, .slice a1 n1 c1, .int .i64 m, .int .i64 x, .slice a2 n2 cc2] 27)
      unfold NV.val
      clear k23
      go_wp2_with fail
      have k4 : Keeps (fun _ => False) w3 (w3.alloc (.cells #[.int .i64 o, .slice a1 n1 c1, .int .i64 m, .int .i64 x, .slice a2 n2 cc2] 27)) := (Keeps.refl _ _).alloc _
      have K4 := Lib.hid (KX.out.trans k4)
      have HV4 := Lib.hid (HV.out.keepsTo (Q := fun b => w.heap.size < b) k4 (fun _ _ => id) (fun b hb => by have := hb.1; simp at this; omega))
      obtain ⟨w4, hw4⟩ : ∃ W, w3.alloc (.cells #[.int .i64 o, .slice a1 n1 c1, .int .i64 m, .int .i64 x, .slice a2 n2 cc2] 27) = W := ⟨_, rfl⟩
      rw [hw4] at y0 y1 y2 y3 y4 K4 HV4 ⊢
      clear q0 q1 q2 q3 q4
      obtain ⟨wE, hWE⟩ : ∃ W, st5 (w4) w.heap.size (.int .i64 0) (.slice none 0 0) (.int .i64 0) (.int .i64 0) (.slice none 0 0) = W := ⟨_, rfl⟩
      obtain ⟨r0, r1, r2, r3, r4, kE⟩ := st5_facts (w4) w.heap.size y0 y1 y2 y3 y4 (.int .i64 0) (.slice none 0 0) (.int .i64 0) (.int .i64 0) (.slice none 0 0)
      rw [hWE] at r0 r1 r2 r3 r4 kE
      unfold st5 at hWE
      rw [hWE]
      have HKE := Lib.hid kE
      clear kE hWE y0 y1 y2 y3 y4
      refine bodyPost_ret (by simp [results, Tryz.results24, go_sem, r0, r1, r2, r3, r4]; try rfl) rfl ?_
      exact parse_close (v := ⟨0, .slice none 0 0, 0, 0, .slice none 0 0⟩) (n := 15) K4.out (TAt.zero _ _) HKE.out
    · rw [if_pos (Or.inr hp)]
      have f1 : ((s1.pos : Int) != (rs.length : Int)) = true := by simp; omega
      go_enter Tryz.func24, Tryz.ntmps24
      go_wp2_with fail
      refine (HPt.out _).mono ?_
      rintro e w2 ⟨⟨rv, rfl, hown⟩, k2⟩
      have hs2 := k2.size
      simp at hs2
      have hown2 : w2.ownsRow (w.alloc (.cells #[.int .i64 0, .slice none 0 0, .int .i64 0, .int .i64 0, .slice none 0 0] 27)).heap.size 3 1 rv rs.length (rs.map (Value.int .i64)) := hown
      have hst := PaAt.start (w := w.alloc (.cells #[.int .i64 0, .slice none 0 0, .int .i64 0, .int .i64 0, .slice none 0 0] 27)) hown2 (by omega) HRR.out
      obtain ⟨ra, rc, rfl⟩ := ownsRow_slice hown
      have K2 := Lib.hid k2
      have HS := Lib.hid hst
      clear hown hown2 hst k2
      go_wp2_with fail
      refine (HA.out _ w2.heap.size (.slice ra rs.length rc) ⟨0, 0, false⟩ HS.out ⟨by simp, fun _ => by simp⟩ ⟨by simp, by simp, fun _ => ⟨by simp, by simp⟩⟩).mono ?_
      rw [HE.out]
      rintro e w3 ⟨v, rfl, hv, h3, k3⟩
      obtain ⟨o, a1, n1, c1, m, x, a2, n2, cc2, rfl⟩ := NV.form hv
      have hs3 := k3.size
      simp at hs3
      have k23 : Keeps (OnlyP w2.heap.size) (w.alloc (.cells #[.int .i64 0, .slice none 0 0, .int .i64 0, .int .i64 0, .slice none 0 0] 27)) w3 := Keeps.trans (K2.out.mono (fun _ _ e => e.elim)) (Keeps.trans (by (repeat' (with_reducible first | exact Keeps.refl _ _ | assumption | refine Keeps.drawN ?_ _ | refine Keeps.drew ?_ | refine Keeps.setCell ?_ ?_ _ | refine Keeps.alloc ?_ _)) <;> (first | exact Or.inr (Nat.le_refl _) | exact Or.inl rfl | exact Or.inl (Or.inl rfl) | exact Or.inl (Or.inr rfl) | (right; simp; done) | (right; simp; omega))) k3)
      have d1 := h3.c1
      have d3 := h3.c3
      have HP3 := Lib.hid h3
      have hpl := h3.lt
      simp only at d1 d3
      rw [hb] at d3
      have KX := Lib.hid (keeps_new k23 (by omega))
      obtain ⟨⟨y0, y1, y2, y3, y4⟩, q0, q1, q2, q3, q4⟩ := res_facts2 k23 (by omega)
      have HV := Lib.hid hv
      clear hv h3 k3
      have y0 := alloc_cell y0 (.cells #[.int .i64 o, .slice a1 n1 c1, .int .i64 m, .int .i64 x, .slice a2 n2 cc2] 27)
      have y1 := alloc_cell y1 (.cells #[.int .i64 o, .slice a1 n1 c1, .int .i64 m, .int .i64 x, .slice a2 n2 cc2] 27)
      have y2 := alloc_cell y2 (.cells #[.int .i64 o, .slice a1 n1 c1, .int .i64 m, .int .i64 x, .slice a2 n2 cc2] 27)
      have y3 := alloc_cell y3 (.cells #[.int .i64 o, .slice a1 n1 c1, .int .i64 m, .int .i64 x, .slice a2 n2 cc2] 27)
      have y4 := alloc_cell y4 (.cells #[.int .i64 o, .slice a1 n1 c1, .int .i64 m, .int .i64 x, .slice a2 n2 cc2] 27)
      have q0 := alloc_frozen q0 (by show w.heap.size < w3.heap.size; omega) (.cells #[.int .i64 o, .slice a1 n1 c1, .int .i64 m, .int .i64 x, .slice a2 n2 cc2] 27)
      have q1 := alloc_frozen q1 (by show w.heap.size < w3.heap.size; omega) (.cells #[.int .i64 o, .slice a1 n1 c1, .int .i64 m, .int .i64 x, .slice a2 n2 cc2] 27)
      have q2 := alloc_frozen q2 (by show w.heap.size < w3.heap.size; omega) (.cells #[.int .i64 o, .slice a1 n1 c1, .int .i64 m, .int .i64 x, .slice a2 n2 cc2] 27)
      have q3 := alloc_frozen q3 (by show w.heap.size < w3.heap.size; omega) (.cells #[.int .i64 o, .slice a1 n1 c1, .int .i64 m, .int .i64 x, .slice a2 n2 cc2] 27)
      have q4 := alloc_frozen q4 (by show w.heap.size < w3.heap.size; omega) (.cells #[.int .i64 o, .slice a1 n1 c1, .int .i64 m, .int .i64 x, .slice a2 n2 cc2] 27)
      unfold NV.val
      clear k23 hp
      go_wp2_with fail
      have k4 : Keeps (fun _ => False) w3 (w3.alloc (.cells #[.int .i64 o, .slice a1 n1 c1, .int .i64 m, .int .i64 x, .slice a2 n2 cc2] 27)) := (Keeps.refl _ _).alloc _
      have K4 := Lib.hid (KX.out.trans k4)
      have HV4 := Lib.hid (HV.out.keepsTo (Q := fun b => w.heap.size < b) k4 (fun _ _ => id) (fun b hb => by have := hb.1; simp at this; omega))
      obtain ⟨w4, hw4⟩ : ∃ W, w3.alloc (.cells #[.int .i64 o, .slice a1 n1 c1, .int .i64 m, .int .i64 x, .slice a2 n2 cc2] 27) = W := ⟨_, rfl⟩
      rw [hw4] at y0 y1 y2 y3 y4 K4 HV4 ⊢
      clear q0 q1 q2 q3 q4
      obtain ⟨wE, hWE⟩ : ∃ W, st5 (w4) w.heap.size (.int .i64 0) (.slice none 0 0) (.int .i64 0) (.int .i64 0) (.slice none 0 0) = W := ⟨_, rfl⟩
      obtain ⟨r0, r1, r2, r3, r4, kE⟩ := st5_facts (w4) w.heap.size y0 y1 y2 y3 y4 (.int .i64 0) (.slice none 0 0) (.int .i64 0) (.int .i64 0) (.slice none 0 0)
      rw [hWE] at r0 r1 r2 r3 r4 kE
      unfold st5 at hWE
      rw [hWE]
      have HKE := Lib.hid kE
      clear kE hWE y0 y1 y2 y3 y4
      refine bodyPost_ret (by simp [results, Tryz.results24, go_sem, r0, r1, r2, r3, r4]; try rfl) rfl ?_
      exact parse_close (v := ⟨0, .slice none 0 0, 0, 0, .slice none 0 0⟩) (n := 15) K4.out (TAt.zero _ _) HKE.out
    · rw [if_neg (by rw [hb]; simp; exact hp)]
      go_enter Tryz.func24, Tryz.ntmps24
      go_wp2_with fail
      refine (HPt.out _).mono ?_
      rintro e w2 ⟨⟨rv, rfl, hown⟩, k2⟩
      have hs2 := k2.size
      simp at hs2
      have hown2 : w2.ownsRow (w.alloc (.cells #[.int .i64 0, .slice none 0 0, .int .i64 0, .int .i64 0, .slice none 0 0] 27)).heap.size 3 1 rv rs.length (rs.map (Value.int .i64)) := hown
      have hst := PaAt.start (w := w.alloc (.cells #[.int .i64 0, .slice none 0 0, .int .i64 0, .int .i64 0, .slice none 0 0] 27)) hown2 (by omega) HRR.out
      obtain ⟨ra, rc, rfl⟩ := ownsRow_slice hown
      have K2 := Lib.hid k2
      have HS := Lib.hid hst
      clear hown hown2 hst k2
      go_wp2_with fail
      refine (HA.out _ w2.heap.size (.slice ra rs.length rc) ⟨0, 0, false⟩ HS.out ⟨by simp, fun _ => by simp⟩ ⟨by simp, by simp, fun _ => ⟨by simp, by simp⟩⟩).mono ?_
      rw [HE.out]
      rintro e w3 ⟨v, rfl, hv, h3, k3⟩
      obtain ⟨o, a1, n1, c1, m, x, a2, n2, cc2, rfl⟩ := NV.form hv
      have hs3 := k3.size
      simp at hs3
      have k23 : Keeps (OnlyP w2.heap.size) (w.alloc (.cells #[.int .i64 0, .slice none 0 0, .int .i64 0, .int .i64 0, .slice none 0 0] 27)) w3 := Keeps.trans (K2.out.mono (fun _ _ e => e.elim)) (Keeps.trans (by (repeat' (with_reducible first | exact Keeps.refl _ _ | assumption | refine Keeps.drawN ?_ _ | refine Keeps.drew ?_ | refine Keeps.setCell ?_ ?_ _ | refine Keeps.alloc ?_ _)) <;> (first | exact Or.inr (Nat.le_refl _) | exact Or.inl rfl | exact Or.inl (Or.inl rfl) | exact Or.inl (Or.inr rfl) | (right; simp; done) | (right; simp; omega))) k3)
      have d1 := h3.c1
      have d3 := h3.c3
      have HP3 := Lib.hid h3
      have hpl := h3.lt
      simp only at d1 d3
      rw [hb] at d3
      have KX := Lib.hid (keeps_new k23 (by omega))
      obtain ⟨⟨y0, y1, y2, y3, y4⟩, q0, q1, q2, q3, q4⟩ := res_facts2 k23 (by omega)
      have HV := Lib.hid hv
      clear hv h3 k3
      have y0 := alloc_cell y0 (.cells #[.int .i64 o, .slice a1 n1 c1, .int .i64 m, .int .i64 x, .slice a2 n2 cc2] 27)
      have y1 := alloc_cell y1 (.cells #[.int .i64 o, .slice a1 n1 c1, .int .i64 m, .int .i64 x, .slice a2 n2 cc2] 27)
      have y2 := alloc_cell y2 (.cells #[.int .i64 o, .slice a1 n1 c1, .int .i64 m, .int .i64 x, .slice a2 n2 cc2] 27)
      have y3 := alloc_cell y3 (.cells #[.int .i64 o, .slice a1 n1 c1, .int .i64 m, .int .i64 x, .slice a2 n2 cc2] 27)
      have y4 := alloc_cell y4 (.cells #[.int .i64 o, .slice a1 n1 c1, .int .i64 m, .int .i64 x, .slice a2 n2 cc2] 27)
      have q0 := alloc_frozen q0 (by show w.heap.size < w3.heap.size; omega) (.cells #[.int .i64 o, .slice a1 n1 c1, .int .i64 m, .int .i64 x, .slice a2 n2 cc2] 27)
      have q1 := alloc_frozen q1 (by show w.heap.size < w3.heap.size; omega) (.cells #[.int .i64 o, .slice a1 n1 c1, .int .i64 m, .int .i64 x, .slice a2 n2 cc2] 27)
      have q2 := alloc_frozen q2 (by show w.heap.size < w3.heap.size; omega) (.cells #[.int .i64 o, .slice a1 n1 c1, .int .i64 m, .int .i64 x, .slice a2 n2 cc2] 27)
      have q3 := alloc_frozen q3 (by show w.heap.size < w3.heap.size; omega) (.cells #[.int .i64 o, .slice a1 n1 c1, .int .i64 m, .int .i64 x, .slice a2 n2 cc2] 27)
      have q4 := alloc_frozen q4 (by show w.heap.size < w3.heap.size; omega) (.cells #[.int .i64 o, .slice a1 n1 c1, .int .i64 m, .int .i64 x, .slice a2 n2 cc2] 27)
      unfold NV.val
      rw [hp] at d1
      clear k23
      go_wp2_with fail
      have k4 : Keeps (fun _ => False) w3 (w3.alloc (.cells #[.int .i64 o, .slice a1 n1 c1, .int .i64 m, .int .i64 x, .slice a2 n2 cc2] 27)) := (Keeps.refl _ _).alloc _
      have K4 := Lib.hid (KX.out.trans k4)
      have HV4 := Lib.hid (HV.out.keepsTo (Q := fun b => w.heap.size < b) k4 (fun _ _ => id) (fun b hb => by have := hb.1; simp at this; omega))
      obtain ⟨w4, hw4⟩ : ∃ W, w3.alloc (.cells #[.int .i64 o, .slice a1 n1 c1, .int .i64 m, .int .i64 x, .slice a2 n2 cc2] 27) = W := ⟨_, rfl⟩
      rw [hw4] at y0 y1 y2 y3 y4 K4 HV4 ⊢
      clear q0 q1 q2 q3 q4
      obtain ⟨wE, hWE⟩ : ∃ W, st5 (w4) w.heap.size (.int .i64 o) (.slice a1 n1 c1) (.int .i64 m) (.int .i64 x) (.slice a2 n2 cc2) = W := ⟨_, rfl⟩
      obtain ⟨r0, r1, r2, r3, r4, kE⟩ := st5_facts (w4) w.heap.size y0 y1 y2 y3 y4 (.int .i64 o) (.slice a1 n1 c1) (.int .i64 m) (.int .i64 x) (.slice a2 n2 cc2)
      rw [hWE] at r0 r1 r2 r3 r4 kE
      unfold st5 at hWE
      rw [hWE]
      have HKE := Lib.hid kE
      clear kE hWE y0 y1 y2 y3 y4
      refine bodyPost_ret (by simp [results, Tryz.results24, go_sem, r0, r1, r2, r3, r4]; try rfl) rfl ?_
      exact parse_close (v := ⟨o, .slice a1 n1 c1, m, x, .slice a2 n2 cc2⟩) (n := 0) K4.out HV4.out HKE.out
end Go.Proofs.YtpcbfmbpbegjgaaGreat
end
section
namespace Go.Proofs.YtpcbfmbpbegjgaaGreat
open Go.RowKit
set_option linter.unusedVariables false
set_option linter.unusedSimpArgs false
set_option maxRecDepth 100000

def strL (l : List UInt8) : Value := .string ⟨l.toArray⟩
theorem back1 (w : World) (c : UInt8) : (convert 42 9 (.slice (some ⟨w.heap.size, 0, none⟩) 1 1)).run Tryz.prog (w.alloc (.cells #[.int .u8 (c.toNat : Int)] 5)) = .ok (.string ⟨#[c]⟩) (w.alloc (.cells #[.int .u8 (c.toNat : Int)] 5)) := by
  have := run_convert_bytes_back (P := Tryz.prog) (w.alloc (.cells #[.int .u8 (c.toNat : Int)] 5)) 42 9 5 ⟨w.heap.size, 0, none⟩ 1 [c] Tryz.underlying42 Tryz.underlying5 Tryz.underlying9 (fun j hj => by
    obtain rfl : j = 0 := by simp at hj; omega
    exact cells_new w [.int .u8 (c.toNat : Int)] 5 0 _ rfl)
  exact this
theorem str_app (a b : List UInt8) : (⟨a.toArray⟩ : ByteArray) ++ ⟨b.toArray⟩ = ⟨(a ++ b).toArray⟩ := by
  apply ByteArray.ext
  simp [ByteArray.data_append]
theorem decDigits_len : ∀ m, (Lib.decDigits m).length ≤ m + 1 := by
  intro m
  induction m using Nat.strongRecOn with
  | _ m ih =>
    rw [Lib.decDigits]
    split
    · simp
    · have := ih (m / 10) (by omega)
      simp; omega
theorem decDigits_short (m k : Nat) (h : m < 10 ^ (k + 1)) : (Lib.decDigits m).length ≤ k + 1 := by
  induction k generalizing m with
  | zero => rw [Lib.decDigits, dif_pos (by omega)]; simp
  | succ k ih =>
    rw [Lib.decDigits]
    split
    · simp
    · have := ih (m / 10) (by rw [Nat.pow_succ] at h; omega)
      simp; omega
theorem itoa_nat (m : Nat) : Lib.itoa (m : Int) = Lib.decDigits m := by
  unfold Lib.itoa
  rw [if_neg (by omega)]; simp
theorem itoa_neg (m : Nat) (h : 1 ≤ m) : Lib.itoa (-(m : Int)) = 45 :: Lib.decDigits m := by
  unfold Lib.itoa
  rw [if_pos (by omega)]; simp
theorem itoa_len (n : Int) (h : in64 n) : (Lib.itoa n).length ≤ 20 ∧ 1 ≤ (Lib.itoa n).length := by
  have hp : ∀ m, 1 ≤ (Lib.decDigits m).length := fun m => by rw [Lib.decDigits]; split <;> simp
  unfold in64 at h
  unfold Lib.itoa
  split
  · have := decDigits_short n.natAbs 18 (by omega)
    simp; omega
  · have := decDigits_short n.toNat 18 (by omega)
    have := hp n.toNat
    omega
end Go.Proofs.YtpcbfmbpbegjgaaGreat
end
section
namespace Go.Proofs.YtpcbfmbpbegjgaaGreat
open Go.RowKit
set_option linter.unusedVariables false
set_option linter.unusedSimpArgs false
set_option maxRecDepth 100000

theorem rIs_any (r : Int) (w : World) : Calls Tryz.prog 37 #[.int .i64 r] w fun e w' => e = .returned (.bool (isB r)) ∧ w = w' := by
  by_cases h0 : 0 ≤ r
  · have g0 : decide (0 ≤ r) = true := by simpa using h0
    by_cases h1 : r ≤ 1114111
    · have g1 : decide (r ≤ 1114111) = true := by simpa using h1
      by_cases h2 : 55296 ≤ r
      · have g2 : decide (55296 ≤ r) = true := by simpa using h2
        by_cases h3 : r ≤ 57343
        · have g3 : decide (r ≤ 57343) = true := by simpa using h3
          rw [show isB r = false by simp [isB]; omega]
          go_enter Tryz.func37, Tryz.ntmps37
          go_wp2_with fail
          go_ret
          exact ⟨rfl, rfl⟩
        · have g3 : decide (r ≤ 57343) = false := by simpa using h3
          rw [show isB r = true by simp [isB]; omega]
          go_enter Tryz.func37, Tryz.ntmps37
          go_wp2_with fail
          go_ret
          exact ⟨rfl, rfl⟩
      · have g2 : decide (55296 ≤ r) = false := by simpa using h2
        rw [show isB r = true by simp [isB]; omega]
        go_enter Tryz.func37, Tryz.ntmps37
        go_wp2_with fail
        go_ret
        exact ⟨rfl, rfl⟩
    · have g1 : decide (r ≤ 1114111) = false := by simpa using h1
      rw [show isB r = false by simp [isB]; omega]
      go_enter Tryz.func37, Tryz.ntmps37
      go_wp2_with fail
      go_ret
      exact ⟨rfl, rfl⟩
  · have g0 : decide (0 ≤ r) = false := by simpa using h0
    rw [show isB r = false by simp [isB]; omega]
    go_enter Tryz.func37, Tryz.ntmps37
    go_wp2_with fail
    go_ret
    exact ⟨rfl, rfl⟩
theorem rSize_any (r : Int) (w : World) (hb : isB r = true) : Calls Tryz.prog 38 #[.int .i64 r] w fun e w' => e = .returned (.int .i64 (sizP r)) ∧ w = w' := by
  have HI := Lib.hid (fun W => rIs_any r W)
  have He : Hid (sizP r = if r < 128 then 1 else if r < 2048 then 2 else if r < 65536 then 3 else 4) := Lib.hid (by unfold sizP; rw [hb]; rfl)
  rw [hb] at HI
  clear hb
  generalize sizP r = q at He
  by_cases h1 : r < 128
  · have g1 : decide (r < 128) = true := by simpa using h1
    have E : Hid (q = 1) := Lib.hid (by rw [He.out, if_pos h1])
    clear He
    go_enter Tryz.func38, Tryz.ntmps38
    go_wp2_with fail
    refine (HI.out _).mono ?_
    rintro e w1 ⟨rfl, rfl⟩
    go_wp2_with fail
    go_ret
    exact ⟨by rw [E.out]; rfl, rfl⟩
  have g1 : decide (r < 128) = false := by simpa using h1
  by_cases h2 : r < 2048
  · have g2 : decide (r < 2048) = true := by simpa using h2
    have E : Hid (q = 2) := Lib.hid (by rw [He.out, if_neg h1, if_pos h2])
    clear He
    go_enter Tryz.func38, Tryz.ntmps38
    go_wp2_with fail
    refine (HI.out _).mono ?_
    rintro e w1 ⟨rfl, rfl⟩
    go_wp2_with fail
    go_ret
    exact ⟨by rw [E.out]; rfl, rfl⟩
  have g2 : decide (r < 2048) = false := by simpa using h2
  by_cases h3 : r < 65536
  · have g3 : decide (r < 65536) = true := by simpa using h3
    have E : Hid (q = 3) := Lib.hid (by rw [He.out, if_neg h1, if_neg h2, if_pos h3])
    clear He
    go_enter Tryz.func38, Tryz.ntmps38
    go_wp2_with fail
    refine (HI.out _).mono ?_
    rintro e w1 ⟨rfl, rfl⟩
    go_wp2_with fail
    go_ret
    exact ⟨by rw [E.out]; rfl, rfl⟩
  have g3 : decide (r < 65536) = false := by simpa using h3
  have E : Hid (q = 4) := Lib.hid (by rw [He.out, if_neg h1, if_neg h2, if_neg h3])
  clear He
  go_enter Tryz.func38, Tryz.ntmps38
  go_wp2_with fail
  refine (HI.out _).mono ?_
  rintro e w1 ⟨rfl, rfl⟩
  go_wp2_with fail
  go_ret
  exact ⟨by rw [E.out]; rfl, rfl⟩

/-! ### What octets would say -/
def valH (c : Nat) : Nat := if 240 ≤ c then c - 240 else if 224 ≤ c then c - 224 else if 192 ≤ c then c - 192 else c
def valP : List UInt8 → Nat
  | [] => 0
  | c :: l => l.foldl (fun r b => r * 64 + (b.toNat + 128) % 256) (valH c.toNat)
theorem valP_snoc (l : List UInt8) (b : UInt8) (h : l ≠ []) : valP (l ++ [b]) = valP l * 64 + (b.toNat + 128) % 256 := by
  cases l with
  | nil => exact absurd rfl h
  | cons c l => simp [valP]
theorem take_snocB {l : List UInt8} {i : Nat} {b : UInt8} (h : l[i]? = some b) : l.take (i + 1) = l.take i ++ [b] := by rw [List.take_add_one, h]; rfl
def bndV (i : Nat) : Nat := 300 * 65 ^ (i - 1)
theorem bndV_le {i : Nat} (h1 : 1 ≤ i) (h4 : i ≤ 4) : bndV i ≤ 82387500 ∧ 300 ≤ bndV i ∧ bndV (i + 1) = 65 * bndV i := by
  rcases (by omega : i = 1 ∨ i = 2 ∨ i = 3 ∨ i = 4) with rfl | rfl | rfl | rfl <;> simp [bndV]
def ValR (l : List UInt8) (rv iv : Value) : Prop := ∃ (i r : Nat), iv = .int .i64 i ∧ rv = .int .i64 r ∧ 1 ≤ i ∧ i ≤ l.length ∧ r = valP (l.take i) ∧ r ≤ bndV i
theorem idxB {l : List UInt8} {i : Nat} {c : UInt8} (hc : l[i]? = some c) : ∀ (h : i < (⟨l.toArray⟩ : ByteArray).size), (⟨l.toArray⟩ : ByteArray)[i]'h = c := fun h => by
  have := (List.getElem?_eq_some_iff.1 hc).2
  simpa [ByteArray.getElem_eq_getElem_data] using this
set_option maxHeartbeats 4000000 in
theorem value_any (c : UInt8) (t : List UInt8) (w : World) (hl : t.length ≤ 3) : Calls Tryz.prog 36 #[.string ⟨(c :: t).toArray⟩] w fun e w' => e = .returned (.int .i64 (valP (c :: t))) ∧ w = w' := by
  obtain ⟨l, hle⟩ : ∃ l, c :: t = l := ⟨_, rfl⟩
  rw [hle]
  have hlen : l.length ≤ 4 ∧ 1 ≤ l.length := by rw [← hle]; simp; omega
  have hc : l[0]? = some c := by rw [← hle]; rfl
  have hx := idxB hc
  have h256 := c.toNat_lt
  have HV1 : Hid (valP (l.take 1) = valH c.toNat) := Lib.hid (by rw [← hle]; rfl)
  have HR : Hid (valP (l.take l.length) = valP l) := Lib.hid (by rw [List.take_length])
  generalize valP l = R at *
  clear hle hc hl
  have hst : ∃ r, valH c.toNat = r ∧ r ≤ 255 := ⟨_, rfl, by unfold valH; split <;> (try split) <;> (try split) <;> omega⟩
  obtain ⟨r0, hr0, hr1⟩ := hst
  have HV0 : Hid (r0 = valP (l.take 1)) := Lib.hid (by rw [HV1.out, hr0])
  have key : ∀ q : Nat, q = r0 → ValR l (.int .i64 q) (.int .i64 1) := fun q hq => ⟨1, q, rfl, rfl, by omega, by omega, by rw [hq]; exact HV0.out, by simp [bndV]; omega⟩
  have KEY := Lib.hid key
  clear key HV1 HV0
  rcases (by omega : 240 ≤ c.toNat ∨ (¬ 240 ≤ c.toNat ∧ 224 ≤ c.toNat) ∨ (¬ 240 ≤ c.toNat ∧ ¬ 224 ≤ c.toNat ∧ 192 ≤ c.toNat) ∨ (¬ 240 ≤ c.toNat ∧ ¬ 224 ≤ c.toNat ∧ ¬ 192 ≤ c.toNat)) with h1 | ⟨h1, h2⟩ | ⟨h1, h2, h3⟩ | ⟨h1, h2, h3⟩
  · have e : r0 = c.toNat - 240 := by rw [← hr0]; unfold valH; rw [if_pos h1]
    have g1 : decide ((240 : Int) ≤ ((c.toNat : Nat) : Int)) = true := by simp; omega
    have g1n : decide (240 ≤ c.toNat) = true := by simpa using h1
    have HS : Hid (ValR l (.int .i64 ((c.toNat : Int) - 240)) (.int .i64 1)) := Lib.hid (by
      have := KEY.out (c.toNat - 240) e.symm
      rwa [show ((c.toNat - 240 : Nat) : Int) = (c.toNat : Int) - 240 by omega] at this)
    clear hr0 e KEY
    go_enter Tryz.func36, Tryz.ntmps36
    go_wp2_with fail
    go_loopw [4, 5] (fun rv iv wr => ValR l rv iv ∧ w = wr) (fun _ iv _ => l.length + 1 - (intOf iv).toNat)
    case atStart => exact ⟨HS.out, rfl⟩
    case round =>
      obtain ⟨⟨i, r, rfl, rfl, hi1, hi2, hv, hb⟩, rfl⟩ := hrel
      have HVV := Lib.hid hv
      have hbb := bndV_le hi1 (by omega)
      clear hv hx HS
      by_cases hil : i < l.length
      · obtain ⟨b, hb2⟩ : ∃ b, l[i]? = some b := ⟨_, List.getElem?_eq_getElem hil⟩
        have hy := idxB hb2
        have HN : Hid (valP (l.take (i + 1)) = r * 64 + (b.toNat + 128) % 256) := Lib.hid (by
          rw [take_snocB hb2, valP_snoc _ _ (by intro h; have := congrArg List.length h; rw [List.length_take, List.length_nil] at this; omega), HVV.out])
        have h256 := b.toNat_lt
        have t1 : ((b.toNat : Int) + 128).tmod 256 = ((b.toNat : Int) + 128) % 256 := Int.tmod_eq_emod_of_nonneg (by omega)
        clear hb2
        go_wp2_with fail
        go_roundw
        case rel => exact ⟨⟨i + 1, r * 64 + (b.toNat + 128) % 256, by go_num, by congr 1, by omega, by omega, HN.out.symm, by rw [hbb.2.2]; omega⟩, by trivial⟩
        case measure => simp [intOf]; omega
      · have he : i = l.length := by omega
        subst he
        go_wp2_with fail
        go_ret
        exact ⟨by rw [← HR.out, ← HVV.out]; rfl, rfl⟩
  · have e : r0 = c.toNat - 224 := by rw [← hr0]; unfold valH; rw [if_neg h1, if_pos h2]
    have g1 : decide ((240 : Int) ≤ ((c.toNat : Nat) : Int)) = false := by simp; omega
    have g1n : decide (240 ≤ c.toNat) = false := by simpa using h1
    have g2 : decide ((224 : Int) ≤ ((c.toNat : Nat) : Int)) = true := by simp; omega
    have g2n : decide (224 ≤ c.toNat) = true := by simpa using h2
    have HS : Hid (ValR l (.int .i64 ((c.toNat : Int) - 224)) (.int .i64 1)) := Lib.hid (by
      have := KEY.out (c.toNat - 224) e.symm
      rwa [show ((c.toNat - 224 : Nat) : Int) = (c.toNat : Int) - 224 by omega] at this)
    clear hr0 e KEY
    go_enter Tryz.func36, Tryz.ntmps36
    go_wp2_with fail
    go_loopw [4, 5] (fun rv iv wr => ValR l rv iv ∧ w = wr) (fun _ iv _ => l.length + 1 - (intOf iv).toNat)
    case atStart => exact ⟨HS.out, rfl⟩
    case round =>
      obtain ⟨⟨i, r, rfl, rfl, hi1, hi2, hv, hb⟩, rfl⟩ := hrel
      have HVV := Lib.hid hv
      have hbb := bndV_le hi1 (by omega)
      clear hv hx HS
      by_cases hil : i < l.length
      · obtain ⟨b, hb2⟩ : ∃ b, l[i]? = some b := ⟨_, List.getElem?_eq_getElem hil⟩
        have hy := idxB hb2
        have HN : Hid (valP (l.take (i + 1)) = r * 64 + (b.toNat + 128) % 256) := Lib.hid (by
          rw [take_snocB hb2, valP_snoc _ _ (by intro h; have := congrArg List.length h; rw [List.length_take, List.length_nil] at this; omega), HVV.out])
        have h256 := b.toNat_lt
        have t1 : ((b.toNat : Int) + 128).tmod 256 = ((b.toNat : Int) + 128) % 256 := Int.tmod_eq_emod_of_nonneg (by omega)
        clear hb2
        go_wp2_with fail
        go_roundw
        case rel => exact ⟨⟨i + 1, r * 64 + (b.toNat + 128) % 256, by go_num, by congr 1, by omega, by omega, HN.out.symm, by rw [hbb.2.2]; omega⟩, by trivial⟩
        case measure => simp [intOf]; omega
      · have he : i = l.length := by omega
        subst he
        go_wp2_with fail
        go_ret
        exact ⟨by rw [← HR.out, ← HVV.out]; rfl, rfl⟩
  · have e : r0 = c.toNat - 192 := by rw [← hr0]; unfold valH; rw [if_neg h1, if_neg h2, if_pos h3]
    have g1 : decide ((240 : Int) ≤ ((c.toNat : Nat) : Int)) = false := by simp; omega
    have g1n : decide (240 ≤ c.toNat) = false := by simpa using h1
    have g2 : decide ((224 : Int) ≤ ((c.toNat : Nat) : Int)) = false := by simp; omega
    have g2n : decide (224 ≤ c.toNat) = false := by simpa using h2
    have g3 : decide ((192 : Int) ≤ ((c.toNat : Nat) : Int)) = true := by simp; omega
    have g3n : decide (192 ≤ c.toNat) = true := by simpa using h3
    have HS : Hid (ValR l (.int .i64 ((c.toNat : Int) - 192)) (.int .i64 1)) := Lib.hid (by
      have := KEY.out (c.toNat - 192) e.symm
      rwa [show ((c.toNat - 192 : Nat) : Int) = (c.toNat : Int) - 192 by omega] at this)
    clear hr0 e KEY
    go_enter Tryz.func36, Tryz.ntmps36
    go_wp2_with fail
    go_loopw [4, 5] (fun rv iv wr => ValR l rv iv ∧ w = wr) (fun _ iv _ => l.length + 1 - (intOf iv).toNat)
    case atStart => exact ⟨HS.out, rfl⟩
    case round =>
      obtain ⟨⟨i, r, rfl, rfl, hi1, hi2, hv, hb⟩, rfl⟩ := hrel
      have HVV := Lib.hid hv
      have hbb := bndV_le hi1 (by omega)
      clear hv hx HS
      by_cases hil : i < l.length
      · obtain ⟨b, hb2⟩ : ∃ b, l[i]? = some b := ⟨_, List.getElem?_eq_getElem hil⟩
        have hy := idxB hb2
        have HN : Hid (valP (l.take (i + 1)) = r * 64 + (b.toNat + 128) % 256) := Lib.hid (by
          rw [take_snocB hb2, valP_snoc _ _ (by intro h; have := congrArg List.length h; rw [List.length_take, List.length_nil] at this; omega), HVV.out])
        have h256 := b.toNat_lt
        have t1 : ((b.toNat : Int) + 128).tmod 256 = ((b.toNat : Int) + 128) % 256 := Int.tmod_eq_emod_of_nonneg (by omega)
        clear hb2
        go_wp2_with fail
        go_roundw
        case rel => exact ⟨⟨i + 1, r * 64 + (b.toNat + 128) % 256, by go_num, by congr 1, by omega, by omega, HN.out.symm, by rw [hbb.2.2]; omega⟩, by trivial⟩
        case measure => simp [intOf]; omega
      · have he : i = l.length := by omega
        subst he
        go_wp2_with fail
        go_ret
        exact ⟨by rw [← HR.out, ← HVV.out]; rfl, rfl⟩
  · have e : r0 = c.toNat := by rw [← hr0]; unfold valH; rw [if_neg h1, if_neg h2, if_neg h3]
    have g1 : decide ((240 : Int) ≤ ((c.toNat : Nat) : Int)) = false := by simp; omega
    have g1n : decide (240 ≤ c.toNat) = false := by simpa using h1
    have g2 : decide ((224 : Int) ≤ ((c.toNat : Nat) : Int)) = false := by simp; omega
    have g2n : decide (224 ≤ c.toNat) = false := by simpa using h2
    have g3 : decide ((192 : Int) ≤ ((c.toNat : Nat) : Int)) = false := by simp; omega
    have g3n : decide (192 ≤ c.toNat) = false := by simpa using h3
    have HS : Hid (ValR l (.int .i64 (c.toNat : Int)) (.int .i64 1)) := Lib.hid (KEY.out _ e.symm)
    clear hr0 e KEY
    go_enter Tryz.func36, Tryz.ntmps36
    go_wp2_with fail
    go_loopw [4, 5] (fun rv iv wr => ValR l rv iv ∧ w = wr) (fun _ iv _ => l.length + 1 - (intOf iv).toNat)
    case atStart => exact ⟨HS.out, rfl⟩
    case round =>
      obtain ⟨⟨i, r, rfl, rfl, hi1, hi2, hv, hb⟩, rfl⟩ := hrel
      have HVV := Lib.hid hv
      have hbb := bndV_le hi1 (by omega)
      clear hv hx HS
      by_cases hil : i < l.length
      · obtain ⟨b, hb2⟩ : ∃ b, l[i]? = some b := ⟨_, List.getElem?_eq_getElem hil⟩
        have hy := idxB hb2
        have HN : Hid (valP (l.take (i + 1)) = r * 64 + (b.toNat + 128) % 256) := Lib.hid (by
          rw [take_snocB hb2, valP_snoc _ _ (by intro h; have := congrArg List.length h; rw [List.length_take, List.length_nil] at this; omega), HVV.out])
        have h256 := b.toNat_lt
        have t1 : ((b.toNat : Int) + 128).tmod 256 = ((b.toNat : Int) + 128) % 256 := Int.tmod_eq_emod_of_nonneg (by omega)
        clear hb2
        go_wp2_with fail
        go_roundw
        case rel => exact ⟨⟨i + 1, r * 64 + (b.toNat + 128) % 256, by go_num, by congr 1, by omega, by omega, HN.out.symm, by rw [hbb.2.2]; omega⟩, by trivial⟩
        case measure => simp [intOf]; omega
      · have he : i = l.length := by omega
        subst he
        go_wp2_with fail
        go_ret
        exact ⟨by rw [← HR.out, ← HVV.out]; rfl, rfl⟩
end Go.Proofs.YtpcbfmbpbegjgaaGreat
end
