/-
  Are two trees the same: the program's Same (and slices.EqualFunc).
-/
import Derived.Test.YtinogeobkljngaaDoorPaSz
import Derived.Test.YtinogeobkljngaaDoorSetEq
namespace Go.Proofs.YtinogeobkljngaaDoor
open Go.RowKit
set_option linter.unusedVariables false
set_option linter.unusedSimpArgs false
set_option maxRecDepth 100000

/-- A row of nodes that is read: of each its five cells. -/
def KRow (w : World) (P : Nat → Prop) (a : Option Addr) (L : List T) : Prop :=
  0 < L.length → ∃ b off, a = some ⟨b, off, none⟩ ∧ ∀ i k, L[i]? = some k → ∃ u : NV, TAt w P u k ∧ (∃ d1 e1 f1, u.sv = .slice d1 e1 f1) ∧ (∃ d2 e2 f2, u.kv = .slice d2 e2 f2) ∧
      w.cell? ⟨b, off + i * 5, none⟩ = some (.int .i64 u.op) ∧ w.cell? ⟨b, off + i * 5 + 1, none⟩ = some u.sv ∧ w.cell? ⟨b, off + i * 5 + 2, none⟩ = some (.int .i64 u.mn) ∧ w.cell? ⟨b, off + i * 5 + 3, none⟩ = some (.int .i64 u.mx) ∧ w.cell? ⟨b, off + i * 5 + 4, none⟩ = some u.kv
theorem TAt.krow {w : World} {P : Nat → Prop} {v : NV} {t : T} (h : TAt w P v t) : ∃ a1 n1 c1 a2 c2, v.sv = .slice a1 n1 c1 ∧ v.kv = .slice a2 t.kids.toL.length c2 ∧ t.kids.toL.length ≤ 4611686018427387904 ∧ KRow w P a2 t.kids.toL := h.open
theorem KRow.keep {w w' : World} {P : Nat → Prop} {a : Option Addr} {L : List T} (h : KRow w P a L) (K : Keeps (fun _ => False) w w') : KRow w' P a L := by
  intro h0
  obtain ⟨b, off, rfl, hc⟩ := h h0
  refine ⟨b, off, rfl, fun i k hi => ?_⟩
  obtain ⟨u, h1, h2, h3, x0, x1, x2, x3, x4⟩ := hc i k hi
  exact ⟨u, h1.keepsTo K (fun _ _ => id) (fun _ h => h), h2, h3, K.cell x0 id, K.cell x1 id, K.cell x2 id, K.cell x3 id, K.cell x4 id⟩
/-- One element, with its value written out. -/
theorem KRow.at {w : World} {P : Nat → Prop} {a : Option Addr} {L : List T} (h : KRow w P a L) {i : Nat} {k : T} (hi : L[i]? = some k) : ∃ b off uo d1 f1 g1 um ux d2 f2 g2, a = some ⟨b, off, none⟩ ∧
    TAt w P ⟨uo, .slice d1 f1 g1, um, ux, .slice d2 f2 g2⟩ k ∧ b < w.heap.size ∧
    w.cell? ⟨b, off + i * 5, none⟩ = some (.int .i64 uo) ∧ w.cell? ⟨b, off + i * 5 + 1, none⟩ = some (.slice d1 f1 g1) ∧ w.cell? ⟨b, off + i * 5 + 2, none⟩ = some (.int .i64 um) ∧ w.cell? ⟨b, off + i * 5 + 3, none⟩ = some (.int .i64 ux) ∧ w.cell? ⟨b, off + i * 5 + 4, none⟩ = some (.slice d2 f2 g2) := by
  have h0 : 0 < L.length := by
    have := (List.getElem?_eq_some_iff.1 hi).1; omega
  obtain ⟨b, off, rfl, hc⟩ := h h0
  obtain ⟨⟨uo, us, um, ux, uk⟩, h1, ⟨d1, f1, g1, q1⟩, ⟨d2, f2, g2, q2⟩, x0, x1, x2, x3, x4⟩ := hc i k hi
  obtain rfl := q1
  obtain rfl := q2
  exact ⟨b, off, uo, d1, f1, g1, um, ux, d2, f2, g2, rfl, h1, lt_of_cell x0, x0, x1, x2, x3, x4⟩

def SameC (t t' : T) : Prop := ∀ (P P' : Nat → Prop) (v v' : NV) (w : World), TAt w P v t → TAt w P' v' t' →
    Calls Tryd.prog 13 #[v.val, v'.val] w fun e w' => e = .returned (.bool (decide (t = t'))) ∧ Keeps (fun _ => False) w w'
set_option maxHeartbeats 2000000 in
theorem eqFunc_any (P P' : Nat → Prop) (L L' : List T) (a a' : Option Addr) (c c' : Nat) (w : World) (ha : KRow w P a L) (ha' : KRow w P' a' L') (hl : L.length ≤ 4611686018427387904) (hl' : L'.length ≤ 4611686018427387904)
    (ih : ∀ (i : Nat) (k : T), L[i]? = some k → ∀ k', SameC k k') :
    Calls Tryd.prog 25 #[.slice a L.length c, .slice a' L'.length c', .func (.func 13) #[] #[]] w
      fun e w' => e = .returned (.bool (decide (L = L'))) ∧ Keeps (fun _ => False) w w' := by
  have IH := Lib.hid ih
  have HA := Lib.hid ha
  have HA' := Lib.hid ha'
  clear ih ha ha'
  by_cases hlen : L.length = L'.length
  · have hne : ((L.length : Int) != (L'.length : Int)) = false := by simp [hlen]
    have Hlen := Lib.hid hlen
    clear hlen
    go_enter Tryd.func25, Tryd.ntmps25
    go_wp2_with fail
    go_loopw [17] (fun iv wr => ∃ (i : Nat), iv = .int .i64 i ∧ i ≤ L.length ∧ L.take i = L'.take i ∧ Keeps (fun _ => False) w wr) (fun iv _ => L.length - (intOf iv).toNat)
    case atStart => exact ⟨0, rfl, Nat.zero_le _, rfl, Keeps.refl _ _⟩
    case round =>
      obtain ⟨i, rfl, hi, heq, hk⟩ := hrel
      have Heq := Lib.hid heq
      have K := Lib.hid hk
      clear heq hk
      by_cases hil : i < L.length
      · have hib : i < L'.length := by have := Hlen.out; omega
        obtain ⟨k, hki⟩ : ∃ k, L[i]? = some k := ⟨_, List.getElem?_eq_getElem hil⟩
        obtain ⟨k', hki'⟩ : ∃ k, L'[i]? = some k := ⟨_, List.getElem?_eq_getElem hib⟩
        obtain ⟨b, off, uo, d1, f1, g1, um, ux, d2, f2, g2, rfl, hu, hlt, x0, x1, x2, x3, x4⟩ := (HA.out.keep K.out).at hki
        obtain ⟨b', off', uo', d1', f1', g1', um', ux', d2', f2', g2', rfl, hu', hlt', x0', x1', x2', x3', x4'⟩ := (HA'.out.keep K.out).at hki'
        have HU := Lib.hid hu
        have HU' := Lib.hid hu'
        have HKI := Lib.hid hki
        have HKI' := Lib.hid hki'
        clear hu hu' hki hki'
        go_wp2_with fail
        refine (IH.out i k HKI.out k' P P' ⟨uo, .slice d1 f1 g1, um, ux, .slice d2 f2 g2⟩ ⟨uo', .slice d1' f1' g1', um', ux', .slice d2' f2' g2'⟩ _ ?_ ?_).mono ?_
        case refine_1 => exact HU.out.keepsTo (S := fun _ => False) (by (repeat' (with_reducible first | exact Keeps.refl _ _ | assumption | refine Keeps.drawN ?_ _ | refine Keeps.drew ?_ | refine Keeps.setCell ?_ ?_ _ | refine Keeps.alloc ?_ _)) <;> (first | exact Or.inr (Nat.le_refl _) | exact Or.inl rfl | exact Or.inl (Or.inl rfl) | exact Or.inl (Or.inr rfl) | (right; simp; done) | (right; simp; omega))) (fun _ _ => id) (fun _ h => h)
        case refine_2 => exact HU'.out.keepsTo (S := fun _ => False) (by (repeat' (with_reducible first | exact Keeps.refl _ _ | assumption | refine Keeps.drawN ?_ _ | refine Keeps.drew ?_ | refine Keeps.setCell ?_ ?_ _ | refine Keeps.alloc ?_ _)) <;> (first | exact Or.inr (Nat.le_refl _) | exact Or.inl rfl | exact Or.inl (Or.inl rfl) | exact Or.inl (Or.inr rfl) | (right; simp; done) | (right; simp; omega))) (fun _ _ => id) (fun _ h => h)
        rintro e w2 ⟨rfl, k2⟩
        have K2 : Hid (Keeps (fun _ => False) w w2) := Lib.hid (Keeps.trans K.out (Keeps.trans (by (repeat' (with_reducible first | exact Keeps.refl _ _ | assumption | refine Keeps.drawN ?_ _ | refine Keeps.drew ?_ | refine Keeps.setCell ?_ ?_ _ | refine Keeps.alloc ?_ _)) <;> (first | exact Or.inr (Nat.le_refl _) | exact Or.inl rfl | exact Or.inl (Or.inl rfl) | exact Or.inl (Or.inr rfl) | (right; simp; done) | (right; simp; omega))) k2))
        clear k2
        by_cases hkk : k = k'
        · have hd : decide (k = k') = true := by simpa using hkk
          rw [hd]
          have HKK := Lib.hid hkk
          clear hd hkk
          go_wp2_with fail
          go_roundw
          case rel => exact ⟨i + 1, by go_num, by omega, by rw [take_one HKI.out, take_one HKI'.out, Heq.out, HKK.out], K2.out⟩
          case measure => simp [intOf]; omega
        · have hd : decide (k = k') = false := by simpa using hkk
          have hfin : decide (L = L') = false := by
            simp only [decide_eq_false_iff_not]; intro e; subst e
            exact hkk (Option.some.inj (HKI.out.symm.trans HKI'.out))
          rw [hd]
          have Hfin := Lib.hid hfin
          clear hd hkk hfin
          go_wp2_with fail
          go_ret
          exact ⟨by rw [Hfin.out]; rfl, K2.out⟩
      · go_wp2_with fail
        go_ret
        have h1 := Heq.out
        have h2 := Hlen.out
        rw [List.take_of_length_le (by omega), List.take_of_length_le (by omega)] at h1
        exact ⟨by simp [h1], K.out⟩
  · have hne : ((L.length : Int) != (L'.length : Int)) = true := by simp; omega
    have hfin : decide (L = L') = false := by simp; intro h; exact hlen (by rw [h])
    have Hfin := Lib.hid hfin
    clear hfin
    go_enter Tryd.func25, Tryd.ntmps25
    go_wp2_with fail
    go_ret
    exact ⟨by rw [Hfin.out]; rfl, Keeps.refl _ _⟩
theorem T.eq_iff {t t' : T} : t = t' ↔ t.op = t'.op ∧ t.mn = t'.mn ∧ t.mx = t'.mx ∧ t.set = t'.set ∧ t.kids.toL = t'.kids.toL := by
  constructor
  · rintro rfl; exact ⟨rfl, rfl, rfl, rfl, rfl⟩
  · obtain ⟨a, b, c, d, e⟩ := t
    obtain ⟨a', b', c', d', e'⟩ := t'
    rintro ⟨rfl, rfl, rfl, rfl, h⟩
    have : e = e' := by have h1 := congrArg F.ofL h; rw [F.of_to, F.of_to] at h1; exact h1
    rw [this]
set_option maxHeartbeats 2000000 in
theorem treeSame_any (t : T) : ∀ t', SameC t t' := by
  refine T.ind (C := fun t => ∀ t', SameC t t') ?_ t
  intro t ih t' P P' v v' w ht ht'
  have IH := Lib.hid ih
  obtain ⟨a1, n1, c1, a2, c2, e1, e2, hl, hc⟩ := ht.krow
  obtain ⟨a1', n1', c1', a2', c2', e1', e2', hl', hc'⟩ := ht'.krow
  have HR := Lib.hid ht.set
  have HR' := Lib.hid ht'.set
  have HE := Lib.hid (T.eq_iff (t := t) (t' := t'))
  have o1 := ht.op
  have o2 := ht.mn
  have o3 := ht.mx
  have p1 := ht'.op
  have p2 := ht'.mn
  have p3 := ht'.mx
  obtain ⟨vo, vsv, vm, vx, vk⟩ := v
  obtain ⟨vo', vsv', vm', vx', vk'⟩ := v'
  obtain rfl := e1
  obtain rfl := e2
  obtain rfl := e1'
  obtain rfl := e2'
  simp only at o1 o2 o3 p1 p2 p3
  rw [← o1, ← o2, ← o3, ← p1, ← p2, ← p3] at HE
  have HC := Lib.hid hc
  have HC' := Lib.hid hc'
  clear ih ht ht' hc hc' o1 o2 o3 p1 p2 p3
  obtain ⟨R, hR⟩ : ∃ r, decide (t = t') = r := ⟨_, rfl⟩
  rw [hR]
  have HD := Lib.hid hR
  clear hR
  generalize t.kids.toL = L at *
  generalize t'.kids.toL = L' at *
  generalize t.set = A0 at *
  generalize t'.set = B0 at *
  show Calls Tryd.prog 13 #[.agg #[.int .i64 vo, .slice a1 n1 c1, .int .i64 vm, .int .i64 vx, .slice a2 L.length c2], .agg #[.int .i64 vo', .slice a1' n1' c1', .int .i64 vm', .int .i64 vx', .slice a2' L'.length c2']] w _
  by_cases h1 : vo = vo'
  · by_cases h2 : vm = vm'
    · by_cases h3 : vx = vx'
      · have f1 : (vo == vo') = true := by simpa using h1
        have f2 : (vm == vm') = true := by simpa using h2
        have f3 : (vx == vx') = true := by simpa using h3
        have H3 := Lib.hid (And.intro h1 (And.intro h2 h3))
        clear h1 h2 h3
        by_cases h4 : A0 = B0
        · have hR2 : R = decide (L = L') := by
            rw [← HD.out]; exact decide_eq_decide.2 (HE.out.trans ⟨fun h => h.2.2.2.2, fun h => ⟨H3.out.1, H3.out.2.1, H3.out.2.2, h4, h⟩⟩)
          have H4 := Lib.hid h4
          have HR2 := Lib.hid hR2
          clear h4 hR2
          go_enter Tryd.func13, Tryd.ntmps13
          go_wp2_with fail
          refine (equal_any A0 B0 _ _ _ ?_ ?_).mono ?_
          case refine_1 => exact HR.out.keeps (S := fun _ => False) (by (repeat' (with_reducible first | exact Keeps.refl _ _ | assumption | refine Keeps.drawN ?_ _ | refine Keeps.drew ?_ | refine Keeps.setCell ?_ ?_ _ | refine Keeps.alloc ?_ _)) <;> (first | exact Or.inr (Nat.le_refl _) | exact Or.inl rfl | exact Or.inl (Or.inl rfl) | exact Or.inl (Or.inr rfl) | (right; simp; done) | (right; simp; omega))) (fun _ _ => id)
          case refine_2 => exact HR'.out.keeps (S := fun _ => False) (by (repeat' (with_reducible first | exact Keeps.refl _ _ | assumption | refine Keeps.drawN ?_ _ | refine Keeps.drew ?_ | refine Keeps.setCell ?_ ?_ _ | refine Keeps.alloc ?_ _)) <;> (first | exact Or.inr (Nat.le_refl _) | exact Or.inl rfl | exact Or.inl (Or.inl rfl) | exact Or.inl (Or.inr rfl) | (right; simp; done) | (right; simp; omega))) (fun _ _ => id)
          rintro e w2 ⟨rfl, m, rfl⟩
          rw [show decide (A0 = B0) = true by simpa using H4.out]
          go_wp2_with fail
          refine (eqFunc_any P P' L L' _ _ _ _ _ ?_ ?_ hl hl' IH.out).mono ?_
          case refine_1 => exact HC.out.keep (by (repeat' (with_reducible first | exact Keeps.refl _ _ | assumption | refine Keeps.drawN ?_ _ | refine Keeps.drew ?_ | refine Keeps.setCell ?_ ?_ _ | refine Keeps.alloc ?_ _)) <;> (first | exact Or.inr (Nat.le_refl _) | exact Or.inl rfl | exact Or.inl (Or.inl rfl) | exact Or.inl (Or.inr rfl) | (right; simp; done) | (right; simp; omega)))
          case refine_2 => exact HC'.out.keep (by (repeat' (with_reducible first | exact Keeps.refl _ _ | assumption | refine Keeps.drawN ?_ _ | refine Keeps.drew ?_ | refine Keeps.setCell ?_ ?_ _ | refine Keeps.alloc ?_ _)) <;> (first | exact Or.inr (Nat.le_refl _) | exact Or.inl rfl | exact Or.inl (Or.inl rfl) | exact Or.inl (Or.inr rfl) | (right; simp; done) | (right; simp; omega)))
          rintro e w3 ⟨rfl, k3⟩
          have K3 : Hid (Keeps (fun _ => False) w w3) := Lib.hid (Keeps.trans (by (repeat' (with_reducible first | exact Keeps.refl _ _ | assumption | refine Keeps.drawN ?_ _ | refine Keeps.drew ?_ | refine Keeps.setCell ?_ ?_ _ | refine Keeps.alloc ?_ _)) <;> (first | exact Or.inr (Nat.le_refl _) | exact Or.inl rfl | exact Or.inl (Or.inl rfl) | exact Or.inl (Or.inr rfl) | (right; simp; done) | (right; simp; omega))) k3)
          clear k3
          go_wp2_with fail
          go_ret
          exact ⟨by rw [HR2.out]; cases decide (L = L') <;> rfl, K3.out⟩
        · have hR2 : R = false := by
            rw [← HD.out]; exact decide_eq_false (fun h => h4 (HE.out.1 h).2.2.2.1)
          have H4 := Lib.hid h4
          obtain rfl := hR2
          clear h4
          go_enter Tryd.func13, Tryd.ntmps13
          go_wp2_with fail
          refine (equal_any A0 B0 _ _ _ ?_ ?_).mono ?_
          case refine_1 => exact HR.out.keeps (S := fun _ => False) (by (repeat' (with_reducible first | exact Keeps.refl _ _ | assumption | refine Keeps.drawN ?_ _ | refine Keeps.drew ?_ | refine Keeps.setCell ?_ ?_ _ | refine Keeps.alloc ?_ _)) <;> (first | exact Or.inr (Nat.le_refl _) | exact Or.inl rfl | exact Or.inl (Or.inl rfl) | exact Or.inl (Or.inr rfl) | (right; simp; done) | (right; simp; omega))) (fun _ _ => id)
          case refine_2 => exact HR'.out.keeps (S := fun _ => False) (by (repeat' (with_reducible first | exact Keeps.refl _ _ | assumption | refine Keeps.drawN ?_ _ | refine Keeps.drew ?_ | refine Keeps.setCell ?_ ?_ _ | refine Keeps.alloc ?_ _)) <;> (first | exact Or.inr (Nat.le_refl _) | exact Or.inl rfl | exact Or.inl (Or.inl rfl) | exact Or.inl (Or.inr rfl) | (right; simp; done) | (right; simp; omega))) (fun _ _ => id)
          rintro e w2 ⟨rfl, m, rfl⟩
          rw [show decide (A0 = B0) = false by simpa using H4.out]
          go_wp2_with fail
          go_ret
          exact ⟨rfl, by (repeat' (with_reducible first | exact Keeps.refl _ _ | assumption | refine Keeps.drawN ?_ _ | refine Keeps.drew ?_ | refine Keeps.setCell ?_ ?_ _ | refine Keeps.alloc ?_ _)) <;> (first | exact Or.inr (Nat.le_refl _) | exact Or.inl rfl | exact Or.inl (Or.inl rfl) | exact Or.inl (Or.inr rfl) | (right; simp; done) | (right; simp; omega))⟩
      · have hR2 : R = false := by
          rw [← HD.out]; exact decide_eq_false (fun h => h3 (HE.out.1 h).2.2.1)
        obtain rfl := hR2
        have f1 : (vo == vo') = true := by simpa using h1
        have f2 : (vm == vm') = true := by simpa using h2
        have f3 : (vx == vx') = false := by simpa using h3
        clear h1 h2 h3
        go_enter Tryd.func13, Tryd.ntmps13
        go_wp2_with fail
        go_ret
        exact ⟨rfl, by (repeat' (with_reducible first | exact Keeps.refl _ _ | assumption | refine Keeps.drawN ?_ _ | refine Keeps.drew ?_ | refine Keeps.setCell ?_ ?_ _ | refine Keeps.alloc ?_ _)) <;> (first | exact Or.inr (Nat.le_refl _) | exact Or.inl rfl | exact Or.inl (Or.inl rfl) | exact Or.inl (Or.inr rfl) | (right; simp; done) | (right; simp; omega))⟩
    · have hR2 : R = false := by
        rw [← HD.out]; exact decide_eq_false (fun h => h2 (HE.out.1 h).2.1)
      obtain rfl := hR2
      have f1 : (vo == vo') = true := by simpa using h1
      have f2 : (vm == vm') = false := by simpa using h2
      clear h1 h2
      go_enter Tryd.func13, Tryd.ntmps13
      go_wp2_with fail
      go_ret
      exact ⟨rfl, by (repeat' (with_reducible first | exact Keeps.refl _ _ | assumption | refine Keeps.drawN ?_ _ | refine Keeps.drew ?_ | refine Keeps.setCell ?_ ?_ _ | refine Keeps.alloc ?_ _)) <;> (first | exact Or.inr (Nat.le_refl _) | exact Or.inl rfl | exact Or.inl (Or.inl rfl) | exact Or.inl (Or.inr rfl) | (right; simp; done) | (right; simp; omega))⟩
  · have hR2 : R = false := by
      rw [← HD.out]; exact decide_eq_false (fun h => h1 (HE.out.1 h).1)
    obtain rfl := hR2
    have f1 : (vo == vo') = false := by simpa using h1
    clear h1
    go_enter Tryd.func13, Tryd.ntmps13
    go_wp2_with fail
    go_ret
    exact ⟨rfl, by (repeat' (with_reducible first | exact Keeps.refl _ _ | assumption | refine Keeps.drawN ?_ _ | refine Keeps.drew ?_ | refine Keeps.setCell ?_ ?_ _ | refine Keeps.alloc ?_ _)) <;> (first | exact Or.inr (Nat.le_refl _) | exact Or.inl rfl | exact Or.inl (Or.inl rfl) | exact Or.inl (Or.inr rfl) | (right; simp; done) | (right; simp; omega))⟩
end Go.Proofs.YtinogeobkljngaaDoor
