/-
  How many nodes a tree has: the program's Size, the document's Size.
-/
import Derived.Test.YtinogeobkljngaaDoorPaJn
import Derived.Deep.QuietTactic
import Derived.BigQuiet
namespace Go.Proofs.YtinogeobkljngaaDoor
open Go.RowKit
set_option linter.unusedVariables false
set_option linter.unusedSimpArgs false
set_option maxRecDepth 100000

def sizeF : F → Int
  | .nil => 0
  | .cons _ _ _ _ k r => 1 + sizeF k + sizeF r
theorem sizeF_nonneg (f : F) : 0 ≤ sizeF f := by
  induction f with
  | nil => simp [sizeF]
  | cons a b c d k r ih1 ih2 => simp only [sizeF]; omega
theorem sizeF_snoc (l : List T) (t : T) : sizeF (F.ofL (l ++ [t])) = sizeF (F.ofL l) + 1 + sizeF t.kids := by
  induction l with
  | nil => simp only [List.nil_append, F.ofL, sizeF]; omega
  | cons u l ih => simp only [List.cons_append, F.ofL, sizeF, ih]; omega
theorem sizeF_app (l m : List T) : sizeF (F.ofL (l ++ m)) = sizeF (F.ofL l) + sizeF (F.ofL m) := by
  induction l with
  | nil => simp [F.ofL, sizeF]
  | cons u l ih => simp only [List.cons_append, F.ofL, sizeF, ih]; omega
theorem sizeF_take (l : List T) (i : Nat) : sizeF (F.ofL (l.take i)) ≤ sizeF (F.ofL l) := by
  have h := sizeF_app (l.take i) (l.drop i)
  rw [List.take_append_drop] at h
  have := sizeF_nonneg (F.ofL (l.drop i))
  omega
theorem take_one {α : Type} {l : List α} {i : Nat} {x : α} (h : l[i]? = some x) : l.take (i + 1) = l.take i ++ [x] := by
  obtain ⟨hi, rfl⟩ := List.getElem?_eq_some_iff.1 h
  rw [List.take_add_one, List.getElem?_eq_getElem hi]; rfl
/-- Of all trees of a row. -/
def AllF (C : T → Prop) : F → Prop
  | .nil => True
  | .cons a b c d k r => C ⟨a, b, c, d, k⟩ ∧ AllF C r
theorem AllF.get {C : T → Prop} : ∀ {l : List T}, AllF C (F.ofL l) → ∀ {i : Nat} {t : T}, l[i]? = some t → C t := by
  intro l
  induction l with
  | nil => intro _ i t h; simp at h
  | cons u l ih =>
    intro h i t hi
    cases i with
    | zero => simp at hi; subst hi; exact h.1
    | succ i => simp at hi; exact ih h.2 hi
/-- Trees by induction: a node when all its kids are. -/
theorem T.ind {C : T → Prop} (h : ∀ (t : T), (∀ (i : Nat) (k : T), t.kids.toL[i]? = some k → C k) → C t) (t : T) : C t := by
  have key : ∀ f : F, AllF C f := by
    intro f
    induction f with
    | nil => trivial
    | cons a b c d k r ih1 ih2 =>
      refine ⟨h _ (fun i t hi => ?_), ih2⟩
      rw [← F.of_to k] at ih1
      exact ih1.get hi
  refine h t (fun i k hi => ?_)
  have := key t.kids
  rw [← F.of_to t.kids] at this
  exact this.get hi
/-- The node's kids, opened: a slice of as many as there are, each one's five cells. -/
theorem TAt.open {w : World} {P : Nat → Prop} {v : NV} {t : T} (h : TAt w P v t) : ∃ a1 n1 c1 a2 c2, v.sv = .slice a1 n1 c1 ∧ v.kv = .slice a2 t.kids.toL.length c2 ∧ t.kids.toL.length ≤ 4611686018427387904 ∧
    (0 < t.kids.toL.length → ∃ b off, a2 = some ⟨b, off, none⟩ ∧ ∀ i k, t.kids.toL[i]? = some k → ∃ u : NV, TAt w P u k ∧ (∃ d1 e1 f1, u.sv = .slice d1 e1 f1) ∧ (∃ d2 e2 f2, u.kv = .slice d2 e2 f2) ∧
      w.cell? ⟨b, off + i * 5, none⟩ = some (.int .i64 u.op) ∧ w.cell? ⟨b, off + i * 5 + 1, none⟩ = some u.sv ∧ w.cell? ⟨b, off + i * 5 + 2, none⟩ = some (.int .i64 u.mn) ∧ w.cell? ⟨b, off + i * 5 + 3, none⟩ = some (.int .i64 u.mx) ∧ w.cell? ⟨b, off + i * 5 + 4, none⟩ = some u.kv) := by
  obtain ⟨a1, c1, e1⟩ := h.set.form
  obtain ⟨ks, hk, hf⟩ := h.kids
  rw [← F.of_to t.kids] at hf
  have hl := hf.len
  obtain ⟨a2, c2, e2, hcap, hl2, hc⟩ := hk
  rw [hl] at e2 hl2 hc
  refine ⟨a1, _, c1, a2, c2, e1, e2, hl2, fun h0 => ?_⟩
  obtain ⟨b, off, rfl, hcc⟩ := hc h0
  refine ⟨b, off, rfl, fun i k hi => ?_⟩
  obtain ⟨u, hu, hut⟩ := hf.get hi
  obtain ⟨d1, f1, g1⟩ := hut.set.form
  obtain ⟨ks', hk', _⟩ := hut.kids
  obtain ⟨d2, f2, g2⟩ := hk'.form
  exact ⟨u, hut, ⟨_, _, _, g1⟩, ⟨_, _, _, g2⟩, hcc i u hu 0 (by omega), hcc i u hu 1 (by omega), hcc i u hu 2 (by omega), hcc i u hu 3 (by omega), hcc i u hu 4 (by omega)⟩

set_option maxHeartbeats 1000000 in
theorem treeSize_any (P : Nat → Prop) (t : T) : ∀ (v : NV) (w : World), TAt w P v t → sizeF t.kids ≤ 1000000 →
    Calls Tryd.prog 16 #[v.val] w fun e w' => e = .returned (.int .i64 (1 + sizeF t.kids)) ∧ Keeps (fun _ => False) w w' := by
  refine T.ind (C := fun t => ∀ (v : NV) (w : World), TAt w P v t → sizeF t.kids ≤ 1000000 →
    Calls Tryd.prog 16 #[v.val] w fun e w' => e = .returned (.int .i64 (1 + sizeF t.kids)) ∧ Keeps (fun _ => False) w w') ?_ t
  intro t ih v w ht hs
  have IH := Lib.hid ih
  obtain ⟨a1, n1, c1, a2, c2, e1, e2, hl, hc⟩ := ht.open
  obtain ⟨vo, vsv, vm, vx, vk⟩ := v
  obtain rfl := e1
  obtain rfl := e2
  have HC := Lib.hid hc
  have HS : Hid (sizeF t.kids = sizeF (F.ofL t.kids.toL)) := Lib.hid (by rw [F.of_to])
  have hs2 : sizeF (F.ofL t.kids.toL) ≤ 1000000 := by rw [F.of_to]; exact hs
  clear ih ht hc hs
  generalize sizeF t.kids = S at *
  generalize t.kids.toL = L at *
  show Calls Tryd.prog 16 #[.agg #[.int .i64 vo, .slice a1 n1 c1, .int .i64 vm, .int .i64 vx, .slice a2 L.length c2]] w _
  go_enter Tryd.func16, Tryd.ntmps16
  go_wp2_with fail
  go_loopw [9, 3] (fun iv av wr => ∃ (i : Nat), iv = .int .i64 i ∧ i ≤ L.length ∧ av = .int .i64 (1 + sizeF (F.ofL (L.take i))) ∧ Keeps (fun _ => False) w wr) (fun iv _ _ => L.length - (intOf iv).toNat)
  case atStart => exact ⟨0, rfl, Nat.zero_le _, rfl, by (repeat' (with_reducible first | exact Keeps.refl _ _ | assumption | refine Keeps.drawN ?_ _ | refine Keeps.drew ?_ | refine Keeps.setCell ?_ ?_ _ | refine Keeps.alloc ?_ _)) <;> (first | exact Or.inr (Nat.le_refl _) | exact Or.inl rfl | exact Or.inl (Or.inl rfl) | exact Or.inl (Or.inr rfl) | (right; simp; done) | (right; simp; omega))⟩
  case round =>
    obtain ⟨i, rfl, hi, rfl, hk⟩ := hrel
    have K := Lib.hid hk
    clear hk
    by_cases hil : i < L.length
    · obtain ⟨b, off, rfl, hcc⟩ := HC.out (by omega)
      obtain ⟨k, hki⟩ : ∃ k, L[i]? = some k := ⟨_, List.getElem?_eq_getElem hil⟩
      obtain ⟨u, hu, ⟨d1, f1, g1, q1⟩, ⟨d2, f2, g2, q2⟩, x0, x1, x2, x3, x4⟩ := hcc i k hki
      have y0 := K.out.cell x0 id
      have y1 := K.out.cell x1 id
      have y2 := K.out.cell x2 id
      have y3 := K.out.cell x3 id
      have y4 := K.out.cell x4 id
      have hlt : b < wr.heap.size := lt_of_cell y0
      obtain ⟨uo, usv, um, ux, uk⟩ := u
      obtain rfl := q1
      obtain rfl := q2
      have HU : Hid (TAt wr P _ k) := Lib.hid (hu.keepsTo K.out (fun _ _ => id) (fun _ h => h))
      have hts := sizeF_snoc (L.take i) k
      have htt := sizeF_take L (i + 1)
      rw [take_one hki] at htt
      rw [hts] at htt
      have hn1 := sizeF_nonneg (F.ofL (L.take i))
      have hn2 := sizeF_nonneg k.kids
      have HT : Hid (sizeF (F.ofL (L.take (i + 1))) = sizeF (F.ofL (L.take i)) + 1 + sizeF k.kids) := Lib.hid (by rw [take_one hki, hts])
      have HKI := Lib.hid hki
      generalize sizeF (F.ofL (L.take i)) = A0 at *
      obtain ⟨KS, hKS⟩ : ∃ s, sizeF k.kids = s := ⟨_, rfl⟩
      have HKS := Lib.hid hKS
      rw [hKS] at htt hn2
      have wr1 : IntKind.i64.wrap (1 + A0 + (1 + KS)) = 1 + A0 + (1 + KS) := IntWalk.i64_in _ (by omega)
      clear hcc hki hu x0 x1 x2 x3 x4 hts hKS
      go_wp2_with fail
      refine (IH.out i k HKI.out ⟨uo, .slice d1 f1 g1, um, ux, .slice d2 f2 g2⟩ _ ?_ ?_).mono ?_
      case refine_1 => exact HU.out.keepsTo (S := fun _ => False) (by (repeat' (with_reducible first | exact Keeps.refl _ _ | assumption | refine Keeps.drawN ?_ _ | refine Keeps.drew ?_ | refine Keeps.setCell ?_ ?_ _ | refine Keeps.alloc ?_ _)) <;> (first | exact Or.inr (Nat.le_refl _) | exact Or.inl rfl | exact Or.inl (Or.inl rfl) | exact Or.inl (Or.inr rfl) | (right; simp; done) | (right; simp; omega))) (fun _ _ => id) (fun _ h => h)
      case refine_2 => rw [HKS.out]; omega
      rintro e w2 ⟨rfl, k2⟩
      rw [HKS.out]
      have K2 : Hid (Keeps (fun _ => False) w w2) := Lib.hid (Keeps.trans K.out (Keeps.trans (by (repeat' (with_reducible first | exact Keeps.refl _ _ | assumption | refine Keeps.drawN ?_ _ | refine Keeps.drew ?_ | refine Keeps.setCell ?_ ?_ _ | refine Keeps.alloc ?_ _)) <;> (first | exact Or.inr (Nat.le_refl _) | exact Or.inl rfl | exact Or.inl (Or.inl rfl) | exact Or.inl (Or.inr rfl) | (right; simp; done) | (right; simp; omega))) k2))
      clear k2
      go_wp2_with fail
      go_roundw
      case rel => exact ⟨i + 1, by go_num, by omega, by rw [HT.out, HKS.out]; congr 1; omega, K2.out⟩
      case measure => simp [intOf]; omega
    · go_wp2_with fail
      go_ret
      have he : i = L.length := by omega
      subst he
      rw [List.take_length]
      exact ⟨congrArg (fun z : Int => Ending.returned (Value.int .i64 (1 + z))) HS.out.symm, K.out⟩
set_option maxHeartbeats 1000000 in
theorem refTreeSize_any (P : Nat → Prop) (t : T) : ∀ (v : NV) (w : World), TAt w P v t → sizeF t.kids ≤ 1000000 →
    Calls Tryd.prog 17 #[v.val] w fun e w' => e = .returned (.int .i64 (1 + sizeF t.kids)) ∧ Keeps (fun _ => False) w w' := by
  refine T.ind (C := fun t => ∀ (v : NV) (w : World), TAt w P v t → sizeF t.kids ≤ 1000000 →
    Calls Tryd.prog 17 #[v.val] w fun e w' => e = .returned (.int .i64 (1 + sizeF t.kids)) ∧ Keeps (fun _ => False) w w') ?_ t
  intro t ih v w ht hs
  have IH := Lib.hid ih
  obtain ⟨a1, n1, c1, a2, c2, e1, e2, hl, hc⟩ := ht.open
  obtain ⟨vo, vsv, vm, vx, vk⟩ := v
  obtain rfl := e1
  obtain rfl := e2
  have HC := Lib.hid hc
  have HS : Hid (sizeF t.kids = sizeF (F.ofL t.kids.toL)) := Lib.hid (by rw [F.of_to])
  have hs2 : sizeF (F.ofL t.kids.toL) ≤ 1000000 := by rw [F.of_to]; exact hs
  clear ih ht hc hs
  generalize sizeF t.kids = S at *
  generalize t.kids.toL = L at *
  show Calls Tryd.prog 17 #[.agg #[.int .i64 vo, .slice a1 n1 c1, .int .i64 vm, .int .i64 vx, .slice a2 L.length c2]] w _
  go_enter Tryd.func17, Tryd.ntmps17
  go_wp2_with fail
  go_loopw [4, 3] (fun iv av wr => ∃ (i : Nat), iv = .int .i64 i ∧ i ≤ L.length ∧ av = .int .i64 (1 + sizeF (F.ofL (L.take i))) ∧ Keeps (fun _ => False) (w.alloc (.cells #[.int .i64 vo, .slice a1 n1 c1, .int .i64 vm, .int .i64 vx, .slice a2 L.length c2] 26)) wr) (fun iv _ _ => L.length - (intOf iv).toNat)
  case atStart => exact ⟨0, rfl, Nat.zero_le _, rfl, by (repeat' (with_reducible first | exact Keeps.refl _ _ | assumption | refine Keeps.drawN ?_ _ | refine Keeps.drew ?_ | refine Keeps.setCell ?_ ?_ _ | refine Keeps.alloc ?_ _)) <;> (first | exact Or.inr (Nat.le_refl _) | exact Or.inl rfl | exact Or.inl (Or.inl rfl) | exact Or.inl (Or.inr rfl) | (right; simp; done) | (right; simp; omega))⟩
  case round =>
    obtain ⟨i, rfl, hi, rfl, hk⟩ := hrel
    have z4 : wr.cell? ⟨w.heap.size, 4, none⟩ = some (.slice a2 L.length c2) := hk.cell (by simp [go_sem]) id
    have KK := Lib.hid hk
    have K : Hid (Keeps (fun _ => False) w wr) := Lib.hid (Keeps.trans (by (repeat' (with_reducible first | exact Keeps.refl _ _ | assumption | refine Keeps.drawN ?_ _ | refine Keeps.drew ?_ | refine Keeps.setCell ?_ ?_ _ | refine Keeps.alloc ?_ _)) <;> (first | exact Or.inr (Nat.le_refl _) | exact Or.inl rfl | exact Or.inl (Or.inl rfl) | exact Or.inl (Or.inr rfl) | (right; simp; done) | (right; simp; omega))) hk)
    clear hk
    by_cases hil : i < L.length
    · obtain ⟨b, off, rfl, hcc⟩ := HC.out (by omega)
      obtain ⟨k, hki⟩ : ∃ k, L[i]? = some k := ⟨_, List.getElem?_eq_getElem hil⟩
      obtain ⟨u, hu, ⟨d1, f1, g1, q1⟩, ⟨d2, f2, g2, q2⟩, x0, x1, x2, x3, x4⟩ := hcc i k hki
      have y0 := K.out.cell x0 id
      have y1 := K.out.cell x1 id
      have y2 := K.out.cell x2 id
      have y3 := K.out.cell x3 id
      have y4 := K.out.cell x4 id
      have hlt : b < wr.heap.size := lt_of_cell y0
      obtain ⟨uo, usv, um, ux, uk⟩ := u
      obtain rfl := q1
      obtain rfl := q2
      have HU : Hid (TAt wr P _ k) := Lib.hid (hu.keepsTo K.out (fun _ _ => id) (fun _ h => h))
      have hts := sizeF_snoc (L.take i) k
      have htt := sizeF_take L (i + 1)
      rw [take_one hki] at htt
      rw [hts] at htt
      have hn1 := sizeF_nonneg (F.ofL (L.take i))
      have hn2 := sizeF_nonneg k.kids
      have HT : Hid (sizeF (F.ofL (L.take (i + 1))) = sizeF (F.ofL (L.take i)) + 1 + sizeF k.kids) := Lib.hid (by rw [take_one hki, hts])
      have HKI := Lib.hid hki
      generalize sizeF (F.ofL (L.take i)) = A0 at *
      obtain ⟨KS, hKS⟩ : ∃ s, sizeF k.kids = s := ⟨_, rfl⟩
      have HKS := Lib.hid hKS
      rw [hKS] at htt hn2
      have wr1 : IntKind.i64.wrap (1 + A0 + (1 + KS)) = 1 + A0 + (1 + KS) := IntWalk.i64_in _ (by omega)
      clear hcc hki hu x0 x1 x2 x3 x4 hts hKS
      go_wp2_with fail
      refine (IH.out i k HKI.out ⟨uo, .slice d1 f1 g1, um, ux, .slice d2 f2 g2⟩ _ ?_ ?_).mono ?_
      case refine_1 => exact HU.out.keepsTo (S := fun _ => False) (by (repeat' (with_reducible first | exact Keeps.refl _ _ | assumption | refine Keeps.drawN ?_ _ | refine Keeps.drew ?_ | refine Keeps.setCell ?_ ?_ _ | refine Keeps.alloc ?_ _)) <;> (first | exact Or.inr (Nat.le_refl _) | exact Or.inl rfl | exact Or.inl (Or.inl rfl) | exact Or.inl (Or.inr rfl) | (right; simp; done) | (right; simp; omega))) (fun _ _ => id) (fun _ h => h)
      case refine_2 => rw [HKS.out]; omega
      rintro e w2 ⟨rfl, k2⟩
      rw [HKS.out]
      have K2 := Lib.hid (Keeps.trans KK.out (Keeps.trans (by (repeat' (with_reducible first | exact Keeps.refl _ _ | assumption | refine Keeps.drawN ?_ _ | refine Keeps.drew ?_ | refine Keeps.setCell ?_ ?_ _ | refine Keeps.alloc ?_ _)) <;> (first | exact Or.inr (Nat.le_refl _) | exact Or.inl rfl | exact Or.inl (Or.inl rfl) | exact Or.inl (Or.inr rfl) | (right; simp; done) | (right; simp; omega))) k2))
      clear k2
      go_wp2_with fail
      go_roundw
      case rel => exact ⟨i + 1, by go_num, by omega, by rw [HT.out, HKS.out]; congr 1; omega, K2.out⟩
      case measure => simp [intOf]; omega
    · go_wp2_with fail
      go_ret
      have he : i = L.length := by omega
      subst he
      rw [List.take_length]
      exact ⟨congrArg (fun z : Int => Ending.returned (Value.int .i64 (1 + z))) HS.out.symm, K.out⟩
end Go.Proofs.YtinogeobkljngaaDoor
