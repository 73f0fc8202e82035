/-
  Several texts in one: prog.Length. Printed by mk_eql.py. prog.Compile. prog.Right. match's threads: clear, put.
-/
import Derived.Test.YtpcbfmbpbegjgaaGreatMg9
import Derived.BigRegion
import Derived.Deep.QuietTactic
import Derived.BigQuiet
section
namespace Go.Proofs.YtpcbfmbpbegjgaaGreat
open Go.RowKit
set_option linter.unusedVariables false
set_option linter.unusedSimpArgs false
set_option maxRecDepth 100000

def LenC (t : T) (n : Nat) : Prop := ∀ (P : Nat → Prop) (v : NV) (w : World), TAt w P v t → Calls Tryz.prog 46 #[v.val] w fun e w' => e = .returned (.int .i64 (n : Int)) ∧ Keeps (fun _ => False) w w'
theorem min_2 (W : World) (x y : Int) : (Builtin.min_ #[3, 3] 3 #[.int .i64 x, .int .i64 y]).run Tryz.prog W = .ok (.int .i64 (if y < x then y else x)) W := by
  simp [Builtin.min_, Builtin.min2]

set_option maxHeartbeats 2000000 in
theorem len_char (s : List (Int × Int)) : LenC (charT s) 1 := by
  intro P v w ht
  obtain ⟨a1, n1, c1, a2, c2, e1, e2, hl, hc⟩ := ht.krow
  have hk0 : (charT s).kids.toL = [] := rfl
  rw [hk0] at e2 hl hc
  obtain ⟨L, hLe⟩ : ∃ L : List T, L = [] := ⟨_, rfl⟩
  have hL : L.length ≤ 1000 := by rw [hLe]; simp
  have hL0 : Hid (L.length = 0) := Lib.hid (by rw [hLe]; rfl)
  have ih : ∀ (i : Nat) (k : T), L[i]? = some k → LenC k 1 := fun i k h => by rw [hLe] at h; simp at h
  rw [← hLe] at e2 hl hc
  clear hLe hk0
  have o1 : v.op = 1 := ht.op
  have o2 : v.mn = 0 := ht.mn
  have o3 : v.mx = 0 := ht.mx
  obtain ⟨vo, vsv, vm, vx, vk⟩ := v
  obtain rfl := e1
  obtain rfl := e2
  obtain rfl := o1
  obtain rfl := o2
  obtain rfl := o3
  have HC := Lib.hid hc
  have IH := Lib.hid ih
  clear hl hc ht ih
  show Calls Tryz.prog 46 #[.agg #[.int .i64 1, .slice a1 n1 c1, .int .i64 0, .int .i64 0, .slice a2 L.length c2]] w _
  go_enter Tryz.func46, Tryz.ntmps46
  go_wp2_with fail
  obtain ⟨wb, hwb⟩ : ∃ W, W = w.alloc (.cells #[.int .i64 1, .slice a1 n1 c1, .int .i64 0, .int .i64 0, .slice a2 L.length c2] 27) := ⟨_, rfl⟩
  have hKB : Keeps (fun _ => False) w wb := by rw [hwb]; exact (Keeps.refl _ _).alloc _
  have b0 : wb.cell? ⟨w.heap.size, 0, none⟩ = some (.int .i64 1) := by rw [hwb]; simp [go_sem]
  have b2 : wb.cell? ⟨w.heap.size, 2, none⟩ = some (.int .i64 0) := by rw [hwb]; simp [go_sem]
  have b3 : wb.cell? ⟨w.heap.size, 3, none⟩ = some (.int .i64 0) := by rw [hwb]; simp [go_sem]
  rw [← hwb]
  clear hwb
  have KB := Lib.hid hKB
  have B0 := Lib.hid b0
  have B2 := Lib.hid b2
  have B3 := Lib.hid b3
  clear hKB b0 b2 b3
  go_loopw [9, 3] (fun iv av wr => ∃ i : Nat, iv = .int .i64 i ∧ i ≤ L.length ∧ av = .int .i64 i ∧ Keeps (fun _ => False) wb wr) (fun iv _ _ => L.length - (intOf iv).toNat)
  case atStart => exact ⟨0, rfl, Nat.zero_le _, rfl, Keeps.refl _ _⟩
  case round =>
    obtain ⟨i, rfl, hi, rfl, hk⟩ := hrel
    have K := Lib.hid hk
    clear hk
    by_cases hil : i < L.length
    · obtain ⟨k, hki⟩ : ∃ k, L[i]? = some k := ⟨_, List.getElem?_eq_getElem hil⟩
      obtain ⟨b, off, uo, d1, f1, g1, um, ux, d2, f2, g2, rfl, hu, hlt, x0, x1, x2, x3, x4⟩ := (HC.out.keep (KB.out.trans K.out)).at hki
      have HS : Hid (∀ W, Keeps (fun _ => False) wr W → Calls Tryz.prog 46 #[.agg #[.int .i64 uo, .slice d1 f1 g1, .int .i64 um, .int .i64 ux, .slice d2 f2 g2]] W fun e w' => e = .returned (.int .i64 1) ∧ Keeps (fun _ => False) W w') := Lib.hid (fun W kW =>
        IH.out i k hki P ⟨uo, .slice d1 f1 g1, um, ux, .slice d2 f2 g2⟩ W (hu.keepsTo kW (fun _ _ => id) (fun _ h => h)))
      clear hki hu
      have hm2 := fun W => min_2 W ((i : Int) + 1) 1099511627776
      rw [if_neg (by omega)] at hm2
      go_wp2_with fail
      refine (HS.out _ (by (repeat' (with_reducible first | exact Keeps.refl _ _ | assumption | refine Keeps.drawN ?_ _ | refine Keeps.drew ?_ | refine Keeps.setCell ?_ ?_ _ | refine Keeps.alloc ?_ _)) <;> (first | exact Or.inr (Nat.le_refl _) | exact Or.inl rfl | exact Or.inl (Or.inl rfl) | exact Or.inl (Or.inr rfl) | (right; simp; done) | (right; simp; omega)))).mono ?_
      rintro e w2 ⟨rfl, k2⟩
      have K2 : Hid (Keeps (fun _ => False) wb w2) := Lib.hid (K.out.trans (Keeps.trans (by (repeat' (with_reducible first | exact Keeps.refl _ _ | assumption | refine Keeps.drawN ?_ _ | refine Keeps.drew ?_ | refine Keeps.setCell ?_ ?_ _ | refine Keeps.alloc ?_ _)) <;> (first | exact Or.inr (Nat.le_refl _) | exact Or.inl rfl | exact Or.inl (Or.inl rfl) | exact Or.inl (Or.inr rfl) | (right; simp; done) | (right; simp; omega))) k2))
      clear k2
      go_wp2_with fail
      go_roundw
      case rel => exact ⟨i + 1, by go_num, by omega, by first | go_num | (congr 1; omega), K2.out⟩
      case measure => simp [intOf]; omega
    · have he : i = L.length := by omega
      subst he
      have b0 := K.out.cell B0.out id
      have b2 := K.out.cell B2.out id
      have b3 := K.out.cell B3.out id
      have hsz : w.heap.size < wr.heap.size := lt_of_cell b0
      have KE := Lib.hid (KB.out.trans K.out)
      go_wp2_with fail
      go_ret
      exact ⟨by first | rfl | (push_cast; rfl), KE.out⟩
set_option maxHeartbeats 2000000 in
theorem len_cat (L : List T) (hL : L.length ≤ 1000) (ih : ∀ (i : Nat) (k : T), L[i]? = some k → LenC k 1) : LenC ⟨4, [], 0, 0, F.ofL L⟩ L.length := by
  intro P v w ht
  obtain ⟨a1, n1, c1, a2, c2, e1, e2, hl, hc⟩ := ht.krow
  simp only [F.to_of] at e2 hl hc
  have o1 : v.op = 4 := ht.op
  have o2 : v.mn = 0 := ht.mn
  have o3 : v.mx = 0 := ht.mx
  obtain ⟨vo, vsv, vm, vx, vk⟩ := v
  obtain rfl := e1
  obtain rfl := e2
  obtain rfl := o1
  obtain rfl := o2
  obtain rfl := o3
  have HC := Lib.hid hc
  have IH := Lib.hid ih
  clear hl hc ht ih
  show Calls Tryz.prog 46 #[.agg #[.int .i64 4, .slice a1 n1 c1, .int .i64 0, .int .i64 0, .slice a2 L.length c2]] w _
  go_enter Tryz.func46, Tryz.ntmps46
  go_wp2_with fail
  obtain ⟨wb, hwb⟩ : ∃ W, W = w.alloc (.cells #[.int .i64 4, .slice a1 n1 c1, .int .i64 0, .int .i64 0, .slice a2 L.length c2] 27) := ⟨_, rfl⟩
  have hKB : Keeps (fun _ => False) w wb := by rw [hwb]; exact (Keeps.refl _ _).alloc _
  have b0 : wb.cell? ⟨w.heap.size, 0, none⟩ = some (.int .i64 4) := by rw [hwb]; simp [go_sem]
  have b2 : wb.cell? ⟨w.heap.size, 2, none⟩ = some (.int .i64 0) := by rw [hwb]; simp [go_sem]
  have b3 : wb.cell? ⟨w.heap.size, 3, none⟩ = some (.int .i64 0) := by rw [hwb]; simp [go_sem]
  rw [← hwb]
  clear hwb
  have KB := Lib.hid hKB
  have B0 := Lib.hid b0
  have B2 := Lib.hid b2
  have B3 := Lib.hid b3
  clear hKB b0 b2 b3
  go_loopw [9, 3] (fun iv av wr => ∃ i : Nat, iv = .int .i64 i ∧ i ≤ L.length ∧ av = .int .i64 i ∧ Keeps (fun _ => False) wb wr) (fun iv _ _ => L.length - (intOf iv).toNat)
  case atStart => exact ⟨0, rfl, Nat.zero_le _, rfl, Keeps.refl _ _⟩
  case round =>
    obtain ⟨i, rfl, hi, rfl, hk⟩ := hrel
    have K := Lib.hid hk
    clear hk
    by_cases hil : i < L.length
    · obtain ⟨k, hki⟩ : ∃ k, L[i]? = some k := ⟨_, List.getElem?_eq_getElem hil⟩
      obtain ⟨b, off, uo, d1, f1, g1, um, ux, d2, f2, g2, rfl, hu, hlt, x0, x1, x2, x3, x4⟩ := (HC.out.keep (KB.out.trans K.out)).at hki
      have HS : Hid (∀ W, Keeps (fun _ => False) wr W → Calls Tryz.prog 46 #[.agg #[.int .i64 uo, .slice d1 f1 g1, .int .i64 um, .int .i64 ux, .slice d2 f2 g2]] W fun e w' => e = .returned (.int .i64 1) ∧ Keeps (fun _ => False) W w') := Lib.hid (fun W kW =>
        IH.out i k hki P ⟨uo, .slice d1 f1 g1, um, ux, .slice d2 f2 g2⟩ W (hu.keepsTo kW (fun _ _ => id) (fun _ h => h)))
      clear hki hu
      have hm2 := fun W => min_2 W ((i : Int) + 1) 1099511627776
      rw [if_neg (by omega)] at hm2
      go_wp2_with fail
      refine (HS.out _ (by (repeat' (with_reducible first | exact Keeps.refl _ _ | assumption | refine Keeps.drawN ?_ _ | refine Keeps.drew ?_ | refine Keeps.setCell ?_ ?_ _ | refine Keeps.alloc ?_ _)) <;> (first | exact Or.inr (Nat.le_refl _) | exact Or.inl rfl | exact Or.inl (Or.inl rfl) | exact Or.inl (Or.inr rfl) | (right; simp; done) | (right; simp; omega)))).mono ?_
      rintro e w2 ⟨rfl, k2⟩
      have K2 : Hid (Keeps (fun _ => False) wb w2) := Lib.hid (K.out.trans (Keeps.trans (by (repeat' (with_reducible first | exact Keeps.refl _ _ | assumption | refine Keeps.drawN ?_ _ | refine Keeps.drew ?_ | refine Keeps.setCell ?_ ?_ _ | refine Keeps.alloc ?_ _)) <;> (first | exact Or.inr (Nat.le_refl _) | exact Or.inl rfl | exact Or.inl (Or.inl rfl) | exact Or.inl (Or.inr rfl) | (right; simp; done) | (right; simp; omega))) k2))
      clear k2
      go_wp2_with fail
      go_roundw
      case rel => exact ⟨i + 1, by go_num, by omega, by first | go_num | (congr 1; omega), K2.out⟩
      case measure => simp [intOf]; omega
    · have he : i = L.length := by omega
      subst he
      have b0 := K.out.cell B0.out id
      have b2 := K.out.cell B2.out id
      have b3 := K.out.cell B3.out id
      have hsz : w.heap.size < wr.heap.size := lt_of_cell b0
      have KE := Lib.hid (KB.out.trans K.out)
      have hm2 := fun W => min_2 W (L.length : Int) 1099511627776
      rw [if_neg (by omega)] at hm2
      go_wp2_with fail
      go_ret
      exact ⟨by first | rfl | (push_cast; rfl), KE.out⟩
set_option maxHeartbeats 2000000 in
theorem len_bp (L : List T) (hL : L.length ≤ 1000) (ih : ∀ (i : Nat) (k : T), L[i]? = some k → LenC k 1) : LenC ⟨6, [], 1, -1, F.ofL L⟩ (2 * L.length + 2) := by
  intro P v w ht
  obtain ⟨a1, n1, c1, a2, c2, e1, e2, hl, hc⟩ := ht.krow
  simp only [F.to_of] at e2 hl hc
  have o1 : v.op = 6 := ht.op
  have o2 : v.mn = 1 := ht.mn
  have o3 : v.mx = (-1) := ht.mx
  obtain ⟨vo, vsv, vm, vx, vk⟩ := v
  obtain rfl := e1
  obtain rfl := e2
  obtain rfl := o1
  obtain rfl := o2
  obtain rfl := o3
  have HC := Lib.hid hc
  have IH := Lib.hid ih
  clear hl hc ht ih
  show Calls Tryz.prog 46 #[.agg #[.int .i64 6, .slice a1 n1 c1, .int .i64 1, .int .i64 (-1), .slice a2 L.length c2]] w _
  go_enter Tryz.func46, Tryz.ntmps46
  go_wp2_with fail
  obtain ⟨wb, hwb⟩ : ∃ W, W = w.alloc (.cells #[.int .i64 6, .slice a1 n1 c1, .int .i64 1, .int .i64 (-1), .slice a2 L.length c2] 27) := ⟨_, rfl⟩
  have hKB : Keeps (fun _ => False) w wb := by rw [hwb]; exact (Keeps.refl _ _).alloc _
  have b0 : wb.cell? ⟨w.heap.size, 0, none⟩ = some (.int .i64 6) := by rw [hwb]; simp [go_sem]
  have b2 : wb.cell? ⟨w.heap.size, 2, none⟩ = some (.int .i64 1) := by rw [hwb]; simp [go_sem]
  have b3 : wb.cell? ⟨w.heap.size, 3, none⟩ = some (.int .i64 (-1)) := by rw [hwb]; simp [go_sem]
  rw [← hwb]
  clear hwb
  have KB := Lib.hid hKB
  have B0 := Lib.hid b0
  have B2 := Lib.hid b2
  have B3 := Lib.hid b3
  clear hKB b0 b2 b3
  go_loopw [9, 3] (fun iv av wr => ∃ i : Nat, iv = .int .i64 i ∧ i ≤ L.length ∧ av = .int .i64 i ∧ Keeps (fun _ => False) wb wr) (fun iv _ _ => L.length - (intOf iv).toNat)
  case atStart => exact ⟨0, rfl, Nat.zero_le _, rfl, Keeps.refl _ _⟩
  case round =>
    obtain ⟨i, rfl, hi, rfl, hk⟩ := hrel
    have K := Lib.hid hk
    clear hk
    by_cases hil : i < L.length
    · obtain ⟨k, hki⟩ : ∃ k, L[i]? = some k := ⟨_, List.getElem?_eq_getElem hil⟩
      obtain ⟨b, off, uo, d1, f1, g1, um, ux, d2, f2, g2, rfl, hu, hlt, x0, x1, x2, x3, x4⟩ := (HC.out.keep (KB.out.trans K.out)).at hki
      have HS : Hid (∀ W, Keeps (fun _ => False) wr W → Calls Tryz.prog 46 #[.agg #[.int .i64 uo, .slice d1 f1 g1, .int .i64 um, .int .i64 ux, .slice d2 f2 g2]] W fun e w' => e = .returned (.int .i64 1) ∧ Keeps (fun _ => False) W w') := Lib.hid (fun W kW =>
        IH.out i k hki P ⟨uo, .slice d1 f1 g1, um, ux, .slice d2 f2 g2⟩ W (hu.keepsTo kW (fun _ _ => id) (fun _ h => h)))
      clear hki hu
      have hm2 := fun W => min_2 W ((i : Int) + 1) 1099511627776
      rw [if_neg (by omega)] at hm2
      go_wp2_with fail
      refine (HS.out _ (by (repeat' (with_reducible first | exact Keeps.refl _ _ | assumption | refine Keeps.drawN ?_ _ | refine Keeps.drew ?_ | refine Keeps.setCell ?_ ?_ _ | refine Keeps.alloc ?_ _)) <;> (first | exact Or.inr (Nat.le_refl _) | exact Or.inl rfl | exact Or.inl (Or.inl rfl) | exact Or.inl (Or.inr rfl) | (right; simp; done) | (right; simp; omega)))).mono ?_
      rintro e w2 ⟨rfl, k2⟩
      have K2 : Hid (Keeps (fun _ => False) wb w2) := Lib.hid (K.out.trans (Keeps.trans (by (repeat' (with_reducible first | exact Keeps.refl _ _ | assumption | refine Keeps.drawN ?_ _ | refine Keeps.drew ?_ | refine Keeps.setCell ?_ ?_ _ | refine Keeps.alloc ?_ _)) <;> (first | exact Or.inr (Nat.le_refl _) | exact Or.inl rfl | exact Or.inl (Or.inl rfl) | exact Or.inl (Or.inr rfl) | (right; simp; done) | (right; simp; omega))) k2))
      clear k2
      go_wp2_with fail
      go_roundw
      case rel => exact ⟨i + 1, by go_num, by omega, by first | go_num | (congr 1; omega), K2.out⟩
      case measure => simp [intOf]; omega
    · have he : i = L.length := by omega
      subst he
      have b0 := K.out.cell B0.out id
      have b2 := K.out.cell B2.out id
      have b3 := K.out.cell B3.out id
      have hsz : w.heap.size < wr.heap.size := lt_of_cell b0
      have KE := Lib.hid (KB.out.trans K.out)
      have hm2 := fun W => min_2 W (2 * (L.length : Int) + 2) 1099511627776
      rw [if_neg (by omega)] at hm2
      go_wp2_with fail
      go_ret
      exact ⟨by first | rfl | (push_cast; rfl), KE.out⟩
end Go.Proofs.YtpcbfmbpbegjgaaGreat
end
section
namespace Go.Proofs.YtpcbfmbpbegjgaaGreat
open Go.RowKit
set_option linter.unusedVariables false
set_option linter.unusedSimpArgs false
set_option maxRecDepth 100000

/-- A program lies so. -/
structure PgAt (w : World) (P : Nat → Prop) (v : Value) (is : List Ins) : Prop where
  row : ∃ ivs, SlOf 4 encP w v ivs ∧ ivs.length = is.length ∧ ∀ (k : Nat) (iv : IV) (i : Ins), ivs[k]? = some iv → is[k]? = some i → InAt w P iv i
  blk : ∀ b, v.ownBlock = some b → P b
theorem PgAt.keepsTo {S P Q : Nat → Prop} {w w' : World} {v : Value} {is : List Ins} (h : PgAt w P v is) (K : Keeps S w w') (hs : ∀ b, P b → ¬ S b) (hq : ∀ b, P b → Q b) : PgAt w' Q v is := by
  obtain ⟨⟨ivs, h1, h2, h3⟩, h4⟩ := h
  exact ⟨⟨ivs, h1.keeps K (fun b hb => hs b (h4 b hb)), h2, fun k iv i a b => (h3 k iv i a b).keepsTo K hs hq⟩, fun b hb => hq b (h4 b hb)⟩
theorem MkAt.pg {base mb : Nat} {w : World} {is : List Ins} {v : Value} (h : MkAt base w mb is) (hc : w.cell? ⟨mb, 0, none⟩ = some v) (hn : is.length ≤ 1000) : PgAt w (fun b => base ≤ b ∧ b < w.heap.size) v is := by
  obtain ⟨v', ivs, h1, h2, h3, h4⟩ := h
  have e : v' = v := by
    rw [Lib.cell_of_heap h1] at hc
    simpa using hc
  subst e
  exact ⟨⟨ivs, SlOf.ofOwn (by rw [h3]; exact h2) (by omega), h3, fun k iv i a b => (h4 k iv i a b).keepsTo (Keeps.refl (fun _ => False) _) (fun _ _ => id) (fun b hb => ⟨hb.1, hb.2.1⟩)⟩, fun b hb => ⟨ownBlock_base h2 b hb, own_lt h2 b hb⟩⟩
/-- What node does with an empty maker. -/
def NodeE (t : T) (is : List Ins) : Prop := ∀ (P : Nat → Prop) (v : NV) (w0 w : World) (mb : Nat), TAt w0 P v t → Keeps (fun _ => False) w0 w → w0.heap.size ≤ mb → mb < w.heap.size → w.heap[mb]? = some (.cells #[.slice none 0 0] 101 (0, 0)) →
    Calls Tryz.prog 47 #[.pointer (some ⟨mb, 0, none⟩), v.val] w fun e w' => e = .returned (.tuple #[]) ∧ MkAt (mb + 1) w' mb is ∧ Keeps (fun b => b = mb ∨ mb + 1 ≤ b) w w'
theorem nodeE_char (s : List (Int × Int)) (hs0 : s ≠ []) (hsl : s.length ≤ 1000) : NodeE (charT s) [chI s 0] := by
  intro P v w0 w mb ht k0 h1 hl h2
  exact (node_char s hs0 hsl P v w0 w mb (mb + 1) [] ht k0 h1 (by omega) (by omega) (by simp) (MkAt.empty h2)).mono fun e w' ⟨a, b, c⟩ => ⟨a, b, c⟩
theorem nodeE_bp (s : List (Int × Int)) (hs0 : s ≠ []) (hsl : s.length ≤ 1000) : NodeE ⟨6, [], 1, -1, F.ofL [charT s]⟩ (bpI s) := by
  intro P v w0 w mb ht k0 h1 hl h2
  exact (node_bp s hs0 hsl P v w0 w mb ht k0 h1 h2).mono fun e w' ⟨a, b, c⟩ => ⟨a, b, c.mono (fun _ _ e => Or.inl e)⟩
def mI : Ins := ⟨0, [], 0, 0⟩
/-- What Compile answers. -/
def CoE (w : World) (is : List Ins) (e : Ending) (w' : World) : Prop := ∃ v, e = .returned (.tuple #[v, .int .i64 0]) ∧ PgAt w' (fun b => w.heap.size ≤ b ∧ b < w'.heap.size) v is ∧ Keeps (fun _ => False) w w'
set_option maxHeartbeats 4000000 in
theorem compile_any (t : T) (n : Nat) (is : List Ins) (hl : LenC t n) (hn : n < 2000) (hN : NodeE t is) (his : is.length ≤ 500) (P : Nat → Prop) (v : NV) (w : World) (ht : TAt w P v t) :
    Calls Tryz.prog 25 #[v.val] w fun e w' => CoE w (is ++ [mI]) e w' := by
  obtain ⟨i0, hi0, hz0, hz1, hz2⟩ := info_parts info_inst
  obtain ⟨a1, n1, c1, a2, c2, e1, e2, _, _⟩ := ht.krow
  have HL := Lib.hid (fun W (K : Keeps (fun _ => False) w W) => hl P v W (ht.keepsTo K (fun _ _ => id) (fun _ h => h)))
  have HN := Lib.hid (fun W mb (K : Keeps (fun _ => False) w W) h1 h2 h3 => hN P v w W mb ht K h1 h2 h3)
  obtain ⟨vo, vsv, vm, vx, vk⟩ := v
  obtain rfl := e1
  obtain rfl := e2
  have g0 : decide ((2000 : Int) ≤ (n : Int)) = false := by simp; omega
  unfold NV.val at HL HN
  clear ht hl hN
  generalize t.kids.toL.length = KL at *
  show Calls Tryz.prog 25 #[.agg #[.int .i64 vo, .slice a1 n1 c1, .int .i64 vm, .int .i64 vx, .slice a2 KL c2]] w _
  go_enter Tryz.func25, Tryz.ntmps25
  go_wp2_with fail
  refine (HL.out _ (by (repeat' (with_reducible first | exact Keeps.refl _ _ | assumption | refine Keeps.drawN ?_ _ | refine Keeps.drew ?_ | refine Keeps.setCell ?_ ?_ _ | refine Keeps.alloc ?_ _)) <;> (first | exact Or.inr (Nat.le_refl _) | exact Or.inl rfl | exact Or.inl (Or.inl rfl) | exact Or.inl (Or.inr rfl) | (right; simp; done) | (right; simp; omega)))).mono ?_
  rintro e w2 ⟨rfl, k2⟩
  have z0 : w2.cell? ⟨w.heap.size, 0, none⟩ = some (.int .i64 vo) := k2.cell (by simp [go_sem]) id
  have z1 : w2.cell? ⟨w.heap.size, 1, none⟩ = some (.slice a1 n1 c1) := k2.cell (by simp [go_sem]) id
  have z2 : w2.cell? ⟨w.heap.size, 2, none⟩ = some (.int .i64 vm) := k2.cell (by simp [go_sem]) id
  have z3 : w2.cell? ⟨w.heap.size, 3, none⟩ = some (.int .i64 vx) := k2.cell (by simp [go_sem]) id
  have z4 : w2.cell? ⟨w.heap.size, 4, none⟩ = some (.slice a2 KL c2) := k2.cell (by simp [go_sem]) id
  have K2 : Hid (Keeps (fun _ => False) w w2) := Lib.hid (Keeps.trans (by (repeat' (with_reducible first | exact Keeps.refl _ _ | assumption | refine Keeps.drawN ?_ _ | refine Keeps.drew ?_ | refine Keeps.setCell ?_ ?_ _ | refine Keeps.alloc ?_ _)) <;> (first | exact Or.inr (Nat.le_refl _) | exact Or.inl rfl | exact Or.inl (Or.inl rfl) | exact Or.inl (Or.inr rfl) | (right; simp; done) | (right; simp; omega))) k2)
  have hs2 : w.heap.size < w2.heap.size := lt_of_cell z0
  have z0 := alloc_cell z0 (.cells #[.slice none 0 0] 101)
  have z1 := alloc_cell z1 (.cells #[.slice none 0 0] 101)
  have z2 := alloc_cell z2 (.cells #[.slice none 0 0] 101)
  have z3 := alloc_cell z3 (.cells #[.slice none 0 0] 101)
  have z4 := alloc_cell z4 (.cells #[.slice none 0 0] 101)
  have Hs2 := Lib.hid hs2
  clear k2 hs2
  go_wp2_with fail
  refine (HN.out _ w2.heap.size (K2.out.alloc _) (by have := Hs2.out; omega) (by simp) (heap_alloc_new w2 _)).mono ?_
  rintro e w3 ⟨rfl, hM, k3⟩
  obtain ⟨u, ivs, hbk, hown, hlen, hin⟩ := hM
  obtain ⟨va, vc, rfl⟩ := ownsRow_slice hown
  have c0 : w3.cell? ⟨w2.heap.size, 0, none⟩ = some (.slice va is.length vc) := by rw [Lib.cell_of_heap hbk]; rfl
  have f0 : w3.frozen? ⟨w2.heap.size, 0, none⟩ = false := Lib.frozen_of_heap hbk 0
  have hs3 := k3.size
  simp at hs3
  have hvm : (Value.slice va is.length vc).ownBlock ≠ some w2.heap.size := fun e => by have := ownBlock_base hown _ e; omega
  have KW3 : Hid (Keeps (fun _ => False) w w3) := Lib.hid ((K2.out.alloc _).trans2 k3 (fun b hb e => by have := Hs2.out; omega))
  have HO := Lib.hid hown
  have HBK := Lib.hid hbk
  have HIN := Lib.hid hin
  have c0a := alloc_cell c0 (.cells #[.int .i64 0, .slice none 0 0, .int .i64 0, .int .i64 0] 104)
  have hs3' : w2.heap.size < w3.heap.size := by omega
  clear hbk hown hin k3 z0 z1 z2 z3 z4 HN
  go_wp2_with (at_builtin; refine wpList_append_lies _ rfl (.tmp 17) (.tmp 19) 70 rfl (w2.heap.size + 1) 104 i0 _ 4 48 Tryz.underlying70 hi0 hz0 hz1 hz2 rfl (by decide) _ is.length (cellsOf 4 encP ivs) rfl (ownsRow_alloc HO.out _) ⟨w3.heap.size, 0, none⟩ 1 1 [.int .i64 0, .slice none 0 0, .int .i64 0, .int .i64 0] rfl rfl (by exact cells_new w3 [_, _, _, _] _) (by simp [Value.oneCell']) (by decide) (by unfold maxLen; omega) (by omega) (by simp; omega) _ rfl ?_)
  intro g cap w4 hown4 hgrow4 hat4 hlt4
  have c4 : w4.cell? ⟨w2.heap.size, 0, none⟩ = some (.slice va is.length vc) := (hgrow4.cell_far ⟨w2.heap.size, 0, none⟩ (by simp; omega) (fun e => hvm e.symm)).trans c0a
  have f4 : w4.frozen? ⟨w2.heap.size, 0, none⟩ = false := (hgrow4.frozen_far ⟨w2.heap.size, 0, none⟩ (by simp; omega) (fun e => hvm e.symm)).trans (((Keeps.refl (fun _ => False) w3).alloc _).frozen f0 (by show w2.heap.size < w3.heap.size; omega) id)
  have hP := MkAt.push (wA := w3.alloc (.cells #[.int .i64 0, .slice none 0 0, .int .i64 0, .int .i64 0] 104)) (i := mI) (iv := ⟨0, .slice none 0 0, 0, 0⟩) HBK.out HO.out hlen HIN.out (Nat.lt_succ_self _) (by omega) (Keeps.refl _ _) ((Keeps.refl _ _).alloc _) ⟨rfl, rfl, rfl, rsl_nil _, fun b hb => by simp [Value.ownBlock] at hb⟩ hown4 hgrow4 hat4 (by simp)
  have HP := Lib.hid hP
  have hcc : (w4.setCell ⟨w2.heap.size, 0, none⟩ (.slice (some ⟨g, 0, none⟩) (is.length + 1) cap)).cell? ⟨w2.heap.size, 0, none⟩ = some (.slice (some ⟨g, 0, none⟩) (is.length + 1) cap) := cell_set_same c4
  have HPG := Lib.hid (hP.1.pg hcc (by simp; omega))
  have KE : Hid (Keeps (fun _ => False) w (w4.setCell ⟨w2.heap.size, 0, none⟩ (.slice (some ⟨g, 0, none⟩) (is.length + 1) cap))) := Lib.hid (KW3.out.trans2 hP.2 (fun b hb e => by have := Hs2.out; omega))
  clear hP hown4 hgrow4 hat4 c0a c0 f0
  go_wp2_with fail
  go_ret2
  exact ⟨_, rfl, HPG.out.keepsTo (Keeps.refl (fun _ => False) _) (fun _ _ => id) (fun b hb => ⟨by have := hb.1; have := Hs2.out; omega, hb.2⟩), KE.out⟩
end Go.Proofs.YtpcbfmbpbegjgaaGreat
end
section
namespace Go.Proofs.YtpcbfmbpbegjgaaGreat
open Go.RowKit
set_option linter.unusedVariables false
set_option linter.unusedSimpArgs false
set_option maxRecDepth 100000

def okI (n : Nat) (i : Ins) : Prop := i.op = 0 ∨ (i.op = 1 ∧ i.x < n) ∨ (i.op = 2 ∧ i.x < n ∧ i.y < n)
theorem there_any (x n : Nat) (a : Option Addr) (c b : Nat) (w : World) (hb : w.cell? ⟨b, 0, none⟩ = some (.slice a n c)) (hx : x < n) (hn : n ≤ 1000000) :
    Calls Tryz.prog 78 #[.int .i64 x, .pointer (some ⟨b, 0, none⟩)] w fun e w' => e = .returned (.bool true) ∧ w = w' := by
  have g : decide ((x : Int) < (n : Int)) = true := by simp; omega
  go_enter Tryz.func78, Tryz.ntmps78
  go_wp2_with fail
  go_ret
  exact ⟨rfl, rfl⟩
/-- One instruction's cells. -/
theorem PgAt.at {w : World} {P : Nat → Prop} {v : Value} {is : List Ins} (h : PgAt w P v is) {k : Nat} {i : Ins} (hk : is[k]? = some i) : ∃ b off c sa sc, v = .slice (some ⟨b, off, none⟩) is.length c ∧ b < w.heap.size ∧ RSl w (.slice sa i.set.length sc) i.set ∧ (∀ b', (Value.slice sa i.set.length sc).ownBlock = some b' → P b') ∧ P b ∧
    w.cell? ⟨b, off + k * 4, none⟩ = some (.int .i64 i.op) ∧ w.cell? ⟨b, off + k * 4 + 1, none⟩ = some (.slice sa i.set.length sc) ∧ w.cell? ⟨b, off + k * 4 + 2, none⟩ = some (.int .i64 (i.x : Int)) ∧ w.cell? ⟨b, off + k * 4 + 3, none⟩ = some (.int .i64 (i.y : Int)) := by
  obtain ⟨⟨ivs, ⟨a, c, e1, hcap, hl2, hcc⟩, hlen, hin⟩, hblk⟩ := h
  have hkl := (List.getElem?_eq_some_iff.1 hk).1
  obtain ⟨b, off, rfl, hc⟩ := hcc (by omega)
  obtain ⟨iv, hiv⟩ : ∃ iv, ivs[k]? = some iv := ⟨_, List.getElem?_eq_getElem (by omega)⟩
  have hI := hin k iv i hiv hk
  have z0 := hc k iv hiv 0 (by omega)
  have z1 := hc k iv hiv 1 (by omega)
  have z2 := hc k iv hiv 2 (by omega)
  have z3 := hc k iv hiv 3 (by omega)
  have e0 : encP iv 0 = .int .i64 iv.op := rfl
  have e1' : encP iv 1 = iv.sv := rfl
  have e2 : encP iv 2 = .int .i64 iv.x := rfl
  have e3 : encP iv 3 = .int .i64 iv.y := rfl
  rw [e0, hI.op] at z0
  rw [e1'] at z1
  rw [e2, hI.x] at z2
  rw [e3, hI.y] at z3
  obtain ⟨sa, sc, e9, _⟩ := hI.set.cells
  have h1 := hI.set
  have h2 := hI.sb
  rw [e9] at h1 h2 z1
  exact ⟨b, off, c, sa, sc, by rw [e1, hlen], lt_of_cell z0, h1, h2, hblk b (by rw [e1]; rfl), z0, z1, z2, z3⟩
theorem PgAt.form {w : World} {P : Nat → Prop} {v : Value} {is : List Ins} (h : PgAt w P v is) : ∃ a c, v = .slice a is.length c := by
  obtain ⟨⟨ivs, ⟨a, c, e1, _⟩, hlen, _⟩, _⟩ := h
  exact ⟨a, c, by rw [e1, hlen]⟩
set_option maxHeartbeats 4000000 in
theorem pright_any (is : List Ins) (P : Nat → Prop) (v : Value) (w : World) (h : PgAt w P v is) (hok : ∀ (k : Nat) (i : Ins), is[k]? = some i → okI is.length i) (h0 : 0 < is.length) (hn : is.length ≤ 1000) :
    Calls Tryz.prog 54 #[v] w fun e w' => e = .returned (.bool true) ∧ Keeps (fun _ => False) w w' := by
  obtain ⟨a, c, rfl⟩ := h.form
  have HPg := Lib.hid h
  have HOk := Lib.hid hok
  obtain ⟨wb, hwb⟩ : ∃ W, W = w.alloc (.cells #[.slice a is.length c] 70) := ⟨_, rfl⟩
  have kb : Keeps (fun _ => False) w wb := by rw [hwb]; exact (Keeps.refl _ _).alloc _
  have b0 : wb.cell? ⟨w.heap.size, 0, none⟩ = some (.slice a is.length c) := by rw [hwb]; simp [go_sem]
  have KB := Lib.hid kb
  have B0 := Lib.hid b0
  clear h hok kb
  go_enter Tryz.func54, Tryz.ntmps54
  go_wp2_with fail
  rw [← hwb]
  clear hwb b0
  go_loopw [9] (fun iv wr => ∃ i : Nat, iv = .int .i64 i ∧ i ≤ is.length ∧ Keeps (fun _ => False) wb wr) (fun iv _ => is.length - (intOf iv).toNat)
  case atStart => exact ⟨0, rfl, Nat.zero_le _, Keeps.refl _ _⟩
  case round =>
    obtain ⟨i, rfl, hi, hk⟩ := hrel
    have K := Lib.hid hk
    clear hk
    have b0 := K.out.cell B0.out id
    by_cases hil : i < is.length
    · obtain ⟨x, hx⟩ : ∃ x, is[i]? = some x := ⟨_, List.getElem?_eq_getElem hil⟩
      obtain ⟨b, off, c', sa, sc, e1, hb, hs, _, _, z0, z1, z2, z3⟩ := HPg.out.at hx
      obtain ⟨rfl, _, rfl⟩ := Value.slice.inj e1
      have ho := HOk.out i x hx
      have y0 := K.out.cell (KB.out.cell z0 id) id
      have y1 := K.out.cell (KB.out.cell z1 id) id
      have y2 := K.out.cell (KB.out.cell z2 id) id
      have y3 := K.out.cell (KB.out.cell z3 id) id
      have hbr : b < wr.heap.size := lt_of_cell y0
      clear hx hs z0 z1 z2 z3 e1
      obtain ⟨op, set, xx, yy⟩ := x
      simp only [okI] at ho y0 y1 y2 y3
      have ba := alloc_cell b0 (.cells #[.int .i64 op, .slice sa set.length sc, .int .i64 xx, .int .i64 yy] 104)
      have HTx := Lib.hid (fun hx => there_any xx is.length (some ⟨b, off, none⟩) c w.heap.size _ ba hx (by omega))
      have HTy := Lib.hid (fun hx => there_any yy is.length (some ⟨b, off, none⟩) c w.heap.size _ ba hx (by omega))
      have HK2 : Hid (Keeps (fun _ => False) wb (wr.alloc (.cells #[.int .i64 op, .slice sa set.length sc, .int .i64 xx, .int .i64 yy] 104))) := Lib.hid (K.out.alloc _)
      clear ba
      rcases ho with rfl | ⟨rfl, h1⟩ | ⟨rfl, h1, h2⟩
      · go_wp2_with fail
        go_roundw
        case rel => exact ⟨i + 1, by go_num, by omega, HK2.out⟩
        case measure => simp [intOf]; omega
      · go_wp2_with fail
        refine (HTx.out h1).mono ?_
        rintro e w3 ⟨rfl, rfl⟩
        go_wp2_with fail
        go_roundw
        case rel => exact ⟨i + 1, by go_num, by omega, HK2.out⟩
        case measure => simp [intOf]; omega
      · go_wp2_with fail
        refine (HTy.out h2).mono ?_
        rintro e w3 ⟨rfl, rfl⟩
        go_wp2_with fail
        refine (HTx.out h1).mono ?_
        rintro e w3 ⟨rfl, rfl⟩
        go_wp2_with fail
        go_roundw
        case rel => exact ⟨i + 1, by go_num, by omega, HK2.out⟩
        case measure => simp [intOf]; omega
    · have hd : decide ((0 : Int) < (is.length : Int)) = true := by simp; omega
      have KE := Lib.hid (KB.out.trans K.out)
      go_wp2_with fail
      go_ret
      exact ⟨rfl, KE.out⟩
end Go.Proofs.YtpcbfmbpbegjgaaGreat
end
section
namespace Go.Proofs.YtpcbfmbpbegjgaaGreat
open Go.RowKit
set_option linter.unusedVariables false
set_option linter.unusedSimpArgs false
set_option maxRecDepth 100000

def natV (k : Nat) : Value := .int .i64 (k : Int)
/-- A list of threads: at tb, its marks at mb; what is in the list; which are marked in this round. -/
structure Thr (B : Nat) (w : World) (tb mb n : Nat) (lv : Value) (L : List Nat) (M : Nat → Bool) (now : Nat) : Prop where
  bk : w.heap[tb]? = some (.cells #[lv, .slice (some ⟨mb, 0, none⟩) n n, .int .i64 now] 132 (0, 0))
  own : w.ownsRow B 3 1 lv L.length (L.map natV)
  mks : ∃ m : Nat → Nat, ∀ i, i < n → w.cell? ⟨mb, i, none⟩ = some (.int .i64 (m i)) ∧ w.frozen? ⟨mb, i, none⟩ = false ∧ m i ≤ now ∧ (M i = true ↔ m i = now)
  htb : B ≤ tb
  hmb : B ≤ mb
  lmb : mb < w.heap.size
  ne1 : tb ≠ mb
  ne2 : lv.ownBlock ≠ some tb
  ne3 : lv.ownBlock ≠ some mb
/-- Its blocks. -/
def inT (tb mb : Nat) (lv : Value) (b : Nat) : Prop := b = tb ∨ b = mb ∨ lv.ownBlock = some b
theorem Thr.ltb {B tb mb n now : Nat} {w : World} {lv : Value} {L : List Nat} {M : Nat → Bool} (h : Thr B w tb mb n lv L M now) : tb < w.heap.size := by
  rcases Nat.lt_or_ge tb w.heap.size with h1 | h1
  · exact h1
  · have := h.bk; rw [Array.getElem?_eq_none h1] at this; cases this
theorem Thr.inlt {B tb mb n now : Nat} {w : World} {lv : Value} {L : List Nat} {M : Nat → Bool} (h : Thr B w tb mb n lv L M now) {b : Nat} (hb : inT tb mb lv b) : b < w.heap.size ∧ B ≤ b := by
  rcases hb with rfl | rfl | hb
  · exact ⟨h.ltb, h.htb⟩
  · exact ⟨h.lmb, h.hmb⟩
  · exact ⟨own_lt h.own b hb, ownBlock_base h.own b hb⟩
theorem Thr.keeps {S : Nat → Prop} {B tb mb n now : Nat} {w w' : World} {lv : Value} {L : List Nat} {M : Nat → Bool} (h : Thr B w tb mb n lv L M now) (K : Keeps S w w') (hs : ∀ b, inT tb mb lv b → ¬ S b) : Thr B w' tb mb n lv L M now := by
  obtain ⟨m, hm⟩ := h.mks
  have hsz := K.size
  exact ⟨by rw [K.block tb h.ltb (hs tb (Or.inl rfl))]; exact h.bk, ownsRow_keeps h.own K (fun b hb => hs b (Or.inr (Or.inr hb))), ⟨m, fun i hi => by
    obtain ⟨a, b, c, d⟩ := hm i hi
    exact ⟨K.cell a (hs mb (Or.inr (Or.inl rfl))), K.frozen b h.lmb (hs mb (Or.inr (Or.inl rfl))), c, d⟩⟩, h.htb, h.hmb, by have := h.lmb; omega, h.ne1, h.ne2, h.ne3⟩
def updM (M : Nat → Bool) (i : Nat) : Nat → Bool := fun j => if j = i then true else M j
/-- An instruction, and all that are met from it at once. -/
inductive PtR (is : List Ins) : Nat → List Nat × (Nat → Bool) → List Nat × (Nat → Bool) → Prop
  | seen {i : Nat} {L : List Nat} {M : Nat → Bool} (hi : i < is.length) (h : M i = true) : PtR is i (L, M) (L, M)
  | leaf {i : Nat} {L : List Nat} {M : Nat → Bool} {x : Ins} (h : M i = false) (hx : is[i]? = some x) (ho : x.op = 0 ∨ x.op = 1) : PtR is i (L, M) (L ++ [i], updM M i)
  | split {i : Nat} {L : List Nat} {M : Nat → Bool} {x : Ins} {s1 s2 : List Nat × (Nat → Bool)} (h : M i = false) (hx : is[i]? = some x) (ho : x.op = 2) (h1 : PtR is x.x (L, updM M i) s1) (h2 : PtR is x.y s1 s2) : PtR is i (L, M) s2
/-- A mark is set. -/
theorem Thr.mark {B tb mb n now i : Nat} {w : World} {lv : Value} {L : List Nat} {M : Nat → Bool} (h : Thr B w tb mb n lv L M now) (hi : i < n) : Thr B (w.setCell ⟨mb, i, none⟩ (.int .i64 now)) tb mb n lv L (updM M i) now := by
  obtain ⟨m, hm⟩ := h.mks
  have kS : Keeps (fun b => b = mb) w (w.setCell ⟨mb, i, none⟩ (.int .i64 now)) := (Keeps.refl (fun b => b = mb) w).set (p := ⟨mb, i, none⟩) rfl _
  have hsz := kS.size
  refine ⟨by rw [kS.block tb h.ltb h.ne1]; exact h.bk, ownsRow_keeps h.own kS (fun b hb e => h.ne3 (by rw [← e]; exact hb)), ⟨fun j => if j = i then now else m j, fun j hj => ?_⟩, h.htb, h.hmb, by have := h.lmb; omega, h.ne1, h.ne2, h.ne3⟩
  obtain ⟨a, b, c, d⟩ := hm j hj
  obtain ⟨ai, bi, ci, di⟩ := hm i hi
  have hf : (w.setCell ⟨mb, i, none⟩ (.int .i64 now)).frozen? ⟨mb, j, none⟩ = false := by rw [frozen_set]; exact b
  by_cases hji : j = i
  · subst hji
    exact ⟨(cell_set_same a).trans (by simp), hf, by simp, by simp [updM]⟩
  · exact ⟨((cell_set_other (fun e => by have := (Addr.mk.inj e).2.1; omega)).trans a).trans (by simp [hji]), hf, by simp [hji]; exact c, by simp [updM, hji]; exact d⟩
/-- One more in the list. -/
theorem Thr.push {B tb mb n now i g cap H : Nat} {w wA w1 : World} {lv : Value} {L : List Nat} {M : Nat → Bool} (h : Thr B w tb mb n lv L M now) (KA : Keeps (fun _ => False) w wA)
    (hown1 : w1.ownsRow B 3 1 (.slice (some ⟨g, 0, none⟩) (L.length + 1) cap) (L.length + 1) (L.map natV ++ [natV i])) (hg : wA.grownBy w1 lv.ownBlock) (hat : lv.ownBlock = some g ∨ g = H) (hH : wA.heap.size = H) :
    Thr B (w1.setCell ⟨tb, 0, none⟩ (.slice (some ⟨g, 0, none⟩) (L.length + 1) cap)) tb mb n (.slice (some ⟨g, 0, none⟩) (L.length + 1) cap) (L ++ [i]) M now ∧
    Keeps (inT tb mb lv) w (w1.setCell ⟨tb, 0, none⟩ (.slice (some ⟨g, 0, none⟩) (L.length + 1) cap)) := by
  have hsA := KA.size
  have k1 : Keeps (fun b => lv.ownBlock = some b) wA w1 := (Keeps.refl _ _).grown hg (fun b hb => Or.inl hb)
  have hs1 := k1.size
  have kS : Keeps (fun b => b = tb) w1 (w1.setCell ⟨tb, 0, none⟩ (.slice (some ⟨g, 0, none⟩) (L.length + 1) cap)) := (Keeps.refl (fun b => b = tb) w1).set (p := ⟨tb, 0, none⟩) rfl _
  have hsS := kS.size
  have hltb := h.ltb
  have hlmb := h.lmb
  have hgt : g ≠ tb := by
    rcases hat with e | e
    · intro x; exact h.ne2 (x ▸ e)
    · omega
  have hgm : g ≠ mb := by
    rcases hat with e | e
    · intro x; exact h.ne3 (x ▸ e)
    · omega
  have hbk1 : w1.heap[tb]? = some (.cells #[lv, .slice (some ⟨mb, 0, none⟩) n n, .int .i64 now] 132 (0, 0)) := by
    rw [k1.block tb (by omega) h.ne2, KA.block tb hltb id]; exact h.bk
  obtain ⟨m, hm⟩ := h.mks
  refine ⟨⟨?_, ?_, ⟨m, fun j hj => ?_⟩, h.htb, h.hmb, by omega, h.ne1, fun e => hgt (Option.some.inj e), fun e => hgm (Option.some.inj e)⟩, ?_⟩
  · simp [World.setCell, Array.getElem?_modify, hbk1]
  · rw [List.length_append, List.map_append]
    exact ownsRow_keeps hown1 kS (fun b e1 e2 => by have h9 : g = b := Option.some.inj e1; omega)
  · obtain ⟨a, b, c, d⟩ := hm j hj
    exact ⟨kS.cell (k1.cell (KA.cell a id) h.ne3) (fun e => h.ne1 e.symm), kS.frozen (k1.frozen (KA.frozen b hlmb id) (by show mb < wA.heap.size; omega) h.ne3) (by show mb < w1.heap.size; omega) (fun e => h.ne1 e.symm), c, d⟩
  · exact ((KA.mono (T := inT tb mb lv) (fun _ _ e => e.elim)).trans2 k1 (fun b hb e => Or.inr (Or.inr e))).trans2 kS (fun b hb e => Or.inl e)
/-- The list is emptied, the next round begins. -/
theorem Thr.clr {B tb mb n now : Nat} {w : World} {a : Option Addr} {k c : Nat} {L : List Nat} {M : Nat → Bool} (h : Thr B w tb mb n (.slice a k c) L M now) :
    Thr B ((w.setCell ⟨tb, 0, none⟩ (.slice a 0 c)).setCell ⟨tb, 2, none⟩ (.int .i64 ((now + 1 : Nat) : Int))) tb mb n (.slice a 0 c) [] (fun _ => false) (now + 1) ∧
    Keeps (fun b => b = tb) w ((w.setCell ⟨tb, 0, none⟩ (.slice a 0 c)).setCell ⟨tb, 2, none⟩ (.int .i64 ((now + 1 : Nat) : Int))) := by
  have kS : Keeps (fun b => b = tb) w ((w.setCell ⟨tb, 0, none⟩ (.slice a 0 c)).setCell ⟨tb, 2, none⟩ (.int .i64 ((now + 1 : Nat) : Int))) := ((Keeps.refl (fun b => b = tb) w).set (p := ⟨tb, 0, none⟩) rfl _).set (p := ⟨tb, 2, none⟩) rfl _
  have hsS := kS.size
  have hltb := h.ltb
  have hlmb := h.lmb
  have hbk := h.bk
  have hne2 := h.ne2
  have hne3 := h.ne3
  obtain ⟨m, hm⟩ := h.mks
  have hown0 : w.ownsRow B 3 1 (.slice a 0 c) 0 [] := by
    refine ⟨rfl, ?_⟩
    rcases h.own.2 with ⟨e, _⟩ | ⟨g, cap, cur, e, h1, h2, h3, h4, h5, h6⟩
    · left; cases e; exact ⟨rfl, rfl⟩
    · right; cases e; exact ⟨g, c, cur, rfl, h1, h2, Nat.zero_le _, h4, h5, by simp⟩
  have hob : (Value.slice a 0 c).ownBlock = (Value.slice a k c).ownBlock := by cases a <;> rfl
  refine ⟨⟨?_, ?_, ⟨m, fun j hj => ?_⟩, h.htb, h.hmb, by omega, h.ne1, by rw [hob]; exact hne2, by rw [hob]; exact hne3⟩, kS⟩
  · simp [World.setCell, Array.getElem?_modify, hbk]
  · exact ownsRow_keeps hown0 kS (fun b e1 e2 => hne2 (by rw [← e2, ← hob]; exact e1))
  · obtain ⟨a', b', c', d'⟩ := hm j hj
    exact ⟨kS.cell a' (fun e => h.ne1 e.symm), kS.frozen b' hlmb (fun e => h.ne1 e.symm), by omega, by simp; omega⟩
set_option maxHeartbeats 2000000 in
theorem clear_any (B tb mb n now : Nat) (w : World) (lv : Value) (L : List Nat) (M : Nat → Bool) (h : Thr B w tb mb n lv L M now) (hn : now ≤ 1000000) :
    Calls Tryz.prog 97 #[.pointer (some ⟨tb, 0, none⟩)] w fun e w' => e = .returned (.tuple #[]) ∧ (∃ lv', Thr B w' tb mb n lv' [] (fun _ => false) (now + 1) ∧ lv'.ownBlock = lv.ownBlock) ∧ Keeps (fun b => b = tb) w w' := by
  obtain ⟨a, c, rfl⟩ := ownsRow_slice h.own
  have c0 : w.cell? ⟨tb, 0, none⟩ = some (.slice a L.length c) := by rw [Lib.cell_of_heap h.bk]; rfl
  have c2 : w.cell? ⟨tb, 2, none⟩ = some (.int .i64 now) := by rw [Lib.cell_of_heap h.bk]; rfl
  have f0 : w.frozen? ⟨tb, 0, none⟩ = false := Lib.frozen_of_heap h.bk 0
  have f2 : w.frozen? ⟨tb, 2, none⟩ = false := Lib.frozen_of_heap h.bk 2
  have HC := Lib.hid h.clr
  have hob : (Value.slice a 0 c).ownBlock = (Value.slice a L.length c).ownBlock := by cases a <;> rfl
  have HO := Lib.hid hob
  have hl0 : L.length ≤ c ∨ a = none := by
    rcases h.own.2 with ⟨e, _⟩ | ⟨g, cap, cur, e, h1, h2, h3, _⟩
    · right; exact (Value.slice.inj e).1
    · left; obtain ⟨_, _, rfl⟩ := Value.slice.inj e; exact h3
  clear h hob
  rcases a with _ | ad
  · go_enter Tryz.func97, Tryz.ntmps97
    go_wp2_with fail
    go_end0
    exact ⟨rfl, ⟨_, HC.out.1, HO.out⟩, HC.out.2⟩
  · go_enter Tryz.func97, Tryz.ntmps97
    go_wp2_with fail
    go_end0
    exact ⟨rfl, ⟨_, HC.out.1, HO.out⟩, HC.out.2⟩
end Go.Proofs.YtpcbfmbpbegjgaaGreat
end
