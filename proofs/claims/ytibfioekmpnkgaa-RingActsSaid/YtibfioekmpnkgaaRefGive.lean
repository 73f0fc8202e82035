/-
  The reference's Give.
-/
import Derived.Test.YtibfioekmpnkgaaRefSame
namespace Go.Proofs.Ytibfioekmpnkgaa
open Go.RowKit
set_option linter.unusedVariables false
set_option linter.unusedSimpArgs false
set_option maxRecDepth 100000

def zeroI : ItemV := ⟨0, 0, 0, 0, ⟨#[]⟩, none, 0, 0, 0⟩

theorem refGive_no (A : Nat → Prop) (w : World) (wb k nx : Nat) (ws : List ItemV) (h : RefAt A w wb k nx ws) (hno : ∀ y : ItemV, ws[0]? = some y → ¬ y.N = (nx : Int)) :
    Calls Try.prog 19 #[.pointer (some ⟨wb, 0, none⟩)] w fun e w' => e = .returned (.tuple #[zeroI.val, .bool false]) ∧ RefAt A w' wb k nx ws ∧ Keeps (fun _ => False) w w' := by
  have hh := Lib.hid h
  obtain ⟨L, hL, hs, _⟩ := h.ex
  obtain ⟨a, cap, rfl, hlc, hc⟩ := itm_cells hs
  have c1 := h.c1
  have c2 := h.c2
  have Hc := Lib.hid hc
  clear hc hs h
  by_cases hz : ws.length = 0
  · have hd : ((ws.length : Int) == 0) = true := by simp [hz]
    clear hno
    have hL1 := alloc_cell hL (.cells #[.int .i64 0, .int .i64 0, .int .i64 0, .int .i64 0, .string ⟨#[]⟩, .slice none 0 0, .int .i64 0] 34)
    go_enter Try.func19, Try.ntmps19
    go_wp2_with fail
    go_quiet (fail)
    go_wp2_with fail
    refine bodyPost_ret (v := .tuple #[.agg #[.int .i64 0, .int .i64 0, .int .i64 0, .int .i64 0, .string ⟨#[]⟩, .slice none 0 0, .int .i64 0], .bool false]) (by simp [results, Try.results19, go_sem]) rfl ⟨rfl, ?_, ?_⟩
    · exact hh.out.keeps (S := fun _ => False) (by (repeat' (with_reducible first | exact Keeps.refl _ _ | assumption | refine Keeps.drawN ?_ _ | refine Keeps.drew ?_ | refine Keeps.setCell ?_ ?_ _ | refine Keeps.alloc ?_ _)) <;> (first | exact Or.inr (Nat.le_refl _) | exact Or.inl rfl | exact Or.inl (Or.inl rfl) | exact Or.inl (Or.inr rfl) | (right; simp; done) | (right; simp; omega))) (fun _ h => h.elim)
    · (repeat' (with_reducible first | exact Keeps.refl _ _ | assumption | refine Keeps.drawN ?_ _ | refine Keeps.drew ?_ | refine Keeps.setCell ?_ ?_ _ | refine Keeps.alloc ?_ _)) <;> (first | exact Or.inr (Nat.le_refl _) | exact Or.inl rfl | exact Or.inl (Or.inl rfl) | exact Or.inl (Or.inr rfl) | (right; simp; done) | (right; simp; omega))
  · have hd : ((ws.length : Int) == 0) = false := by simp; intro h; exact hz (by rw [h]; rfl)
    obtain ⟨b, off, rfl, hcc⟩ := Hc.out (by omega)
    obtain ⟨y, hy⟩ : ∃ y, ws[0]? = some y := ⟨_, List.getElem?_eq_getElem (by omega)⟩
    have d0 : w.cell? ⟨b, off, none⟩ = some (.int .i64 y.N) := by have := hcc 0 y hy 0 (by omega); simpa [ItemV.cell, plc] using this
    have hn := hno y hy
    have hd2 : (y.N != (nx : Int)) = true := by simpa using hn
    have hz' : (0 : Int) < ws.length := by omega
    clear hcc hy hno
    have hL1 := alloc_cell hL (.cells #[.int .i64 0, .int .i64 0, .int .i64 0, .int .i64 0, .string ⟨#[]⟩, .slice none 0 0, .int .i64 0] 34)
    have d01 := alloc_cell d0 (.cells #[.int .i64 0, .int .i64 0, .int .i64 0, .int .i64 0, .string ⟨#[]⟩, .slice none 0 0, .int .i64 0] 34)
    have c21 := alloc_cell c2 (.cells #[.int .i64 0, .int .i64 0, .int .i64 0, .int .i64 0, .string ⟨#[]⟩, .slice none 0 0, .int .i64 0] 34)
    go_enter Try.func19, Try.ntmps19
    go_wp2_with fail
    go_quiet (fail)
    go_wp2_with fail
    refine bodyPost_ret (v := .tuple #[.agg #[.int .i64 0, .int .i64 0, .int .i64 0, .int .i64 0, .string ⟨#[]⟩, .slice none 0 0, .int .i64 0], .bool false]) (by simp [results, Try.results19, go_sem]) rfl ⟨rfl, ?_, ?_⟩
    · exact hh.out.keeps (S := fun _ => False) (by (repeat' (with_reducible first | exact Keeps.refl _ _ | assumption | refine Keeps.drawN ?_ _ | refine Keeps.drew ?_ | refine Keeps.setCell ?_ ?_ _ | refine Keeps.alloc ?_ _)) <;> (first | exact Or.inr (Nat.le_refl _) | exact Or.inl rfl | exact Or.inl (Or.inl rfl) | exact Or.inl (Or.inr rfl) | (right; simp; done) | (right; simp; omega))) (fun _ h => h.elim)
    · (repeat' (with_reducible first | exact Keeps.refl _ _ | assumption | refine Keeps.drawN ?_ _ | refine Keeps.drew ?_ | refine Keeps.setCell ?_ ?_ _ | refine Keeps.alloc ?_ _)) <;> (first | exact Or.inr (Nat.le_refl _) | exact Or.inl rfl | exact Or.inl (Or.inl rfl) | exact Or.inl (Or.inr rfl) | (right; simp; done) | (right; simp; omega))

theorem give_fin {A : Nat → Prop} {w : World} {wb k nx : Nat} {ws : List ItemV} {y : ItemV} (h : RefAt A w wb k nx (y :: ws)) (L' : Value) (hs : SlOf 7 ItemV.cell w L' ws) (hb : ∀ b, L'.ownBlock = some b → b ≠ wb ∧ ¬ A b) (o : Obj) (n : Nat) (w' : World)
    (K : Keeps (fun b => b = w.heap.size) ((((w.alloc o).drewN n).setCell ⟨wb, 0, none⟩ L').setCell ⟨wb, 2, none⟩ (.int .i64 ((nx : Int) + 1))) w') : RefAt A w' wb k (nx + 1) ws := by
  have hlt := h.lt
  have hne : ¬ wb = w.heap.size := by omega
  obtain ⟨L, hL, _⟩ := h.ex
  have e0 : ((w.alloc o).drewN n).cell? ⟨wb, 0, none⟩ = some L := alloc_cell hL o
  have e1 : ((w.alloc o).drewN n).cell? ⟨wb, 1, none⟩ = some (.int .i64 k) := alloc_cell h.c1 o
  have e2 : ((w.alloc o).drewN n).cell? ⟨wb, 2, none⟩ = some (.int .i64 nx) := alloc_cell h.c2 o
  have n02 : (⟨wb, 0, none⟩ : Addr) ≠ ⟨wb, 2, none⟩ := by intro e; simp at e
  have n01 : (⟨wb, 0, none⟩ : Addr) ≠ ⟨wb, 1, none⟩ := by intro e; simp at e
  have n21 : (⟨wb, 2, none⟩ : Addr) ≠ ⟨wb, 1, none⟩ := by intro e; simp at e
  have K0 : Keeps (fun b => b = wb) w ((((w.alloc o).drewN n).setCell ⟨wb, 0, none⟩ L').setCell ⟨wb, 2, none⟩ (.int .i64 ((nx : Int) + 1))) := by (repeat' (with_reducible first | exact Keeps.refl _ _ | assumption | refine Keeps.drawN ?_ _ | refine Keeps.drew ?_ | refine Keeps.setCell ?_ ?_ _ | refine Keeps.alloc ?_ _)) <;> (first | exact Or.inr (Nat.le_refl _) | exact Or.inl rfl | exact Or.inl (Or.inl rfl) | exact Or.inl (Or.inr rfl) | (right; simp; done) | (right; simp; omega))
  have hsz := K0.size
  have K1 : Keeps (fun b => b = wb) w w' := K0.trans2 K (fun i hi e => by omega)
  refine ⟨⟨L', K.cell ?_ hne, hs.keeps K1 (fun b e => (hb b e).1), hb⟩, K.cell ?_ hne, K.cell ?_ hne, Nat.lt_of_lt_of_le hlt K1.size, fun x => K.frozen ?_ ?_ hne, h.wa, fun b hA => Nat.lt_of_lt_of_le (h.old b hA) K1.size⟩
  · rw [cell_set_other n02.symm, cell_set_same e0]
  · rw [cell_set_other n21, cell_set_other n01]; exact e1
  · rw [cell_set_same (v := .int .i64 ((nx : Int) + 1)) (u := .int .i64 nx) (by rw [cell_set_other n02]; exact e2)]; simp
  · rw [frozen_set, frozen_set]; exact alloc_frozen (h.fr x) hlt o
  · simp only; omega

theorem refGive_yes (A : Nat → Prop) (w : World) (wb k nx : Nat) (ws : List ItemV) (y : ItemV) (h : RefAt A w wb k nx (y :: ws)) (hy : y.N = nx) (hnx : nx ≤ 1000000) (hlen : ws.length ≤ 4611686018427387904) :
    Calls Try.prog 19 #[.pointer (some ⟨wb, 0, none⟩)] w fun e w' => e = .returned (.tuple #[y.val, .bool true]) ∧ RefAt A w' wb k (nx + 1) ws ∧ Keeps (fun b => b = wb) w w' := by
  have hh := Lib.hid h
  obtain ⟨L, hL, hs, hb⟩ := h.ex
  obtain ⟨a, cap, rfl, hlc, hc⟩ := itm_cells hs
  have c1 := h.c1
  have c2 := h.c2
  have fr := h.fr
  simp only [List.length_cons] at *
  obtain ⟨b, off, rfl, hcc⟩ := hc (by omega)
  have Hcc := Lib.hid hcc
  have hbb := (hb b rfl).1
  obtain ⟨N, B, R, AT, T, ha, hl', hc', er⟩ := y
  have d0 : w.cell? ⟨b, off, none⟩ = some (.int .i64 N) := by have := hcc 0 _ rfl 0 (by omega); simpa [ItemV.cell, plc] using this
  have d1 : w.cell? ⟨b, off + 1, none⟩ = some (.int .i64 B) := by have := hcc 0 _ rfl 1 (by omega); simpa [ItemV.cell, plc] using this
  have d2 : w.cell? ⟨b, off + 2, none⟩ = some (.int .i64 R) := by have := hcc 0 _ rfl 2 (by omega); simpa [ItemV.cell, plc] using this
  have d3 : w.cell? ⟨b, off + 3, none⟩ = some (.int .i64 AT) := by have := hcc 0 _ rfl 3 (by omega); simpa [ItemV.cell, plc] using this
  have d4 : w.cell? ⟨b, off + 4, none⟩ = some (.string T) := by have := hcc 0 _ rfl 4 (by omega); simpa [ItemV.cell, plc] using this
  have d5 : w.cell? ⟨b, off + 5, none⟩ = some (.slice ha hl' hc') := by have := hcc 0 _ rfl 5 (by omega); simpa [ItemV.cell, plc] using this
  have d6 : w.cell? ⟨b, off + 6, none⟩ = some (.int .i64 er) := by have := hcc 0 _ rfl 6 (by omega); simpa [ItemV.cell, plc] using this
  simp only at hy
  subst hy
  have h' := h
  have Hb := Lib.hid hb
  clear hcc hc hs h hb
  have hl0 : ((ws.length + 1 : Nat) : Int) = (ws.length : Int) + 1 := by omega
  have hd : (((ws.length : Int) + 1) == 0) = false := by simp; omega
  have hd3 : (((ws.length + 1 : Nat) : Int) == 0) = false := by simp; omega
  have hd2 : ((nx : Int) != (nx : Int)) = false := by simp
  have hz' : (0 : Int) < (ws.length : Int) + 1 := by omega
  have hlt := h'.lt
  have hlb := lt_of_cell d0
  simp only at hlb
  have e0 : ∀ o, (w.alloc o).cell? ⟨wb, 0, none⟩ = _ := alloc_cell hL
  have e2 : ∀ o, (w.alloc o).cell? ⟨wb, 2, none⟩ = _ := alloc_cell c2
  have g0 : ∀ o, (w.alloc o).cell? ⟨b, off, none⟩ = _ := alloc_cell d0
  have g1 : ∀ o, (w.alloc o).cell? ⟨b, off + 1, none⟩ = _ := alloc_cell d1
  have g2 : ∀ o, (w.alloc o).cell? ⟨b, off + 2, none⟩ = _ := alloc_cell d2
  have g3 : ∀ o, (w.alloc o).cell? ⟨b, off + 3, none⟩ = _ := alloc_cell d3
  have g4 : ∀ o, (w.alloc o).cell? ⟨b, off + 4, none⟩ = _ := alloc_cell d4
  have g5 : ∀ o, (w.alloc o).cell? ⟨b, off + 5, none⟩ = _ := alloc_cell d5
  have g6 : ∀ o, (w.alloc o).cell? ⟨b, off + 6, none⟩ = _ := alloc_cell d6
  have m0 : ∀ o o2, ((w.alloc o).alloc o2).cell? ⟨wb, 0, none⟩ = _ := fun o o2 => alloc_cell (alloc_cell hL _) _
  have m2 : ∀ o o2, ((w.alloc o).alloc o2).cell? ⟨wb, 2, none⟩ = _ := fun o o2 => alloc_cell (alloc_cell c2 _) _
  have hfr : ∀ o o2 x, ((w.alloc o).alloc o2).frozen? ⟨wb, x, none⟩ = false := fun o o2 x => alloc_frozen (alloc_frozen (fr x) hlt o) (by simp; omega) o2
  go_enter Try.func19, Try.ntmps19
  go_wp2_with fail
  go_quiet (fail)
  go_wp2_with fail
  all_goals refine bodyPost_ret (v := .tuple #[.agg #[.int .i64 nx, .int .i64 B, .int .i64 R, .int .i64 AT, .string T, .slice ha hl' hc', .int .i64 er], .bool true]) (by simp [results, Try.results19, go_sem]) rfl ⟨rfl, ?_, ?_⟩
  · have hz0 : ws.length = 0 := by omega
    exact give_fin h' (.slice (some ⟨b, off, none⟩) ws.length 0) ⟨_, 0, rfl, ⟨by omega, (fun h => by cases h)⟩, by omega, fun h => by omega⟩ (fun b' e => Hb.out b' e) (.cells #[.int .i64 0, .int .i64 0, .int .i64 0, .int .i64 0, .string ⟨#[]⟩, .slice none 0 0, .int .i64 0] 34) nq _ (by (repeat' (with_reducible first | exact Keeps.refl _ _ | assumption | refine Keeps.drawN ?_ _ | refine Keeps.drew ?_ | refine Keeps.setCell ?_ ?_ _ | refine Keeps.alloc ?_ _)) <;> (first | exact Or.inr (Nat.le_refl _) | exact Or.inl rfl | exact Or.inl (Or.inl rfl) | exact Or.inl (Or.inr rfl) | (right; simp; done) | (right; simp; omega)))
  · (repeat' (with_reducible first | exact Keeps.refl _ _ | assumption | refine Keeps.drawN ?_ _ | refine Keeps.drew ?_ | refine Keeps.setCell ?_ ?_ _ | refine Keeps.alloc ?_ _)) <;> (first | exact Or.inr (Nat.le_refl _) | exact Or.inl rfl | exact Or.inl (Or.inl rfl) | exact Or.inl (Or.inr rfl) | (right; simp; done) | (right; simp; omega))
  · refine give_fin h' (.slice (some ⟨b, off + 7, none⟩) ws.length (cap - 1)) ⟨_, _, rfl, ⟨by omega, (fun h => by cases h)⟩, hlen, fun h0 => ⟨b, off + 7, rfl, fun i x hx j hj => ?_⟩⟩ (fun b' e => Hb.out b' e) (.cells #[.int .i64 0, .int .i64 0, .int .i64 0, .int .i64 0, .string ⟨#[]⟩, .slice none 0 0, .int .i64 0] 34) nq _ (by (repeat' (with_reducible first | exact Keeps.refl _ _ | assumption | refine Keeps.drawN ?_ _ | refine Keeps.drew ?_ | refine Keeps.setCell ?_ ?_ _ | refine Keeps.alloc ?_ _)) <;> (first | exact Or.inr (Nat.le_refl _) | exact Or.inl rfl | exact Or.inl (Or.inl rfl) | exact Or.inl (Or.inr rfl) | (right; simp; done) | (right; simp; omega)))
    have := Hcc.out (i + 1) x (by simpa using hx) j hj
    rw [show off + 7 + i * 7 + j = off + (i + 1) * 7 + j by omega]; exact this
  · (repeat' (with_reducible first | exact Keeps.refl _ _ | assumption | refine Keeps.drawN ?_ _ | refine Keeps.drew ?_ | refine Keeps.setCell ?_ ?_ _ | refine Keeps.alloc ?_ _)) <;> (first | exact Or.inr (Nat.le_refl _) | exact Or.inl rfl | exact Or.inl (Or.inl rfl) | exact Or.inl (Or.inr rfl) | (right; simp; done) | (right; simp; omega))
end Go.Proofs.Ytibfioekmpnkgaa
