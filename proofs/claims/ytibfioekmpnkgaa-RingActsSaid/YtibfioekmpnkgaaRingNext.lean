/-
  The walk of ring.Next.
-/
import Derived.Test.YtibfioekmpnkgaaRingA
namespace Go.Proofs.Ytibfioekmpnkgaa
open Go.RowKit
set_option linter.unusedVariables false
set_option linter.unusedSimpArgs false

/-- Next, the place of the next ticket used. -/
theorem next_yes (rb pb n : Nat) (next : Int) (g : Nat → Nat → Value) (w : World) (k : Nat) (N c1 c2 c3 : Int) (c4 : ByteArray) (ao : Option Addr) (al ac : Nat) (c6 : Int)
    (hR : RingAt w rb pb n next g) (hk : (next % n).toNat = k) (hx : next < 1000000)
    (hg0 : g k 0 = .int .i64 N) (hg1 : g k 1 = .int .i64 c1) (hg2 : g k 2 = .int .i64 c2) (hg3 : g k 3 = .int .i64 c3) (hg4 : g k 4 = .string c4) (hg5 : g k 5 = .slice ao al ac) (hg6 : g k 6 = .int .i64 c6) (hg7 : g k 7 = .bool true) :
    Calls Try.prog 16 #[.pointer (some ⟨rb, 0, none⟩)] w
      fun e w' => e = .returned (.tuple #[.agg #[.int .i64 N, .int .i64 c1, .int .i64 c2, .int .i64 c3, .string c4, .slice ao al ac, .int .i64 c6], .bool true]) ∧
        RingAt w' rb pb n (next + 1) (fun i j => if i = k then emptyPlc j else g i j) ∧ Keeps (fun b => b = pb ∨ b = rb) w w' := by
  have h0 := hR.hd0
  have h1 := hR.hd1
  have x0 := hR.x0
  have x1 := hR.x1
  have n1 := hR.n1
  have n64 := hR.n64
  have hm1 := Int.emod_nonneg next (b := (n : Int)) (by omega)
  have hm2 := Int.emod_lt_of_pos next (b := (n : Int)) (by omega)
  have hkn : k < n := by omega
  have hc0 := hR.cells k hkn 0 (by omega)
  have hc1 := hR.cells k hkn 1 (by omega)
  have hc2 := hR.cells k hkn 2 (by omega)
  have hc3 := hR.cells k hkn 3 (by omega)
  have hc4 := hR.cells k hkn 4 (by omega)
  have hc5 := hR.cells k hkn 5 (by omega)
  have hc6 := hR.cells k hkn 6 (by omega)
  have hc7 := hR.cells k hkn 7 (by omega)
  rw [hg0] at hc0
  rw [hg1] at hc1
  rw [hg2] at hc2
  rw [hg3] at hc3
  rw [hg4] at hc4
  rw [hg5] at hc5
  rw [hg6] at hc6
  rw [hg7] at hc7
  clear hg0 hg1 hg2 hg3 hg4 hg5 hg6 hg7
  have Hk := Lib.hid hk
  clear hk
  have hlr := lt_of_cell h0
  have hlp := lt_of_cell hc0
  simp only at hlr hlp
  have hb0 : ∀ o, (w.alloc o).cell? ⟨rb, 0, none⟩ = some (.slice (some ⟨pb, 0, none⟩) n n) := alloc_cell h0
  have hb1 : ∀ o, (w.alloc o).cell? ⟨rb, 1, none⟩ = some (.int .i64 next) := alloc_cell h1
  have hp0 : ∀ o, (w.alloc o).cell? ⟨pb, k * 8, none⟩ = some (.int .i64 N) := alloc_cell hc0
  have hp1 : ∀ o, (w.alloc o).cell? ⟨pb, k * 8 + 1, none⟩ = some (.int .i64 c1) := alloc_cell hc1
  have hp2 : ∀ o, (w.alloc o).cell? ⟨pb, k * 8 + 2, none⟩ = some (.int .i64 c2) := alloc_cell hc2
  have hp3 : ∀ o, (w.alloc o).cell? ⟨pb, k * 8 + 3, none⟩ = some (.int .i64 c3) := alloc_cell hc3
  have hp4 : ∀ o, (w.alloc o).cell? ⟨pb, k * 8 + 4, none⟩ = some (.string c4) := alloc_cell hc4
  have hp5 : ∀ o, (w.alloc o).cell? ⟨pb, k * 8 + 5, none⟩ = some (.slice ao al ac) := alloc_cell hc5
  have hp6 : ∀ o, (w.alloc o).cell? ⟨pb, k * 8 + 6, none⟩ = some (.int .i64 c6) := alloc_cell hc6
  have hp7 : ∀ o, (w.alloc o).cell? ⟨pb, k * 8 + 7, none⟩ = some (.bool true) := alloc_cell hc7
  have hfp : ∀ o x, (w.alloc o).frozen? ⟨pb, x, none⟩ = false := fun o x => alloc_frozen (hR.fp x) hlp o
  have hfr : ∀ o x, (w.alloc o).frozen? ⟨rb, x, none⟩ = false := fun o x => alloc_frozen (hR.fr x) hlr o
  have hne := hR.ne
  have hx1 := hx
  have hq0 : ∀ o o2, ((w.alloc o).alloc o2).cell? ⟨rb, 1, none⟩ = some (.int .i64 next) := fun o o2 => alloc_cell (alloc_cell h1 _) _
  have hs0 : ∀ o o2, ((w.alloc o).alloc o2).cell? ⟨pb, k * 8, none⟩ = w.cell? ⟨pb, k * 8 + 0, none⟩ := fun o o2 => (alloc_cell (alloc_cell hc0 _) _).trans hc0.symm
  have hs1 : ∀ o o2, ((w.alloc o).alloc o2).cell? ⟨pb, k * 8 + 1, none⟩ = w.cell? ⟨pb, k * 8 + 1, none⟩ := fun o o2 => (alloc_cell (alloc_cell hc1 _) _).trans hc1.symm
  have hs2 : ∀ o o2, ((w.alloc o).alloc o2).cell? ⟨pb, k * 8 + 2, none⟩ = w.cell? ⟨pb, k * 8 + 2, none⟩ := fun o o2 => (alloc_cell (alloc_cell hc2 _) _).trans hc2.symm
  have hs3 : ∀ o o2, ((w.alloc o).alloc o2).cell? ⟨pb, k * 8 + 3, none⟩ = w.cell? ⟨pb, k * 8 + 3, none⟩ := fun o o2 => (alloc_cell (alloc_cell hc3 _) _).trans hc3.symm
  have hs4 : ∀ o o2, ((w.alloc o).alloc o2).cell? ⟨pb, k * 8 + 4, none⟩ = w.cell? ⟨pb, k * 8 + 4, none⟩ := fun o o2 => (alloc_cell (alloc_cell hc4 _) _).trans hc4.symm
  have hs5 : ∀ o o2, ((w.alloc o).alloc o2).cell? ⟨pb, k * 8 + 5, none⟩ = w.cell? ⟨pb, k * 8 + 5, none⟩ := fun o o2 => (alloc_cell (alloc_cell hc5 _) _).trans hc5.symm
  have hs6 : ∀ o o2, ((w.alloc o).alloc o2).cell? ⟨pb, k * 8 + 6, none⟩ = w.cell? ⟨pb, k * 8 + 6, none⟩ := fun o o2 => (alloc_cell (alloc_cell hc6 _) _).trans hc6.symm
  have hs7 : ∀ o o2, ((w.alloc o).alloc o2).cell? ⟨pb, k * 8 + 7, none⟩ = w.cell? ⟨pb, k * 8 + 7, none⟩ := fun o o2 => (alloc_cell (alloc_cell hc7 _) _).trans hc7.symm
  go_enter Try.func16, Try.ntmps16
  go_wp2_with fail
  refine (at_any rb pb n next _ ?_ n64 n1 (by omega) (by omega)).mono ?_
  exact hb0 _
  rintro e w' ⟨rfl, m2, rfl⟩
  rw [Hk.out]
  go_wp2
  refine bodyPost_ret (v := .tuple #[.agg #[.int .i64 N, .int .i64 c1, .int .i64 c2, .int .i64 c3, .string c4, .slice ao al ac, .int .i64 c6], .bool true]) (by simp [results, Try.results16, go_sem, hlr, hlp]) rfl ⟨rfl, ?_, ?_⟩
  · exact RingAt.keeps (S := fun b => b = w.heap.size) ((((hR.keeps (S := fun _ => False) (((Keeps.refl _ _).alloc _).drawN _) id id).store8 hkn _ _ _ _ _ _ _ _).setNext (next + 1) (by omega) (by omega))) (Keeps.alloc (Keeps.set (Keeps.set (Keeps.set (Keeps.set (Keeps.set (Keeps.set (Keeps.set (Keeps.refl (fun b => b = w.heap.size) _) rfl _) rfl _) rfl _) rfl _) rfl _) rfl _) rfl _) _) (Nat.ne_of_lt hlr) (Nat.ne_of_lt hlp)
  · exact Keeps.alloc (Keeps.setNew (Keeps.setNew (Keeps.setNew (Keeps.setNew (Keeps.setNew (Keeps.setNew (Keeps.setNew (Keeps.set (keeps_store8 (S := fun b => b = pb ∨ b = rb) (((Keeps.refl _ _).alloc _).drawN _) (Or.inl rfl) _ _ _ _ _ _ _ _ _ _ _ _ _ _ _ _) (Or.inr rfl) _) (Nat.le_refl _) _) (Nat.le_refl _) _) (Nat.le_refl _) _) (Nat.le_refl _) _) (Nat.le_refl _) _) (Nat.le_refl _) _) (Nat.le_refl _) _) _

/-- Next, the place of the next ticket free: nothing. -/
theorem next_no (rb pb n : Nat) (next : Int) (g : Nat → Nat → Value) (w : World) (k : Nat)
    (hR : RingAt w rb pb n next g) (hk : (next % n).toNat = k) (hg7 : g k 7 = .bool false) :
    Calls Try.prog 16 #[.pointer (some ⟨rb, 0, none⟩)] w
      fun e w' => e = .returned (.tuple #[.agg #[.int .i64 0, .int .i64 0, .int .i64 0, .int .i64 0, .string ⟨#[]⟩, .slice none 0 0, .int .i64 0], .bool false]) ∧
        RingAt w' rb pb n next g ∧ Keeps (fun _ => False) w w' := by
  have h0 := hR.hd0
  have h1 := hR.hd1
  have x0 := hR.x0
  have x1 := hR.x1
  have n1 := hR.n1
  have n64 := hR.n64
  have hm1 := Int.emod_nonneg next (b := (n : Int)) (by omega)
  have hm2 := Int.emod_lt_of_pos next (b := (n : Int)) (by omega)
  have hkn : k < n := by omega
  have hc7 := hR.cells k hkn 7 (by omega)
  rw [hg7] at hc7
  clear hg7
  have Hk := Lib.hid hk
  clear hk
  have hlr := hR.lr
  have hlp := hR.lp
  have hb0 : ∀ o, (w.alloc o).cell? ⟨rb, 0, none⟩ = some (.slice (some ⟨pb, 0, none⟩) n n) := alloc_cell h0
  have hb1 : ∀ o, (w.alloc o).cell? ⟨rb, 1, none⟩ = some (.int .i64 next) := alloc_cell h1
  have hp7 : ∀ o, (w.alloc o).cell? ⟨pb, k * 8 + 7, none⟩ = some (.bool false) := alloc_cell hc7
  go_enter Try.func16, Try.ntmps16
  go_wp2_with fail
  refine (at_any rb pb n next _ ?_ n64 n1 (by omega) (by omega)).mono ?_
  exact hb0 _
  rintro e w' ⟨rfl, m2, rfl⟩
  rw [Hk.out]
  go_wp2
  refine bodyPost_ret (v := .tuple #[.agg #[.int .i64 0, .int .i64 0, .int .i64 0, .int .i64 0, .string ⟨#[]⟩, .slice none 0 0, .int .i64 0], .bool false]) (by simp [results, Try.results16, go_sem, hlr, hlp]) rfl ⟨rfl, ?_, ?_⟩
  · refine hR.keeps (S := fun _ => False) (w' := ?_) ?_ id id
    (repeat' (with_reducible first | exact Keeps.refl _ _ | assumption | refine Keeps.drawN ?_ _ | refine Keeps.drew ?_ | refine Keeps.setCell ?_ ?_ _ | refine Keeps.alloc ?_ _)) <;> (first | exact Or.inr (Nat.le_refl _) | exact Or.inl rfl | exact Or.inl (Or.inl rfl) | exact Or.inl (Or.inr rfl) | (right; simp; done) | (right; simp; omega))
  · (repeat' (with_reducible first | exact Keeps.refl _ _ | assumption | refine Keeps.drawN ?_ _ | refine Keeps.drew ?_ | refine Keeps.setCell ?_ ?_ _ | refine Keeps.alloc ?_ _)) <;> (first | exact Or.inr (Nat.le_refl _) | exact Or.inl rfl | exact Or.inl (Or.inl rfl) | exact Or.inl (Or.inr rfl) | (right; simp; done) | (right; simp; omega))
end Go.Proofs.Ytibfioekmpnkgaa
