/-
  The walks of ring.Room, Ticket, New, and Put's refusals.
-/
import Derived.Test.YtibfioekmpnkgaaRingA
namespace Go.Proofs.Ytibfioekmpnkgaa
open Go.RowKit
set_option linter.unusedVariables false
set_option linter.unusedSimpArgs false

theorem ticket_any (rb pb n : Nat) (next : Int) (g : Nat → Nat → Value) (w : World) (hR : RingAt w rb pb n next g) :
    Calls Try.prog 17 #[.pointer (some ⟨rb, 0, none⟩)] w fun e w' => e = .returned (.int .i64 next) ∧ w = w' := by
  have h1 := hR.hd1
  go_enter Try.func17, Try.ntmps17
  go_wp2
  go_ret
  exact ⟨rfl, rfl⟩

theorem room_out (rb pb n : Nat) (next t : Int) (g : Nat → Nat → Value) (w : World) (hR : RingAt w rb pb n next g) (h : t < next ∨ (n : Int) ≤ t - next) (ht : t ≤ 9223372036854775807) :
    Calls Try.prog 21 #[.pointer (some ⟨rb, 0, none⟩), .int .i64 t] w fun e w' => e = .returned (.bool false) ∧ ∃ m, w' = w.drewN m := by
  have h0 := hR.hd0
  have h1 := hR.hd1
  have x0 := hR.x0
  have x1 := hR.x1
  have n64 := hR.n64
  go_enter Try.func21, Try.ntmps21
  go_wp2_with fail
  rcases h with h | h
  · refine (within_no rb next t _ h1 h).mono ?_
    rintro e w' ⟨rfl, m, rfl⟩
    go_wp2_with fail
    go_ret
    exact ⟨rfl, _, rfl⟩
  · have hd : decide (t - next < (n : Int)) = false := by simp; omega
    refine (within_yes rb _ n n next t _ h0 h1 n64 x0 x1 (by omega) ht).mono ?_
    rintro e w' ⟨rfl, m, rfl⟩
    go_wp2_with fail
    go_ret
    exact ⟨rfl, _, rfl⟩

theorem room_in (rb pb n : Nat) (next t : Int) (g : Nat → Nat → Value) (w : World) (k : Nat) (u : Bool) (hR : RingAt w rb pb n next g) (hlo : next ≤ t) (hhi : t - next < n)
    (hk : (t % n).toNat = k) (hu : g k 7 = .bool u) :
    Calls Try.prog 21 #[.pointer (some ⟨rb, 0, none⟩), .int .i64 t] w fun e w' => e = .returned (.bool (!u)) ∧ ∃ m, w' = w.drewN m := by
  have h0 := hR.hd0
  have h1 := hR.hd1
  have x0 := hR.x0
  have x1 := hR.x1
  have n1 := hR.n1
  have n64 := hR.n64
  have hm1 := Int.emod_nonneg t (b := (n : Int)) (by omega)
  have hm2 := Int.emod_lt_of_pos t (b := (n : Int)) (by omega)
  have hc := hR.cells k (by omega) 7 (by omega)
  rw [hu] at hc
  clear hu
  have Hk := Lib.hid hk
  clear hk
  have hd : decide (t - next < (n : Int)) = true := by simp; omega
  go_enter Try.func21, Try.ntmps21
  go_wp2_with fail
  refine (within_yes rb _ n n next t _ h0 h1 n64 x0 x1 (by omega) (by omega)).mono ?_
  rintro e w' ⟨rfl, m, rfl⟩
  go_wp2_with fail
  refine (at_any rb pb n t _ ?_ n64 n1 (by omega) (by omega)).mono ?_
  exact h0
  rintro e w' ⟨rfl, m2, rfl⟩
  rw [Hk.out]
  go_wp2
  go_ret
  exact ⟨rfl, _, rfl⟩

/-- Put of a ticket that was given already. -/
theorem put_old (rb pb n : Nat) (next : Int) (g : Nat → Nat → Value) (w : World) (N : Int) (c1 c2 c3 c4 c5 c6 : Value)
    (h1' : c1.cells = #[c1]) (hR : RingAt w rb pb n next g) (h : N < next) :
    Calls Try.prog 14 #[.pointer (some ⟨rb, 0, none⟩), .agg #[.int .i64 N, c1, c2, c3, c4, c5, c6]] w
      fun e w' => e = .returned (.int .i64 2) ∧ RingAt w' rb pb n next g ∧ Keeps (fun _ => False) w w' := by
  have h0 := hR.hd0
  have h1 := hR.hd1
  have hlr := hR.lr
  have hlp := hR.lp
  have hb1 : ∀ o, (w.alloc o).cell? ⟨rb, 1, none⟩ = some (.int .i64 next) := alloc_cell h1
  go_enter Try.func14, Try.ntmps14
  go_wp2
  go_quiet (fail)
  go_wp2
  go_ret
  refine ⟨rfl, ?_, ?_⟩
  · refine hR.keeps (S := fun _ => False) (w' := ?_) ?_ id id
    (repeat' (with_reducible first | exact Keeps.refl _ _ | assumption | refine Keeps.drawN ?_ _ | refine Keeps.drew ?_ | refine Keeps.setCell ?_ ?_ _ | refine Keeps.alloc ?_ _)) <;> (first | exact Or.inr (Nat.le_refl _) | exact Or.inl rfl | exact Or.inl (Or.inl rfl) | exact Or.inl (Or.inr rfl) | (right; simp; done) | (right; simp; omega))
  · (repeat' (with_reducible first | exact Keeps.refl _ _ | assumption | refine Keeps.drawN ?_ _ | refine Keeps.drew ?_ | refine Keeps.setCell ?_ ?_ _ | refine Keeps.alloc ?_ _)) <;> (first | exact Or.inr (Nat.le_refl _) | exact Or.inl rfl | exact Or.inl (Or.inl rfl) | exact Or.inl (Or.inr rfl) | (right; simp; done) | (right; simp; omega))

/-- Put of a ticket that is too far ahead. -/
theorem put_far (rb pb n : Nat) (next : Int) (g : Nat → Nat → Value) (w : World) (N : Int) (c1 c2 c3 c4 c5 c6 : Value)
    (hR : RingAt w rb pb n next g) (h : (n : Int) ≤ N - next) (hN : N ≤ 9223372036854775807) :
    Calls Try.prog 14 #[.pointer (some ⟨rb, 0, none⟩), .agg #[.int .i64 N, c1, c2, c3, c4, c5, c6]] w
      fun e w' => e = .returned (.int .i64 16) ∧ RingAt w' rb pb n next g ∧ Keeps (fun _ => False) w w' := by
  have h0 := hR.hd0
  have h1 := hR.hd1
  have x0 := hR.x0
  have x1 := hR.x1
  have n1 := hR.n1
  have n64 := hR.n64
  have hlr := hR.lr
  have hlp := hR.lp
  have hb0 : ∀ o, (w.alloc o).cell? ⟨rb, 0, none⟩ = some (.slice (some ⟨pb, 0, none⟩) n n) := alloc_cell h0
  have hb1 : ∀ o, (w.alloc o).cell? ⟨rb, 1, none⟩ = some (.int .i64 next) := alloc_cell h1
  have hd : decide (N - next < (n : Int)) = false := by simp; omega
  go_enter Try.func14, Try.ntmps14
  go_wp2
  go_quiet (fail)
  go_wp2_with fail
  refine (within_yes rb (some ⟨pb, 0, none⟩) n n next N _ ?_ ?_ n64 x0 x1 (by omega) (by omega)).mono ?_
  exact hb0 _
  exact hb1 _
  rintro e w' ⟨rfl, m, rfl⟩
  go_wp2_with fail
  go_ret
  refine ⟨rfl, ?_, ?_⟩
  · refine hR.keeps (S := fun _ => False) (w' := ?_) ?_ id id
    (repeat' (with_reducible first | exact Keeps.refl _ _ | assumption | refine Keeps.drawN ?_ _ | refine Keeps.drew ?_ | refine Keeps.setCell ?_ ?_ _ | refine Keeps.alloc ?_ _)) <;> (first | exact Or.inr (Nat.le_refl _) | exact Or.inl rfl | exact Or.inl (Or.inl rfl) | exact Or.inl (Or.inr rfl) | (right; simp; done) | (right; simp; omega))
  · (repeat' (with_reducible first | exact Keeps.refl _ _ | assumption | refine Keeps.drawN ?_ _ | refine Keeps.drew ?_ | refine Keeps.setCell ?_ ?_ _ | refine Keeps.alloc ?_ _)) <;> (first | exact Or.inr (Nat.le_refl _) | exact Or.inl rfl | exact Or.inl (Or.inl rfl) | exact Or.inl (Or.inr rfl) | (right; simp; done) | (right; simp; omega))

/-- Put of a ticket that is there. -/
theorem put_twice (rb pb n : Nat) (next : Int) (g : Nat → Nat → Value) (w : World) (k : Nat) (N : Int) (c1 c2 c3 c4 c5 c6 : Value)
    (hR : RingAt w rb pb n next g) (hlo : next ≤ N) (hhi : N - next < n) (hk : (N % n).toNat = k) (hu : g k 7 = .bool true) :
    Calls Try.prog 14 #[.pointer (some ⟨rb, 0, none⟩), .agg #[.int .i64 N, c1, c2, c3, c4, c5, c6]] w
      fun e w' => e = .returned (.int .i64 2) ∧ RingAt w' rb pb n next g ∧ Keeps (fun _ => False) w w' := by
  have h0 := hR.hd0
  have h1 := hR.hd1
  have x0 := hR.x0
  have x1 := hR.x1
  have n1 := hR.n1
  have n64 := hR.n64
  have hlr := hR.lr
  have hlp := hR.lp
  have hm1 := Int.emod_nonneg N (b := (n : Int)) (by omega)
  have hm2 := Int.emod_lt_of_pos N (b := (n : Int)) (by omega)
  have hc := hR.cells k (by omega) 7 (by omega)
  rw [hu] at hc
  clear hu
  have Hk := Lib.hid hk
  clear hk
  have hb0 : ∀ o, (w.alloc o).cell? ⟨rb, 0, none⟩ = some (.slice (some ⟨pb, 0, none⟩) n n) := alloc_cell h0
  have hb1 : ∀ o, (w.alloc o).cell? ⟨rb, 1, none⟩ = some (.int .i64 next) := alloc_cell h1
  have hb7 : ∀ o, (w.alloc o).cell? ⟨pb, k * 8 + 7, none⟩ = some (.bool true) := alloc_cell hc
  have hd : decide (N - next < (n : Int)) = true := by simp; omega
  go_enter Try.func14, Try.ntmps14
  go_wp2
  go_quiet (fail)
  go_wp2_with fail
  refine (within_yes rb (some ⟨pb, 0, none⟩) n n next N _ ?_ ?_ n64 x0 x1 (by omega) (by omega)).mono ?_
  exact hb0 _
  exact hb1 _
  rintro e w' ⟨rfl, m, rfl⟩
  go_wp2_with fail
  refine (at_any rb pb n N _ ?_ n64 n1 (by omega) (by omega)).mono ?_
  exact hb0 _
  rintro e w' ⟨rfl, m2, rfl⟩
  rw [Hk.out]
  go_wp2
  go_ret
  refine ⟨rfl, ?_, ?_⟩
  · refine hR.keeps (S := fun _ => False) (w' := ?_) ?_ id id
    (repeat' (with_reducible first | exact Keeps.refl _ _ | assumption | refine Keeps.drawN ?_ _ | refine Keeps.drew ?_ | refine Keeps.setCell ?_ ?_ _ | refine Keeps.alloc ?_ _)) <;> (first | exact Or.inr (Nat.le_refl _) | exact Or.inl rfl | exact Or.inl (Or.inl rfl) | exact Or.inl (Or.inr rfl) | (right; simp; done) | (right; simp; omega))
  · (repeat' (with_reducible first | exact Keeps.refl _ _ | assumption | refine Keeps.drawN ?_ _ | refine Keeps.drew ?_ | refine Keeps.setCell ?_ ?_ _ | refine Keeps.alloc ?_ _)) <;> (first | exact Or.inr (Nat.le_refl _) | exact Or.inl rfl | exact Or.inl (Or.inl rfl) | exact Or.inl (Or.inr rfl) | (right; simp; done) | (right; simp; omega))
end Go.Proofs.Ytibfioekmpnkgaa
