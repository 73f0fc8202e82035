/-
  The walk of ring.Put.
-/
import Derived.Test.YtibfioekmpnkgaaRingA
namespace Go.Proofs.Ytibfioekmpnkgaa
open Go.RowKit
set_option linter.unusedVariables false
set_option linter.unusedSimpArgs false

set_option maxHeartbeats 1000000 in
theorem put_ok (rb pb n : Nat) (next : Int) (g : Nat → Nat → Value) (w : World) (k : Nat) (N c1 c2 c3 : Int) (c4 : ByteArray) (ao : Option Addr) (al ac : Nat) (c6 : Int)
    (hR : RingAt w rb pb n next g) (hk : (N % n).toNat = k) (hu : g k 7 = .bool false) (hlo : next ≤ N) (hhi : N - next < n) :
    Calls Try.prog 14 #[.pointer (some ⟨rb, 0, none⟩), .agg #[.int .i64 N, .int .i64 c1, .int .i64 c2, .int .i64 c3, .string c4, .slice ao al ac, .int .i64 c6]] w
      fun e w' => e = .returned (.int .i64 0) ∧
        RingAt w' rb pb n next (fun i j => if i = k then plc (.int .i64 N) (.int .i64 c1) (.int .i64 c2) (.int .i64 c3) (.string c4) (.slice ao al ac) (.int .i64 c6) (.bool true) j else g i j) ∧ Keeps (fun b => b = pb) w w' := by
  have h0 := hR.hd0
  have h1 := hR.hd1
  have x0 := hR.x0
  have x1 := hR.x1
  have n1 := hR.n1
  have n64 := hR.n64
  have hm1 := Int.emod_nonneg N (b := (n : Int)) (by omega)
  have hm2 := Int.emod_lt_of_pos N (b := (n : Int)) (by omega)
  have hkn : k < n := by omega
  have hc := hR.cells k hkn 7 (by omega)
  rw [hu] at hc
  clear hu
  have Hk := Lib.hid hk
  clear hk
  have hlr := lt_of_cell h0
  have hlp := lt_of_cell hc
  simp only at hlr hlp
  have hb0 : ∀ o, (w.alloc o).cell? ⟨rb, 0, none⟩ = some (.slice (some ⟨pb, 0, none⟩) n n) := alloc_cell h0
  have hb1 : ∀ o, (w.alloc o).cell? ⟨rb, 1, none⟩ = some (.int .i64 next) := alloc_cell h1
  have hb7 : ∀ o, (w.alloc o).cell? ⟨pb, k * 8 + 7, none⟩ = some (.bool false) := alloc_cell hc
  have hp0 : ∀ o, (w.alloc o).cell? ⟨pb, k * 8, none⟩ = some (g k 0) := alloc_cell (hR.cells k hkn 0 (by omega))
  have hp1 : ∀ o, (w.alloc o).cell? ⟨pb, k * 8 + 1, none⟩ = some (g k 1) := alloc_cell (hR.cells k hkn 1 (by omega))
  have hp2 : ∀ o, (w.alloc o).cell? ⟨pb, k * 8 + 2, none⟩ = some (g k 2) := alloc_cell (hR.cells k hkn 2 (by omega))
  have hp3 : ∀ o, (w.alloc o).cell? ⟨pb, k * 8 + 3, none⟩ = some (g k 3) := alloc_cell (hR.cells k hkn 3 (by omega))
  have hp4 : ∀ o, (w.alloc o).cell? ⟨pb, k * 8 + 4, none⟩ = some (g k 4) := alloc_cell (hR.cells k hkn 4 (by omega))
  have hp5 : ∀ o, (w.alloc o).cell? ⟨pb, k * 8 + 5, none⟩ = some (g k 5) := alloc_cell (hR.cells k hkn 5 (by omega))
  have hp6 : ∀ o, (w.alloc o).cell? ⟨pb, k * 8 + 6, none⟩ = some (g k 6) := alloc_cell (hR.cells k hkn 6 (by omega))
  have hfp : ∀ o x, (w.alloc o).frozen? ⟨pb, x, none⟩ = false := fun o x => alloc_frozen (hR.fp x) hlp o
  go_enter Try.func14, Try.ntmps14
  go_wp2
  go_quiet (fail)
  go_wp2_with fail
  refine (within_yes rb (some ⟨pb, 0, none⟩) n n next N _ ?_ ?_ n64 x0 x1 hlo (by omega)).mono ?_
  exact hb0 _
  exact hb1 _
  rintro e w' ⟨rfl, m, rfl⟩
  go_wp2_with fail
  refine (at_any rb pb n N _ ?_ n64 n1 (by omega) (by omega)).mono ?_
  exact hb0 _
  rintro e w' ⟨rfl, m2, rfl⟩
  rw [Hk.out]
  go_wp2_with fail
  go_region_with (go_at_call 43; refine (at_any rb pb n N _ ?_ n64 n1 (by omega) (by omega)).mono ?_; exact hb0 _; rintro e w' ⟨rfl, m2, rfl⟩; rw [Hk.out])
  all_goals
    go_wp2
    go_ret
    refine ⟨rfl, ?_, ?_⟩
    · exact ((hR.keeps (S := fun _ => False) (((Keeps.refl _ _).alloc _).drawN _) id id).store8 hkn _ _ _ _ _ _ _ _)
    · exact keeps_store8 (S := fun b => b = pb) (((Keeps.refl _ _).alloc _).drawN _) rfl _ _ _ _ _ _ _ _ _ _ _ _ _ _ _ _
end Go.Proofs.Ytibfioekmpnkgaa
