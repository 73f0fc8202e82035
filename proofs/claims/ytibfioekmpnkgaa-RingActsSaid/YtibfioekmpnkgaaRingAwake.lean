/-
  The walk of the ring law's own example.
-/
import Derived.Test.YtibfioekmpnkgaaRingPut
import Derived.Test.YtibfioekmpnkgaaRingNext
import Derived.Test.YtibfioekmpnkgaaRingB
import Derived.Test.YtibfioekmpnkgaaRingHeld
namespace Go.Proofs.Ytibfioekmpnkgaa
open Go.RowKit
set_option linter.unusedVariables false
set_option linter.unusedSimpArgs false
set_option maxRecDepth 100000

theorem RingAt.alloc {w : World} {rb pb n : Nat} {next : Int} {g : Nat → Nat → Value} (h : RingAt w rb pb n next g) (o : Obj) : RingAt (w.alloc o) rb pb n next g :=
  h.keeps (S := fun _ => False) ((Keeps.refl _ _).alloc o) id id

set_option maxHeartbeats 1000000 in
theorem awake_any (w : World) :
    Calls Try.prog 12 #[] w fun e w' => e = .returned (.bool true) ∧ Keeps (fun _ => False) w w' := by
  go_enter Try.func12, Try.ntmps12
  go_wp2_with fail
  refine (new_ok 3 _ (by omega) (by omega)).mono ?_
  rintro e w1 ⟨rb, pb, rfl, hR, hrb, hpb, hk⟩
  go_wp2_with fail
  refine (put_ok rb pb 3 0 _ _ 1 1 0 0 0 ⟨#[]⟩ none 0 0 0 hR (by decide) rfl (by decide) (by decide)).mono ?_
  rintro e w2 ⟨rfl, hR2, hk2⟩
  go_wp2_with fail
  refine (next_no rb pb 3 0 _ _ 0 hR2 (by decide) rfl).mono ?_
  rintro e w3 ⟨rfl, hR3, hk3⟩
  go_wp2_with fail
  refine (put_ok rb pb 3 0 _ _ 0 0 0 0 0 ⟨#[]⟩ none 0 0 0 (hR3.alloc _) (by decide) rfl (by decide) (by decide)).mono ?_
  rintro e w4 ⟨rfl, hR4, hk4⟩
  go_wp2_with fail
  refine (next_yes rb pb 3 0 _ _ 0 0 0 0 0 ⟨#[]⟩ none 0 0 0 hR4 (by decide) (by decide) rfl rfl rfl rfl rfl rfl rfl rfl).mono ?_
  rintro e w5 ⟨rfl, hR5, hk5⟩
  go_wp2_with fail
  refine (next_yes rb pb 3 (0 + 1) _ _ 1 1 0 0 0 ⟨#[]⟩ none 0 0 0 (hR5.alloc _) (by decide) (by decide) rfl rfl rfl rfl rfl rfl rfl rfl).mono ?_
  rintro e w6 ⟨rfl, hR6, hk6⟩
  have hx : ∀ o, (w6.alloc o).cell? ⟨w5.heap.size, 0, none⟩ = some (.int .i64 0) := by
    intro o
    refine alloc_cell (hk6.cell (cells_new w5 [_, _, _, _, _, _, _] _ 0 _ rfl) ?_) o
    have := hR5.lr
    have := hR5.lp
    simp [Addr.add]
    omega
  go_wp2_with fail
  refine (put_far rb pb 3 (0 + 1 + 1) _ _ 5 _ _ _ _ _ _ (hR6.alloc _) (by decide) (by decide)).mono ?_
  rintro e w7 ⟨rfl, hR7, hk7⟩
  go_wp2_with fail
  go_ret
  refine ⟨rfl, ?_⟩
  have a1 : Keeps (fun _ => False) w w5 := (((hk.trans2 hk2 (fun i hi h => by subst h; omega)).trans hk3).alloc _).trans2 hk4 (fun i hi h => by subst h; omega) |>.trans2 hk5 (fun i hi h => by rcases h with h | h <;> subst h <;> omega)
  exact (((a1.alloc _).trans2 hk6 (fun i hi h => by rcases h with h | h <;> subst h <;> omega)).alloc _).trans hk7
end Go.Proofs.Ytibfioekmpnkgaa
