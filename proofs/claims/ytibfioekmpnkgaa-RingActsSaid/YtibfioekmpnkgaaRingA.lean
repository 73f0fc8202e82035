/-
  The walks of ring.within, at, Ready.
-/
import Derived.Test.YtibfioekmpnkgaaRingAt
import Derived.Test.YtibfioekmpnkgaaRows
import Derived.Deep.QuietTactic
import Derived.BigQuiet
import Derived.StillTailTactics
import Derived.Deep.RegionWith
import Derived.Deep.RegionHeld3
namespace Go.Proofs.Ytibfioekmpnkgaa
open Go.RowKit
set_option linter.unusedVariables false
set_option linter.unusedSimpArgs false

theorem within_yes (rb : Nat) (pa : Option Addr) (n cap : Nat) (next t : Int) (w : World)
    (h0 : w.cell? ⟨rb, 0, none⟩ = some (.slice pa n cap)) (h1 : w.cell? ⟨rb, 1, none⟩ = some (.int .i64 next))
    (hn : n ≤ 64) (hx : 0 ≤ next) (hx2 : next ≤ 1000000) (h : next ≤ t) (ht2 : t ≤ 9223372036854775807) :
    Calls Try.prog 42 #[.pointer (some ⟨rb, 0, none⟩), .int .i64 t] w fun e w' => e = .returned (.bool (decide (t - next < n))) ∧ ∃ k, w' = w.drewN k := by
  go_enter Try.func42, Try.ntmps42
  go_wp2
  go_quiet (fail)
  go_wp2
  go_ret
  exact ⟨rfl, _, rfl⟩

theorem within_no (rb : Nat) (next t : Int) (w : World)
    (h1 : w.cell? ⟨rb, 1, none⟩ = some (.int .i64 next)) (h : t < next) :
    Calls Try.prog 42 #[.pointer (some ⟨rb, 0, none⟩), .int .i64 t] w fun e w' => e = .returned (.bool false) ∧ ∃ k, w' = w.drewN k := by
  have hd : decide (next ≤ t) = false := by simpa using h
  go_enter Try.func42, Try.ntmps42
  go_wp2
  go_quiet (fail)
  go_wp2
  go_ret
  exact ⟨rfl, _, rfl⟩

theorem at_any (rb pb : Nat) (n : Nat) (t : Int) (w : World)
    (h0 : w.cell? ⟨rb, 0, none⟩ = some (.slice (some ⟨pb, 0, none⟩) n n))
    (hn : n ≤ 64) (hn1 : 1 ≤ n) (ht1 : 0 ≤ t) (ht2 : t ≤ 9223372036854775807) :
    Calls Try.prog 43 #[.pointer (some ⟨rb, 0, none⟩), .int .i64 t] w fun e w' => e = .returned (.pointer (some ⟨pb, (t % n).toNat * 8, none⟩)) ∧ ∃ k, w' = w.drewN k := by
  have hm1 := Int.emod_nonneg t (b := (n : Int)) (by omega)
  have hm2 := Int.emod_lt_of_pos t (b := (n : Int)) (by omega)
  go_enter Try.func43, Try.ntmps43
  go_wp2
  go_quiet (fail)
  go_wp2
  go_ret
  exact ⟨rfl, _, rfl⟩

theorem ready_any (rb pb n : Nat) (next : Int) (g : Nat → Nat → Value) (w : World) (used : Bool) (k : Nat)
    (hR : RingAt w rb pb n next g) (hk : (next % n).toNat = k) (hu : g k 7 = .bool used) :
    Calls Try.prog 15 #[.pointer (some ⟨rb, 0, none⟩)] w fun e w' => e = .returned (.bool used) ∧ ∃ m, w' = w.drewN m := by
  have h0 := hR.hd0
  have h1 := hR.hd1
  have x0 := hR.x0
  have x1 := hR.x1
  have n1 := hR.n1
  have n64 := hR.n64
  have hm1 := Int.emod_nonneg next (b := (n : Int)) (by omega)
  have hm2 := Int.emod_lt_of_pos next (b := (n : Int)) (by omega)
  have hkn : k < n := by omega
  have hc := hR.cells k hkn 7 (by omega)
  rw [hu] at hc
  clear hu
  have Hk := Lib.hid hk
  clear hk
  go_enter Try.func15, Try.ntmps15
  go_wp2_with fail
  refine (at_any rb pb n next _ h0 n64 n1 x0 (by omega)).mono ?_
  rintro e w' ⟨rfl, m, rfl⟩
  rw [Hk.out]
  go_wp2
  go_ret
  exact ⟨rfl, _, rfl⟩

end Go.Proofs.Ytibfioekmpnkgaa
