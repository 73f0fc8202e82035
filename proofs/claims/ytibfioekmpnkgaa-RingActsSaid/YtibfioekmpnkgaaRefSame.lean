/-
  An item is the same as itself, whatever hits it has.
-/
import Derived.Test.YtibfioekmpnkgaaRefRing
namespace Go.Proofs.Ytibfioekmpnkgaa
open Go.RowKit
set_option linter.unusedVariables false
set_option linter.unusedSimpArgs false
set_option maxRecDepth 100000

theorem hitsSame_self (hs : List (Int × Int)) (v : Value) (w : World) (h : SlOf 2 encR w v hs) (hl : hs.length ≤ 1000) :
    Calls Try.prog 44 #[v, v] w fun e w' => e = .returned (.bool true) ∧ ∃ n, w' = w.drewN n := by
  obtain ⟨a, cap, rfl, ⟨hlc, _⟩, _, hc⟩ := h
  have Hc := Lib.hid hc
  clear hc
  have hne : ((hs.length : Int) != (hs.length : Int)) = false := by simp
  go_enter Try.func44, Try.ntmps44
  go_wp2_with fail
  go_loopw [5] (fun iv wr => ∃ (i n : Nat), iv = .int .i64 i ∧ i ≤ hs.length ∧ wr = w.drewN n) (fun iv _ => hs.length - (intOf iv).toNat)
  case atStart => exact ⟨0, 0, rfl, Nat.zero_le _, rfl⟩
  case round =>
    obtain ⟨i, n, rfl, hi, rfl⟩ := hrel
    by_cases hil : i < hs.length
    · obtain ⟨b, off, rfl, hcc⟩ := Hc.out (by omega)
      obtain ⟨p, hp⟩ : ∃ p, hs[i]? = some p := ⟨_, List.getElem?_eq_getElem hil⟩
      have d0 : w.cell? ⟨b, off + i * 2, none⟩ = some (.int .i64 p.1) := hcc i p hp 0 (by omega)
      have d1 : w.cell? ⟨b, off + i * 2 + 1, none⟩ = some (.int .i64 p.2) := hcc i p hp 1 (by omega)
      clear hcc hp
      go_wp2_with fail
      go_quiet (fail)
      go_wp2_with fail
      go_roundw
      case rel => exact ⟨i + 1, _, by go_num, by omega, rfl⟩
      case measure => simp [intOf]; omega
    · go_wp2_with fail
      go_ret
      exact ⟨rfl, _, rfl⟩

/-- The hits of an item can be read. -/
def HasHits (w : World) (x : ItemV) : Prop := ∃ hs : List (Int × Int), SlOf 2 encR w (.slice x.ha x.hl x.hc) hs ∧ hs.length ≤ 1000

theorem itemSame_self (x : ItemV) (w : World) (h : HasHits w x) :
    Calls Try.prog 20 #[x.val, x.val] w fun e w' => e = .returned (.bool true) ∧ Keeps (fun _ => False) w w' := by
  obtain ⟨hs, hh, hl⟩ := h
  obtain ⟨N, B, R, AT, T, ha, hl', hc, er⟩ := x
  simp only [ItemV.val] at *
  go_enter Try.func20, Try.ntmps20
  go_wp2_with fail
  refine (hitsSame_self hs _ _ ?_ hl).mono ?_
  · exact (hh.alloc _).alloc _
  rintro e w' ⟨rfl, n, rfl⟩
  go_wp2_with fail
  go_ret
  exact ⟨rfl, (((Keeps.refl _ _).alloc _).alloc _).drawN _⟩
end Go.Proofs.Ytibfioekmpnkgaa
