/-
  text: what fields print.
-/
import Derived.Test.YtibfioekmpnkgaaDoorTextPl
import Derived.Test.YtibfioekmpnkgaaDoorTextK
import Derived.Deep.RegionWith
namespace Go.Proofs.YtibfioekmpnkgaaDoor
open Go.RowKit
set_option linter.unusedVariables false
set_option linter.unusedSimpArgs false
set_option maxRecDepth 100000

theorem number_zero (a : Addr) (w : World) (hc : w.cell? a = some (.int .i64 0)) :
    Calls Tryd.prog 48 #[.agg #[.pointer (some a)]] w fun e w' => e = .returned (.string ⟨#[]⟩) ∧ Keeps (fun _ => False) w w' := by
  have hlt := lt_of_cell hc
  have hc2 := alloc_cell hc (.cells #[.pointer (some a)] 50)
  go_enter Tryd.func48, Tryd.ntmps48
  go_wp2_with fail
  go_ret
  exact ⟨rfl, (Keeps.refl _ _).alloc _⟩
theorem number_small (a : Addr) (n : Nat) (w : World) (hc : w.cell? a = some (.int .i64 n)) (h0 : 0 < n) (h1 : n < 100) :
    Calls Tryd.prog 48 #[.agg #[.pointer (some a)]] w fun e w' => e = .returned (.string ⟨(Lib.decDigits n).toArray⟩) ∧ Keeps (fun _ => False) w w' := by
  have hlt := lt_of_cell hc
  have hc2 := alloc_cell hc (.cells #[.pointer (some a)] 50)
  have g0 : ((n : Int) == 0) = false := by simp; omega
  go_enter Tryd.func48, Tryd.ntmps48
  go_wp2_with fail
  refine (Tryd.strconv_Itoa_small n h1 _).mono ?_
  rintro e w' ⟨rfl, rfl⟩
  go_wp2_with fail
  go_ret
  exact ⟨rfl, (Keeps.refl _ _).alloc _⟩
theorem words_any (a : Addr) (l : List UInt8) (w : World) (hc : w.cell? a = some (.string ⟨l.toArray⟩)) (hl : l.length ≤ 100000) :
    Calls Tryd.prog 63 #[.agg #[.pointer (some a)]] w fun e w' => e = .returned (.string ⟨(wordL l).toArray⟩) ∧ Keeps (fun _ => False) w w' := by
  have hlt := lt_of_cell hc
  have hc2 := alloc_cell hc (.cells #[.pointer (some a)] 57)
  go_enter Tryd.func63, Tryd.ntmps63
  go_wp2_with fail
  refine (word_any l _ hl).mono ?_
  rintro e w' ⟨rfl, hk⟩
  go_wp2_with fail
  go_ret
  exact ⟨rfl, ((Keeps.refl _ _).alloc _).trans hk⟩
theorem octets_none (a : Addr) (w : World) (hc : w.cell? a = some (.slice none 0 0)) :
    Calls Tryd.prog 67 #[.agg #[.pointer (some a)]] w fun e w' => e = .returned (.string ⟨#[]⟩) ∧ Keeps (fun _ => False) w w' := by
  have hlt := lt_of_cell hc
  have hc2 := alloc_cell hc (.cells #[.pointer (some a)] 84)
  have hb : ∀ W : World, (convert 37 9 (.slice none 0 0)).run Tryd.prog W = .ok (.string ⟨#[]⟩) W := fun W => bytes_back (base := 0) (l := []) (World.ownsRow_nil _ _ _ _)
  go_enter Tryd.func67, Tryd.ntmps67
  go_wp2_with fail
  refine (word_any [] _ (by simp)).mono ?_
  rintro e w' ⟨rfl, hk⟩
  go_wp2_with fail
  go_ret
  exact ⟨rfl, ((Keeps.refl _ _).alloc _).trans hk⟩
theorem numbers_none (a : Addr) (w : World) (hc : w.cell? a = some (.slice none 0 0)) :
    Calls Tryd.prog 65 #[.agg #[.pointer (some a)]] w fun e w' => e = .returned (.string ⟨#[]⟩) ∧ Keeps (fun _ => False) w w' := by
  have hlt := lt_of_cell hc
  have hc2 := alloc_cell hc (.cells #[.pointer (some a)] 81)
  go_enter Tryd.func65, Tryd.ntmps65
  go_wp2_with fail
  go_loop [3, 11] (fun v i => v = .slice none 0 0 ∧ i = .int .i64 0) (fun _ _ => 0)
  case atStart => exact ⟨rfl, rfl⟩
  case round =>
    obtain ⟨rfl, rfl⟩ := hrel
    go_wp2_with fail
    refine (join_none _ _ _ _).mono ?_
    rintro e w' ⟨rfl, rfl⟩
    go_wp2_with fail
    go_ret
    exact ⟨rfl, (Keeps.refl _ _).alloc _⟩
end Go.Proofs.YtibfioekmpnkgaaDoor
