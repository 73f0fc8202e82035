/-
  LimitsTold: the law, for whatever job came in. No condition.
-/
import Derived.Test.YtbifklibdkjbeaaGreatDoorLiRG
import Derived.Test.YtbifklibdkjbeaaGreatDoorMg30
import Derived.Test.YtbifklibdkjbeaaGreatDoorEvLiG
namespace Go.Proofs.YtbifklibdkjbeaaGreatDoor
open Go.RowKit
set_option linter.unusedVariables false
set_option linter.unusedSimpArgs false
set_option maxRecDepth 100000
theorem xmN (j : JV) (hp : j.pt.length ≤ 9223372036854775807) (w : World) :
 Calls Tryz.prog 4 #[jV j] w fun e w' => e = .returned (.bool true) ∧ xa (fun _ => False) w w' := by
 obtain ⟨c, s, h⟩ := xfl j.pt hp
 obtain ⟨hS, hR⟩ := h j rfl
 by_cases hl : xb7 j = true
 · obtain ⟨h1, h2⟩ := xiR hl
   obtain ⟨r1, r2⟩ := hR h1 h2
   have ok : (xaF j && (c == 0)) = true → JOk j := fun h => xer (by simp at h; exact h.1) (by omega) (by omega)
   exact xil j _ s _ _ (fun W => xgn W) (xd9 j hp) (fun _ => hS) (fun _ => ⟨⟨fun W => xfx j _ r1 ok W, fun W => xhC j _ r2 ok W⟩, fun W => xgA j _ r1 ok W, fun W => xjr j _ r2 ok W⟩) w
 exact xil j _ s 0 0 (fun W => xgn W) (xd9 j hp) (fun h => absurd h hl) (fun h => absurd h hl) w
end Go.Proofs.YtbifklibdkjbeaaGreatDoor
