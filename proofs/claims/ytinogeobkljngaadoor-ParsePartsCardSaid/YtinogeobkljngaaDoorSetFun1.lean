/-
  The walks of set.Right and set.Has, and of what they call of slices.
-/
import Derived.Test.YtinogeobkljngaaDoorSetOf
import Derived.Test.YtinogeobkljngaaDoorSetEq
namespace Go.Proofs.YtinogeobkljngaaDoor
open Go.RowKit
set_option linter.unusedVariables false
set_option linter.unusedSimpArgs false
set_option maxRecDepth 100000

theorem ROwn.read {w0 w : World} {v : Value} {l : List (Int × Int)} (h : ROwn w0 w v l) (hl : l.length ≤ 4611686018427387904) (hr : ∀ p ∈ l, in64 p.1 ∧ in64 p.2) : RSl w v l := ⟨SlOf.ofOwn h.1 hl, hr⟩
theorem norm64 {l : List (Int × Int)} (h : Norm l) : ∀ p ∈ l, in64 p.1 ∧ in64 p.2 := fun p hp => by have := h.rng p hp; unfold in64; omega
theorem RSl.keep {w w' : World} {v : Value} {l : List (Int × Int)} (h : RSl w v l) (K : Keeps (fun _ => False) w w') : RSl w' v l := ⟨h.1.keep K, h.2⟩

end Go.Proofs.YtinogeobkljngaaDoor
