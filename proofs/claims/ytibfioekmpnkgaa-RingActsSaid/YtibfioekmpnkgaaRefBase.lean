/-
  Small words for the reference's ring; no program in sight.
-/
import Derived.Test.YtibfioekmpnkgaaRefGive
import Derived.Laws.AppendOwnNone
import Derived.Deep.SlicePairs
import Derived.ChangeArms
import Derived.Deep.RegionHeld3
import Derived.RegionTactic
namespace Go.Proofs.Ytibfioekmpnkgaa
open Go.RowKit
theorem cell_new (w : World) (cs : Array Value) (T : TypeId) (o : Nat) : (w.alloc (.cells cs T)).cell? ⟨w.heap.size, o, none⟩ = cs[o]? :=
  cell_block (cs := cs) (T := T) (fz := (0, 0)) (by show (w.heap.push _)[_]? = _; simp) o
end Go.Proofs.Ytibfioekmpnkgaa
