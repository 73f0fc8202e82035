/-
  The walks of set.Count, Only, Not.
-/
import Derived.Test.YtinogeobkljngaaDoorSetFun1
namespace Go.Proofs.YtinogeobkljngaaDoor
open Go.RowKit
set_option linter.unusedVariables false
set_option linter.unusedSimpArgs false
set_option maxRecDepth 100000

theorem norm_len_take (l : List (Int × Int)) (h : Norm l) (i : Nat) : Norm (l.take i) := by
  induction l generalizing i with
  | nil => simpa using h
  | cons q l ih =>
    cases i with
    | zero => trivial
    | succ j => exact ⟨h.1, h.2.1, h.2.2.1, fun x hx => h.2.2.2.1 x (List.mem_of_mem_take hx), ih h.tail j⟩

end Go.Proofs.YtinogeobkljngaaDoor
