/-
  No cell of these rows narrows 'for every input' (looked for: loops, veiled, ifaces, maps, wideKeys, modest, calm, conditions, laid).
  DERIVED. THE GIVEN ROWS OF THIS SEAT. 9 by the template 'for every input the law returns true; each argument reads behind the call as it read before'; 0 by the template 'total and deterministic' (their statements: YtibfioekmpnkgaaTotals.lean).
  GIVEN WITH THE SEED: the statements are not yours to turn. If you find one false, say at which input.
  Laid BY PROGRAM, IN A SANDBOX (cutbox-rows.mjs): the forced cells as the released guide's own fill.sh prints them over the translation 19d98dc3c6679b4e… (all of the seat's roots in one cut). By AI agents, Wed Nov 11 2026. No macro, syntax, notation, axiom, sorry.
-/
import Derived.Test.YtibfioekmpnkgaaChecked
import GoSem.Claim
import GoSem.ClaimJoined
import GoSem.ClaimMapViews
import Derived.JoinedTies
import Derived.KernelRfl
namespace Go.Proofs.Ytibfioekmpnkgaa
/- THE CELL 'sum', in the pinned program and in every row, IS THE sha256 OF THE DUMP (.gsa) THAT YtibfioekmpnkgaaProg.lean LOADS. Nothing in Lean hashes anything: it is a label: what it is worth is what the hold of that sum in a sandbox is worth. -/
noncomputable def Try.pinned : Pinned := { name := "ytibfioekmpnkgaa", sum := "19d98dc3c6679b4e6bb00b536da64b26fc23a1afdf979916ddfc280337e1033a", checked := Try.checked }
namespace Rows
def none {H : Type} : Left H := { results := [], args := [] }

/-- 'reedbedlaw17.RingOrder': WHATEVER THE INPUT: true; the input reads as it did. -/
def ringOrderSpec : ChangeSpec := { name := "ringOrder", fn := fun _ => fun
  | [d1, d2] => { results := [.lit (.bool true)], args := [d1, d2] }
  | _ => none }
def ringOrderRow : OpenClaim := { program := "ytibfioekmpnkgaa", sum := "19d98dc3c6679b4e6bb00b536da64b26fc23a1afdf979916ddfc280337e1033a", func := "reedbed/reedbedlaw17.RingOrder", spec := "ringOrder", apart := false }
def RingOrderSaid : Prop := ringOrderRow.holds Try.pinned (OpenSpec.ofChange ringOrderSpec)

/-- ITS FALSE NEIGHBOUR: 'it returns false'. Refute it at one input. -/
def ringOrderWrong : ChangeSpec := { name := "ringOrder", fn := fun _ => fun
  | [d1, d2] => { results := [.lit (.bool false)], args := [d1, d2] }
  | _ => none }
def RingOrderWrongFalsely : Prop := ringOrderRow.holds Try.pinned (OpenSpec.ofChange ringOrderWrong)

/-- 'reedbedlaw17.RingActs': WHATEVER THE INPUT: true; the input reads as it did. -/
def ringActsSpec : ChangeSpec := { name := "ringActs", fn := fun _ => fun
  | [d1, d2] => { results := [.lit (.bool true)], args := [d1, d2] }
  | _ => none }
def ringActsRow : OpenClaim := { program := "ytibfioekmpnkgaa", sum := "19d98dc3c6679b4e6bb00b536da64b26fc23a1afdf979916ddfc280337e1033a", func := "reedbed/reedbedlaw17.RingActs", spec := "ringActs", apart := false }
def RingActsSaid : Prop := ringActsRow.holds Try.pinned (OpenSpec.ofChange ringActsSpec)

/-- ITS FALSE NEIGHBOUR: 'it returns false'. Refute it at one input. -/
def ringActsWrong : ChangeSpec := { name := "ringActs", fn := fun _ => fun
  | [d1, d2] => { results := [.lit (.bool false)], args := [d1, d2] }
  | _ => none }
def RingActsWrongFalsely : Prop := ringActsRow.holds Try.pinned (OpenSpec.ofChange ringActsWrong)

/-- 'reedbedlaw17.RingFull': WHATEVER THE INPUT: true; the input reads as it did. -/
def ringFullSpec : ChangeSpec := { name := "ringFull", fn := fun _ => fun
  | [d1, d2] => { results := [.lit (.bool true)], args := [d1, d2] }
  | _ => none }
def ringFullRow : OpenClaim := { program := "ytibfioekmpnkgaa", sum := "19d98dc3c6679b4e6bb00b536da64b26fc23a1afdf979916ddfc280337e1033a", func := "reedbed/reedbedlaw17.RingFull", spec := "ringFull", apart := false }
def RingFullSaid : Prop := ringFullRow.holds Try.pinned (OpenSpec.ofChange ringFullSpec)

/-- ITS FALSE NEIGHBOUR: 'it returns false'. Refute it at one input. -/
def ringFullWrong : ChangeSpec := { name := "ringFull", fn := fun _ => fun
  | [d1, d2] => { results := [.lit (.bool false)], args := [d1, d2] }
  | _ => none }
def RingFullWrongFalsely : Prop := ringFullRow.holds Try.pinned (OpenSpec.ofChange ringFullWrong)

/-- 'reedbedlaw08.SetMakes': WHATEVER THE INPUT: true; the input reads as it did. -/
def setMakesSpec : ChangeSpec := { name := "setMakes", fn := fun _ => fun
  | [d1, d2] => { results := [.lit (.bool true)], args := [d1, d2] }
  | _ => none }
def setMakesRow : OpenClaim := { program := "ytibfioekmpnkgaa", sum := "19d98dc3c6679b4e6bb00b536da64b26fc23a1afdf979916ddfc280337e1033a", func := "reedbed/reedbedlaw08.SetMakes", spec := "setMakes", unfollowed := true, recurses := true, apart := false }
def SetMakesSaid : Prop := setMakesRow.holds Try.pinned (OpenSpec.ofChange setMakesSpec)

/-- ITS FALSE NEIGHBOUR: 'it returns false'. Refute it at one input. -/
def setMakesWrong : ChangeSpec := { name := "setMakes", fn := fun _ => fun
  | [d1, d2] => { results := [.lit (.bool false)], args := [d1, d2] }
  | _ => none }
def SetMakesWrongFalsely : Prop := setMakesRow.holds Try.pinned (OpenSpec.ofChange setMakesWrong)

/-- 'reedbedlaw08.SetCounts': WHATEVER THE INPUT: true; the input reads as it did. -/
def setCountsSpec : ChangeSpec := { name := "setCounts", fn := fun _ => fun
  | [d] => { results := [.lit (.bool true)], args := [d] }
  | _ => none }
def setCountsRow : OpenClaim := { program := "ytibfioekmpnkgaa", sum := "19d98dc3c6679b4e6bb00b536da64b26fc23a1afdf979916ddfc280337e1033a", func := "reedbed/reedbedlaw08.SetCounts", spec := "setCounts", unfollowed := true, recurses := true, apart := false }
def SetCountsSaid : Prop := setCountsRow.holds Try.pinned (OpenSpec.ofChange setCountsSpec)

/-- ITS FALSE NEIGHBOUR: 'it returns false'. Refute it at one input. -/
def setCountsWrong : ChangeSpec := { name := "setCounts", fn := fun _ => fun
  | [d] => { results := [.lit (.bool false)], args := [d] }
  | _ => none }
def SetCountsWrongFalsely : Prop := setCountsRow.holds Try.pinned (OpenSpec.ofChange setCountsWrong)

/-- 'reedbedlaw08.SetNamed': WHATEVER THE INPUT: true; the input reads as it did. -/
def setNamedSpec : ChangeSpec := { name := "setNamed", fn := fun _ => fun
  | [d1, d2] => { results := [.lit (.bool true)], args := [d1, d2] }
  | _ => none }
def setNamedRow : OpenClaim := { program := "ytibfioekmpnkgaa", sum := "19d98dc3c6679b4e6bb00b536da64b26fc23a1afdf979916ddfc280337e1033a", func := "reedbed/reedbedlaw08.SetNamed", spec := "setNamed", unfollowed := true, recurses := true, apart := false }
def SetNamedSaid : Prop := setNamedRow.holds Try.pinned (OpenSpec.ofChange setNamedSpec)

/-- ITS FALSE NEIGHBOUR: 'it returns false'. Refute it at one input. -/
def setNamedWrong : ChangeSpec := { name := "setNamed", fn := fun _ => fun
  | [d1, d2] => { results := [.lit (.bool false)], args := [d1, d2] }
  | _ => none }
def SetNamedWrongFalsely : Prop := setNamedRow.holds Try.pinned (OpenSpec.ofChange setNamedWrong)

/-- 'reedbedlaw08.SetTurns': WHATEVER THE INPUT: true; the input reads as it did. -/
def setTurnsSpec : ChangeSpec := { name := "setTurns", fn := fun _ => fun
  | [d1, d2, d3] => { results := [.lit (.bool true)], args := [d1, d2, d3] }
  | _ => none }
def setTurnsRow : OpenClaim := { program := "ytibfioekmpnkgaa", sum := "19d98dc3c6679b4e6bb00b536da64b26fc23a1afdf979916ddfc280337e1033a", func := "reedbed/reedbedlaw08.SetTurns", spec := "setTurns", unfollowed := true, recurses := true, apart := false }
def SetTurnsSaid : Prop := setTurnsRow.holds Try.pinned (OpenSpec.ofChange setTurnsSpec)

/-- ITS FALSE NEIGHBOUR: 'it returns false'. Refute it at one input. -/
def setTurnsWrong : ChangeSpec := { name := "setTurns", fn := fun _ => fun
  | [d1, d2, d3] => { results := [.lit (.bool false)], args := [d1, d2, d3] }
  | _ => none }
def SetTurnsWrongFalsely : Prop := setTurnsRow.holds Try.pinned (OpenSpec.ofChange setTurnsWrong)

/-- 'reedbedlaw08.SetTwice': WHATEVER THE INPUT: true; the input reads as it did. -/
def setTwiceSpec : ChangeSpec := { name := "setTwice", fn := fun _ => fun
  | [d1, d2] => { results := [.lit (.bool true)], args := [d1, d2] }
  | _ => none }
def setTwiceRow : OpenClaim := { program := "ytibfioekmpnkgaa", sum := "19d98dc3c6679b4e6bb00b536da64b26fc23a1afdf979916ddfc280337e1033a", func := "reedbed/reedbedlaw08.SetTwice", spec := "setTwice", unfollowed := true, recurses := true, apart := false }
def SetTwiceSaid : Prop := setTwiceRow.holds Try.pinned (OpenSpec.ofChange setTwiceSpec)

/-- ITS FALSE NEIGHBOUR: 'it returns false'. Refute it at one input. -/
def setTwiceWrong : ChangeSpec := { name := "setTwice", fn := fun _ => fun
  | [d1, d2] => { results := [.lit (.bool false)], args := [d1, d2] }
  | _ => none }
def SetTwiceWrongFalsely : Prop := setTwiceRow.holds Try.pinned (OpenSpec.ofChange setTwiceWrong)

/-- 'reedbedlaw12.LitCounts': WHATEVER THE INPUT: true; the input reads as it did. -/
def litCountsSpec : ChangeSpec := { name := "litCounts", fn := fun _ => fun
  | [d1, d2, d3] => { results := [.lit (.bool true)], args := [d1, d2, d3] }
  | _ => none }
def litCountsRow : OpenClaim := { program := "ytibfioekmpnkgaa", sum := "19d98dc3c6679b4e6bb00b536da64b26fc23a1afdf979916ddfc280337e1033a", func := "reedbed/reedbedlaw12.LitCounts", spec := "litCounts", inPlace := ["internal/abi.NoEscape", "internal/bytealg.MakeNoZero"], unfollowed := true, recurses := true, apart := false }
def LitCountsSaid : Prop := litCountsRow.holds Try.pinned (OpenSpec.ofChange litCountsSpec)

/-- ITS FALSE NEIGHBOUR: 'it returns false'. Refute it at one input. -/
def litCountsWrong : ChangeSpec := { name := "litCounts", fn := fun _ => fun
  | [d1, d2, d3] => { results := [.lit (.bool false)], args := [d1, d2, d3] }
  | _ => none }
def LitCountsWrongFalsely : Prop := litCountsRow.holds Try.pinned (OpenSpec.ofChange litCountsWrong)

/- THE SECOND FORM. 'bulk': how many values and letters a reading holds, each counted each time it is reached (what is shared counts as often as it is met; a slice's spare places count too). A statement '..UptoSaid' is the law's where the arguments, and the package variables that the reading takes, are together of bulk at most 1048576: NARROWER than '..Said'. Prove '..Said' where nothing that the law and all that it calls make is longer than what came in: it says more and counts as full. Else prove '..UptoSaid'. A law counts once. -/
mutual
def uptoBulk {H : Type} : DataW H → Nat
  | .lit (.string bytes) => bytes.length + 1
  | .lit _ => 1
  | .nil => 1
  | .ptr d => uptoBulk d + 1
  | .slice elems spare => uptoBulkAll elems + uptoBulkAll spare + 1
  | .agg parts => uptoBulkAll parts + 1
  | .iface _ d => uptoBulk d + 1
  | .map entries => uptoBulkEntries entries + 1
  | .held _ => 1
def uptoBulkAll {H : Type} : List (DataW H) → Nat
  | [] => 0
  | d :: r => uptoBulk d + uptoBulkAll r
def uptoBulkEntries {H : Type} : List (Lit × DataW H) → Nat
  | [] => 0
  | x :: r => uptoBulkEntry x + uptoBulkEntries r
def uptoBulkEntry {H : Type} : Lit × DataW H → Nat
  | (.string bytes, d) => bytes.length + uptoBulk d + 1
  | (_, d) => uptoBulk d + 1
 end
def uptoSmall : (H : Type) → List (DataW H) → Bool := fun _ ds => decide (uptoBulkAll ds ≤ 1048576)
def OpenSpec.upto (s : _root_.Go.ChangeSpec) : _root_.Go.OpenSpec := { _root_.Go.OpenSpec.ofChange s with cond := some uptoSmall }

/-- 'reedbedlaw17.RingOrder', WHERE WHAT IT READS IS OF BULK AT MOST 1048576: true; the input reads as it did. -/
def ringOrderUptoRow : OpenClaim := { program := "ytibfioekmpnkgaa", sum := "19d98dc3c6679b4e6bb00b536da64b26fc23a1afdf979916ddfc280337e1033a", func := "reedbed/reedbedlaw17.RingOrder", spec := "ringOrder", apart := false, narrowed := true }
def RingOrderUptoSaid : Prop := ringOrderUptoRow.holds Try.pinned (OpenSpec.upto ringOrderSpec)

/-- 'reedbedlaw17.RingActs', WHERE WHAT IT READS IS OF BULK AT MOST 1048576: true; the input reads as it did. -/
def ringActsUptoRow : OpenClaim := { program := "ytibfioekmpnkgaa", sum := "19d98dc3c6679b4e6bb00b536da64b26fc23a1afdf979916ddfc280337e1033a", func := "reedbed/reedbedlaw17.RingActs", spec := "ringActs", apart := false, narrowed := true }
def RingActsUptoSaid : Prop := ringActsUptoRow.holds Try.pinned (OpenSpec.upto ringActsSpec)

/-- 'reedbedlaw17.RingFull', WHERE WHAT IT READS IS OF BULK AT MOST 1048576: true; the input reads as it did. -/
def ringFullUptoRow : OpenClaim := { program := "ytibfioekmpnkgaa", sum := "19d98dc3c6679b4e6bb00b536da64b26fc23a1afdf979916ddfc280337e1033a", func := "reedbed/reedbedlaw17.RingFull", spec := "ringFull", apart := false, narrowed := true }
def RingFullUptoSaid : Prop := ringFullUptoRow.holds Try.pinned (OpenSpec.upto ringFullSpec)

/-- 'reedbedlaw08.SetMakes', WHERE WHAT IT READS IS OF BULK AT MOST 1048576: true; the input reads as it did. -/
def setMakesUptoRow : OpenClaim := { program := "ytibfioekmpnkgaa", sum := "19d98dc3c6679b4e6bb00b536da64b26fc23a1afdf979916ddfc280337e1033a", func := "reedbed/reedbedlaw08.SetMakes", spec := "setMakes", unfollowed := true, recurses := true, apart := false, narrowed := true }
def SetMakesUptoSaid : Prop := setMakesUptoRow.holds Try.pinned (OpenSpec.upto setMakesSpec)

/-- 'reedbedlaw08.SetCounts', WHERE WHAT IT READS IS OF BULK AT MOST 1048576: true; the input reads as it did. -/
def setCountsUptoRow : OpenClaim := { program := "ytibfioekmpnkgaa", sum := "19d98dc3c6679b4e6bb00b536da64b26fc23a1afdf979916ddfc280337e1033a", func := "reedbed/reedbedlaw08.SetCounts", spec := "setCounts", unfollowed := true, recurses := true, apart := false, narrowed := true }
def SetCountsUptoSaid : Prop := setCountsUptoRow.holds Try.pinned (OpenSpec.upto setCountsSpec)

/-- 'reedbedlaw08.SetNamed', WHERE WHAT IT READS IS OF BULK AT MOST 1048576: true; the input reads as it did. -/
def setNamedUptoRow : OpenClaim := { program := "ytibfioekmpnkgaa", sum := "19d98dc3c6679b4e6bb00b536da64b26fc23a1afdf979916ddfc280337e1033a", func := "reedbed/reedbedlaw08.SetNamed", spec := "setNamed", unfollowed := true, recurses := true, apart := false, narrowed := true }
def SetNamedUptoSaid : Prop := setNamedUptoRow.holds Try.pinned (OpenSpec.upto setNamedSpec)

/-- 'reedbedlaw08.SetTurns', WHERE WHAT IT READS IS OF BULK AT MOST 1048576: true; the input reads as it did. -/
def setTurnsUptoRow : OpenClaim := { program := "ytibfioekmpnkgaa", sum := "19d98dc3c6679b4e6bb00b536da64b26fc23a1afdf979916ddfc280337e1033a", func := "reedbed/reedbedlaw08.SetTurns", spec := "setTurns", unfollowed := true, recurses := true, apart := false, narrowed := true }
def SetTurnsUptoSaid : Prop := setTurnsUptoRow.holds Try.pinned (OpenSpec.upto setTurnsSpec)

/-- 'reedbedlaw08.SetTwice', WHERE WHAT IT READS IS OF BULK AT MOST 1048576: true; the input reads as it did. -/
def setTwiceUptoRow : OpenClaim := { program := "ytibfioekmpnkgaa", sum := "19d98dc3c6679b4e6bb00b536da64b26fc23a1afdf979916ddfc280337e1033a", func := "reedbed/reedbedlaw08.SetTwice", spec := "setTwice", unfollowed := true, recurses := true, apart := false, narrowed := true }
def SetTwiceUptoSaid : Prop := setTwiceUptoRow.holds Try.pinned (OpenSpec.upto setTwiceSpec)

/-- 'reedbedlaw12.LitCounts', WHERE WHAT IT READS IS OF BULK AT MOST 1048576: true; the input reads as it did. -/
def litCountsUptoRow : OpenClaim := { program := "ytibfioekmpnkgaa", sum := "19d98dc3c6679b4e6bb00b536da64b26fc23a1afdf979916ddfc280337e1033a", func := "reedbed/reedbedlaw12.LitCounts", spec := "litCounts", inPlace := ["internal/abi.NoEscape", "internal/bytealg.MakeNoZero"], unfollowed := true, recurses := true, apart := false, narrowed := true }
def LitCountsUptoSaid : Prop := litCountsUptoRow.holds Try.pinned (OpenSpec.upto litCountsSpec)

end Rows
end Go.Proofs.Ytibfioekmpnkgaa
