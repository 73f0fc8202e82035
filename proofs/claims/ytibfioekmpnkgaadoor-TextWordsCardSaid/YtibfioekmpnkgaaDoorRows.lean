/-
  NARROWER THAN 'FOR EVERY INPUT', by the rows' own cells (each row's printed sentence says how): TextTells: laid · TextWords: laid.
  DERIVED. THE GIVEN ROWS OF THIS SEAT. 2 by the template 'for every input the law returns true; each argument reads behind the call as it read before'; 0 by the template 'total and deterministic' (their statements: YtibfioekmpnkgaaDoorTotals.lean).
  GIVEN WITH THE SEED: the statements are not yours to turn. If you find one false, say at which input.
  Laid BY PROGRAM, IN A SANDBOX (cutbox-rows.mjs): the forced cells as the released guide's own fill.sh prints them over the translation 309ef21fe34e90bf… (all of the seat's roots in one cut). By AI agents, Wed Nov 11 2026. No macro, syntax, notation, axiom, sorry.
-/
import Derived.Test.YtibfioekmpnkgaaDoorChecked
import GoSem.Claim
import GoSem.ClaimJoined
import GoSem.ClaimMapViews
import Derived.JoinedTies
import Derived.KernelRfl
namespace Go.Proofs.YtibfioekmpnkgaaDoor
/- THE CELL 'sum', in the pinned program and in every row, IS THE sha256 OF THE DUMP (.gsa) THAT YtibfioekmpnkgaaDoorProg.lean LOADS. Nothing in Lean hashes anything: it is a label: what it is worth is what the hold of that sum in a sandbox is worth. -/
noncomputable def Tryd.pinned : Pinned := { name := "ytibfioekmpnkgaadoor", sum := "309ef21fe34e90bf2a35411c6b67fdaf4a714325c8f3007693285101c93ff8b9", checked := Tryd.checked }
namespace Rows
def none {H : Type} : Left H := { results := [], args := [] }

/- WHAT THE LISTED PACKAGE-LEVEL VARIABLES READ AS WHEN THE CALL BEGINS. Each datum BY PROGRAM (the guide's laid-datum.mjs) off the statement by which the dump's own 'gosem.cut.vars' lays the variable. In a bare row this is a premise. The card (YtibfioekmpnkgaaDoorCards.lean) ties it to the program's text. -/
def laid_reedbed_text_kinds {H : Type} : DataW H := .agg [.lit (.string [115, 116, 97, 114, 116]), .lit (.string [115, 116, 101, 112]), .lit (.string [102, 105, 110, 105, 115, 104]), .lit (.string [99, 97, 110, 99, 101, 108]), .lit (.string [108, 105, 110, 101, 115]), .lit (.string [99, 97, 117, 115, 101]), .lit (.string [108, 111, 111, 107, 115]), .lit (.string [104, 101, 108, 100]), .lit (.string [100, 114, 111, 112])]

/-- 'reedbedlaw28.TextTells': WHATEVER THE INPUT: true; the input reads as it did. -/
def textTellsSpec : ChangeSpec := { name := "textTells", fn := fun _ => fun
  | [d1, d2] => { results := [.lit (.bool true)], args := [d1, d2] }
  | _ => none }
def textTellsRow : OpenClaim := { program := "ytibfioekmpnkgaadoor", sum := "309ef21fe34e90bf2a35411c6b67fdaf4a714325c8f3007693285101c93ff8b9", func := "reedbed/reedbedlaw28.TextTells", spec := "textTells", inPlace := ["internal/abi.NoEscape", "internal/bytealg.MakeNoZero"], unfollowed := true, recurses := true, named := ["reedbed/text.kinds"], apart := false, laid := [("reedbed/text.kinds", laid_reedbed_text_kinds)] }
def TextTellsSaid : Prop := textTellsRow.holds Tryd.pinned (OpenSpec.ofChange textTellsSpec)

/-- ITS FALSE NEIGHBOUR: 'it returns false'. Refute it at one input. -/
def textTellsWrong : ChangeSpec := { name := "textTells", fn := fun _ => fun
  | [d1, d2] => { results := [.lit (.bool false)], args := [d1, d2] }
  | _ => none }
def TextTellsWrongFalsely : Prop := textTellsRow.holds Tryd.pinned (OpenSpec.ofChange textTellsWrong)

/-- 'reedbedlaw28.TextWords': WHATEVER THE INPUT: true; the input reads as it did. -/
def textWordsSpec : ChangeSpec := { name := "textWords", fn := fun _ => fun
  | [d1, d2] => { results := [.lit (.bool true)], args := [d1, d2] }
  | _ => none }
def textWordsRow : OpenClaim := { program := "ytibfioekmpnkgaadoor", sum := "309ef21fe34e90bf2a35411c6b67fdaf4a714325c8f3007693285101c93ff8b9", func := "reedbed/reedbedlaw28.TextWords", spec := "textWords", inPlace := ["internal/abi.NoEscape", "internal/bytealg.MakeNoZero", "internal/bytealg.IndexByteString"], unfollowed := true, recurses := true, named := ["reedbed/text.kinds"], apart := false, laid := [("reedbed/text.kinds", laid_reedbed_text_kinds)] }
def TextWordsSaid : Prop := textWordsRow.holds Tryd.pinned (OpenSpec.ofChange textWordsSpec)

/-- ITS FALSE NEIGHBOUR: 'it returns false'. Refute it at one input. -/
def textWordsWrong : ChangeSpec := { name := "textWords", fn := fun _ => fun
  | [d1, d2] => { results := [.lit (.bool false)], args := [d1, d2] }
  | _ => none }
def TextWordsWrongFalsely : Prop := textWordsRow.holds Tryd.pinned (OpenSpec.ofChange textWordsWrong)

/- THE SECOND FORM. 'bulk': how many values and letters a reading holds, each counted each time it is reached (what is shared counts as often as it is met; a slice's spare places count too). A statement '..UptoSaid' is the law's where the arguments, and the package variables that the reading takes, are together of bulk at most 1048576: NARROWER than '..Said'. Prove '..Said' where nothing that the law and all that it calls make is longer than what came in: it says more and counts as full. Else prove '..UptoSaid'. A law counts once. -/
mutual
def uptoBulk {H : Type} : DataW H → Nat
  | .lit (.string bytes) => bytes.length + 1
  | .lit _ => 1
  | .nil => 1
  | .ptr d => uptoBulk d + 1
  | .slice elems spare => uptoBulkAll elems + uptoBulkAll spare + 1
  | .agg parts => uptoBulkAll parts + 1
  | .iface _ d => uptoBulk d + 1
  | .map entries => uptoBulkEntries entries + 1
  | .held _ => 1
def uptoBulkAll {H : Type} : List (DataW H) → Nat
  | [] => 0
  | d :: r => uptoBulk d + uptoBulkAll r
def uptoBulkEntries {H : Type} : List (Lit × DataW H) → Nat
  | [] => 0
  | x :: r => uptoBulkEntry x + uptoBulkEntries r
def uptoBulkEntry {H : Type} : Lit × DataW H → Nat
  | (.string bytes, d) => bytes.length + uptoBulk d + 1
  | (_, d) => uptoBulk d + 1
 end
def uptoSmall : (H : Type) → List (DataW H) → Bool := fun _ ds => decide (uptoBulkAll ds ≤ 1048576)
def OpenSpec.upto (s : _root_.Go.ChangeSpec) : _root_.Go.OpenSpec := { _root_.Go.OpenSpec.ofChange s with cond := some uptoSmall }

/-- 'reedbedlaw28.TextTells', WHERE WHAT IT READS IS OF BULK AT MOST 1048576: true; the input reads as it did. -/
def textTellsUptoRow : OpenClaim := { program := "ytibfioekmpnkgaadoor", sum := "309ef21fe34e90bf2a35411c6b67fdaf4a714325c8f3007693285101c93ff8b9", func := "reedbed/reedbedlaw28.TextTells", spec := "textTells", inPlace := ["internal/abi.NoEscape", "internal/bytealg.MakeNoZero"], unfollowed := true, recurses := true, named := ["reedbed/text.kinds"], apart := false, laid := [("reedbed/text.kinds", laid_reedbed_text_kinds)], narrowed := true }
def TextTellsUptoSaid : Prop := textTellsUptoRow.holds Tryd.pinned (OpenSpec.upto textTellsSpec)

/-- 'reedbedlaw28.TextWords', WHERE WHAT IT READS IS OF BULK AT MOST 1048576: true; the input reads as it did. -/
def textWordsUptoRow : OpenClaim := { program := "ytibfioekmpnkgaadoor", sum := "309ef21fe34e90bf2a35411c6b67fdaf4a714325c8f3007693285101c93ff8b9", func := "reedbed/reedbedlaw28.TextWords", spec := "textWords", inPlace := ["internal/abi.NoEscape", "internal/bytealg.MakeNoZero", "internal/bytealg.IndexByteString"], unfollowed := true, recurses := true, named := ["reedbed/text.kinds"], apart := false, laid := [("reedbed/text.kinds", laid_reedbed_text_kinds)], narrowed := true }
def TextWordsUptoSaid : Prop := textWordsUptoRow.holds Tryd.pinned (OpenSpec.upto textWordsSpec)

end Rows
end Go.Proofs.YtibfioekmpnkgaaDoor
