/-
  DERIVED. GIVEN WITH THE SEED: THE CARDS: each row of YtjahiihmoglpfaaGreatDoorRows.lean that lists a variable, with what it lists TIED to the program's text (the seventh form; the later family's looks); each row that meets fmt, with fmt's text TOLD by the authors' own Lean function (tested against real Go, not proved from fmt's source: count such statements apart). THE CARD IS WHAT COUNTS. Prove the row's statement (the work); the ties are given (YtjahiihmoglpfaaGreatDoorTie.lean); close each card by the builder's one call (the guide's Derived/Test/ToyasCard.lean, 'card_holds'). Laid BY PROGRAM, IN A SANDBOX (cutbox-door.mjs). By AI agents, Wed Nov 11 2026. No macro, syntax, notation, axiom, sorry.
-/
import Derived.Test.YtjahiihmoglpfaaGreatDoorRows
import GoSem.ClaimSeven
namespace Go.Proofs.YtjahiihmoglpfaaGreatDoor
namespace Rows

/-- THE TIED CARD OF 'reedbedlaw19.ModelSame'. -/
def modelSameCard : Claim7 := { stood := { row := modelSameRow, standIns := [], harness := (true, "3a6ca6f66216a344c67c84c102c416b405e17200e71b0c6fb85d7826047c564f"), looks := false }, kinds := [], alts := [], laidByText := true, laidKinds := [.data, .data, .data], laidTests := true, laidLooks := .later }
def ModelSameCardSaid : Prop := Claim7.holds Tryz.pinned (.plain (OpenSpec.ofChange modelSameSpec)) modelSameCard

/-- THE TIED CARD OF 'reedbedlaw19.ModelBegins'. -/
def modelBeginsCard : Claim7 := { stood := { row := modelBeginsRow, standIns := [], harness := (true, "3a6ca6f66216a344c67c84c102c416b405e17200e71b0c6fb85d7826047c564f"), looks := false }, kinds := [], alts := [], laidByText := true, laidKinds := [.data, .data, .data], laidTests := true, laidLooks := .later }
def ModelBeginsCardSaid : Prop := Claim7.holds Tryz.pinned (.plain (OpenSpec.ofChange modelBeginsSpec)) modelBeginsCard

/-- THE TIED CARD OF 'reedbedlaw19.ModelLooks'. -/
def modelLooksCard : Claim7 := { stood := { row := modelLooksRow, standIns := [], harness := (true, "3a6ca6f66216a344c67c84c102c416b405e17200e71b0c6fb85d7826047c564f"), looks := false }, kinds := [], alts := [], laidByText := true, laidKinds := [.data, .data, .data], laidTests := true, laidLooks := .later }
def ModelLooksCardSaid : Prop := Claim7.holds Tryz.pinned (.plain (OpenSpec.ofChange modelLooksSpec)) modelLooksCard

/-- THE TIED CARD OF 'reedbedlaw19.ModelCount'. -/
def modelCountCard : Claim7 := { stood := { row := modelCountRow, standIns := [], harness := (true, "3a6ca6f66216a344c67c84c102c416b405e17200e71b0c6fb85d7826047c564f"), looks := false }, kinds := [], alts := [], laidByText := true, laidKinds := [.data, .data, .data], laidTests := true, laidLooks := .later }
def ModelCountCardSaid : Prop := Claim7.holds Tryz.pinned (.plain (OpenSpec.ofChange modelCountSpec)) modelCountCard

/-- THE SECOND FORM's CARD OF 'reedbedlaw19.ModelSame'. -/
def modelSameUptoCard : Claim7 := { stood := { row := modelSameUptoRow, standIns := [], harness := (true, "3a6ca6f66216a344c67c84c102c416b405e17200e71b0c6fb85d7826047c564f"), looks := false }, kinds := [], alts := [], laidByText := true, laidKinds := [.data, .data, .data], laidTests := true, laidLooks := .later }
def ModelSameUptoCardSaid : Prop := Claim7.holds Tryz.pinned (.plain (OpenSpec.upto modelSameSpec)) modelSameUptoCard

/-- THE SECOND FORM's CARD OF 'reedbedlaw19.ModelBegins'. -/
def modelBeginsUptoCard : Claim7 := { stood := { row := modelBeginsUptoRow, standIns := [], harness := (true, "3a6ca6f66216a344c67c84c102c416b405e17200e71b0c6fb85d7826047c564f"), looks := false }, kinds := [], alts := [], laidByText := true, laidKinds := [.data, .data, .data], laidTests := true, laidLooks := .later }
def ModelBeginsUptoCardSaid : Prop := Claim7.holds Tryz.pinned (.plain (OpenSpec.upto modelBeginsSpec)) modelBeginsUptoCard

/-- THE SECOND FORM's CARD OF 'reedbedlaw19.ModelLooks'. -/
def modelLooksUptoCard : Claim7 := { stood := { row := modelLooksUptoRow, standIns := [], harness := (true, "3a6ca6f66216a344c67c84c102c416b405e17200e71b0c6fb85d7826047c564f"), looks := false }, kinds := [], alts := [], laidByText := true, laidKinds := [.data, .data, .data], laidTests := true, laidLooks := .later }
def ModelLooksUptoCardSaid : Prop := Claim7.holds Tryz.pinned (.plain (OpenSpec.upto modelLooksSpec)) modelLooksUptoCard

/-- THE SECOND FORM's CARD OF 'reedbedlaw19.ModelCount'. -/
def modelCountUptoCard : Claim7 := { stood := { row := modelCountUptoRow, standIns := [], harness := (true, "3a6ca6f66216a344c67c84c102c416b405e17200e71b0c6fb85d7826047c564f"), looks := false }, kinds := [], alts := [], laidByText := true, laidKinds := [.data, .data, .data], laidTests := true, laidLooks := .later }
def ModelCountUptoCardSaid : Prop := Claim7.holds Tryz.pinned (.plain (OpenSpec.upto modelCountSpec)) modelCountUptoCard
end Rows
end Go.Proofs.YtjahiihmoglpfaaGreatDoor
