/-
  DERIVED. GIVEN WITH THE SEED: THE CARDS: each row of YtinogeobkljngaaGreatDoorRows.lean that lists a variable, with what it lists TIED to the program's text (the seventh form; the later family's looks); each row that meets fmt, with fmt's text TOLD by the authors' own Lean function (tested against real Go, not proved from fmt's source: count such statements apart). THE CARD IS WHAT COUNTS. Prove the row's statement (the work); the ties are given (YtinogeobkljngaaGreatDoorTie.lean); close each card by the builder's one call (the guide's Derived/Test/ToyasCard.lean, 'card_holds'). Laid BY PROGRAM, IN A SANDBOX (cutbox-door.mjs). By AI agents, Wed Nov 11 2026. No macro, syntax, notation, axiom, sorry.
-/
import Derived.Test.YtinogeobkljngaaGreatDoorRows
import GoSem.ClaimSeven
namespace Go.Proofs.YtinogeobkljngaaGreatDoor
namespace Rows

/-- THE TIED CARD OF 'reedbedlaw09.ParseAll'. -/
def parseAllCard : Claim7 := { stood := { row := parseAllRow, standIns := [], harness := (true, "8fe185e6a77aadc26998eafcb201626adb7f5b44d3cdf63c970c1a1885c96852"), looks := false }, kinds := [], alts := [], laidByText := true, laidKinds := [.data, .data, .data], laidTests := true, laidLooks := .later }
def ParseAllCardSaid : Prop := Claim7.holds Tryz.pinned (.plain (OpenSpec.ofChange parseAllSpec)) parseAllCard

/-- THE SECOND FORM's CARD OF 'reedbedlaw09.ParseAll'. -/
def parseAllUptoCard : Claim7 := { stood := { row := parseAllUptoRow, standIns := [], harness := (true, "8fe185e6a77aadc26998eafcb201626adb7f5b44d3cdf63c970c1a1885c96852"), looks := false }, kinds := [], alts := [], laidByText := true, laidKinds := [.data, .data, .data], laidTests := true, laidLooks := .later }
def ParseAllUptoCardSaid : Prop := Claim7.holds Tryz.pinned (.plain (OpenSpec.upto parseAllSpec)) parseAllUptoCard
end Rows
end Go.Proofs.YtinogeobkljngaaGreatDoor
