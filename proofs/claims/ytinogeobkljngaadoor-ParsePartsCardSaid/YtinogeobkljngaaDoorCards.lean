/-
  DERIVED. GIVEN WITH THE SEED: THE CARDS: each row of YtinogeobkljngaaDoorRows.lean that lists a variable, with what it lists TIED to the program's text (the seventh form; the later family's looks); each row that meets fmt, with fmt's text TOLD by the authors' own Lean function (tested against real Go, not proved from fmt's source: count such statements apart). THE CARD IS WHAT COUNTS. Prove the row's statement (the work); the ties are given (YtinogeobkljngaaDoorTie.lean); close each card by the builder's one call (the guide's Derived/Test/ToyasCard.lean, 'card_holds'). Laid BY PROGRAM, IN A SANDBOX (cutbox-door.mjs). By AI agents, Wed Nov 11 2026. No macro, syntax, notation, axiom, sorry.
-/
import Derived.Test.YtinogeobkljngaaDoorRows
import GoSem.ClaimSeven
namespace Go.Proofs.YtinogeobkljngaaDoor
namespace Rows

/-- THE TIED CARD OF 'reedbedlaw09.ParseParts'. -/
def parsePartsCard : Claim7 := { stood := { row := parsePartsRow, standIns := [], harness := (true, "3271697faabbc350ae6441c98ee77f78e777744c6675835302d1df4d68c21d59"), looks := false }, kinds := [], alts := [], laidByText := true, laidKinds := [.data, .data, .data], laidTests := true, laidLooks := .later }
def ParsePartsCardSaid : Prop := Claim7.holds Tryd.pinned (.plain (OpenSpec.ofChange parsePartsSpec)) parsePartsCard

/-- THE TIED CARD OF 'reedbedlaw09.ParseCounts'. -/
def parseCountsCard : Claim7 := { stood := { row := parseCountsRow, standIns := [], harness := (true, "3271697faabbc350ae6441c98ee77f78e777744c6675835302d1df4d68c21d59"), looks := false }, kinds := [], alts := [], laidByText := true, laidKinds := [.data, .data, .data], laidTests := true, laidLooks := .later }
def ParseCountsCardSaid : Prop := Claim7.holds Tryd.pinned (.plain (OpenSpec.ofChange parseCountsSpec)) parseCountsCard

/-- THE TIED CARD OF 'reedbedlaw09.ParseShows'. -/
def parseShowsCard : Claim7 := { stood := { row := parseShowsRow, standIns := [], harness := (true, "3271697faabbc350ae6441c98ee77f78e777744c6675835302d1df4d68c21d59"), looks := false }, kinds := [], alts := [], laidByText := true, laidKinds := [.data, .data, .data], laidTests := true, laidLooks := .later }
def ParseShowsCardSaid : Prop := Claim7.holds Tryd.pinned (.plain (OpenSpec.ofChange parseShowsSpec)) parseShowsCard

/-- THE TIED CARD OF 'reedbedlaw09.ParseTrees'. -/
def parseTreesCard : Claim7 := { stood := { row := parseTreesRow, standIns := [], harness := (true, "3271697faabbc350ae6441c98ee77f78e777744c6675835302d1df4d68c21d59"), looks := false }, kinds := [], alts := [], laidByText := true, laidKinds := [.data, .data, .data], laidTests := true, laidLooks := .later }
def ParseTreesCardSaid : Prop := Claim7.holds Tryd.pinned (.plain (OpenSpec.ofChange parseTreesSpec)) parseTreesCard

/-- THE SECOND FORM's CARD OF 'reedbedlaw09.ParseParts'. -/
def parsePartsUptoCard : Claim7 := { stood := { row := parsePartsUptoRow, standIns := [], harness := (true, "3271697faabbc350ae6441c98ee77f78e777744c6675835302d1df4d68c21d59"), looks := false }, kinds := [], alts := [], laidByText := true, laidKinds := [.data, .data, .data], laidTests := true, laidLooks := .later }
def ParsePartsUptoCardSaid : Prop := Claim7.holds Tryd.pinned (.plain (OpenSpec.upto parsePartsSpec)) parsePartsUptoCard

/-- THE SECOND FORM's CARD OF 'reedbedlaw09.ParseCounts'. -/
def parseCountsUptoCard : Claim7 := { stood := { row := parseCountsUptoRow, standIns := [], harness := (true, "3271697faabbc350ae6441c98ee77f78e777744c6675835302d1df4d68c21d59"), looks := false }, kinds := [], alts := [], laidByText := true, laidKinds := [.data, .data, .data], laidTests := true, laidLooks := .later }
def ParseCountsUptoCardSaid : Prop := Claim7.holds Tryd.pinned (.plain (OpenSpec.upto parseCountsSpec)) parseCountsUptoCard

/-- THE SECOND FORM's CARD OF 'reedbedlaw09.ParseShows'. -/
def parseShowsUptoCard : Claim7 := { stood := { row := parseShowsUptoRow, standIns := [], harness := (true, "3271697faabbc350ae6441c98ee77f78e777744c6675835302d1df4d68c21d59"), looks := false }, kinds := [], alts := [], laidByText := true, laidKinds := [.data, .data, .data], laidTests := true, laidLooks := .later }
def ParseShowsUptoCardSaid : Prop := Claim7.holds Tryd.pinned (.plain (OpenSpec.upto parseShowsSpec)) parseShowsUptoCard

/-- THE SECOND FORM's CARD OF 'reedbedlaw09.ParseTrees'. -/
def parseTreesUptoCard : Claim7 := { stood := { row := parseTreesUptoRow, standIns := [], harness := (true, "3271697faabbc350ae6441c98ee77f78e777744c6675835302d1df4d68c21d59"), looks := false }, kinds := [], alts := [], laidByText := true, laidKinds := [.data, .data, .data], laidTests := true, laidLooks := .later }
def ParseTreesUptoCardSaid : Prop := Claim7.holds Tryd.pinned (.plain (OpenSpec.upto parseTreesSpec)) parseTreesUptoCard
end Rows
end Go.Proofs.YtinogeobkljngaaDoor
