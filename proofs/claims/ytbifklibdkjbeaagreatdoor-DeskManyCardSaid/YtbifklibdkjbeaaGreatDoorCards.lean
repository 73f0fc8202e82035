/-
  DERIVED. GIVEN WITH THE SEED: THE CARDS: each row of YtbifklibdkjbeaaGreatDoorRows.lean that lists a variable, with what it lists TIED to the program's text (the seventh form; the later family's looks); each row that meets fmt, with fmt's text TOLD by the authors' own Lean function (tested against real Go, not proved from fmt's source: count such statements apart). THE CARD IS WHAT COUNTS. Prove the row's statement (the work); the ties are given (YtbifklibdkjbeaaGreatDoorTie.lean); close each card by the builder's one call (the guide's Derived/Test/ToyasCard.lean, 'card_holds'). Laid BY PROGRAM, IN A SANDBOX (cutbox-door.mjs). By AI agents, Wed Nov 11 2026. No macro, syntax, notation, axiom, sorry.
-/
import Derived.Test.YtbifklibdkjbeaaGreatDoorRows
import GoSem.ClaimSeven
namespace Go.Proofs.YtbifklibdkjbeaaGreatDoor
namespace Rows

/-- THE TIED CARD OF 'reedbedlaw22.FarmAlone'. -/
def farmAloneCard : Claim7 := { stood := { row := farmAloneRow, standIns := [], harness := (true, "990a906919b3f0c1260c35f1d448ffeae84d3247dc4040760db8e56a807d1ed2"), looks := true }, kinds := [], alts := [], laidByText := true, laidKinds := [.data, .data, .data], laidTests := true, laidLooks := .later }
def FarmAloneCardSaid : Prop := Claim7.holds Tryz.pinned (.plain (OpenSpec.ofChange farmAloneSpec)) farmAloneCard

/-- THE TIED CARD OF 'reedbedlaw25.LimitsTold'. -/
def limitsToldCard : Claim7 := { stood := { row := limitsToldRow, standIns := [], harness := (true, "990a906919b3f0c1260c35f1d448ffeae84d3247dc4040760db8e56a807d1ed2"), looks := true }, kinds := [], alts := [], laidByText := true, laidKinds := [.data, .data, .data], laidTests := true, laidLooks := .later }
def LimitsToldCardSaid : Prop := Claim7.holds Tryz.pinned (.plain (OpenSpec.ofChange limitsToldSpec)) limitsToldCard

/-- THE TIED CARD OF 'reedbedlaw25.LimitsGrow'. -/
def limitsGrowCard : Claim7 := { stood := { row := limitsGrowRow, standIns := [], harness := (true, "990a906919b3f0c1260c35f1d448ffeae84d3247dc4040760db8e56a807d1ed2"), looks := true }, kinds := [], alts := [], laidByText := true, laidKinds := [.data, .data, .data], laidTests := true, laidLooks := .later }
def LimitsGrowCardSaid : Prop := Claim7.holds Tryz.pinned (.plain (OpenSpec.ofChange limitsGrowSpec)) limitsGrowCard

/-- THE TIED CARD OF 'reedbedlaw27.DeskMany'. -/
def deskManyCard : Claim7 := { stood := { row := deskManyRow, standIns := [], harness := (true, "990a906919b3f0c1260c35f1d448ffeae84d3247dc4040760db8e56a807d1ed2"), looks := true }, kinds := [], alts := [], laidByText := true, laidKinds := [.data, .data, .data], laidTests := true, laidLooks := .later }
def DeskManyCardSaid : Prop := Claim7.holds Tryz.pinned (.plain (OpenSpec.ofChange deskManySpec)) deskManyCard

/-- THE SECOND FORM's CARD OF 'reedbedlaw22.FarmAlone'. -/
def farmAloneUptoCard : Claim7 := { stood := { row := farmAloneUptoRow, standIns := [], harness := (true, "990a906919b3f0c1260c35f1d448ffeae84d3247dc4040760db8e56a807d1ed2"), looks := true }, kinds := [], alts := [], laidByText := true, laidKinds := [.data, .data, .data], laidTests := true, laidLooks := .later }
def FarmAloneUptoCardSaid : Prop := Claim7.holds Tryz.pinned (.plain (OpenSpec.upto farmAloneSpec)) farmAloneUptoCard

/-- THE SECOND FORM's CARD OF 'reedbedlaw25.LimitsTold'. -/
def limitsToldUptoCard : Claim7 := { stood := { row := limitsToldUptoRow, standIns := [], harness := (true, "990a906919b3f0c1260c35f1d448ffeae84d3247dc4040760db8e56a807d1ed2"), looks := true }, kinds := [], alts := [], laidByText := true, laidKinds := [.data, .data, .data], laidTests := true, laidLooks := .later }
def LimitsToldUptoCardSaid : Prop := Claim7.holds Tryz.pinned (.plain (OpenSpec.upto limitsToldSpec)) limitsToldUptoCard

/-- THE SECOND FORM's CARD OF 'reedbedlaw25.LimitsGrow'. -/
def limitsGrowUptoCard : Claim7 := { stood := { row := limitsGrowUptoRow, standIns := [], harness := (true, "990a906919b3f0c1260c35f1d448ffeae84d3247dc4040760db8e56a807d1ed2"), looks := true }, kinds := [], alts := [], laidByText := true, laidKinds := [.data, .data, .data], laidTests := true, laidLooks := .later }
def LimitsGrowUptoCardSaid : Prop := Claim7.holds Tryz.pinned (.plain (OpenSpec.upto limitsGrowSpec)) limitsGrowUptoCard

/-- THE SECOND FORM's CARD OF 'reedbedlaw27.DeskMany'. -/
def deskManyUptoCard : Claim7 := { stood := { row := deskManyUptoRow, standIns := [], harness := (true, "990a906919b3f0c1260c35f1d448ffeae84d3247dc4040760db8e56a807d1ed2"), looks := true }, kinds := [], alts := [], laidByText := true, laidKinds := [.data, .data, .data], laidTests := true, laidLooks := .later }
def DeskManyUptoCardSaid : Prop := Claim7.holds Tryz.pinned (.plain (OpenSpec.upto deskManySpec)) deskManyUptoCard
end Rows
end Go.Proofs.YtbifklibdkjbeaaGreatDoor
