/-
  DERIVED. GIVEN WITH THE SEED: THE CARDS: each row of YtgobcnheemocnaaGreatDoorRows.lean that lists a variable, with what it lists TIED to the program's text (the seventh form; the later family's looks); each row that meets fmt, with fmt's text TOLD by the authors' own Lean function (tested against real Go, not proved from fmt's source: count such statements apart). THE CARD IS WHAT COUNTS. Prove the row's statement (the work); the ties are given (YtgobcnheemocnaaGreatDoorTie.lean); close each card by the builder's one call (the guide's Derived/Test/ToyasCard.lean, 'card_holds'). Laid BY PROGRAM, IN A SANDBOX (cutbox-door.mjs). By AI agents, Wed Nov 11 2026. No macro, syntax, notation, axiom, sorry.
-/
import Derived.Test.YtgobcnheemocnaaGreatDoorRows
import GoSem.ClaimSeven
namespace Go.Proofs.YtgobcnheemocnaaGreatDoor
namespace Rows

/-- THE TIED CARD OF 'reedbedlaw22.FarmAlone'. -/
def farmAloneCard : Claim7 := { stood := { row := farmAloneRow, standIns := [], harness := (true, "8e2fb7c2fbe9add4026a2c17d80649bc2d12e1409b66577a90f35ac43c27a624"), looks := true }, kinds := [], alts := [], laidByText := true, laidKinds := [.data, .data, .data], laidTests := true, laidLooks := .later }
def FarmAloneCardSaid : Prop := Claim7.holds Tryz.pinned (.plain (OpenSpec.ofChange farmAloneSpec)) farmAloneCard

/-- THE SECOND FORM's CARD OF 'reedbedlaw22.FarmAlone'. -/
def farmAloneUptoCard : Claim7 := { stood := { row := farmAloneUptoRow, standIns := [], harness := (true, "8e2fb7c2fbe9add4026a2c17d80649bc2d12e1409b66577a90f35ac43c27a624"), looks := true }, kinds := [], alts := [], laidByText := true, laidKinds := [.data, .data, .data], laidTests := true, laidLooks := .later }
def FarmAloneUptoCardSaid : Prop := Claim7.holds Tryz.pinned (.plain (OpenSpec.upto farmAloneSpec)) farmAloneUptoCard
end Rows
end Go.Proofs.YtgobcnheemocnaaGreatDoor
