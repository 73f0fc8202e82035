/-
  Several texts in one: The row's closed facts, one theorem each (one declaration for all outgrows the kernel's memory over a great program). The card's closed facts, one theorem each.
-/
import Derived.Test.YtbifklibdkjbeaaGreatDoorRows
import Derived.Test.YtbifklibdkjbeaaGreatDoorMg1
import Derived.Test.YtbifklibdkjbeaaGreatDoorChecked
import Derived.JoinedOf
import Derived.KernelRfl
import Derived.Test.YtbifklibdkjbeaaGreatDoorCards
import Derived.SevenTiedAt
namespace Go.Proofs.YtbifklibdkjbeaaGreatDoor
open Go.RowKit
set_option linter.unusedVariables false
set_option linter.unusedSimpArgs false
set_option maxRecDepth 100000
end Go.Proofs.YtbifklibdkjbeaaGreatDoor
section
set_option linter.unusedVariables false
set_option linter.unusedSimpArgs false
namespace Go.Proofs.YtbifklibdkjbeaaGreatDoor.limitsGrow
set_option maxRecDepth 100000
abbrev FT := Program → FuncId → Func → ChangeSpec → OpenClaim → Bool
theorem band {a b : Bool} (h : a = true) (k : b = true) : (a && b) = true := by rw [h, k]; rfl
theorem fact0 : (fun P f fn s c => c.wf (OpenSpec.ofChange s) : FT) Tryz.prog 5 Tryz.f5 Rows.limitsGrowSpec Rows.limitsGrowRow = true := by kernel_rfl
theorem fact1 : (fun P f fn s c => laidOutB P : FT) Tryz.prog 5 Tryz.f5 Rows.limitsGrowSpec Rows.limitsGrowRow = true := by kernel_rfl
theorem fact2 : (fun P f fn s c => mapsRowed P : FT) Tryz.prog 5 Tryz.f5 Rows.limitsGrowSpec Rows.limitsGrowRow = true := by kernel_rfl
theorem fact3 : (fun P f fn s c => fn.params.all (P.readableRec ·) : FT) Tryz.prog 5 Tryz.f5 Rows.limitsGrowSpec Rows.limitsGrowRow = true := by kernel_rfl
theorem fact4 : (fun P f fn s c => namedTie P c.named s.vars : FT) Tryz.prog 5 Tryz.f5 Rows.limitsGrowSpec Rows.limitsGrowRow = true := by kernel_rfl
theorem fact5 : (fun P f fn s c => (c.stops == []) : FT) Tryz.prog 5 Tryz.f5 Rows.limitsGrowSpec Rows.limitsGrowRow = true := by kernel_rfl
theorem fact6 : (fun P f fn s c => (P.stops == []) : FT) Tryz.prog 5 Tryz.f5 Rows.limitsGrowSpec Rows.limitsGrowRow = true := by kernel_rfl
theorem fact7 : (fun P f fn s c => (c.knobs == []) : FT) Tryz.prog 5 Tryz.f5 Rows.limitsGrowSpec Rows.limitsGrowRow = true := by kernel_rfl
theorem fact8 : (fun P f fn s c => (P.stopKnobs == []) : FT) Tryz.prog 5 Tryz.f5 Rows.limitsGrowSpec Rows.limitsGrowRow = true := by kernel_rfl
theorem fact9 : (fun P f fn s c => (c.inPlace == P.inPlace f) : FT) Tryz.prog 5 Tryz.f5 Rows.limitsGrowSpec Rows.limitsGrowRow = true := by kernel_rfl
theorem xl7 : (fun P f fn s c => (c.unfollowed == P.unfollowed f) : FT) Tryz.prog 5 Tryz.f5 Rows.limitsGrowSpec Rows.limitsGrowRow = true := by kernel_rfl
theorem xl6 : (fun P f fn s c => (c.recurses == P.recurses f) : FT) Tryz.prog 5 Tryz.f5 Rows.limitsGrowSpec Rows.limitsGrowRow = true := by kernel_rfl
theorem xl5 : (fun P f fn s c => (c.named == P.varsNamed f) : FT) Tryz.prog 5 Tryz.f5 Rows.limitsGrowSpec Rows.limitsGrowRow = true := by kernel_rfl
theorem xl4 : (fun P f fn s c => (c.maps == (fn.params.toList ++ s.plain.varTypes P).any (P.mapsRec ·)) : FT) Tryz.prog 5 Tryz.f5 Rows.limitsGrowSpec Rows.limitsGrowRow = true := by kernel_rfl
theorem xl3 : (fun P f fn s c => (c.ifaces == (fn.params.toList ++ s.plain.varTypes P).any (P.ifacesRec ·)) : FT) Tryz.prog 5 Tryz.f5 Rows.limitsGrowSpec Rows.limitsGrowRow = true := by kernel_rfl
theorem xl2 : (fun P f fn s c => (c.mapsOut == P.mapsAmong fn.resultTypes.toList) : FT) Tryz.prog 5 Tryz.f5 Rows.limitsGrowSpec Rows.limitsGrowRow = true := by kernel_rfl
theorem xl1 : (fun P f fn s c => (c.loops == (fn.params.toList ++ s.plain.varTypes P).any (P.loopsFrom ·)) : FT) Tryz.prog 5 Tryz.f5 Rows.limitsGrowSpec Rows.limitsGrowRow = true := by kernel_rfl
theorem xl0 : (fun P f fn s c => (c.wideKeys == (fn.params.toList ++ s.plain.varTypes P ++ fn.resultTypes.toList).any (P.wideKeysFrom ·)) : FT) Tryz.prog 5 Tryz.f5 Rows.limitsGrowSpec Rows.limitsGrowRow = true := by kernel_rfl
theorem xlZ : (fun P f fn s c => s.vars.all (P.varReadable ·) : FT) Tryz.prog 5 Tryz.f5 Rows.limitsGrowSpec Rows.limitsGrowRow = true := by kernel_rfl
theorem xlY : (fun P f fn s c => fn.resultTypes.all (fun t => P.readableRec t && decide (t < P.types.size)) : FT) Tryz.prog 5 Tryz.f5 Rows.limitsGrowSpec Rows.limitsGrowRow = true := by kernel_rfl
theorem xlX : (fun P f fn s c => (c.ifacesOut == fn.resultTypes.toList.any (P.ifacesRec ·)) : FT) Tryz.prog 5 Tryz.f5 Rows.limitsGrowSpec Rows.limitsGrowRow = true := by kernel_rfl
theorem xlW : (fun P f fn s c => (c.loopsOut == fn.resultTypes.toList.any (P.loopsFrom ·)) : FT) Tryz.prog 5 Tryz.f5 Rows.limitsGrowSpec Rows.limitsGrowRow = true := by kernel_rfl
theorem xlV : (fun P f fn s c => (c.plainKeys == P.plainKeys) : FT) Tryz.prog 5 Tryz.f5 Rows.limitsGrowSpec Rows.limitsGrowRow = true := by kernel_rfl
theorem xlU : (fun P f fn s c => c.shortTexts.isNone : FT) Tryz.prog 5 Tryz.f5 Rows.limitsGrowSpec Rows.limitsGrowRow = true := by kernel_rfl
theorem xlT : (fun P f fn s c => P.stopsHeard : FT) Tryz.prog 5 Tryz.f5 Rows.limitsGrowSpec Rows.limitsGrowRow = true := by kernel_rfl
theorem xlS : (fun P f fn s c => P.mayEnter : FT) Tryz.prog 5 Tryz.f5 Rows.limitsGrowSpec Rows.limitsGrowRow = true := by kernel_rfl
theorem xlR : (fun P f fn s c => (c.lifted == P.liftsFinal) : FT) Tryz.prog 5 Tryz.f5 Rows.limitsGrowSpec Rows.limitsGrowRow = true := by kernel_rfl
theorem xlQ : (fun P f fn s c => (P.make == some c.make) : FT) Tryz.prog 5 Tryz.f5 Rows.limitsGrowSpec Rows.limitsGrowRow = true := by kernel_rfl
theorem xlP : (fun P f fn s c => (c.kinds == (if c.domain.isEmpty then [] else fn.params.toList.map fun t => match P.underlying t with | some (.int k) => some k | _ => none)) : FT) Tryz.prog 5 Tryz.f5 Rows.limitsGrowSpec Rows.limitsGrowRow = true := by kernel_rfl
theorem xlO : (fun P f fn s c => (c.pinned == c.pinnedBy) : FT) Tryz.prog 5 Tryz.f5 Rows.limitsGrowSpec Rows.limitsGrowRow = true := by kernel_rfl
theorem xlN : (fun P f fn s c => (c.veiled == (fn.params.toList ++ s.plain.varTypes P ++ fn.resultTypes.toList).any (P.veiledRec ·)) : FT) Tryz.prog 5 Tryz.f5 Rows.limitsGrowSpec Rows.limitsGrowRow = true := by kernel_rfl
theorem xlM : (fun P f fn s c => c.veiledFits P fn.params.toList (fn.params.toList ++ s.plain.varTypes P ++ fn.resultTypes.toList) : FT) Tryz.prog 5 Tryz.f5 Rows.limitsGrowSpec Rows.limitsGrowRow = true := by kernel_rfl
theorem xfD : joinedFacts Tryz.prog 5 Tryz.f5 Rows.limitsGrowSpec Rows.limitsGrowRow = true := (band (band (band (band (band (band (band (band (band (band (band (band (band (band (band (band (band (band (band (band (band (band (band (band (band (band (band (band (band (band (band fact0 fact1) fact2) fact3) fact4) fact5) fact6) fact7) fact8) fact9) xl7) xl6) xl5) xl4) xl3) xl2) xl1) xl0) xlZ) xlY) xlX) xlW) xlV) xlU) xlT) xlS) xlR) xlQ) xlP) xlO) xlN) xlM)
end Go.Proofs.YtbifklibdkjbeaaGreatDoor.limitsGrow
end
namespace Go.Proofs.YtbifklibdkjbeaaGreatDoor
open Go.RowKit
set_option maxRecDepth 100000
end Go.Proofs.YtbifklibdkjbeaaGreatDoor
section
set_option linter.unusedVariables false
set_option linter.unusedSimpArgs false
namespace Go.Proofs.YtbifklibdkjbeaaGreatDoor.limitsGrow
set_option maxRecDepth 100000
theorem xmp : Rows.limitsGrowRow.wfByText (OpenSpec.ofChange Rows.limitsGrowSpec) = true := by kernel_rfl
theorem xgk : Tryz.prog.mainIs = some (Rows.limitsGrowCard.stood.harness.1, Rows.limitsGrowCard.stood.harness.2.toList) := by kernel_rfl
theorem xeY : Tryz.prog.funcNamed "reedbed/reedbedlaw25.LimitsGrow" = some 5 := by kernel_rfl
theorem xeZ : true = Tryz.prog.looks [] := by kernel_rfl
theorem xeX : ([28, 62].all fun u => !Tryz.prog.wantsStandIn u) = true := by kernel_rfl
theorem xgl : false = Rows.limitsGrowRow.goesBy Tryz.prog := by kernel_rfl
end Go.Proofs.YtbifklibdkjbeaaGreatDoor.limitsGrow
end
namespace Go.Proofs.YtbifklibdkjbeaaGreatDoor
open Go.RowKit
set_option maxRecDepth 100000
end Go.Proofs.YtbifklibdkjbeaaGreatDoor
