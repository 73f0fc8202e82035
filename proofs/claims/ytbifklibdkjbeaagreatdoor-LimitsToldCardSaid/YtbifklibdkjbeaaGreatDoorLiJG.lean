/-
  The row's closed facts, one theorem each (one declaration for all outgrows the kernel's memory over a great program).
-/
import Derived.Test.YtbifklibdkjbeaaGreatDoorRows
import Derived.Test.YtbifklibdkjbeaaGreatDoorMg1
import Derived.Test.YtbifklibdkjbeaaGreatDoorChecked
import Derived.JoinedOf
import Derived.KernelRfl
namespace Go.Proofs.YtbifklibdkjbeaaGreatDoor
open Go.RowKit
set_option linter.unusedVariables false
set_option linter.unusedSimpArgs false
set_option maxRecDepth 100000
end Go.Proofs.YtbifklibdkjbeaaGreatDoor
section
set_option linter.unusedVariables false
set_option linter.unusedSimpArgs false
namespace Go.Proofs.YtbifklibdkjbeaaGreatDoor.limitsTold
set_option maxRecDepth 100000
theorem band {a b : Bool} (h : a = true) (k : b = true) : (a && b) = true := by rw [h, k]; rfl
theorem fact0 : (fun (P : Program) (f : FuncId) (fn : Func) (s : ChangeSpec) (c : OpenClaim) => (c.wf (OpenSpec.ofChange s) : Bool)) Tryz.prog 4 Tryz.f4 Rows.limitsToldSpec Rows.limitsToldRow = true := by kernel_rfl
theorem fact1 : (fun (P : Program) (f : FuncId) (fn : Func) (s : ChangeSpec) (c : OpenClaim) => (laidOutB P : Bool)) Tryz.prog 4 Tryz.f4 Rows.limitsToldSpec Rows.limitsToldRow = true := by kernel_rfl
theorem fact2 : (fun (P : Program) (f : FuncId) (fn : Func) (s : ChangeSpec) (c : OpenClaim) => (mapsRowed P : Bool)) Tryz.prog 4 Tryz.f4 Rows.limitsToldSpec Rows.limitsToldRow = true := by kernel_rfl
theorem fact3 : (fun (P : Program) (f : FuncId) (fn : Func) (s : ChangeSpec) (c : OpenClaim) => (fn.params.all (P.readableRec ·) : Bool)) Tryz.prog 4 Tryz.f4 Rows.limitsToldSpec Rows.limitsToldRow = true := by kernel_rfl
theorem fact4 : (fun (P : Program) (f : FuncId) (fn : Func) (s : ChangeSpec) (c : OpenClaim) => (namedTie P c.named s.vars : Bool)) Tryz.prog 4 Tryz.f4 Rows.limitsToldSpec Rows.limitsToldRow = true := by kernel_rfl
theorem fact5 : (fun (P : Program) (f : FuncId) (fn : Func) (s : ChangeSpec) (c : OpenClaim) => ((c.stops == []) : Bool)) Tryz.prog 4 Tryz.f4 Rows.limitsToldSpec Rows.limitsToldRow = true := by kernel_rfl
theorem fact6 : (fun (P : Program) (f : FuncId) (fn : Func) (s : ChangeSpec) (c : OpenClaim) => ((P.stops == []) : Bool)) Tryz.prog 4 Tryz.f4 Rows.limitsToldSpec Rows.limitsToldRow = true := by kernel_rfl
theorem fact7 : (fun (P : Program) (f : FuncId) (fn : Func) (s : ChangeSpec) (c : OpenClaim) => ((c.knobs == []) : Bool)) Tryz.prog 4 Tryz.f4 Rows.limitsToldSpec Rows.limitsToldRow = true := by kernel_rfl
theorem fact8 : (fun (P : Program) (f : FuncId) (fn : Func) (s : ChangeSpec) (c : OpenClaim) => ((P.stopKnobs == []) : Bool)) Tryz.prog 4 Tryz.f4 Rows.limitsToldSpec Rows.limitsToldRow = true := by kernel_rfl
theorem fact9 : (fun (P : Program) (f : FuncId) (fn : Func) (s : ChangeSpec) (c : OpenClaim) => ((c.inPlace == P.inPlace f) : Bool)) Tryz.prog 4 Tryz.f4 Rows.limitsToldSpec Rows.limitsToldRow = true := by kernel_rfl
theorem xl7 : (fun (P : Program) (f : FuncId) (fn : Func) (s : ChangeSpec) (c : OpenClaim) => ((c.unfollowed == P.unfollowed f) : Bool)) Tryz.prog 4 Tryz.f4 Rows.limitsToldSpec Rows.limitsToldRow = true := by kernel_rfl
theorem xl6 : (fun (P : Program) (f : FuncId) (fn : Func) (s : ChangeSpec) (c : OpenClaim) => ((c.recurses == P.recurses f) : Bool)) Tryz.prog 4 Tryz.f4 Rows.limitsToldSpec Rows.limitsToldRow = true := by kernel_rfl
theorem xl5 : (fun (P : Program) (f : FuncId) (fn : Func) (s : ChangeSpec) (c : OpenClaim) => ((c.named == P.varsNamed f) : Bool)) Tryz.prog 4 Tryz.f4 Rows.limitsToldSpec Rows.limitsToldRow = true := by kernel_rfl
theorem xl4 : (fun (P : Program) (f : FuncId) (fn : Func) (s : ChangeSpec) (c : OpenClaim) => ((c.maps == (fn.params.toList ++ s.plain.varTypes P).any (P.mapsRec ·)) : Bool)) Tryz.prog 4 Tryz.f4 Rows.limitsToldSpec Rows.limitsToldRow = true := by kernel_rfl
theorem xl3 : (fun (P : Program) (f : FuncId) (fn : Func) (s : ChangeSpec) (c : OpenClaim) => ((c.ifaces == (fn.params.toList ++ s.plain.varTypes P).any (P.ifacesRec ·)) : Bool)) Tryz.prog 4 Tryz.f4 Rows.limitsToldSpec Rows.limitsToldRow = true := by kernel_rfl
theorem xl2 : (fun (P : Program) (f : FuncId) (fn : Func) (s : ChangeSpec) (c : OpenClaim) => ((c.mapsOut == P.mapsAmong fn.resultTypes.toList) : Bool)) Tryz.prog 4 Tryz.f4 Rows.limitsToldSpec Rows.limitsToldRow = true := by kernel_rfl
theorem xl1 : (fun (P : Program) (f : FuncId) (fn : Func) (s : ChangeSpec) (c : OpenClaim) => ((c.loops == (fn.params.toList ++ s.plain.varTypes P).any (P.loopsFrom ·)) : Bool)) Tryz.prog 4 Tryz.f4 Rows.limitsToldSpec Rows.limitsToldRow = true := by kernel_rfl
theorem xl0 : (fun (P : Program) (f : FuncId) (fn : Func) (s : ChangeSpec) (c : OpenClaim) => ((c.wideKeys == (fn.params.toList ++ s.plain.varTypes P ++ fn.resultTypes.toList).any (P.wideKeysFrom ·)) : Bool)) Tryz.prog 4 Tryz.f4 Rows.limitsToldSpec Rows.limitsToldRow = true := by kernel_rfl
theorem xlZ : (fun (P : Program) (f : FuncId) (fn : Func) (s : ChangeSpec) (c : OpenClaim) => (s.vars.all (P.varReadable ·) : Bool)) Tryz.prog 4 Tryz.f4 Rows.limitsToldSpec Rows.limitsToldRow = true := by kernel_rfl
theorem xlY : (fun (P : Program) (f : FuncId) (fn : Func) (s : ChangeSpec) (c : OpenClaim) => (fn.resultTypes.all (fun t => P.readableRec t && decide (t < P.types.size)) : Bool)) Tryz.prog 4 Tryz.f4 Rows.limitsToldSpec Rows.limitsToldRow = true := by kernel_rfl
theorem xlX : (fun (P : Program) (f : FuncId) (fn : Func) (s : ChangeSpec) (c : OpenClaim) => ((c.ifacesOut == fn.resultTypes.toList.any (P.ifacesRec ·)) : Bool)) Tryz.prog 4 Tryz.f4 Rows.limitsToldSpec Rows.limitsToldRow = true := by kernel_rfl
theorem xlW : (fun (P : Program) (f : FuncId) (fn : Func) (s : ChangeSpec) (c : OpenClaim) => ((c.loopsOut == fn.resultTypes.toList.any (P.loopsFrom ·)) : Bool)) Tryz.prog 4 Tryz.f4 Rows.limitsToldSpec Rows.limitsToldRow = true := by kernel_rfl
theorem xlV : (fun (P : Program) (f : FuncId) (fn : Func) (s : ChangeSpec) (c : OpenClaim) => ((c.plainKeys == P.plainKeys) : Bool)) Tryz.prog 4 Tryz.f4 Rows.limitsToldSpec Rows.limitsToldRow = true := by kernel_rfl
theorem xlU : (fun (P : Program) (f : FuncId) (fn : Func) (s : ChangeSpec) (c : OpenClaim) => (c.shortTexts.isNone : Bool)) Tryz.prog 4 Tryz.f4 Rows.limitsToldSpec Rows.limitsToldRow = true := by kernel_rfl
theorem xlT : (fun (P : Program) (f : FuncId) (fn : Func) (s : ChangeSpec) (c : OpenClaim) => (P.stopsHeard : Bool)) Tryz.prog 4 Tryz.f4 Rows.limitsToldSpec Rows.limitsToldRow = true := by kernel_rfl
theorem xlS : (fun (P : Program) (f : FuncId) (fn : Func) (s : ChangeSpec) (c : OpenClaim) => (P.mayEnter : Bool)) Tryz.prog 4 Tryz.f4 Rows.limitsToldSpec Rows.limitsToldRow = true := by kernel_rfl
theorem xlR : (fun (P : Program) (f : FuncId) (fn : Func) (s : ChangeSpec) (c : OpenClaim) => ((c.lifted == P.liftsFinal) : Bool)) Tryz.prog 4 Tryz.f4 Rows.limitsToldSpec Rows.limitsToldRow = true := by kernel_rfl
theorem xlQ : (fun (P : Program) (f : FuncId) (fn : Func) (s : ChangeSpec) (c : OpenClaim) => ((P.make == some c.make) : Bool)) Tryz.prog 4 Tryz.f4 Rows.limitsToldSpec Rows.limitsToldRow = true := by kernel_rfl
theorem xlP : (fun (P : Program) (f : FuncId) (fn : Func) (s : ChangeSpec) (c : OpenClaim) => ((c.kinds == (if c.domain.isEmpty then [] else fn.params.toList.map fun t => match P.underlying t with | some (.int k) => some k | _ => none)) : Bool)) Tryz.prog 4 Tryz.f4 Rows.limitsToldSpec Rows.limitsToldRow = true := by kernel_rfl
theorem xlO : (fun (P : Program) (f : FuncId) (fn : Func) (s : ChangeSpec) (c : OpenClaim) => ((c.pinned == c.pinnedBy) : Bool)) Tryz.prog 4 Tryz.f4 Rows.limitsToldSpec Rows.limitsToldRow = true := by kernel_rfl
theorem xlN : (fun (P : Program) (f : FuncId) (fn : Func) (s : ChangeSpec) (c : OpenClaim) => ((c.veiled == (fn.params.toList ++ s.plain.varTypes P ++ fn.resultTypes.toList).any (P.veiledRec ·)) : Bool)) Tryz.prog 4 Tryz.f4 Rows.limitsToldSpec Rows.limitsToldRow = true := by kernel_rfl
theorem xlM : (fun (P : Program) (f : FuncId) (fn : Func) (s : ChangeSpec) (c : OpenClaim) => (c.veiledFits P fn.params.toList (fn.params.toList ++ s.plain.varTypes P ++ fn.resultTypes.toList) : Bool)) Tryz.prog 4 Tryz.f4 Rows.limitsToldSpec Rows.limitsToldRow = true := by kernel_rfl
theorem xfD : joinedFacts Tryz.prog 4 Tryz.f4 Rows.limitsToldSpec Rows.limitsToldRow = true := (band (band (band (band (band (band (band (band (band (band (band (band (band (band (band (band (band (band (band (band (band (band (band (band (band (band (band (band (band (band (band fact0 fact1) fact2) fact3) fact4) fact5) fact6) fact7) fact8) fact9) xl7) xl6) xl5) xl4) xl3) xl2) xl1) xl0) xlZ) xlY) xlX) xlW) xlV) xlU) xlT) xlS) xlR) xlQ) xlP) xlO) xlN) xlM)
end Go.Proofs.YtbifklibdkjbeaaGreatDoor.limitsTold
end
namespace Go.Proofs.YtbifklibdkjbeaaGreatDoor
open Go.RowKit
set_option maxRecDepth 100000
end Go.Proofs.YtbifklibdkjbeaaGreatDoor
