/-
  The row's closed facts, one theorem each (one declaration for all outgrows the kernel's memory over a great program).
-/
import Derived.Test.YtgobcnheemocnaaGreatDoorRows
import Derived.Test.YtgobcnheemocnaaGreatDoorMg1
import Derived.Test.YtgobcnheemocnaaGreatDoorChecked
import Derived.JoinedOf
import Derived.KernelRfl
namespace Go.Proofs.YtgobcnheemocnaaGreatDoor.farmAlone
set_option linter.unusedVariables false
set_option maxRecDepth 100000
theorem band {a b : Bool} (h : a = true) (k : b = true) : (a && b) = true := by rw [h, k]; rfl
noncomputable def ft (g : Program → FuncId → Func → ChangeSpec → OpenClaim → Bool) : Bool := g Tryz.prog 3 Tryz.f3 Rows.farmAloneSpec Rows.farmAloneRow
theorem fact0 : ft (fun P f fn s c => c.wf (OpenSpec.ofChange s)) = true := by kernel_rfl
theorem fact1 : ft (fun P f fn s c => laidOutB P) = true := by kernel_rfl
theorem fact2 : ft (fun P f fn s c => mapsRowed P) = true := by kernel_rfl
theorem fact3 : ft (fun P f fn s c => fn.params.all (P.readableRec ·)) = true := by kernel_rfl
theorem fact4 : ft (fun P f fn s c => namedTie P c.named s.vars) = true := by kernel_rfl
theorem fact5 : ft (fun P f fn s c => (c.stops == [])) = true := by kernel_rfl
theorem fact6 : ft (fun P f fn s c => (P.stops == [])) = true := by kernel_rfl
theorem fact7 : ft (fun P f fn s c => (c.knobs == [])) = true := by kernel_rfl
theorem fact8 : ft (fun P f fn s c => (P.stopKnobs == [])) = true := by kernel_rfl
theorem fact9 : ft (fun P f fn s c => (c.inPlace == P.inPlace f)) = true := by kernel_rfl
theorem fact10 : ft (fun P f fn s c => (c.unfollowed == P.unfollowed f)) = true := by kernel_rfl
theorem fact11 : ft (fun P f fn s c => (c.recurses == P.recurses f)) = true := by kernel_rfl
theorem fact12 : ft (fun P f fn s c => (c.named == P.varsNamed f)) = true := by kernel_rfl
theorem fact13 : ft (fun P f fn s c => (c.maps == (fn.params.toList ++ s.plain.varTypes P).any (P.mapsRec ·))) = true := by kernel_rfl
theorem fact14 : ft (fun P f fn s c => (c.ifaces == (fn.params.toList ++ s.plain.varTypes P).any (P.ifacesRec ·))) = true := by kernel_rfl
theorem fact15 : ft (fun P f fn s c => (c.mapsOut == P.mapsAmong fn.resultTypes.toList)) = true := by kernel_rfl
theorem fact16 : ft (fun P f fn s c => (c.loops == (fn.params.toList ++ s.plain.varTypes P).any (P.loopsFrom ·))) = true := by kernel_rfl
theorem fact17 : ft (fun P f fn s c => (c.wideKeys == (fn.params.toList ++ s.plain.varTypes P ++ fn.resultTypes.toList).any (P.wideKeysFrom ·))) = true := by kernel_rfl
theorem fact18 : ft (fun P f fn s c => s.vars.all (P.varReadable ·)) = true := by kernel_rfl
theorem fact19 : ft (fun P f fn s c => fn.resultTypes.all (fun t => P.readableRec t && decide (t < P.types.size))) = true := by kernel_rfl
theorem fact20 : ft (fun P f fn s c => (c.ifacesOut == fn.resultTypes.toList.any (P.ifacesRec ·))) = true := by kernel_rfl
theorem fact21 : ft (fun P f fn s c => (c.loopsOut == fn.resultTypes.toList.any (P.loopsFrom ·))) = true := by kernel_rfl
theorem fact22 : ft (fun P f fn s c => (c.plainKeys == P.plainKeys)) = true := by kernel_rfl
theorem fact23 : ft (fun P f fn s c => c.shortTexts.isNone) = true := by kernel_rfl
theorem fact24 : ft (fun P f fn s c => P.stopsHeard) = true := by kernel_rfl
theorem fact25 : ft (fun P f fn s c => P.mayEnter) = true := by kernel_rfl
theorem fact26 : ft (fun P f fn s c => (c.lifted == P.liftsFinal)) = true := by kernel_rfl
theorem fact27 : ft (fun P f fn s c => (P.make == some c.make)) = true := by kernel_rfl
theorem fact28 : ft (fun P f fn s c => (c.kinds == (if c.domain.isEmpty then [] else fn.params.toList.map fun t => match P.underlying t with | some (.int k) => some k | _ => none))) = true := by kernel_rfl
theorem fact29 : ft (fun P f fn s c => (c.pinned == c.pinnedBy)) = true := by kernel_rfl
theorem fact30 : ft (fun P f fn s c => (c.veiled == (fn.params.toList ++ s.plain.varTypes P ++ fn.resultTypes.toList).any (P.veiledRec ·))) = true := by kernel_rfl
theorem fact31 : ft (fun P f fn s c => c.veiledFits P fn.params.toList (fn.params.toList ++ s.plain.varTypes P ++ fn.resultTypes.toList)) = true := by kernel_rfl
theorem joined : joinedFacts Tryz.prog 3 Tryz.f3 Rows.farmAloneSpec Rows.farmAloneRow = true := (band (band (band (band (band (band (band (band (band (band (band (band (band (band (band (band (band (band (band (band (band (band (band (band (band (band (band (band (band (band (band fact0 fact1) fact2) fact3) fact4) fact5) fact6) fact7) fact8) fact9) fact10) fact11) fact12) fact13) fact14) fact15) fact16) fact17) fact18) fact19) fact20) fact21) fact22) fact23) fact24) fact25) fact26) fact27) fact28) fact29) fact30) fact31)
end Go.Proofs.YtgobcnheemocnaaGreatDoor.farmAlone
