/-
  The named sets: plain words and the walk of the document's own 'Named'.
-/
import Derived.Test.YtinogeobkljngaaDoorSetLaw
import Derived.Deep.Cut
import Derived.Deep.CutRange
namespace Go.Proofs.YtinogeobkljngaaDoor
open Go.RowKit
set_option linter.unusedVariables false
set_option linter.unusedSimpArgs false
set_option maxRecDepth 100000

def digB (r : Int) : Bool := decide (48 ≤ r) && decide (r ≤ 57)
def wrdB (r : Int) : Bool := digB r || (decide (65 ≤ r) && decide (r ≤ 90)) || (decide (97 ≤ r) && decide (r ≤ 122)) || decide (r = 95)
def spcB (r : Int) : Bool := decide (r = 32) || (decide (9 ≤ r) && decide (r ≤ 13))
/-- What a name says of a number, and whether it is a name. -/
def namB (c r : Int) : Bool :=
  if c = 100 then digB r else if c = 119 then wrdB r else if c = 115 then spcB r else if c = 68 then !digB r else if c = 87 then !wrdB r else if c = 83 then !spcB r else false
def okN (c : Int) : Bool := decide (c = 100) || decide (c = 119) || decide (c = 115) || decide (c = 68) || decide (c = 87) || decide (c = 83)

structure FinN (r : Int) (d w s : Bool) : Prop where
  a1 : namB 100 r = d ∧ okN 100 = true
  a2 : namB 119 r = w ∧ okN 119 = true
  a3 : namB 115 r = s ∧ okN 115 = true
  a4 : namB 68 r = !d ∧ okN 68 = true
  a5 : namB 87 r = !w ∧ okN 87 = true
  a6 : namB 83 r = !s ∧ okN 83 = true
  a7 : ∀ c : Int, c ≠ 100 → c ≠ 119 → c ≠ 115 → c ≠ 68 → c ≠ 87 → c ≠ 83 → namB c r = false ∧ okN c = false
theorem fin_named (r : Int) {d w s : Bool} (hd : digB r = d) (hw : wrdB r = w) (hs : spcB r = s) : FinN r d w s := by
  subst hd hw hs
  exact ⟨⟨rfl, rfl⟩, ⟨rfl, rfl⟩, ⟨rfl, rfl⟩, ⟨rfl, rfl⟩, ⟨rfl, rfl⟩, ⟨rfl, rfl⟩, fun c h1 h2 h3 h4 h5 h6 => ⟨by simp [namB, h1, h2, h3, h4, h5, h6], by simp [okN, h1, h2, h3, h4, h5, h6]⟩⟩
end Go.Proofs.YtinogeobkljngaaDoor
