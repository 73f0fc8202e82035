/-
  text.Print at the law's own deed.
-/
import Derived.Test.YtibfioekmpnkgaaDoorTextO
import Derived.Test.YtibfioekmpnkgaaDoorTextF
import Derived.Deep.RegionHeld3
import Derived.Deep.AppendLies
import Derived.Deep.Cut
import Derived.Deep.CutRange
namespace Go.Proofs.YtibfioekmpnkgaaDoor
open Go.RowKit
set_option linter.unusedVariables false
set_option linter.unusedSimpArgs false
set_option maxRecDepth 100000

/-- The law's deed, cell by cell. -/
def dcells : Array Value := #[.int .i64 3, .int .i64 1, .int .i64 0, .string ⟨#[97, 32, 98]⟩, .slice none 0 0, .slice none 0 0, .slice none 0 0, .int .i64 0, .int .i64 0, .int .i64 0, .string ⟨#[]⟩, .int .i64 0, .int .i64 0, .int .i64 0, .int .i64 0, .int .i64 0, .int .i64 0, .int .i64 0, .int .i64 0, .int .i64 0, .int .i64 0, .int .i64 0]
def outOf (o : Nat) : List UInt8 := if o = 1 then [49] else if o = 3 then [97, 37, 50, 48, 98] else []
def fsA (D : Nat) : List Fld := flds.map fun f => ⟨f.1, f.2.1, ⟨D, f.2.2, none⟩, outOf f.2.2⟩
def runS : ByteArray := ⟨#[114, 117, 110, 58, 49]⟩
def noteS : ByteArray := ⟨#[110, 111, 116, 101, 58, 97, 37, 50, 48, 98]⟩
theorem told_fsA (D : Nat) : toldL (fsA D) = [runS, noteS] := by rfl
theorem fsA_cells (D : Nat) : ∀ (i : Nat) (f : Fld), (fsA D)[i]? = some f → (fieldCells D)[i * 2]? = some (.string ⟨f.nm.toArray⟩) ∧ (fieldCells D)[i * 2 + 1]? = some (.iface f.T (.agg #[.pointer (some f.a)])) := by
  intro i f h
  have hi : i < 21 := by
    have h1 := (List.getElem?_eq_some_iff.1 h).1
    have h2 : (fsA D).length = 21 := rfl
    omega
  match i, hi with
  | 0, _ | 1, _ | 2, _ | 3, _ | 4, _ | 5, _ | 6, _ | 7, _ | 8, _ | 9, _ | 10, _ | 11, _ | 12, _ | 13, _ | 14, _ | 15, _ | 16, _ | 17, _ | 18, _ | 19, _ | 20, _ => cases h; exact ⟨rfl, rfl⟩
theorem fsA_prt (D : Nat) (w : World) (hd : ∀ o, w.cell? ⟨D, o, none⟩ = dcells[o]?) : ∀ f ∈ fsA D, Prt w f ∧ f.nm.length ≤ 100 := by
  intro f hf
  obtain ⟨i, hi⟩ := List.mem_iff_getElem?.1 hf
  have hi' : i < 21 := by
    have h1 := (List.getElem?_eq_some_iff.1 hi).1
    have h2 : (fsA D).length = 21 := rfl
    omega
  match i, hi' with
  | 0, _ => cases hi; exact ⟨Or.inl ⟨rfl, Or.inr ⟨1, by decide, by decide, by rw [hd]; rfl, by rw [Lib.decDigits_one (by decide)]; rfl⟩⟩, by simp⟩
  | 2, _ => cases hi; exact ⟨Or.inr (Or.inl ⟨rfl, [97, 32, 98], by decide, by rw [hd]; rfl, rfl⟩), by simp⟩
  | 9, _ => cases hi; exact ⟨Or.inr (Or.inl ⟨rfl, [], by decide, by rw [hd]; rfl, rfl⟩), by simp⟩
  | 3, _ | 5, _ => cases hi; exact ⟨Or.inr (Or.inr ⟨Or.inl rfl, by rw [hd]; rfl, rfl⟩), by simp⟩
  | 4, _ => cases hi; exact ⟨Or.inr (Or.inr ⟨Or.inr rfl, by rw [hd]; rfl, rfl⟩), by simp⟩
  | 1, _ | 6, _ | 7, _ | 8, _ | 10, _ | 11, _ | 12, _ | 13, _ | 14, _ | 15, _ | 16, _ | 17, _ | 18, _ | 19, _ | 20, _ => cases hi; exact ⟨Or.inl ⟨rfl, Or.inl ⟨by rw [hd]; rfl, rfl⟩⟩, by simp⟩

theorem toldK (D fb : Nat) (w : World) (hf : w.heap[fb]? = some (.cells (fieldCells D) 54 (0, 0))) (hd : ∀ o, w.cell? ⟨D, o, none⟩ = dcells[o]?) :
    Calls Tryd.prog 13 #[.slice (some ⟨fb, 0, none⟩) 21 21] w fun e w' => ∃ tb tc, e = .returned (.slice (some ⟨tb, 0, none⟩) 2 tc) ∧ w'.cell? ⟨tb, 0, none⟩ = some (.string runS) ∧ w'.cell? ⟨tb, 1, none⟩ = some (.string noteS) ∧ Keeps (fun _ => False) w w' := by
  have h := told_any (fsA D) fb 21 w (show 21 ≤ 100 by omega) (show 21 ≤ 21 by omega) (fun i f hi => by
    obtain ⟨a, b⟩ := fsA_cells D i f hi
    obtain ⟨c, d⟩ := fsA_prt D w hd f (List.mem_of_getElem? hi)
    refine ⟨?_, ?_, c, d⟩
    · rw [cell_block hf]; exact a
    · rw [cell_block hf]; exact b)
  refine Calls.mono h ?_
  rintro e w' ⟨v, rfl, hown, hk⟩
  rw [told_fsA] at hown
  obtain ⟨_, h2⟩ := id hown
  rcases h2 with ⟨_, h0⟩ | ⟨g, cap, cur, rfl, _⟩
  · cases h0
  · have c0 := hown.cells (g := g) rfl 0 (.string runS) rfl
    have c1 := hown.cells (g := g) rfl 1 (.string noteS) rfl
    exact ⟨g, cap, rfl, c0, c1, hk⟩
end Go.Proofs.YtibfioekmpnkgaaDoor
