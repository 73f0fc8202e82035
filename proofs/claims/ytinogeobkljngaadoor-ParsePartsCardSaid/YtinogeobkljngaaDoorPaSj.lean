/-
  strings.Join over a row of texts that the call owns; strconv.Itoa where its table lies.
-/
import Derived.Test.YtinogeobkljngaaDoorPaShP
import Derived.Test.YtinogeobkljngaaDoorShelf
import Derived.Lib.SmallJoins
import Derived.Lib.AppendIntMem
namespace Go.Proofs.YtinogeobkljngaaDoor
open Go.RowKit
open Go.Sort (grow)
set_option linter.unusedVariables false
set_option linter.unusedSimpArgs false
set_option maxRecDepth 100000

/-- The table of powers of ten lies in the world. -/
def TabW (w : World) : Prop := Lib.TabIs Tryd.prog w "internal/strconv.uint64pow10" .u64 Lib.pow10Tab
theorem tab_named : Tryd.prog.globalNamed "internal/strconv.uint64pow10" = some 0 := by kernel_rfl
theorem TabW.keeps {w w' : World} (h : TabW w) (K : Keeps (fun _ => False) w w') : TabW w' := Go.Joins.tab_stays tab_named h K.belowAll (Nat.le_refl _)
theorem keeps_grow (w : World) (os : Array Obj) (k : Nat) : Keeps (fun _ => False) w (grow (w.drewN k) os) := 
  Keeps.ofBelowAll (Lib.below_grow _ w (Nat.le_refl _) k os) _
theorem itoa_any (n : Int) (w : World) (h : in64 n) (ht : TabW w) : Calls Tryd.prog 23 #[.int .i64 n] w fun e w' => e = .returned (strL (Lib.itoa n)) ∧ Keeps (fun _ => False) w w' :=
  (Tryd.strconv_Itoa n h.1 h.2 w ht).mono fun e w' ⟨h1, k, os, h2⟩ => ⟨h1, by rw [h2]; exact keeps_grow _ _ _⟩
theorem joinOwn_any (v : Value) (base : Nat) (xs : List (List UInt8)) (sep : List UInt8) (w : World) (h : w.ownsRow base 9 1 v xs.length (xs.map strL)) (hN : xs.length ≤ 1000000) (hlen : (Lib.join xs sep).length ≤ 100000000) :
    Calls Tryd.prog 32 #[v, strL sep] w fun e w' => e = .returned (strL (Lib.join xs sep)) ∧ Keeps (fun _ => False) w w' := by
  rcases h.2 with ⟨rfl, h0⟩ | ⟨g, cap, cur, rfl, hg, hh, hn, hcap, _⟩
  · obtain rfl : xs = [] := List.length_eq_zero_iff.1 h0
    exact (Tryd.strings_Join_none _ _ _ _).mono (fun e w' ⟨h1, h2⟩ => ⟨by rw [h1]; rfl, by rw [h2]; exact Keeps.refl _ _⟩)
  · have hcells := h.cellAt
    have hc : ∀ (j : Nat) (x : List UInt8), xs[j]? = some x → w.cell? ⟨g, j, none⟩ = some (strL x) := fun j x hx => by
      have h1 := hcells j (by have := (List.getElem?_eq_some_iff.1 hx).1; omega)
      rw [List.getElem?_map, hx] at h1
      exact h1
    have hj : (xs.map fun l => (⟨l.toArray⟩ : ByteArray)).map (·.data.toList) = xs := by
      rw [List.map_map, show ((fun x : ByteArray => x.data.toList) ∘ fun l : List UInt8 => (⟨l.toArray⟩ : ByteArray)) = id from rfl, List.map_id]
    have := Tryd.strings_Join g 0 cap (xs.map fun l => (⟨l.toArray⟩ : ByteArray)) ⟨sep.toArray⟩ w (fun j x hx => by
        rw [List.getElem?_map] at hx
        cases hy : xs[j]? with
        | none => rw [hy] at hx; simp at hx
        | some y =>
          rw [hy] at hx
          have hx := Option.some.inj hx
          subst hx
          rw [Nat.zero_add]; exact hc j y hy) (Array.getElem?_eq_some_iff.1 hh).1 (by simp; omega) (by simpa using hn) (by rw [hj]; exact Nat.le_trans hlen (by omega))
    rw [hj, List.length_map] at this
    exact this.mono (fun e w' ⟨h1, h2⟩ => ⟨h1, Keeps.ofBelowAll h2 _⟩)
end Go.Proofs.YtinogeobkljngaaDoor
