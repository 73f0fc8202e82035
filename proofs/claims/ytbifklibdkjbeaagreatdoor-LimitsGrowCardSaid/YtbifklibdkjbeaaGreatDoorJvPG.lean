/-
  A job that came in: its form, and how long its pattern may be.
-/
import Derived.Test.YtbifklibdkjbeaaGreatDoorMg1
import Derived.Test.YtbifklibdkjbeaaGreatDoorChecked
import Derived.ProofKit
import Derived.ChangeSlices
namespace Go.Proofs.YtbifklibdkjbeaaGreatDoor
open Go.RowKit
set_option linter.unusedVariables false
set_option linter.unusedSimpArgs false
set_option maxRecDepth 100000
section
open Go.ChangeShapes Go.WideShapes Go.ChangeAt
section
variable {H : Type} {enc : TypeId × Value → H} {w : World} {base : Nat} {spare : Nat → Bool} {held : Bool}
theorem xed {cs : List Value} {i : Nat} {v : Value} (hv : cs[i]? = some v) : (cs.drop i).take 1 = [v] := by
 obtain ⟨hi, rfl⟩ := List.getElem?_eq_some_iff.1 hv
 rw [List.drop_eq_getElem_cons hi]; rfl
theorem xbZ {cs : List Value} {i fuel : Nat} {v : Value} {y : DataW H × List MemPlace} (hv : cs[i]? = some v) (h : DataW.trod enc Tryz.prog w base spare held fuel 3 ((cs.drop i).take (Tryz.prog.cellsOf 3)) = some y) : ∃ n, v = .int .i64 n := by
 rw [show Tryz.prog.cellsOf 3 = 1 by kernel_rfl, xed hv] at h
 obtain ⟨n, p, _, _⟩ := DataW.trod_int Tryz.underlying3 h
 exact ⟨n, by simpa using p⟩
theorem str_at {cs : List Value} {i fuel : Nat} {v : Value} {y : DataW H × List MemPlace} (hv : cs[i]? = some v) (h : DataW.trod enc Tryz.prog w base spare held fuel 9 ((cs.drop i).take (Tryz.prog.cellsOf 9)) = some y) : ∃ s, v = .string s ∧ s.size ≤ maxLen := by
 rw [show Tryz.prog.cellsOf 9 = 1 by kernel_rfl, xed hv] at h
 obtain ⟨n, p, _, hs⟩ := DataW.trod_string Tryz.underlying9 h
 exact ⟨n, by simpa using p, hs⟩
theorem xin {t e : TypeId} (ht : Tryz.prog.underlying t = some (.slice e)) (h1 : Tryz.prog.cellsOf t = 1) {cs : List Value} {i fuel : Nat} {v : Value} {y : DataW H × List MemPlace} (hv : cs[i]? = some v) (h : DataW.trod enc Tryz.prog w base spare held fuel t ((cs.drop i).take (Tryz.prog.cellsOf t)) = some y) :
 ∃ (a : Option Addr) (n c : Nat), v = .slice a n c := by
 rw [h1, xed hv] at h
 rcases DataW.trod_slice ht h with ⟨h0, _⟩ | ⟨a, len, cap, elems, rest, n, _, h0, _⟩
 · exact ⟨none, 0, 0, by simpa using h0⟩
 exact ⟨some a, len, cap, by simpa using h0⟩
theorem xnp (fuel : Nat) (cs : List Value) (x : DataW H × List MemPlace) (h : DataW.trod enc Tryz.prog w base spare held fuel 28 cs = some x) : ∃ j : JV, cs = (jCs j).toList ∧ j.pt.length ≤ 9223372036854775807 := by
 obtain ⟨xs, k, rfl, _, hlen, hxl, hfs⟩ := DataW.trod_struct Tryz.underlying28 h
 have hlen17 : cs.length = 17 := by rw [hlen]; kernel_rfl
 match xs, hxl, cs, hlen17 with
 | [y0, y1, y2, y3, y4, y5, y6, y7, y8, y9, y10, y11, y12, y13, y14, y15, y16], _, [v0, v1, v2, v3, v4, v5, v6, v7, v8, v9, v10, v11, v12, v13, v14, v15, v16], _ =>
  obtain ⟨fl, rfl⟩ := xbZ (i := 2) rfl (hfs 2 _ rfl)
  obtain ⟨cd, rfl⟩ := xbZ (i := 3) rfl (hfs 3 _ rfl)
  obtain ⟨mo, rfl⟩ := xbZ (i := 4) rfl (hfs 4 _ rfl)
  obtain ⟨ev, rfl⟩ := xbZ (i := 6) rfl (hfs 6 _ rfl)
  obtain ⟨bd, rfl⟩ := xbZ (i := 7) rfl (hfs 7 _ rfl)
  obtain ⟨te, rfl⟩ := xbZ (i := 8) rfl (hfs 8 _ rfl)
  obtain ⟨be, rfl⟩ := xbZ (i := 9) rfl (hfs 9 _ rfl)
  obtain ⟨af, rfl⟩ := xbZ (i := 10) rfl (hfs 10 _ rfl)
  obtain ⟨rf, rfl⟩ := xbZ (i := 11) rfl (hfs 11 _ rfl)
  obtain ⟨bu, rfl⟩ := xbZ (i := 12) rfl (hfs 12 _ rfl)
  obtain ⟨ch, rfl⟩ := xbZ (i := 13) rfl (hfs 13 _ rfl)
  obtain ⟨ro, rfl⟩ := xbZ (i := 14) rfl (hfs 14 _ rfl)
  obtain ⟨wo, rfl⟩ := xbZ (i := 15) rfl (hfs 15 _ rfl)
  obtain ⟨rg, rfl⟩ := xbZ (i := 16) rfl (hfs 16 _ rfl)
  obtain ⟨s, rfl, hs⟩ := str_at (i := 5) rfl (hfs 5 _ rfl)
  obtain ⟨da, dn, dc, rfl⟩ := xin Tryz.underlying26 (by kernel_rfl) (i := 0) rfl (hfs 0 _ rfl)
  obtain ⟨sa, sn, sc, rfl⟩ := xin Tryz.underlying23 (by kernel_rfl) (i := 1) rfl (hfs 1 _ rfl)
  obtain ⟨⟨pt⟩⟩ := s
  refine ⟨⟨da, dn, dc, sa, sn, sc, fl, cd, mo, pt, ev, bd, te, be, af, rf, bu, ch, ro, wo, rg⟩, rfl, ?_⟩
  have hs2 : pt.length ≤ maxLen := hs
  unfold maxLen at hs2
  show pt.length ≤ _
  omega
end
theorem xiV {H : Type} {enc : TypeId × Value → H} {W : World} {b0 base : Nat} {spare : Nat → Bool} {held : Bool} {v : Value} {d : DataW H} {ps : List MemPlace} (hval : Value.okWide Tryz.prog W .any b0 28 v) (hd : DataW.Trod enc Tryz.prog W base spare held 28 v d ps) :
 ∃ j : JV, v = jV j ∧ j.pt.length ≤ 9223372036854775807 := by
 unfold Value.okWide at hval
 rw [Tryz.underlying28] at hval
 obtain ⟨cs, rfl, _, _⟩ := hval
 obtain ⟨fuel, hf⟩ := hd
 obtain ⟨j, e, hn⟩ := xnp _ _ _ hf
 refine ⟨j, ?_, hn⟩
 obtain ⟨l⟩ := cs
 simp only [Value.cells] at e
 have e : l = (jCs j).toList := e
 rw [e]; rfl
end
end Go.Proofs.YtbifklibdkjbeaaGreatDoor
