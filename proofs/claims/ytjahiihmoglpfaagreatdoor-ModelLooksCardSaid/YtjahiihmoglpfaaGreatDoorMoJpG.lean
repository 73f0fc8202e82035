/-
  A job that came in: what of it can be read (printed by mk_job.py).
-/
import Derived.Test.YtjahiihmoglpfaaGreatDoorMg31
import Derived.ProofKit
import Derived.ChangeSlices
namespace Go.Proofs.YtjahiihmoglpfaaGreatDoor
open Go.RowKit
set_option linter.unusedVariables false
set_option linter.unusedSimpArgs false
set_option maxRecDepth 100000
section
open Go.ChangeShapes Go.WideShapes Go.ChangeAt
theorem xhj {H : Type} {enc : TypeId × Value → H} {w : World} {base : Nat} {spare : Nat → Bool} {held : Bool} {fuel : Nat} {v : Value} {x : DataW H × List MemPlace}
 (h : DataW.trod enc Tryz.prog w base spare held fuel 22 [v] = some x) : ∃ (a : Option Addr) (n c : Nat), v = .slice a n c ∧ (n ≤ 200 → ∃ data : List UInt8, SlOf 1 encB w (.slice a n c) data) := by
 rcases open_ints Tryz.underlying22 Tryz.underlying5 (by kernel_rfl) h with ⟨hcs, _⟩ | ⟨a, l, c, zs, hcs, _, hl, hm, hz, _, hcell, hwz⟩
 · obtain rfl : v = .slice none 0 0 := by simpa using hcs
   exact ⟨none, 0, 0, rfl, fun _ => ⟨[], SlOf.nil _ _ _⟩⟩
 obtain rfl : v = .slice (some a) l c := by simpa using hcs
 refine ⟨some a, l, c, rfl, fun hn => ?_⟩
 have hlz : l ≤ zs.length := by rw [hz]; split <;> omega
 obtain ⟨data, hdl, hd⟩ : ∃ data : List UInt8, data.length = l ∧ ∀ i, i < l → ∃ x, data[i]? = some x ∧ (x.toNat : Int) = zs.getD i 0 := by
  refine ⟨(zs.take l).map fun z => UInt8.ofNat z.toNat, by simp; omega, fun i hi => ?_⟩
  have hg : (zs.take l)[i]? = some (zs.getD i 0) := by
   rw [List.getElem?_take, if_pos hi, List.getD_eq_getElem?_getD, List.getElem?_eq_getElem (by omega)]; rfl
  refine ⟨UInt8.ofNat (zs.getD i 0).toNat, by rw [List.getElem?_map, hg]; rfl, ?_⟩
  have hmem : zs.getD i 0 ∈ zs := by
   rw [List.getD_eq_getElem?_getD, List.getElem?_eq_getElem (by omega)]
   exact List.getElem_mem _
  have hw := hwz _ hmem
  generalize zs.getD i 0 = z at *
  have hb : 0 ≤ z ∧ z ≤ 255 := by
   simp [Lit.wf, IntKind.min, IntKind.max, IntKind.signed, IntKind.bits] at hw
   omega
  rw [UInt8.toNat_ofNat_of_lt' (by show z.toNat < 256; omega)]
  omega
 refine ⟨data, some a, c, by rw [hdl], ⟨by omega, fun h => by cases h⟩, by omega, fun h0 => ?_⟩
 obtain ⟨b, off, spot⟩ := a
 have h1 := hcell 0 (by omega)
 have hsp : spot = none := by simpa [Addr.add] using World.cell?_spot h1
 subst hsp
 refine ⟨b, off, rfl, fun i x hx j hj => ?_⟩
 obtain rfl : j = 0 := by omega
 have hi : i < l := by rw [← hdl]; exact (List.getElem?_eq_some_iff.1 hx).1
 obtain ⟨y, hy, hyz⟩ := hd i hi
 obtain rfl : y = x := Option.some.inj (hy.symm.trans hx)
 have h2 := hcell i (by omega)
 have hadd : (⟨b, off, none⟩ : Addr).add i = ⟨b, off + i, none⟩ := by unfold Addr.add; split <;> simp_all
 rw [hadd] at h2
 rw [show off + i * 1 + 0 = off + i by omega, h2, ← hyz]
 rfl
theorem xiC {H : Type} {enc : TypeId × Value → H} {w : World} {base : Nat} {spare : Nat → Bool} {held : Bool} {fuel : Nat} {t e : TypeId} (ht : Tryz.prog.underlying t = some (.slice e)) {v : Value} {x : DataW H × List MemPlace}
 (h : DataW.trod enc Tryz.prog w base spare held fuel t [v] = some x) : ∃ (a : Option Addr) (n c : Nat), v = .slice a n c := by
 rcases DataW.trod_slice ht h with ⟨h0, _⟩ | ⟨a, len, cap, elems, rest, n, _, h0, _⟩
 · exact ⟨none, 0, 0, by simpa using h0⟩
 exact ⟨some a, len, cap, by simpa using h0⟩
theorem xlO {H : Type} {enc : TypeId × Value → H} {w : World} {base : Nat} {spare : Nat → Bool} {held : Bool} (fuel : Nat) (cs : List Value) (x : DataW H × List MemPlace)
 (h : DataW.trod enc Tryz.prog w base spare held fuel 25 cs = some x) : ∃ j : JV, cs = (jCs j).toList ∧ (j.dn ≤ 200 → ∃ data : List UInt8, SlOf 1 encB w (.slice j.da j.dn j.dc) data) ∧ j.pt.length ≤ 9223372036854775807 := by
 obtain ⟨xs, k, rfl, _, hlen, hxl, hfs⟩ := DataW.trod_struct Tryz.underlying25 h
 have hlen17 : cs.length = 17 := by rw [hlen]; kernel_rfl
 have e0 : Tryz.prog.cellsOf 22 = 1 := by kernel_rfl
 have e1 : Tryz.prog.cellsOf 23 = 1 := by kernel_rfl
 have e2 : Tryz.prog.cellsOf 3 = 1 := by kernel_rfl
 have e3 : Tryz.prog.cellsOf 9 = 1 := by kernel_rfl
 match xs, hxl, cs, hlen17 with
 | [y0, y1, y2, y3, y4, y5, y6, y7, y8, y9, y10, y11, y12, y13, y14, y15, y16], _, [v0, v1, v2, v3, v4, v5, v6, v7, v8, v9, v10, v11, v12, v13, v14, v15, v16], _ =>
  have g0 : DataW.trod enc Tryz.prog w base spare held k 22 (([v0, v1, v2, v3, v4, v5, v6, v7, v8, v9, v10, v11, v12, v13, v14, v15, v16].drop 0).take (Tryz.prog.cellsOf 22)) = some y0 := hfs 0 _ rfl
  rw [e0] at g0
  replace g0 : DataW.trod enc Tryz.prog w base spare held k 22 [v0] = some y0 := g0
  have g1 : DataW.trod enc Tryz.prog w base spare held k 23 (([v0, v1, v2, v3, v4, v5, v6, v7, v8, v9, v10, v11, v12, v13, v14, v15, v16].drop 1).take (Tryz.prog.cellsOf 23)) = some y1 := hfs 1 _ rfl
  rw [e1] at g1
  replace g1 : DataW.trod enc Tryz.prog w base spare held k 23 [v1] = some y1 := g1
  have g2 : DataW.trod enc Tryz.prog w base spare held k 3 (([v0, v1, v2, v3, v4, v5, v6, v7, v8, v9, v10, v11, v12, v13, v14, v15, v16].drop 2).take (Tryz.prog.cellsOf 3)) = some y2 := hfs 2 _ rfl
  rw [e2] at g2
  replace g2 : DataW.trod enc Tryz.prog w base spare held k 3 [v2] = some y2 := g2
  have g3 : DataW.trod enc Tryz.prog w base spare held k 3 (([v0, v1, v2, v3, v4, v5, v6, v7, v8, v9, v10, v11, v12, v13, v14, v15, v16].drop 3).take (Tryz.prog.cellsOf 3)) = some y3 := hfs 3 _ rfl
  rw [e2] at g3
  replace g3 : DataW.trod enc Tryz.prog w base spare held k 3 [v3] = some y3 := g3
  have g4 : DataW.trod enc Tryz.prog w base spare held k 3 (([v0, v1, v2, v3, v4, v5, v6, v7, v8, v9, v10, v11, v12, v13, v14, v15, v16].drop 4).take (Tryz.prog.cellsOf 3)) = some y4 := hfs 4 _ rfl
  rw [e2] at g4
  replace g4 : DataW.trod enc Tryz.prog w base spare held k 3 [v4] = some y4 := g4
  have g5 : DataW.trod enc Tryz.prog w base spare held k 9 (([v0, v1, v2, v3, v4, v5, v6, v7, v8, v9, v10, v11, v12, v13, v14, v15, v16].drop 5).take (Tryz.prog.cellsOf 9)) = some y5 := hfs 5 _ rfl
  rw [e3] at g5
  replace g5 : DataW.trod enc Tryz.prog w base spare held k 9 [v5] = some y5 := g5
  have g6 : DataW.trod enc Tryz.prog w base spare held k 3 (([v0, v1, v2, v3, v4, v5, v6, v7, v8, v9, v10, v11, v12, v13, v14, v15, v16].drop 6).take (Tryz.prog.cellsOf 3)) = some y6 := hfs 6 _ rfl
  rw [e2] at g6
  replace g6 : DataW.trod enc Tryz.prog w base spare held k 3 [v6] = some y6 := g6
  have g7 : DataW.trod enc Tryz.prog w base spare held k 3 (([v0, v1, v2, v3, v4, v5, v6, v7, v8, v9, v10, v11, v12, v13, v14, v15, v16].drop 7).take (Tryz.prog.cellsOf 3)) = some y7 := hfs 7 _ rfl
  rw [e2] at g7
  replace g7 : DataW.trod enc Tryz.prog w base spare held k 3 [v7] = some y7 := g7
  have g8 : DataW.trod enc Tryz.prog w base spare held k 3 (([v0, v1, v2, v3, v4, v5, v6, v7, v8, v9, v10, v11, v12, v13, v14, v15, v16].drop 8).take (Tryz.prog.cellsOf 3)) = some y8 := hfs 8 _ rfl
  rw [e2] at g8
  replace g8 : DataW.trod enc Tryz.prog w base spare held k 3 [v8] = some y8 := g8
  have g9 : DataW.trod enc Tryz.prog w base spare held k 3 (([v0, v1, v2, v3, v4, v5, v6, v7, v8, v9, v10, v11, v12, v13, v14, v15, v16].drop 9).take (Tryz.prog.cellsOf 3)) = some y9 := hfs 9 _ rfl
  rw [e2] at g9
  replace g9 : DataW.trod enc Tryz.prog w base spare held k 3 [v9] = some y9 := g9
  have g10 : DataW.trod enc Tryz.prog w base spare held k 3 (([v0, v1, v2, v3, v4, v5, v6, v7, v8, v9, v10, v11, v12, v13, v14, v15, v16].drop 10).take (Tryz.prog.cellsOf 3)) = some y10 := hfs 10 _ rfl
  rw [e2] at g10
  replace g10 : DataW.trod enc Tryz.prog w base spare held k 3 [v10] = some y10 := g10
  have g11 : DataW.trod enc Tryz.prog w base spare held k 3 (([v0, v1, v2, v3, v4, v5, v6, v7, v8, v9, v10, v11, v12, v13, v14, v15, v16].drop 11).take (Tryz.prog.cellsOf 3)) = some y11 := hfs 11 _ rfl
  rw [e2] at g11
  replace g11 : DataW.trod enc Tryz.prog w base spare held k 3 [v11] = some y11 := g11
  have g12 : DataW.trod enc Tryz.prog w base spare held k 3 (([v0, v1, v2, v3, v4, v5, v6, v7, v8, v9, v10, v11, v12, v13, v14, v15, v16].drop 12).take (Tryz.prog.cellsOf 3)) = some y12 := hfs 12 _ rfl
  rw [e2] at g12
  replace g12 : DataW.trod enc Tryz.prog w base spare held k 3 [v12] = some y12 := g12
  have g13 : DataW.trod enc Tryz.prog w base spare held k 3 (([v0, v1, v2, v3, v4, v5, v6, v7, v8, v9, v10, v11, v12, v13, v14, v15, v16].drop 13).take (Tryz.prog.cellsOf 3)) = some y13 := hfs 13 _ rfl
  rw [e2] at g13
  replace g13 : DataW.trod enc Tryz.prog w base spare held k 3 [v13] = some y13 := g13
  have g14 : DataW.trod enc Tryz.prog w base spare held k 3 (([v0, v1, v2, v3, v4, v5, v6, v7, v8, v9, v10, v11, v12, v13, v14, v15, v16].drop 14).take (Tryz.prog.cellsOf 3)) = some y14 := hfs 14 _ rfl
  rw [e2] at g14
  replace g14 : DataW.trod enc Tryz.prog w base spare held k 3 [v14] = some y14 := g14
  have g15 : DataW.trod enc Tryz.prog w base spare held k 3 (([v0, v1, v2, v3, v4, v5, v6, v7, v8, v9, v10, v11, v12, v13, v14, v15, v16].drop 15).take (Tryz.prog.cellsOf 3)) = some y15 := hfs 15 _ rfl
  rw [e2] at g15
  replace g15 : DataW.trod enc Tryz.prog w base spare held k 3 [v15] = some y15 := g15
  have g16 : DataW.trod enc Tryz.prog w base spare held k 3 (([v0, v1, v2, v3, v4, v5, v6, v7, v8, v9, v10, v11, v12, v13, v14, v15, v16].drop 16).take (Tryz.prog.cellsOf 3)) = some y16 := hfs 16 _ rfl
  rw [e2] at g16
  replace g16 : DataW.trod enc Tryz.prog w base spare held k 3 [v16] = some y16 := g16
  obtain ⟨fl, p2, _, _⟩ := DataW.trod_int Tryz.underlying3 g2
  obtain rfl : v2 = .int .i64 fl := by simpa using p2
  obtain ⟨cd, p3, _, _⟩ := DataW.trod_int Tryz.underlying3 g3
  obtain rfl : v3 = .int .i64 cd := by simpa using p3
  obtain ⟨mo, p4, _, _⟩ := DataW.trod_int Tryz.underlying3 g4
  obtain rfl : v4 = .int .i64 mo := by simpa using p4
  obtain ⟨s, p5, _, hs⟩ := DataW.trod_string Tryz.underlying9 g5
  obtain rfl : v5 = .string s := by simpa using p5
  obtain ⟨ev, p6, _, _⟩ := DataW.trod_int Tryz.underlying3 g6
  obtain rfl : v6 = .int .i64 ev := by simpa using p6
  obtain ⟨bd, p7, _, _⟩ := DataW.trod_int Tryz.underlying3 g7
  obtain rfl : v7 = .int .i64 bd := by simpa using p7
  obtain ⟨te, p8, _, _⟩ := DataW.trod_int Tryz.underlying3 g8
  obtain rfl : v8 = .int .i64 te := by simpa using p8
  obtain ⟨be, p9, _, _⟩ := DataW.trod_int Tryz.underlying3 g9
  obtain rfl : v9 = .int .i64 be := by simpa using p9
  obtain ⟨af, p10, _, _⟩ := DataW.trod_int Tryz.underlying3 g10
  obtain rfl : v10 = .int .i64 af := by simpa using p10
  obtain ⟨rf, p11, _, _⟩ := DataW.trod_int Tryz.underlying3 g11
  obtain rfl : v11 = .int .i64 rf := by simpa using p11
  obtain ⟨bu, p12, _, _⟩ := DataW.trod_int Tryz.underlying3 g12
  obtain rfl : v12 = .int .i64 bu := by simpa using p12
  obtain ⟨ch, p13, _, _⟩ := DataW.trod_int Tryz.underlying3 g13
  obtain rfl : v13 = .int .i64 ch := by simpa using p13
  obtain ⟨ro, p14, _, _⟩ := DataW.trod_int Tryz.underlying3 g14
  obtain rfl : v14 = .int .i64 ro := by simpa using p14
  obtain ⟨wo, p15, _, _⟩ := DataW.trod_int Tryz.underlying3 g15
  obtain rfl : v15 = .int .i64 wo := by simpa using p15
  obtain ⟨rg, p16, _, _⟩ := DataW.trod_int Tryz.underlying3 g16
  obtain rfl : v16 = .int .i64 rg := by simpa using p16
  obtain ⟨da, dn, dc, rfl, hD⟩ := xhj g0
  obtain ⟨sa, sn, sc, rfl⟩ := xiC Tryz.underlying23 g1
  obtain ⟨⟨pt⟩⟩ := s
  refine ⟨⟨da, dn, dc, sa, sn, sc, fl, cd, mo, pt, ev, bd, te, be, af, rf, bu, ch, ro, wo, rg⟩, rfl, hD, ?_⟩
  have hs2 : pt.length ≤ maxLen := hs
  unfold maxLen at hs2
  show pt.length ≤ _
  omega
theorem xfz {H : Type} {enc : TypeId × Value → H} {W : World} {b0 base : Nat} {spare : Nat → Bool} {held : Bool} {v : Value} {d : DataW H} {ps : List MemPlace} (hval : Value.okWide Tryz.prog W .any b0 25 v) (hd : DataW.Trod enc Tryz.prog W base spare held 25 v d ps) :
 ∃ j : JV, v = jV j ∧ (j.dn ≤ 200 → ∃ data : List UInt8, SlOf 1 encB W (.slice j.da j.dn j.dc) data) ∧ j.pt.length ≤ 9223372036854775807 := by
 unfold Value.okWide at hval
 rw [Tryz.underlying25] at hval
 obtain ⟨cs, rfl, _, _⟩ := hval
 obtain ⟨fuel, hf⟩ := hd
 obtain ⟨j, e, hn⟩ := xlO _ _ _ hf
 refine ⟨j, ?_, hn⟩
 obtain ⟨l⟩ := cs
 simp only [Value.cells] at e
 have e : l = (jCs j).toList := e
 rw [e]; rfl
end
end Go.Proofs.YtjahiihmoglpfaaGreatDoor
