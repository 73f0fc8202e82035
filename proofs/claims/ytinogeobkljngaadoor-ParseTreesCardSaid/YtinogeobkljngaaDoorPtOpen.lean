/-
  A tree that came in: what of it can be read.
-/
import Derived.Test.YtinogeobkljngaaDoorPaSm
import Derived.Test.YtinogeobkljngaaDoorSetLaw
import Derived.ProofKit
namespace Go.Proofs.YtinogeobkljngaaDoor
open Go.RowKit Go.ChangeShapes Go.WideShapes Go.ChangeAt
set_option linter.unusedVariables false
set_option linter.unusedSimpArgs false
set_option maxRecDepth 100000

instance : Inhabited NV := ⟨⟨0, .slice none 0 0, 0, 0, .slice none 0 0⟩⟩
/-- What came in reads as a tree, as deep as one goes. -/
inductive NOpen (w : World) : NV → Prop
  | mk (v : NV) (a1 : Option Addr) (n1 c1 : Nat) (a2 : Option Addr) (n2 c2 : Nat) (u : Nat → NV) (hm : in64 v.mn) (hx : in64 v.mx) (hs : v.sv = .slice a1 n1 c1) (hsr : n1 ≤ 100 → ∃ l : List (Int × Int), l.length = n1 ∧ RSl w v.sv l)
      (hk : v.kv = .slice a2 n2 c2) (hn1 : n1 ≤ 9223372036854775807) (hn2 : n2 ≤ 9223372036854775807) (hle : n2 ≤ c2) (hno : a2 = none → c2 = 0)
      (hc : n2 = 0 ∨ ∃ b off, a2 = some ⟨b, off, none⟩ ∧ ∀ i, i < n2 → ∀ j, j < 5 → w.cell? ⟨b, off + i * 5 + j, none⟩ = some (encN (u i) j)) (hr : ∀ i, i < n2 → NOpen w (u i)) : NOpen w v
theorem in64_of {n : Int} (h : (Lit.int .i64 n).wf = true) : in64 n := by
  simp [Lit.wf, IntKind.min, IntKind.max, IntKind.signed, IntKind.bits] at h
  unfold in64; omega
theorem node_open {H : Type} {enc : TypeId × Value → H} {w : World} {base : Nat} {spare : Nat → Bool} {held : Bool} : ∀ (m fuel : Nat), fuel ≤ m → ∀ (cs : List Value) (x : DataW H × List MemPlace),
    DataW.trod enc Tryd.prog w base spare held fuel 26 cs = some x → ∃ v : NV, cs = [.int .i64 v.op, v.sv, .int .i64 v.mn, .int .i64 v.mx, v.kv] ∧ NOpen w v := by
  intro m
  induction m with
  | zero =>
    intro fuel hf cs x h
    obtain rfl : fuel = 0 := by omega
    simp [DataW.trod] at h
  | succ m ih =>
    intro fuel hf cs x h
    obtain ⟨xs, k, rfl, _, hlen, hxl, hfs⟩ := DataW.trod_struct Tryd.underlying26 h
    have hlen5 : cs.length = 5 := by rw [hlen]; kernel_rfl
    have e1 : Tryd.prog.cellsOf 3 = 1 := by kernel_rfl
    have e2 : Tryd.prog.cellsOf 23 = 1 := by kernel_rfl
    have e3 : Tryd.prog.cellsOf 24 = 1 := by kernel_rfl
    match xs, hxl, cs, hlen5 with
    | [y0, y1, y2, y3, y4], _, [v0, v1, v2, v3, v4], _ =>
      have g0 : DataW.trod enc Tryd.prog w base spare held k 3 (([v0, v1, v2, v3, v4].drop 0).take (Tryd.prog.cellsOf 3)) = some y0 := hfs 0 _ rfl
      have g1 : DataW.trod enc Tryd.prog w base spare held k 23 (([v0, v1, v2, v3, v4].drop 1).take (Tryd.prog.cellsOf 23)) = some y1 := hfs 1 _ rfl
      have g2 : DataW.trod enc Tryd.prog w base spare held k 3 (([v0, v1, v2, v3, v4].drop 2).take (Tryd.prog.cellsOf 3)) = some y2 := hfs 2 _ rfl
      have g3 : DataW.trod enc Tryd.prog w base spare held k 3 (([v0, v1, v2, v3, v4].drop 3).take (Tryd.prog.cellsOf 3)) = some y3 := hfs 3 _ rfl
      have g4 : DataW.trod enc Tryd.prog w base spare held k 24 (([v0, v1, v2, v3, v4].drop 4).take (Tryd.prog.cellsOf 24)) = some y4 := hfs 4 _ rfl
      rw [e1] at g0 g2 g3
      rw [e2] at g1
      rw [e3] at g4
      replace g0 : DataW.trod enc Tryd.prog w base spare held k 3 [v0] = some y0 := g0
      replace g1 : DataW.trod enc Tryd.prog w base spare held k 23 [v1] = some y1 := g1
      replace g2 : DataW.trod enc Tryd.prog w base spare held k 3 [v2] = some y2 := g2
      replace g3 : DataW.trod enc Tryd.prog w base spare held k 3 [v3] = some y3 := g3
      replace g4 : DataW.trod enc Tryd.prog w base spare held k 24 [v4] = some y4 := g4
      obtain ⟨o, p0, _, _⟩ := DataW.trod_int Tryd.underlying3 g0
      obtain ⟨mn, p2, _, w2⟩ := DataW.trod_int Tryd.underlying3 g2
      obtain ⟨mx, p3, _, w3⟩ := DataW.trod_int Tryd.underlying3 g3
      obtain rfl : v0 = .int .i64 o := by simpa using p0
      obtain rfl : v2 = .int .i64 mn := by simpa using p2
      obtain rfl : v3 = .int .i64 mx := by simpa using p3
      refine ⟨⟨o, v1, mn, mx, v4⟩, rfl, ?_⟩
      obtain ⟨a1, n1, c1, q1, hn1⟩ : ∃ a1 n1 c1, v1 = .slice a1 n1 c1 ∧ n1 ≤ 9223372036854775807 := by
        rcases DataW.trod_slice Tryd.underlying23 g1 with ⟨h0, _⟩ | ⟨a, len, cap, elems, rest, n, _, h0, _, _, hl, hm, _⟩
        · exact ⟨none, 0, 0, by simpa using h0, by omega⟩
        · exact ⟨some a, len, cap, by simpa using h0, by unfold maxLen at hm; omega⟩
      subst q1
      rcases DataW.trod_slice Tryd.underlying24 g4 with ⟨h0, _⟩ | ⟨a, len, cap, elems, rest, n, hn, h0, _, hb, hl, hm, hel, hx, _⟩
      · obtain rfl : v4 = .slice none 0 0 := by simpa using h0
        exact NOpen.mk _ a1 n1 c1 none 0 0 (fun _ => default) (in64_of w2) (in64_of w3) rfl (fun h => rsl_open h ⟨_, g1⟩) rfl hn1 (by omega) (by omega) (fun _ => rfl) (Or.inl rfl) (fun i hi => by omega)
      · obtain rfl : v4 = .slice (some a) len cap := by simpa using h0
        have e5 : Tryd.prog.cellsOf 26 = 5 := by kernel_rfl
        have each : ∀ i, i < len → ∃ u : NV, (∀ j, j < 5 → w.cell? ((a.add (i * 5)).add j) = some (encN u j)) ∧ NOpen w u := by
          intro i hi
          have h1 := hx i hi
          rw [e5, List.getElem?_eq_getElem (by omega)] at h1
          obtain ⟨cs', h2, h3⟩ := Option.bind_eq_some_iff.1 h1
          obtain ⟨_, hl5, hcell⟩ := World.cells?_some h2
          obtain ⟨u, hu, hno⟩ := ih n (by omega) _ _ h3
          refine ⟨u, fun j hj => ?_, hno⟩
          rw [hcell j hj, hu]
          match j, hj with
          | 0, _ => rfl
          | 1, _ => rfl
          | 2, _ => rfl
          | 3, _ => rfl
          | 4, _ => rfl
        obtain ⟨u, hu⟩ := Deep.choose_lt each
        refine NOpen.mk _ a1 n1 c1 (some a) len cap u (in64_of w2) (in64_of w3) rfl (fun h => rsl_open h ⟨_, g1⟩) rfl hn1 (by unfold maxLen at hm; omega) hl (fun h => by cases h) ?_ (fun i hi => (hu i hi).2)
        by_cases h00 : len = 0
        · exact Or.inl h00
        · right
          obtain ⟨b, off, spot⟩ := a
          have h1 := (hu 0 (by omega)).1 0 (by omega)
          have hsp : spot = none := by simpa [Addr.add] using World.cell?_spot h1
          subst hsp
          refine ⟨b, off, rfl, fun i hi j hj => ?_⟩
          have hadd : ((⟨b, off, none⟩ : Addr).add (i * 5)).add j = ⟨b, off + i * 5 + j, none⟩ := by unfold Addr.add; (repeat' split) <;> simp_all
          rw [← hadd]; exact (hu i hi).1 j hj
theorem NOpen.keep {w w' : World} {v : NV} (h : NOpen w v) (K : Keeps (fun _ => False) w w') : NOpen w' v := by
  induction h with
  | mk v a1 n1 c1 a2 n2 c2 u hm hx hs hsr hk hn1 hn2 hle hno hc hr ih =>
    refine NOpen.mk v a1 n1 c1 a2 n2 c2 u hm hx hs (fun h => ?_) hk hn1 hn2 hle hno ?_ ih
    · obtain ⟨l, h1, h2⟩ := hsr h; exact ⟨l, h1, h2.keeps K (fun _ _ => id)⟩
    · rcases hc with h | ⟨b, off, h1, h2⟩
      · exact Or.inl h
      · exact Or.inr ⟨b, off, h1, fun i hi j hj => K.cell (h2 i hi j hj) id⟩

/-- Not too deep, nor too great. -/
def Shal : Nat → T → Prop
  | 0, _ => False
  | d + 1, t => t.kids.toL.length ≤ 5 ∧ t.set.length ≤ 10 ∧ ∀ k ∈ t.kids.toL, Shal d k
def ShalE (w0 w : World) (v : NV) (d : Nat) (e : Ending) (w' : World) : Prop := ∃ q, e = .returned (.bool q) ∧ Keeps (fun _ => False) w w' ∧ (q = true → ∃ t, TAt w0 (fun _ => True) v t ∧ Shal d t)
set_option maxHeartbeats 4000000 in
theorem shallow_any {w0 : World} {v : NV} (h : NOpen w0 v) : ∀ (d : Nat) (w : World), d ≤ 100 → Keeps (fun _ => False) w0 w →
    Calls Tryd.prog 14 #[v.val, .int .i64 d] w (ShalE w0 w v d) := by
  induction h with
  | mk v a1 n1 c1 a2 n2 c2 u hm hx hs hsr hk hn1 hn2 hle hno hc hr ih =>
    intro d w hd K0
    have HC := Lib.hid hc
    have HSR := Lib.hid hsr
    have IH := Lib.hid ih
    have HNO := Lib.hid hno
    have HM := Lib.hid hm
    have HX := Lib.hid hx
    have KW := Lib.hid K0
    obtain ⟨vo, vsv, vm, vx, vk⟩ := v
    simp only at hs hk
    subst hs
    subst hk
    clear hc hsr ih hr hno hm hx K0
    show Calls Tryd.prog 14 #[.agg #[.int .i64 vo, .slice a1 n1 c1, .int .i64 vm, .int .i64 vx, .slice a2 n2 c2], .int .i64 d] w _
    by_cases hd1 : d < 1
    · have g0 : decide ((d : Int) < 1) = true := by simp; omega
      go_enter Tryd.func14, Tryd.ntmps14
      go_wp2_with fail
      go_ret
      exact ⟨false, rfl, by (repeat' (with_reducible first | exact Keeps.refl _ _ | assumption | refine Keeps.drawN ?_ _ | refine Keeps.drew ?_ | refine Keeps.setCell ?_ ?_ _ | refine Keeps.alloc ?_ _)) <;> (first | exact Or.inr (Nat.le_refl _) | exact Or.inl rfl | exact Or.inl (Or.inl rfl) | exact Or.inl (Or.inr rfl) | (right; simp; done) | (right; simp; omega)), fun h => by cases h⟩
    have g0 : decide ((d : Int) < 1) = false := by simp; omega
    by_cases h5 : 5 < n2
    · have g1 : decide ((5 : Int) < (n2 : Int)) = true := by simp; omega
      go_enter Tryd.func14, Tryd.ntmps14
      go_wp2_with fail
      go_ret
      exact ⟨false, rfl, by (repeat' (with_reducible first | exact Keeps.refl _ _ | assumption | refine Keeps.drawN ?_ _ | refine Keeps.drew ?_ | refine Keeps.setCell ?_ ?_ _ | refine Keeps.alloc ?_ _)) <;> (first | exact Or.inr (Nat.le_refl _) | exact Or.inl rfl | exact Or.inl (Or.inl rfl) | exact Or.inl (Or.inr rfl) | (right; simp; done) | (right; simp; omega)), fun h => by cases h⟩
    have g1 : decide ((5 : Int) < (n2 : Int)) = false := by simp; omega
    by_cases h10 : 10 < n1
    · have g2 : decide ((10 : Int) < (n1 : Int)) = true := by simp; omega
      go_enter Tryd.func14, Tryd.ntmps14
      go_wp2_with fail
      go_ret
      exact ⟨false, rfl, by (repeat' (with_reducible first | exact Keeps.refl _ _ | assumption | refine Keeps.drawN ?_ _ | refine Keeps.drew ?_ | refine Keeps.setCell ?_ ?_ _ | refine Keeps.alloc ?_ _)) <;> (first | exact Or.inr (Nat.le_refl _) | exact Or.inl rfl | exact Or.inl (Or.inl rfl) | exact Or.inl (Or.inr rfl) | (right; simp; done) | (right; simp; omega)), fun h => by cases h⟩
    have g2 : decide ((10 : Int) < (n1 : Int)) = false := by simp; omega
    obtain ⟨dd, rfl⟩ : ∃ k, d = k + 1 := ⟨d - 1, by omega⟩
    have hdd : ((dd + 1 : Nat) : Int) - 1 = (dd : Int) := by omega
    have hw : wrap64 (((dd + 1 : Nat) : Int) - 1) = (dd : Int) := by unfold wrap64; omega
    go_enter Tryd.func14, Tryd.ntmps14
    go_wp2_with fail
    go_loopw [5] (fun iv wr => ∃ (i : Nat) (ts : List T), iv = .int .i64 i ∧ i ≤ n2 ∧ ts.length = i ∧ FAt w0 (fun _ => True) (F.ofL ts) ((List.range i).map u) ∧ (∀ k ∈ ts, Shal dd k) ∧ Keeps (fun _ => False) w wr ∧ wr.cell? ⟨w.heap.size, 4, none⟩ = some (.slice a2 n2 c2)) (fun iv _ => n2 - (intOf iv).toNat)
    case atStart => exact ⟨0, [], rfl, Nat.zero_le _, rfl, rfl, (fun k hk => by cases hk), by (repeat' (with_reducible first | exact Keeps.refl _ _ | assumption | refine Keeps.drawN ?_ _ | refine Keeps.drew ?_ | refine Keeps.setCell ?_ ?_ _ | refine Keeps.alloc ?_ _)) <;> (first | exact Or.inr (Nat.le_refl _) | exact Or.inl rfl | exact Or.inl (Or.inl rfl) | exact Or.inl (Or.inr rfl) | (right; simp; done) | (right; simp; omega)), by simp [go_sem]⟩
    case round =>
      obtain ⟨i, ts, rfl, hi, hts, hF, hS, hkeep, z4⟩ := hrel
      have K := Lib.hid hkeep
      have HF := Lib.hid hF
      have HS := Lib.hid hS
      have hlw : w.heap.size < wr.heap.size := lt_of_cell z4
      clear hkeep hF hS
      by_cases hil : i < n2
      · obtain ⟨b, off, rfl, hcc⟩ : ∃ b off, a2 = some ⟨b, off, none⟩ ∧ ∀ i, i < n2 → ∀ j, j < 5 → w0.cell? ⟨b, off + i * 5 + j, none⟩ = some (encN (u i) j) := by
          rcases HC.out with h | h
          · omega
          · exact h
        have HK := Lib.hid (KW.out.trans K.out)
        have x0 : wr.cell? ⟨b, off + i * 5, none⟩ = some (.int .i64 (u i).op) := HK.out.cell (hcc i hil 0 (by omega)) id
        have x1 : wr.cell? ⟨b, off + i * 5 + 1, none⟩ = some (u i).sv := HK.out.cell (hcc i hil 1 (by omega)) id
        have x2 : wr.cell? ⟨b, off + i * 5 + 2, none⟩ = some (.int .i64 (u i).mn) := HK.out.cell (hcc i hil 2 (by omega)) id
        have x3 : wr.cell? ⟨b, off + i * 5 + 3, none⟩ = some (.int .i64 (u i).mx) := HK.out.cell (hcc i hil 3 (by omega)) id
        have x4 : wr.cell? ⟨b, off + i * 5 + 4, none⟩ = some (u i).kv := HK.out.cell (hcc i hil 4 (by omega)) id
        have hlt : b < wr.heap.size := lt_of_cell x0
        have HI := Lib.hid (IH.out i hil dd wr (by omega) HK.out)
        have HUU : Hid ((List.range (i + 1)).map u = (List.range i).map u ++ [u i]) := Lib.hid (by rw [List.range_succ, List.map_append]; rfl)
        clear hcc
        generalize u i = ui at *
        obtain ⟨uo, usv, um, ux, ukv⟩ := ui
        unfold NV.val at HI
        simp only at x0 x1 x2 x3 x4 HI
        go_wp2_with fail
        refine HI.out.mono ?_
        rintro e w2 ⟨q, rfl, k2, hq⟩
        have z42 := k2.cell z4 id
        have K2 := Lib.hid (K.out.trans k2)
        have HQ := Lib.hid hq
        clear k2 hq
        cases q with
        | true =>
          go_wp2_with fail
          go_roundw
          case rel =>
            obtain ⟨t, ht, hsh⟩ := HQ.out (by trivial)
            refine ⟨i + 1, ts ++ [t], by go_num, by omega, by simp; omega, ?_, ?_, K2.out, z42⟩
            · rw [HUU.out]
              exact HF.out.snoc ht
            · intro k hk
              rcases List.mem_append.1 hk with hk | hk
              · exact HS.out k hk
              · obtain rfl : k = t := by simpa using hk
                exact hsh
          case measure => simp [intOf]; omega
        | false =>
          go_wp2_with fail
          go_ret
          exact ⟨false, rfl, K2.out, fun h => by cases h⟩
      · have he : i = n2 := by omega
        subst he
        go_wp2_with fail
        go_ret
        refine ⟨true, rfl, K.out, fun _ => ?_⟩
        obtain ⟨l, hll, hrs⟩ := HSR.out (by omega)
        refine ⟨⟨vo, l, vm, vx, F.ofL ts⟩, ⟨rfl, rfl, rfl, HM.out, HX.out, hrs, fun _ _ => trivial, ⟨(List.range i).map u, ⟨a2, c2, by simp, ⟨by simpa using hle, HNO.out⟩, by simp; omega, fun h0 => ?_⟩, HF.out⟩, fun _ _ => trivial⟩, ?_⟩
        · rcases HC.out with h | ⟨b, off, h1, h2⟩
          · simp at h0; omega
          · refine ⟨b, off, h1, fun k x hx j hj => ?_⟩
            have hk : k < i := by
              rcases Nat.lt_or_ge k i with h | h
              · exact h
              · rw [List.getElem?_eq_none (by simpa using h)] at hx; cases hx
            simp [hk] at hx
            subst hx
            exact h2 k hk j hj
        · refine ⟨by rw [F.to_of]; omega, by simp only; omega, fun k hk => ?_⟩
          rw [F.to_of] at hk
          exact HS.out k hk
end Go.Proofs.YtinogeobkljngaaDoor
