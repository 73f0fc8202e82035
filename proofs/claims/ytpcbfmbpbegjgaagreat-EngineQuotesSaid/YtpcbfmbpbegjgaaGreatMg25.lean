/-
  Several texts in one: strings.Repeat at one octet, twice. The law's examples: the texts and the plain answers. The document's Same of hits. strings.Builder's WriteString and Write in a block of the call's own.
-/
import Derived.Test.YtpcbfmbpbegjgaaGreatMg24
import Derived.Test.YtpcbfmbpbegjgaaGreatMg23
import Derived.Test.YtpcbfmbpbegjgaaGreatShelf
import Derived.Shelf.Strings.BuilderF
import Derived.Test.YtpcbfmbpbegjgaaGreatMg11
import Derived.Deep.RegionHeld3
import Derived.BigRegion
import Derived.Test.YtpcbfmbpbegjgaaGreatMg2
import Derived.Test.YtpcbfmbpbegjgaaGreatMg5
import Derived.Test.YtpcbfmbpbegjgaaGreatMg20
import Derived.Lib.Builder
import Derived.Lib.AppendStr
import Derived.Lib.FrozenHead
section
namespace Go.Proofs.YtpcbfmbpbegjgaaGreat
open Go.RowKit
set_option linter.unusedVariables false
set_option linter.unusedSimpArgs false
set_option maxRecDepth 100000

theorem copyCheckF_any (B b : Nat) (bs : List Value) (w : World) (h : Lib.IsBuilderF 44 5 B b bs w) :
    Calls Tryz.prog 34 #[.pointer (some ⟨b, 0, none⟩)] w fun e w' => e = .returned (.tuple #[]) ∧ (Lib.BuilderAtF 44 5 B b (.pointer (some ⟨b, 0, none⟩)) bs w' ∧ Below B w w') := by
  rcases h with h | h
  · refine (copyCheck_fresh b w h.cell0 h.shape h.frozen0).mono ?_
    rintro e w' ⟨rfl, rfl⟩
    exact ⟨rfl, h.used _, (Below.refl B w).setCell (p := ⟨b, 0, none⟩) h.1 _⟩
  · refine (copyCheck_used b w h.cell0).mono ?_
    rintro e w' ⟨rfl, rfl⟩
    exact ⟨rfl, h, Below.refl B _⟩
set_option maxHeartbeats 2000000 in
theorem writeStringF_any (B b : Nat) (bs : List Value) (s : ByteArray) (w : World) (h : Lib.IsBuilderF 44 5 B b bs w) (hlen : bs.length + s.size ≤ 140737488355328) (hBw : B ≤ w.heap.size) :
    Calls Tryz.prog 14 #[.pointer (some ⟨b, 0, none⟩), .string s] w fun e w' => e = .returned (.tuple #[.int .i64 s.size, .nilIface]) ∧ (Lib.BuilderAtF 44 5 B b (.pointer (some ⟨b, 0, none⟩)) (bs ++ Lib.strCells s) w' ∧ Below B w w') := by
  obtain ⟨i0, hi, hz0, hz1, hz2⟩ := info_parts info_u8
  go_enter Tryz.func14, Tryz.ntmps14
  go_wp2_with fail
  refine (copyCheckF_any B b bs _ h).mono ?_
  rintro e w1 ⟨rfl, h1, hb1⟩
  obtain ⟨hB, v, hbk, hown, hne⟩ := h1
  have c0 : w1.cell? ⟨b, 0, none⟩ = some (.pointer (some ⟨b, 0, none⟩)) := by rw [Lib.cell_of_heap hbk]; rfl
  have c1 : w1.cell? ⟨b, 1, none⟩ = some v := by rw [Lib.cell_of_heap hbk]; rfl
  go_wp2_with (at_builtin; refine Lib.wpList_append_own_stringF _ rfl _ _ 42 9 rfl B 5 i0 Tryz.underlying42 Tryz.underlying9 hi hz0 hz1 hz2 _ _ _ rfl hown s rfl ?c3 ?c4 ?c5 ?_)
  case c3 => unfold maxLen; omega
  case c4 => omega
  case c5 => have := hb1.size; omega
  intro v' w2 hown' hgrow _
  have hlt : b < w1.heap.size := by
    rcases Nat.lt_or_ge b w1.heap.size with h' | h'
    · exact h'
    · simp [Array.getElem?_eq_none h'] at hbk
  have hb2 : w2.heap[b]? = some (.cells #[.pointer (some ⟨b, 0, none⟩), v] 44 (0, 0)) := by
    rw [hgrow.block b hlt (fun e => hne e.symm)]
    exact hbk
  have d0 : w2.cell? ⟨b, 0, none⟩ = some (.pointer (some ⟨b, 0, none⟩)) := by rw [Lib.cell_of_heap hb2]; rfl
  have d1 : w2.cell? ⟨b, 1, none⟩ = some v := by rw [Lib.cell_of_heap hb2]; rfl
  have f1 : w2.frozen? ⟨b, 1, none⟩ = false := Lib.frozen_of_heap hb2 1
  obtain ⟨ao, n', cap, rfl⟩ : ∃ ao n' cap, v' = .slice ao n' cap := by
    rcases hown'.2 with ⟨hv, _⟩ | ⟨g, cap, cur, fz, hv, _⟩
    · exact ⟨_, _, _, hv⟩
    · exact ⟨_, _, _, hv⟩
  go_wp2
  go_ret2
  refine ⟨rfl, ?_, ?_⟩
  · exact Lib.BuilderAtF.put (T := 44) (e := 5) hB hb2 (bs' := bs ++ Lib.strCells s) (by simpa [Lib.strCells_length] using hown') (by decide)
  · exact (hb1.grown hgrow (by have := hb1.size; omega) (fun k hk => (hown.lt k hk).1)).setCell (p := ⟨b, 1, none⟩) hB _
theorem min_3 (W : World) (x y z : Int) : (Builtin.min_ #[3, 3, 3] 3 #[.int .i64 x, .int .i64 y, .int .i64 z]).run Tryz.prog W = .ok (.int .i64 (if z < (if y < x then y else x) then z else (if y < x then y else x))) W := by
  simp [Builtin.min_, Builtin.min2]
def RepR (w : World) (v : Value) (wr : World) : Prop :=
  ∃ l : List UInt8, ((intOf v = 0 ∧ l = [98]) ∨ (intOf v = 1 ∧ l = [98, 98])) ∧ Lib.IsBuilderF 44 5 w.heap.size w.heap.size (Lib.byteCells l) wr ∧ Below w.heap.size w wr
set_option maxHeartbeats 4000000 in
theorem repeat_bb (w : World) : Calls Tryz.prog 77 #[strL [98], .int .i64 2] w fun e w' => e = .returned (strL [98, 98]) ∧ Keeps (fun _ => False) w w' := by
  have HM := Lib.hid (fun W => Tryz.bits_Mul 1 2 (by omega) (by omega) W)
  have hx : ∀ h, (⟨#[98]⟩ : ByteArray)[0]'h = 98 := fun _ => rfl
  unfold strL
  go_enter Tryz.func77, Tryz.ntmps77
  go_wp2_with fail
  refine (HM.out _).mono ?_
  rintro e w0 ⟨rfl, rfl⟩
  go_wp2_with fail
  refine (Tryz.Builder_Grow_fresh w0.heap.size w0.heap.size 2 _ (Nat.le_refl _) (heap_alloc_new w0 _) (by simp) (by omega)).mono ?_
  rintro e w2 ⟨rfl, hB, hb2⟩
  have B2 : Hid (Below w0.heap.size w0 w2) := Lib.hid (((Below.refl _ w0).alloc (Nat.le_refl _) _).trans hb2)
  have H2 : Hid (Lib.IsBuilderF 44 5 w0.heap.size w0.heap.size [] w2) := Lib.hid (Or.inr (Lib.BuilderAtF.of hB))
  clear hB hb2
  go_wp2_with fail
  refine (writeStringF_any w0.heap.size w0.heap.size [] ⟨#[98]⟩ _ H2.out (by simp; decide) (by have := B2.out.size; omega)).mono ?_
  rintro e w3 ⟨rfl, hB, hb3⟩
  have B3 := Lib.hid (B2.out.trans hb3)
  have H3 : Hid (Lib.IsBuilderF 44 5 w0.heap.size w0.heap.size (Lib.byteCells [98]) w3) := Lib.hid (Or.inr hB)
  clear hB hb3
  go_wp2_with fail
  go_loopw [10] (fun v wr => RepR w0 v wr) (fun v _ => 1 - (intOf v).toNat)
  case atStart => exact ⟨[98], Or.inl ⟨rfl, rfl⟩, H3.out, B3.out⟩
  case round =>
    obtain ⟨l, hl, hB, hK⟩ := hrel
    have HB := Lib.hid hB
    have KB := Lib.hid hK
    have hsz := hK.size
    clear hB hK
    rcases hl with ⟨hv, rfl⟩ | ⟨hv, rfl⟩
    · have HV := Lib.hid hv
      have HLen : Hid (Calls Tryz.prog 96 #[.pointer (some ⟨w0.heap.size, 0, none⟩)] wr fun e w' => e = .returned (.int .i64 1) ∧ w' = wr) := Lib.hid (Tryz.Builder_Len_f w0.heap.size w0.heap.size (Lib.byteCells [98]) wr HB.out)
      clear hv
      go_wp2_with fail
      refine HLen.out.mono ?_
      rintro e w4 ⟨rfl, rfl⟩
      go_wp2_with fail
      refine HLen.out.mono ?_
      rintro e w5 ⟨rfl, rfl⟩
      go_wp2_with fail
      refine HLen.out.mono ?_
      rintro e w6 ⟨rfl, rfl⟩
      go_wp2_with fail
      refine (Tryz.Builder_String_any_f w0.heap.size w0.heap.size [98] _ HB.out hsz).mono ?_
      rintro e w5 ⟨rfl, hB5, hb5⟩
      have KB5 := Lib.hid (KB.out.trans hb5)
      have HB5 := Lib.hid hB5
      clear hB5 hb5
      have hex : (⟨#[98]⟩ : ByteArray).extract 0 1 = ⟨#[98]⟩ := rfl
      go_wp2_with fail
      refine (writeStringF_any w0.heap.size w0.heap.size (Lib.byteCells [98]) ⟨#[98]⟩ _ HB5.out (by decide) (by have := KB5.out.size; omega)).mono ?_
      rintro e w6 ⟨rfl, hB6, hb6⟩
      have KB6 := Lib.hid (KB5.out.trans hb6)
      have HB6 : Hid (Lib.IsBuilderF 44 5 w0.heap.size w0.heap.size (Lib.byteCells [98, 98]) w6) := Lib.hid (Or.inr hB6)
      clear hB6 hb6
      go_wp2_with fail
      go_roundw
      case rel => exact ⟨[98, 98], Or.inr ⟨rfl, rfl⟩, HB6.out, KB6.out⟩
      case measure => simp [intOf]; have := HV.out; simp [intOf] at this; omega
    · have HLen : Hid (Calls Tryz.prog 96 #[.pointer (some ⟨w0.heap.size, 0, none⟩)] wr fun e w' => e = .returned (.int .i64 2) ∧ w' = wr) := Lib.hid (Tryz.Builder_Len_f w0.heap.size w0.heap.size (Lib.byteCells [98, 98]) wr HB.out)
      clear hv
      go_wp2_with fail
      refine HLen.out.mono ?_
      rintro e w4 ⟨rfl, rfl⟩
      go_wp2_with fail
      refine (Tryz.Builder_String_any_f w0.heap.size w0.heap.size [98, 98] _ HB.out hsz).mono ?_
      rintro e w5 ⟨rfl, hB5, hb5⟩
      have KB5 := Lib.hid (KB.out.trans hb5)
      clear hB5 hb5
      go_wp2_with fail
      go_ret
      exact ⟨rfl, Keeps.ofBelowAll KB5.out _⟩
end Go.Proofs.YtpcbfmbpbegjgaaGreat
end
section
namespace Go.Proofs.YtpcbfmbpbegjgaaGreat
open Go.RowKit
set_option linter.unusedVariables false
set_option linter.unusedSimpArgs false
set_option maxRecDepth 100000

def bpT : T := ⟨6, [], 1, -1, F.ofL [charT [(98, 98)]]⟩
def bpP : List Ins := bpI [(98, 98)] ++ [mI]
def abba : List UInt8 := [97, 98, 98, 97]
theorem parseP_bp : parseP [98, 43] = (bpT, 0) := by
  unfold parseP
  rw [if_neg (by simp), pts_ascii (by decide)]
  exact (by decide +kernel : parseR [98, 43] = (bpT, 0))
theorem places_abba : places abba = [0, 1, 2, 3, 4] := by decide +kernel
theorem pt0 : pointP abba 0 = (97, 1) := by decide +kernel
theorem pt1 : pointP abba 1 = (98, 1) := by decide +kernel
theorem pt2 : pointP abba 2 = (98, 1) := by decide +kernel
theorem pt3 : pointP abba 3 = (97, 1) := by decide +kernel
theorem pt4 : pointP abba 4 = (0, 0) := by decide +kernel
theorem has97 : has [(98, 98)] 97 = false := by decide +kernel
theorem has98 : has [(98, 98)] 98 = true := by decide +kernel
theorem bp_put0 : PtR bpP 0 ([], fun _ => false) ([0], updM (fun _ => false) 0) := PtR.leaf (x := ⟨1, [(98, 98)], 1, 0⟩) rfl rfl (Or.inr rfl)
theorem bp_put1 (M : Nat → Bool) (h1 : M 1 = false) (h2 : M 2 = false) (h4 : M 4 = false) : PtR bpP 1 ([], M) ([2, 4], updM (updM (updM M 1) 2) 4) :=
  PtR.split (x := ⟨2, [], 2, 4⟩) (s1 := ([2], updM (updM M 1) 2)) h1 rfl rfl (PtR.leaf (x := ⟨1, [(98, 98)], 3, 0⟩) (by simp [updM, h2]) rfl (Or.inr rfl)) (PtR.leaf (x := ⟨0, [], 0, 0⟩) (by simp [updM, h4]) rfl (Or.inl rfl))
theorem bp_put3 : ∃ M, PtR bpP 3 ([], fun _ => false) ([2, 4], M) :=
  ⟨_, PtR.split (x := ⟨2, [], 1, 1⟩) rfl rfl rfl (bp_put1 _ (by simp [updM]) (by simp [updM]) (by simp [updM])) (PtR.seen (by simp [bpP, bpI, mI]) (by simp [updM]))⟩
theorem bp_miss (k : Nat) (h : pointP abba k = (97, 1)) : LongR bpP abba 0 [0] k (-1) (-1) := by
  refine LongR.stop (M := fun _ => false) ?_
  rw [h]
  exact FoldR.miss (x := ⟨1, [(98, 98)], 1, 0⟩) rfl rfl (Or.inr has97) (FoldR.nil _)
theorem bp_miss4 : LongR bpP abba 0 [0] 4 (-1) (-1) := by
  refine LongR.stop (M := fun _ => false) ?_
  rw [pt4]
  exact FoldR.miss (x := ⟨1, [(98, 98)], 1, 0⟩) rfl rfl (Or.inl rfl) (FoldR.nil _)
theorem bp_long : LongR bpP abba 2 [0] 1 (-1) 3 := by
  obtain ⟨M3, h3⟩ := bp_put3
  refine LongR.go (L' := [2, 4]) (M := updM (updM (updM (fun _ => false) 1) 2) 4) (e' := -1) ?_ (by simp) (by simp) ?_
  · rw [pt1]
    exact FoldR.hit (x := ⟨1, [(98, 98)], 1, 0⟩) rfl rfl (by decide) has98 (bp_put1 _ rfl rfl rfl) (FoldR.nil _)
  · rw [pt1]
    show LongR bpP abba 1 [2, 4] 2 (-1) 3
    refine LongR.go (L' := [2, 4]) (M := M3) (e' := 2) ?_ (by simp) (by simp) ?_
    · rw [pt2]
      exact FoldR.hit (x := ⟨1, [(98, 98)], 3, 0⟩) rfl rfl (by decide) has98 h3 (FoldR.mt (x := ⟨0, [], 0, 0⟩) rfl rfl (FoldR.nil _))
    · rw [pt2]
      show LongR bpP abba 0 [2, 4] 3 2 3
      refine LongR.stop (M := fun _ => false) ?_
      rw [pt3]
      exact FoldR.miss (x := ⟨1, [(98, 98)], 3, 0⟩) rfl rfl (Or.inr has97) (FoldR.mt (x := ⟨0, [], 0, 0⟩) rfl rfl (FoldR.nil _))
theorem bp_all : AllR bpP abba [0] 6 (places abba) (-1) [((1 : Nat), (3 : Nat))] := by
  rw [places_abba]
  refine AllR.far (m := 4) (m' := 2) (p := 1) (e := 3) (by simp) (FirstR.miss (k := 0) (m := 3) (by decide) (bp_miss 0 pt0) (by decide) (FirstR.hit (by decide) bp_long (by decide))) (by decide) (by decide) ?_
  exact AllR.stop (by decide) (FirstR.miss (k := 0) (m := 1) (by decide) (bp_miss 3 pt3) (by decide) (FirstR.miss (k := 0) (m := 0) (by decide) bp_miss4 (by decide) FirstR.none))
theorem bp_ok (k : Nat) (i : Ins) (h : bpP[k]? = some i) : okI bpP.length i := by
  rcases k with _ | _ | _ | _ | _ | k
  · obtain rfl : (⟨1, [(98, 98)], 1, 0⟩ : Ins) = i := by simpa [bpP, bpI] using h
    exact Or.inr (Or.inl ⟨rfl, by simp [bpP, bpI, mI]⟩)
  · obtain rfl : (⟨2, [], 2, 4⟩ : Ins) = i := by simpa [bpP, bpI] using h
    exact Or.inr (Or.inr ⟨rfl, by simp [bpP, bpI, mI], by simp [bpP, bpI, mI]⟩)
  · obtain rfl : (⟨1, [(98, 98)], 3, 0⟩ : Ins) = i := by simpa [bpP, bpI] using h
    exact Or.inr (Or.inl ⟨rfl, by simp [bpP, bpI, mI]⟩)
  · obtain rfl : (⟨2, [], 1, 1⟩ : Ins) = i := by simpa [bpP, bpI] using h
    exact Or.inr (Or.inr ⟨rfl, by simp [bpP, bpI, mI], by simp [bpP, bpI, mI]⟩)
  · obtain rfl : (mI : Ins) = i := by simpa [bpP, bpI] using h
    exact Or.inl rfl
  · simp [bpP, bpI, mI] at h
theorem quote_ab : quoteL [97, 46, 98] = some [97, 92, 46, 98] := by decide +kernel
set_option maxHeartbeats 2000000 in
theorem repeat_b1 (w : World) : Calls Tryz.prog 77 #[strL [98], .int .i64 1] w fun e w' => e = .returned (strL [98]) ∧ Keeps (fun _ => False) w w' := by
  unfold strL
  go_enter Tryz.func77, Tryz.ntmps77
  go_wp2_with fail
  go_ret
  exact ⟨rfl, by (repeat' (with_reducible first | exact Keeps.refl _ _ | assumption | refine Keeps.drawN ?_ _ | refine Keeps.drew ?_ | refine Keeps.setCell ?_ ?_ _ | refine Keeps.alloc ?_ _)) <;> (first | exact Or.inr (Nat.le_refl _) | exact Or.inl rfl | exact Or.inl (Or.inl rfl) | exact Or.inl (Or.inr rfl) | (right; simp; done) | (right; simp; omega))⟩
set_option maxHeartbeats 4000000 in
theorem rep_b1 (P : Nat → Prop) (a1 a : Option Addr) (n1 c1 c : Nat) (w : World) (ha : KRow w P a [charT [(98, 98)]]) :
    Calls Tryz.prog 52 #[.agg #[.int .i64 6, .slice a1 n1 c1, .int .i64 1, .int .i64 (-1), .slice a 1 c]] w fun e w' => PreE ([98], false) w e w' := by
  obtain ⟨b, off, uo, d1, f1, g1, um, ux, d2, f2, g2, rfl, hu, hlt, x0, x1, x2, x3, x4⟩ := ha.at (i := 0) rfl
  simp only [Nat.zero_mul, Nat.add_zero] at x0 x1 x2 x3 x4
  have HS : Hid (∀ W, Keeps (fun _ => False) w W → Calls Tryz.prog 26 #[.agg #[.int .i64 uo, .slice d1 f1 g1, .int .i64 um, .int .i64 ux, .slice d2 f2 g2]] W fun e w' => PreE ([98], true) W e w') := Lib.hid (fun W kW =>
    pre_char 98 (by decide) P ⟨uo, .slice d1 f1 g1, um, ux, .slice d2 f2 g2⟩ W (hu.keepsTo kW (fun _ _ => id) (fun _ h => h)))
  have HR := Lib.hid (fun W => repeat_b1 W)
  have HC := Lib.hid (fun W => cut_any [98] false W)
  rw [if_neg (by decide)] at HC
  unfold strL at HC HR
  clear ha hu
  go_enter Tryz.func52, Tryz.ntmps52
  go_wp2_with fail
  refine (HS.out _ (by (repeat' (with_reducible first | exact Keeps.refl _ _ | assumption | refine Keeps.drawN ?_ _ | refine Keeps.drew ?_ | refine Keeps.setCell ?_ ?_ _ | refine Keeps.alloc ?_ _)) <;> (first | exact Or.inr (Nat.le_refl _) | exact Or.inl rfl | exact Or.inl (Or.inl rfl) | exact Or.inl (Or.inr rfl) | (right; simp; done) | (right; simp; omega)))).mono ?_
  rintro e w2 ⟨rfl, k2⟩
  have c2 : w2.cell? ⟨w.heap.size, 2, none⟩ = some (.int .i64 1) := k2.cell (by simp [go_sem]) id
  have c3 : w2.cell? ⟨w.heap.size, 3, none⟩ = some (.int .i64 (-1)) := k2.cell (by simp [go_sem]) id
  have hK2 : Keeps (fun _ => False) w w2 := Keeps.trans (by (repeat' (with_reducible first | exact Keeps.refl _ _ | assumption | refine Keeps.drawN ?_ _ | refine Keeps.drew ?_ | refine Keeps.setCell ?_ ?_ _ | refine Keeps.alloc ?_ _)) <;> (first | exact Or.inr (Nat.le_refl _) | exact Or.inl rfl | exact Or.inl (Or.inl rfl) | exact Or.inl (Or.inr rfl) | (right; simp; done) | (right; simp; omega))) k2
  have hk0 : Keeps (fun _ => False) w2 w2.drew := (Keeps.refl _ _).drew
  have HR2 := Lib.hid (fun W (K : Keeps (fun _ => False) w2 W) => (HR.out W).mono (fun e w' h => (⟨h.1, K.trans h.2⟩ : _ ∧ Keeps (fun _ => False) w2 w')))
  have HC2 := Lib.hid (fun W (K : Keeps (fun _ => False) w2 W) => (HC.out W).mono (fun e w' h => (⟨h.1, K.trans h.2⟩ : _ ∧ Keeps (fun _ => False) w2 w')))
  clear HR HC
  have e2 : w2.drew.cell? ⟨w.heap.size, 2, none⟩ = some (.int .i64 1) := c2
  have e3 : w2.drew.cell? ⟨w.heap.size, 3, none⟩ = some (.int .i64 (-1)) := c3
  clear k2
  unfold strL
  go_wp2_with fail
  go_region_held3 (fun w' => w'.cell? ⟨w.heap.size, 2, none⟩ = some (.int .i64 1) ∧ w'.cell? ⟨w.heap.size, 3, none⟩ = some (.int .i64 (-1)) ∧ Keeps (fun _ => False) w2 w') (first | exact ⟨e2, e3, hk0⟩ | exact ⟨Keeps.cell (by assumption) c2 id, Keeps.cell (by assumption) c3 id, by assumption⟩)
    (first | (go_at_call 77; refine (HR2.out _ ?_).mono ?_; exact (by assumption : _ ∧ _ ∧ _).2.2; rintro e w' ⟨rfl, hkn⟩) | (go_at_call 75; refine (HC2.out _ ?_).mono ?_; exact (by assumption : _ ∧ _ ∧ _).2.2; rintro e w' ⟨rfl, hkn⟩))
  all_goals
    go_wp2_with fail
    go_ret2
    exact ⟨rfl, hK2.trans hkn⟩
set_option maxHeartbeats 2000000 in
theorem pre_b1 : PreC bpT ([98], false) := by
  intro P v w ht
  obtain ⟨a1, n1, c1, a2, c2, e1, e2, hl, hc⟩ := ht.krow
  unfold bpT at e2 hl hc
  simp only [F.to_of] at e2 hl hc
  have HK := Lib.hid (fun W (K : Keeps (fun _ => False) w W) => rep_b1 P a1 a2 n1 c1 c2 W (hc.keep K))
  have o1 : v.op = 6 := ht.op
  have o2 : v.mn = 1 := ht.mn
  have o3 : v.mx = -1 := ht.mx
  obtain ⟨vo, vsv, vm, vx, vk⟩ := v
  obtain rfl := e1
  obtain rfl := e2
  obtain rfl := o1
  obtain rfl := o2
  obtain rfl := o3
  clear hl hc ht
  show Calls Tryz.prog 26 #[.agg #[.int .i64 6, .slice a1 n1 c1, .int .i64 1, .int .i64 (-1), .slice a2 1 c2]] w _
  go_enter Tryz.func26, Tryz.ntmps26
  go_wp2_with fail
  refine (HK.out _ (by (repeat' (with_reducible first | exact Keeps.refl _ _ | assumption | refine Keeps.drawN ?_ _ | refine Keeps.drew ?_ | refine Keeps.setCell ?_ ?_ _ | refine Keeps.alloc ?_ _)) <;> (first | exact Or.inr (Nat.le_refl _) | exact Or.inl rfl | exact Or.inl (Or.inl rfl) | exact Or.inl (Or.inr rfl) | (right; simp; done) | (right; simp; omega)))).mono ?_
  rintro e w2 ⟨rfl, k2⟩
  have K2 : Hid (Keeps (fun _ => False) w w2) := Lib.hid (Keeps.trans (by (repeat' (with_reducible first | exact Keeps.refl _ _ | assumption | refine Keeps.drawN ?_ _ | refine Keeps.drew ?_ | refine Keeps.setCell ?_ ?_ _ | refine Keeps.alloc ?_ _)) <;> (first | exact Or.inr (Nat.le_refl _) | exact Or.inl rfl | exact Or.inl (Or.inl rfl) | exact Or.inl (Or.inr rfl) | (right; simp; done) | (right; simp; omega))) k2)
  clear k2
  unfold strL
  go_wp2_with fail
  go_ret2
  exact ⟨rfl, K2.out⟩
theorem ecompile_bp (w : World) : Calls Tryz.prog 8 #[.string ⟨[98, 43].toArray⟩] w fun e w' => EComE w bpP ([98], false) e w' :=
  ecompile_any [98, 43] bpT 4 (bpI [(98, 98)]) ([98], false) parseP_bp (len_bp [charT [(98, 98)]] (by simp) (fun i k hk => by
    rcases i with _ | i
    · obtain rfl : charT [(98, 98)] = k := by simpa using hk
      exact len_char _
    · simp at hk)) (by omega) (nodeE_bp [(98, 98)] (by simp) (by simp)) (by simp [bpI]) pre_b1 w (by simp)
theorem eall_bp (eb : Nat) (pv : Value) (w : World) (h : EngAt w (fun b => b < w.heap.size) eb pv bpP ([98], false)) :
    Calls Tryz.prog 10 #[.pointer (some ⟨eb, 0, none⟩), .string ⟨[97, 98, 98, 97].toArray⟩] w fun e w' => (∃ v, e = .returned v ∧ w'.ownsRow w.heap.size 38 2 v 1 [.int .i64 1, .int .i64 3]) ∧ Keeps (fun _ => False) w w' := by
  refine (eall_match eb pv bpP ([98], false) abba w 6 _ ([0], updM (fun _ => false) 0) h (by simp) (by simp [abba]) (Or.inr (Or.inl ⟨1, by simp [abba], by decide +kernel⟩)) (Or.inl rfl) bp_ok (by simp [bpP, bpI, mI]) (by simp [bpP, bpI, mI]) bp_put0 (by simp) bp_all (by omega) (by simp) (by rw [places_abba]; simp)).mono ?_
  rintro e w' ⟨v, rfl, hO, k⟩
  exact ⟨⟨v, rfl, by simpa [cellsOf, encR, List.range_succ] using hO⟩, k⟩
end Go.Proofs.YtpcbfmbpbegjgaaGreat
end
section
namespace Go.Proofs.YtpcbfmbpbegjgaaGreat
open Go.RowKit
set_option linter.unusedVariables false
set_option linter.unusedSimpArgs false
set_option maxRecDepth 100000

def HsR (n : Nat) (w : World) (iv : Value) (wr : World) : Prop := ∃ i : Nat, iv = .int .i64 i ∧ i ≤ n ∧ Keeps (fun _ => False) w wr
set_option maxHeartbeats 4000000 in
theorem hsame_any (l : List (Int × Int)) (v1 v2 : Value) (w : World) (h1 : SlOf 2 encR w v1 l) (h2 : SlOf 2 encR w v2 l) (hl : l.length ≤ 100000) :
    Calls Tryz.prog 11 #[v1, v2] w fun e w' => e = .returned (.bool true) ∧ Keeps (fun _ => False) w w' := by
  obtain ⟨a1, c1, rfl, _, _, h1⟩ := h1
  obtain ⟨a2, c2, rfl, _, _, h2⟩ := h2
  go_enter Tryz.func11, Tryz.ntmps11
  go_wp2_with fail
  go_loopw [5] (fun iv wr => HsR l.length w iv wr) (fun iv _ => l.length - (intOf iv).toNat)
  case atStart => exact ⟨0, rfl, Nat.zero_le _, Keeps.refl _ _⟩
  case round =>
    obtain ⟨i, rfl, hi, hk⟩ := hrel
    by_cases hil : i < l.length
    · obtain ⟨x, hx⟩ : ∃ x, l[i]? = some x := ⟨_, List.getElem?_eq_getElem hil⟩
      obtain ⟨b1, o1, rfl, d1⟩ := h1 (by omega)
      obtain ⟨b2, o2, rfl, d2⟩ := h2 (by omega)
      have x0 := hk.cell (d1 i x hx 0 (by omega)) id
      have x1 := hk.cell (d1 i x hx 1 (by omega)) id
      have y0 := hk.cell (d2 i x hx 0 (by omega)) id
      have y1 := hk.cell (d2 i x hx 1 (by omega)) id
      simp only [Nat.add_zero] at x0 y0
      have e0 : encR x 0 = .int .i64 x.1 := rfl
      have e1 : encR x 1 = .int .i64 x.2 := rfl
      rw [e0] at x0 y0
      rw [e1] at x1 y1
      obtain ⟨p, e⟩ := x
      simp only at x0 x1 y0 y1
      have K := Lib.hid hk
      clear d1 d2 hk h1 h2 hx e0 e1
      go_wp2_with fail
      go_region
      all_goals
        go_wp2_with fail
        go_roundw
        case rel => exact ⟨i + 1, by go_num, by omega, K.out.drew⟩
        case measure => simp [intOf]; omega
    · obtain rfl : i = l.length := by omega
      clear h1 h2
      go_wp2_with fail
      go_ret
      exact ⟨rfl, hk⟩
end Go.Proofs.YtpcbfmbpbegjgaaGreat
end
section
namespace Go.Proofs.YtpcbfmbpbegjgaaGreat
open Go.RowKit
set_option linter.unusedVariables false
set_option linter.unusedSimpArgs false
set_option maxRecDepth 100000

set_option maxHeartbeats 2000000 in
theorem writeStr_any (base b : Nat) (bs : List Value) (s : ByteArray) (w : World) (h : Bld base b bs w) (hlen : bs.length + s.size ≤ 140737488355328) (hBw : base ≤ w.heap.size) :
    Calls Tryz.prog 14 #[.pointer (some ⟨b, 0, none⟩), .string s] w fun e w' => e = .returned (.tuple #[.int .i64 s.size, .nilIface]) ∧ Bld base b (bs ++ Lib.strCells s) w' ∧ Keeps (fun k => k = b ∨ base ≤ k) w w' := by
  obtain ⟨i0, hi, hz0, hz1, hz2⟩ := info_parts info_u8
  have hlt := h.lt
  go_enter Tryz.func14, Tryz.ntmps14
  go_wp2_with fail
  refine (copyCheck_any base b bs _ h).mono ?_
  rintro e w1 ⟨rfl, h1, hk1⟩
  obtain ⟨v, hbk, hown, hne⟩ := h1
  have c0 : w1.cell? ⟨b, 0, none⟩ = some (.pointer (some ⟨b, 0, none⟩)) := by rw [Lib.cell_of_heap hbk]; rfl
  have c1 : w1.cell? ⟨b, 1, none⟩ = some v := by rw [Lib.cell_of_heap hbk]; rfl
  have hs1 := hk1.size
  obtain ⟨va, vc, rfl⟩ := ownsRow_slice hown
  go_wp2_with (at_builtin; refine Lib.wpList_append_own_string _ rfl _ _ 42 9 rfl base 5 i0 Tryz.underlying42 Tryz.underlying9 hi hz0 hz1 hz2 _ _ _ rfl hown s rfl ?c3 ?c4 ?c5 ?_)
  case c3 => unfold maxLen; omega
  case c4 => omega
  case c5 => omega
  intro v' w2 hown' hgrow _
  have hlt1 : b < w1.heap.size := by omega
  have hb2 : w2.heap[b]? = some (.cells #[.pointer (some ⟨b, 0, none⟩), .slice va bs.length vc] 44 (0, 0)) := by
    rw [hgrow.block b (by omega) (fun e => hne e.symm)]
    exact hbk
  have d0 : w2.cell? ⟨b, 0, none⟩ = some (.pointer (some ⟨b, 0, none⟩)) := by rw [Lib.cell_of_heap hb2]; rfl
  have d1 : w2.cell? ⟨b, 1, none⟩ = some (.slice va bs.length vc) := by rw [Lib.cell_of_heap hb2]; rfl
  have f1 : w2.frozen? ⟨b, 1, none⟩ = false := Lib.frozen_of_heap hb2 1
  have K2 : Keeps (fun k => k = b ∨ base ≤ k) w w2 := ((hk1.mono (fun _ _ e => Or.inl e))).grown hgrow (fun k hk => Or.inl (Or.inr (ownBlock_base hown k hk)))
  obtain ⟨va', vc', rfl⟩ := ownsRow_slice hown'
  go_wp2
  go_ret2
  exact ⟨rfl, (BldU.put rfl hb2 (by simpa [Lib.strCells_length] using hown')).bld, K2.set (p := ⟨b, 1, none⟩) (Or.inl rfl) _⟩
set_option maxHeartbeats 2000000 in
theorem write_any (base b : Nat) (bs : List Value) (X off n cap : Nat) (l : List UInt8) (w : World) (h : Bld base b bs w) (hn : n = l.length) (hlen : bs.length + l.length ≤ 140737488355328) (hBw : base ≤ w.heap.size) (hX : X ≠ b)
    (hc : ∀ i x, l[i]? = some x → w.cell? ⟨X, off + i, none⟩ = some (.int .u8 (x.toNat : Int))) :
    Calls Tryz.prog 17 #[.pointer (some ⟨b, 0, none⟩), .slice (some ⟨X, off, none⟩) n cap] w fun e w' => e = .returned (.tuple #[.int .i64 n, .nilIface]) ∧ Bld base b (bs ++ Lib.byteCells l) w' ∧ Keeps (fun k => k = b ∨ base ≤ k) w w' := by
  obtain ⟨i0, hi, hz0, hz1, hz2⟩ := info_parts info_u8
  have hlt := h.lt
  go_enter Tryz.func17, Tryz.ntmps17
  go_wp2_with fail
  refine (copyCheck_any base b bs _ h).mono ?_
  rintro e w1 ⟨rfl, h1, hk1⟩
  obtain ⟨v, hbk, hown, hne⟩ := h1
  have c0 : w1.cell? ⟨b, 0, none⟩ = some (.pointer (some ⟨b, 0, none⟩)) := by rw [Lib.cell_of_heap hbk]; rfl
  have c1 : w1.cell? ⟨b, 1, none⟩ = some v := by rw [Lib.cell_of_heap hbk]; rfl
  have hs1 := hk1.size
  have hcw : ∀ (j : Nat) (u : Value), (Lib.byteCells l)[j]? = some u → w1.cell? ⟨X, off + j, none⟩ = some u := by
    intro j u hu
    unfold Lib.byteCells at hu
    rw [List.getElem?_map, Option.map_eq_some_iff] at hu
    obtain ⟨x, hx, rfl⟩ := hu
    exact hk1.cell (hc j x hx) hX
  have hcw2 : ∀ (j : Nat) (u : Value), (Lib.byteCells l)[j]? = some u → w1.cell? ((⟨X, off, none⟩ : Addr).add j) = some u := by
    intro j u hu
    have := hcw j u hu
    rcases j with _ | j
    · simpa [Addr.add] using this
    · simpa [Addr.add] using this
  obtain ⟨va, vc, rfl⟩ := ownsRow_slice hown
  subst hn
  go_wp2_with (at_builtin; refine wpList_append_own _ rfl (.tmp 12) (.tmp 13) 42 rfl base 5 i0 (.int .u8 0) 1 1 Tryz.underlying42 hi hz0 hz1 hz2 rfl (by decide) _ _ _ rfl hown ⟨X, off, none⟩ l.length cap (Lib.byteCells l) rfl (by rw [Lib.byteCells_length]; omega) hcw2 (by intro u hu; unfold Lib.byteCells at hu; obtain ⟨x, _, rfl⟩ := List.mem_map.1 hu; rfl) ?c3 ?c4 ?c5 ?_)
  case c3 => unfold maxLen; omega
  case c4 => omega
  case c5 => omega
  intro v' w2 hown' hgrow _
  have hlt1 : b < w1.heap.size := by omega
  have hb2 : w2.heap[b]? = some (.cells #[.pointer (some ⟨b, 0, none⟩), .slice va bs.length vc] 44 (0, 0)) := by
    rw [hgrow.block b (by omega) (fun e => hne e.symm)]
    exact hbk
  have d0 : w2.cell? ⟨b, 0, none⟩ = some (.pointer (some ⟨b, 0, none⟩)) := by rw [Lib.cell_of_heap hb2]; rfl
  have d1 : w2.cell? ⟨b, 1, none⟩ = some (.slice va bs.length vc) := by rw [Lib.cell_of_heap hb2]; rfl
  have f1 : w2.frozen? ⟨b, 1, none⟩ = false := Lib.frozen_of_heap hb2 1
  have K2 : Keeps (fun k => k = b ∨ base ≤ k) w w2 := ((hk1.mono (fun _ _ e => Or.inl e))).grown hgrow (fun k hk => Or.inl (Or.inr (ownBlock_base hown k hk)))
  obtain ⟨va', vc', rfl⟩ := ownsRow_slice hown'
  go_wp2
  go_ret2
  exact ⟨rfl, (BldU.put rfl hb2 (by simpa [Lib.byteCells_length] using hown')).bld, K2.set (p := ⟨b, 1, none⟩) (Or.inl rfl) _⟩
theorem bld_f {base b : Nat} {bs : List Value} {w : World} (h : Bld base b bs w) (B : Nat) (hB : B ≤ base) (hb : B ≤ b) : Lib.IsBuilderF 44 5 B b bs w := by
  obtain ⟨p, v, hp, h1, h2, h3⟩ := h
  have : w.ownsRow B 5 1 v bs.length bs := by
    obtain ⟨q1, q2⟩ := h2
    refine ⟨q1, ?_⟩
    rcases q2 with q2 | ⟨g, cap, cur, rfl, hg, hc⟩
    · exact Or.inl q2
    · exact Or.inr ⟨g, cap, cur, rfl, Nat.le_trans hB hg, hc⟩
  have hF := World.ownsRowF_of this
  rcases hp with rfl | rfl
  · exact Or.inl ⟨hb, v, h1, hF, h3⟩
  · exact Or.inr ⟨hb, v, h1, hF, h3⟩

end Go.Proofs.YtpcbfmbpbegjgaaGreat
end
