/-
  strings.Builder's Grow at a fresh builder, strings.Join: what they compute (turned from the shelf's own proofs).
-/
import Derived.Test.YtibfioekmpnkgaaDoorTextJ
import Derived.Test.YtibfioekmpnkgaaDoorTextW
import Derived.Test.YtibfioekmpnkgaaDoorSl
namespace Go.Proofs.YtibfioekmpnkgaaDoor
open Go.RowKit
set_option linter.unusedVariables false
set_option linter.unusedSimpArgs false
set_option maxRecDepth 100000

set_option maxHeartbeats 2000000 in
set_option maxRecDepth 1000000 in
theorem Grow_fresh (base b n : Nat) (w : World) (hbk : w.heap[b]? = some (.cells #[.pointer none, .slice none 0 0] 44 (0, 0))) (hBw : base ≤ w.heap.size) (hn : n ≤ 281474976710656) :
    Calls Tryd.prog 23 #[.pointer (some ⟨b, 0, none⟩), .int .i64 n] w fun e w' => e = .returned (.tuple #[]) ∧ Bld base b [] w' ∧ Keeps (fun k => k = b) w w' := by
  have hbk1 : (w.setCell ⟨b, 0, none⟩ (.pointer (some ⟨b, 0, none⟩))).heap[b]? = some (.cells #[.pointer (some ⟨b, 0, none⟩), .slice none 0 0] 44 (0, 0)) := by
    simp [World.setCell, Array.getElem?_modify, hbk]
  have c1 : (w.setCell ⟨b, 0, none⟩ (.pointer (some ⟨b, 0, none⟩))).cell? ⟨b, 1, none⟩ = some (.slice none 0 0) := by rw [Lib.cell_of_heap hbk1]; rfl
  have hK : Keeps (fun k => k = b) w (w.setCell ⟨b, 0, none⟩ (.pointer (some ⟨b, 0, none⟩))) := (Keeps.refl (fun k => k = b) _).set (p := ⟨b, 0, none⟩) rfl _
  have hU : BldU base b [] (w.setCell ⟨b, 0, none⟩ (.pointer (some ⟨b, 0, none⟩))) := ⟨.slice none 0 0, hbk1, World.ownsRow_nil _ _ _ _, by simp [Value.ownBlock]⟩
  have c0 : w.cell? ⟨b, 0, none⟩ = some (.pointer none) := by rw [Lib.cell_of_heap hbk]; rfl
  have hs0 : w.shape? b = some (44, 2) := by simp [World.shape?, hbk]
  have hf0 := Lib.frozen_of_heap hbk 0
  go_enter Tryd.func23, Tryd.ntmps23
  have c1' : (w.setCell ⟨b, 0, none⟩ (.pointer (some ⟨b, 0, none⟩))).drew.cell? ⟨b, 1, none⟩ = some (.slice none 0 0) := c1
  go_wp2_with (go_at_call 24; refine (copyCheck_fresh b w c0 hs0 hf0).mono ?_; rintro e w' ⟨rfl, rfl⟩)
  go_region
  all_goals go_wp2_with (go_at_call 27; refine (grow_fresh base b n (w.setCell ⟨b, 0, none⟩ (.pointer (some ⟨b, 0, none⟩))).drew hbk1 (by simpa [World.setCell, World.drew, -World.drew_eq] using hBw) hn).mono ?_; rintro e w' ⟨rfl, h1, h2⟩)
  all_goals first
    | (go_end0; exact ⟨rfl, h1.bld, hK.drew.trans h2⟩)
    | (go_end0; exact ⟨rfl, hU.bld, hK.drew⟩)

def strC (s : ByteArray) (_ : Nat) : Value := .string s
def joinL (xs : List ByteArray) (sep : ByteArray) : List UInt8 := Lib.join (xs.map (·.data.toList)) sep.data.toList

theorem join_none (a : Option Addr) (c : Nat) (sep : ByteArray) (w : World) :
    Calls Tryd.prog 12 #[.slice a 0 c, .string sep] w fun e w' => e = .returned (.string ⟨#[]⟩) ∧ w = w' := by
  go_enter Tryd.func12, Tryd.ntmps12
  go_wp2_with fail
  go_ret
  exact ⟨rfl, rfl⟩

set_option maxHeartbeats 4000000 in
theorem join_many (bk o c : Nat) (xs : List ByteArray) (sep : ByteArray) (w : World)
    (hcells : ∀ (j : Nat) x, xs[j]? = some x → w.cell? ⟨bk, o + j, none⟩ = some (.string x))
    (hbk : bk < w.heap.size) (h2 : 2 ≤ xs.length) (hN : xs.length ≤ 1000000) (hcap : xs.length ≤ c) (hsep : sep.size ≤ 100) (hs0 : 0 < sep.size)
    (hlen : (joinL xs sep).length ≤ 100000000) :
    Calls Tryd.prog 12 #[.slice (some ⟨bk, o, none⟩) xs.length c, .string sep] w fun e w' => e = .returned (.string ⟨(joinL xs sep).toArray⟩) ∧ Keeps (fun _ => False) w w' := by
  have HC := Lib.hid hcells
  clear hcells
  obtain ⟨x0, r, hxs⟩ : ∃ x0 r, xs = x0 :: r := by
    cases xs with
    | nil => simp at h2
    | cons a t => exact ⟨a, t, rfl⟩
  have hjl : sep.size * (xs.length - 1) + Lib.lens (xs.map (·.data.toList)) ≤ 100000000 := by
    have := Lib.join_length x0.data.toList (r.map (·.data.toList)) sep.data.toList
    unfold joinL at hlen
    rw [hxs] at hlen ⊢
    simp only [List.map_cons] at hlen ⊢
    rw [this, List.length_map] at hlen
    rw [Lib.size_eq, List.length_cons, Nat.add_sub_cancel]
    exact hlen
  have hmul : sep.size * (xs.length - 1) ≤ 100000000 := by omega
  generalize hM : sep.size * (xs.length - 1) = M at hjl hmul
  have hcast : ((xs.length : Int) - 1) = ((xs.length - 1 : Nat) : Int) := by omega
  have hdv : ¬ (9223372036854775807 / ((xs.length : Int) - 1) ≤ (sep.size : Int)) := by
    have e : (9223372036854775807 : Int) / ((xs.length - 1 : Nat) : Int) = ((9223372036854775807 / (xs.length - 1) : Nat) : Int) := IntWalk.up_div (x := 9223372036854775807) rfl rfl
    have hlt : sep.size < 9223372036854775807 / (xs.length - 1) := by
      have : sep.size + 1 ≤ 9223372036854775807 / (xs.length - 1) := by
        rw [Nat.le_div_iff_mul_le (by omega), Nat.add_mul, hM]
        omega
      omega
    rw [hcast, e]
    generalize 9223372036854775807 / (xs.length - 1) = q at hlt
    omega
  have hprod : wrap64 ((sep.size : Int) * ((xs.length : Int) - 1)) = (M : Int) := by
    have e : (sep.size : Int) * ((xs.length - 1 : Nat) : Int) = ((sep.size * (xs.length - 1) : Nat) : Int) := IntWalk.up_mul rfl rfl
    rw [hcast, e, hM]
    exact IntWalk.wrap64_in _ ⟨by omega, by omega⟩
  clear hcast
  have hne0 : ((xs.length : Int) == 0) = false := beq_eq_false_iff_ne.2 (by omega)
  have hne1 : ((xs.length : Int) == 1) = false := beq_eq_false_iff_ne.2 (by omega)
  have hgs : decide ((0 : Int) < (sep.size : Int)) = true := by simp; omega
  have Hxs := Lib.hid hxs
  have Hlen := Lib.hid hlen
  have hM0 := Lib.hid hM
  clear hxs hlen hM
  go_enter Tryd.func12, Tryd.ntmps12
  go_wp2_with fail
  go_loop [5, 41] (fun n i => ∃ k : Nat, k ≤ xs.length ∧ i = .int .i64 k ∧ n = .int .i64 ((M + Lib.lens ((xs.map (·.data.toList)).take k) : Nat) : Int)) (fun _ i => xs.length - (intOf i).toNat)
  case atStart => exact ⟨0, Nat.zero_le _, rfl, by simp [Lib.lens]⟩
  case round =>
    obtain ⟨k, hk, rfl, rfl⟩ := hrel
    by_cases hkn : k < xs.length
    · obtain ⟨x, hx⟩ : ∃ x, xs[k]? = some x := ⟨xs[k], List.getElem?_eq_getElem hkn⟩
      have hc := HC.out k x hx
      have hstep := Lib.lens_take_succ (xs.map (·.data.toList)) k x.data.toList (by simp [hx])
      have hbound : Lib.lens ((xs.map (·.data.toList)).take (k + 1)) ≤ Lib.lens (xs.map (·.data.toList)) := Lib.lens_take_le _ _
      rw [← Lib.size_eq] at hstep
      generalize hA1 : Lib.lens ((xs.map (·.data.toList)).take (k + 1)) = A1 at hstep hbound
      generalize Lib.lens ((xs.map (·.data.toList)).take k) = A0 at hstep
      have HA1 := Lib.hid hA1
      clear hA1 hx
      obtain rfl := hstep
      go_wp2_with fail
      go_round
      case rel => exact ⟨k + 1, by omega, by go_num, by rw [HA1.out]; refine congrArg _ ?_; omega⟩
      case measure => simp [intOf]; omega
    · have hke : k = xs.length := by omega
      subst hke
      have hall : (xs.map (·.data.toList)).take xs.length = xs.map (·.data.toList) := List.take_of_length_le (by simp)
      rw [hall]
      generalize hT : Lib.lens (xs.map (·.data.toList)) = T at hjl
      have HT := Lib.hid hT
      clear hT hall
      go_wp2_with fail
      have hMT : ((M : Int) + (T : Int)) = ((M + T : Nat) : Int) := by omega
      rw [hMT]
      refine (Grow_fresh (w.heap.size + 1) w.heap.size (M + T) _ (heap_alloc_new w _) (by simp) (by omega)).mono ?_
      rintro e w1 ⟨rfl, h1, hb1⟩
      have hk1 : Keeps (fun k => k = w.heap.size ∨ w.heap.size + 1 ≤ k) w w1 := ((Keeps.refl _ w).alloc _).trans2 hb1 (fun i hi e => Or.inl e)
      have hs1 : w.heap.size + 1 ≤ w1.heap.size := by have := hb1.size; simpa using this
      have hx0 : xs[0]? = some x0 := by rw [Hxs.out]; rfl
      have hc0 : w1.cell? ⟨bk, o, none⟩ = some (.string x0) := hk1.cell (HC.out 0 x0 hx0) (by show ¬ (bk = w.heap.size ∨ w.heap.size + 1 ≤ bk); omega)
      have hwhole : joinL xs sep = x0.data.toList ++ Lib.joinTail sep.data.toList (r.map (·.data.toList)) := by
        unfold joinL
        rw [Hxs.out, List.map_cons, Lib.join_cons]
      have hCle : ∀ k, (x0.data.toList ++ Lib.joinTail sep.data.toList ((r.map (·.data.toList)).take k)).length ≤ 100000000 := fun k => by
        have h1 := Hlen.out
        rw [hwhole, List.length_append] at h1
        have h2 := Lib.joinTail_take_le sep.data.toList (r.map (·.data.toList)) k
        rw [List.length_append]
        omega
      have HCle := Lib.hid hCle
      have Hwhole := Lib.hid hwhole
      clear hCle hwhole hb1 hMT hx0
      go_wp2_with fail
      refine (writeString_any _ _ [] x0 w1 h1 (by have := HCle.out 0; simp [Lib.joinTail] at this ⊢; omega) hs1).mono ?_
      rintro e w2 ⟨rfl, h2', hb2⟩
      have hstart : ([] : List Value) ++ Lib.strCells x0 = Lib.byteCells (x0.data.toList ++ Lib.joinTail sep.data.toList ((r.map (·.data.toList)).take 0)) := by
        simp [Lib.joinTail, Lib.strCells_eq]
      rw [hstart] at h2'
      have hk2 := hk1.trans hb2
      have hrl : r.length = xs.length - 1 := by rw [Hxs.out]; simp
      have HB2 := Lib.hid h2'
      have HK2 := Lib.hid hk2
      clear hstart h1 hk1 hb2 h2' hk2 hc0
      go_wp2_with fail
      go_loopw [65] (fun i wr => ∃ k : Nat, k ≤ r.length ∧ i = .int .i64 k ∧ Hid (Bld (w.heap.size + 1) w.heap.size (Lib.byteCells (x0.data.toList ++ Lib.joinTail sep.data.toList ((r.map (·.data.toList)).take k))) wr) ∧ Hid (Keeps (fun k => k = w.heap.size ∨ w.heap.size + 1 ≤ k) w wr) ∧ w.heap.size + 1 ≤ wr.heap.size) (fun i _ => r.length - (intOf i).toNat)
      case atStart => exact ⟨0, Nat.zero_le _, rfl, HB2, HK2, by have := HB2.out.lt; omega⟩
      case round =>
        obtain ⟨k, hk', rfl, HB, HW, hBw⟩ := hrel
        by_cases hkr : k < r.length
        · obtain ⟨y, hy⟩ : ∃ y, r[k]? = some y := ⟨r[k], List.getElem?_eq_getElem hkr⟩
          have hxy : xs[k + 1]? = some y := by rw [Hxs.out]; simpa using hy
          have hcy : wr.cell? ⟨bk, o + 1 + k, none⟩ = some (.string y) := by
            rw [show o + 1 + k = o + (k + 1) by omega]
            exact HW.out.cell (HC.out (k + 1) y hxy) (by show ¬ (bk = w.heap.size ∨ w.heap.size + 1 ≤ bk); omega)
          have hnext : Lib.byteCells (x0.data.toList ++ Lib.joinTail sep.data.toList ((r.map (·.data.toList)).take k)) ++ Lib.strCells sep ++ Lib.strCells y = Lib.byteCells (x0.data.toList ++ Lib.joinTail sep.data.toList ((r.map (·.data.toList)).take (k + 1))) := by
            rw [Lib.joinTail_take_succ sep.data.toList (r.map (·.data.toList)) k y.data.toList (by simp [hy]), Lib.strCells_eq, Lib.strCells_eq, ← Lib.byteCells_append, ← Lib.byteCells_append, List.append_assoc, List.append_assoc, List.append_assoc]
          have hl1 := HCle.out (k + 1)
          rw [Lib.joinTail_take_succ sep.data.toList (r.map (·.data.toList)) k y.data.toList (by simp [hy])] at hl1
          simp only [List.length_append, ← Lib.size_eq] at hl1
          have hl0 : (Lib.byteCells (x0.data.toList ++ Lib.joinTail sep.data.toList ((r.map (·.data.toList)).take k))).length = x0.size + (Lib.joinTail sep.data.toList ((r.map (·.data.toList)).take k)).length := by
            rw [Lib.byteCells_length, List.length_append, ← Lib.size_eq]
          generalize (Lib.joinTail sep.data.toList ((r.map (·.data.toList)).take k)).length = J at hl0 hl1
          have Hn := Lib.hid hnext
          have Hl0 := Lib.hid hl0
          clear hnext hy hxy hl0
          go_wp2_with fail
          refine (writeString_any _ _ _ sep wr HB.out (by rw [Hl0.out]; omega) hBw).mono ?_
          rintro e w3 ⟨rfl, h3, hb3⟩
          have hBw3 : w.heap.size + 1 ≤ w3.heap.size := Nat.le_trans hBw hb3.size
          have H3 := Lib.hid h3
          have Hb3 := Lib.hid hb3
          have hcy3 : w3.cell? ⟨bk, o + 1 + k, none⟩ = some (.string y) := hb3.cell hcy (by show ¬ (bk = w.heap.size ∨ w.heap.size + 1 ≤ bk); omega)
          clear h3 hb3 hcy
          go_wp2_with fail
          refine (writeString_any _ _ _ y w3 H3.out (by rw [List.length_append, Hl0.out, Lib.strCells_length]; omega) hBw3).mono ?_
          rintro e w4 ⟨rfl, h4, hb4⟩
          rw [Hn.out] at h4
          have H4 := Lib.hid h4
          have Hb4 := Lib.hid ((HW.out.trans Hb3.out).trans hb4)
          have hBw4 : w.heap.size + 1 ≤ w4.heap.size := Nat.le_trans hBw3 hb4.size
          clear h4 hb4
          go_wp2_with fail
          go_roundw
          case rel => exact ⟨k + 1, by omega, by go_num, H4, Hb4, hBw4⟩
          case measure => simp [intOf]; omega
        · have hke : k = r.length := by omega
          subst hke
          have hfull : (r.map (·.data.toList)).take r.length = r.map (·.data.toList) := List.take_of_length_le (by simp)
          have hB' := HB.out
          rw [hfull, ← Hwhole.out] at hB'
          have HB' := Lib.hid hB'
          clear hfull hB'
          go_wp2_with fail
          refine (Tryd.Builder_String_any_f w.heap.size w.heap.size _ wr (HB'.out.f _ (by omega) (Nat.le_refl _)) (by omega)).mono ?_
          rintro e w5 ⟨rfl, _, hb5⟩
          go_wp2_with fail
          go_ret
          refine ⟨rfl, ?_⟩
          exact ((HW.out.mono (fun k _ e => show w.heap.size ≤ k by omega)).trans2 (Keeps.ofBelow hb5) (fun i hi e => e)).mono (fun k hk e => by omega)
end Go.Proofs.YtibfioekmpnkgaaDoor
