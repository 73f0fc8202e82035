/-
  text.Word: what it computes.
-/
import Derived.Test.YtibfioekmpnkgaaDoorTextP
import Derived.Test.YtibfioekmpnkgaaDoorTextB
import Derived.Test.YtibfioekmpnkgaaDoorShelf
import Derived.Lib.ConvBytes
import Derived.Deep.Cut
namespace Go.Proofs.YtibfioekmpnkgaaDoor
open Go.RowKit
set_option linter.unusedVariables false
set_option linter.unusedSimpArgs false
set_option maxRecDepth 100000

theorem bare_any (c : UInt8) (w : World) : Calls Tryd.prog 18 #[.int .u8 (c.toNat : Int)] w fun e w' => e = .returned (.bool (bareB c)) ∧ w = w' := by
  have hc := c.toNat_lt
  by_cases h1 : 32 < c.toNat
  · have g1 : (32 : Int) < (c.toNat : Int) := by omega
    by_cases h2 : c.toNat ≤ 126
    · have g2 : (c.toNat : Int) ≤ 126 := by omega
      by_cases h3 : c.toNat = 37
      · have e : bareB c = false := by simp [bareB, h3]
        rw [e, h3]
        go_enter Tryd.func18, Tryd.ntmps18
        go_wp2_with fail
        go_ret
        exact ⟨rfl, rfl⟩
      · have e : bareB c = true := by simp [bareB, h3, h2]; omega
        rw [e]
        have g3 : ((c.toNat : Int) == 37) = false := by simpa using (show ¬ (c.toNat : Int) = 37 by omega)
        have g4 : ((c.toNat : Int) != 37) = true := by simpa using (show ¬ (c.toNat : Int) = 37 by omega)
        clear h3 h1 h2
        go_enter Tryd.func18, Tryd.ntmps18
        go_wp2_with fail
        go_ret
        exact ⟨rfl, rfl⟩
    · have e : bareB c = false := by simp [bareB]; omega
      rw [e]
      have g2 : decide ((c.toNat : Int) ≤ 126) = false := by simp; omega
      go_enter Tryd.func18, Tryd.ntmps18
      go_wp2_with fail
      go_ret
      exact ⟨rfl, rfl⟩
  · have e : bareB c = false := by simp [bareB]; omega
    rw [e]
    have g2 : decide ((32 : Int) < (c.toNat : Int)) = false := by simp; omega
    go_enter Tryd.func18, Tryd.ntmps18
    go_wp2_with fail
    go_ret
    exact ⟨rfl, rfl⟩

theorem byteCells_snoc (l : List UInt8) (c : UInt8) : Lib.byteCells (l ++ [c]) = Lib.byteCells l ++ [.int .u8 c.toNat] := by simp [Lib.byteCells]
theorem hex_at (k : Nat) (h : k < (⟨#[48, 49, 50, 51, 52, 53, 54, 55, 56, 57, 65, 66, 67, 68, 69, 70]⟩ : ByteArray).size) : (⟨#[48, 49, 50, 51, 52, 53, 54, 55, 56, 57, 65, 66, 67, 68, 69, 70]⟩ : ByteArray)[k] = hexD k := by
  have : ∀ j : Fin 16, (⟨#[48, 49, 50, 51, 52, 53, 54, 55, 56, 57, 65, 66, 67, 68, 69, 70]⟩ : ByteArray)[j.1]'j.2 = hexD j.1 := by decide +kernel
  exact this ⟨k, h⟩
theorem byteCells_app3 (l : List UInt8) (a b c : UInt8) : Lib.byteCells (l ++ [a, b, c]) = ((Lib.byteCells l ++ [.int .u8 a.toNat]) ++ [.int .u8 b.toNat]) ++ [.int .u8 c.toNat] := by simp [Lib.byteCells]
def WordR (l : List UInt8) (n base b : Nat) (w1 : World) (iv : Value) (wr : World) : Prop :=
  ∃ i : Nat, iv = .int .i64 i ∧ i ≤ n ∧ Bld base b (Lib.byteCells (wordL (l.take i))) wr ∧ Keeps (fun k => k = b ∨ base ≤ k) w1 wr
theorem Keeps.bytesWorld (w : World) (e : TypeId) (s : ByteArray) (S : Nat → Prop) : Keeps S w (Lib.bytesWorld w e s) :=
  ⟨rfl, rfl, rfl, by rw [Lib.bytesWorld_size]; omega, fun k hk _ => Lib.bytesWorld_at_old w e s k hk⟩
theorem Bld.f {base b : Nat} {bs : List Value} {w : World} (h : Bld base b bs w) (B : Nat) (hB : B ≤ base) (hb : B ≤ b) : Lib.IsBuilderF 44 5 B b bs w := by
  obtain ⟨p, v, hp, h1, h2, h3⟩ := h
  have : w.ownsRow B 5 1 v bs.length bs := by
    obtain ⟨q1, q2⟩ := h2
    refine ⟨q1, ?_⟩
    rcases q2 with q2 | ⟨g, cap, cur, rfl, hg, hc⟩
    · exact Or.inl q2
    · exact Or.inr ⟨g, cap, cur, rfl, Nat.le_trans hB hg, hc⟩
  have hF := World.ownsRowF_of this
  rcases hp with rfl | rfl
  · exact Or.inl ⟨hb, v, h1, hF, h3⟩
  · exact Or.inr ⟨hb, v, h1, hF, h3⟩

set_option maxHeartbeats 2000000 in
theorem word_any (l : List UInt8) (w : World) (hl : l.length ≤ 100000) :
    Calls Tryd.prog 8 #[.string ⟨l.toArray⟩] w fun e w' => e = .returned (.string ⟨(wordL l).toArray⟩) ∧ Keeps (fun _ => False) w w' := by
  have Hs : Hid ((⟨l.toArray⟩ : ByteArray).data.toList = l) := rfl
  have Hz : Hid ((⟨l.toArray⟩ : ByteArray).size = l.length) := by show l.toArray.size = _; simp
  generalize (⟨l.toArray⟩ : ByteArray) = s at *
  go_enter Tryd.func8, Tryd.ntmps8
  go_upto_region 2 with fail
  have hconv := fun W => Lib.run_convert_string_bytes (P := Tryd.prog) W 9 37 5 s Tryd.underlying9 Tryd.underlying37 Tryd.underlying5
  go_wp2_with fail
  clear hconv
  have hW0 : Keeps (fun _ => False) w (Lib.bytesWorld (w.alloc (.cells #[.pointer none, .slice none 0 0] 44)) 5 s) := ((Keeps.refl _ w).alloc _).trans (Keeps.bytesWorld _ _ _ _)
  have hB0 : (Lib.bytesWorld (w.alloc (.cells #[.pointer none, .slice none 0 0] 44)) 5 s).heap[w.heap.size]? = some (.cells #[.pointer none, .slice none 0 0] 44 (0, 0)) := by
    rw [Lib.bytesWorld_at_old _ _ _ _ (by simp)]
    show (w.heap.push _)[_]? = _
    simp
  have hX0 : ∀ j, j < s.size → (Lib.bytesWorld (w.alloc (.cells #[.pointer none, .slice none 0 0] 44)) 5 s).cell? ⟨w.heap.size + 1, j, none⟩ = some (.int .u8 (s.data.toList.getD j 0).toNat) := fun j hj => by
    have := Lib.bytesWorld_cell (w.alloc (.cells #[.pointer none, .slice none 0 0] 44)) 5 s j hj
    simpa using this
  have hsz : (Lib.bytesWorld (w.alloc (.cells #[.pointer none, .slice none 0 0] 44)) 5 s).heap.size = w.heap.size + 2 := by rw [Lib.bytesWorld_size]; simp
  generalize grownCap (w.alloc (.cells #[.pointer none, .slice none 0 0] 44)) s.size 0 5 = cp
  generalize Lib.bytesWorld (w.alloc (.cells #[.pointer none, .slice none 0 0] 44)) 5 s = w1 at *
  have hBl : Bld (w.heap.size + 2) w.heap.size (Lib.byteCells (wordL (l.take 0))) w1 := Bld.fresh (w' := w) hB0
  rw [Hs.out] at hX0
  have HX := Lib.hid hX0
  have Hsz := Lib.hid hsz
  have hn : s.size ≤ 100000 := by rw [Hz.out]; exact hl
  clear hX0 hB0 hsz
  generalize s.size = n at *
  go_loopw [9] (fun iv wr => WordR l n (w.heap.size + 2) w.heap.size w1 iv wr) (fun iv _ => n - (intOf iv).toNat)
  case atStart => exact ⟨0, rfl, Nat.zero_le _, hBl, Keeps.refl _ _⟩
  case round =>
    clear hBl
    obtain ⟨i, rfl, hi, hB, hk⟩ := hrel
    have hsw : w.heap.size + 2 ≤ wr.heap.size := by have := hk.size; rw [Hsz.out] at this; exact this
    by_cases hil : i < n
    · have hcell := hk.cell (HX.out i hil) (by show ¬ (w.heap.size + 1 = w.heap.size ∨ w.heap.size + 2 ≤ w.heap.size + 1); omega)
      have htk : l.take (i + 1) = l.take i ++ [l.getD i 0] := by
        have : i < l.length := by rw [← Hz.out]; exact hil
        rw [List.take_add_one, List.getD_eq_getElem?_getD, List.getElem?_eq_getElem this]; rfl
      have Htk : Hid (wordL (l.take (i + 1)) = wordL (l.take i) ++ enc1 (l.getD i 0)) := by rw [htk]; exact wordL_snoc _ _
      have hwl := wordL_le (l.take i)
      have hwt : (l.take i).length ≤ i := List.length_take_le _ _
      clear htk
      generalize l.getD i 0 = c at *
      have hc := c.toNat_lt
      by_cases hb : bareB c = true
      · have He : Hid (enc1 c = [c]) := if_pos hb
        have Hb := Lib.hid hb
        clear hb
        go_wp2_with fail
        refine (bare_any c _).mono ?_
        rintro e w2 ⟨rfl, rfl⟩
        rw [Hb.out]
        go_wp2_with fail
        refine (writeByte_any _ _ _ _ _ hB (by simp [Lib.byteCells]; omega) hsw).mono ?_
        rintro e w2 ⟨rfl, hB2, hk2⟩
        go_wp2_with fail
        go_roundw
        case rel => exact ⟨i + 1, by go_num, by omega, by rw [Htk.out, He.out, byteCells_snoc]; exact hB2, hk.trans hk2⟩
        case measure => simp [intOf]; omega
      · have He : Hid (enc1 c = [37, hexD (c.toNat / 16), hexD (c.toNat % 16)]) := if_neg hb
        have Hb : Hid (bareB c = false) := Lib.hid (by simpa using hb)
        clear hb
        go_wp2_with fail
        refine (bare_any c _).mono ?_
        rintro e w2 ⟨rfl, rfl⟩
        rw [Hb.out]
        go_wp2_with fail
        refine (writeByte_any _ _ _ _ _ hB (by simp [Lib.byteCells]; omega) hsw).mono ?_
        rintro e w2 ⟨rfl, hB2, hk2⟩
        go_wp2_with fail
        have hs2 := hk2.size
        refine (writeByte_any _ _ _ _ _ hB2 (by simp [Lib.byteCells]; omega) (by omega)).mono ?_
        rintro e w3 ⟨rfl, hB3, hk3⟩
        have hs3 := hk3.size
        go_wp2_with fail
        refine (writeByte_any _ _ _ _ _ hB3 (by simp [Lib.byteCells]; omega) (by omega)).mono ?_
        rintro e w4 ⟨rfl, hB4, hk4⟩
        simp only [hex_at] at hB4
        go_wp2_with fail
        go_roundw
        case rel => exact ⟨i + 1, by go_num, by omega, by rw [Htk.out, He.out, byteCells_app3]; exact hB4, ((hk.trans hk2).trans hk3).trans hk4⟩
        case measure => simp [intOf]; omega
    · obtain rfl : i = n := by omega
      have Ht : Hid (l.take i = l) := List.take_of_length_le (by rw [Hz.out]; exact Nat.le_refl _)
      go_wp2_with fail
      rw [Ht.out] at hB
      refine (Tryd.Builder_String_any_f w.heap.size w.heap.size (wordL l) wr (hB.f _ (by omega) (Nat.le_refl _)) (by omega)).mono ?_
      rintro e w2 ⟨rfl, _, hbe⟩
      go_wp2_with fail
      go_ret
      refine ⟨rfl, ?_⟩
      have K1 : Keeps (fun k => w.heap.size ≤ k) w wr := (hW0.mono (fun _ _ e => e.elim)).trans2 hk (fun i hi e => by rcases e with e | e <;> omega)
      exact (K1.trans2 (Keeps.ofBelow hbe) (fun i hi e => e)).mono (fun k hk e => by omega)
end Go.Proofs.YtibfioekmpnkgaaDoor
