/-
  The reference's Word: what it computes.
-/
import Derived.Test.YtibfioekmpnkgaaDoorTextPl
namespace Go.Proofs.YtibfioekmpnkgaaDoor
open Go.RowKit
set_option linter.unusedVariables false
set_option linter.unusedSimpArgs false
set_option maxRecDepth 100000

theorem hex_cut (k : Nat) (h : k < 16) : (⟨#[48, 49, 50, 51, 52, 53, 54, 55, 56, 57, 65, 66, 67, 68, 69, 70]⟩ : ByteArray).extract k (k + 1) = ⟨#[hexD k]⟩ := by
  have : ∀ j : Fin 16, ((⟨#[48, 49, 50, 51, 52, 53, 54, 55, 56, 57, 65, 66, 67, 68, 69, 70]⟩ : ByteArray).extract j.1 (j.1 + 1)).data = #[hexD j.1] := by decide +kernel
  have := this ⟨k, h⟩
  obtain ⟨d, hd⟩ : ∃ d : ByteArray, (⟨#[48, 49, 50, 51, 52, 53, 54, 55, 56, 57, 65, 66, 67, 68, 69, 70]⟩ : ByteArray).extract k (k + 1) = d := ⟨_, rfl⟩
  simp only [hd] at this ⊢
  obtain ⟨d⟩ := d
  simp at this; rw [this]
theorem digit_any (k : Nat) (w : World) (hk : k < 16) : Calls Tryd.prog 21 #[.int .u8 (k : Int)] w fun e w' => e = .returned (.string ⟨#[hexD k]⟩) ∧ w = w' := by
  have h2 : (k : Int) + 1 ≤ 16 := by omega
  have H := Lib.hid (hex_cut k hk)
  go_enter Tryd.func21, Tryd.ntmps21
  go_wp2_with fail
  go_ret
  exact ⟨congrArg (fun t => Ending.returned (.string t)) H.out, rfl⟩

theorem digit_int (n : Int) (w : World) (h0 : 0 ≤ n) (h1 : n < 16) : Calls Tryd.prog 21 #[.int .u8 n] w fun e w' => e = .returned (.string ⟨#[hexD n.toNat]⟩) ∧ w = w' := by
  obtain ⟨k, rfl⟩ := Int.eq_ofNat_of_zero_le h0
  rw [Int.toNat_natCast]
  exact digit_any k w (by omega)
def RefWR (s : ByteArray) (w : World) (v iv : Value) (wr : World) : Prop :=
  ∃ (i : Nat) (t : ByteArray), iv = .int .i64 i ∧ i ≤ s.size ∧ v = .string t ∧ t.data.toList = wordL (s.data.toList.take i) ∧ w = wr
theorem take_at (s : ByteArray) (i : Nat) (h : i < s.size) : s.data.toList.take (i + 1) = s.data.toList.take i ++ [s[i]] := by
  have h' : i < s.data.toList.length := by simpa using h
  rw [List.take_add_one, List.getElem?_eq_getElem h']; rfl
set_option maxHeartbeats 2000000 in
theorem refWord_any (s : ByteArray) (w : World) (hl : s.size ≤ 10000) :
    Calls Tryd.prog 10 #[.string s] w fun e w' => e = .returned (strOf (wordL s.data.toList)) ∧ w = w' := by
  go_enter Tryd.func10, Tryd.ntmps10
  go_wp2_with fail
  go_loopw [3, 4] (fun v iv wr => RefWR s w v iv wr) (fun _ iv _ => s.size - (intOf iv).toNat)
  case atStart => exact ⟨0, _, rfl, Nat.zero_le _, rfl, rfl, rfl⟩
  case round =>
    obtain ⟨i, t, rfl, hi, rfl, ht, rfl⟩ := hrel
    have HT := Lib.hid ht
    have hts : t.size ≤ 40000 := by
      have h1 := wordL_le (s.data.toList.take i)
      have h2 : (s.data.toList.take i).length ≤ i := List.length_take_le _ _
      rw [← ht] at h1
      have h3 : t.data.toList.length = t.size := by simp
      omega
    by_cases hil : i < s.size
    · have Hw : Hid (wordL (s.data.toList.take (i + 1)) = t.data.toList ++ enc1 s[i]) := Lib.hid (by rw [ht, take_at s i hil]; exact wordL_snoc _ _)
      clear ht HT
      have hc := (s[i]).toNat_lt
      by_cases hb : bareB s[i] = true
      · have He : Hid (enc1 s[i] = [s[i]]) := if_pos hb
        have Hx : Hid ((s.extract i (i + 1)).data.toList = [s[i]]) := Lib.hid (by
          have h' : i < s.data.toList.length := by simpa using hil
          rw [Lib.extract_data]
          simp [List.drop_eq_getElem_cons h', show i + 1 - i = 1 by omega]
          rfl)
        simp [bareB] at hb
        obtain ⟨⟨b1, b2⟩, b3⟩ := hb
        have g1 : (33 : Int) ≤ (s[i].toNat : Int) := by omega
        have g2 : (s[i].toNat : Int) ≤ 126 := by omega
        have g3 : ((s[i].toNat : Int) != 37) = true := by simpa using (show ¬ (s[i].toNat : Int) = 37 by omega)
        clear b1 b2 b3
        have hxs : (s.extract i (i + 1)).size ≤ 1 := by
          have : (s.extract i (i + 1)).data.toList.length = 1 := by rw [Hx.out]; rfl
          have h3 : (s.extract i (i + 1)).data.toList.length = (s.extract i (i + 1)).size := Array.length_toList
          omega
        go_wp2_with fail
        go_roundw
        case rel =>
          refine ⟨i + 1, _, by go_num, by omega, rfl, ?_, rfl⟩
          rw [Hw.out, He.out, ← Hx.out]
          simp
        case measure => simp [intOf]; omega
      · have He : Hid (enc1 s[i] = [37, hexD (s[i].toNat / 16), hexD (s[i].toNat % 16)]) := if_neg hb
        have gg : (¬ 33 ≤ s[i].toNat) ∨ (33 ≤ s[i].toNat ∧ ¬ s[i].toNat ≤ 126) ∨ s[i].toNat = 37 := by
          simp [bareB] at hb; omega
        have hc' : (s[i].toNat : Int) ≤ 255 := by omega
        clear hb hc
        rcases gg with g | ⟨g, g'⟩ | g
        · have g1 : decide ((33 : Int) ≤ (s[i].toNat : Int)) = false := by simp; omega
          clear g
          go_wp2_with fail
          refine (digit_int _ _ (by omega) (by omega)).mono ?_
          rintro e w2 ⟨rfl, rfl⟩
          go_wp2_with fail
          refine (digit_int _ _ (by omega) (by omega)).mono ?_
          rintro e w2 ⟨rfl, rfl⟩
          go_wp2_with fail
          go_roundw
          case rel =>
            refine ⟨i + 1, _, by go_num, by omega, rfl, ?_, rfl⟩
            rw [Hw.out, He.out]
            have e1 : ((s[i].toNat : Int) / 16).toNat = s[i].toNat / 16 := by omega
            have e2 : ((s[i].toNat : Int) % 16).toNat = s[i].toNat % 16 := by omega
            try simp only [e1, e2]
            simp
          case measure => simp [intOf]; omega
        · have g1 : decide ((33 : Int) ≤ (s[i].toNat : Int)) = true := by simp; omega
          have g2 : decide ((s[i].toNat : Int) ≤ 126) = false := by simp; omega
          clear g g'
          go_wp2_with fail
          refine (digit_int _ _ (by omega) (by omega)).mono ?_
          rintro e w2 ⟨rfl, rfl⟩
          go_wp2_with fail
          refine (digit_int _ _ (by omega) (by omega)).mono ?_
          rintro e w2 ⟨rfl, rfl⟩
          go_wp2_with fail
          go_roundw
          case rel =>
            refine ⟨i + 1, _, by go_num, by omega, rfl, ?_, rfl⟩
            rw [Hw.out, He.out]
            have e1 : ((s[i].toNat : Int) / 16).toNat = s[i].toNat / 16 := by omega
            have e2 : ((s[i].toNat : Int) % 16).toNat = s[i].toNat % 16 := by omega
            try simp only [e1, e2]
            simp
          case measure => simp [intOf]; omega
        · have g0 : decide ((33 : Int) ≤ (s[i].toNat : Int)) = true := by rw [g]; rfl
          have g1 : decide ((s[i].toNat : Int) ≤ 126) = true := by rw [g]; rfl
          have g2 : ((s[i].toNat : Int) != 37) = false := by rw [g]; rfl
          clear g
          go_wp2_with fail
          refine (digit_int _ _ (by omega) (by omega)).mono ?_
          rintro e w2 ⟨rfl, rfl⟩
          go_wp2_with fail
          refine (digit_int _ _ (by omega) (by omega)).mono ?_
          rintro e w2 ⟨rfl, rfl⟩
          go_wp2_with fail
          go_roundw
          case rel =>
            refine ⟨i + 1, _, by go_num, by omega, rfl, ?_, rfl⟩
            rw [Hw.out, He.out]
            have e1 : ((s[i].toNat : Int) / 16).toNat = s[i].toNat / 16 := by omega
            have e2 : ((s[i].toNat : Int) % 16).toNat = s[i].toNat % 16 := by omega
            try simp only [e1, e2]
            simp
          case measure => simp [intOf]; omega
    · obtain rfl : i = s.size := by omega
      have Ht : Hid (t = ⟨(wordL s.data.toList).toArray⟩) := Lib.hid (by
        rw [List.take_of_length_le (by simp)] at ht
        rw [← ht])
      clear ht HT
      go_wp2_with fail
      go_ret
      exact ⟨by rw [Ht.out]; rfl, rfl⟩
end Go.Proofs.YtibfioekmpnkgaaDoor
