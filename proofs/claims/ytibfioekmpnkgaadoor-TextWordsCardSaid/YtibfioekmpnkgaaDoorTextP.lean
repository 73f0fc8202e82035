/-
  Texts' words, in plain Lean: no program in sight.
-/
import Derived.Test.YtibfioekmpnkgaaDoorLib
import Derived.Lib.Bytealg
namespace Go.Proofs.YtibfioekmpnkgaaDoor
open Go.RowKit
set_option linter.unusedVariables false
set_option linter.unusedSimpArgs false

/-- Does an octet stand for itself? -/
def bareB (c : UInt8) : Bool := decide (33 ≤ c.toNat) && decide (c.toNat ≤ 126) && !decide (c.toNat = 37)
def hexs : List UInt8 := [48, 49, 50, 51, 52, 53, 54, 55, 56, 57, 65, 66, 67, 68, 69, 70]
def hexD (n : Nat) : UInt8 := hexs.getD n 0
def enc1 (c : UInt8) : List UInt8 := if bareB c then [c] else [37, hexD (c.toNat / 16), hexD (c.toNat % 16)]
def wordL (l : List UInt8) : List UInt8 := l.flatMap enc1
/-- A digit's value; -1: it is none. -/
def hexV (c : UInt8) : Int := Lib.indexByte hexs c
def unL : List UInt8 → Option (List UInt8)
  | [] => some []
  | [c] => if c = 37 then none else some [c]
  | [c, d] => if c = 37 then none else (unL [d]).map (c :: ·)
  | c :: a :: b :: r => if c = 37 then (if hexV a < 0 ∨ hexV b < 0 then none else (unL r).map (UInt8.ofNat ((hexV a).toNat * 16 + (hexV b).toNat) :: ·)) else (unL (a :: b :: r)).map (c :: ·)
def plainL (w : List UInt8) : Option (List UInt8) := match unL w with
  | some s => if wordL s = w then some s else none
  | none => none

theorem wordL_nil : wordL [] = [] := rfl
theorem wordL_cons (c : UInt8) (l : List UInt8) : wordL (c :: l) = enc1 c ++ wordL l := rfl
theorem wordL_snoc (l : List UInt8) (c : UInt8) : wordL (l ++ [c]) = wordL l ++ enc1 c := by simp [wordL]
theorem enc1_le (c : UInt8) : (enc1 c).length ≤ 3 := by unfold enc1; split <;> simp
theorem wordL_le (l : List UInt8) : (wordL l).length ≤ 3 * l.length := by
  induction l with
  | nil => simp [wordL]
  | cons c l ih => rw [wordL_cons, List.length_append, List.length_cons]; have := enc1_le c; omega
theorem unL_bare (c : UInt8) (r : List UInt8) (h : c ≠ 37) : unL (c :: r) = (unL r).map (c :: ·) := by
  match r with
  | [] => simp [unL, h]
  | [d] => simp [unL, h]
  | a :: b :: r => simp [unL, h]
theorem unL_short1 : unL [37] = none := rfl
theorem unL_short2 (d : UInt8) : unL [37, d] = none := rfl
theorem unL_hex (a b : UInt8) (r : List UInt8) : unL (37 :: a :: b :: r) = if hexV a < 0 ∨ hexV b < 0 then none else (unL r).map (UInt8.ofNat ((hexV a).toNat * 16 + (hexV b).toNat) :: ·) := by simp [unL]
theorem hexV_D : ∀ n, n < 16 → hexV (hexD n) = n := by decide +kernel
theorem unL_enc1 (c : UInt8) (r : List UInt8) : unL (enc1 c ++ r) = (unL r).map (c :: ·) := by
  unfold enc1
  by_cases h : bareB c = true
  · rw [if_pos h]
    have : c ≠ 37 := by rintro rfl; simp [bareB] at h
    exact unL_bare c r this
  · rw [if_neg h]
    have hc := c.toNat_lt
    show unL (37 :: _ :: _ :: r) = _
    rw [unL_hex, hexV_D _ (by omega), hexV_D _ (by omega), if_neg (by omega)]
    have : UInt8.ofNat ((((c.toNat / 16 : Nat) : Int).toNat) * 16 + ((c.toNat % 16 : Nat) : Int).toNat) = c := by
      rw [Int.toNat_natCast, Int.toNat_natCast, show c.toNat / 16 * 16 + c.toNat % 16 = c.toNat by omega]
      exact UInt8.ofNat_toNat
    rw [this]
theorem unL_word (l : List UInt8) : unL (wordL l) = some l := by
  induction l with
  | nil => rfl
  | cons c l ih => rw [wordL_cons, unL_enc1, ih]; rfl
theorem plain_word (l : List UInt8) : plainL (wordL l) = some l := by
  unfold plainL; rw [unL_word]; simp
theorem word_plain {w u : List UInt8} (h : plainL w = some u) : wordL u = w := by
  unfold plainL at h
  split at h
  · split at h
    · cases h; assumption
    · cases h
  · cases h
theorem plain_nil : plainL [] = some [] := rfl
theorem unL_le : ∀ (n : Nat) (w u : List UInt8), w.length ≤ n → unL w = some u → u.length ≤ w.length := by
  intro n
  induction n with
  | zero => intro w u hn h; match w, hn with | [], _ => cases h; simp
  | succ n ih =>
    intro w u hn h
    match w, hn, h with
    | [], _, h => cases h; simp
    | c :: r, hn, h =>
      by_cases hc : c = 37
      · subst hc
        match r, hn, h with
        | [], _, h => cases h
        | [d], _, h => cases h
        | a :: b :: r, hn, h =>
          rw [unL_hex] at h
          split at h
          · cases h
          · obtain ⟨v, hv, rfl⟩ := Option.map_eq_some_iff.1 h
            have := ih r v (by simp at hn; omega) hv
            simp; omega
      · rw [unL_bare c r hc] at h
        obtain ⟨v, hv, rfl⟩ := Option.map_eq_some_iff.1 h
        have := ih r v (by simp at hn; omega) hv
        simp; omega
end Go.Proofs.YtibfioekmpnkgaaDoor
