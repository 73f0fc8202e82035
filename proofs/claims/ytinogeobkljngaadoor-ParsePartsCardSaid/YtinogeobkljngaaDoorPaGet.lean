/-
  code.length, code.Get: what they compute.
-/
import Derived.Test.YtinogeobkljngaaDoorPaCode
import Derived.Outline
namespace Go.Proofs.YtinogeobkljngaaDoor
open Go.RowKit
set_option linter.unusedVariables false
set_option linter.unusedSimpArgs false
set_option maxRecDepth 100000

theorem ofInt_i64 (a : Nat) (ha : a < 9223372036854775808) : (BitVec.ofInt 64 (a : Int)).toNat = a := by
  rw [BitVec.ofInt_natCast, BitVec.toNat_ofNat]; exact Nat.mod_eq_of_lt (by omega)
theorem or_64 (a b : Nat) (ha : a < 1099511627776) (hb : b < 64) : bits .or .i64 ((a : Int) * 64) (b : Int) = (a : Int) * 64 + b := by
  have e : (a : Int) * 64 = ((a * 64 : Nat) : Int) := by omega
  rw [e]
  show IntKind.i64.wrap ((BitVec.ofInt 64 ((a * 64 : Nat) : Int) ||| BitVec.ofInt 64 (b : Int)).toNat : Int) = _
  rw [BitVec.toNat_or, ofInt_i64 _ (by omega), ofInt_i64 _ (by omega)]
  have h := Nat.shiftLeft_add_eq_or_of_lt (i := 6) (show b < 2 ^ 6 by omega) a
  rw [Nat.shiftLeft_eq] at h
  rw [show a * 64 = a * 2 ^ 6 by omega, ← h, IntKind.wrap_i64]
  omega
theorem and_pow (n k : Nat) (hk : k < 16) (hn : n < 256) : bits .and .i64 (n : Int) ((2 ^ k - 1 : Nat) : Int) = ((n % 2 ^ k : Nat) : Int) := by
  have hp : 2 ^ k ≤ 2 ^ 16 := Nat.pow_le_pow_right (by omega) (by omega)
  show IntKind.i64.wrap ((BitVec.ofInt 64 (n : Int) &&& BitVec.ofInt 64 ((2 ^ k - 1 : Nat) : Int)).toNat : Int) = _
  rw [BitVec.toNat_and, ofInt_i64 _ (by omega), ofInt_i64 _ (by omega), Nat.and_two_pow_sub_one_eq_mod, IntKind.wrap_i64]
  have : n % 2 ^ k ≤ n := Nat.mod_le _ _
  omega

def tailP (r : Nat) : List UInt8 → Option Nat
  | [] => some r
  | c :: l => if c.toNat / 64 = 2 then tailP (r * 64 + c.toNat % 64) l else none
def headP (c : UInt8) : Nat := if 1 < lenP c.toNat then c.toNat % 2 ^ (7 - lenP c.toNat) else c.toNat
def getP : List UInt8 → Int × Nat
  | [] => (65533, 0)
  | c :: l => if lenP c.toNat = 0 ∨ l.length + 1 < lenP c.toNat then (65533, 1) else
    match tailP (headP c) (l.take (lenP c.toNat - 1)) with
    | none => (65533, 1)
    | some r => if sizP r = lenP c.toNat then (r, lenP c.toNat) else (65533, 1)

theorem length_any (c : Nat) (w : World) (hc : c < 256) : Calls Tryd.prog 34 #[.int .u8 (c : Int)] w fun e w' => e = .returned (.int .i64 (lenP c)) ∧ w = w' := by
  have He : Hid (lenP c = if c < 128 then 1 else if 194 ≤ c ∧ c < 224 then 2 else if 224 ≤ c ∧ c < 240 then 3 else if 240 ≤ c ∧ c < 245 then 4 else 0) := Lib.hid rfl
  generalize lenP c = q at *
  have gg : (c < 128 ∧ q = 1) ∨ (128 ≤ c ∧ c < 194 ∧ q = 0) ∨ (194 ≤ c ∧ c < 224 ∧ q = 2) ∨ (224 ≤ c ∧ c < 240 ∧ q = 3) ∨ (240 ≤ c ∧ c < 245 ∧ q = 4) ∨ (245 ≤ c ∧ q = 0) := by
    have h := He.out
    split at h
    · left; omega
    · split at h
      · omega
      · split at h
        · omega
        · split at h <;> omega
  clear He
  rcases gg with ⟨h1, rfl⟩ | ⟨h1, h2, rfl⟩ | ⟨h1, h2, rfl⟩ | ⟨h1, h2, rfl⟩ | ⟨h1, h2, rfl⟩ | ⟨h1, rfl⟩
  · have g1 : decide ((c : Int) < 128) = true := by simp; omega
    go_enter Tryd.func34, Tryd.ntmps34
    go_wp2_with fail
    go_ret
    exact ⟨rfl, rfl⟩
  all_goals
    have g1 : decide ((c : Int) < 128) = false := by simp; omega
    obtain ⟨b1, e1⟩ : ∃ b, decide ((194 : Int) ≤ (c : Int)) = b := ⟨_, rfl⟩
    obtain ⟨b2, e2⟩ : ∃ b, decide ((c : Int) < 224) = b := ⟨_, rfl⟩
    obtain ⟨b3, e3⟩ : ∃ b, decide ((224 : Int) ≤ (c : Int)) = b := ⟨_, rfl⟩
    obtain ⟨b4, e4⟩ : ∃ b, decide ((c : Int) < 240) = b := ⟨_, rfl⟩
    obtain ⟨b5, e5⟩ : ∃ b, decide ((240 : Int) ≤ (c : Int)) = b := ⟨_, rfl⟩
    obtain ⟨b6, e6⟩ : ∃ b, decide ((c : Int) < 245) = b := ⟨_, rfl⟩
    cases b1 <;> cases b2 <;> cases b3 <;> cases b4 <;> cases b5 <;> cases b6 <;> first | (exfalso; simp at e1 e2 e3 e4 e5 e6; omega) | skip
    all_goals
      go_enter Tryd.func34, Tryd.ntmps34
      go_wp2_with fail
      go_ret
      exact ⟨rfl, rfl⟩
def encB (c : UInt8) (_ : Nat) : Value := .int .u8 c.toNat
end Go.Proofs.YtinogeobkljngaaDoor
