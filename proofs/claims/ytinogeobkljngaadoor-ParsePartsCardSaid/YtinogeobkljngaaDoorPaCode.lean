/-
  code.Is, Size, length: what they compute; the code point at a text's beginning, in plain Lean.
-/
import Derived.Test.YtinogeobkljngaaDoorLib
import Derived.Test.YtinogeobkljngaaDoorSl
import Derived.Test.YtinogeobkljngaaDoorProg
import Derived.Laws.BitsAllLaws
namespace Go.Proofs.YtinogeobkljngaaDoor
open Go.RowKit
set_option linter.unusedVariables false
set_option linter.unusedSimpArgs false
set_option maxRecDepth 100000

def isB (r : Int) : Bool := decide (0 ≤ r) && decide (r ≤ 1114111) && (decide (r < 55296) || decide (57344 ≤ r))
def sizP (r : Int) : Int := if isB r then (if r < 128 then 1 else if r < 2048 then 2 else if r < 65536 then 3 else 4) else 0
def lenP (c : Nat) : Nat := if c < 128 then 1 else if 194 ≤ c ∧ c < 224 then 2 else if 224 ≤ c ∧ c < 240 then 3 else if 240 ≤ c ∧ c < 245 then 4 else 0

theorem is_any (r : Int) (w : World) : Calls Tryd.prog 35 #[.int .i64 r] w fun e w' => e = .returned (.bool (isB r)) ∧ w = w' := by
  by_cases h0 : 0 ≤ r
  · by_cases h1 : r ≤ 1114111
    · have g0 : decide (0 ≤ r) = true := by simpa using h0
      have g1 : decide (r ≤ 1114111) = true := by simpa using h1
      by_cases h2 : r < 55296
      · have e : isB r = true := by simp [isB, h0, h1, h2]
        have g2 : decide (r < 55296) = true := by simpa using h2
        rw [e]
        go_enter Tryd.func35, Tryd.ntmps35
        go_wp2_with fail
        go_ret
        exact ⟨rfl, rfl⟩
      · have g2 : decide (r < 55296) = false := by simp; omega
        by_cases h3 : 57344 ≤ r
        · have e : isB r = true := by simp [isB, h0, h1, h3]
          have g3 : decide (57344 ≤ r) = true := by simpa using h3
          rw [e]
          go_enter Tryd.func35, Tryd.ntmps35
          go_wp2_with fail
          go_ret
          exact ⟨rfl, rfl⟩
        · have e : isB r = false := by simp [isB, h2]; omega
          have g3 : decide (57344 ≤ r) = false := by simp; omega
          rw [e]
          go_enter Tryd.func35, Tryd.ntmps35
          go_wp2_with fail
          go_ret
          exact ⟨rfl, rfl⟩
    · have e : isB r = false := by simp [isB]; omega
      have g0 : decide (0 ≤ r) = true := by simpa using h0
      have g1 : decide (r ≤ 1114111) = false := by simp; omega
      rw [e]
      go_enter Tryd.func35, Tryd.ntmps35
      go_wp2_with fail
      go_ret
      exact ⟨rfl, rfl⟩
  · have e : isB r = false := by simp [isB]; omega
    have g0 : decide (0 ≤ r) = false := by simp; omega
    rw [e]
    go_enter Tryd.func35, Tryd.ntmps35
    go_wp2_with fail
    go_ret
    exact ⟨rfl, rfl⟩

theorem size_any (r : Int) (w : World) : Calls Tryd.prog 28 #[.int .i64 r] w fun e w' => e = .returned (.int .i64 (sizP r)) ∧ w = w' := by
  have HI := Lib.hid (fun W => is_any r W)
  have He : Hid (sizP r = if isB r then (if r < 128 then 1 else if r < 2048 then 2 else if r < 65536 then 3 else 4) else 0) := Lib.hid rfl
  generalize sizP r = q at He
  cases hb : isB r with
  | false =>
    rw [hb] at HI He
    simp only [Bool.false_eq_true, if_false] at He
    clear hb
    go_enter Tryd.func28, Tryd.ntmps28
    go_wp2_with fail
    refine (HI.out _).mono ?_
    rintro e w1 ⟨rfl, rfl⟩
    go_wp2_with fail
    go_ret
    exact ⟨by rw [He.out]; rfl, rfl⟩
  | true =>
    rw [hb] at HI He
    simp only [if_true] at He
    clear hb
    by_cases h1 : r < 128
    · have E : Hid (q = 1) := Lib.hid (by rw [He.out, if_pos h1])
      clear He
      go_enter Tryd.func28, Tryd.ntmps28
      go_wp2_with fail
      refine (HI.out _).mono ?_
      rintro e w1 ⟨rfl, rfl⟩
      go_wp2_with fail
      go_ret
      exact ⟨by rw [E.out]; rfl, rfl⟩
    · have g1 : decide (r < 128) = false := by simp; omega
      by_cases h2 : r < 2048
      · have E : Hid (q = 2) := Lib.hid (by rw [He.out, if_neg h1, if_pos h2])
        clear He
        go_enter Tryd.func28, Tryd.ntmps28
        go_wp2_with fail
        refine (HI.out _).mono ?_
        rintro e w1 ⟨rfl, rfl⟩
        go_wp2_with fail
        go_ret
        exact ⟨by rw [E.out]; rfl, rfl⟩
      · have g2 : decide (r < 2048) = false := by simp; omega
        by_cases h3 : r < 65536
        · have E : Hid (q = 3) := Lib.hid (by rw [He.out, if_neg h1, if_neg h2, if_pos h3])
          clear He
          go_enter Tryd.func28, Tryd.ntmps28
          go_wp2_with fail
          refine (HI.out _).mono ?_
          rintro e w1 ⟨rfl, rfl⟩
          go_wp2_with fail
          go_ret
          exact ⟨by rw [E.out]; rfl, rfl⟩
        · have g3 : decide (r < 65536) = false := by simp; omega
          have E : Hid (q = 4) := Lib.hid (by rw [He.out, if_neg h1, if_neg h2, if_neg h3])
          clear He
          go_enter Tryd.func28, Tryd.ntmps28
          go_wp2_with fail
          refine (HI.out _).mono ?_
          rintro e w1 ⟨rfl, rfl⟩
          go_wp2_with fail
          go_ret
          exact ⟨by rw [E.out]; rfl, rfl⟩
end Go.Proofs.YtinogeobkljngaaDoor
