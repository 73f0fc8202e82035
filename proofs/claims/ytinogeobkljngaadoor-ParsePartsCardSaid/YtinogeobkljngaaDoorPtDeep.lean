/-
  The law on parts: how deep.
-/
import Derived.Test.YtinogeobkljngaaDoorPaSimM
import Derived.Deep.LoopGhost
import Derived.Handy
namespace Go.Proofs.YtinogeobkljngaaDoor
open Go.RowKit
set_option linter.unusedVariables false
set_option linter.unusedSimpArgs false
set_option maxRecDepth 100000

def octs (l : List UInt8) : List Int := l.map fun c => (c.toNat : Int)
theorem octs_cons {l : List UInt8} {i : Nat} {c : UInt8} (h : l[i]? = some c) : (octs l).drop i = (c.toNat : Int) :: (octs l).drop (i + 1) := by
  obtain ⟨hi, hc⟩ := List.getElem?_eq_some_iff.1 h
  unfold octs
  rw [List.drop_eq_getElem_cons (by simpa using hi)]
  simp [hc]
theorem octs_nil {l : List UInt8} {i : Nat} (h : l.length ≤ i) : (octs l).drop i = [] := List.drop_eq_nil_of_le (by simpa [octs] using h)
theorem dM_1 (r : List Int) (n m : Int) : dM 1 r n m = dM 0 (r.drop 1) n m := by
  cases r with
  | nil => rfl
  | cons c r => rfl
theorem dM_3 (r : List Int) (n m : Int) : dM 3 r n m = dM 2 (r.drop 1) n m := by
  cases r with
  | nil => rfl
  | cons c r => rfl
def DeepR (l : List UInt8) (R : Int) (q : Nat) (mv nv iv : Value) : Prop :=
  ∃ (i : Nat) (n m : Int), iv = .int .i64 i ∧ nv = .int .i64 n ∧ mv = .int .i64 m ∧ dM q ((octs l).drop i) n m = R ∧ i ≤ l.length + 2 ∧ -(i : Int) ≤ n ∧ n ≤ i ∧ 0 ≤ m ∧ m ≤ i
set_option maxHeartbeats 8000000 in
theorem deep_any (l : List UInt8) (w : World) (hl : l.length ≤ 1000) :
    Calls Tryd.prog 9 #[.string ⟨l.toArray⟩] w fun e w' => e = .returned (.int .i64 (deepB l)) ∧ w = w' := by
  have HR : Hid (dM 0 ((octs l).drop 0) 0 0 = deepB l) := Lib.hid rfl
  generalize deepB l = R at *
  go_enter Tryd.func9, Tryd.ntmps9
  go_wp2_with fail
  go_loopw [3, 4, 5] (fun mv nv iv wr => DeepR l R 0 mv nv iv ∧ w = wr) (fun _ _ iv _ => l.length + 3 - (intOf iv).toNat)
  case atStart => exact ⟨⟨0, 0, 0, rfl, rfl, rfl, HR.out, by omega, by omega, by omega, by omega, by omega⟩, rfl⟩
  case round =>
    obtain ⟨⟨i, n, m, rfl, rfl, rfl, hR, hi, hn1, hn2, hm1, hm2⟩, rfl⟩ := hrel
    by_cases hil : i < l.length
    · obtain ⟨c, hc⟩ : ∃ c, l[i]? = some c := ⟨_, List.getElem?_eq_getElem hil⟩
      rw [octs_cons hc] at hR
      have hx : ∀ (h : i < (⟨l.toArray⟩ : ByteArray).size), (⟨l.toArray⟩ : ByteArray)[i]'h = c := fun h => by
        have := (List.getElem?_eq_some_iff.1 hc).2
        simpa [ByteArray.getElem_eq_getElem_data] using this
      clear hc
      by_cases h92 : c.toNat = 92
      · rw [dM, if_pos (by omega), dM_1, List.drop_drop] at hR
        have HRR := Lib.hid hR
        have e1 : (((c.toNat : Nat) : Int) == 92) = true := by rw [h92]; rfl
        clear hR h92
        go_wp2_with fail
        go_roundw
        case rel => exact ⟨⟨i + 2, n, m, by go_num, rfl, rfl, HRR.out, by omega, by omega, by omega, by omega, by omega⟩, by trivial⟩
        case measure => simp [intOf]; omega
      have e1 : (((c.toNat : Nat) : Int) == 92) = false := beq_eq_false_iff_ne.2 (by omega)
      by_cases h91 : c.toNat = 91
      · have hR2 : dM 2 ((octs l).drop i) n m = R := by
          rw [octs_cons (c := c) (i := i) (by rw [List.getElem?_eq_getElem hil]; have := hx (by simpa [ByteArray.size] using hil); simp [ByteArray.getElem_eq_getElem_data] at this; rw [this])]
          rw [dM, if_neg (by omega), if_pos (by omega)] at hR
          rw [dM, if_neg (by omega), if_neg (by omega)]
          exact hR
        have HR2 := Lib.hid hR2
        have e2 : (((c.toNat : Nat) : Int) == 91) = true := by rw [h91]; rfl
        clear hR hR2 h91 h92
        go_wp2_with fail
        go_loopw [5] (fun iv wr => ∃ j : Nat, iv = .int .i64 j ∧ dM 2 ((octs l).drop j) n m = R ∧ i ≤ j ∧ j ≤ l.length + 1 ∧ w = wr) (fun iv _ => l.length + 3 - (intOf iv).toNat)
        case atStart => exact ⟨i, rfl, HR2.out, Nat.le_refl _, by omega, rfl⟩
        case round =>
          obtain ⟨j, rfl, hj, hij, hjl, rfl⟩ := hrel
          by_cases hjl2 : j < l.length
          · obtain ⟨d, hd⟩ : ∃ c, l[j]? = some c := ⟨_, List.getElem?_eq_getElem hjl2⟩
            rw [octs_cons hd] at hj
            have hy : ∀ (h : j < (⟨l.toArray⟩ : ByteArray).size), (⟨l.toArray⟩ : ByteArray)[j]'h = d := fun h => by
              have := (List.getElem?_eq_some_iff.1 hd).2
              simpa [ByteArray.getElem_eq_getElem_data] using this
            clear hd hx
            by_cases h93 : d.toNat = 93
            · rw [dM, if_pos (by omega)] at hj
              have HJ := Lib.hid hj
              have e3 : (((d.toNat : Nat) : Int) != 93) = false := by rw [h93]; rfl
              clear hj h93
              go_wp2_with fail
              go_roundw
              case rel => exact ⟨⟨j + 1, n, m, by go_num, rfl, rfl, HJ.out, by omega, by omega, by omega, by omega, by omega⟩, by trivial⟩
              case measure => simp [intOf]; omega
            · have e3 : (((d.toNat : Nat) : Int) != 93) = true := by simp; omega
              by_cases g92 : d.toNat = 92
              · rw [dM, if_neg (by omega), if_pos (by omega), dM_3, List.drop_drop] at hj
                have HJ := Lib.hid hj
                have e4 : (((d.toNat : Nat) : Int) == 92) = true := by rw [g92]; rfl
                clear hj h93 g92
                go_wp2_with fail
                go_roundw
                case rel => exact ⟨j + 2, by go_num, HJ.out, by omega, by omega, by trivial⟩
                case measure => simp [intOf]; omega
              · rw [dM, if_neg (by omega), if_neg (by omega)] at hj
                have HJ := Lib.hid hj
                have e4 : (((d.toNat : Nat) : Int) == 92) = false := beq_eq_false_iff_ne.2 (by omega)
                clear hj h93 g92
                go_wp2_with fail
                go_roundw
                case rel => exact ⟨j + 1, by go_num, HJ.out, by omega, by omega, by trivial⟩
                case measure => simp [intOf]; omega
          · rw [octs_nil (by omega)] at hj
            have hj2 : dM 0 ((octs l).drop (j + 1)) n m = R := by rw [octs_nil (by omega), ← hj]; rfl
            have HJ := Lib.hid hj2
            clear hj hj2 hx
            go_wp2_with fail
            go_roundw
            case rel => exact ⟨⟨j + 1, n, m, by go_num, rfl, rfl, HJ.out, by omega, by omega, by omega, by omega, by omega⟩, by trivial⟩
            case measure => simp [intOf]; omega
      have e2 : (((c.toNat : Nat) : Int) == 91) = false := beq_eq_false_iff_ne.2 (by omega)
      by_cases h40 : c.toNat = 40
      · rw [dM, if_neg (by omega), if_neg (by omega), if_pos (by omega)] at hR
        have HRR := Lib.hid hR
        have e3 : (((c.toNat : Nat) : Int) == 40) = true := by rw [h40]; rfl
        clear hR h40 h92 h91
        go_wp2_with fail
        go_roundw
        case rel => exact ⟨⟨i + 1, n + 1, max m (n + 1), by go_num, by go_num, by first | rfl | go_num, HRR.out, by omega, by omega, by omega, by omega, by omega⟩, by trivial⟩
        case measure => simp [intOf]; omega
      have e3 : (((c.toNat : Nat) : Int) == 40) = false := beq_eq_false_iff_ne.2 (by omega)
      by_cases h41 : c.toNat = 41
      · rw [dM, if_neg (by omega), if_neg (by omega), if_neg (by omega), if_pos (by omega)] at hR
        have HRR := Lib.hid hR
        have e4 : (((c.toNat : Nat) : Int) == 41) = true := by rw [h41]; rfl
        clear hR h40 h92 h91 h41
        go_wp2_with fail
        go_roundw
        case rel => exact ⟨⟨i + 1, n - 1, m, by go_num, by go_num, rfl, HRR.out, by omega, by omega, by omega, by omega, by omega⟩, by trivial⟩
        case measure => simp [intOf]; omega
      have e4 : (((c.toNat : Nat) : Int) == 41) = false := beq_eq_false_iff_ne.2 (by omega)
      rw [dM, if_neg (by omega), if_neg (by omega), if_neg (by omega), if_neg (by omega)] at hR
      have HRR := Lib.hid hR
      clear hR h40 h92 h91 h41
      go_wp2_with fail
      go_roundw
      case rel => exact ⟨⟨i + 1, n, m, by go_num, rfl, rfl, HRR.out, by omega, by omega, by omega, by omega, by omega⟩, by trivial⟩
      case measure => simp [intOf]; omega
    · rw [octs_nil (by omega)] at hR
      go_wp2_with fail
      go_ret
      exact ⟨by rw [← hR]; rfl, rfl⟩
end Go.Proofs.YtinogeobkljngaaDoor
