/-
  GaugeDraws: the walk of gauge.scale. No condition.
-/
import Derived.Test.YtcgieejgmcgicaaGreatDoorGdA
import Derived.Test.YtcgieejgmcgicaaGreatDoorSl
import Derived.Test.YtcgieejgmcgicaaGreatDoorChecked
import Derived.IntWalk
import Derived.Deep.QuietTactic
import Derived.BigQuiet
import Derived.Deep.RegionWith
import Derived.Handy
namespace Go.Proofs.YtcgieejgmcgicaaGreatDoor
open Go.RowKit
set_option linter.unusedVariables false
set_option linter.unusedSimpArgs false
set_option maxRecDepth 100000

/-- A row of whole numbers. -/
abbrev ISl (w : World) (v : Value) (l : List Int) : Prop := SlOf 1 (fun (x : Int) (_ : Nat) => (Value.int .i64 x)) w v l
theorem ISl.cells {w : World} {v : Value} {l : List Int} (h : ISl w v l) : ∃ a cap, v = .slice a l.length cap ∧ l.length ≤ 4611686018427387904 ∧
    (0 < l.length → ∃ b off, a = some ⟨b, off, none⟩ ∧ b < w.heap.size ∧ ∀ i, i < l.length → w.cell? ⟨b, off + i, none⟩ = some (.int .i64 (l.getD i 0))) := by
  obtain ⟨a, cap, rfl, ⟨hl, hln⟩, hl2, hc⟩ := h
  refine ⟨a, cap, rfl, hl2, fun h0 => ?_⟩
  obtain ⟨b, off, rfl, hcc⟩ := hc h0
  have g : ∀ i (hi : i < l.length), l[i]? = some l[i] ∧ l.getD i 0 = l[i] := fun i hi => ⟨List.getElem?_eq_getElem hi, by simp [List.getD, List.getElem?_eq_getElem hi]⟩
  refine ⟨b, off, rfl, ?_, fun i hi => ?_⟩
  · have := hcc 0 _ (g 0 h0).1 0 (by omega)
    exact lt_of_cell this
  · have := hcc i _ (g i hi).1 0 (by omega)
    rw [(g i hi).2]
    simpa using this
/-- The numbers within their ends. -/
def clL (l : List Int) : List Int := l.map fun x => ((cl x : Nat) : Int)
theorem clL_len (l : List Int) : (clL l).length = l.length := by simp [clL]
theorem clL_at (l : List Int) {i : Nat} (h : i < l.length) : (clL l).getD i 0 = ((clAt l i : Nat) : Int) := by
  unfold clL clAt
  simp [List.getD, List.getElem?_map, List.getElem?_eq_getElem h]
theorem up_room {l : List Int} {i k : Nat} (h : 1 ≤ k) : clAt l i ≤ 40 * (k * 2 ^ 64) := by
  have hc := clAt_le l i
  have : 1 * 2 ^ 64 ≤ k * 2 ^ 64 := Nat.mul_le_mul_right _ h
  have h2 : (2 : Nat) ^ 64 = 18446744073709551616 := by decide
  rw [h2] at this ⊢
  omega
theorem up_more {n k : Nat} : ∀ (f : Nat), n ≤ 40 * (k * 2 ^ f) → 40 * k < n → ∃ g, up f n k = up g n (2 * k) ∧ n ≤ 40 * (2 * k * 2 ^ g)
  | 0, h, hk => by simp at h; omega
  | f + 1, h, hk => ⟨f, by rw [up, if_pos hk], by
      have : 2 * k * 2 ^ f = k * 2 ^ (f + 1) := by rw [Nat.pow_succ, Nat.mul_comm 2 k, Nat.mul_assoc, Nat.mul_comm 2 (2 ^ f)]
      rw [this]; exact h⟩
theorem up_stop {n k : Nat} : ∀ (f : Nat), ¬ 40 * k < n → up f n k = k
  | 0, h => rfl
  | f + 1, h => by rw [up, if_neg h]

set_option maxHeartbeats 2000000 in
theorem scale_any (l : List Int) (v : Value) (w : World) (h : ISl w v (clL l)) :
    Calls Tryz.prog 122 #[v] w fun e w' => e = .returned (.int .i64 (scaleN l l.length)) ∧ w = w' := by
  obtain ⟨a, cap, rfl, hl, hc⟩ := ISl.cells h
  rw [clL_len] at hl hc ⊢
  have Hc := Lib.hid hc
  clear hc h
  go_enter Tryz.func122, Tryz.ntmps122
  go_wp2_with fail
  go_loopw [3, 8] (fun k i wr => ∃ m : Nat, m ≤ l.length ∧ i = .int .i64 m ∧ k = .int .i64 (scaleN l m) ∧ wr = w) (fun _ i _ => l.length - (intOf i).toNat)
  case atStart => exact ⟨0, Nat.zero_le _, rfl, rfl, rfl⟩
  case round =>
    obtain ⟨m, hm, rfl, rfl, rfl⟩ := hrel
    by_cases hlt : m < l.length
    · obtain ⟨b, off, rfl, hb, hcc⟩ := Hc.out (by omega)
      have c0 := hcc m hlt
      rw [clL_at l hlt] at c0
      clear hcc
      have hs1 := scale_pos l m
      have hs2 := scale_le l m
      have Hn : Hid (up 64 (clAt l m) (scaleN l m) = scaleN l (m + 1)) := Lib.hid rfl
      have hcl := clAt_le l m
      have Hroom := Lib.hid (@up_room l m _ hs1)
      obtain ⟨C, hC⟩ : ∃ C, C = clAt l m := ⟨_, rfl⟩
      rw [← hC] at c0 hcl Hn Hroom
      go_wp2_with fail
      go_loopw [3] (fun kv w2 => ∃ (f kc : Nat), kv = .int .i64 kc ∧ up f C kc = scaleN l (m + 1) ∧ 1 ≤ kc ∧ kc ≤ 54975581388 ∧ C ≤ 40 * (kc * 2 ^ f) ∧ w2 = wr) (fun kv _ => 200000000000 - (intOf kv).toNat)
      case atStart => exact ⟨64, _, rfl, Hn.out, hs1, hs2, Hroom.out, rfl⟩
      case round =>
        obtain ⟨f, kc, rfl, hup, h1, h2, h3, rfl⟩ := hrel
        have w1 : IntKind.i64.wrap ((kc : Int) * 40) = (kc : Int) * 40 := IntWalk.i64_in _ (by omega)
        by_cases hk : 40 * kc < C
        · obtain ⟨g, hg1, hg2⟩ := up_more f h3 hk
          have d1 : decide ((kc : Int) * 40 < (C : Int)) = true := by simp; omega
          have w2 : IntKind.i64.wrap ((kc : Int) * 2) = (kc : Int) * 2 := IntWalk.i64_in _ (by omega)
          have Hup := Lib.hid (hg1.symm.trans hup)
          have Hg2 := Lib.hid hg2
          clear hg1 hup h3 hg2
          go_wp2_with fail
          go_roundw
          case rel => exact ⟨g, 2 * kc, by (congr 1; omega), Hup.out, by omega, by omega, Hg2.out, by first | rfl | trivial⟩
          case measure => (simp [intOf] <;> omega)
        · have d1 : decide ((kc : Int) * 40 < (C : Int)) = false := by simp; omega
          have Hend := Lib.hid ((up_stop f hk).symm.trans hup)
          clear hup h3
          go_wp2_with fail
          go_roundw
          case rel => exact ⟨m + 1, by omega, by go_num, by rw [Hend.out], by first | rfl | trivial⟩
          case measure => (simp [intOf] <;> omega)
    · have : m = l.length := by omega
      subst this
      go_wp2_with fail
      go_ret
      exact ⟨rfl, rfl⟩
end Go.Proofs.YtcgieejgmcgicaaGreatDoor
