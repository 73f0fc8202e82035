/-
  GaugeDraws: the walk of gauge.bar, the signs by strings.Repeat's contract. No condition.
-/
import Derived.Test.YtcgieejgmcgicaaGreatDoorGdB
import Derived.Test.YtcgieejgmcgicaaGreatDoorEgRepA
import Derived.Test.YtcgieejgmcgicaaGreatDoorStrL
namespace Go.Proofs.YtcgieejgmcgicaaGreatDoor
open Go.RowKit
set_option linter.unusedVariables false
set_option linter.unusedSimpArgs false
set_option maxRecDepth 100000

set_option maxHeartbeats 2000000 in
theorem hash_one (w : World) : Calls Tryz.prog 164 #[.string ⟨#[35]⟩, .int .i64 1] w fun e w' => e = .returned (.string ⟨#[35]⟩) ∧ Keeps (fun _ => False) w w' := by
  go_enter Tryz.func164, Tryz.ntmps164
  go_wp2_with fail
  go_ret
  exact ⟨rfl, by (repeat' (with_reducible first | exact Keeps.refl _ _ | assumption | refine Keeps.drawN ?_ _ | refine Keeps.drew ?_ | refine Keeps.setCell ?_ ?_ _ | refine Keeps.alloc ?_ _)) <;> (first | exact Or.inr (Nat.le_refl _) | exact Or.inl rfl | exact Or.inl (Or.inl rfl) | exact Or.inl (Or.inr rfl) | (right; simp; done) | (right; simp; omega))⟩
theorem repeat_hash : ∀ n, Lib.repeatL [35] n = List.replicate n (35 : UInt8)
  | 0 => rfl
  | n + 1 => by rw [List.replicate_succ, ← repeat_hash n]; rfl
theorem hash_any (n : Nat) (w : World) (h1 : 1 ≤ n) (h2 : n ≤ 1000) : Calls Tryz.prog 164 #[.string ⟨#[35]⟩, .int .i64 n] w fun e w' => e = .returned (strL (List.replicate n 35)) ∧ Keeps (fun _ => False) w w' := by
  by_cases h : n = 1
  · subst h; exact hash_one w
  · refine (repeat_all ⟨#[35]⟩ n w (by decide) ⟨by omega, h2⟩).mono ?_
    rintro e w' ⟨rfl, k⟩
    exact ⟨by rw [show (⟨#[35]⟩ : ByteArray).data.toList = [35] from rfl, repeat_hash]; rfl, k⟩
set_option maxHeartbeats 2000000 in
theorem bar_any (c k : Nat) (w : World) (hc : c ≤ 1099511627776) (hk : 1 ≤ k) (hk2 : k ≤ 54975581388) (hb : c ≤ 40 * k) :
    Calls Tryz.prog 123 #[.int .i64 c, .int .i64 k] w fun e w' => e = .returned (strL (List.replicate (barN c k) 35)) ∧ Keeps (fun _ => False) w w' := by
  by_cases h0 : c = 0
  · subst h0
    have : barN 0 k = 0 := by unfold barN; rw [if_pos rfl]
    rw [this]
    go_enter Tryz.func123, Tryz.ntmps123
    go_wp2_with fail
    go_ret
    exact ⟨rfl, Keeps.refl _ _⟩
  · have hle := bar_le hk hb
    have hpos : 1 ≤ barN c k := (@bar_pos c k).2 (by omega)
    have hB : barN c k = (c - 1) / k + 1 := by unfold barN; rw [if_neg h0]
    have g1 : decide ((c : Int) < 1) = false := by simp; omega
    have g2 : ((k : Int) == 0) = false := by simp; omega
    have e1 : IntKind.i64.wrap ((c : Int) - 1) = (c : Int) - 1 := IntWalk.i64_in _ (by omega)
    have e2 : ((c : Int) - 1).tdiv (k : Int) = (((c - 1) / k : Nat) : Int) := by
      rw [show (c : Int) - 1 = ((c - 1 : Nat) : Int) by omega]; rfl
    have HB := Lib.hid (fun W => hash_any (barN c k) W hpos (by omega))
    rw [hB] at HB
    rw [hB]
    rw [hB] at hle
    have hd : (c - 1) / k ≤ 40 := by omega
    have HX : Hid ((c - 1) / k = (c - 1) / k) := Lib.hid rfl
    generalize (c - 1) / k = D at *
    have e3 : IntKind.i64.wrap ((D : Nat) : Int) = (D : Int) := IntWalk.i64_in _ (by omega)
    have e4 : IntKind.i64.wrap ((D : Int) + 1) = (D : Int) + 1 := IntWalk.i64_in _ (by omega)
    have e5 : ((D + 1 : Nat) : Int) = (D : Int) + 1 := by omega
    rw [e5] at HB
    clear hB hle hpos hb HX
    go_enter Tryz.func123, Tryz.ntmps123
    go_wp2_with fail
    refine (HB.out _).mono ?_
    rintro e w' ⟨rfl, k⟩
    go_wp2_with fail
    go_ret
    exact ⟨rfl, k⟩
end Go.Proofs.YtcgieejgmcgicaaGreatDoor
