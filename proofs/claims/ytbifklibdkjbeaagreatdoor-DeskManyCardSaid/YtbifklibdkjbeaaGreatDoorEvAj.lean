/-
  A closed call with plain arguments, reckoned. No condition.
-/
import Derived.Test.YtbifklibdkjbeaaGreatDoorEvAi
namespace Go.Proofs.YtbifklibdkjbeaaGreatDoor
open Go
set_option linter.unusedVariables false

def litArgs (vs : List Value) : Option (List AV) := vs.mapM AV.of?
def saysLit (v : Value → Bool) : Option (Out × AH) → Bool
  | some (.ret (.one (.c (.lit x))), _) => v x
  | _ => false
def litRun (P : Program) (n : Nat) (f : FuncId) (vs : List Value) (t : Value → Bool) : Prop :=
  ∃ az, litArgs vs = some az ∧ saysLit t (callA P n f az AH.empty) = true
theorem litArgs_den {ρ : Rho} {n : Nat} : ∀ {vs : List Value} {az : List AV}, litArgs vs = some az → All2 (AV.den ρ n) az vs
  | [], az, h => by simp [litArgs] at h; subst h; trivial
  | v :: vs, az, h => by
    simp only [litArgs, List.mapM_cons, Option.bind_eq_bind, Option.bind_eq_some_iff] at h
    obtain ⟨a, ha, as', has, h⟩ := h
    obtain rfl : a :: as' = az := by simpa using h
    exact ⟨AV.of_den ρ n v a ha, litArgs_den has⟩
/-- A call with plain arguments that is reckoned to a plain value. -/
theorem call_lit {P : Program} (hn : okNG P = true) (hm : P.follows .mixedOrders = true) (n : Nat) (f : FuncId) (vs : Array Value) (t : Value → Bool) (h : litRun P n f vs.toList t) (w : World) :
    Calls P f vs w fun e w' => (∃ v, e = .returned v ∧ t v = true) ∧ Keeps (fun _ => False) w w' := by
  obtain ⟨az, ha, h⟩ := h
  unfold saysLit at h
  split at h
  · rename_i x H' hc
    have hH0 : HOK ⟨fun _ => 0, fun _ => 0, fun _ => 0⟩ AH.empty w := ⟨fun _ _ h => by simp [AH.empty, AH.get, Tr.getR_eq, Tr.get] at h, fun _ _ _ _ h => by simp [AH.empty, AH.get, Tr.getR_eq, Tr.get] at h, fun _ _ h => by simp [AH.empty, AH.get, Tr.getR_eq, Tr.get] at h⟩
    refine (call_sound (okNG_of hn) hm n f az _ _ _ hc _ w vs hH0 (litArgs_den ha)).mono ?_
    rintro e w' ⟨ρ', ⟨v, rfl, hd⟩, _, hK⟩
    exact ⟨⟨v, rfl, by rw [show v = _ from hd.1]; exact h⟩, hK.os, hK.tape, hK.output, hK.size, fun k hk _ => hK.frame k hk fun id b hb => by simp [AH.empty, AH.get, Tr.getR_eq, Tr.get] at hb⟩
  · simp at h
end Go.Proofs.YtbifklibdkjbeaaGreatDoor
