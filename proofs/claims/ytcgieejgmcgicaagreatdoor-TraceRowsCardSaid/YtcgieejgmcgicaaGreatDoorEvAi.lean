/-
  The reckoned run is a run of the model: calls; a closed call that is reckoned true is true in every world. No condition.
-/
import Derived.Test.YtcgieejgmcgicaaGreatDoorEvAh
import Derived.Test.YtcgieejgmcgicaaGreatDoorLib
namespace Go.Proofs.YtcgieejgmcgicaaGreatDoor
open Go
set_option linter.unusedSimpArgs false
set_option linter.unusedVariables false

theorem enter_get : ∀ (l : List AV) (k : Nat) (t : Tr AR) (j : Nat), (enterA.go l k t).get j = if k ≤ j ∧ j < k + l.length then (l[j - k]?).map .one else t.get j
  | [], k, t, j => by simp [enterA.go]; intro h1 h2; omega
  | a :: l, k, t, j => by
    simp only [enterA.go]
    rw [enter_get l (k + 1) _ j, Tr.get_put]
    simp only [List.length_cons]
    by_cases h1 : k = j
    · subst h1
      rw [if_neg (by omega), if_pos rfl, if_pos (by omega)]; simp
    · by_cases h2 : k + 1 ≤ j ∧ j < k + 1 + l.length
      · rw [if_pos h2, if_pos (by omega)]
        have : j - k = (j - (k + 1)) + 1 := by omega
        rw [this]; simp
      · rw [if_neg h2, if_neg (Ne.symm h1), if_neg (by omega)]
section
variable {P : Program} {call : CallF} {ρ : Rho} {H : AH} {w : World}
theorem enter_ok {as : List AV} {vs : Array Value} (h : All2 (AV.den ρ H.next) as vs.toList) (n : Nat) : FrOK ρ H.next (enterA as n) { tmps := vs ++ Array.replicate (n - vs.size) undef, defers := [] } := by
  have hlen := h.len
  simp only [Array.length_toList] at hlen
  have hmax : Nat.max as.length n = max as.length n := rfl
  refine ⟨by simp only [enterA, Array.size_append, Array.size_replicate]; omega, fun t => ?_, rfl⟩
  simp only [Fr.get, enterA]
  rw [enter_get]
  simp only [Nat.zero_le, true_and, Nat.zero_add, Nat.sub_zero, Array.getD_eq_getD_getElem?]
  by_cases ht : t < as.length
  · rw [if_pos ht]
    have hx : as[t]? = some as[t] := List.getElem?_eq_getElem ht
    obtain ⟨y, hy, hd⟩ := h.get hx
    rw [hx, Array.getElem?_append_left (by omega)]
    rw [Array.getElem?_toList] at hy
    rw [hy]; exact hd
  · rw [if_neg ht]
    have : ((vs ++ Array.replicate (n - vs.size) undef)[t]?).getD undef = undef := by
      rw [Array.getElem?_append_right (by omega), Array.getElem?_replicate]
      split <;> rfl
    rw [this]
    exact ⟨#[], rfl, trivial⟩
def resOne (tmps : Array Value) : ResultVar → Sem Value
  | .tmp t => pure (tmps.getD t undef)
  | .cell b t => do loadVar t (← asAddr (tmps.getD b undef))
theorem results_eq (fn : Func) (tmps : Array Value) : results fn tmps = (do let vs ← fn.results.mapM (resOne tmps); pure (if h : vs.size = 1 then vs[0] else .tuple vs)) := by
  unfold results
  congr 1
theorem res_list (hH : HOK ρ H w) {fr : Fr} {a : Act} (hF : FrOK ρ H.next fr a) : ∀ {l : List ResultVar} {xs : List AV}, resA P fr H l = some xs →
    ∃ vs, (l.mapM (resOne a.tmps)).run P w = .ok vs w ∧ All2 (AV.den ρ H.next) xs vs
  | [], xs, h => by simp [resA] at h; subst h; exact ⟨[], rfl, trivial⟩
  | .tmp t :: l, xs, h => by
    simp only [resA] at h
    split at h
    · rename_i x r hx hr
      simp only [Option.some.injEq] at h; subst h
      obtain ⟨vs, hv, hd⟩ := res_list hH hF hr
      have := hF.den t
      rw [hx] at this
      exact ⟨_ :: vs, by rw [List.mapM_cons]; simp only [Sem.run_bind, resOne, Sem.run_pure, Result.andThen_ok, hv], this, hd⟩
    · simp at h
  | .cell b t :: l, xs, h => by
    simp only [resA] at h
    split at h
    · rename_i id off r hx hr
      cases hb : H.get id with
      | none => simp [hb] at h
      | some blk =>
        simp only [hb, Option.bind_some, Option.map_eq_some_iff] at h
        obtain ⟨x, hp, rfl⟩ := h
        obtain ⟨vs, hv, hd⟩ := res_list hH hF hr
        have hbv := hF.den b
        rw [hx] at hbv
        obtain ⟨hlt, hbv⟩ := hbv
        -- the load is the one of an operation
        have hq := r_load (P := P) (ev := fun _ => .one (.c (.ptr id off))) (e := fun _ => .pointer (some ⟨ρ.blk id, ρ.base id + off, none⟩)) (dst := none) (ty := 0) (pos := "") (after := #[]) (guard := none) (t := t) (a := .tmp 0) (r := .one x) hH
          (by simp [readA, hb, hp]) ⟨hlt, rfl⟩
        obtain ⟨v, hrun, hdv⟩ := hq
        have hrun' : (loadVar t ⟨ρ.blk id, ρ.base id + off, none⟩).run P w = .ok v w := by
          simp only [execOp, Instr.loadAt, Instr.sureAddr, Sem.run_bind, Sem.run_pure, Result.andThen_ok] at hrun
          cases hl : (loadVar t ⟨ρ.blk id, ρ.base id + off, none⟩).run P w with
          | ok u w1 =>
            rw [hl] at hrun
            simp only [Result.andThen_ok, Result.ok.injEq, Next.value.injEq] at hrun
            rw [hrun.1, hrun.2]
          | halt q w1 => rw [hl] at hrun; simp at hrun
        have h1 : (resOne a.tmps (.cell b t)).run P w = .ok v w := by
          simp only [resOne, Sem.run_bind, hbv, asAddr, Sem.run_pure, Result.andThen_ok, hrun']
        exact ⟨v :: vs, by rw [List.mapM_cons]; simp only [Sem.run_bind, h1, Sem.run_pure, Result.andThen_ok, hv], hdv, hd⟩
    · simp at h
theorem result_ok (hH : HOK ρ H w) {fr : Fr} {a : Act} (hF : FrOK ρ H.next fr a) {fn : Func} {r : AR} (h : resultA P fr H fn.results.toList = some r) :
    ∃ v, (results fn a.tmps).run P w = .ok v w ∧ r.den ρ H.next v := by
  unfold resultA at h
  have fin : ∀ xs, resA P fr H fn.results.toList = some xs → ∃ vs : Array Value, (fn.results.mapM (resOne a.tmps)).run P w = .ok vs w ∧ All2 (AV.den ρ H.next) xs vs.toList := by
    intro xs hx
    obtain ⟨vs, hv, hd⟩ := res_list (P := P) hH hF hx
    refine ⟨vs.toArray, ?_, by simpa using hd⟩
    rw [Array.mapM_eq_mapM_toList]
    simp only [Sem.run_map, hv, Result.andThen_ok]
  have size1 : ∀ {x : AV} {vs : Array Value}, All2 (AV.den ρ H.next) [x] vs.toList → ∃ y, vs = #[y] ∧ x.den ρ H.next y := by
    intro x vs hd
    cases hl : vs.toList with
    | nil => rw [hl] at hd; exact hd.elim
    | cons y l => cases l with
      | nil => rw [hl] at hd; exact ⟨y, Array.toList_inj.1 (by simpa using hl), hd.1⟩
      | cons _ _ => rw [hl] at hd; exact hd.2.elim
  split at h
  · rename_i x hx
    simp only [Option.some.injEq] at h; subst h
    obtain ⟨vs, hv, hd⟩ := fin _ hx
    obtain ⟨y, rfl, hdy⟩ := size1 hd
    exact ⟨y, by simp only [results_eq, Sem.run_bind, hv, Result.andThen_ok]; rfl, hdy⟩
  · rename_i l hne hx
    simp only [Option.some.injEq] at h; subst h
    obtain ⟨vs, hv, hd⟩ := fin _ hx
    have hs : ¬ vs.size = 1 := fun hh => by
      have := hd.len
      simp only [Array.length_toList] at this
      cases l with
      | nil => simp at this; omega
      | cons a l => cases l with
        | nil => exact hne a rfl
        | cons _ _ => simp at this; omega
    exact ⟨.tuple vs, by simp only [results_eq, Sem.run_bind, hv, Result.andThen_ok, dif_neg hs]; rfl, vs, rfl, hd⟩
  · simp at h
theorem call_sound (hn : noNG P) (hm : P.follows .mixedOrders = true) : ∀ n, CallOK P (callA P n)
  | 0 => fun f as H out H' h => by simp [callA] at h
  | n + 1 => by
    intro f as H out H' h ρ w vs hH hda
    have hcall := call_sound hn hm n
    simp only [callA] at h
    split at h
    · simp at h
    · rename_i fn hfn
      split at h
      · simp at h
      · rename_i c hb
        refine calls_of_wp hfn hb ?_
        have hF := enter_ok hda fn.ntmps
        have ret : ∀ {fr1 : Fr} {H1 : AH} {out : Out}, (resultA P fr1 H1 fn.results.toList).map (fun r => (Out.ret r, H1)) = some (out, H') → ∀ {a1 w1 ρ1}, FrOK ρ1 H1.next fr1 a1 → HOK ρ1 H1 w1 → Kp H ρ w H1 ρ1 w1 →
            a1.defers = [] ∧ ∃ v, (results fn a1.tmps).run P w1 = .ok v w1 ∧ ∃ ρ', OutE ρ' H'.next out (.returned v) ∧ HOK ρ' H' w1 ∧ Kp H ρ w H' ρ' w1 := by
          intro fr1 H1 out hr a1 w1 ρ1 g1 g2 g3
          simp only [Option.map_eq_some_iff, Prod.mk.injEq] at hr
          obtain ⟨r, hr, rfl, rfl⟩ := hr
          obtain ⟨v, hv, hd⟩ := result_ok g2 g1 hr
          exact ⟨g1.defers, v, hv, ρ1, ⟨v, rfl, hd⟩, g2, g3⟩
        split at h
        · rename_i fr1 H1 hc
          refine (code_sound hn hm hcall (Q := fun _ _ _ => True) n c _ H _ hc ρ w _ _ hF hH ?_).1
          intro e a1 w1 ρ1 he g1 g2 g3
          have he : e = .normal := he
          subst he
          exact ret h g1 g2 g3
        · rename_i fr1 H1 hc
          refine (code_sound hn hm hcall (Q := fun _ _ _ => True) n c _ H _ hc ρ w _ _ hF hH ?_).1
          intro e a1 w1 ρ1 he g1 g2 g3
          have he : e = .ret := he
          subst he
          exact ret h g1 g2 g3
        · rename_i x fr1 H1 hc
          simp only [Option.some.injEq, Prod.mk.injEq] at h
          obtain ⟨rfl, rfl⟩ := h
          refine (code_sound hn hm hcall (Q := fun _ _ _ => True) n c _ H _ hc ρ w _ _ hF hH ?_).1
          intro e a1 w1 ρ1 he g1 g2 g3
          obtain ⟨v, rfl, hd⟩ := he
          exact ⟨g1.defers, ρ1, ⟨v, rfl, hd⟩, g2, g3⟩
        · simp at h

def saysTrue : Option (Out × AH) → Bool
  | some (.ret (.one (.c (.lit (.bool b)))), _) => b
  | _ => false
def okNG (P : Program) : Bool := P.funcs.toList.all fun fn => fn.body.isNone || !(fn.name == "runtime.NumGoroutine")
theorem okNG_of (h : okNG P = true) : noNG P := fun f fn hf hb => by
  have h1 := List.all_eq_true.1 h fn (by
    have : P.funcs.toList[f]? = some fn := by rw [Array.getElem?_toList]; exact hf
    exact List.mem_of_getElem? this)
  simp only [Bool.or_eq_true, Bool.not_eq_true'] at h1
  rcases h1 with h1 | h1
  · cases hx : fn.body <;> simp_all
  · exact h1
/-- A call without arguments that is reckoned true. -/
theorem awake_true (hn : okNG P = true) (hm : P.follows .mixedOrders = true) (n : Nat) (f : FuncId) (h : saysTrue (callA P n f [] AH.empty) = true) (w : World) :
    Calls P f #[] w fun e w' => e = .returned (.bool true) ∧ Keeps (fun _ => False) w w' := by
  unfold saysTrue at h
  split at h
  · rename_i b H' hc
    subst h
    have hH0 : HOK ⟨fun _ => 0, fun _ => 0, fun _ => 0⟩ AH.empty w := ⟨fun _ _ h => by simp [AH.empty, AH.get, Tr.get] at h, fun _ _ _ _ h => by simp [AH.empty, AH.get, Tr.get] at h, fun _ _ h => by simp [AH.empty, AH.get, Tr.get] at h⟩
    refine (call_sound (okNG_of hn) hm n f [] _ _ _ hc _ w #[] hH0 trivial).mono ?_
    rintro e w' ⟨ρ', ⟨v, rfl, hd⟩, _, hK⟩
    exact ⟨by rw [show v = _ from hd.1], hK.os, hK.tape, hK.output, hK.size, fun k hk _ => hK.frame k hk fun id b hb => by simp [AH.empty, AH.get, Tr.get] at hb⟩
  · simp at h
end
end Go.Proofs.YtcgieejgmcgicaaGreatDoor
