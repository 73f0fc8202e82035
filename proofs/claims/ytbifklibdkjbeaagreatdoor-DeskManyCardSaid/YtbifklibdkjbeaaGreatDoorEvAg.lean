/-
  A region that draws its order: all orders. No condition.
-/
import Derived.Test.YtbifklibdkjbeaaGreatDoorEvAf
namespace Go.Proofs.YtbifklibdkjbeaaGreatDoor
open Go
set_option linter.unusedSimpArgs false
set_option linter.unusedVariables false

section
variable {P : Program} {call : CallF} {ops : Array Oper} {t : Tr Nat} {fs : Nat → Fr} {hs : Nat → AH} {rr : Nat → AR} {cl : Nat → Nat} {ρ0 : Rho} {w0 : World} {D : List Deferred}
/-- One operation that is ready. -/
theorem draw_step (hn : noNG P) (hcall : CallOK P call) (R : Reg P call ops t fs hs rr cl) (hk1 : ∀ q x, ops[q]? = some x → cl q = 1 → kindA P x ≠ 0) {L : Nat → Bool} (hL : Closed ops.toList L) {a : Act} {w : World} {p : Nat} {ρ : Rho} {β : Nat → Nat}
    (h : Rel D P ops fs hs rr cl ρ0 w0 p L a w ρ β) (hp : Settled ops.size cl L p) {i : Nat} {o : Oper} (ho : ops[i]? = some o) (hi : L i = false) (he : ∀ e ∈ o.after.toList, Region.binds .any e = true → L e.on = true)
    {Q : Exit → Act → World → Prop} {K : Act → World → Prop} (hK : ∀ a' w' p' ρ' β', Rel D P ops fs hs rr cl ρ0 w0 p' (More L i) a' w' ρ' β' → Settled ops.size cl (More L i) p' → K a' w') : wpOp P ops Q i K a w := by
  have hin : i < ops.size := (Array.getElem?_eq_some_iff.1 ho).1
  have hlook : ∀ d, d ∈ o.looksAt ops → ((fs i).get d).den ρ (hs p).next (a.tmps.getD d undef) := fun d hd => looks_den R hk1 hL h hp ho hi he hd
  have hev : EvOK ρ (hs p).next (fs i).ev a.eval o.op.operands.toList := fun x hx => by
    cases x with
    | tmp d => exact hlook d (looks_mem hx)
    | const v =>
      show ((AR.of? v).getD .any).den ρ _ v
      cases hv : AR.of? v with
      | none => trivial
      | some x => exact AR.of_den ρ _ v x hv
    | global g => exact ⟨rfl, rfl⟩
    | func f => rfl
  have hwant : ∀ b, wantedA ops.toList (fs i) o = some b → Region.wanted o (yielded ops a.tmps) = b := fun b hb => wanted_of (fun g c d hg hd => hlook d (looks_guard hg hd)) hb
  have hK2 : ∀ a' w' p' ρ' β', Rel D P ops fs hs rr cl ρ0 w0 p' (More L i) a' w' ρ' β' → K a' w' := fun a' w' p' ρ' β' h' => by
    obtain ⟨p2, ρ2, h2, h3⟩ := absorb R hk1 (More L i) a' w' β' _ p' ρ' rfl h'
    exact hK a' w' p2 ρ2 β' h2 h3
  have hst := R.step i o ho
  -- what comes ahead in the chain of a link that is ready
  have hlink : cl i = 1 → i ≠ p → p < i ∧ kindA P o = 2 ∧ ∀ j, L j = true → j ≠ i → ∀ d, o.dst = some d → (ops[j]?).bind (·.dst) ≠ some d := fun hc hne => by
    have hpi : p < i := by
      rcases Nat.lt_trichotomy i p with h1 | h1 | h1
      · have := h.done i h1 hc; rw [hi] at this; cases this
      · exact absurd h1 hne
      · exact h1
    rcases hp with hp | ⟨hpn, hpc, hpL⟩
    · omega
    · have hpx : ops[p]? = some ops[p] := Array.getElem?_eq_getElem hpn
      cases ha : ahead t i p with
      | true =>
        have := R.mask L hL i o p (tl ho) ha he
        rw [hpL] at this; cases this
      | false =>
        obtain ⟨_, hor⟩ := R.pair p i _ _ hpx ho hpi ha
        rcases hor with h3 | h3 | ⟨h2, h3⟩
        · exact absurd h3 (hk1 p _ hpx hpc)
        · exact absurd h3 (hk1 i _ ho hc)
        · refine ⟨hpi, h2, fun j hj hji d hd hdj => ?_⟩
          cases hy : ops[j]? with
          | none => rw [hy] at hdj; simp at hdj
          | some y =>
            rw [hy] at hdj
            rcases h3 j y hy with h4 | h4 | h4
            · exact hji h4
            · exact (Oper.apart_spec h4).2.1 d hd hdj
            · have := R.mask L hL j y p (tl hy) h4 (fun e hem hb => hL j y (tl hy) hj e hem hb)
              rw [hpL] at this; cases this
  unfold wpOp
  rw [ho]
  simp only
  rcases hst with ⟨hw, hr, hh, hk⟩ | ⟨hw, hk, hc, hpu, hh⟩ | ⟨hw, hk, hc, hpu, hh⟩ | ⟨hw, hk, hc, hop⟩
  · rw [hwant _ hw]
    simp only [Bool.false_eq_true, if_false]
    have hu : (AR.tup []).den ρ (hs p).next undef := ⟨#[], rfl, trivial⟩
    rcases hk with ⟨_, hc⟩ | ⟨hk0, hc⟩
    · exact hK2 _ _ _ _ _ (rel_free R hk1 hL h hp ho hi he (by omega) (by rw [hr]; exact hu))
    · by_cases hip : i = p
      · subst hip
        refine hK2 _ _ _ _ _ (rel_link R hk1 hL h hp ho hi he (v := undef) (ρ' := ρ) (w' := w) ?_ (by rw [hh]; exact h.hok) (by rw [hh]; exact Kp.refl _ _ _))
        rw [hr, hh]; exact hu
      · obtain ⟨_, h2, _⟩ := hlink hc hip
        obtain ⟨T, hT⟩ := kind2 h2
        have hg := alloc_kind hT h2
        unfold wantedA at hw; rw [hg] at hw; simp at hw
  · rw [hwant _ hw]
    simp only [if_true]
    left
    obtain ⟨v, hv, hd⟩ := pureA_sound hpu hev w
    unfold Oper.wp
    rw [hv]
    exact hK2 _ _ _ _ _ (rel_free R hk1 hL h hp ho hi he (by omega) hd)
  · rw [hwant _ hw]
    simp only [if_true]
    left
    have hrd : readA P (hs p) (fs i).ev o = some (rr i) := by
      refine R.read i o ho hc p h.pn ?_ (fun hpn => ?_) (fun q hq h1 => ?_)
      · rcases hp with hp | hp
        · exact .inl hp
        · exact .inr hp.2.1
      · rcases hp with hp | ⟨_, _, hpL⟩
        · omega
        · cases ha : ahead t i p with
          | false => rfl
          | true =>
            have := R.mask L hL i o p (tl ho) ha he
            rw [hpL] at this; cases this
      · cases ha : ahead t q i with
        | false => rfl
        | true =>
          have hqL := h.done q hq h1
          have hqn : q < ops.size := by have := h.pn; omega
          have hy : ops[q]? = some ops[q] := Array.getElem?_eq_getElem hqn
          have := R.mask L hL q _ i (tl hy) ha (fun e hem hb => hL q _ (tl hy) hqL e hem hb)
          rw [hi] at this; cases this
    obtain ⟨v, hv, hd⟩ := readA_sound h.hok hrd hev
    unfold Oper.wp
    rw [hv]
    exact hK2 _ _ _ _ _ (rel_free R hk1 hL h hp ho hi he (by omega) hd)
  · rw [hwant _ hw]
    simp only [if_true]
    left
    by_cases hip : i = p
    · subst hip
      refine opA_sound hn hcall hop h.hok hev (fun r v w' ρ' hr hd hH hKp => ?_) (fun x v w' ρ' hr => by cases hr)
      cases hr
      exact hK2 _ _ _ _ _ (rel_link R hk1 hL h hp ho hi he hd hH hKp)
    · obtain ⟨hpi, h2, honly⟩ := hlink hc hip
      obtain ⟨T, hT⟩ := kind2 h2
      obtain ⟨z, hz, _, _⟩ := alloc_step R ho hT h2
      obtain ⟨inf, v, hinf, hzz, _⟩ := zero_den hz ρ 0
      have hrun : (execOp a.eval o).run P w = .ok (.value (.pointer (some ⟨w.heap.size, 0, none⟩))) (w.alloc (.cells v.cells T)) := by
        obtain ⟨dst, op, ty, pos, after, guard⟩ := o
        simp only at hT; subst hT
        simp [execOp, Instr.alloc, zeroValue, typeInfo, hinf, hzz, newVar, newRow]
      unfold Oper.wp
      rw [hrun]
      exact hK2 _ _ _ _ _ (rel_early R hk1 hL h hp ho hi he hc hpi h2 hT hinf hzz honly)

def Lf (listed : Array Bool) : Nat → Bool := fun i => listed.getD i false
theorem lf_set {listed : Array Bool} {i : Nat} (h : i < listed.size) : Lf (listed.setIfInBounds i true) = More (Lf listed) i := by
  funext j
  simp only [Lf, More, Array.getD_eq_getD_getElem?]
  by_cases hj : j = i
  · subst hj; rw [Array.getElem?_setIfInBounds_self_of_lt h]; simp
  · rw [Array.getElem?_setIfInBounds_ne (Ne.symm hj)]; simp [hj]
theorem ready_spec {listed : Array Bool} (hl : listed.size = ops.size) {i : Nat} : i ∈ Region.ready .any ops listed ↔ ∃ o, ops[i]? = some o ∧ Lf listed i = false ∧ ∀ e ∈ o.after.toList, Region.binds .any e = true → Lf listed e.on = true := by
  unfold Region.ready
  simp only [List.mem_filter, List.mem_range, Bool.and_eq_true, Bool.not_eq_true']
  constructor
  · rintro ⟨hi, h1, h2⟩
    have hx : ops[i]? = some ops[i] := Array.getElem?_eq_getElem hi
    refine ⟨_, hx, ?_, fun e he hb => ?_⟩
    · simp only [Lf, Array.getD_eq_getD_getElem?] at h1 ⊢
      have : listed[i]? = some listed[i] := Array.getElem?_eq_getElem (by omega)
      rw [this] at h1 ⊢; exact h1
    · rw [hx] at h2
      simp only [Option.map_some, Option.getD_some, Array.all_eq_true_iff_forall_mem, Bool.or_eq_true, Bool.not_eq_true'] at h2
      rcases h2 e (by simpa using he) with h3 | h3
      · rw [hb] at h3; cases h3
      · exact h3
  · rintro ⟨o, hx, h1, h2⟩
    have hi : i < ops.size := (Array.getElem?_eq_some_iff.1 hx).1
    refine ⟨hi, ?_, ?_⟩
    · simp only [Lf, Array.getD_eq_getD_getElem?] at h1 ⊢
      have : listed[i]? = some listed[i] := Array.getElem?_eq_getElem (by omega)
      rw [this] at h1 ⊢; exact h1
    · rw [hx]
      simp only [Option.map_some, Option.getD_some, Array.all_eq_true_iff_forall_mem, Bool.or_eq_true, Bool.not_eq_true']
      intro e he
      cases hb : Region.binds .any e with
      | false => exact .inl rfl
      | true => exact .inr (h2 e (by simpa using he) hb)
theorem closed_more {L : Nat → Bool} (hL : Closed ops.toList L) {i : Nat} {o : Oper} (ho : ops[i]? = some o) (he : ∀ e ∈ o.after.toList, Region.binds .any e = true → L e.on = true) : Closed ops.toList (More L i) := by
  intro j x hx hj e hem hb
  rcases more_true hj with rfl | hj
  · have : ops[j]? = some x := by rw [← Array.getElem?_toList]; exact hx
    rw [ho] at this; cases this
    exact more_of (he e hem hb)
  · exact more_of (hL j x hx hj e hem hb)
/-- Where nobody is ready, all have been. -/
theorem all_done (R : Reg P call ops t fs hs rr cl) {listed : Array Bool} (hl : listed.size = ops.size) (h : Region.ready .any ops listed = []) : ∀ i, i < ops.size → Lf listed i = true := by
  intro i
  induction i using Nat.strongRecOn with
  | _ i ih =>
    intro hi
    cases hLi : Lf listed i with
    | true => rfl
    | false =>
      have hx : ops[i]? = some ops[i] := Array.getElem?_eq_getElem hi
      have : i ∈ Region.ready .any ops listed := (ready_spec hl).2 ⟨_, hx, hLi, fun e he hb => ih e.on (R.edge i _ hx e he hb) (by have := R.edge i _ hx e he hb; omega)⟩
      rw [h] at this; cases this
theorem draw_all (hn : noNG P) (hcall : CallOK P call) (R : Reg P call ops t fs hs rr cl) (hk1 : ∀ q x, ops[q]? = some x → cl q = 1 → kindA P x ≠ 0) {Q : Exit → Act → World → Prop}
    (hQ : ∀ a w ρ, FrOK D ρ (hs ops.size).next (fs ops.size) a → HOK ρ (hs ops.size) w → Kp (hs 0) ρ0 w0 (hs ops.size) ρ w → Q .normal a w) :
    ∀ (fuel : Nat) (listed : Array Bool) (a : Act) (w : World) (p : Nat) (ρ : Rho) (β : Nat → Nat), listed.size = ops.size → Closed ops.toList (Lf listed) → (List.range ops.size).countP (fun i => !Lf listed i) ≤ fuel →
      Rel D P ops fs hs rr cl ρ0 w0 p (Lf listed) a w ρ β → Settled ops.size cl (Lf listed) p → wpAny P .any ops Q fuel listed a w := by
  have fin : ∀ (listed : Array Bool) (a : Act) (w : World) (p : Nat) (ρ : Rho) (β : Nat → Nat), (∀ i, i < ops.size → Lf listed i = true) →
      Rel D P ops fs hs rr cl ρ0 w0 p (Lf listed) a w ρ β → Settled ops.size cl (Lf listed) p → Q .normal a w := by
    intro listed a w p ρ β hall h hp
    have hpn : p = ops.size := by
      rcases hp with hp | ⟨h1, _, h3⟩
      · exact hp
      · rw [hall p h1] at h3; cases h3
    subst hpn
    refine hQ a w ρ ⟨by rw [h.size, R.size _ (Nat.le_refl _)], fun d => ?_, h.defers⟩ h.hok h.kp
    have := h.den d (fun q x hq hx => by have := (Array.getElem?_eq_some_iff.1 hx).1; omega)
    rw [R.lk d _ (Nat.le_refl _)]
    rw [lk_cut (i := ops.size) (fun j hj _ => ⟨fun _ => hj, fun _ => hall j hj⟩) (Nat.le_refl _)] at this
    exact this
  intro fuel
  induction fuel with
  | zero =>
    intro listed a w p ρ β hl _ hcnt h hp
    have hall : ∀ i, i < ops.size → Lf listed i = true := fun i hi => by
      have := List.countP_eq_zero.1 (Nat.le_zero.1 hcnt) i (by simpa using hi)
      simpa using this
    refine ⟨?_, fin listed a w p ρ β hall h hp⟩
    cases hr : Region.ready .any ops listed with
    | nil => rfl
    | cons i l =>
      have : i ∈ Region.ready .any ops listed := by rw [hr]; simp
      obtain ⟨o, hx, h1, _⟩ := (ready_spec hl).1 this
      rw [hall i (Array.getElem?_eq_some_iff.1 hx).1] at h1; cases h1
  | succ fuel ih =>
    intro listed a w p ρ β hl hL hcnt h hp
    refine ⟨fun hr => fin listed a w p ρ β (all_done R hl hr) h hp, fun i hi => ?_⟩
    obtain ⟨o, hx, h1, h2⟩ := (ready_spec hl).1 hi
    have hin : i < ops.size := (Array.getElem?_eq_some_iff.1 hx).1
    refine draw_step hn hcall R hk1 hL h hp hx h1 h2 fun a' w' p' ρ' β' h' hp' => ?_
    have hset := lf_set (listed := listed) (i := i) (by omega)
    refine ih _ a' w' p' ρ' β' (by simpa using hl) (by rw [hset]; exact closed_more hL hx h2) ?_ (by rw [hset]; exact h') (by rw [hset]; exact hp')
    rw [hset]
    have hcount : ∀ (l : List Nat), l.Nodup → i ∈ l → l.countP (fun j => !More (Lf listed) i j) + 1 = l.countP (fun j => !Lf listed j) := by
      intro l
      induction l with
      | nil => intro _ h; simp at h
      | cons k l ih2 =>
        intro hnd hm
        rw [List.nodup_cons] at hnd
        simp only [List.countP_cons]
        rcases List.mem_cons.1 hm with rfl | hm
        · have e1 : l.countP (fun j => !More (Lf listed) i j) = l.countP (fun j => !Lf listed j) := by
            refine List.countP_congr fun j hj => ?_
            have : j ≠ i := fun hh => by subst hh; exact hnd.1 hj
            simp [More, this]
          rw [e1]; simp [More, h1]
        · have hne : k ≠ i := fun hh => by subst hh; exact hnd.1 hm
          have e1 : More (Lf listed) i k = Lf listed k := by simp [More, hne]
          rw [e1]
          have := ih2 hnd.2 hm
          omega
    have := hcount (List.range ops.size) List.nodup_range (by simpa using hin)
    omega
end
end Go.Proofs.YtbifklibdkjbeaaGreatDoor
