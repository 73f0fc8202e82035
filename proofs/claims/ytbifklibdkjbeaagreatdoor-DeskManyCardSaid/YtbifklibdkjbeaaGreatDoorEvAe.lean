/-
  A region that draws its order: one operation, whichever is drawn. No condition.
-/
import Derived.Test.YtbifklibdkjbeaaGreatDoorEvAd
namespace Go.Proofs.YtbifklibdkjbeaaGreatDoor
open Go
set_option linter.unusedSimpArgs false
set_option linter.unusedVariables false

section
variable {P : Program} {call : CallF} {ops : Array Oper} {t : Tr Nat} {fs : Nat → Fr} {hs : Nat → AH} {rr : Nat → AR} {cl : Nat → Nat} {ρ0 : Rho} {w0 : World} {D : List Deferred}
theorem tl {i : Nat} {x : Oper} (h : ops[i]? = some x) : ops.toList[i]? = some x := by rw [Array.getElem?_toList]; exact h
theorem bind_dst {q : Nat} {x : Oper} (hx : ops[q]? = some x) : (ops[q]?).bind (·.dst) = x.dst := by rw [hx]; rfl
/-- What was made early is taken in when its turn in the chain has come. -/
theorem absorb (R : Reg P call ops t fs hs rr cl) (hk1 : ∀ q x, ops[q]? = some x → cl q = 1 → kindA P x ≠ 0) (L : Nat → Bool) (a : Act) (w : World) (β : Nat → Nat) : ∀ (m p : Nat) (ρ : Rho), ops.size - p = m → Rel D P ops fs hs rr cl ρ0 w0 p L a w ρ β →
    ∃ p' ρ', Rel D P ops fs hs rr cl ρ0 w0 p' L a w ρ' β ∧ (p' = ops.size ∨ (p' < ops.size ∧ cl p' = 1 ∧ L p' = false))
  | 0, p, ρ, hm, h => ⟨p, ρ, h, .inl (by have := h.pn; omega)⟩
  | m + 1, p, ρ, hm, h => by
    have hp : p < ops.size := by omega
    have hx : ops[p]? = some ops[p] := Array.getElem?_eq_getElem hp
    by_cases hc : cl p = 1
    · cases hL : L p with
      | false => exact ⟨p, ρ, h, .inr ⟨hp, hc, hL⟩⟩
      | true =>
        obtain ⟨x, T, i, v, e⟩ := h.early p (Nat.le_refl _) hp hc hL
        obtain ⟨z, hz, hr, hh⟩ := alloc_step R e.at_ e.op e.kind
        obtain ⟨i', v', hi', hv', hdz⟩ := zero_den hz ρ (hs p).next
        rw [e.info] at hi'; cases hi'
        rw [e.zero] at hv'; cases hv'
        have hsz := den_size hdz
        have hok := lay_ok (b := ⟨z, T, true⟩) (cs := v.cells) (fz := (0, 0)) (g := β p) (o := 0) h.hok (w' := w) (Nat.le_refl _) (fun _ _ _ => rfl) e.heap e.free (.inl rfl) (by rw [hsz, Nat.zero_add]; exact Nat.le_refl _) (fun _ => ⟨rfl, hsz⟩)
          (fun k y hy => by rw [Nat.zero_add]; exact den_get hdz k y hy)
        have ext := Rho.upd_ext ρ (hs p).next (β p) 0 v.cells.size
        refine absorb R hk1 L a w β m (p + 1) (ρ.upd (hs p).next (β p) 0 v.cells.size) (by omega) ⟨hp, fun c hc' h1 => ?_, by rw [hh]; exact hok, ?_, h.size, h.defers, fun d hd => ?_, fun q hq hqn h1 h2 => ?_, fun q q' h1 h2 => h.apart q q' (by omega) (by omega)⟩
        · by_cases hcp : c = p
          · subst hcp; exact hL
          · exact h.done c (by omega) h1
        · rw [hh]
          have k := h.kp
          refine ⟨k.ext.trans ext k.next, Nat.le_trans k.next (Nat.le_succ _), k.size, k.os, k.tape, k.output, k.frame, fun id b hb => ?_⟩
          rw [AH.get_new] at hb
          split at hb
          · rename_i hid; subst hid; left; simpa [Rho.upd] using e.old
          · rename_i hid
            rcases k.come id b hb with h1 | ⟨id0, b0, h1, h2⟩
            · left; simpa [Rho.upd, hid] using h1
            · right; exact ⟨id0, b0, h1, by simpa [Rho.upd, hid] using h2⟩
        · have hnx : (hs (p + 1)).next = (hs p).next + 1 := by rw [hh]; rfl
          by_cases hdp : x.dst = some d
          · have : Lk ops (fs 0) rr L d ops.size = rr p := lk_one hL (by rw [bind_dst e.at_]; exact hdp) hp (fun j _ hj hne => e.only j hj hne d hdp)
            rw [this, hr, e.tmp d hdp, hnx]
            exact ⟨Nat.lt_succ_self _, by simp [Rho.upd]⟩
          · have := h.den d (fun q y hq hy h1 h2 => by
              by_cases hqp : q = p
              · subst hqp; rw [e.at_] at hy; cases hy; exact hdp
              · exact hd q y (by omega) hy h1 h2)
            rw [hnx]
            exact AR.den_mono ext (Nat.le_succ _) _ _ this
        · obtain ⟨x', T', i', v', e'⟩ := h.early q (by omega) hqn h1 h2
          refine ⟨x', T', i', v', e'.at_, e'.op, e'.kind, e'.info, e'.zero, e'.heap, e'.old, fun id b hb => ?_, e'.tmp, e'.only⟩
          rw [hh, AH.get_new] at hb
          split at hb
          · rename_i hid
            subst hid
            simp only [Rho.upd, if_true]
            exact h.apart p q (Nat.le_refl _) (by omega) hp hqn hc h1 hL h2 (by omega)
          · rename_i hid
            simp only [Rho.upd, if_neg hid]
            exact e'.free id b hb
    · have hh : hs (p + 1) = hs p := (R.step p _ hx).same hc
      refine absorb R hk1 L a w β m (p + 1) ρ (by omega) ⟨hp, fun c hc' h1 => ?_, by rw [hh]; exact h.hok, by rw [hh]; exact h.kp, h.size, h.defers, fun d hd => ?_, fun q hq hqn h1 h2 => ?_, fun q q' h1 h2 => h.apart q q' (by omega) (by omega)⟩
      · by_cases hcp : c = p
        · subst hcp; exact absurd h1 hc
        · exact h.done c (by omega) h1
      · rw [hh]
        exact h.den d (fun q y hq hy h1 h2 => by
          by_cases hqp : q = p
          · subst hqp; exact absurd h1 hc
          · exact hd q y (by omega) hy h1 h2)
      · rw [hh]; exact h.early q (by omega) hqn h1 h2

theorem looks_mem {x : Oper} {d : Tmp} (h : Operand.tmp d ∈ x.op.operands.toList) : d ∈ x.looksAt ops :=
  List.mem_append_left _ (List.mem_filterMap.2 ⟨.tmp d, h, rfl⟩)
theorem looks_guard {x : Oper} {g : Nat} {b : Bool} {d : Tmp} (h : x.guard = some (g, b)) (hd : (ops[g]?).bind (·.dst) = some d) : d ∈ x.looksAt ops := by
  unfold Oper.looksAt
  rw [h]
  simp only
  rw [hd]
  exact List.mem_append_right _ (by simp)
/-- What an operation looks at, when its turn comes: as in the listed order. -/
theorem looks_den (R : Reg P call ops t fs hs rr cl) (hk1 : ∀ q x, ops[q]? = some x → cl q = 1 → kindA P x ≠ 0) {L : Nat → Bool} (hL : Closed ops.toList L) {a : Act} {w : World} {p : Nat} {ρ : Rho} {β : Nat → Nat} (h : Rel D P ops fs hs rr cl ρ0 w0 p L a w ρ β)
    (hp : p = ops.size ∨ (p < ops.size ∧ cl p = 1 ∧ L p = false)) {i : Nat} {o : Oper} (ho : ops[i]? = some o) (hi : L i = false) (he : ∀ e ∈ o.after.toList, Region.binds .any e = true → L e.on = true) {d : Tmp} (hd : d ∈ o.looksAt ops) :
    ((fs i).get d).den ρ (hs p).next (a.tmps.getD d undef) := by
  have hin : i < ops.size := (Array.getElem?_eq_some_iff.1 ho).1
  have F1 : ∀ j, ahead t i j = true → L j = true := fun j hj => R.mask L hL i o j (tl ho) hj he
  have F2 : ∀ j, j < ops.size → ahead t j i = true → L j = false := fun j hjn hj => by
    cases hLj : L j with
    | false => rfl
    | true =>
      have hy : ops[j]? = some ops[j] := Array.getElem?_eq_getElem hjn
      have := R.mask L hL j _ i (tl hy) hj (fun e hem hb => hL j _ (tl hy) hLj e hem hb)
      rw [hi] at this; cases this
  have key : Lk ops (fs 0) rr L d ops.size = (fs i).get d := by
    rw [R.lk d i (by omega)]
    refine lk_cut (fun j hj hdj => ?_) (by omega)
    have hy : ops[j]? = some ops[j] := Array.getElem?_eq_getElem hj
    rw [bind_dst hy] at hdj
    rcases Nat.lt_trichotomy j i with hji | hji | hji
    · refine ⟨fun _ => hji, fun _ => ?_⟩
      cases ha : ahead t i j with
      | true => exact F1 j ha
      | false => exact absurd hd ((Oper.apart_spec (R.pair j i _ _ hy ho hji ha).1).1 d hdj)
    · subst hji
      exact ⟨fun hh => (by rw [hi] at hh; cases hh), fun hh => by omega⟩
    · refine ⟨fun hh => ?_, fun hh => by omega⟩
      exfalso
      cases ha : ahead t j i with
      | true => rw [F2 j hj ha] at hh; cases hh
      | false => exact absurd hd ((Oper.apart_spec (R.pair i j _ _ ho hy hji ha).1).2.2 d hdj)
  rw [← key]
  refine h.den d (fun q x hq hx h1 h2 hxd => ?_)
  have hqn : q < ops.size := (Array.getElem?_eq_some_iff.1 hx).1
  rcases hp with hp | ⟨hpn, hpc, hpL⟩
  · omega
  · have hne : q ≠ p := fun hh => by subst hh; rw [hpL] at h2; cases h2
    have hpx : ops[p]? = some ops[p] := Array.getElem?_eq_getElem hpn
    cases ha : ahead t q p with
    | true =>
      have := R.mask L hL q x p (tl hx) ha (fun e hem hb => hL q x (tl hx) h2 e hem hb)
      rw [hpL] at this; cases this
    | false =>
      obtain ⟨_, hor⟩ := R.pair p q _ _ hpx hx (by omega) ha
      rcases hor with h3 | h3 | ⟨_, h3⟩
      · exact hk1 p _ hpx hpc h3
      · exact hk1 q _ hx h1 h3
      · rcases h3 i o ho with h4 | h4 | h4
        · subst h4; rw [hi] at h2; cases h2
        · exact (Oper.apart_spec h4).1 d hxd hd
        · have := F1 p h4
          rw [hpL] at this; cases this
end
end Go.Proofs.YtbifklibdkjbeaaGreatDoor
