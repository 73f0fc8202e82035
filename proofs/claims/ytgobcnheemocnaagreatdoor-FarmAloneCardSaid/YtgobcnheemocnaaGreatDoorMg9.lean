/-
  Several texts in one: A region that draws its order: whatever order is drawn, it comes to what the listed order comes to. No condition. A region that draws its order: one operation, whichever is drawn. No condition. A region that draws its order: the step. No condition. A region that draws its order: all orders. No condition.
-/
import Derived.Test.YtgobcnheemocnaaGreatDoorMg8
section
namespace Go.Proofs.YtgobcnheemocnaaGreatDoor
open Go
set_option linter.unusedSimpArgs false
set_option linter.unusedVariables false

structure Reg (P : Program) (call : CallF) (ops : Array Oper) (t : Tr Nat) (fs : Nat → Fr) (hs : Nat → AH) (rr : Nat → AR) (cl : Nat → Nat) : Prop where
  mask : MaskOK ops.toList t
  edge : ∀ (i : Nat) x, ops[i]? = some x → ∀ e ∈ x.after.toList, Region.binds .any e = true → e.on < i
  pair : ∀ (i j : Nat) x y, ops[i]? = some x → ops[j]? = some y → i < j → ahead t j i = false → Oper.apart ops x y = true ∧
    (kindA P x = 0 ∨ kindA P y = 0 ∨ (kindA P y = 2 ∧ ∀ (k : Nat) z, ops[k]? = some z → k = j ∨ Oper.apart ops y z = true ∨ ahead t k i = true))
  put : ∀ (i : Nat) x, ops[i]? = some x → (fs i).put x.dst (rr i) = some (fs (i + 1))
  step : ∀ (i : Nat) x, ops[i]? = some x → StepOK P call ops.toList x (fs i) (hs i) (cl i) (rr i) (hs (i + 1))
  read : ∀ (i : Nat) x, ops[i]? = some x → cl i = 2 → ∀ p, p ≤ ops.size → (p = ops.size ∨ cl p = 1) → (p < ops.size → ahead t i p = false) → (∀ q, q < p → cl q = 1 → ahead t q i = false) →
    readA P (hs p) (fs i).ev x = some (rr i)

/-- What a slot holds once the operations of L have been. -/
noncomputable def Lk (ops : Array Oper) (fr : Fr) (rr : Nat → AR) (L : Nat → Bool) (t : Tmp) : Nat → AR
  | 0 => fr.get t
  | k + 1 => if L k = true ∧ (ops[k]?).bind (·.dst) = some t then rr k else Lk ops fr rr L t k
def More (L : Nat → Bool) (i : Nat) : Nat → Bool := fun j => decide (j = i) || L j
section
variable {ops : Array Oper} {fr : Fr} {rr : Nat → AR} {L : Nat → Bool} {t : Tmp}
theorem fput_get {fr fr' : Fr} {d : Option Tmp} {r : AR} (h : fr.put d r = some fr') (t : Tmp) : fr'.get t = if d = some t then r else fr.get t := by
  rw [Fr.put_def] at h
  cases d with
  | none => simp only [Option.some.injEq] at h; subst h; simp
  | some d =>
    simp only at h
    cases hb : Nat.blt d fr.size with
    | false => simp only [hb, cond_false, reduceCtorEq] at h
    | true =>
      simp only [hb, cond_true, Option.some.injEq] at h
      subst h
      simp only [Fr.get_put, Option.some.injEq]
      by_cases ht : t = d
      · subst ht; simp
      · rw [if_neg ht, if_neg (Ne.symm ht)]
theorem put_size {fr fr' : Fr} {d : Option Tmp} {r : AR} (h : fr.put d r = some fr') : fr'.size = fr.size ∧ ∀ k, d = some k → k < fr.size := by
  rw [Fr.put_def] at h
  cases d with
  | none => simp only [Option.some.injEq] at h; subst h; simp
  | some d =>
    simp only at h
    cases hb : Nat.blt d fr.size with
    | false => simp only [hb, cond_false, reduceCtorEq] at h
    | true =>
      simp only [hb, cond_true, Option.some.injEq] at h
      subst h
      exact ⟨rfl, fun k hk => by cases hk; simpa [Nat.blt_eq] using hb⟩
theorem lk_cut {i : Nat} : ∀ {m : Nat}, (∀ j, j < m → (ops[j]?).bind (·.dst) = some t → (L j = true ↔ j < i)) → i ≤ m → Lk ops fr rr L t m = Lk ops fr rr (fun _ => true) t i
  | 0, _, hi => by have : i = 0 := (by omega); subst this; rfl
  | m + 1, h, hi => by
    by_cases hm : i = m + 1
    · subst hm
      simp only [Lk, true_and]
      by_cases hd : (ops[m]?).bind (·.dst) = some t
      · have := (h m (by omega) hd).2 (by omega)
        simp [hd, this]
      · simp only [hd, and_false, if_false]
        exact lk_cut (i := m) (fun j hj hd' => ⟨fun _ => hj, fun _ => (h j (by omega) hd').2 (by omega)⟩) (Nat.le_refl _)
    · have hne : ¬ (L m = true ∧ (ops[m]?).bind (·.dst) = some t) := by
        rintro ⟨h1, h2⟩
        have := (h m (by omega) h2).1 h1
        omega
      simp only [Lk, if_neg hne]
      exact lk_cut (fun j hj => h j (by omega)) (by omega)
theorem lk_new {i : Nat} (hd : (ops[i]?).bind (·.dst) = some t) : ∀ {m : Nat}, i < m → (∀ j, i < j → j < m → L j = true → (ops[j]?).bind (·.dst) ≠ some t) → Lk ops fr rr (More L i) t m = rr i
  | 0, h, _ => by omega
  | m + 1, h, hj => by
    simp only [Lk]
    by_cases hm : m = i
    · subst hm; simp [More, hd]
    · have : ¬ (More L i m = true ∧ (ops[m]?).bind (·.dst) = some t) := by
        rintro ⟨h1, h2⟩
        simp only [More, Bool.or_eq_true, decide_eq_true_eq] at h1
        rcases h1 with h1 | h1
        · exact hm h1
        · exact hj m (by omega) (by omega) h1 h2
      rw [if_neg this]
      exact lk_new hd (by omega) (fun j h1 h2 => hj j h1 (by omega))
theorem lk_other {i : Nat} (hd : (ops[i]?).bind (·.dst) ≠ some t) : ∀ (m : Nat), Lk ops fr rr (More L i) t m = Lk ops fr rr L t m
  | 0 => rfl
  | m + 1 => by
    simp only [Lk]
    rw [lk_other hd m]
    by_cases hm : m = i
    · subst hm; rw [if_neg (fun h => hd h.2), if_neg (fun h => hd h.2)]
    · have : More L i m = L m := by simp [More, hm]
      rw [this]
theorem lk_one {q : Nat} (hL : L q = true) (hd : (ops[q]?).bind (·.dst) = some t) : ∀ {m : Nat}, q < m → (∀ j, j < m → L j = true → j ≠ q → (ops[j]?).bind (·.dst) ≠ some t) → Lk ops fr rr L t m = rr q
  | 0, h, _ => by omega
  | m + 1, h, hj => by
    simp only [Lk]
    by_cases hm : m = q
    · subst hm; rw [if_pos ⟨hL, hd⟩]
    · rw [if_neg (fun hh => hj m (by omega) hh.1 hm hh.2)]
      exact lk_one hL hd (by omega) (fun j h1 => hj j (by omega))
end

section
variable {P : Program} {call : CallF} {ops : Array Oper} {t : Tr Nat} {fs : Nat → Fr} {hs : Nat → AH} {rr : Nat → AR} {cl : Nat → Nat}
theorem Reg.lk (R : Reg P call ops t fs hs rr cl) (d : Tmp) : ∀ i, i ≤ ops.size → (fs i).get d = Lk ops (fs 0) rr (fun _ => true) d i
  | 0, _ => rfl
  | i + 1, h => by
    have hx : ops[i]? = some ops[i] := Array.getElem?_eq_getElem (by omega)
    rw [fput_get (R.put i _ hx) d, Lk, hx, R.lk d i (by omega)]
    simp
theorem Reg.size (R : Reg P call ops t fs hs rr cl) : ∀ i, i ≤ ops.size → (fs i).size = (fs 0).size
  | 0, _ => rfl
  | i + 1, h => by
    have hx : ops[i]? = some ops[i] := Array.getElem?_eq_getElem (by omega)
    rw [(put_size (R.put i _ hx)).1, R.size i (by omega)]

/-- An allocation that has been made ahead of its place in the chain. -/
structure Early (P : Program) (ops : Array Oper) (L : Nat → Bool) (a : Act) (w : World) (n0 : Nat) (H : AH) (ρ : Rho) (q β : Nat) (x : Oper) (T : TypeId) (i : TypeInfo) (v : Value) : Prop where
  at_ : ops[q]? = some x
  op : x.op = .alloc T
  kind : kindA P x = 2
  info : P.info? T = some i
  zero : i.zero = some v
  heap : w.heap[β]? = some (.cells v.cells T (0, 0))
  old : n0 ≤ β
  free : ∀ id b, H.get id = some b → ρ.blk id ≠ β
  tmp : ∀ d, x.dst = some d → a.tmps.getD d undef = .pointer (some ⟨β, 0, none⟩)
  only : ∀ j, L j = true → j ≠ q → ∀ d, x.dst = some d → (ops[j]?).bind (·.dst) ≠ some d
structure Rel (D : List Deferred) (P : Program) (ops : Array Oper) (fs : Nat → Fr) (hs : Nat → AH) (rr : Nat → AR) (cl : Nat → Nat) (ρ0 : Rho) (w0 : World) (p : Nat) (L : Nat → Bool) (a : Act) (w : World) (ρ : Rho) (β : Nat → Nat) : Prop where
  pn : p ≤ ops.size
  done : ∀ c, c < p → cl c = 1 → L c = true
  hok : HOK ρ (hs p) w
  kp : Kp (hs 0) ρ0 w0 (hs p) ρ w
  size : a.tmps.size = (fs 0).size
  defers : a.defers = D
  den : ∀ d, (∀ q x, p ≤ q → ops[q]? = some x → cl q = 1 → L q = true → x.dst ≠ some d) → (Lk ops (fs 0) rr L d ops.size).den ρ (hs p).next (a.tmps.getD d undef)
  early : ∀ q, p ≤ q → q < ops.size → cl q = 1 → L q = true → ∃ x T i v, Early P ops L a w w0.heap.size (hs p) ρ q (β q) x T i v
  apart : ∀ q q', p ≤ q → p ≤ q' → q < ops.size → q' < ops.size → cl q = 1 → cl q' = 1 → L q = true → L q' = true → q ≠ q' → β q ≠ β q'

theorem alloc_kind {x : Oper} {T : TypeId} (ho : x.op = .alloc T) (hk : kindA P x = 2) : x.guard = none := by
  obtain ⟨dst, op, ty, pos, after, guard⟩ := x
  simp only at ho; subst ho
  cases guard with
  | none => rfl
  | some g => simp [kindA] at hk
theorem kind2 {x : Oper} (hk : kindA P x = 2) : ∃ T, x.op = .alloc T := by
  obtain ⟨dst, op, ty, pos, after, guard⟩ := x
  cases op with
  | alloc T => exact ⟨T, rfl⟩
  | convert s d x => simp only [kindA] at hk; split at hk <;> simp at hk
  | call c =>
    obtain ⟨callee, args, ats⟩ := c
    cases callee with
    | builtin b => cases b <;> simp [kindA] at hk
    | _ => simp [kindA] at hk
  | _ => simp [kindA] at hk
/-- What the listed order says of an allocation in the chain. -/
theorem alloc_step (R : Reg P call ops t fs hs rr cl) {q : Nat} {x : Oper} {T : TypeId} (hx : ops[q]? = some x) (ho : x.op = .alloc T) (hk : kindA P x = 2) :
    ∃ z, zeroCells? P T = some z ∧ rr q = .one (.c (.ptr (hs q).next 0)) ∧ hs (q + 1) = (hs q).new ⟨z, T, true⟩ := by
  have hg := alloc_kind ho hk
  have hst := R.step q x hx
  have hw : wantedA ops.toList (fs q) x = some true := by unfold wantedA; rw [hg]
  rcases hst with ⟨h, _⟩ | ⟨_, h, _⟩ | ⟨_, h, _⟩ | ⟨_, _, _, h⟩
  · rw [hw] at h; simp at h
  · rw [hk] at h; simp at h
  · rw [hk] at h; simp at h
  · obtain ⟨dst, op, ty, pos, after, guard⟩ := x
    simp only at ho; subst ho
    have h1 : pureA P (fs q).ev ⟨dst, .alloc T, ty, pos, after, guard⟩ = none := rfl
    have h2 : readA P (hs q) (fs q).ev ⟨dst, .alloc T, ty, pos, after, guard⟩ = none := rfl
    simp only [opA, h1, h2, actA] at h
    cases hz : zeroCells? P T with
    | some z =>
      simp only [hz, Option.map_some, Option.some.injEq, Prod.mk.injEq, Out.ret.injEq] at h
      exact ⟨z, rfl, h.1.symm, h.2.symm⟩
    | none =>
      exfalso
      have h3 : calleeA P (fs q).ev ⟨dst, .alloc T, ty, pos, after, guard⟩ = none := rfl
      have h4 : panicA (fs q).ev ⟨dst, .alloc T, ty, pos, after, guard⟩ = none := rfl
      have h5 : scalC P (fs q).ev ⟨dst, .alloc T, ty, pos, after, guard⟩ = none := rfl
      simp [hz, h3, h4, h5] at h
end
end Go.Proofs.YtgobcnheemocnaaGreatDoor
end
section
namespace Go.Proofs.YtgobcnheemocnaaGreatDoor
open Go
set_option linter.unusedSimpArgs false
set_option linter.unusedVariables false

section
variable {P : Program} {call : CallF} {ops : Array Oper} {t : Tr Nat} {fs : Nat → Fr} {hs : Nat → AH} {rr : Nat → AR} {cl : Nat → Nat} {ρ0 : Rho} {w0 : World} {D : List Deferred}
theorem tl {i : Nat} {x : Oper} (h : ops[i]? = some x) : ops.toList[i]? = some x := by rw [Array.getElem?_toList]; exact h
theorem bind_dst {q : Nat} {x : Oper} (hx : ops[q]? = some x) : (ops[q]?).bind (·.dst) = x.dst := by rw [hx]; rfl
/-- What was made early is taken in when its turn in the chain has come. -/
theorem absorb (R : Reg P call ops t fs hs rr cl) (hk1 : ∀ q x, ops[q]? = some x → cl q = 1 → kindA P x ≠ 0) (L : Nat → Bool) (a : Act) (w : World) (β : Nat → Nat) : ∀ (m p : Nat) (ρ : Rho), ops.size - p = m → Rel D P ops fs hs rr cl ρ0 w0 p L a w ρ β →
    ∃ p' ρ', Rel D P ops fs hs rr cl ρ0 w0 p' L a w ρ' β ∧ (p' = ops.size ∨ (p' < ops.size ∧ cl p' = 1 ∧ L p' = false))
  | 0, p, ρ, hm, h => ⟨p, ρ, h, .inl (by have := h.pn; omega)⟩
  | m + 1, p, ρ, hm, h => by
    have hp : p < ops.size := by omega
    have hx : ops[p]? = some ops[p] := Array.getElem?_eq_getElem hp
    by_cases hc : cl p = 1
    · cases hL : L p with
      | false => exact ⟨p, ρ, h, .inr ⟨hp, hc, hL⟩⟩
      | true =>
        obtain ⟨x, T, i, v, e⟩ := h.early p (Nat.le_refl _) hp hc hL
        obtain ⟨z, hz, hr, hh⟩ := alloc_step R e.at_ e.op e.kind
        obtain ⟨i', v', hi', hv', hdz⟩ := zero_den hz ρ (hs p).next
        rw [e.info] at hi'; cases hi'
        rw [e.zero] at hv'; cases hv'
        have hsz := den_size hdz
        have hok := lay_ok (b := ⟨z, T, true⟩) (cs := v.cells) (fz := (0, 0)) (g := β p) (o := 0) h.hok (w' := w) (Nat.le_refl _) (fun _ _ _ => rfl) e.heap e.free (.inl rfl) (by rw [hsz, Nat.zero_add]; exact Nat.le_refl _) (fun _ => ⟨rfl, hsz⟩)
          (fun k y hy => by rw [Nat.zero_add]; exact den_get hdz k y hy)
        have ext := Rho.upd_ext ρ (hs p).next (β p) 0 v.cells.size
        refine absorb R hk1 L a w β m (p + 1) (ρ.upd (hs p).next (β p) 0 v.cells.size) (by omega) ⟨hp, fun c hc' h1 => ?_, by rw [hh]; exact hok, ?_, h.size, h.defers, fun d hd => ?_, fun q hq hqn h1 h2 => ?_, fun q q' h1 h2 => h.apart q q' (by omega) (by omega)⟩
        · by_cases hcp : c = p
          · subst hcp; exact hL
          · exact h.done c (by omega) h1
        · rw [hh]
          have k := h.kp
          refine ⟨k.ext.trans ext k.next, Nat.le_trans k.next (Nat.le_succ _), k.size, k.os, k.tape, k.output, k.frame, fun id b hb => ?_⟩
          rw [AH.get_new] at hb
          split at hb
          · rename_i hid; subst hid; left; simpa [Rho.upd] using e.old
          · rename_i hid
            rcases k.come id b hb with h1 | ⟨id0, b0, h1, h2⟩
            · left; simpa [Rho.upd, hid] using h1
            · right; exact ⟨id0, b0, h1, by simpa [Rho.upd, hid] using h2⟩
        · have hnx : (hs (p + 1)).next = (hs p).next + 1 := by rw [hh]; rfl
          by_cases hdp : x.dst = some d
          · have : Lk ops (fs 0) rr L d ops.size = rr p := lk_one hL (by rw [bind_dst e.at_]; exact hdp) hp (fun j _ hj hne => e.only j hj hne d hdp)
            rw [this, hr, e.tmp d hdp, hnx]
            exact ⟨Nat.lt_succ_self _, by simp [Rho.upd]⟩
          · have := h.den d (fun q y hq hy h1 h2 => by
              by_cases hqp : q = p
              · subst hqp; rw [e.at_] at hy; cases hy; exact hdp
              · exact hd q y (by omega) hy h1 h2)
            rw [hnx]
            exact AR.den_mono ext (Nat.le_succ _) _ _ this
        · obtain ⟨x', T', i', v', e'⟩ := h.early q (by omega) hqn h1 h2
          refine ⟨x', T', i', v', e'.at_, e'.op, e'.kind, e'.info, e'.zero, e'.heap, e'.old, fun id b hb => ?_, e'.tmp, e'.only⟩
          rw [hh, AH.get_new] at hb
          split at hb
          · rename_i hid
            subst hid
            simp only [Rho.upd, if_true]
            exact h.apart p q (Nat.le_refl _) (by omega) hp hqn hc h1 hL h2 (by omega)
          · rename_i hid
            simp only [Rho.upd, if_neg hid]
            exact e'.free id b hb
    · have hh : hs (p + 1) = hs p := (R.step p _ hx).same hc
      refine absorb R hk1 L a w β m (p + 1) ρ (by omega) ⟨hp, fun c hc' h1 => ?_, by rw [hh]; exact h.hok, by rw [hh]; exact h.kp, h.size, h.defers, fun d hd => ?_, fun q hq hqn h1 h2 => ?_, fun q q' h1 h2 => h.apart q q' (by omega) (by omega)⟩
      · by_cases hcp : c = p
        · subst hcp; exact absurd h1 hc
        · exact h.done c (by omega) h1
      · rw [hh]
        exact h.den d (fun q y hq hy h1 h2 => by
          by_cases hqp : q = p
          · subst hqp; exact absurd h1 hc
          · exact hd q y (by omega) hy h1 h2)
      · rw [hh]; exact h.early q (by omega) hqn h1 h2

theorem looks_mem {x : Oper} {d : Tmp} (h : Operand.tmp d ∈ x.op.operands.toList) : d ∈ x.looksAt ops :=
  List.mem_append_left _ (List.mem_filterMap.2 ⟨.tmp d, h, rfl⟩)
theorem looks_guard {x : Oper} {g : Nat} {b : Bool} {d : Tmp} (h : x.guard = some (g, b)) (hd : (ops[g]?).bind (·.dst) = some d) : d ∈ x.looksAt ops := by
  unfold Oper.looksAt
  rw [h]
  simp only
  rw [hd]
  exact List.mem_append_right _ (by simp)
/-- What an operation looks at, when its turn comes: as in the listed order. -/
theorem looks_den (R : Reg P call ops t fs hs rr cl) (hk1 : ∀ q x, ops[q]? = some x → cl q = 1 → kindA P x ≠ 0) {L : Nat → Bool} (hL : Closed ops.toList L) {a : Act} {w : World} {p : Nat} {ρ : Rho} {β : Nat → Nat} (h : Rel D P ops fs hs rr cl ρ0 w0 p L a w ρ β)
    (hp : p = ops.size ∨ (p < ops.size ∧ cl p = 1 ∧ L p = false)) {i : Nat} {o : Oper} (ho : ops[i]? = some o) (hi : L i = false) (he : ∀ e ∈ o.after.toList, Region.binds .any e = true → L e.on = true) {d : Tmp} (hd : d ∈ o.looksAt ops) :
    ((fs i).get d).den ρ (hs p).next (a.tmps.getD d undef) := by
  have hin : i < ops.size := (Array.getElem?_eq_some_iff.1 ho).1
  have F1 : ∀ j, ahead t i j = true → L j = true := fun j hj => R.mask L hL i o j (tl ho) hj he
  have F2 : ∀ j, j < ops.size → ahead t j i = true → L j = false := fun j hjn hj => by
    cases hLj : L j with
    | false => rfl
    | true =>
      have hy : ops[j]? = some ops[j] := Array.getElem?_eq_getElem hjn
      have := R.mask L hL j _ i (tl hy) hj (fun e hem hb => hL j _ (tl hy) hLj e hem hb)
      rw [hi] at this; cases this
  have key : Lk ops (fs 0) rr L d ops.size = (fs i).get d := by
    rw [R.lk d i (by omega)]
    refine lk_cut (fun j hj hdj => ?_) (by omega)
    have hy : ops[j]? = some ops[j] := Array.getElem?_eq_getElem hj
    rw [bind_dst hy] at hdj
    rcases Nat.lt_trichotomy j i with hji | hji | hji
    · refine ⟨fun _ => hji, fun _ => ?_⟩
      cases ha : ahead t i j with
      | true => exact F1 j ha
      | false => exact absurd hd ((Oper.apart_spec (R.pair j i _ _ hy ho hji ha).1).1 d hdj)
    · subst hji
      exact ⟨fun hh => (by rw [hi] at hh; cases hh), fun hh => by omega⟩
    · refine ⟨fun hh => ?_, fun hh => by omega⟩
      exfalso
      cases ha : ahead t j i with
      | true => rw [F2 j hj ha] at hh; cases hh
      | false => exact absurd hd ((Oper.apart_spec (R.pair i j _ _ ho hy hji ha).1).2.2 d hdj)
  rw [← key]
  refine h.den d (fun q x hq hx h1 h2 hxd => ?_)
  have hqn : q < ops.size := (Array.getElem?_eq_some_iff.1 hx).1
  rcases hp with hp | ⟨hpn, hpc, hpL⟩
  · omega
  · have hne : q ≠ p := fun hh => by subst hh; rw [hpL] at h2; cases h2
    have hpx : ops[p]? = some ops[p] := Array.getElem?_eq_getElem hpn
    cases ha : ahead t q p with
    | true =>
      have := R.mask L hL q x p (tl hx) ha (fun e hem hb => hL q x (tl hx) h2 e hem hb)
      rw [hpL] at this; cases this
    | false =>
      obtain ⟨_, hor⟩ := R.pair p q _ _ hpx hx (by omega) ha
      rcases hor with h3 | h3 | ⟨_, h3⟩
      · exact hk1 p _ hpx hpc h3
      · exact hk1 q _ hx h1 h3
      · rcases h3 i o ho with h4 | h4 | h4
        · subst h4; rw [hi] at h2; cases h2
        · exact (Oper.apart_spec h4).1 d hxd hd
        · have := F1 p h4
          rw [hpL] at this; cases this
end
end Go.Proofs.YtgobcnheemocnaaGreatDoor
end
section
namespace Go.Proofs.YtgobcnheemocnaaGreatDoor
open Go
set_option linter.unusedSimpArgs false
set_option linter.unusedVariables false

section
variable {P : Program} {call : CallF} {ops : Array Oper} {t : Tr Nat} {fs : Nat → Fr} {hs : Nat → AH} {rr : Nat → AR} {cl : Nat → Nat} {ρ0 : Rho} {w0 : World} {D : List Deferred}
theorem put_getD {a : Act} {k : Option Tmp} {v : Value} {n : Nat} (hn : a.tmps.size = n) (hk : ∀ j, k = some j → j < n) (d : Tmp) :
    (a.put k v).tmps.getD d undef = if k = some d then v else a.tmps.getD d undef := by
  cases k with
  | none => simp [Act.put]
  | some k =>
    have hlt : k < a.tmps.size := by rw [hn]; exact hk k rfl
    simp only [Act.put, Option.some.injEq, Array.getD_eq_getD_getElem?]
    by_cases h : k = d
    · rw [if_pos h, ← h, Array.getElem?_setIfInBounds_self_of_lt hlt]; rfl
    · rw [if_neg h, Array.getElem?_setIfInBounds_ne h]
theorem put_tsize (a : Act) (k : Option Tmp) (v : Value) : (a.put k v).tmps.size = a.tmps.size ∧ (a.put k v).defers = a.defers := by
  cases k <;> simp [Act.put]
def Settled (n : Nat) (cl : Nat → Nat) (L : Nat → Bool) (p : Nat) : Prop := p = n ∨ (p < n ∧ cl p = 1 ∧ L p = false)
/-- What was made early has nothing to do with what is not done yet. -/
theorem early_apart (R : Reg P call ops t fs hs rr cl) (hk1 : ∀ q x, ops[q]? = some x → cl q = 1 → kindA P x ≠ 0) {L : Nat → Bool} (hL : Closed ops.toList L) {p : Nat}
    (hp : Settled ops.size cl L p) {i : Nat} {o : Oper} (ho : ops[i]? = some o) (hi : L i = false) (he : ∀ e ∈ o.after.toList, Region.binds .any e = true → L e.on = true)
    {q : Nat} {x : Oper} (hq : p ≤ q) (hx : ops[q]? = some x) (h1 : cl q = 1) (h2 : L q = true) : Oper.apart ops x o = true := by
  have hqn : q < ops.size := (Array.getElem?_eq_some_iff.1 hx).1
  rcases hp with hp | ⟨hpn, hpc, hpL⟩
  · omega
  · have hne : q ≠ p := fun hh => by subst hh; rw [hpL] at h2; cases h2
    have hpx : ops[p]? = some ops[p] := Array.getElem?_eq_getElem hpn
    cases ha : ahead t q p with
    | true =>
      have := R.mask L hL q x p (tl hx) ha (fun e hem hb => hL q x (tl hx) h2 e hem hb)
      rw [hpL] at this; cases this
    | false =>
      obtain ⟨_, hor⟩ := R.pair p q _ _ hpx hx (by omega) ha
      rcases hor with h3 | h3 | ⟨_, h3⟩
      · exact absurd h3 (hk1 p _ hpx hpc)
      · exact absurd h3 (hk1 q _ hx h1)
      · rcases h3 i o ho with h4 | h4 | h4
        · subst h4; rw [hi] at h2; cases h2
        · exact h4
        · have := R.mask L hL i o p (tl ho) h4 he
          rw [hpL] at this; cases this
/-- A slot's value behind one more operation. -/
theorem more_den (R : Reg P call ops t fs hs rr cl) {L : Nat → Bool} (hL : Closed ops.toList L) {i : Nat} {o : Oper} (ho : ops[i]? = some o) (hi : L i = false) {a : Act} (hsz : a.tmps.size = (fs 0).size) {v : Value} (d : Tmp) :
    (o.dst = some d ∧ Lk ops (fs 0) rr (More L i) d ops.size = rr i ∧ (a.put o.dst v).tmps.getD d undef = v) ∨
    (o.dst ≠ some d ∧ Lk ops (fs 0) rr (More L i) d ops.size = Lk ops (fs 0) rr L d ops.size ∧ (a.put o.dst v).tmps.getD d undef = a.tmps.getD d undef) := by
  have hin : i < ops.size := (Array.getElem?_eq_some_iff.1 ho).1
  have hput := put_getD (v := v) hsz (k := o.dst) (fun j hj => by rw [← R.size i (by omega)]; exact (put_size (R.put i o ho)).2 j hj) d
  by_cases hd : o.dst = some d
  · refine .inl ⟨hd, lk_new (by rw [bind_dst ho]; exact hd) hin fun j hij hj hLj hdj => ?_, by rw [hput, if_pos hd]⟩
    have hy : ops[j]? = some ops[j] := Array.getElem?_eq_getElem hj
    rw [bind_dst hy] at hdj
    cases ha : ahead t j i with
    | true =>
      have := R.mask L hL j _ i (tl hy) ha (fun e hem hb => hL j _ (tl hy) hLj e hem hb)
      rw [hi] at this; cases this
    | false => exact (Oper.apart_spec (R.pair i j _ _ ho hy hij ha).1).2.1 d hd hdj
  · exact .inr ⟨hd, lk_other (by rw [bind_dst ho]; exact hd) _, by rw [hput, if_neg hd]⟩
theorem more_true {L : Nat → Bool} {i j : Nat} (h : More L i j = true) : j = i ∨ L j = true := by
  simpa [More] using h
theorem more_of {L : Nat → Bool} {i j : Nat} (h : L j = true) : More L i j = true := by simp [More, h]

theorem rel_free (R : Reg P call ops t fs hs rr cl) (hk1 : ∀ q x, ops[q]? = some x → cl q = 1 → kindA P x ≠ 0) {L : Nat → Bool} (hL : Closed ops.toList L) {a : Act} {w : World} {p : Nat} {ρ : Rho} {β : Nat → Nat}
    (h : Rel D P ops fs hs rr cl ρ0 w0 p L a w ρ β) (hp : Settled ops.size cl L p) {i : Nat} {o : Oper} (ho : ops[i]? = some o) (hi : L i = false) (he : ∀ e ∈ o.after.toList, Region.binds .any e = true → L e.on = true)
    (hc : cl i ≠ 1) {v : Value} (hv : (rr i).den ρ (hs p).next v) : Rel D P ops fs hs rr cl ρ0 w0 p (More L i) (a.put o.dst v) w ρ β where
  pn := h.pn
  done := fun c hc1 h1 => more_of (h.done c hc1 h1)
  hok := h.hok
  kp := h.kp
  size := (put_tsize a _ _).1.trans h.size
  defers := (put_tsize a _ _).2.trans h.defers
  den := fun d hd => by
    rcases more_den R hL ho hi h.size (v := v) d with ⟨_, e1, e2⟩ | ⟨_, e1, e2⟩
    · rw [e1, e2]; exact hv
    · rw [e1, e2]; exact h.den d fun q x hq hx h1 h2 => hd q x hq hx h1 (more_of h2)
  early := fun q hq hqn h1 h2 => by
    rcases more_true h2 with rfl | h2
    · exact absurd h1 hc
    · obtain ⟨x, T, inf, z, e⟩ := h.early q hq hqn h1 h2
      have hap := Oper.apart_spec (early_apart R hk1 hL hp ho hi he hq e.at_ h1 h2)
      refine ⟨x, T, inf, z, e.at_, e.op, e.kind, e.info, e.zero, e.heap, e.old, e.free, fun d hd => ?_, fun j hj hne d hd => ?_⟩
      · rcases more_den R hL ho hi h.size (v := v) d with ⟨e0, _, _⟩ | ⟨_, _, e2⟩
        · exact absurd e0 (hap.2.1 d hd)
        · rw [e2]; exact e.tmp d hd
      · rcases more_true hj with rfl | hj
        · rw [bind_dst ho]; exact hap.2.1 d hd
        · exact e.only j hj hne d hd
  apart := fun q q' a1 a2 a3 a4 a5 a6 a7 a8 => by
    rcases more_true a7 with rfl | a7
    · exact absurd a5 hc
    · rcases more_true a8 with rfl | a8
      · exact absurd a6 hc
      · exact h.apart q q' a1 a2 a3 a4 a5 a6 a7 a8
theorem rel_link (R : Reg P call ops t fs hs rr cl) (hk1 : ∀ q x, ops[q]? = some x → cl q = 1 → kindA P x ≠ 0) {L : Nat → Bool} (hL : Closed ops.toList L) {a : Act} {w : World} {p : Nat} {ρ : Rho} {β : Nat → Nat}
    (h : Rel D P ops fs hs rr cl ρ0 w0 p L a w ρ β) (hp : Settled ops.size cl L p) {o : Oper} (ho : ops[p]? = some o) (hi : L p = false) (he : ∀ e ∈ o.after.toList, Region.binds .any e = true → L e.on = true)
    {v : Value} {ρ' : Rho} {w' : World} (hv : (rr p).den ρ' (hs (p + 1)).next v) (hH : HOK ρ' (hs (p + 1)) w') (hK : Kp (hs p) ρ w (hs (p + 1)) ρ' w') :
    Rel D P ops fs hs rr cl ρ0 w0 (p + 1) (More L p) (a.put o.dst v) w' ρ' β where
  pn := (Array.getElem?_eq_some_iff.1 ho).1
  done := fun c hc1 h1 => by
    by_cases hcp : c = p
    · subst hcp; simp [More]
    · exact more_of (h.done c (by omega) h1)
  hok := hH
  kp := h.kp.trans hK
  size := (put_tsize a _ _).1.trans h.size
  defers := (put_tsize a _ _).2.trans h.defers
  den := fun d hd => by
    rcases more_den R hL ho hi h.size (v := v) d with ⟨_, e1, e2⟩ | ⟨_, e1, e2⟩
    · rw [e1, e2]; exact hv
    · rw [e1, e2]
      refine AR.den_mono hK.ext hK.next _ _ (h.den d fun q x hq hx h1 h2 => ?_)
      by_cases hqp : q = p
      · subst hqp; rw [hi] at h2; cases h2
      · exact hd q x (by omega) hx h1 (more_of h2)
  early := fun q hq hqn h1 h2 => by
    rcases more_true h2 with rfl | h2
    · omega
    · obtain ⟨x, T, inf, z, e⟩ := h.early q (by omega) hqn h1 h2
      have hap := Oper.apart_spec (early_apart R hk1 hL hp ho hi he (by omega) e.at_ h1 h2)
      have hlt : β q < w.heap.size := (Array.getElem?_eq_some_iff.1 e.heap).1
      refine ⟨x, T, inf, z, e.at_, e.op, e.kind, e.info, e.zero, (hK.frame _ hlt e.free).trans e.heap, e.old, fun id b hb hh => ?_, fun d hd => ?_, fun j hj hne d hd => ?_⟩
      · rcases hK.come id b hb with h3 | ⟨id0, b0, h3, h4⟩
        · omega
        · exact e.free id0 b0 h3 (h4.trans hh)
      · rcases more_den R hL ho hi h.size (v := v) d with ⟨e0, _, _⟩ | ⟨_, _, e2⟩
        · exact absurd e0 (hap.2.1 d hd)
        · rw [e2]; exact e.tmp d hd
      · rcases more_true hj with rfl | hj
        · rw [bind_dst ho]; exact hap.2.1 d hd
        · exact e.only j hj hne d hd
  apart := fun q q' a1 a2 a3 a4 a5 a6 a7 a8 => by
    rcases more_true a7 with rfl | a7
    · omega
    · rcases more_true a8 with rfl | a8
      · omega
      · exact h.apart q q' (by omega) (by omega) a3 a4 a5 a6 a7 a8
theorem alloc_heap (w : World) (o : Obj) : (∀ k, k < w.heap.size → (w.alloc o).heap[k]? = w.heap[k]?) ∧ (w.alloc o).heap[w.heap.size]? = some o ∧ (w.alloc o).heap.size = w.heap.size + 1 :=
  ⟨fun k hk => by show (w.heap.push _)[k]? = _; rw [Array.getElem?_push, if_neg (by omega)], by show (w.heap.push _)[_]? = _; simp, by show (w.heap.push _).size = _; simp⟩
theorem rel_early (R : Reg P call ops t fs hs rr cl) (hk1 : ∀ q x, ops[q]? = some x → cl q = 1 → kindA P x ≠ 0) {L : Nat → Bool} (hL : Closed ops.toList L) {a : Act} {w : World} {p : Nat} {ρ : Rho} {β : Nat → Nat}
    (h : Rel D P ops fs hs rr cl ρ0 w0 p L a w ρ β) (hp : Settled ops.size cl L p) {i : Nat} {o : Oper} (ho : ops[i]? = some o) (hi : L i = false) (he : ∀ e ∈ o.after.toList, Region.binds .any e = true → L e.on = true)
    (hc : cl i = 1) (hpi : p < i) (hk : kindA P o = 2) {T : TypeId} (hop : o.op = .alloc T) {inf : TypeInfo} {z : Value} (hinf : P.info? T = some inf) (hz : inf.zero = some z)
    (honly : ∀ j, L j = true → j ≠ i → ∀ d, o.dst = some d → (ops[j]?).bind (·.dst) ≠ some d) :
    Rel D P ops fs hs rr cl ρ0 w0 p (More L i) (a.put o.dst (.pointer (some ⟨w.heap.size, 0, none⟩))) (w.alloc (.cells z.cells T)) ρ (fun q => if q = i then w.heap.size else β q) := by
  obtain ⟨a1, a2, a3⟩ := alloc_heap w (.cells z.cells T)
  have hne : ∀ id b, (hs p).get id = some b → ρ.blk id < w.heap.size := fun id b hb => h.hok.lt_size hb
  refine ⟨h.pn, fun c hc1 h1 => more_of (h.done c hc1 h1), ⟨h.hok.lt, h.hok.inj, fun id b hb => ?_⟩, ?_, (put_tsize a _ _).1.trans h.size, (put_tsize a _ _).2.trans h.defers, fun d hd => ?_, fun q hq hqn h1 h2 => ?_, fun q q' b1 b2 b3 b4 b5 b6 b7 b8 b9 => ?_⟩
  · obtain ⟨cs, fz, hl⟩ := h.hok.row id b hb
    exact ⟨cs, fz, (a1 _ (hne id b hb)).trans hl.heap, hl.size, hl.thaw, hl.room, hl.whole, hl.den⟩
  · have k := h.kp
    exact ⟨k.ext, k.next, by have := k.size; omega, k.os, k.tape, k.output, fun j hj hn => (a1 j (by have := k.size; omega)).trans (k.frame j hj hn), k.come⟩
  · rcases more_den R hL ho hi h.size (v := .pointer (some ⟨w.heap.size, 0, none⟩)) d with ⟨e0, _, _⟩ | ⟨_, e1, e2⟩
    · exact absurd e0 (hd i o (by omega) ho hc (by simp [More]))
    · rw [e1, e2]; exact h.den d fun q x hq hx h1 h2 => hd q x hq hx h1 (more_of h2)
  · by_cases hqi : q = i
    · subst hqi
      refine ⟨o, T, inf, z, ho, hop, hk, hinf, hz, by rw [if_pos rfl]; exact a2, by rw [if_pos rfl]; exact h.kp.size, fun id b hb => by rw [if_pos rfl]; have := hne id b hb; omega, fun d hd => ?_, fun j hj hne' d hd => ?_⟩
      · rcases more_den R hL ho hi h.size (v := .pointer (some ⟨w.heap.size, 0, none⟩)) d with ⟨_, _, e2⟩ | ⟨e0, _, _⟩
        · rw [e2, if_pos rfl]
        · exact absurd hd e0
      · rcases more_true hj with hj | hj
        · exact absurd hj hne'
        · exact honly j hj hne' d hd
    · rcases more_true h2 with h2 | h2
      · exact absurd h2 hqi
      · obtain ⟨x, T', inf', z', e⟩ := h.early q hq hqn h1 h2
        have hap := Oper.apart_spec (early_apart R hk1 hL hp ho hi he hq e.at_ h1 h2)
        have hlt : β q < w.heap.size := (Array.getElem?_eq_some_iff.1 e.heap).1
        refine ⟨x, T', inf', z', e.at_, e.op, e.kind, e.info, e.zero, by rw [if_neg hqi]; exact (a1 _ hlt).trans e.heap, by rw [if_neg hqi]; exact e.old, by rw [if_neg hqi]; exact e.free, fun d hd => ?_, fun j hj hne' d hd => ?_⟩
        · rcases more_den R hL ho hi h.size (v := .pointer (some ⟨w.heap.size, 0, none⟩)) d with ⟨e0, _, _⟩ | ⟨_, _, e2⟩
          · exact absurd e0 (hap.2.1 d hd)
          · rw [e2, if_neg hqi]; exact e.tmp d hd
        · rcases more_true hj with rfl | hj
          · rw [bind_dst ho]; exact hap.2.1 d hd
          · exact e.only j hj hne' d hd
  · have lt : ∀ r, p ≤ r → r < ops.size → cl r = 1 → More L i r = true → r ≠ i → β r < w.heap.size := fun r r1 r2 r3 r4 r5 => by
      rcases more_true r4 with r4 | r4
      · exact absurd r4 r5
      · obtain ⟨x, T', inf', z', e⟩ := h.early r r1 r2 r3 r4
        exact (Array.getElem?_eq_some_iff.1 e.heap).1
    by_cases c1 : q = i <;> by_cases c2 : q' = i
    · omega
    · rw [if_pos c1, if_neg c2]; have := lt q' b2 b4 b6 b8 c2; omega
    · rw [if_neg c1, if_pos c2]; have := lt q b1 b3 b5 b7 c1; omega
    · rw [if_neg c1, if_neg c2]
      rcases more_true b7 with b7 | b7
      · exact absurd b7 c1
      · rcases more_true b8 with b8 | b8
        · exact absurd b8 c2
        · exact h.apart q q' b1 b2 b3 b4 b5 b6 b7 b8 b9
end
end Go.Proofs.YtgobcnheemocnaaGreatDoor
end
section
namespace Go.Proofs.YtgobcnheemocnaaGreatDoor
open Go
set_option linter.unusedSimpArgs false
set_option linter.unusedVariables false

section
variable {P : Program} {call : CallF} {ops : Array Oper} {t : Tr Nat} {fs : Nat → Fr} {hs : Nat → AH} {rr : Nat → AR} {cl : Nat → Nat} {ρ0 : Rho} {w0 : World} {D : List Deferred}
/-- One operation that is ready. -/
theorem draw_step (hn : noNG P) (hcall : CallOK P call) (R : Reg P call ops t fs hs rr cl) (hk1 : ∀ q x, ops[q]? = some x → cl q = 1 → kindA P x ≠ 0) {L : Nat → Bool} (hL : Closed ops.toList L) {a : Act} {w : World} {p : Nat} {ρ : Rho} {β : Nat → Nat}
    (h : Rel D P ops fs hs rr cl ρ0 w0 p L a w ρ β) (hp : Settled ops.size cl L p) {i : Nat} {o : Oper} (ho : ops[i]? = some o) (hi : L i = false) (he : ∀ e ∈ o.after.toList, Region.binds .any e = true → L e.on = true)
    {Q : Exit → Act → World → Prop} {K : Act → World → Prop} (hK : ∀ a' w' p' ρ' β', Rel D P ops fs hs rr cl ρ0 w0 p' (More L i) a' w' ρ' β' → Settled ops.size cl (More L i) p' → K a' w') : wpOp P ops Q i K a w := by
  have hin : i < ops.size := (Array.getElem?_eq_some_iff.1 ho).1
  have hlook : ∀ d, d ∈ o.looksAt ops → ((fs i).get d).den ρ (hs p).next (a.tmps.getD d undef) := fun d hd => looks_den R hk1 hL h hp ho hi he hd
  have hev : EvOK ρ (hs p).next (fs i).ev a.eval o.op.operands.toList := fun x hx => by
    cases x with
    | tmp d => exact hlook d (looks_mem hx)
    | const v =>
      show ((AR.of? v).getD .any).den ρ _ v
      cases hv : AR.of? v with
      | none => trivial
      | some x => exact AR.of_den ρ _ v x hv
    | global g => exact ⟨rfl, rfl⟩
    | func f => rfl
  have hwant : ∀ b, wantedA ops.toList (fs i) o = some b → Region.wanted o (yielded ops a.tmps) = b := fun b hb => wanted_of (fun g c d hg hd => hlook d (looks_guard hg hd)) hb
  have hK2 : ∀ a' w' p' ρ' β', Rel D P ops fs hs rr cl ρ0 w0 p' (More L i) a' w' ρ' β' → K a' w' := fun a' w' p' ρ' β' h' => by
    obtain ⟨p2, ρ2, h2, h3⟩ := absorb R hk1 (More L i) a' w' β' _ p' ρ' rfl h'
    exact hK a' w' p2 ρ2 β' h2 h3
  have hst := R.step i o ho
  -- what comes ahead in the chain of a link that is ready
  have hlink : cl i = 1 → i ≠ p → p < i ∧ kindA P o = 2 ∧ ∀ j, L j = true → j ≠ i → ∀ d, o.dst = some d → (ops[j]?).bind (·.dst) ≠ some d := fun hc hne => by
    have hpi : p < i := by
      rcases Nat.lt_trichotomy i p with h1 | h1 | h1
      · have := h.done i h1 hc; rw [hi] at this; cases this
      · exact absurd h1 hne
      · exact h1
    rcases hp with hp | ⟨hpn, hpc, hpL⟩
    · omega
    · have hpx : ops[p]? = some ops[p] := Array.getElem?_eq_getElem hpn
      cases ha : ahead t i p with
      | true =>
        have := R.mask L hL i o p (tl ho) ha he
        rw [hpL] at this; cases this
      | false =>
        obtain ⟨_, hor⟩ := R.pair p i _ _ hpx ho hpi ha
        rcases hor with h3 | h3 | ⟨h2, h3⟩
        · exact absurd h3 (hk1 p _ hpx hpc)
        · exact absurd h3 (hk1 i _ ho hc)
        · refine ⟨hpi, h2, fun j hj hji d hd hdj => ?_⟩
          cases hy : ops[j]? with
          | none => rw [hy] at hdj; simp at hdj
          | some y =>
            rw [hy] at hdj
            rcases h3 j y hy with h4 | h4 | h4
            · exact hji h4
            · exact (Oper.apart_spec h4).2.1 d hd hdj
            · have := R.mask L hL j y p (tl hy) h4 (fun e hem hb => hL j y (tl hy) hj e hem hb)
              rw [hpL] at this; cases this
  unfold wpOp
  rw [ho]
  simp only
  rcases hst with ⟨hw, hr, hh, hk⟩ | ⟨hw, hk, hc, hpu, hh⟩ | ⟨hw, hk, hc, hpu, hh⟩ | ⟨hw, hk, hc, hop⟩
  · rw [hwant _ hw]
    simp only [Bool.false_eq_true, if_false]
    have hu : (AR.tup []).den ρ (hs p).next undef := ⟨#[], rfl, trivial⟩
    rcases hk with ⟨_, hc⟩ | ⟨hk0, hc⟩
    · exact hK2 _ _ _ _ _ (rel_free R hk1 hL h hp ho hi he (by omega) (by rw [hr]; exact hu))
    · by_cases hip : i = p
      · subst hip
        refine hK2 _ _ _ _ _ (rel_link R hk1 hL h hp ho hi he (v := undef) (ρ' := ρ) (w' := w) ?_ (by rw [hh]; exact h.hok) (by rw [hh]; exact Kp.refl _ _ _))
        rw [hr, hh]; exact hu
      · obtain ⟨_, h2, _⟩ := hlink hc hip
        obtain ⟨T, hT⟩ := kind2 h2
        have hg := alloc_kind hT h2
        unfold wantedA at hw; rw [hg] at hw; simp at hw
  · rw [hwant _ hw]
    simp only [if_true]
    left
    obtain ⟨v, hv, hd⟩ := pureA_sound hpu hev w
    unfold Oper.wp
    rw [hv]
    exact hK2 _ _ _ _ _ (rel_free R hk1 hL h hp ho hi he (by omega) hd)
  · rw [hwant _ hw]
    simp only [if_true]
    left
    have hrd : readA P (hs p) (fs i).ev o = some (rr i) := by
      refine R.read i o ho hc p h.pn ?_ (fun hpn => ?_) (fun q hq h1 => ?_)
      · rcases hp with hp | hp
        · exact .inl hp
        · exact .inr hp.2.1
      · rcases hp with hp | ⟨_, _, hpL⟩
        · omega
        · cases ha : ahead t i p with
          | false => rfl
          | true =>
            have := R.mask L hL i o p (tl ho) ha he
            rw [hpL] at this; cases this
      · cases ha : ahead t q i with
        | false => rfl
        | true =>
          have hqL := h.done q hq h1
          have hqn : q < ops.size := by have := h.pn; omega
          have hy : ops[q]? = some ops[q] := Array.getElem?_eq_getElem hqn
          have := R.mask L hL q _ i (tl hy) ha (fun e hem hb => hL q _ (tl hy) hqL e hem hb)
          rw [hi] at this; cases this
    obtain ⟨v, hv, hd⟩ := readA_sound h.hok hrd hev
    unfold Oper.wp
    rw [hv]
    exact hK2 _ _ _ _ _ (rel_free R hk1 hL h hp ho hi he (by omega) hd)
  · rw [hwant _ hw]
    simp only [if_true]
    left
    by_cases hip : i = p
    · subst hip
      refine opA_sound hn hcall hop h.hok hev (fun r v w' ρ' hr hd hH hKp => ?_) (fun x v w' ρ' hr => by cases hr)
      cases hr
      exact hK2 _ _ _ _ _ (rel_link R hk1 hL h hp ho hi he hd hH hKp)
    · obtain ⟨hpi, h2, honly⟩ := hlink hc hip
      obtain ⟨T, hT⟩ := kind2 h2
      obtain ⟨z, hz, _, _⟩ := alloc_step R ho hT h2
      obtain ⟨inf, v, hinf, hzz, _⟩ := zero_den hz ρ 0
      have hrun : (execOp a.eval o).run P w = .ok (.value (.pointer (some ⟨w.heap.size, 0, none⟩))) (w.alloc (.cells v.cells T)) := by
        obtain ⟨dst, op, ty, pos, after, guard⟩ := o
        simp only at hT; subst hT
        simp [execOp, Instr.alloc, zeroValue, typeInfo, hinf, hzz, newVar, newRow]
      unfold Oper.wp
      rw [hrun]
      exact hK2 _ _ _ _ _ (rel_early R hk1 hL h hp ho hi he hc hpi h2 hT hinf hzz honly)

def Lf (listed : Array Bool) : Nat → Bool := fun i => listed.getD i false
theorem lf_set {listed : Array Bool} {i : Nat} (h : i < listed.size) : Lf (listed.setIfInBounds i true) = More (Lf listed) i := by
  funext j
  simp only [Lf, More, Array.getD_eq_getD_getElem?]
  by_cases hj : j = i
  · subst hj; rw [Array.getElem?_setIfInBounds_self_of_lt h]; simp
  · rw [Array.getElem?_setIfInBounds_ne (Ne.symm hj)]; simp [hj]
theorem ready_spec {listed : Array Bool} (hl : listed.size = ops.size) {i : Nat} : i ∈ Region.ready .any ops listed ↔ ∃ o, ops[i]? = some o ∧ Lf listed i = false ∧ ∀ e ∈ o.after.toList, Region.binds .any e = true → Lf listed e.on = true := by
  unfold Region.ready
  simp only [List.mem_filter, List.mem_range, Bool.and_eq_true, Bool.not_eq_true']
  constructor
  · rintro ⟨hi, h1, h2⟩
    have hx : ops[i]? = some ops[i] := Array.getElem?_eq_getElem hi
    refine ⟨_, hx, ?_, fun e he hb => ?_⟩
    · simp only [Lf, Array.getD_eq_getD_getElem?] at h1 ⊢
      have : listed[i]? = some listed[i] := Array.getElem?_eq_getElem (by omega)
      rw [this] at h1 ⊢; exact h1
    · rw [hx] at h2
      simp only [Option.map_some, Option.getD_some, Array.all_eq_true_iff_forall_mem, Bool.or_eq_true, Bool.not_eq_true'] at h2
      rcases h2 e (by simpa using he) with h3 | h3
      · rw [hb] at h3; cases h3
      · exact h3
  · rintro ⟨o, hx, h1, h2⟩
    have hi : i < ops.size := (Array.getElem?_eq_some_iff.1 hx).1
    refine ⟨hi, ?_, ?_⟩
    · simp only [Lf, Array.getD_eq_getD_getElem?] at h1 ⊢
      have : listed[i]? = some listed[i] := Array.getElem?_eq_getElem (by omega)
      rw [this] at h1 ⊢; exact h1
    · rw [hx]
      simp only [Option.map_some, Option.getD_some, Array.all_eq_true_iff_forall_mem, Bool.or_eq_true, Bool.not_eq_true']
      intro e he
      cases hb : Region.binds .any e with
      | false => exact .inl rfl
      | true => exact .inr (h2 e (by simpa using he) hb)
theorem closed_more {L : Nat → Bool} (hL : Closed ops.toList L) {i : Nat} {o : Oper} (ho : ops[i]? = some o) (he : ∀ e ∈ o.after.toList, Region.binds .any e = true → L e.on = true) : Closed ops.toList (More L i) := by
  intro j x hx hj e hem hb
  rcases more_true hj with rfl | hj
  · have : ops[j]? = some x := by rw [← Array.getElem?_toList]; exact hx
    rw [ho] at this; cases this
    exact more_of (he e hem hb)
  · exact more_of (hL j x hx hj e hem hb)
/-- Where nobody is ready, all have been. -/
theorem all_done (R : Reg P call ops t fs hs rr cl) {listed : Array Bool} (hl : listed.size = ops.size) (h : Region.ready .any ops listed = []) : ∀ i, i < ops.size → Lf listed i = true := by
  intro i
  induction i using Nat.strongRecOn with
  | _ i ih =>
    intro hi
    cases hLi : Lf listed i with
    | true => rfl
    | false =>
      have hx : ops[i]? = some ops[i] := Array.getElem?_eq_getElem hi
      have : i ∈ Region.ready .any ops listed := (ready_spec hl).2 ⟨_, hx, hLi, fun e he hb => ih e.on (R.edge i _ hx e he hb) (by have := R.edge i _ hx e he hb; omega)⟩
      rw [h] at this; cases this
theorem draw_all (hn : noNG P) (hcall : CallOK P call) (R : Reg P call ops t fs hs rr cl) (hk1 : ∀ q x, ops[q]? = some x → cl q = 1 → kindA P x ≠ 0) {Q : Exit → Act → World → Prop}
    (hQ : ∀ a w ρ, FrOK D ρ (hs ops.size).next (fs ops.size) a → HOK ρ (hs ops.size) w → Kp (hs 0) ρ0 w0 (hs ops.size) ρ w → Q .normal a w) :
    ∀ (fuel : Nat) (listed : Array Bool) (a : Act) (w : World) (p : Nat) (ρ : Rho) (β : Nat → Nat), listed.size = ops.size → Closed ops.toList (Lf listed) → (List.range ops.size).countP (fun i => !Lf listed i) ≤ fuel →
      Rel D P ops fs hs rr cl ρ0 w0 p (Lf listed) a w ρ β → Settled ops.size cl (Lf listed) p → wpAny P .any ops Q fuel listed a w := by
  have fin : ∀ (listed : Array Bool) (a : Act) (w : World) (p : Nat) (ρ : Rho) (β : Nat → Nat), (∀ i, i < ops.size → Lf listed i = true) →
      Rel D P ops fs hs rr cl ρ0 w0 p (Lf listed) a w ρ β → Settled ops.size cl (Lf listed) p → Q .normal a w := by
    intro listed a w p ρ β hall h hp
    have hpn : p = ops.size := by
      rcases hp with hp | ⟨h1, _, h3⟩
      · exact hp
      · rw [hall p h1] at h3; cases h3
    subst hpn
    refine hQ a w ρ ⟨by rw [h.size, R.size _ (Nat.le_refl _)], fun d => ?_, h.defers⟩ h.hok h.kp
    have := h.den d (fun q x hq hx => by have := (Array.getElem?_eq_some_iff.1 hx).1; omega)
    rw [R.lk d _ (Nat.le_refl _)]
    rw [lk_cut (i := ops.size) (fun j hj _ => ⟨fun _ => hj, fun _ => hall j hj⟩) (Nat.le_refl _)] at this
    exact this
  intro fuel
  induction fuel with
  | zero =>
    intro listed a w p ρ β hl _ hcnt h hp
    have hall : ∀ i, i < ops.size → Lf listed i = true := fun i hi => by
      have := List.countP_eq_zero.1 (Nat.le_zero.1 hcnt) i (by simpa using hi)
      simpa using this
    refine ⟨?_, fin listed a w p ρ β hall h hp⟩
    cases hr : Region.ready .any ops listed with
    | nil => rfl
    | cons i l =>
      have : i ∈ Region.ready .any ops listed := by rw [hr]; simp
      obtain ⟨o, hx, h1, _⟩ := (ready_spec hl).1 this
      rw [hall i (Array.getElem?_eq_some_iff.1 hx).1] at h1; cases h1
  | succ fuel ih =>
    intro listed a w p ρ β hl hL hcnt h hp
    refine ⟨fun hr => fin listed a w p ρ β (all_done R hl hr) h hp, fun i hi => ?_⟩
    obtain ⟨o, hx, h1, h2⟩ := (ready_spec hl).1 hi
    have hin : i < ops.size := (Array.getElem?_eq_some_iff.1 hx).1
    refine draw_step hn hcall R hk1 hL h hp hx h1 h2 fun a' w' p' ρ' β' h' hp' => ?_
    have hset := lf_set (listed := listed) (i := i) (by omega)
    refine ih _ a' w' p' ρ' β' (by simpa using hl) (by rw [hset]; exact closed_more hL hx h2) ?_ (by rw [hset]; exact h') (by rw [hset]; exact hp')
    rw [hset]
    have hcount : ∀ (l : List Nat), l.Nodup → i ∈ l → l.countP (fun j => !More (Lf listed) i j) + 1 = l.countP (fun j => !Lf listed j) := by
      intro l
      induction l with
      | nil => intro _ h; simp at h
      | cons k l ih2 =>
        intro hnd hm
        rw [List.nodup_cons] at hnd
        simp only [List.countP_cons]
        rcases List.mem_cons.1 hm with rfl | hm
        · have e1 : l.countP (fun j => !More (Lf listed) i j) = l.countP (fun j => !Lf listed j) := by
            refine List.countP_congr fun j hj => ?_
            have : j ≠ i := fun hh => by subst hh; exact hnd.1 hj
            simp [More, this]
          rw [e1]; simp [More, h1]
        · have hne : k ≠ i := fun hh => by subst hh; exact hnd.1 hm
          have e1 : More (Lf listed) i k = Lf listed k := by simp [More, hne]
          rw [e1]
          have := ih2 hnd.2 hm
          omega
    have := hcount (List.range ops.size) List.nodup_range (by simpa using hin)
    omega
end
end Go.Proofs.YtgobcnheemocnaaGreatDoor
end
