/-
  A region that draws its order: whatever order is drawn, it comes to what the listed order comes to. No condition.
-/
import Derived.Test.YtbifklibdkjbeaaGreatDoorEvAc
namespace Go.Proofs.YtbifklibdkjbeaaGreatDoor
open Go
set_option linter.unusedSimpArgs false
set_option linter.unusedVariables false

structure Reg (P : Program) (call : CallF) (ops : Array Oper) (t : Tr Nat) (fs : Nat → Fr) (hs : Nat → AH) (rr : Nat → AR) (cl : Nat → Nat) : Prop where
  mask : MaskOK ops.toList t
  edge : ∀ (i : Nat) x, ops[i]? = some x → ∀ e ∈ x.after.toList, Region.binds .any e = true → e.on < i
  pair : ∀ (i j : Nat) x y, ops[i]? = some x → ops[j]? = some y → i < j → ahead t j i = false → Oper.apart ops x y = true ∧
    (kindA P x = 0 ∨ kindA P y = 0 ∨ (kindA P y = 2 ∧ ∀ (k : Nat) z, ops[k]? = some z → k = j ∨ Oper.apart ops y z = true ∨ ahead t k i = true))
  put : ∀ (i : Nat) x, ops[i]? = some x → (fs i).put x.dst (rr i) = some (fs (i + 1))
  step : ∀ (i : Nat) x, ops[i]? = some x → StepOK P call ops.toList x (fs i) (hs i) (cl i) (rr i) (hs (i + 1))
  read : ∀ (i : Nat) x, ops[i]? = some x → cl i = 2 → ∀ p, p ≤ ops.size → (p = ops.size ∨ cl p = 1) → (p < ops.size → ahead t i p = false) → (∀ q, q < p → cl q = 1 → ahead t q i = false) →
    readA P (hs p) (fs i).ev x = some (rr i)

/-- What a slot holds once the operations of L have been. -/
noncomputable def Lk (ops : Array Oper) (fr : Fr) (rr : Nat → AR) (L : Nat → Bool) (t : Tmp) : Nat → AR
  | 0 => fr.get t
  | k + 1 => if L k = true ∧ (ops[k]?).bind (·.dst) = some t then rr k else Lk ops fr rr L t k
def More (L : Nat → Bool) (i : Nat) : Nat → Bool := fun j => decide (j = i) || L j
section
variable {ops : Array Oper} {fr : Fr} {rr : Nat → AR} {L : Nat → Bool} {t : Tmp}
theorem fput_get {fr fr' : Fr} {d : Option Tmp} {r : AR} (h : fr.put d r = some fr') (t : Tmp) : fr'.get t = if d = some t then r else fr.get t := by
  rw [Fr.put_def] at h
  cases d with
  | none => simp only [Option.some.injEq] at h; subst h; simp
  | some d =>
    simp only at h
    cases hb : Nat.blt d fr.size with
    | false => simp only [hb, cond_false, reduceCtorEq] at h
    | true =>
      simp only [hb, cond_true, Option.some.injEq] at h
      subst h
      simp only [Fr.get_put, Option.some.injEq]
      by_cases ht : t = d
      · subst ht; simp
      · rw [if_neg ht, if_neg (Ne.symm ht)]
theorem put_size {fr fr' : Fr} {d : Option Tmp} {r : AR} (h : fr.put d r = some fr') : fr'.size = fr.size ∧ ∀ k, d = some k → k < fr.size := by
  rw [Fr.put_def] at h
  cases d with
  | none => simp only [Option.some.injEq] at h; subst h; simp
  | some d =>
    simp only at h
    cases hb : Nat.blt d fr.size with
    | false => simp only [hb, cond_false, reduceCtorEq] at h
    | true =>
      simp only [hb, cond_true, Option.some.injEq] at h
      subst h
      exact ⟨rfl, fun k hk => by cases hk; simpa [Nat.blt_eq] using hb⟩
theorem lk_cut {i : Nat} : ∀ {m : Nat}, (∀ j, j < m → (ops[j]?).bind (·.dst) = some t → (L j = true ↔ j < i)) → i ≤ m → Lk ops fr rr L t m = Lk ops fr rr (fun _ => true) t i
  | 0, _, hi => by have : i = 0 := (by omega); subst this; rfl
  | m + 1, h, hi => by
    by_cases hm : i = m + 1
    · subst hm
      simp only [Lk, true_and]
      by_cases hd : (ops[m]?).bind (·.dst) = some t
      · have := (h m (by omega) hd).2 (by omega)
        simp [hd, this]
      · simp only [hd, and_false, if_false]
        exact lk_cut (i := m) (fun j hj hd' => ⟨fun _ => hj, fun _ => (h j (by omega) hd').2 (by omega)⟩) (Nat.le_refl _)
    · have hne : ¬ (L m = true ∧ (ops[m]?).bind (·.dst) = some t) := by
        rintro ⟨h1, h2⟩
        have := (h m (by omega) h2).1 h1
        omega
      simp only [Lk, if_neg hne]
      exact lk_cut (fun j hj => h j (by omega)) (by omega)
theorem lk_new {i : Nat} (hd : (ops[i]?).bind (·.dst) = some t) : ∀ {m : Nat}, i < m → (∀ j, i < j → j < m → L j = true → (ops[j]?).bind (·.dst) ≠ some t) → Lk ops fr rr (More L i) t m = rr i
  | 0, h, _ => by omega
  | m + 1, h, hj => by
    simp only [Lk]
    by_cases hm : m = i
    · subst hm; simp [More, hd]
    · have : ¬ (More L i m = true ∧ (ops[m]?).bind (·.dst) = some t) := by
        rintro ⟨h1, h2⟩
        simp only [More, Bool.or_eq_true, decide_eq_true_eq] at h1
        rcases h1 with h1 | h1
        · exact hm h1
        · exact hj m (by omega) (by omega) h1 h2
      rw [if_neg this]
      exact lk_new hd (by omega) (fun j h1 h2 => hj j h1 (by omega))
theorem lk_other {i : Nat} (hd : (ops[i]?).bind (·.dst) ≠ some t) : ∀ (m : Nat), Lk ops fr rr (More L i) t m = Lk ops fr rr L t m
  | 0 => rfl
  | m + 1 => by
    simp only [Lk]
    rw [lk_other hd m]
    by_cases hm : m = i
    · subst hm; rw [if_neg (fun h => hd h.2), if_neg (fun h => hd h.2)]
    · have : More L i m = L m := by simp [More, hm]
      rw [this]
theorem lk_one {q : Nat} (hL : L q = true) (hd : (ops[q]?).bind (·.dst) = some t) : ∀ {m : Nat}, q < m → (∀ j, j < m → L j = true → j ≠ q → (ops[j]?).bind (·.dst) ≠ some t) → Lk ops fr rr L t m = rr q
  | 0, h, _ => by omega
  | m + 1, h, hj => by
    simp only [Lk]
    by_cases hm : m = q
    · subst hm; rw [if_pos ⟨hL, hd⟩]
    · rw [if_neg (fun hh => hj m (by omega) hh.1 hm hh.2)]
      exact lk_one hL hd (by omega) (fun j h1 => hj j (by omega))
end

section
variable {P : Program} {call : CallF} {ops : Array Oper} {t : Tr Nat} {fs : Nat → Fr} {hs : Nat → AH} {rr : Nat → AR} {cl : Nat → Nat}
theorem Reg.lk (R : Reg P call ops t fs hs rr cl) (d : Tmp) : ∀ i, i ≤ ops.size → (fs i).get d = Lk ops (fs 0) rr (fun _ => true) d i
  | 0, _ => rfl
  | i + 1, h => by
    have hx : ops[i]? = some ops[i] := Array.getElem?_eq_getElem (by omega)
    rw [fput_get (R.put i _ hx) d, Lk, hx, R.lk d i (by omega)]
    simp
theorem Reg.size (R : Reg P call ops t fs hs rr cl) : ∀ i, i ≤ ops.size → (fs i).size = (fs 0).size
  | 0, _ => rfl
  | i + 1, h => by
    have hx : ops[i]? = some ops[i] := Array.getElem?_eq_getElem (by omega)
    rw [(put_size (R.put i _ hx)).1, R.size i (by omega)]

/-- An allocation that has been made ahead of its place in the chain. -/
structure Early (P : Program) (ops : Array Oper) (L : Nat → Bool) (a : Act) (w : World) (n0 : Nat) (H : AH) (ρ : Rho) (q β : Nat) (x : Oper) (T : TypeId) (i : TypeInfo) (v : Value) : Prop where
  at_ : ops[q]? = some x
  op : x.op = .alloc T
  kind : kindA P x = 2
  info : P.info? T = some i
  zero : i.zero = some v
  heap : w.heap[β]? = some (.cells v.cells T (0, 0))
  old : n0 ≤ β
  free : ∀ id b, H.get id = some b → ρ.blk id ≠ β
  tmp : ∀ d, x.dst = some d → a.tmps.getD d undef = .pointer (some ⟨β, 0, none⟩)
  only : ∀ j, L j = true → j ≠ q → ∀ d, x.dst = some d → (ops[j]?).bind (·.dst) ≠ some d
structure Rel (D : List Deferred) (P : Program) (ops : Array Oper) (fs : Nat → Fr) (hs : Nat → AH) (rr : Nat → AR) (cl : Nat → Nat) (ρ0 : Rho) (w0 : World) (p : Nat) (L : Nat → Bool) (a : Act) (w : World) (ρ : Rho) (β : Nat → Nat) : Prop where
  pn : p ≤ ops.size
  done : ∀ c, c < p → cl c = 1 → L c = true
  hok : HOK ρ (hs p) w
  kp : Kp (hs 0) ρ0 w0 (hs p) ρ w
  size : a.tmps.size = (fs 0).size
  defers : a.defers = D
  den : ∀ d, (∀ q x, p ≤ q → ops[q]? = some x → cl q = 1 → L q = true → x.dst ≠ some d) → (Lk ops (fs 0) rr L d ops.size).den ρ (hs p).next (a.tmps.getD d undef)
  early : ∀ q, p ≤ q → q < ops.size → cl q = 1 → L q = true → ∃ x T i v, Early P ops L a w w0.heap.size (hs p) ρ q (β q) x T i v
  apart : ∀ q q', p ≤ q → p ≤ q' → q < ops.size → q' < ops.size → cl q = 1 → cl q' = 1 → L q = true → L q' = true → q ≠ q' → β q ≠ β q'

theorem alloc_kind {x : Oper} {T : TypeId} (ho : x.op = .alloc T) (hk : kindA P x = 2) : x.guard = none := by
  obtain ⟨dst, op, ty, pos, after, guard⟩ := x
  simp only at ho; subst ho
  cases guard with
  | none => rfl
  | some g => simp [kindA] at hk
theorem kind2 {x : Oper} (hk : kindA P x = 2) : ∃ T, x.op = .alloc T := by
  obtain ⟨dst, op, ty, pos, after, guard⟩ := x
  cases op with
  | alloc T => exact ⟨T, rfl⟩
  | convert s d x => simp only [kindA] at hk; split at hk <;> simp at hk
  | call c =>
    obtain ⟨callee, args, ats⟩ := c
    cases callee with
    | builtin b => cases b <;> simp [kindA] at hk
    | _ => simp [kindA] at hk
  | _ => simp [kindA] at hk
/-- What the listed order says of an allocation in the chain. -/
theorem alloc_step (R : Reg P call ops t fs hs rr cl) {q : Nat} {x : Oper} {T : TypeId} (hx : ops[q]? = some x) (ho : x.op = .alloc T) (hk : kindA P x = 2) :
    ∃ z, zeroCells? P T = some z ∧ rr q = .one (.c (.ptr (hs q).next 0)) ∧ hs (q + 1) = (hs q).new ⟨z, T, true⟩ := by
  have hg := alloc_kind ho hk
  have hst := R.step q x hx
  have hw : wantedA ops.toList (fs q) x = some true := by unfold wantedA; rw [hg]
  rcases hst with ⟨h, _⟩ | ⟨_, h, _⟩ | ⟨_, h, _⟩ | ⟨_, _, _, h⟩
  · rw [hw] at h; simp at h
  · rw [hk] at h; simp at h
  · rw [hk] at h; simp at h
  · obtain ⟨dst, op, ty, pos, after, guard⟩ := x
    simp only at ho; subst ho
    have h1 : pureA P (fs q).ev ⟨dst, .alloc T, ty, pos, after, guard⟩ = none := rfl
    have h2 : readA P (hs q) (fs q).ev ⟨dst, .alloc T, ty, pos, after, guard⟩ = none := rfl
    simp only [opA, h1, h2, actA] at h
    cases hz : zeroCells? P T with
    | some z =>
      simp only [hz, Option.map_some, Option.some.injEq, Prod.mk.injEq, Out.ret.injEq] at h
      exact ⟨z, rfl, h.1.symm, h.2.symm⟩
    | none =>
      exfalso
      have h3 : calleeA P (fs q).ev ⟨dst, .alloc T, ty, pos, after, guard⟩ = none := rfl
      have h4 : panicA (fs q).ev ⟨dst, .alloc T, ty, pos, after, guard⟩ = none := rfl
      have h5 : scalC P (fs q).ev ⟨dst, .alloc T, ty, pos, after, guard⟩ = none := rfl
      simp [hz, h3, h4, h5] at h
end
end Go.Proofs.YtbifklibdkjbeaaGreatDoor
