/-
  A region that draws its order: the step. No condition.
-/
import Derived.Test.YtbifklibdkjbeaaGreatDoorEvAe
namespace Go.Proofs.YtbifklibdkjbeaaGreatDoor
open Go
set_option linter.unusedSimpArgs false
set_option linter.unusedVariables false

section
variable {P : Program} {call : CallF} {ops : Array Oper} {t : Tr Nat} {fs : Nat → Fr} {hs : Nat → AH} {rr : Nat → AR} {cl : Nat → Nat} {ρ0 : Rho} {w0 : World} {D : List Deferred}
theorem put_getD {a : Act} {k : Option Tmp} {v : Value} {n : Nat} (hn : a.tmps.size = n) (hk : ∀ j, k = some j → j < n) (d : Tmp) :
    (a.put k v).tmps.getD d undef = if k = some d then v else a.tmps.getD d undef := by
  cases k with
  | none => simp [Act.put]
  | some k =>
    have hlt : k < a.tmps.size := by rw [hn]; exact hk k rfl
    simp only [Act.put, Option.some.injEq, Array.getD_eq_getD_getElem?]
    by_cases h : k = d
    · rw [if_pos h, ← h, Array.getElem?_setIfInBounds_self_of_lt hlt]; rfl
    · rw [if_neg h, Array.getElem?_setIfInBounds_ne h]
theorem put_tsize (a : Act) (k : Option Tmp) (v : Value) : (a.put k v).tmps.size = a.tmps.size ∧ (a.put k v).defers = a.defers := by
  cases k <;> simp [Act.put]
def Settled (n : Nat) (cl : Nat → Nat) (L : Nat → Bool) (p : Nat) : Prop := p = n ∨ (p < n ∧ cl p = 1 ∧ L p = false)
/-- What was made early has nothing to do with what is not done yet. -/
theorem early_apart (R : Reg P call ops t fs hs rr cl) (hk1 : ∀ q x, ops[q]? = some x → cl q = 1 → kindA P x ≠ 0) {L : Nat → Bool} (hL : Closed ops.toList L) {p : Nat}
    (hp : Settled ops.size cl L p) {i : Nat} {o : Oper} (ho : ops[i]? = some o) (hi : L i = false) (he : ∀ e ∈ o.after.toList, Region.binds .any e = true → L e.on = true)
    {q : Nat} {x : Oper} (hq : p ≤ q) (hx : ops[q]? = some x) (h1 : cl q = 1) (h2 : L q = true) : Oper.apart ops x o = true := by
  have hqn : q < ops.size := (Array.getElem?_eq_some_iff.1 hx).1
  rcases hp with hp | ⟨hpn, hpc, hpL⟩
  · omega
  · have hne : q ≠ p := fun hh => by subst hh; rw [hpL] at h2; cases h2
    have hpx : ops[p]? = some ops[p] := Array.getElem?_eq_getElem hpn
    cases ha : ahead t q p with
    | true =>
      have := R.mask L hL q x p (tl hx) ha (fun e hem hb => hL q x (tl hx) h2 e hem hb)
      rw [hpL] at this; cases this
    | false =>
      obtain ⟨_, hor⟩ := R.pair p q _ _ hpx hx (by omega) ha
      rcases hor with h3 | h3 | ⟨_, h3⟩
      · exact absurd h3 (hk1 p _ hpx hpc)
      · exact absurd h3 (hk1 q _ hx h1)
      · rcases h3 i o ho with h4 | h4 | h4
        · subst h4; rw [hi] at h2; cases h2
        · exact h4
        · have := R.mask L hL i o p (tl ho) h4 he
          rw [hpL] at this; cases this
/-- A slot's value behind one more operation. -/
theorem more_den (R : Reg P call ops t fs hs rr cl) {L : Nat → Bool} (hL : Closed ops.toList L) {i : Nat} {o : Oper} (ho : ops[i]? = some o) (hi : L i = false) {a : Act} (hsz : a.tmps.size = (fs 0).size) {v : Value} (d : Tmp) :
    (o.dst = some d ∧ Lk ops (fs 0) rr (More L i) d ops.size = rr i ∧ (a.put o.dst v).tmps.getD d undef = v) ∨
    (o.dst ≠ some d ∧ Lk ops (fs 0) rr (More L i) d ops.size = Lk ops (fs 0) rr L d ops.size ∧ (a.put o.dst v).tmps.getD d undef = a.tmps.getD d undef) := by
  have hin : i < ops.size := (Array.getElem?_eq_some_iff.1 ho).1
  have hput := put_getD (v := v) hsz (k := o.dst) (fun j hj => by rw [← R.size i (by omega)]; exact (put_size (R.put i o ho)).2 j hj) d
  by_cases hd : o.dst = some d
  · refine .inl ⟨hd, lk_new (by rw [bind_dst ho]; exact hd) hin fun j hij hj hLj hdj => ?_, by rw [hput, if_pos hd]⟩
    have hy : ops[j]? = some ops[j] := Array.getElem?_eq_getElem hj
    rw [bind_dst hy] at hdj
    cases ha : ahead t j i with
    | true =>
      have := R.mask L hL j _ i (tl hy) ha (fun e hem hb => hL j _ (tl hy) hLj e hem hb)
      rw [hi] at this; cases this
    | false => exact (Oper.apart_spec (R.pair i j _ _ ho hy hij ha).1).2.1 d hd hdj
  · exact .inr ⟨hd, lk_other (by rw [bind_dst ho]; exact hd) _, by rw [hput, if_neg hd]⟩
theorem more_true {L : Nat → Bool} {i j : Nat} (h : More L i j = true) : j = i ∨ L j = true := by
  simpa [More] using h
theorem more_of {L : Nat → Bool} {i j : Nat} (h : L j = true) : More L i j = true := by simp [More, h]

theorem rel_free (R : Reg P call ops t fs hs rr cl) (hk1 : ∀ q x, ops[q]? = some x → cl q = 1 → kindA P x ≠ 0) {L : Nat → Bool} (hL : Closed ops.toList L) {a : Act} {w : World} {p : Nat} {ρ : Rho} {β : Nat → Nat}
    (h : Rel D P ops fs hs rr cl ρ0 w0 p L a w ρ β) (hp : Settled ops.size cl L p) {i : Nat} {o : Oper} (ho : ops[i]? = some o) (hi : L i = false) (he : ∀ e ∈ o.after.toList, Region.binds .any e = true → L e.on = true)
    (hc : cl i ≠ 1) {v : Value} (hv : (rr i).den ρ (hs p).next v) : Rel D P ops fs hs rr cl ρ0 w0 p (More L i) (a.put o.dst v) w ρ β where
  pn := h.pn
  done := fun c hc1 h1 => more_of (h.done c hc1 h1)
  hok := h.hok
  kp := h.kp
  size := (put_tsize a _ _).1.trans h.size
  defers := (put_tsize a _ _).2.trans h.defers
  den := fun d hd => by
    rcases more_den R hL ho hi h.size (v := v) d with ⟨_, e1, e2⟩ | ⟨_, e1, e2⟩
    · rw [e1, e2]; exact hv
    · rw [e1, e2]; exact h.den d fun q x hq hx h1 h2 => hd q x hq hx h1 (more_of h2)
  early := fun q hq hqn h1 h2 => by
    rcases more_true h2 with rfl | h2
    · exact absurd h1 hc
    · obtain ⟨x, T, inf, z, e⟩ := h.early q hq hqn h1 h2
      have hap := Oper.apart_spec (early_apart R hk1 hL hp ho hi he hq e.at_ h1 h2)
      refine ⟨x, T, inf, z, e.at_, e.op, e.kind, e.info, e.zero, e.heap, e.old, e.free, fun d hd => ?_, fun j hj hne d hd => ?_⟩
      · rcases more_den R hL ho hi h.size (v := v) d with ⟨e0, _, _⟩ | ⟨_, _, e2⟩
        · exact absurd e0 (hap.2.1 d hd)
        · rw [e2]; exact e.tmp d hd
      · rcases more_true hj with rfl | hj
        · rw [bind_dst ho]; exact hap.2.1 d hd
        · exact e.only j hj hne d hd
  apart := fun q q' a1 a2 a3 a4 a5 a6 a7 a8 => by
    rcases more_true a7 with rfl | a7
    · exact absurd a5 hc
    · rcases more_true a8 with rfl | a8
      · exact absurd a6 hc
      · exact h.apart q q' a1 a2 a3 a4 a5 a6 a7 a8
theorem rel_link (R : Reg P call ops t fs hs rr cl) (hk1 : ∀ q x, ops[q]? = some x → cl q = 1 → kindA P x ≠ 0) {L : Nat → Bool} (hL : Closed ops.toList L) {a : Act} {w : World} {p : Nat} {ρ : Rho} {β : Nat → Nat}
    (h : Rel D P ops fs hs rr cl ρ0 w0 p L a w ρ β) (hp : Settled ops.size cl L p) {o : Oper} (ho : ops[p]? = some o) (hi : L p = false) (he : ∀ e ∈ o.after.toList, Region.binds .any e = true → L e.on = true)
    {v : Value} {ρ' : Rho} {w' : World} (hv : (rr p).den ρ' (hs (p + 1)).next v) (hH : HOK ρ' (hs (p + 1)) w') (hK : Kp (hs p) ρ w (hs (p + 1)) ρ' w') :
    Rel D P ops fs hs rr cl ρ0 w0 (p + 1) (More L p) (a.put o.dst v) w' ρ' β where
  pn := (Array.getElem?_eq_some_iff.1 ho).1
  done := fun c hc1 h1 => by
    by_cases hcp : c = p
    · subst hcp; simp [More]
    · exact more_of (h.done c (by omega) h1)
  hok := hH
  kp := h.kp.trans hK
  size := (put_tsize a _ _).1.trans h.size
  defers := (put_tsize a _ _).2.trans h.defers
  den := fun d hd => by
    rcases more_den R hL ho hi h.size (v := v) d with ⟨_, e1, e2⟩ | ⟨_, e1, e2⟩
    · rw [e1, e2]; exact hv
    · rw [e1, e2]
      refine AR.den_mono hK.ext hK.next _ _ (h.den d fun q x hq hx h1 h2 => ?_)
      by_cases hqp : q = p
      · subst hqp; rw [hi] at h2; cases h2
      · exact hd q x (by omega) hx h1 (more_of h2)
  early := fun q hq hqn h1 h2 => by
    rcases more_true h2 with rfl | h2
    · omega
    · obtain ⟨x, T, inf, z, e⟩ := h.early q (by omega) hqn h1 h2
      have hap := Oper.apart_spec (early_apart R hk1 hL hp ho hi he (by omega) e.at_ h1 h2)
      have hlt : β q < w.heap.size := (Array.getElem?_eq_some_iff.1 e.heap).1
      refine ⟨x, T, inf, z, e.at_, e.op, e.kind, e.info, e.zero, (hK.frame _ hlt e.free).trans e.heap, e.old, fun id b hb hh => ?_, fun d hd => ?_, fun j hj hne d hd => ?_⟩
      · rcases hK.come id b hb with h3 | ⟨id0, b0, h3, h4⟩
        · omega
        · exact e.free id0 b0 h3 (h4.trans hh)
      · rcases more_den R hL ho hi h.size (v := v) d with ⟨e0, _, _⟩ | ⟨_, _, e2⟩
        · exact absurd e0 (hap.2.1 d hd)
        · rw [e2]; exact e.tmp d hd
      · rcases more_true hj with rfl | hj
        · rw [bind_dst ho]; exact hap.2.1 d hd
        · exact e.only j hj hne d hd
  apart := fun q q' a1 a2 a3 a4 a5 a6 a7 a8 => by
    rcases more_true a7 with rfl | a7
    · omega
    · rcases more_true a8 with rfl | a8
      · omega
      · exact h.apart q q' (by omega) (by omega) a3 a4 a5 a6 a7 a8
theorem alloc_heap (w : World) (o : Obj) : (∀ k, k < w.heap.size → (w.alloc o).heap[k]? = w.heap[k]?) ∧ (w.alloc o).heap[w.heap.size]? = some o ∧ (w.alloc o).heap.size = w.heap.size + 1 :=
  ⟨fun k hk => by show (w.heap.push _)[k]? = _; rw [Array.getElem?_push, if_neg (by omega)], by show (w.heap.push _)[_]? = _; simp, by show (w.heap.push _).size = _; simp⟩
theorem rel_early (R : Reg P call ops t fs hs rr cl) (hk1 : ∀ q x, ops[q]? = some x → cl q = 1 → kindA P x ≠ 0) {L : Nat → Bool} (hL : Closed ops.toList L) {a : Act} {w : World} {p : Nat} {ρ : Rho} {β : Nat → Nat}
    (h : Rel D P ops fs hs rr cl ρ0 w0 p L a w ρ β) (hp : Settled ops.size cl L p) {i : Nat} {o : Oper} (ho : ops[i]? = some o) (hi : L i = false) (he : ∀ e ∈ o.after.toList, Region.binds .any e = true → L e.on = true)
    (hc : cl i = 1) (hpi : p < i) (hk : kindA P o = 2) {T : TypeId} (hop : o.op = .alloc T) {inf : TypeInfo} {z : Value} (hinf : P.info? T = some inf) (hz : inf.zero = some z)
    (honly : ∀ j, L j = true → j ≠ i → ∀ d, o.dst = some d → (ops[j]?).bind (·.dst) ≠ some d) :
    Rel D P ops fs hs rr cl ρ0 w0 p (More L i) (a.put o.dst (.pointer (some ⟨w.heap.size, 0, none⟩))) (w.alloc (.cells z.cells T)) ρ (fun q => if q = i then w.heap.size else β q) := by
  obtain ⟨a1, a2, a3⟩ := alloc_heap w (.cells z.cells T)
  have hne : ∀ id b, (hs p).get id = some b → ρ.blk id < w.heap.size := fun id b hb => h.hok.lt_size hb
  refine ⟨h.pn, fun c hc1 h1 => more_of (h.done c hc1 h1), ⟨h.hok.lt, h.hok.inj, fun id b hb => ?_⟩, ?_, (put_tsize a _ _).1.trans h.size, (put_tsize a _ _).2.trans h.defers, fun d hd => ?_, fun q hq hqn h1 h2 => ?_, fun q q' b1 b2 b3 b4 b5 b6 b7 b8 b9 => ?_⟩
  · obtain ⟨cs, fz, hl⟩ := h.hok.row id b hb
    exact ⟨cs, fz, (a1 _ (hne id b hb)).trans hl.heap, hl.size, hl.thaw, hl.room, hl.whole, hl.den⟩
  · have k := h.kp
    exact ⟨k.ext, k.next, by have := k.size; omega, k.os, k.tape, k.output, fun j hj hn => (a1 j (by have := k.size; omega)).trans (k.frame j hj hn), k.come⟩
  · rcases more_den R hL ho hi h.size (v := .pointer (some ⟨w.heap.size, 0, none⟩)) d with ⟨e0, _, _⟩ | ⟨_, e1, e2⟩
    · exact absurd e0 (hd i o (by omega) ho hc (by simp [More]))
    · rw [e1, e2]; exact h.den d fun q x hq hx h1 h2 => hd q x hq hx h1 (more_of h2)
  · by_cases hqi : q = i
    · subst hqi
      refine ⟨o, T, inf, z, ho, hop, hk, hinf, hz, by rw [if_pos rfl]; exact a2, by rw [if_pos rfl]; exact h.kp.size, fun id b hb => by rw [if_pos rfl]; have := hne id b hb; omega, fun d hd => ?_, fun j hj hne' d hd => ?_⟩
      · rcases more_den R hL ho hi h.size (v := .pointer (some ⟨w.heap.size, 0, none⟩)) d with ⟨_, _, e2⟩ | ⟨e0, _, _⟩
        · rw [e2, if_pos rfl]
        · exact absurd hd e0
      · rcases more_true hj with hj | hj
        · exact absurd hj hne'
        · exact honly j hj hne' d hd
    · rcases more_true h2 with h2 | h2
      · exact absurd h2 hqi
      · obtain ⟨x, T', inf', z', e⟩ := h.early q hq hqn h1 h2
        have hap := Oper.apart_spec (early_apart R hk1 hL hp ho hi he hq e.at_ h1 h2)
        have hlt : β q < w.heap.size := (Array.getElem?_eq_some_iff.1 e.heap).1
        refine ⟨x, T', inf', z', e.at_, e.op, e.kind, e.info, e.zero, by rw [if_neg hqi]; exact (a1 _ hlt).trans e.heap, by rw [if_neg hqi]; exact e.old, by rw [if_neg hqi]; exact e.free, fun d hd => ?_, fun j hj hne' d hd => ?_⟩
        · rcases more_den R hL ho hi h.size (v := .pointer (some ⟨w.heap.size, 0, none⟩)) d with ⟨e0, _, _⟩ | ⟨_, _, e2⟩
          · exact absurd e0 (hap.2.1 d hd)
          · rw [e2, if_neg hqi]; exact e.tmp d hd
        · rcases more_true hj with rfl | hj
          · rw [bind_dst ho]; exact hap.2.1 d hd
          · exact e.only j hj hne' d hd
  · have lt : ∀ r, p ≤ r → r < ops.size → cl r = 1 → More L i r = true → r ≠ i → β r < w.heap.size := fun r r1 r2 r3 r4 r5 => by
      rcases more_true r4 with r4 | r4
      · exact absurd r4 r5
      · obtain ⟨x, T', inf', z', e⟩ := h.early r r1 r2 r3 r4
        exact (Array.getElem?_eq_some_iff.1 e.heap).1
    by_cases c1 : q = i <;> by_cases c2 : q' = i
    · omega
    · rw [if_pos c1, if_neg c2]; have := lt q' b2 b4 b6 b8 c2; omega
    · rw [if_neg c1, if_pos c2]; have := lt q b1 b3 b5 b7 c1; omega
    · rw [if_neg c1, if_neg c2]
      rcases more_true b7 with b7 | b7
      · exact absurd b7 c1
      · rcases more_true b8 with b8 | b8
        · exact absurd b8 c2
        · exact h.apart q q' b1 b2 b3 b4 b5 b6 b7 b8 b9
end
end Go.Proofs.YtbifklibdkjbeaaGreatDoor
