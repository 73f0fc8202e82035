/-
  Several texts in one: A region that draws its order: all orders. No condition. The reckoned run is a run of the model: regions, code, calls. No condition.
-/
import Derived.Test.YtbifklibdkjbeaaGreatDoorMg37
namespace Go.Proofs.YtbifklibdkjbeaaGreatDoor
open Go.RowKit
set_option linter.unusedVariables false
set_option linter.unusedSimpArgs false
set_option maxRecDepth 100000
section
open Go
section
variable {P : Program} {call : xa2} {ops : Array Oper} {t : Tr Nat} {fs : Nat → Fr} {hs : Nat → AH} {rr : Nat → AR} {cl : Nat → Nat} {ρ0 : Rho} {w0 : World} {D : List Deferred}
theorem xma (hn : noNG P) (hcall : xcp P call) (R : Reg P call ops t fs hs rr cl) (hk1 : ∀ q x, ops[q]? = some x → cl q = 1 → xbe P x ≠ 0) {L : Nat → Bool} (hL : xcI ops.toList L) {a : Act} {w : World} {p : Nat} {ρ : Rho} {β : Nat → Nat}
 (h : Rel D P ops fs hs rr cl ρ0 w0 p L a w ρ β) (hp : xcH ops.size cl L p) {i : Nat} {o : Oper} (ho : ops[i]? = some o) (hi : L i = false) (he : ∀ e ∈ o.after.toList, Region.binds .any e = true → L e.on = true)
 {Q : Exit → Act → World → Prop} {K : Act → World → Prop} (hK : ∀ a' w' p' ρ' β', Rel D P ops fs hs rr cl ρ0 w0 p' (More L i) a' w' ρ' β' → xcH ops.size cl (More L i) p' → K a' w') : wpOp P ops Q i K a w := by
 have hin : i < ops.size := (Array.getElem?_eq_some_iff.1 ho).1
 have hlook : ∀ d, d ∈ o.looksAt ops → ((fs i).get d).den ρ (hs p).next (a.tmps.getD d undef) := fun d hd => xlx R hk1 hL h hp ho hi he hd
 have hev : EvOK ρ (hs p).next (fs i).ev a.eval o.op.operands.toList := fun x hx => by
  cases x with
  | tmp d => exact hlook d (xlw hx)
  | const v =>
   show ((AR.of? v).getD .any).den ρ _ v
   cases hv : AR.of? v with
   | none => trivial
   | some x => exact AR.of_den ρ _ v x hv
  | global g => exact ⟨rfl, rfl⟩
  | func f => rfl
 have hwant : ∀ b, xa9 ops.toList (fs i) o = some b → Region.wanted o (yielded ops a.tmps) = b := fun b hb => xgv (fun g c d hg hd => hlook d (xhR hg hd)) hb
 have hK2 : ∀ a' w' p' ρ' β', Rel D P ops fs hs rr cl ρ0 w0 p' (More L i) a' w' ρ' β' → K a' w' := fun a' w' p' ρ' β' h' => by
  obtain ⟨p2, ρ2, h2, h3⟩ := xjf R hk1 (More L i) a' w' β' _ p' ρ' rfl h'
  exact hK a' w' p2 ρ2 β' h2 h3
 have hst := R.step i o ho
 -- what comes xbE in the chain of a link that is ready
 have hlink : cl i = 1 → i ≠ p → p < i ∧ xbe P o = 2 ∧ ∀ j, L j = true → j ≠ i → ∀ d, o.dst = some d → (ops[j]?).bind (·.dst) ≠ some d := fun hc hne => by
  have hpi : p < i := by
   rcases Nat.lt_trichotomy i p with h1 | h1 | h1
   · have := h.done i h1 hc; rw [hi] at this; cases this
   · exact absurd h1 hne
   exact h1
  rcases hp with hp | ⟨hpn, hpc, hpL⟩
  · omega
  have hpx : ops[p]? = some ops[p] := Array.getElem?_eq_getElem hpn
  cases ha : xbE t i p with
  | true =>
   have := R.mask L hL i o p (tl ho) ha he
   rw [hpL] at this; cases this
  | false =>
   obtain ⟨_, hor⟩ := R.pair p i _ _ hpx ho hpi ha
   rcases hor with h3 | h3 | ⟨h2, h3⟩
   · exact absurd h3 (hk1 p _ hpx hpc)
   · exact absurd h3 (hk1 i _ ho hc)
   refine ⟨hpi, h2, fun j hj hji d hd hdj => ?_⟩
   cases hy : ops[j]? with
   | none => rw [hy] at hdj; simp at hdj
   | some y =>
    rw [hy] at hdj
    rcases h3 j y hy with h4 | h4 | h4
    · exact hji h4
    · exact (Oper.apart_spec h4).2.1 d hd hdj
    have := R.mask L hL j y p (tl hy) h4 (fun e hem hb => hL j y (tl hy) hj e hem hb)
    rw [hpL] at this; cases this
 unfold wpOp
 rw [ho]
 simp only
 rcases hst with ⟨hw, hr, hh, hk⟩ | ⟨hw, hk, hc, hpu, hh⟩ | ⟨hw, hk, hc, hpu, hh⟩ | ⟨hw, hk, hc, hop⟩
 · rw [hwant _ hw]
   simp only [Bool.false_eq_true, if_false]
   have hu : (AR.tup []).den ρ (hs p).next undef := ⟨#[], rfl, trivial⟩
   rcases hk with ⟨_, hc⟩ | ⟨hk0, hc⟩
   · exact hK2 _ _ _ _ _ (xfY R hk1 hL h hp ho hi he (by omega) (by rw [hr]; exact hu))
   by_cases hip : i = p
   · subst hip
     refine hK2 _ _ _ _ _ (xit R hk1 hL h hp ho hi he (v := undef) (ρ' := ρ) (w' := w) ?_ (by rw [hh]; exact h.hok) (by rw [hh]; exact Kp.refl _ _ _))
     rw [hr, hh]; exact hu
   obtain ⟨_, h2, _⟩ := hlink hc hip
   obtain ⟨T, hT⟩ := kind2 h2
   have hg := xfN hT h2
   unfold xa9 at hw; rw [hg] at hw; simp at hw
 · rw [hwant _ hw]
   simp only [if_true]
   left
   obtain ⟨v, hv, hd⟩ := xev hpu hev w
   unfold Oper.wp
   rw [hv]
   exact hK2 _ _ _ _ _ (xfY R hk1 hL h hp ho hi he (by omega) hd)
 · rw [hwant _ hw]
   simp only [if_true]
   left
   have hrd : xbt P (hs p) (fs i).ev o = some (rr i) := by
    refine R.read i o ho hc p h.pn ?_ (fun hpn => ?_) (fun q hq h1 => ?_)
    · rcases hp with hp | hp
      · exact .inl hp
      exact .inr hp.2.1
    · rcases hp with hp | ⟨_, _, hpL⟩
      · omega
      cases ha : xbE t i p with
      | false => rfl
      | true =>
       have := R.mask L hL i o p (tl ho) ha he
       rw [hpL] at this; cases this
    cases ha : xbE t q i with
    | false => rfl
    | true =>
     have hqL := h.done q hq h1
     have hqn : q < ops.size := by have := h.pn; omega
     have hy : ops[q]? = some ops[q] := Array.getElem?_eq_getElem hqn
     have := R.mask L hL q _ i (tl hy) ha (fun e hem hb => hL q _ (tl hy) hqL e hem hb)
     rw [hi] at this; cases this
   obtain ⟨v, hv, hd⟩ := xet h.hok hrd hev
   unfold Oper.wp
   rw [hv]
   exact hK2 _ _ _ _ _ (xfY R hk1 hL h hp ho hi he (by omega) hd)
 rw [hwant _ hw]
 simp only [if_true]
 left
 by_cases hip : i = p
 · subst hip
   refine xbP hn hcall hop h.hok hev (fun r v w' ρ' hr hd hH hKp => ?_) (fun x v w' ρ' hr => by cases hr)
   cases hr
   exact hK2 _ _ _ _ _ (xit R hk1 hL h hp ho hi he hd hH hKp)
 obtain ⟨hpi, h2, honly⟩ := hlink hc hip
 obtain ⟨T, hT⟩ := kind2 h2
 obtain ⟨z, hz, _, _⟩ := xfM R ho hT h2
 obtain ⟨inf, v, hinf, hzz, _⟩ := xc hz ρ 0
 have hrun : (execOp a.eval o).run P w = .ok (.value (.pointer (some ⟨w.heap.size, 0, none⟩))) (w.alloc (.cells v.cells T)) := by
  obtain ⟨dst, op, ty, pos, after, guard⟩ := o
  simp only at hT; subst hT
  simp [execOp, Instr.alloc, zeroValue, typeInfo, hinf, hzz, newVar, newRow]
 unfold Oper.wp
 rw [hrun]
 exact hK2 _ _ _ _ _ (xkU R hk1 hL h hp ho hi he hc hpi h2 hT hinf hzz honly)
def Lf (listed : Array Bool) : Nat → Bool := fun i => listed.getD i false
theorem lf_set {listed : Array Bool} {i : Nat} (h : i < listed.size) : Lf (listed.setIfInBounds i true) = More (Lf listed) i := by
 funext j
 simp only [Lf, More, Array.getD_eq_getD_getElem?]
 by_cases hj : j = i
 · subst hj; rw [Array.getElem?_setIfInBounds_self_of_lt h]; simp
 rw [Array.getElem?_setIfInBounds_ne (Ne.symm hj)]; simp [hj]
theorem xdC {listed : Array Bool} (hl : listed.size = ops.size) {i : Nat} : i ∈ Region.ready .any ops listed ↔ ∃ o, ops[i]? = some o ∧ Lf listed i = false ∧ ∀ e ∈ o.after.toList, Region.binds .any e = true → Lf listed e.on = true := by
 unfold Region.ready
 simp only [List.mem_filter, List.mem_range, Bool.and_eq_true, Bool.not_eq_true']
 constructor
 · rintro ⟨hi, h1, h2⟩
   have hx : ops[i]? = some ops[i] := Array.getElem?_eq_getElem hi
   refine ⟨_, hx, ?_, fun e he hb => ?_⟩
   · simp only [Lf, Array.getD_eq_getD_getElem?] at h1 ⊢
     have : listed[i]? = some listed[i] := Array.getElem?_eq_getElem (by omega)
     rw [this] at h1 ⊢; exact h1
   rw [hx] at h2
   simp only [Option.map_some, Option.getD_some, Array.all_eq_true_iff_forall_mem, Bool.or_eq_true, Bool.not_eq_true'] at h2
   rcases h2 e (by simpa using he) with h3 | h3
   · rw [hb] at h3; cases h3
   exact h3
 rintro ⟨o, hx, h1, h2⟩
 have hi : i < ops.size := (Array.getElem?_eq_some_iff.1 hx).1
 refine ⟨hi, ?_, ?_⟩
 · simp only [Lf, Array.getD_eq_getD_getElem?] at h1 ⊢
   have : listed[i]? = some listed[i] := Array.getElem?_eq_getElem (by omega)
   rw [this] at h1 ⊢; exact h1
 rw [hx]
 simp only [Option.map_some, Option.getD_some, Array.all_eq_true_iff_forall_mem, Bool.or_eq_true, Bool.not_eq_true']
 intro e he
 cases hb : Region.binds .any e with
 | false => exact .inl rfl
 | true => exact .inr (h2 e (by simpa using he) hb)
theorem xh7 {L : Nat → Bool} (hL : xcI ops.toList L) {i : Nat} {o : Oper} (ho : ops[i]? = some o) (he : ∀ e ∈ o.after.toList, Region.binds .any e = true → L e.on = true) : xcI ops.toList (More L i) := by
 intro j x hx hj e hem hb
 rcases xaR hj with rfl | hj
 · have : ops[j]? = some x := by rw [← Array.getElem?_toList]; exact hx
   rw [ho] at this; cases this
   exact xcv (he e hem hb)
 exact xcv (hL j x hx hj e hem hb)
theorem xnW (R : Reg P call ops t fs hs rr cl) {listed : Array Bool} (hl : listed.size = ops.size) (h : Region.ready .any ops listed = []) : ∀ i, i < ops.size → Lf listed i = true := by
 intro i
 induction i using Nat.strongRecOn with
 | _ i ih =>
  intro hi
  cases hLi : Lf listed i with
  | true => rfl
  | false =>
   have hx : ops[i]? = some ops[i] := Array.getElem?_eq_getElem hi
   have : i ∈ Region.ready .any ops listed := (xdC hl).2 ⟨_, hx, hLi, fun e he hb => ih e.on (R.edge i _ hx e he hb) (by have := R.edge i _ hx e he hb; omega)⟩
   rw [h] at this; cases this
theorem xnE (hn : noNG P) (hcall : xcp P call) (R : Reg P call ops t fs hs rr cl) (hk1 : ∀ q x, ops[q]? = some x → cl q = 1 → xbe P x ≠ 0) {Q : Exit → Act → World → Prop}
 (hQ : ∀ a w ρ, FrOK D ρ (hs ops.size).next (fs ops.size) a → HOK ρ (hs ops.size) w → Kp (hs 0) ρ0 w0 (hs ops.size) ρ w → Q .normal a w) :
 ∀ (fuel : Nat) (listed : Array Bool) (a : Act) (w : World) (p : Nat) (ρ : Rho) (β : Nat → Nat), listed.size = ops.size → xcI ops.toList (Lf listed) → (List.range ops.size).countP (fun i => !Lf listed i) ≤ fuel →
  Rel D P ops fs hs rr cl ρ0 w0 p (Lf listed) a w ρ β → xcH ops.size cl (Lf listed) p → wpAny P .any ops Q fuel listed a w := by
 have fin : ∀ (listed : Array Bool) (a : Act) (w : World) (p : Nat) (ρ : Rho) (β : Nat → Nat), (∀ i, i < ops.size → Lf listed i = true) →
  Rel D P ops fs hs rr cl ρ0 w0 p (Lf listed) a w ρ β → xcH ops.size cl (Lf listed) p → Q .normal a w := by
  intro listed a w p ρ β hall h hp
  have hpn : p = ops.size := by
   rcases hp with hp | ⟨h1, _, h3⟩
   · exact hp
   rw [hall p h1] at h3; cases h3
  subst hpn
  refine hQ a w ρ ⟨by rw [h.size, R.size _ (Nat.le_refl _)], fun d => ?_, h.defers⟩ h.hok h.kp
  have := h.den d (fun q x hq hx => by have := (Array.getElem?_eq_some_iff.1 hx).1; omega)
  rw [R.lk d _ (Nat.le_refl _)]
  rw [xgW (i := ops.size) (fun j hj _ => ⟨fun _ => hj, fun _ => hall j hj⟩) (Nat.le_refl _)] at this
  exact this
 intro fuel
 induction fuel with
 | zero =>
  intro listed a w p ρ β hl _ hcnt h hp
  have hall : ∀ i, i < ops.size → Lf listed i = true := fun i hi => by
   have := List.countP_eq_zero.1 (Nat.le_zero.1 hcnt) i (by simpa using hi)
   simpa using this
  refine ⟨?_, fin listed a w p ρ β hall h hp⟩
  cases hr : Region.ready .any ops listed with
  | nil => rfl
  | cons i l =>
   have : i ∈ Region.ready .any ops listed := by rw [hr]; simp
   obtain ⟨o, hx, h1, _⟩ := (xdC hl).1 this
   rw [hall i (Array.getElem?_eq_some_iff.1 hx).1] at h1; cases h1
 | succ fuel ih =>
  intro listed a w p ρ β hl hL hcnt h hp
  refine ⟨fun hr => fin listed a w p ρ β (xnW R hl hr) h hp, fun i hi => ?_⟩
  obtain ⟨o, hx, h1, h2⟩ := (xdC hl).1 hi
  have hin : i < ops.size := (Array.getElem?_eq_some_iff.1 hx).1
  refine xma hn hcall R hk1 hL h hp hx h1 h2 fun a' w' p' ρ' β' h' hp' => ?_
  have hset := lf_set (listed := listed) (i := i) (by omega)
  refine ih _ a' w' p' ρ' β' (by simpa using hl) (by rw [hset]; exact xh7 hL hx h2) ?_ (by rw [hset]; exact h') (by rw [hset]; exact hp')
  rw [hset]
  have hcount : ∀ (l : List Nat), l.Nodup → i ∈ l → l.countP (fun j => !More (Lf listed) i j) + 1 = l.countP (fun j => !Lf listed j) := by
   intro l
   induction l with
   | nil => intro _ h; simp at h
   | cons k l ih2 =>
    intro hnd hm
    rw [List.nodup_cons] at hnd
    simp only [List.countP_cons]
    rcases List.mem_cons.1 hm with rfl | hm
    · have e1 : l.countP (fun j => !More (Lf listed) i j) = l.countP (fun j => !Lf listed j) := by
       refine List.countP_congr fun j hj => ?_
       have : j ≠ i := fun hh => by subst hh; exact hnd.1 hj
       simp [More, this]
      rw [e1]; simp [More, h1]
    have hne : k ≠ i := fun hh => by subst hh; exact hnd.1 hm
    have e1 : More (Lf listed) i k = Lf listed k := by simp [More, hne]
    rw [e1]
    have := ih2 hnd.2 hm
    omega
  have := hcount (List.range ops.size) List.nodup_range (by simpa using hin)
  omega
end
end
section
open Go
section
variable {P : Program} {call : xa2} {ρ : Rho} {H : AH} {w : World} {D : List Deferred}
theorem xkb (hn : noNG P) (hm : P.follows .mixedOrders = true) (hcall : xcp P call) {ops : Array Oper} {id : Nat} {fr : Fr} {a : Act} {r : Ex × Fr × AH} {Q : Exit → Act → World → Prop}
 (h : xnF P call ops.toList fr H = some r) (hF : FrOK D ρ H.next fr a) (hH : HOK ρ H w) (hQ : xmF D ρ H w r Q) : (Code.region id ops true).wp P Q a w := by
 unfold xnF at h
 simp only at h
 cases hd : xoe P ops.toList (xgU ops.toList 0 .nil) with
 | false => simp only [hd, cond_false, reduceCtorEq] at h
 | true =>
  simp only [hd, cond_true] at h
  split at h
  · rename_i rs fr' H' hp
    cases hc : xhh P (xgU ops.toList 0 .nil) (xel rs 0 H') ops.toList rs 0 with
    | false => simp only [hc, cond_false, reduceCtorEq] at h
    | true =>
     simp only [hc, cond_true, Option.some.injEq] at h
     subst h
     obtain ⟨fs, hs, rr, cl, ok⟩ := xl hp
     have hlen : ops.toList.length = ops.size := by simp
     have tl' : ∀ {i : Nat} {x : Oper}, ops[i]? = some x → ops.toList[i]? = some x := fun h => by rw [Array.getElem?_toList]; exact h
     have R : Reg P call ops (xgU ops.toList 0 .nil) fs hs rr cl := by
      refine ⟨xlu _, fun i x hx e he hb => ?_, fun i j x y hx hy hij ha => ?_, fun i x hx => ok.put i x (tl' hx), fun i x hx => ok.step i x (tl' hx), fun i x hx h2 p hpn hp1 hpa hqa => ?_⟩
      · have h1 := xdw hd i x (tl' hx)
        simp only [Bool.and_eq_true, Nat.zero_add] at h1
        have h2 := List.all_eq_true.1 h1.1 e he
        simp only [hb, Bool.not_true, Bool.false_or, Nat.blt_eq] at h2
        exact h2
      · have h1 := xdw hd i x (tl' hx)
        simp only [Bool.and_eq_true, Nat.zero_add] at h1
        have h2 := xdw h1.2 j y (tl' hy)
        simp only [Nat.zero_add] at h2
        have hb : Nat.blt i j = true := by rw [Nat.blt_eq]; exact hij
        rw [hb, ha] at h2
        simp only [Bool.not_true, Bool.false_or, Bool.and_eq_true, Bool.or_eq_true, Nat.beq_eq, Array.toArray_toList] at h2
        refine ⟨h2.1, ?_⟩
        rcases h2.2 with h3 | h3 | ⟨h3, h4⟩
        · exact .inl h3
        · exact .inr (.inl h3)
        refine .inr (.inr ⟨h3, fun k z hz => ?_⟩)
        have h5 := xdw h4 k z (tl' hz)
        simp only [Bool.or_eq_true, Nat.beq_eq, Nat.zero_add] at h5
        rcases h5 with h5 | h5 | h5
        · exact .inl h5
        · exact .inr (.inl h5)
        exact .inr (.inr h5)
      have hin : i < ops.size := (Array.getElem?_eq_some_iff.1 hx).1
      have hil : i < rs.length := by rw [ok.len]; omega
      have hrc : rs[i]? = some rs[i] := List.getElem?_eq_getElem hil
      obtain ⟨e1, e2, e3, e4⟩ := ok.rc i _ hrc
      have h1 := xhg hc i x _ (tl' hx) hrc (by rw [e2]; exact h2)
      rw [e1, e3, Nat.zero_add] at h1
      obtain ⟨c1, c2⟩ := xoh rs 0 h1 p (fun hpl => by rw [Nat.zero_add]; exact hpa (by rw [ok.len] at hpl; omega)) (fun q hq c hcq hc1 => by
       rw [Nat.zero_add]
       exact hqa q hq (by rw [← (ok.rc q c hcq).2.1]; exact hc1))
      rcases hp1 with rfl | hp1
      · have := c2 (by rw [ok.len]; omega)
        rw [← hlen, ok.hn]; exact this
      by_cases hpe : p = ops.size
      · subst hpe
        have := c2 (by rw [ok.len]; omega)
        rw [← hlen, ok.hn]; exact this
      have hpl : p < rs.length := by rw [ok.len]; omega
      have hrp : rs[p]? = some rs[p] := List.getElem?_eq_getElem hpl
      obtain ⟨_, f2, _, f4⟩ := ok.rc p _ hrp
      rw [← f4]; exact c1 _ hrp (by rw [f2]; exact hp1)
     have hk1 : ∀ (q : Nat) x, ops[q]? = some x → cl q = 1 → xbe P x ≠ 0 := fun q x hx h1 => by
      rcases ok.step q x (tl' hx) with ⟨_, _, _, h2 | h2⟩ | ⟨_, _, h2, _⟩ | ⟨_, _, h2, _⟩ | ⟨_, h2, _⟩
      · rw [h1] at h2; omega
      · exact h2.1
      · rw [h1] at h2; omega
      · rw [h1] at h2; omega
      exact h2
     have hF' : ∀ t, Lk ops (fs 0) rr (Lf (Array.replicate ops.size false)) t ops.size = fr.get t := by
      intro t
      have := xgW (ops := ops) (fr := fs 0) (rr := rr) (L := Lf (Array.replicate ops.size false)) (t := t) (i := 0) (m := ops.size) (fun j hj _ => by
       simp [Lf, Array.getD_eq_getD_getElem?, Array.getElem?_replicate]; split <;> rfl) (Nat.zero_le _)
      rw [this]; show (fs 0).get t = _; rw [ok.f0]
     have hL0 : ∀ i, Lf (Array.replicate ops.size false) i = false := fun i => by
      simp [Lf, Array.getD_eq_getD_getElem?, Array.getElem?_replicate]; split <;> rfl
     have hrel : Rel D P ops fs hs rr cl ρ w 0 (Lf (Array.replicate ops.size false)) a { w with drawn := w.drawn + 1 } ρ (fun _ => 0) := by
      refine ⟨Nat.zero_le _, fun c hc => by omega, by rw [ok.h0]; exact hH.drawn _, ⟨.refl _ _, Nat.le_refl _, Nat.le_refl _, rfl, rfl, rfl, fun _ _ _ => rfl, fun id b hb => .inr ⟨id, b, hb, rfl⟩⟩, by rw [hF.size, ok.f0], hF.defers, fun d _ => ?_, fun q _ _ _ h2 => ?_, fun q q' _ _ _ _ _ _ h2 => ?_⟩
      · rw [hF', ok.h0]; exact hF.den d
      · rw [hL0] at h2; cases h2
      rw [hL0] at h2; cases h2
     obtain ⟨p', ρ', h1, h2⟩ := xjf R hk1 _ _ _ _ _ 0 ρ rfl hrel
     refine wp_region_any hm ?_
     refine xnE hn hcall R hk1 (ρ0 := ρ) (w0 := w) (fun a w' ρ' f1 f2 f3 => ?_) ops.size _ a _ p' ρ' _ (by simp) (fun i x _ hLi => by rw [hL0] at hLi; cases hLi) ?_ h1 h2
     · rw [← hlen, ok.hn] at f1 f2 f3
       rw [ok.fn] at f1
       rw [ok.h0] at f3
       exact hQ .normal a w' ρ' rfl f1 f2 f3
     refine Nat.le_trans List.countP_le_length (by simp)
  simp at h
theorem xdN (hn : noNG P) (hm : P.follows .mixedOrders = true) (hcall : xcp P call) {Q : Exit → Act → World → Prop} : ∀ (n : Nat) (c : Code) (fr : Fr) (H : AH) (r : Ex × Fr × AH), xcz P call n c fr H = some r →
 ∀ (ρ : Rho) (w : World) (a : Act) (Q : Exit → Act → World → Prop), FrOK D ρ H.next fr a → HOK ρ H w → xmF D ρ H w r Q → c.wp P Q a w ∧ ∀ b, c = .loop b → Code.rounds P b Q n a w
 | 0, c, fr, H, r, h, _, _, _, _, _, _, _ => by simp [xke] at h
 | n + 1, c, fr, H, r, h, ρ, w, a, Q, hF, hH, hQ => by
  have IH := xdN hn hm hcall (Q := Q) n
  cases c with
  | skip =>
   simp only [xaS, Option.some.injEq] at h; subst h
   exact ⟨wp_skip (hQ _ _ _ _ rfl hF hH (Kp.refl _ _ _)), fun _ h => by cases h⟩
  | label l =>
   simp only [xaS, Option.some.injEq] at h; subst h
   exact ⟨wp_label (hQ _ _ _ _ rfl hF hH (Kp.refl _ _ _)), fun _ h => by cases h⟩
  | exit id =>
   simp only [xaS, Option.some.injEq] at h; subst h
   exact ⟨wp_exit (hQ _ _ _ _ rfl hF hH (Kp.refl _ _ _)), fun _ h => by cases h⟩
  | ret =>
   simp only [xaS, Option.some.injEq] at h; subst h
   exact ⟨wp_ret (hQ _ _ _ _ rfl hF hH (Kp.refl _ _ _)), fun _ h => by cases h⟩
  | seq x y =>
   refine ⟨?_, fun _ h => by cases h⟩
   simp only [xaS] at h
   split at h
   · rename_i fr1 H1 hx
     refine wp_seq (IH x fr H _ hx ρ w a _ hF hH ?_).1
     intro e a1 w1 ρ1 he hF1 hH1 hK1
     have he' : e = .normal := he
     subst he'
     exact (IH y fr1 H1 r h ρ1 w1 a1 Q hF1 hH1 fun e a2 w2 ρ2 g1 g2 g3 g4 => hQ e a2 w2 ρ2 g1 g2 g3 (hK1.trans g4)).1
   rename_i hne
   refine wp_seq (IH x fr H _ h ρ w a _ hF hH ?_).1
   intro e a1 w1 ρ1 he hF1 hH1 hK1
   have := hQ e a1 w1 ρ1 he hF1 hH1 hK1
   obtain ⟨ex, fr1, H1⟩ := r
   cases ex with
   | normal => exact absurd h (hne _ _)
   | exit id => have he : e = .exit id := he; subst he; exact this
   | ret => have he : e = .ret := he; subst he; exact this
   | pan v => obtain ⟨u, rfl, _⟩ := he; exact this
  | cond x y z =>
   refine ⟨?_, fun _ h => by cases h⟩
   simp only [xaS] at h
   split at h
   · rename_i t hx
     have hv := hF.ev x
     rw [hx] at hv
     refine wp_cond (xee hv) ?_
     cases t with
     | true => exact (IH y fr H r h ρ w a Q hF hH hQ).1
     | false => exact (IH z fr H r h ρ w a Q hF hH hQ).1
   simp at h
  | block id b =>
   refine ⟨?_, fun _ h => by cases h⟩
   simp only [xaS] at h
   split at h
   · rename_i k fr1 H1 hb
     refine wp_block (IH b fr H _ hb ρ w a _ hF hH ?_).1
     intro e a1 w1 ρ1 he hF1 hH1 hK1
     have he : e = .exit k := he
     subst he
     show if k = id then _ else _
     cases hk : Nat.beq k id with
     | true =>
      simp only [hk, cond_true, Option.some.injEq] at h; subst h
      rw [if_pos (Nat.eq_of_beq_eq_true hk)]
      exact hQ _ _ _ _ rfl hF1 hH1 hK1
     | false =>
      simp only [hk, cond_false, Option.some.injEq] at h; subst h
      rw [if_neg (fun hh => by rw [hh, Nat.beq_refl] at hk; cases hk)]
      exact hQ _ _ _ _ rfl hF1 hH1 hK1
   rename_i hne
   refine wp_block (IH b fr H _ h ρ w a _ hF hH ?_).1
   intro e a1 w1 ρ1 he hF1 hH1 hK1
   have := hQ e a1 w1 ρ1 he hF1 hH1 hK1
   obtain ⟨ex, fr1, H1⟩ := r
   cases ex with
   | normal => have he : e = .normal := he; subst he; exact this
   | exit id => exact absurd h (hne _ _ _)
   | ret => have he : e = .ret := he; subst he; exact this
   | pan v => obtain ⟨u, rfl, _⟩ := he; exact this
  | loop b =>
   have key : Code.rounds P b Q (n + 1) a w := by
    rw [rounds_succ]
    simp only [xaS] at h
    split at h
    · rename_i fr1 H1 hb
      refine (IH b fr H _ hb ρ w a _ hF hH ?_).1
      intro e a1 w1 ρ1 he hF1 hH1 hK1
      have he : e = .normal := he
      subst he
      exact (IH (.loop b) fr1 H1 r h ρ1 w1 a1 Q hF1 hH1 fun e a2 w2 ρ2 g1 g2 g3 g4 => hQ e a2 w2 ρ2 g1 g2 g3 (hK1.trans g4)).2 b rfl
    rename_i hne
    refine (IH b fr H _ h ρ w a _ hF hH ?_).1
    intro e a1 w1 ρ1 he hF1 hH1 hK1
    have := hQ e a1 w1 ρ1 he hF1 hH1 hK1
    obtain ⟨ex, fr1, H1⟩ := r
    cases ex with
    | normal => exact absurd h (hne _ _)
    | exit id => have he : e = .exit id := he; subst he; exact this
    | ret => have he : e = .ret := he; subst he; exact this
    | pan v => obtain ⟨u, rfl, _⟩ := he; exact this
   exact ⟨wp_loop_rounds (n + 1) key, fun b' hb' => by cases hb'; exact key⟩
  | region id ops draw =>
   refine ⟨?_, fun _ h => by cases h⟩
   cases draw with
   | false =>
    obtain ⟨e1, fr1, H1, hl, rfl⟩ := xdZ h
    exact wp_region_list (xc0 hn hcall ops.toList hl hF hH fun x a1 w1 ρ1 g1 g2 g3 g4 => hQ x a1 w1 ρ1 g1 g2.flush g3 g4)
   | true =>
    obtain ⟨e1, fr1, H1, hl, rfl⟩ := xdZ h
    exact xkb hn hm hcall hl hF hH fun x a1 w1 ρ1 g1 g2 g3 g4 => hQ x a1 w1 ρ1 g1 g2.flush g3 g4
  | rangeFunc f ps az b => simp [xaS] at h
  | scope b => simp [xaS] at h
  | goto l => simp [xaS] at h
  | refuse s => simp [xaS] at h
end
end
end Go.Proofs.YtbifklibdkjbeaaGreatDoor
