/-
  A region that draws its order: all orders. No condition.
-/
import Derived.Test.YtapmdhejgnplaaaGreatMg6
import Derived.Test.YtapmdhejgnplaaaGreatMg1
import Derived.Defers
import Derived.Recover
import Derived.Test.YtapmdhejgnplaaaGreatChecked
import Derived.KernelRfl
import Derived.Test.YtapmdhejgnplaaaGreatProg
import Derived.IntWalk
import Derived.BigQuiet
import Derived.Deep.QuietTactic
import Derived.Handy
import Derived.BigCall
import Derived.BigGuard
namespace Go.Proofs.YtapmdhejgnplaaaGreat
open Go.RowKit Go.Proofs.Tryz
set_option linter.unusedVariables false
set_option linter.unusedSimpArgs false
set_option maxRecDepth 100000
set_option maxHeartbeats 16000000
section
open Go
section
variable {P : Program} {call : xa0} {ops : Array Oper} {t : Tr Nat} {fs : Nat -> Fr} {hs : Nat -> AH} {rr : Nat -> AR} {cl : Nat -> Nat} {ρ0 : Rho} {w0 : World} {D : List Deferred}
theorem xl2 (hn : noNG P) (hcall : xcq P call) (R : Reg P call ops t fs hs rr cl) (hk1 : ∀ q x, ops[q]? = some x -> cl q = 1 -> xba P x ≠ 0) {L : Nat -> Bool} (hL : xcK ops.toList L) {a : Act} {w : World} {p : Nat} {ρ : Rho} {β : Nat -> Nat}
 (h : Rel D P ops fs hs rr cl ρ0 w0 p L a w ρ β) (hp : xcJ ops.size cl L p) {i : Nat} {o : Oper} (ho : ops[i]? = some o) (hi : L i = false) (he : ∀ e ∈ o.after.toList, Region.binds .any e = true -> L e.on = true)
 {Q : Exit -> Act -> World -> Prop} {K : Act -> World -> Prop} (hK : ∀ a' w' p' ρ' β', Rel D P ops fs hs rr cl ρ0 w0 p' (More L i) a' w' ρ' β' -> xcJ ops.size cl (More L i) p' -> K a' w') : wpOp P ops Q i K a w := by
 have hin : i < ops.size := (Array.getElem?_eq_some_iff.1 ho).1
 have hlook : ∀ d, d ∈ o.looksAt ops -> ((fs i).get d).den ρ (hs p).next (a.tmps.getD d undef) := fun d hd => xlM R hk1 hL h hp ho hi he hd
 have hev : EvOK ρ (hs p).next (fs i).ev a.eval o.op.operands.toList := fun x hx => by
  cases x with
  | tmp d => exact hlook d (xlL hx)
  | const v =>
   show ((AR.of? v).getD .any).den ρ _ v
   cases hv : AR.of? v with
   | none => trivial
   | some x => exact AR.of_den ρ _ v x hv
  | global g => exact ⟨rfl, rfl⟩
  | func f => rfl
 have hwant : ∀ b, xa6 ops.toList (fs i) o = some b -> Region.wanted o (yielded ops a.tmps) = b := fun b hb => xgr (fun g c d hg hd => hlook d (xhV hg hd)) hb
 have hK2 : ∀ a' w' p' ρ' β', Rel D P ops fs hs rr cl ρ0 w0 p' (More L i) a' w' ρ' β' -> K a' w' := fun a' w' p' ρ' β' h' => by
  obtain ⟨p2, ρ2, h2, h3⟩ := xjh R hk1 (More L i) a' w' β' _ p' ρ' rfl h'
  exact hK a' w' p2 ρ2 β' h2 h3
 have hst := R.step i o ho
 -- what comes xbD in the chain of a link that is ready
 have hlink : cl i = 1 -> i ≠ p -> p < i /\ xba P o = 2 /\ ∀ j, L j = true -> j ≠ i -> ∀ d, o.dst = some d -> (ops[j]?).bind (·.dst) ≠ some d := fun hc hne => by
  have hpi : p < i := by
   rcases Nat.lt_trichotomy i p with h1 | h1 | h1
   · have := h.done i h1 hc; rw [hi] at this; cases this
   · exact absurd h1 hne
   exact h1
  rcases hp with hp | ⟨hpn, hpc, hpL⟩
  · omega
  have hpx : ops[p]? = some ops[p] := Array.getElem?_eq_getElem hpn
  cases ha : xbD t i p with
  | true =>
   have := R.mask L hL i o p (tl ho) ha he
   rw [hpL] at this; cases this
  | false =>
   obtain ⟨_, hor⟩ := R.pair p i _ _ hpx ho hpi ha
   rcases hor with h3 | h3 | ⟨h2, h3⟩
   · exact absurd h3 (hk1 p _ hpx hpc)
   · exact absurd h3 (hk1 i _ ho hc)
   refine ⟨hpi, h2, fun j hj hji d hd hdj => ?_⟩
   cases hy : ops[j]? with
   | none => rw [hy] at hdj; simp at hdj
   | some y =>
    rw [hy] at hdj
    rcases h3 j y hy with h4 | h4 | h4
    · exact hji h4
    · exact (Oper.apart_spec h4).2.1 d hd hdj
    have := R.mask L hL j y p (tl hy) h4 (fun e hem hb => hL j y (tl hy) hj e hem hb)
    rw [hpL] at this; cases this
 unfold wpOp
 rw [ho]
 simp only
 rcases hst with ⟨hw, hr, hh, hk⟩ | ⟨hw, hk, hc, hpu, hh⟩ | ⟨hw, hk, hc, hpu, hh⟩ | ⟨hw, hk, hc, hop⟩
 · rw [hwant _ hw]
   simp only [Bool.false_eq_true, if_false]
   have hu : (AR.tup []).den ρ (hs p).next undef := ⟨#[], rfl, trivial⟩
   rcases hk with ⟨_, hc⟩ | ⟨hk0, hc⟩
   · exact hK2 _ _ _ _ _ (xfX R hk1 hL h hp ho hi he (by omega) (by rw [hr]; exact hu))
   by_cases hip : i = p
   · subst hip
     refine hK2 _ _ _ _ _ (xiy R hk1 hL h hp ho hi he (v := undef) (ρ' := ρ) (w' := w) ?_ (by rw [hh]; exact h.hok) (by rw [hh]; exact Kp.refl _ _ _))
     rw [hr, hh]; exact hu
   obtain ⟨_, h2, _⟩ := hlink hc hip
   obtain ⟨T, hT⟩ := kind2 h2
   have hg := xfL hT h2
   unfold xa6 at hw; rw [hg] at hw; simp at hw
 · rw [hwant _ hw]
   simp only [if_true]
   left
   obtain ⟨v, hv, hd⟩ := xeA hpu hev w
   unfold Oper.wp
   rw [hv]
   exact hK2 _ _ _ _ _ (xfX R hk1 hL h hp ho hi he (by omega) hd)
 · rw [hwant _ hw]
   simp only [if_true]
   left
   have hrd : xbr P (hs p) (fs i).ev o = some (rr i) := by
    refine R.read i o ho hc p h.pn ?_ (fun hpn => ?_) (fun q hq h1 => ?_)
    · rcases hp with hp | hp
      · exact .inl hp
      exact .inr hp.2.1
    · rcases hp with hp | ⟨_, _, hpL⟩
      · omega
      cases ha : xbD t i p with
      | false => rfl
      | true =>
       have := R.mask L hL i o p (tl ho) ha he
       rw [hpL] at this; cases this
    cases ha : xbD t q i with
    | false => rfl
    | true =>
     have hqL := h.done q hq h1
     have hqn : q < ops.size := by have := h.pn; omega
     have hy : ops[q]? = some ops[q] := Array.getElem?_eq_getElem hqn
     have := R.mask L hL q _ i (tl hy) ha (fun e hem hb => hL q _ (tl hy) hqL e hem hb)
     rw [hi] at this; cases this
   obtain ⟨v, hv, hd⟩ := xex h.hok hrd hev
   unfold Oper.wp
   rw [hv]
   exact hK2 _ _ _ _ _ (xfX R hk1 hL h hp ho hi he (by omega) hd)
 rw [hwant _ hw]
 simp only [if_true]
 left
 by_cases hip : i = p
 · subst hip
   refine xbO hn hcall hop h.hok hev (fun r v w' ρ' hr hd hH hKp => ?_) (fun x v w' ρ' hr => by cases hr)
   cases hr
   exact hK2 _ _ _ _ _ (xiy R hk1 hL h hp ho hi he hd hH hKp)
 obtain ⟨hpi, h2, honly⟩ := hlink hc hip
 obtain ⟨T, hT⟩ := kind2 h2
 obtain ⟨z, hz, _, _⟩ := xfK R ho hT h2
 obtain ⟨inf, v, hinf, hzz, _⟩ := xb9 hz ρ 0
 have hrun : (execOp a.eval o).run P w = .ok (.value (.pointer (some ⟨w.heap.size, 0, none⟩))) (w.alloc (.cells v.cells T)) := by
  obtain ⟨dst, op, ty, pos, after, guard⟩ := o
  simp only at hT; subst hT
  simp [execOp, Instr.alloc, zeroValue, typeInfo, hinf, hzz, newVar, newRow]
 unfold Oper.wp
 rw [hrun]
 exact hK2 _ _ _ _ _ (xk3 R hk1 hL h hp ho hi he hc hpi h2 hT hinf hzz honly)
def Lf (listed : Array Bool) : Nat -> Bool := fun i => listed.getD i false
theorem lf_set {listed : Array Bool} {i : Nat} (h : i < listed.size) : Lf (listed.setIfInBounds i true) = More (Lf listed) i := by
 funext j
 simp only [Lf, More, Array.getD_eq_getD_getElem?]
 by_cases hj : j = i
 · subst hj; rw [Array.getElem?_setIfInBounds_self_of_lt h]; simp
 rw [Array.getElem?_setIfInBounds_ne (Ne.symm hj)]; simp [hj]
theorem xdI {listed : Array Bool} (hl : listed.size = ops.size) {i : Nat} : i ∈ Region.ready .any ops listed ↔ ∃ o, ops[i]? = some o /\ Lf listed i = false /\ ∀ e ∈ o.after.toList, Region.binds .any e = true -> Lf listed e.on = true := by
 unfold Region.ready
 simp only [List.mem_filter, List.mem_range, Bool.and_eq_true, Bool.not_eq_true']
 constructor
 · rintro ⟨hi, h1, h2⟩
   have hx : ops[i]? = some ops[i] := Array.getElem?_eq_getElem hi
   refine ⟨_, hx, ?_, fun e he hb => ?_⟩
   · simp only [Lf, Array.getD_eq_getD_getElem?] at h1 ⊢
     have : listed[i]? = some listed[i] := Array.getElem?_eq_getElem (by omega)
     rw [this] at h1 ⊢; exact h1
   rw [hx] at h2
   simp only [Option.map_some, Option.getD_some, Array.all_eq_true_iff_forall_mem, Bool.or_eq_true, Bool.not_eq_true'] at h2
   rcases h2 e (by simpa using he) with h3 | h3
   · rw [hb] at h3; cases h3
   exact h3
 rintro ⟨o, hx, h1, h2⟩
 have hi : i < ops.size := (Array.getElem?_eq_some_iff.1 hx).1
 refine ⟨hi, ?_, ?_⟩
 · simp only [Lf, Array.getD_eq_getD_getElem?] at h1 ⊢
   have : listed[i]? = some listed[i] := Array.getElem?_eq_getElem (by omega)
   rw [this] at h1 ⊢; exact h1
 rw [hx]
 simp only [Option.map_some, Option.getD_some, Array.all_eq_true_iff_forall_mem, Bool.or_eq_true, Bool.not_eq_true']
 intro e he
 cases hb : Region.binds .any e with
 | false => exact .inl rfl
 | true => exact .inr (h2 e (by simpa using he) hb)
theorem xia {L : Nat -> Bool} (hL : xcK ops.toList L) {i : Nat} {o : Oper} (ho : ops[i]? = some o) (he : ∀ e ∈ o.after.toList, Region.binds .any e = true -> L e.on = true) : xcK ops.toList (More L i) := by
 intro j x hx hj e hem hb
 rcases xaQ hj with rfl | hj
 · have : ops[j]? = some x := by rw [<- Array.getElem?_toList]; exact hx
   rw [ho] at this; cases this
   exact xcy (he e hem hb)
 exact xcy (hL j x hx hj e hem hb)
theorem xn8 (R : Reg P call ops t fs hs rr cl) {listed : Array Bool} (hl : listed.size = ops.size) (h : Region.ready .any ops listed = []) : ∀ i, i < ops.size -> Lf listed i = true := by
 intro i
 induction i using Nat.strongRecOn with
 | _ i ih =>
  intro hi
  cases hLi : Lf listed i with
  | true => rfl
  | false =>
   have hx : ops[i]? = some ops[i] := Array.getElem?_eq_getElem hi
   have : i ∈ Region.ready .any ops listed := (xdI hl).2 ⟨_, hx, hLi, fun e he hb => ih e.on (R.edge i _ hx e he hb) (by have := R.edge i _ hx e he hb; omega)⟩
   rw [h] at this; cases this
theorem xnO (hn : noNG P) (hcall : xcq P call) (R : Reg P call ops t fs hs rr cl) (hk1 : ∀ q x, ops[q]? = some x -> cl q = 1 -> xba P x ≠ 0) {Q : Exit -> Act -> World -> Prop}
 (hQ : ∀ a w ρ, FrOK D ρ (hs ops.size).next (fs ops.size) a -> HOK ρ (hs ops.size) w -> Kp (hs 0) ρ0 w0 (hs ops.size) ρ w -> Q .normal a w) :
 ∀ (fuel : Nat) (listed : Array Bool) (a : Act) (w : World) (p : Nat) (ρ : Rho) (β : Nat -> Nat), listed.size = ops.size -> xcK ops.toList (Lf listed) -> (List.range ops.size).countP (fun i => !Lf listed i) <= fuel ->
  Rel D P ops fs hs rr cl ρ0 w0 p (Lf listed) a w ρ β -> xcJ ops.size cl (Lf listed) p -> wpAny P .any ops Q fuel listed a w := by
 have fin : ∀ (listed : Array Bool) (a : Act) (w : World) (p : Nat) (ρ : Rho) (β : Nat -> Nat), (∀ i, i < ops.size -> Lf listed i = true) ->
  Rel D P ops fs hs rr cl ρ0 w0 p (Lf listed) a w ρ β -> xcJ ops.size cl (Lf listed) p -> Q .normal a w := by
  intro listed a w p ρ β hall h hp
  have hpn : p = ops.size := by
   rcases hp with hp | ⟨h1, _, h3⟩
   · exact hp
   rw [hall p h1] at h3; cases h3
  subst hpn
  refine hQ a w ρ ⟨by rw [h.size, R.size _ (Nat.le_refl _)], fun d => ?_, h.defers⟩ h.hok h.kp
  have := h.den d (fun q x hq hx => by have := (Array.getElem?_eq_some_iff.1 hx).1; omega)
  rw [R.lk d _ (Nat.le_refl _)]
  rw [xgV (i := ops.size) (fun j hj _ => ⟨fun _ => hj, fun _ => hall j hj⟩) (Nat.le_refl _)] at this
  exact this
 intro fuel
 induction fuel with
 | zero =>
  intro listed a w p ρ β hl _ hcnt h hp
  have hall : ∀ i, i < ops.size -> Lf listed i = true := fun i hi => by
   have := List.countP_eq_zero.1 (Nat.le_zero.1 hcnt) i (by simpa using hi)
   simpa using this
  refine ⟨?_, fin listed a w p ρ β hall h hp⟩
  cases hr : Region.ready .any ops listed with
  | nil => rfl
  | cons i l =>
   have : i ∈ Region.ready .any ops listed := by rw [hr]; simp
   obtain ⟨o, hx, h1, _⟩ := (xdI hl).1 this
   rw [hall i (Array.getElem?_eq_some_iff.1 hx).1] at h1; cases h1
 | succ fuel ih =>
  intro listed a w p ρ β hl hL hcnt h hp
  refine ⟨fun hr => fin listed a w p ρ β (xn8 R hl hr) h hp, fun i hi => ?_⟩
  obtain ⟨o, hx, h1, h2⟩ := (xdI hl).1 hi
  have hin : i < ops.size := (Array.getElem?_eq_some_iff.1 hx).1
  refine xl2 hn hcall R hk1 hL h hp hx h1 h2 fun a' w' p' ρ' β' h' hp' => ?_
  have hset := lf_set (listed := listed) (i := i) (by omega)
  refine ih _ a' w' p' ρ' β' (by simpa using hl) (by rw [hset]; exact xia hL hx h2) ?_ (by rw [hset]; exact h') (by rw [hset]; exact hp')
  rw [hset]
  have hcount : ∀ (l : List Nat), l.Nodup -> i ∈ l -> l.countP (fun j => !More (Lf listed) i j) + 1 = l.countP (fun j => !Lf listed j) := by
   intro l
   induction l with
   | nil => intro _ h; simp at h
   | cons k l ih2 =>
    intro hnd hm
    rw [List.nodup_cons] at hnd
    simp only [List.countP_cons]
    rcases List.mem_cons.1 hm with rfl | hm
    · have e1 : l.countP (fun j => !More (Lf listed) i j) = l.countP (fun j => !Lf listed j) := by
       refine List.countP_congr fun j hj => ?_
       have : j ≠ i := fun hh => by subst hh; exact hnd.1 hj
       simp [More, this]
      rw [e1]; simp [More, h1]
    have hne : k ≠ i := fun hh => by subst hh; exact hnd.1 hm
    have e1 : More (Lf listed) i k = Lf listed k := by simp [More, hne]
    rw [e1]
    have := ih2 hnd.2 hm
    omega
  have := hcount (List.range ops.size) List.nodup_range (by simpa using hin)
  omega
end
end
section
open Go
section
variable {P : Program} {call : xa0} {ρ : Rho} {H : AH} {w : World} {D : List Deferred}
theorem xkh (hn : noNG P) (hm : P.follows .mixedOrders = true) (hcall : xcq P call) {ops : Array Oper} {id : Nat} {fr : Fr} {a : Act} {r : Ex × Fr × AH} {Q : Exit -> Act -> World -> Prop}
 (h : xnP P call ops.toList fr H = some r) (hF : FrOK D ρ H.next fr a) (hH : HOK ρ H w) (hQ : xmz D ρ H w r Q) : (Code.region id ops true).wp P Q a w := by
 unfold xnP at h
 simp only at h
 cases hd : xov P ops.toList (xgT ops.toList 0 .nil) with
 | false => simp only [hd, cond_false, reduceCtorEq] at h
 | true =>
  simp only [hd, cond_true] at h
  split at h
  · rename_i rs fr' H' hp
    cases hc : xhj P (xgT ops.toList 0 .nil) (xep rs 0 H') ops.toList rs 0 with
    | false => simp only [hc, cond_false, reduceCtorEq] at h
    | true =>
     simp only [hc, cond_true, Option.some.injEq] at h
     subst h
     obtain ⟨fs, hs, rr, cl, ok⟩ := xli hp
     have hlen : ops.toList.length = ops.size := by simp
     have tl' : ∀ {i : Nat} {x : Oper}, ops[i]? = some x -> ops.toList[i]? = some x := fun h => by rw [Array.getElem?_toList]; exact h
     have R : Reg P call ops (xgT ops.toList 0 .nil) fs hs rr cl := by
      refine ⟨xlH _, fun i x hx e he hb => ?_, fun i j x y hx hy hij ha => ?_, fun i x hx => ok.put i x (tl' hx), fun i x hx => ok.step i x (tl' hx), fun i x hx h2 p hpn hp1 hpa hqa => ?_⟩
      · have h1 := xdB hd i x (tl' hx)
        simp only [Bool.and_eq_true, Nat.zero_add] at h1
        have h2 := List.all_eq_true.1 h1.1 e he
        simp only [hb, Bool.not_true, Bool.false_or, Nat.blt_eq] at h2
        exact h2
      · have h1 := xdB hd i x (tl' hx)
        simp only [Bool.and_eq_true, Nat.zero_add] at h1
        have h2 := xdB h1.2 j y (tl' hy)
        simp only [Nat.zero_add] at h2
        have hb : Nat.blt i j = true := by rw [Nat.blt_eq]; exact hij
        rw [hb, ha] at h2
        simp only [Bool.not_true, Bool.false_or, Bool.and_eq_true, Bool.or_eq_true, Nat.beq_eq, Array.toArray_toList] at h2
        refine ⟨h2.1, ?_⟩
        rcases h2.2 with h3 | h3 | ⟨h3, h4⟩
        · exact .inl h3
        · exact .inr (.inl h3)
        refine .inr (.inr ⟨h3, fun k z hz => ?_⟩)
        have h5 := xdB h4 k z (tl' hz)
        simp only [Bool.or_eq_true, Nat.beq_eq, Nat.zero_add] at h5
        rcases h5 with h5 | h5 | h5
        · exact .inl h5
        · exact .inr (.inl h5)
        exact .inr (.inr h5)
      have hin : i < ops.size := (Array.getElem?_eq_some_iff.1 hx).1
      have hil : i < rs.length := by rw [ok.len]; omega
      have hrc : rs[i]? = some rs[i] := List.getElem?_eq_getElem hil
      obtain ⟨e1, e2, e3, e4⟩ := ok.rc i _ hrc
      have h1 := xhi hc i x _ (tl' hx) hrc (by rw [e2]; exact h2)
      rw [e1, e3, Nat.zero_add] at h1
      obtain ⟨c1, c2⟩ := xoy rs 0 h1 p (fun hpl => by rw [Nat.zero_add]; exact hpa (by rw [ok.len] at hpl; omega)) (fun q hq c hcq hc1 => by
       rw [Nat.zero_add]
       exact hqa q hq (by rw [<- (ok.rc q c hcq).2.1]; exact hc1))
      rcases hp1 with rfl | hp1
      · have := c2 (by rw [ok.len]; omega)
        rw [<- hlen, ok.hn]; exact this
      by_cases hpe : p = ops.size
      · subst hpe
        have := c2 (by rw [ok.len]; omega)
        rw [<- hlen, ok.hn]; exact this
      have hpl : p < rs.length := by rw [ok.len]; omega
      have hrp : rs[p]? = some rs[p] := List.getElem?_eq_getElem hpl
      obtain ⟨_, f2, _, f4⟩ := ok.rc p _ hrp
      rw [<- f4]; exact c1 _ hrp (by rw [f2]; exact hp1)
     have hk1 : ∀ (q : Nat) x, ops[q]? = some x -> cl q = 1 -> xba P x ≠ 0 := fun q x hx h1 => by
      rcases ok.step q x (tl' hx) with ⟨_, _, _, h2 | h2⟩ | ⟨_, _, h2, _⟩ | ⟨_, _, h2, _⟩ | ⟨_, h2, _⟩
      · rw [h1] at h2; omega
      · exact h2.1
      · rw [h1] at h2; omega
      · rw [h1] at h2; omega
      exact h2
     have hF' : ∀ t, Lk ops (fs 0) rr (Lf (Array.replicate ops.size false)) t ops.size = fr.get t := by
      intro t
      have := xgV (ops := ops) (fr := fs 0) (rr := rr) (L := Lf (Array.replicate ops.size false)) (t := t) (i := 0) (m := ops.size) (fun j hj _ => by
       simp [Lf, Array.getD_eq_getD_getElem?, Array.getElem?_replicate]; split <;> rfl) (Nat.zero_le _)
      rw [this]; show (fs 0).get t = _; rw [ok.f0]
     have hL0 : ∀ i, Lf (Array.replicate ops.size false) i = false := fun i => by
      simp [Lf, Array.getD_eq_getD_getElem?, Array.getElem?_replicate]; split <;> rfl
     have hrel : Rel D P ops fs hs rr cl ρ w 0 (Lf (Array.replicate ops.size false)) a { w with drawn := w.drawn + 1 } ρ (fun _ => 0) := by
      refine ⟨Nat.zero_le _, fun c hc => by omega, by rw [ok.h0]; exact hH.drawn _, ⟨.refl _ _, Nat.le_refl _, Nat.le_refl _, rfl, rfl, rfl, fun _ _ _ => rfl, fun id b hb => .inr ⟨id, b, hb, rfl⟩⟩, by rw [hF.size, ok.f0], hF.defers, fun d _ => ?_, fun q _ _ _ h2 => ?_, fun q q' _ _ _ _ _ _ h2 => ?_⟩
      · rw [hF', ok.h0]; exact hF.den d
      · rw [hL0] at h2; cases h2
      rw [hL0] at h2; cases h2
     obtain ⟨p', ρ', h1, h2⟩ := xjh R hk1 _ _ _ _ _ 0 ρ rfl hrel
     refine wp_region_any hm ?_
     refine xnO hn hcall R hk1 (ρ0 := ρ) (w0 := w) (fun a w' ρ' f1 f2 f3 => ?_) ops.size _ a _ p' ρ' _ (by simp) (fun i x _ hLi => by rw [hL0] at hLi; cases hLi) ?_ h1 h2
     · rw [<- hlen, ok.hn] at f1 f2 f3
       rw [ok.fn] at f1
       rw [ok.h0] at f3
       exact hQ .normal a w' ρ' rfl f1 f2 f3
     refine Nat.le_trans List.countP_le_length (by simp)
  simp at h
theorem xdS (hn : noNG P) (hm : P.follows .mixedOrders = true) (hcall : xcq P call) {Q : Exit -> Act -> World -> Prop} : ∀ (n : Nat) (c : Code) (fr : Fr) (H : AH) (r : Ex × Fr × AH), xcB P call n c fr H = some r ->
 ∀ (ρ : Rho) (w : World) (a : Act) (Q : Exit -> Act -> World -> Prop), FrOK D ρ H.next fr a -> HOK ρ H w -> xmz D ρ H w r Q -> c.wp P Q a w /\ ∀ b, c = .loop b -> Code.rounds P b Q n a w
 | 0, c, fr, H, r, h, _, _, _, _, _, _, _ => by simp [xkk] at h
 | n + 1, c, fr, H, r, h, ρ, w, a, Q, hF, hH, hQ => by
  have IH := xdS hn hm hcall (Q := Q) n
  cases c with
  | skip =>
   simp only [xaR, Option.some.injEq] at h; subst h
   exact ⟨wp_skip (hQ _ _ _ _ rfl hF hH (Kp.refl _ _ _)), fun _ h => by cases h⟩
  | label l =>
   simp only [xaR, Option.some.injEq] at h; subst h
   exact ⟨wp_label (hQ _ _ _ _ rfl hF hH (Kp.refl _ _ _)), fun _ h => by cases h⟩
  | exit id =>
   simp only [xaR, Option.some.injEq] at h; subst h
   exact ⟨wp_exit (hQ _ _ _ _ rfl hF hH (Kp.refl _ _ _)), fun _ h => by cases h⟩
  | ret =>
   simp only [xaR, Option.some.injEq] at h; subst h
   exact ⟨wp_ret (hQ _ _ _ _ rfl hF hH (Kp.refl _ _ _)), fun _ h => by cases h⟩
  | seq x y =>
   refine ⟨?_, fun _ h => by cases h⟩
   simp only [xaR] at h
   split at h
   · rename_i fr1 H1 hx
     refine wp_seq (IH x fr H _ hx ρ w a _ hF hH ?_).1
     intro e a1 w1 ρ1 he hF1 hH1 hK1
     have he' : e = .normal := he
     subst he'
     exact (IH y fr1 H1 r h ρ1 w1 a1 Q hF1 hH1 fun e a2 w2 ρ2 g1 g2 g3 g4 => hQ e a2 w2 ρ2 g1 g2 g3 (hK1.trans g4)).1
   rename_i hne
   refine wp_seq (IH x fr H _ h ρ w a _ hF hH ?_).1
   intro e a1 w1 ρ1 he hF1 hH1 hK1
   have := hQ e a1 w1 ρ1 he hF1 hH1 hK1
   obtain ⟨ex, fr1, H1⟩ := r
   cases ex with
   | normal => exact absurd h (hne _ _)
   | exit id => have he : e = .exit id := he; subst he; exact this
   | ret => have he : e = .ret := he; subst he; exact this
   | pan v => obtain ⟨u, rfl, _⟩ := he; exact this
  | cond x y z =>
   refine ⟨?_, fun _ h => by cases h⟩
   simp only [xaR] at h
   split at h
   · rename_i t hx
     have hv := hF.ev x
     rw [hx] at hv
     refine wp_cond (xei hv) ?_
     cases t with
     | true => exact (IH y fr H r h ρ w a Q hF hH hQ).1
     | false => exact (IH z fr H r h ρ w a Q hF hH hQ).1
   simp at h
  | block id b =>
   refine ⟨?_, fun _ h => by cases h⟩
   simp only [xaR] at h
   split at h
   · rename_i k fr1 H1 hb
     refine wp_block (IH b fr H _ hb ρ w a _ hF hH ?_).1
     intro e a1 w1 ρ1 he hF1 hH1 hK1
     have he : e = .exit k := he
     subst he
     show if k = id then _ else _
     cases hk : Nat.beq k id with
     | true =>
      simp only [hk, cond_true, Option.some.injEq] at h; subst h
      rw [if_pos (Nat.eq_of_beq_eq_true hk)]
      exact hQ _ _ _ _ rfl hF1 hH1 hK1
     | false =>
      simp only [hk, cond_false, Option.some.injEq] at h; subst h
      rw [if_neg (fun hh => by rw [hh, Nat.beq_refl] at hk; cases hk)]
      exact hQ _ _ _ _ rfl hF1 hH1 hK1
   rename_i hne
   refine wp_block (IH b fr H _ h ρ w a _ hF hH ?_).1
   intro e a1 w1 ρ1 he hF1 hH1 hK1
   have := hQ e a1 w1 ρ1 he hF1 hH1 hK1
   obtain ⟨ex, fr1, H1⟩ := r
   cases ex with
   | normal => have he : e = .normal := he; subst he; exact this
   | exit id => exact absurd h (hne _ _ _)
   | ret => have he : e = .ret := he; subst he; exact this
   | pan v => obtain ⟨u, rfl, _⟩ := he; exact this
  | loop b =>
   have key : Code.rounds P b Q (n + 1) a w := by
    rw [rounds_succ]
    simp only [xaR] at h
    split at h
    · rename_i fr1 H1 hb
      refine (IH b fr H _ hb ρ w a _ hF hH ?_).1
      intro e a1 w1 ρ1 he hF1 hH1 hK1
      have he : e = .normal := he
      subst he
      exact (IH (.loop b) fr1 H1 r h ρ1 w1 a1 Q hF1 hH1 fun e a2 w2 ρ2 g1 g2 g3 g4 => hQ e a2 w2 ρ2 g1 g2 g3 (hK1.trans g4)).2 b rfl
    rename_i hne
    refine (IH b fr H _ h ρ w a _ hF hH ?_).1
    intro e a1 w1 ρ1 he hF1 hH1 hK1
    have := hQ e a1 w1 ρ1 he hF1 hH1 hK1
    obtain ⟨ex, fr1, H1⟩ := r
    cases ex with
    | normal => exact absurd h (hne _ _)
    | exit id => have he : e = .exit id := he; subst he; exact this
    | ret => have he : e = .ret := he; subst he; exact this
    | pan v => obtain ⟨u, rfl, _⟩ := he; exact this
   exact ⟨wp_loop_rounds (n + 1) key, fun b' hb' => by cases hb'; exact key⟩
  | region id ops draw =>
   refine ⟨?_, fun _ h => by cases h⟩
   cases draw with
   | false =>
    obtain ⟨e1, fr1, H1, hl, rfl⟩ := xd4 h
    exact wp_region_list (xc3 hn hcall ops.toList hl hF hH fun x a1 w1 ρ1 g1 g2 g3 g4 => hQ x a1 w1 ρ1 g1 g2.flush g3 g4)
   | true =>
    obtain ⟨e1, fr1, H1, hl, rfl⟩ := xd4 h
    exact xkh hn hm hcall hl hF hH fun x a1 w1 ρ1 g1 g2 g3 g4 => hQ x a1 w1 ρ1 g1 g2.flush g3 g4
  | rangeFunc f ps az b => simp [xaR] at h
  | scope b => simp [xaR] at h
  | goto l => simp [xaR] at h
  | refuse s => simp [xaR] at h
end
end
section
open Go
theorem xha : ∀ (l : List AV) (k : Nat) (t : Log) (j : Nat) (d : AR), (xcS l k t).find j d = if k <= j /\ j < k + l.length then ((l[j - k]?).map .one).getD .any else t.find j d
 | [], k, t, j, d => by simp [xcS]; intro h1 h2; omega
 | a :: l, k, t, j, d => by
  simp only [xcS]
  rw [xha l (k + 1) _ j, Log.find_cons]
  simp only [List.length_cons]
  by_cases h1 : k = j
  · subst h1
    rw [if_neg (by omega), if_pos rfl, if_pos (by omega)]; simp
  by_cases h2 : k + 1 <= j /\ j < k + 1 + l.length
  · rw [if_pos h2, if_pos (by omega)]
    have : j - k = (j - (k + 1)) + 1 := by omega
    rw [this]; simp
  rw [if_neg h2, if_neg (Ne.symm h1), if_neg (by omega)]
section
variable {P : Program} {call : xa0} {ρ : Rho} {H : AH} {w : World} {D : List Deferred}
theorem xgc {az : List AV} {vs : Array Value} (h : All2 (AV.den ρ H.next) az vs.toList) (n m : Nat) : FrOK [] ρ H.next (xi7 az n m) { tmps := vs ++ Array.replicate (n - vs.size) undef, defers := [] } := by
 have hlen := h.len
 simp only [Array.length_toList] at hlen
 have hmax : Nat.max az.length n = max az.length n := rfl
 refine ⟨by simp only [xi7, Array.size_append, Array.size_replicate]; omega, fun t => ?_, rfl⟩
 show ((xcS az 0 .nil).find t (lowC .nil m t)).den ρ H.next _
 have hlow : lowC .nil m t = .any := by
  show (bif xd9 m t then xfa none else .any) = AR.any
  cases xd9 m t <;> rfl
 rw [xha, hlow]
 simp only [Nat.zero_le, true_and, Nat.zero_add, Nat.sub_zero, Array.getD_eq_getD_getElem?]
 by_cases ht : t < az.length
 · rw [if_pos ht]
   have hx : az[t]? = some az[t] := List.getElem?_eq_getElem ht
   obtain ⟨y, hy, hd⟩ := h.get hx
   rw [hx, Array.getElem?_append_left (by omega)]
   rw [Array.getElem?_toList] at hy
   rw [hy]; exact hd
 rw [if_neg ht]
 trivial
def xfo (tmps : Array Value) : ResultVar -> Sem Value
 | .tmp t => pure (tmps.getD t undef)
 | .cell b t => do loadVar t (<- asAddr (tmps.getD b undef))
theorem xfn (fn : Func) (tmps : Array Value) : results fn tmps = (do let vs <- fn.results.mapM (xfo tmps); pure (if h : vs.size = 1 then vs[0] else .tuple vs)) := by
 unfold results
 congr 1
theorem xfW (hH : HOK ρ H w) {fr : Fr} {a : Act} (hF : FrOK D ρ H.next fr a) : ∀ {l : List ResultVar} {xs : List AV}, resA P fr H l = some xs ->
 ∃ vs, (l.mapM (xfo a.tmps)).run P w = .ok vs w /\ All2 (AV.den ρ H.next) xs vs
 | [], xs, h => by simp [resA] at h; subst h; exact ⟨[], rfl, trivial⟩
 | .tmp t :: l, xs, h => by
  simp only [resA] at h
  split at h
  · rename_i x r hx hr
    simp only [Option.some.injEq] at h; subst h
    obtain ⟨vs, hv, hd⟩ := xfW hH hF hr
    have := hF.den t
    rw [hx] at this
    exact ⟨_ :: vs, by rw [List.mapM_cons]; simp only [Sem.run_bind, xfo, Sem.run_pure, Result.andThen_ok, hv], this, hd⟩
  simp at h
 | .cell b t :: l, xs, h => by
  simp only [resA] at h
  split at h
  · rename_i id off r hx hr
    cases hb : H.get id with
    | none => simp [hb] at h
    | some blk =>
     simp only [hb, Option.bind_some, Option.map_eq_some_iff] at h
     obtain ⟨x, hp, rfl⟩ := h
     obtain ⟨vs, hv, hd⟩ := xfW hH hF hr
     have hbv := hF.den b
     rw [hx] at hbv
     obtain ⟨hlt, hbv⟩ := hbv
     -- the load is the one of an operation
     have hq := xog (P := P) (ev := fun _ => .one (.c (.ptr id off))) (e := fun _ => .pointer (some ⟨ρ.blk id, ρ.base id + off, none⟩)) (dst := none) (ty := 0) (pos := "") (after := #[]) (guard := none) (t := t) (a := .tmp 0) (r := .one x) hH
      (by simp [xbr, hb, hp]) ⟨hlt, rfl⟩
     obtain ⟨v, hrun, hdv⟩ := hq
     have hrun' : (loadVar t ⟨ρ.blk id, ρ.base id + off, none⟩).run P w = .ok v w := by
      simp only [execOp, Instr.loadAt, Instr.sureAddr, Sem.run_bind, Sem.run_pure, Result.andThen_ok] at hrun
      cases hl : (loadVar t ⟨ρ.blk id, ρ.base id + off, none⟩).run P w with
      | ok u w1 =>
       rw [hl] at hrun
       simp only [Result.andThen_ok, Result.ok.injEq, Next.value.injEq] at hrun
       rw [hrun.1, hrun.2]
      | halt q w1 => rw [hl] at hrun; simp at hrun
     have h1 : (xfo a.tmps (.cell b t)).run P w = .ok v w := by
      simp only [xfo, Sem.run_bind, hbv, asAddr, Sem.run_pure, Result.andThen_ok, hrun']
     exact ⟨v :: vs, by rw [List.mapM_cons]; simp only [Sem.run_bind, h1, Sem.run_pure, Result.andThen_ok, hv], hdv, hd⟩
  simp at h
theorem xgC (hH : HOK ρ H w) {fr : Fr} {a : Act} (hF : FrOK D ρ H.next fr a) {fn : Func} {r : AR} (h : xdH P fr H fn.results.toList = some r) :
 ∃ v, (results fn a.tmps).run P w = .ok v w /\ r.den ρ H.next v := by
 unfold xdH at h
 have fin : ∀ xs, resA P fr H fn.results.toList = some xs -> ∃ vs : Array Value, (fn.results.mapM (xfo a.tmps)).run P w = .ok vs w /\ All2 (AV.den ρ H.next) xs vs.toList := by
  intro xs hx
  obtain ⟨vs, hv, hd⟩ := xfW (P := P) hH hF hx
  refine ⟨vs.toArray, ?_, by simpa using hd⟩
  rw [Array.mapM_eq_mapM_toList]
  simp only [Sem.run_map, hv, Result.andThen_ok]
 have size1 : ∀ {x : AV} {vs : Array Value}, All2 (AV.den ρ H.next) [x] vs.toList -> ∃ y, vs = #[y] /\ x.den ρ H.next y := by
  intro x vs hd
  cases hl : vs.toList with
  | nil => rw [hl] at hd; exact hd.elim
  | cons y l => cases l with
   | nil => rw [hl] at hd; exact ⟨y, Array.toList_inj.1 (by simpa using hl), hd.1⟩
   | cons _ _ => rw [hl] at hd; exact hd.2.elim
 split at h
 · rename_i x hx
   simp only [Option.some.injEq] at h; subst h
   obtain ⟨vs, hv, hd⟩ := fin _ hx
   obtain ⟨y, rfl, hdy⟩ := size1 hd
   exact ⟨y, by simp only [xfn, Sem.run_bind, hv, Result.andThen_ok]; rfl, hdy⟩
 · rename_i l hne hx
   simp only [Option.some.injEq] at h; subst h
   obtain ⟨vs, hv, hd⟩ := fin _ hx
   have hs : ¬ vs.size = 1 := fun hh => by
    have := hd.len
    simp only [Array.length_toList] at this
    cases l with
    | nil => simp at this; omega
    | cons a l => cases l with
     | nil => exact hne a rfl
     | cons _ _ => simp at this; omega
   exact ⟨.tuple vs, by simp only [xfn, Sem.run_bind, hv, Result.andThen_ok, dif_neg hs]; rfl, vs, rfl, hd⟩
 simp at h
def DD (P : Program) (ρ : Rho) (n : Nat) (x : FuncId × List AV) (d : Deferred) : Prop :=
 ∃ cap, d.target = .fn (.func x.1) cap /\ xbQ P x.1 = true /\ All2 (AV.den ρ n) x.2 (d.args ++ cap).toList
theorem xe7 {α β : Type} {R R' : α -> β -> Prop} (h : ∀ a b, R a b -> R' a b) : ∀ {l : List α} {m : List β}, All2 R l m -> All2 R' l m
 | [], [], _ => trivial
 | [], _ :: _, hh => hh.elim
 | _ :: _, [], hh => hh.elim
 | _ :: _, _ :: _, hh => ⟨h _ _ hh.1, xe7 h hh.2⟩
theorem DD.mono {ρ ρ' : Rho} {n m : Nat} (hx : Ext ρ ρ' n) (hm : n <= m) {x : FuncId × List AV} {d : Deferred} (h : DD P ρ n x d) : DD P ρ' m x d := by
 obtain ⟨cap, h1, h2, h3⟩ := h
 exact ⟨cap, h1, h2, xe7 (fun a b hab => AV.den_mono hx hm _ _ hab) h3⟩
theorem xl4 {ev : Ev} {e : Operand -> Value} {o : Oper} {d : FuncId × List AV} (h : defA P ev o = some d) (he : EvOK ρ H.next ev e o.op.operands.toList) :
 ∃ v, (execOp e o).run P w = .ok (.defer v) w /\ DD P ρ H.next d v := by
 obtain ⟨dst, op, ty, pos, after, guard⟩ := o
 cases op with
 | defer c =>
  obtain ⟨callee, args, ats⟩ := c
  cases callee with
  | value g =>
   simp only [defA, xbi] at h
   split at h
   · rename_i x as' hg ha
     split at h
     · rename_i k fs cs hf
       cases hb : xbQ P k with
       | false => simp only [hb, cond_false, reduceCtorEq] at h
       | true =>
        simp only [hb, cond_true, Option.some.injEq] at h
        subst h
        have h1 := he g (by simp [Op.operands, Call.operands])
        rw [hg] at h1
        obtain ⟨fv, cv, hv, hdf, hdc⟩ := xfE hf h1
        have hda := xej ha (fun y hy => he y (by simp [Op.operands, Call.operands] at hy ⊢; exact .inr hy) : EvOK ρ H.next ev e args.toList)
        refine ⟨{ target := .fn (.func k) cv, args := fv ++ args.map e }, ?_, cv, rfl, hb, ?_⟩
        · simp [execOp, resolve, hv, Deferred.ofValue]
        have lift : ∀ {l : List AC} {m : List Value}, All2 (AC.den ρ H.next) l m -> All2 (AV.den ρ H.next) (l.map .c) m := by
         intro l m hh
         refine All2.of (by simpa using hh.len) fun i x y hx hy => ?_
         simp only [List.getElem?_map, Option.map_eq_some_iff] at hx
         obtain ⟨c, hc, rfl⟩ := hx
         obtain ⟨y', hy', hd⟩ := hh.get hc
         rw [hy] at hy'; cases hy'; exact hd
        simp only [Array.toList_append, Array.toList_map, List.append_assoc]
        exact (lift hdf).app (hda.app (lift hdc))
     simp at h
   simp at h
  | invoke r m => simp [defA] at h
  | builtin b => simp [defA] at h
 | _ => simp [defA] at h
def xoE (P : Program) (ρ : Rho) (H : AH) (w : World) (r : Ex × Fr × AH × DF) (Q : Exit -> Act -> World -> Prop) : Prop :=
 ∀ x a w' ρ' D', ExE ρ' r.2.2.1.next r.1 x -> FrOK D' ρ' r.2.2.1.next r.2.1 a -> HOK ρ' r.2.2.1 w' -> Kp H ρ w r.2.2.1 ρ' w' -> All2 (DD P ρ' r.2.2.1.next) r.2.2.2 D' -> Q x a w'
theorem xdz {ρ' : Rho} {n m : Nat} (hx : Ext ρ ρ' n) (hm : n <= m) {ds : DF} (h : All2 (DD P ρ n) ds D) : All2 (DD P ρ' m) ds D := xe7 (fun _ _ => DD.mono hx hm) h
theorem FrOK.defer {n : Nat} {fr : Fr} {a : Act} (h : FrOK D ρ n fr a) (d : Deferred) : FrOK (d :: D) ρ n fr { a with defers := d :: a.defers } := ⟨h.size, h.den, by rw [h.defers]⟩
theorem xcd (hn : noNG P) {call : xa0} (hcall : xcq P call) {ops : Array Oper} {Q : Exit -> Act -> World -> Prop} :
 ∀ (l : List Oper) {fr : Fr} {ρ : Rho} {H : AH} {w : World} {a : Act} {D : List Deferred} {ds : DF} {r : Ex × Fr × AH × DF}, xgY P call ops.toList l fr H ds = some r -> FrOK D ρ H.next fr a -> HOK ρ H w -> All2 (DD P ρ H.next) ds D -> xoE P ρ H w r Q -> wpList P ops Q l a w
 | [], fr, ρ, H, w, a, D, ds, r, h, hF, hH, hD, hQ => by
  simp only [xgY, Option.some.injEq] at h; subst h
  exact hQ .normal a w ρ D rfl hF hH (Kp.refl _ _ _) hD
 | o :: l, fr, ρ, H, w, a, D, ds, r, h, hF, hH, hD, hQ => by
  simp only [xgY, xiK] at h
  refine wpList_step fun K hK => ?_
  split at h
  · rename_i hw
    rw [if_pos (xbL hF hw)]
    split at h
    · rename_i r1 H1 ho
      split at h
      · rename_i fr1 hp
        refine xbO hn hcall ho hH (fun x _ => hF.ev x) (fun r2 v w' ρ' he hd hH' hK' => ?_) (fun x v w' ρ' he => by cases he)
        cases he
        refine hK _ _ (xcd hn hcall l h ((hF.mono hK'.ext hK'.next).put hp hd) hH' (xdz hK'.ext hK'.next hD) fun x a2 w2 ρ2 D2 h1 h2 h3 h4 => hQ x a2 w2 ρ2 D2 h1 h2 h3 (hK'.trans h4))
      simp at h
    · rename_i x1 H1 ho
      simp only [Option.some.injEq] at h; subst h
      refine xbO hn hcall ho hH (fun x _ => hF.ev x) (fun r2 v w' ρ' he => by cases he) (fun x v w' ρ' he hd hH' hK' => ?_)
      cases he
      exact hQ _ a w' ρ' D ⟨v, rfl, hd⟩ (hF.mono hK'.ext hK'.next) hH' hK' (xdz hK'.ext hK'.next hD)
    split at h
    · rename_i d hd
      split at h
      · rename_i fr1 hp
        obtain ⟨v, hv, hdd⟩ := xl4 (w := w) hd (fun x _ => hF.ev x : EvOK ρ H.next fr.ev a.eval o.op.operands.toList)
        unfold Oper.wp
        rw [hv]
        exact hK _ _ (xcd hn hcall l h ((hF.defer v).put hp ⟨#[], rfl, trivial⟩) hH ⟨hdd, hD⟩ hQ)
      simp at h
    simp at h
  · rename_i hw
    rw [if_neg (by rw [xbL hF hw]; simp)]
    split at h
    · rename_i fr1 hp
      exact hK _ _ (xcd hn hcall l h (hF.put hp ⟨#[], rfl, trivial⟩) hH hD hQ)
    simp at h
  simp at h
theorem xci (hn : noNG P) (hm : P.follows .mixedOrders = true) (hcall : xcq P call) : ∀ (n : Nat) (c : Code) (fr : Fr) (H : AH) (ds : DF) (r : Ex × Fr × AH × DF), xgh P call n c fr H ds = some r ->
 ∀ (ρ : Rho) (w : World) (a : Act) (D : List Deferred) (Q : Exit -> Act -> World -> Prop), FrOK D ρ H.next fr a -> HOK ρ H w -> All2 (DD P ρ H.next) ds D -> xoE P ρ H w r Q -> c.wp P Q a w
 | 0, c, fr, H, ds, r, h, _, _, _, _, _, _, _, _, _ => by simp [xkj] at h
 | n + 1, c, fr, H, ds, r, h, ρ, w, a, D, Q, hF, hH, hD, hQ => by
  have IH := xci hn hm hcall n
  have plain : ∀ {c : Code}, (match xcB P call n c fr H with | some (e, fr, H) => some (e, fr, H, ds) | none => none) = some r -> c.wp P Q a w := by
   intro c h
   split at h
   · rename_i e fr1 H1 hc
     simp only [Option.some.injEq] at h; subst h
     exact (xdS hn hm hcall (Q := Q) n c fr H _ hc ρ w a Q hF hH fun x a1 w1 ρ1 g1 g2 g3 g4 => hQ x a1 w1 ρ1 D g1 g2 g3 g4 (xdz g4.ext g4.next hD)).1
   simp at h
  cases c with
  | seq x y =>
   simp only [xdT] at h
   split at h
   · rename_i fr1 H1 ds1 hx
     refine wp_seq (IH x fr H ds _ hx ρ w a D _ hF hH hD ?_)
     intro e a1 w1 ρ1 D1 he hF1 hH1 hK1 hD1
     have he' : e = .normal := he
     subst he'
     exact IH y fr1 H1 ds1 r h ρ1 w1 a1 D1 Q hF1 hH1 hD1 fun e a2 w2 ρ2 D2 g1 g2 g3 g4 => hQ e a2 w2 ρ2 D2 g1 g2 g3 (hK1.trans g4)
   rename_i hne
   refine wp_seq (IH x fr H ds _ h ρ w a D _ hF hH hD ?_)
   intro e a1 w1 ρ1 D1 he hF1 hH1 hK1 hD1
   have := hQ e a1 w1 ρ1 D1 he hF1 hH1 hK1 hD1
   obtain ⟨ex, fr1, H1, ds1⟩ := r
   cases ex with
   | normal => exact absurd h (hne _ _ _)
   | exit id => have he : e = .exit id := he; subst he; exact this
   | ret => have he : e = .ret := he; subst he; exact this
   | pan v => obtain ⟨u, rfl, _⟩ := he; exact this
  | cond x y z =>
   simp only [xdT] at h
   split at h
   · rename_i t hx
     have hv := hF.ev x
     rw [hx] at hv
     refine wp_cond (xei hv) ?_
     cases t with
     | true => exact IH y fr H ds r h ρ w a D Q hF hH hD hQ
     | false => exact IH z fr H ds r h ρ w a D Q hF hH hD hQ
   simp at h
  | region id ops draw =>
   simp only [xdT] at h
   cases hb : draw || xnj ops.toList with
   | true => simp only [hb, cond_true] at h; exact plain h
   | false =>
    simp only [hb, cond_false] at h
    obtain rfl : draw = false := by cases draw; rfl; simp at hb
    obtain ⟨e1, fr1, H1, ds1, hl, rfl⟩ := xh3 h
    exact wp_region_list (xcd hn hcall ops.toList hl hF hH hD fun x a1 w1 ρ1 D1 g1 g2 g3 g4 g5 => hQ x a1 w1 ρ1 D1 g1 g2.flush g3 g4 g5)
  | skip => exact plain h
  | label l => exact plain h
  | exit id => exact plain h
  | ret => exact plain h
  | block id b => exact plain h
  | loop b => exact plain h
  | rangeFunc f ps az b => exact plain h
  | scope b => exact plain h
  | goto l => exact plain h
  | refuse s => exact plain h
def PMD (ρ : Rho) (n : Nat) : PM -> FrameMode -> Prop
 | .no, u => u = .returning
 | .live x, u => ∃ v, u = .panicking [{ v, recovered := false }] /\ x.den ρ n v
 | .done _, u => ∃ v, u = .panicking [{ v, recovered := true }]
theorem PMD.mono {ρ ρ' : Rho} {n m : Nat} (hx : Ext ρ ρ' n) (hm : n <= m) {pm : PM} {u : FrameMode} (h : PMD ρ n pm u) : PMD ρ' m pm u := by
 cases pm with
 | no => exact h
 | live x => obtain ⟨v, h1, h2⟩ := h; exact ⟨v, h1, AV.den_mono hx hm _ _ h2⟩
 | done x => exact h
theorem PMD.settled {n : Nat} {pm : PM} {u : FrameMode} (h : PMD ρ n pm u) : PMD ρ n pm.settle (settle u) := by
 cases pm with
 | no => subst h; rfl
 | live x => obtain ⟨v, rfl, h2⟩ := h; exact ⟨v, rfl, h2⟩
 | done x => obtain ⟨v, rfl⟩ := h; rfl
theorem PMD.run {n : Nat} {pm : PM} {u : FrameMode} (h : PMD ρ n pm u) : u ≠ .run := by
 cases pm with
 | no => subst h; intro h; cases h
 | live x => obtain ⟨v, rfl, _⟩ := h; intro h; cases h
 | done x => obtain ⟨v, rfl⟩ := h; intro h; cases h
def xoD (c₀ : Frame) (cs : List Frame) (ρ : Rho) (H : AH) (w : World) (r : Ex × Fr × AH × PM) (Q : Exit -> Act -> List Frame -> World -> Prop) : Prop :=
 ∀ x a w' ρ' u', ExE ρ' r.2.2.1.next r.1 x -> FrOK [] ρ' r.2.2.1.next r.2.1 a -> HOK ρ' r.2.2.1 w' -> Kp H ρ w r.2.2.1 ρ' w' -> PMD ρ' r.2.2.1.next r.2.2.2 u' -> Q x a ({ c₀ with mode := u' } :: cs) w'
theorem xjD {α : Type} {L : List α} {k : Nat} {x : α} {l : List α} (h : L.drop k = x :: l) : L[k]? = some x /\ L.drop (k + 1) = l := by
 have h1 : (L.drop k)[0]? = some x := by rw [h]; rfl
 rw [List.getElem?_drop] at h1
 refine ⟨by simpa using h1, ?_⟩
 have : L.drop (k + 1) = (L.drop k).drop 1 := by rw [List.drop_drop]
 rw [this, h]; rfl
theorem xdZ {ops : Array Oper} {Q : Exit -> Act -> List Frame -> World -> Prop} {k : Nat} {rest : List Nat} {a : Act} {cs : List Frame} {w : World} {o : Oper} (ho : ops[k]? = some o)
 (hw : Region.wanted o (yielded ops a.tmps) = true) (h : o.wp P a w (fun a' w' => wpOpsS P ops Q rest a' cs w') (fun e a' w' => Q e a' cs w')) : wpOpsS P ops Q (k :: rest) a cs w := by
 unfold Oper.wp at h
 simp only [wpOpsS, ho, hw, if_true]
 generalize (execOp a.eval o).run P w = r at h
 cases r with
 | ok x w' => cases x <;> first | exact h | exact h.elim
 | halt x w' => exact h
theorem xbu (hn : noNG P) {call : xa0} (hcall : xcq P call) {ops : Array Oper} {c₀ : Frame} {cs : List Frame} {Q : Exit -> Act -> List Frame -> World -> Prop} :
 ∀ (l : List Oper) (k : Nat) {fr : Fr} {ρ : Rho} {H : AH} {w : World} {a : Act} {u : FrameMode} {pm : PM} {r : Ex × Fr × AH × PM}, ops.toList.drop k = l -> xhW P call ops.toList l fr H pm = some r -> FrOK [] ρ H.next fr a -> HOK ρ H w -> PMD ρ H.next pm u ->
  xoD c₀ cs ρ H w r Q -> wpOpsS P ops Q (List.range' k l.length) a ({ c₀ with mode := u } :: cs) w
 | [], k, fr, ρ, H, w, a, u, pm, r, hl, h, hF, hH, hP, hQ => by
  simp only [xhW, Option.some.injEq] at h; subst h
  exact hQ .normal a w ρ u rfl hF hH (Kp.refl _ _ _) hP
 | o :: l, k, fr, ρ, H, w, a, u, pm, r, hl, h, hF, hH, hP, hQ => by
  obtain ⟨ho', hl'⟩ := xjD hl
  have ho : ops[k]? = some o := by rw [<- Array.getElem?_toList]; exact ho'
  simp only [xhW, xiK] at h
  show wpOpsS P ops Q (k :: List.range' (k + 1) l.length) a ({ c₀ with mode := u } :: cs) w
  split at h
  · rename_i hw
    have hwd := xbL hF hw
    split at h
    · rename_i r1 H1 hop
      split at h
      · rename_i fr1 hp
        refine xdZ ho hwd (xbO hn hcall hop hH (fun x _ => hF.ev x) (fun r2 v w' ρ' he hd hH' hK' => ?_) (fun x v w' ρ' he => by cases he))
        cases he
        exact xbu hn hcall l (k + 1) hl' h ((hF.mono hK'.ext hK'.next).put hp hd) hH' (hP.mono hK'.ext hK'.next) fun x a2 w2 ρ2 u2 h1 h2 h3 h4 => hQ x a2 w2 ρ2 u2 h1 h2 h3 (hK'.trans h4)
      simp at h
    · rename_i x1 H1 hop
      simp only [Option.some.injEq] at h; subst h
      refine xdZ ho hwd (xbO hn hcall hop hH (fun x _ => hF.ev x) (fun r2 v w' ρ' he => by cases he) (fun x v w' ρ' he hd hH' hK' => ?_))
      cases he
      exact hQ _ a w' ρ' u ⟨v, rfl, hd⟩ (hF.mono hK'.ext hK'.next) hH' hK' (hP.mono hK'.ext hK'.next)
    cases hr : xka o with
    | false => simp only [hr, cond_false, reduceCtorEq] at h
    | true =>
     simp only [hr, cond_true] at h
     split at h
     · rename_i fr1 hp
       have hrun : (execOp a.eval o).run P w = .ok .recover w := by
        obtain ⟨dst, op, ty, pos, after, guard⟩ := o
        cases op with
        | call c =>
         obtain ⟨callee, args, ats⟩ := c
         cases callee with
         | builtin b => cases b <;> first | (simp [xka] at hr; done) | (simp [execOp, resolve, invoke, builtin])
         | value g => simp [xka] at hr
         | invoke g m => simp [xka] at hr
        | _ => simp [xka] at hr
       simp only [wpOpsS, ho, hwd, if_true, hrun]
       cases pm with
       | no =>
        have hP' : u = .returning := hP
        subst hP'
        exact xbu hn hcall l (k + 1) hl' h (hF.put hp ⟨rfl, rfl⟩) hH hP hQ
       | live x =>
        obtain ⟨v, rfl, hd⟩ := hP
        exact xbu hn hcall l (k + 1) hl' h (hF.put hp hd) hH ⟨v, rfl⟩ hQ
       | done x =>
        obtain ⟨v, rfl⟩ := hP
        exact xbu hn hcall l (k + 1) hl' h (hF.put hp ⟨rfl, rfl⟩) hH ⟨v, rfl⟩ hQ
     simp at h
  · rename_i hw
    have hwd := xbL hF hw
    split at h
    · rename_i fr1 hp
      simp only [wpOpsS, ho, hwd, Bool.false_eq_true, if_false]
      exact xbu hn hcall l (k + 1) hl' h (hF.put hp ⟨#[], rfl, trivial⟩) hH hP hQ
    simp at h
  simp at h
theorem xda (hn : noNG P) (hm : P.follows .mixedOrders = true) (hcall : xcq P call) (c₀ : Frame) (cs : List Frame) : ∀ (n : Nat) (c : Code) (fr : Fr) (H : AH) (pm : PM) (r : Ex × Fr × AH × PM), xgg P call n c fr H pm = some r ->
 ∀ (ρ : Rho) (w : World) (a : Act) (u : FrameMode) (Q : Exit -> Act -> List Frame -> World -> Prop), FrOK [] ρ H.next fr a -> HOK ρ H w -> PMD ρ H.next pm u -> xoD c₀ cs ρ H w r Q -> c.wpS P Q a ({ c₀ with mode := u } :: cs) w
 | 0, c, fr, H, pm, r, h, _, _, _, _, _, _, _, _, _ => by simp [xgg] at h
 | n + 1, c, fr, H, pm, r, h, ρ, w, a, u, Q, hF, hH, hP, hQ => by
  have IH := xda hn hm hcall c₀ cs n
  have plain : ∀ {c : Code}, (match xcB P call n c fr H with | some (e, fr, H) => some (e, fr, H, pm) | none => none) = some r -> c.wpS P Q a ({ c₀ with mode := u } :: cs) w := by
   intro c h
   split at h
   · rename_i e fr1 H1 hc
     simp only [Option.some.injEq] at h; subst h
     exact wpS_of_wp (xdS hn hm hcall (Q := fun _ _ _ => True) n c fr H _ hc ρ w a _ hF hH fun x a1 w1 ρ1 g1 g2 g3 g4 => hQ x a1 w1 ρ1 u g1 g2 g3 g4 (hP.mono g4.ext g4.next)).1
   simp at h
  cases c with
  | seq x y =>
   simp only [xgg] at h
   split at h
   · rename_i fr1 H1 pm1 hx
     refine wpS_seq (IH x fr H pm _ hx ρ w a u _ hF hH hP ?_)
     intro e a1 w1 ρ1 u1 he hF1 hH1 hK1 hP1
     have he' : e = .normal := he
     subst he'
     exact IH y fr1 H1 pm1 r h ρ1 w1 a1 u1 Q hF1 hH1 hP1 fun e a2 w2 ρ2 u2 g1 g2 g3 g4 => hQ e a2 w2 ρ2 u2 g1 g2 g3 (hK1.trans g4)
   rename_i hne
   refine wpS_seq (IH x fr H pm _ h ρ w a u _ hF hH hP ?_)
   intro e a1 w1 ρ1 u1 he hF1 hH1 hK1 hP1
   have := hQ e a1 w1 ρ1 u1 he hF1 hH1 hK1 hP1
   obtain ⟨ex, fr1, H1, pm1⟩ := r
   cases ex with
   | normal => exact absurd h (hne _ _ _)
   | exit id => have he : e = .exit id := he; subst he; exact this
   | ret => have he : e = .ret := he; subst he; exact this
   | pan v => obtain ⟨u, rfl, _⟩ := he; exact this
  | cond x y z =>
   simp only [xgg] at h
   split at h
   · rename_i t hx
     have hv := hF.ev x
     rw [hx] at hv
     refine wpS_cond (xei hv) ?_
     cases t with
     | true => exact IH y fr H pm r h ρ w a u Q hF hH hP hQ
     | false => exact IH z fr H pm r h ρ w a u Q hF hH hP hQ
   simp at h
  | region id ops draw =>
   cases draw with
   | false =>
    refine wpS_region ?_
    obtain ⟨e1, fr1, H1, pm1, hl, rfl⟩ := xh2 h
    have := xbu hn hcall (c₀ := c₀) (cs := cs) (Q := Q) ops.toList 0 (by simp) hl hF hH hP fun x a1 w1 ρ1 u1 g1 g2 g3 g4 g5 => hQ x a1 w1 ρ1 u1 g1 g2.flush g3 g4 g5
    rw [List.range_eq_range']
    simpa using this
   | true => exact plain h
  | skip => exact plain h
  | label l => exact plain h
  | exit id => exact plain h
  | ret => exact plain h
  | block id b => exact plain h
  | loop b => exact plain h
  | rangeFunc f ps az b => exact plain h
  | scope b => exact plain h
  | goto l => exact plain h
  | refuse s => exact plain h
theorem xc4 (hn : noNG P) (hm : P.follows .mixedOrders = true) (hcall : xcq P call) {fn : Func} {tmps : Array Value} {R : Ending -> World -> Prop} (n : Nat) : ∀ (ds : DF) (D : List Deferred) (H : AH) (pm : PM) (H' : AH) (pm' : PM), xeO P call n ds H pm = some (H', pm') ->
 ∀ (ρ : Rho) (w : World) (u : FrameMode), HOK ρ H w -> All2 (DD P ρ H.next) ds D -> PMD ρ H.next pm u -> (∀ ρ' w' u', HOK ρ' H' w' -> Kp H ρ w H' ρ' w' -> PMD ρ' H'.next pm' u' -> Leaves P fn tmps R [] u' w') -> Leaves P fn tmps R D u w
 | [], [], H, pm, H', pm', h, ρ, w, u, hH, hD, hP, hE => by
  simp only [xeO, Option.some.injEq, Prod.mk.injEq] at h
  obtain ⟨rfl, rfl⟩ := h
  exact hE ρ w u hH (Kp.refl _ _ _) hP
 | [], _ :: _, H, pm, H', pm', h, ρ, w, u, hH, hD, hP, hE => hD.elim
 | _ :: _, [], H, pm, H', pm', h, ρ, w, u, hH, hD, hP, hE => hD.elim
 | (f, az) :: ds, d :: D, H, pm, H', pm', h, ρ, w, u, hH, hD, hP, hE => by
  obtain ⟨⟨cap, ht, hb, hda⟩, hDs⟩ := hD
  simp only [xeO] at h
  split at h
  · simp at h
  rename_i g hg
  split at h
  · simp at h
  rename_i c hc
  refine ⟨hP.run, .func f, cap, f, d.args ++ cap, ht, ?_, callsD_of_wpS hg hc fun c₀ cs hu => ?_⟩
  · rw [ht]; simp only [invoke]; exact xc5 hn hb _
  have hcu : (c₀ :: cs) = ({ c₀ with mode := u } :: cs) := by subst hu; rfl
  rw [hcu]
  have fin : ∀ {fr1 H1 pm1}, (match xdH P fr1 H1 g.results.toList with | some _ => xeO P call n ds H1 pm1.settle | none => none) = some (H', pm') -> ∀ {a1 w1 ρ1 u1}, FrOK [] ρ1 H1.next fr1 a1 -> HOK ρ1 H1 w1 -> Kp H ρ w H1 ρ1 w1 -> PMD ρ1 H1.next pm1 u1 ->
   ∃ v, (results g a1.tmps).run P w1 = .ok v w1 /\ Leaves P fn tmps R D (settle u1) w1 := by
   intro fr1 H1 pm1 hr a1 w1 ρ1 u1 g1 g2 g3 g4
   split at hr
   · rename_i r hr1
     obtain ⟨v, hv, _⟩ := xgC g2 g1 hr1
     exact ⟨v, hv, xc4 hn hm hcall n ds D H1 _ H' pm' hr ρ1 w1 _ g2 (xdz g3.ext g3.next hDs) g4.settled fun ρ' w' u' k1 k2 k3 => hE ρ' w' u' k1 (g3.trans k2) k3⟩
   simp at hr
  split at h
  · rename_i fr1 H1 pm1 hcr
    refine xda hn hm hcall c₀ cs n c _ H pm _ hcr ρ w _ u _ (xgc hda g.ntmps (xgW g)) hH hP ?_
    intro e a1 w1 ρ1 u1 he g1 g2 g3 g4
    have he : e = .normal := he
    subst he
    obtain ⟨v, hv, hl⟩ := fin h g1 g2 g3 g4
    exact ⟨g1.defers, u1, rfl, v, hv, hl⟩
  · rename_i fr1 H1 pm1 hcr
    refine xda hn hm hcall c₀ cs n c _ H pm _ hcr ρ w _ u _ (xgc hda g.ntmps (xgW g)) hH hP ?_
    intro e a1 w1 ρ1 u1 he g1 g2 g3 g4
    have he : e = .ret := he
    subst he
    obtain ⟨v, hv, hl⟩ := fin h g1 g2 g3 g4
    exact ⟨g1.defers, u1, rfl, v, hv, hl⟩
  simp at h
theorem xcT (hn : noNG P) (hm : P.follows .mixedOrders = true) : ∀ n, xcq P (xd8 P n)
 | 0 => fun f az H out H' h => by simp [xd8] at h
 | n + 1 => by
  intro f az H out H' h ρ w vs hH hda
  have hcall := xcT hn hm n
  simp only [xd8] at h
  split at h
  · simp at h
  rename_i fn hfn
  split at h
  · simp at h
  rename_i c hb
  refine calls_of_wp_defers hfn hb ?_
  have hF := xgc hda fn.ntmps (xgW fn)
  have fin : ∀ {fr1 : Fr} {H1 : AH} {ds : DF} {pm : PM}, endA P (xd8 P n) n fn.results.toList fr1 H1 ds pm = some (out, H') -> ∀ {a1 w1 ρ1 D1 u1}, FrOK D1 ρ1 H1.next fr1 a1 -> HOK ρ1 H1 w1 -> Kp H ρ w H1 ρ1 w1 -> All2 (DD P ρ1 H1.next) ds D1 -> PMD ρ1 H1.next pm u1 ->
   Leaves P fn a1.tmps (fun e w' => ∃ ρ', OutEv ρ' H'.next out e /\ HOK ρ' H' w' /\ Kp H ρ w H' ρ' w') a1.defers u1 w1 := by
   intro fr1 H1 ds pm he a1 w1 ρ1 D1 u1 g1 g2 g3 g4 g5
   rw [g1.defers]
   unfold endA at he
   split at he
   · rename_i H2 hl
     split at he
     · rename_i r hr
       simp only [Option.some.injEq, Prod.mk.injEq] at he
       obtain ⟨rfl, rfl⟩ := he
       refine xc4 hn hm hcall n ds D1 H1 pm _ _ hl ρ1 w1 u1 g2 g4 g5 fun ρ' w' u' k1 k2 k3 => ?_
       have k3 : u' = .returning := k3
       subst k3
       obtain ⟨v, hv, hd⟩ := xgC k1 (g1.mono k2.ext k2.next) hr
       exact ⟨v, hv, ρ', ⟨v, rfl, hd⟩, k1, g3.trans k2⟩
     simp at he
   · rename_i H2 x hl
     simp only [Option.some.injEq, Prod.mk.injEq] at he
     obtain ⟨rfl, rfl⟩ := he
     refine xc4 hn hm hcall n ds D1 H1 pm _ _ hl ρ1 w1 u1 g2 g4 g5 fun ρ' w' u' k1 k2 k3 => ?_
     obtain ⟨v, rfl, hd⟩ := k3
     exact ⟨ρ', ⟨v, rfl, hd⟩, k1, g3.trans k2⟩
   simp at he
  split at h
  · rename_i fr1 H1 ds hc
    refine xci hn hm hcall n c _ H [] _ hc ρ w _ [] _ hF hH trivial ?_
    intro e a1 w1 ρ1 D1 he g1 g2 g3 g4
    have he : e = .normal := he
    subst he
    exact fin h g1 g2 g3 g4 rfl
  · rename_i fr1 H1 ds hc
    refine xci hn hm hcall n c _ H [] _ hc ρ w _ [] _ hF hH trivial ?_
    intro e a1 w1 ρ1 D1 he g1 g2 g3 g4
    have he : e = .ret := he
    subst he
    exact fin h g1 g2 g3 g4 rfl
  · rename_i x fr1 H1 ds hc
    refine xci hn hm hcall n c _ H [] _ hc ρ w _ [] _ hF hH trivial ?_
    intro e a1 w1 ρ1 D1 he g1 g2 g3 g4
    obtain ⟨v, rfl, hd⟩ := he
    exact fin h g1 g2 g3 g4 ⟨v, rfl, hd⟩
  simp at h
def xfT : Option (Out × AH) -> Bool
 | some (.ret (.one (.c (.lit (.bool b)))), _) => b
 | _ => false
def okNG (P : Program) : Bool := P.funcs.toList.all fun fn => fn.body.isNone || !(fn.name == "runtime.NumGoroutine")
theorem xhO (h : okNG P = true) : noNG P := fun f fn hf hb => by
 have h1 := List.all_eq_true.1 h fn (by
  have : P.funcs.toList[f]? = some fn := by rw [Array.getElem?_toList]; exact hf
  exact List.mem_of_getElem? this)
 simp only [Bool.or_eq_true, Bool.not_eq_true'] at h1
 rcases h1 with h1 | h1
 · cases hx : fn.body <;> simp_all
 exact h1
theorem xkr (hn : okNG P = true) (hm : P.follows .mixedOrders = true) (n : Nat) (f : FuncId) (h : xfT (xd8 P n f [] AH.empty) = true) (w : World) :
 Calls P f #[] w fun e w' => e = .returned (.bool true) /\ KF w w' := by
 unfold xfT at h
 split at h
 · rename_i b H' hc
   subst h
   have hH0 : HOK ⟨fun _ => 0, fun _ => 0, fun _ => 0⟩ AH.empty w := ⟨fun _ _ h => by simp [AH.empty, AH.get, Tr.getR_eq, Tr.get] at h, fun _ _ _ _ h => by simp [AH.empty, AH.get, Tr.getR_eq, Tr.get] at h, fun _ _ h => by simp [AH.empty, AH.get, Tr.getR_eq, Tr.get] at h⟩
   refine (xcT (xhO hn) hm n f [] _ _ _ hc _ w #[] hH0 trivial).mono ?_
   rintro e w' ⟨ρ', ⟨v, rfl, hd⟩, _, hK⟩
   exact ⟨by rw [show v = _ from hd.1], hK.os, hK.tape, hK.output, hK.size, fun k hk _ => hK.frame k hk fun id b hb => by simp [AH.empty, AH.get, Tr.getR_eq, Tr.get] at hb⟩
 simp at h
end
end
section
open Go
def xeN (vs : List Value) : Option (List AV) := vs.mapM AV.of?
theorem xc2 {ρ : Rho} {n : Nat} : ∀ {vs : List Value} {az : List AV}, xeN vs = some az -> All2 (AV.den ρ n) az vs
 | [], az, h => by simp [xeN] at h; subst h; trivial
 | v :: vs, az, h => by
  simp only [xeN, List.mapM_cons, Option.bind_eq_bind, Option.bind_eq_some_iff] at h
  obtain ⟨a, ha, as', has, h⟩ := h
  obtain rfl : a :: as' = az := by simpa using h
  exact ⟨AV.of_den ρ n v a ha, xc2 has⟩
end
section
open Go
set_option maxRecDepth 1000000
abbrev OSt := Option ((Nat × Nat) × AH)
def litR : AR -> Option Value
 | .one (.c (.lit v)) => some v
 | .tup [.c (.lit a), .c (.lit b)] => some (.tuple #[a, b])
 | .tup [] => some (.tuple #[])
 | _ => none
theorem xnq {ρ : Rho} {n : Nat} {r : AR} {v u : Value} (h : litR r = some v) (d : r.den ρ n u) : u = v := by
 unfold litR at h
 split at h
 · rename_i x
   obtain rfl := Option.some.inj h
   exact d.1
 · rename_i x y
   obtain rfl := Option.some.inj h
   obtain ⟨vs, rfl, hd⟩ := d
   obtain ⟨vl⟩ := vs
   match vl, hd with
   | [p, q], ⟨h1, h2, _⟩ => rw [show p = _ from h1.1, show q = _ from h2.1]
 · obtain rfl := Option.some.inj h
   obtain ⟨vs, rfl, hd⟩ := d
   obtain ⟨vl⟩ := vs
   match vl, hd with
   | [], _ => rfl
 cases h
noncomputable def mkG (P : Program) (f : FuncId) (vs : List Value) : OSt := match xeN vs with
 | some xs => match xd8 P 3000 f xs AH.empty with
  | some (.ret (.one (.c (.ptr i o))), H) => some ((i, o), H)
  | _ => none
 | none => none
noncomputable def askG (P : Program) (f : FuncId) (vs : List Value) (t : Value -> Bool) : OSt -> OSt
 | some ((i, o), H) => match xeN vs with
  | some xs => match xd8 P 3000 f (.c (.ptr i o) :: xs) H with
   | some (.ret r, H') => match litR r with
    | some v => bif t v then some ((i, o), H') else none
    | none => none
   | _ => none
  | none => none
 | none => none
def ObS (st : OSt) (w : World) (rp : Value) (S : Nat -> Prop) : Prop :=
 ∃ i o H ρ, st = some ((i, o), H) /\ HOK ρ H w /\ i < H.next /\ rp = .pointer (some ⟨ρ.blk i, ρ.base i + o, none⟩) /\ ∀ id b, H.get id = some b -> S (ρ.blk id)
theorem ObS.keeps {st : OSt} {w w' : World} {rp : Value} {S T : Nat -> Prop} (h : ObS st w rp S) (k : xaa T w w') (hs : ∀ b, S b -> ¬ T b) : ObS st w' rp S := by
 obtain ⟨i, o, H, ρ, h1, h2, h3, h4, h5⟩ := h
 refine ⟨i, o, H, ρ, h1, ⟨h2.lt, h2.inj, fun id b hb => ?_⟩, h3, h4, h5⟩
 obtain ⟨cs, fz, hl⟩ := h2.row id b hb
 exact ⟨cs, fz, ⟨k.heap hl.heap (hs _ (h5 id b hb)), hl.size, hl.thaw, hl.room, hl.whole, hl.den⟩⟩
def GrO (S : Nat -> Prop) (w w' : World) (b : Nat) : Prop := S b \/ (w.heap.size <= b /\ b < w'.heap.size)
theorem mk_ok {P : Program} (hn : okNG P = true) (hm : P.follows .mixedOrders = true) (f : FuncId) (vs : List Value) (h : (mkG P f vs).isSome = true) (w : World) :
 Calls P f vs.toArray w fun e w' => ∃ rp, e = .returned rp /\ ObS (mkG P f vs) w' rp (fun b => w.heap.size <= b /\ b < w'.heap.size) /\ KF w w' := by
 obtain ⟨st, hst⟩ := Option.isSome_iff_exists.1 h
 have hst2 := hst
 unfold mkG at hst2
 split at hst2
 · rename_i xs ha
   split at hst2
   · rename_i i o H' hc
     obtain rfl : ((i, o), H') = st := by simpa using hst2
     have hH0 : HOK ⟨fun _ => 0, fun _ => 0, fun _ => 0⟩ AH.empty w := ⟨fun _ _ h => by simp [AH.empty, AH.get, Tr.getR_eq, Tr.get] at h, fun _ _ _ _ h => by simp [AH.empty, AH.get, Tr.getR_eq, Tr.get] at h, fun _ _ h => by simp [AH.empty, AH.get, Tr.getR_eq, Tr.get] at h⟩
     refine (xcT (xhO hn) hm _ _ xs _ _ _ hc _ w vs.toArray hH0 (xc2 ha)).mono ?_
     rintro e w' ⟨ρ', ⟨u, rfl, hd⟩, hH, hK⟩
     obtain ⟨hi, rfl⟩ : i < H'.next /\ u = _ := hd
     refine ⟨_, rfl, ⟨i, o, H', ρ', hst, hH, hi, rfl, fun id b hb => ⟨?_, hH.lt_size hb⟩⟩, hK.os, hK.tape, hK.output, hK.size, fun k hk _ => hK.frame k hk fun id b hb => by simp [AH.empty, AH.get, Tr.getR_eq, Tr.get] at hb⟩
     rcases hK.come id b hb with h | ⟨id0, b0, h, _⟩
     · exact h
     simp [AH.empty, AH.get, Tr.getR_eq, Tr.get] at h
   simp at hst2
 simp at hst2
theorem ask_ok {P : Program} (hn : okNG P = true) (hm : P.follows .mixedOrders = true) (f : FuncId) (vs : List Value) (t : Value -> Bool) (st : OSt) (h : (askG P f vs t st).isSome = true) (w : World) (rp : Value) (S : Nat -> Prop) (hr : ObS st w rp S) :
 Calls P f (rp :: vs).toArray w fun e w' => ∃ v, e = .returned v /\ t v = true /\ ObS (askG P f vs t st) w' rp (GrO S w w') /\ xaa S w w' := by
 obtain ⟨i, o, H, ρ, rfl, hH, hi, rfl, hS⟩ := hr
 obtain ⟨st', hst⟩ := Option.isSome_iff_exists.1 h
 have hst2 := hst
 unfold askG at hst2
 split at hst2
 · rename_i i' o' H1 he
   obtain ⟨⟨rfl, rfl⟩, rfl⟩ : (i = i' /\ o = o') /\ H = H1 := by simpa using he
   split at hst2
   · rename_i xs ha
     split at hst2
     · rename_i r H' hc
       split at hst2
       · rename_i v hv
         rcases ht : t v with _ | _
         · rw [ht] at hst2; simp at hst2
         rw [ht] at hst2
         obtain rfl : ((i, o), H') = st' := by simpa using hst2
         refine (xcT (xhO hn) hm _ _ _ _ _ _ hc ρ w _ hH (show All2 (AV.den ρ H.next) (.c (.ptr i o) :: xs) (_ :: vs) from ⟨⟨hi, rfl⟩, xc2 ha⟩)).mono ?_
         rintro e w' ⟨ρ', ⟨u, rfl, hd⟩, hH', hK⟩
         obtain rfl := xnq hv hd
         refine ⟨u, rfl, ht, ⟨i, o, H', ρ', hst, hH', Nat.lt_of_lt_of_le hi hK.next, by rw [hK.ext.blk i hi, hK.ext.base i hi], fun id b hb => ?_⟩, hK.os, hK.tape, hK.output, hK.size, fun k hk hs => hK.frame k hk fun id b hb e => hs (e ▸ hS id b hb)⟩
         rcases hK.come id b hb with h | ⟨id0, b0, h, e⟩
         · exact .inr ⟨h, hH'.lt_size hb⟩
         exact .inl (e ▸ hS id0 b0 h)
       simp at hst2
     simp at hst2
   simp at hst2
 simp at hst2
end
section
open Go
set_option maxRecDepth 1000000
def isTG (a b : Int) : Value -> Bool
 | .tuple vs => match vs.toList with
  | [.int .i64 x, .int .i64 y] => x == a && y == b
  | _ => false
 | _ => false
theorem isTG_eq {a b : Int} {v : Value} (h : isTG a b v = true) : v = .tuple #[.int .i64 a, .int .i64 b] := by
 unfold isTG at h
 split at h
 · rename_i vs
   split at h
   · rename_i x y e
     simp at h
     rw [h.1, h.2] at e
     rw [show vs = #[.int .i64 a, .int .i64 b] from Array.toList_inj.1 e]
   cases h
 cases h
noncomputable section
def tr0 : OSt := mkG prog 29 []
def tr1 : OSt := askG prog 32 [.int .i64 0] (isTG 1 0) tr0
end
theorem tr1s : tr1.isSome = true := by kernel_rfl
theorem ng21 : okNG prog = true := by kernel_rfl
theorem xhS : prog.follows .mixedOrders = true := by kernel_rfl
theorem xmp {P : Program} {f : FuncId} {vs : List Value} {t : Value -> Bool} {st : OSt} (h : (askG P f vs t st).isSome = true) : st.isSome = true := by
 cases st with
 | none => simp [askG] at h
 | some x => rfl
theorem tr0s : tr0.isSome = true := xmp tr1s
theorem xmF (w : World) : Calls prog 29 #[] w fun e w' => ∃ rp, e = .returned rp /\ ObS tr0 w' rp (fun b => w.heap.size <= b /\ b < w'.heap.size) /\ KF w w' := mk_ok ng21 xhS _ [] tr0s w
theorem xmG (w : World) (rp : Value) (S : Nat -> Prop) (h : ObS tr0 w rp S) : Calls prog 32 #[rp, .int .i64 0] w fun e w' => e = .returned (.tuple #[.int .i64 1, .int .i64 0]) /\ ObS tr1 w' rp (GrO S w w') /\ xaa S w w' :=
 (ask_ok ng21 xhS _ _ _ _ tr1s w rp S h).mono fun e w' ⟨v, he, hv, h1, h2⟩ => ⟨by rw [he, isTG_eq hv], h1, h2⟩
end
section
open Go
set_option maxRecDepth 1000000
theorem xb6 {ρ : Rho} {H : AH} {w : World} (h : HOK ρ H w) {id : Nat} {b : Blk} (hb : H.get id = some b) {i : Nat} {x : AC} (hx : b.cells[i]? = some x) : ∃ u, w.cell? ⟨ρ.blk id, ρ.base id + i, none⟩ = some u /\ x.den ρ H.next u := by
 obtain ⟨cs, fz, hl⟩ := h.row id b hb
 exact hl.cell hx
theorem xg0 {ρ : Rho} {H : AH} {w : World} (h : HOK ρ H w) {id : Nat} {b : Blk} (hb : H.get id = some b) (i : Nat) (hi : i < b.cells.length) : w.frozen? ⟨ρ.blk id, ρ.base id + i, none⟩ = false := by
 obtain ⟨cs, fz, hl⟩ := h.row id b hb
 have h1 := hl.heap
 have h2 := hl.thaw
 have h3 := hl.room
 obtain ⟨lo, hi'⟩ := fz
 simp only at h2
 simp only [World.frozen?, h1]
 rw [Bool.and_eq_false_iff]
 simp only [decide_eq_false_iff_not]
 omega
noncomputable def lookT : OSt -> Option (Nat × Nat × Nat)
 | some ((i, o), H) => match H.get i with
  | some ⟨[.sl r 0 2 cp _ _], _, true⟩ => match H.get r with
   | some ⟨_ :: .lit (.int .i64 0) :: .sl q 0 1 cq _ _ :: _ :: .lit (.int .i64 0) :: .lit (.slice none 0 0) :: _, _, _⟩ => match H.get q with
    | some ⟨.lit (.int .i64 1) :: _, _, _⟩ => bif Nat.beq o 0 && !(Nat.beq i r) && !(Nat.beq q r) then some (i, r, q) else none
    | _ => none
   | _ => none
  | _ => none
 | none => none
theorem xj5 : (lookT tr1).isSome = true := by kernel_rfl
theorem tree_at {w : World} {rp : Value} {S : Nat -> Prop} (h : ObS tr1 w rp S) : ∃ tb rb ro kb ko, rp = .pointer (some ⟨tb, 0, none⟩) /\ TrAt w tb rb ro kb ko 0 0 /\ S tb /\ S rb /\ S kb := by
 obtain ⟨i, o, H, ρ, hst, hH, hi, rfl, hS⟩ := h
 obtain ⟨⟨a, r, q⟩, hl⟩ := Option.isSome_iff_exists.1 xj5
 rw [hst] at hl
 unfold lookT at hl
 simp only at hl
 split at hl
 · rename_i r0 cp es ex el hb
   split at hl
   · rename_i x0 q0 cq es2 ex2 x3 rest el2 wh2 hb2
     split at hl
     · rename_i rest3 el3 wh3 hb3
       rcases hc : (Nat.beq o 0 && !(Nat.beq i r0) && !(Nat.beq q0 r0)) with _ | _
       · rw [hc] at hl; simp at hl
       simp only [Bool.and_eq_true, Bool.not_eq_true', Nat.beq_eq] at hc
       obtain ⟨⟨rfl, h1⟩, h2⟩ := hc
       have n1 : ¬ i = r0 := fun e => by rw [e] at h1; simp at h1
       have n2 : ¬ q0 = r0 := fun e => by rw [e] at h2; simp at h2
       have m1 : ρ.blk i ≠ ρ.blk r0 := fun e => n1 (hH.inj _ _ _ _ hb hb2 e)
       have m2 : ρ.blk q0 ≠ ρ.blk r0 := fun e => n2 (hH.inj _ _ _ _ hb3 hb2 e)
       have b0 : ρ.base i = 0 := by
        obtain ⟨cs, fz, hlz⟩ := hH.row i _ hb
        exact (hlz.whole rfl).1
       obtain ⟨u, hu, _, hcp, o', c, rfl, ho, hx, hy⟩ := xb6 hH hb (i := 0) (x := .sl r0 0 2 cp es ex) rfl
       obtain ⟨u2, hu2, _, hcq, o2, c2, rfl, ho2, hx2, hy2⟩ := xb6 hH hb2 (i := 2) (x := .sl q0 0 1 cq es2 ex2) rfl
       obtain ⟨u3, hu3, hd3⟩ := xb6 hH hb2 (i := 1) (x := .lit (.int .i64 0)) rfl
       obtain ⟨u4, hu4, hd4⟩ := xb6 hH hb2 (i := 4) (x := .lit (.int .i64 0)) rfl
       obtain ⟨u5, hu5, hd5⟩ := xb6 hH hb2 (i := 5) (x := .lit (.slice none 0 0)) rfl
       obtain ⟨u6, hu6, hd6⟩ := xb6 hH hb3 (i := 0) (x := .lit (.int .i64 1)) rfl
       obtain rfl := hd3.1
       obtain rfl := hd4.1
       obtain rfl := hd5.1
       obtain rfl := hd6.1
       have g1 : cp <= c := by cases ex with
        | true => rw [hx rfl]; exact Nat.le_refl _
        | false => exact (hy rfl).1
       have g2 : cq <= c2 := by cases ex2 with
        | true => rw [hx2 rfl]; exact Nat.le_refl _
        | false => exact (hy2 rfl).1
       have e1 : o' = ρ.base r0 := ho (by omega)
       have e2 : o2 = ρ.base q0 := ho2 (by omega)
       rw [b0] at hu
       rw [e1] at hu
       rw [e2] at hu2
       refine ⟨ρ.blk i, ρ.blk r0, ρ.base r0, ρ.blk q0, ρ.base q0, by rw [b0], ⟨⟨c, by omega, hu⟩, ⟨c2, by omega, hu2⟩, hu5, hu6, hu3, hu4, fun o ho => ?_, m1, m2⟩, hS _ _ hb, hS _ _ hb2, hS _ _ hb3⟩
       rcases ho with rfl | rfl
       · exact xg0 hH hb2 1 (by simp)
       exact xg0 hH hb2 4 (by simp)
     simp at hl
   simp at hl
 simp at hl
end
section
structure PLC where
 pb : Nat
 tb : Nat
 rb : Nat
 ro : Nat
 kb : Nat
 ko : Nat
 cb : Nat
 lb : Nat
 ob : Nat
 ab : Nat
 g : Nat
 n : Nat
def PLC.has (p : PLC) (b : Nat) : Prop := b = p.pb \/ b = p.tb \/ b = p.rb \/ b = p.kb \/ b = p.cb \/ b = p.lb \/ b = p.ob \/ b = p.ab \/ b = p.g
structure PlR (w : World) (p : PLC) : Prop where
 l : w.cell? ⟨p.lb, 1, none⟩ = some (.slice none 0 0)
 o0 : w.cell? ⟨p.ob, 0, none⟩ = some (.slice (some ⟨p.ab, 0, none⟩) p.n p.n)
 o1 : ∃ cap, w.cell? ⟨p.ob, 1, none⟩ = some (.slice (some ⟨p.g, 0, none⟩) p.n cap)
 bf : ∀ i, i < p.n -> w.cell? ⟨p.ab, i * 2, none⟩ = some (.slice none 0 0) /\ w.cell? ⟨p.ab, i * 2 + 1, none⟩ = some (.int .i64 0)
 ln : ∀ (j : Nat) (u : Value), (upTo p.n)[j]? = some u -> w.cell? ((⟨p.g, 0, none⟩ : Addr).add j) = some u
structure PlH (w : World) (p : PLC) (sl : Int) (hv : Value) : Prop where
 pl : w.cell? ⟨p.pb, 17, none⟩ = some (.pointer (some ⟨p.ob, 0, none⟩))
 ce : w.cell? ⟨p.pb, 18, none⟩ = some (.pointer (some ⟨p.cb, 0, none⟩))
 lo : w.cell? ⟨p.pb, 19, none⟩ = some (.pointer (some ⟨p.lb, 0, none⟩))
 tr : w.cell? ⟨p.pb, 21, none⟩ = some (.pointer (some ⟨p.tb, 0, none⟩))
 so : w.cell? ⟨p.pb, 22, none⟩ = some (.int .i64 1)
 sp : w.cell? ⟨p.pb, 23, none⟩ = some (.int .i64 sl)
 hs : w.cell? ⟨p.pb, 24, none⟩ = some hv
 fr : ∀ o, w.frozen? ⟨p.pb, o, none⟩ = false
structure PlAt (w : World) (p : PLC) (c0 c1 sl : Int) (hv : Value) (cc : Int) (cs : ByteArray) (cn cr : Int) : Prop where
 h : PlH w p sl hv
 t : TrAt w p.tb p.rb p.ro p.kb p.ko c0 c1
 c : ClAt w p.cb cc cs cn cr
 r : PlR w p
 n : 1 <= p.n /\ p.n <= 64
 np : p.pb ≠ p.tb /\ p.pb ≠ p.rb /\ p.pb ≠ p.kb /\ p.pb ≠ p.cb /\ p.pb ≠ p.lb /\ p.pb ≠ p.ob /\ p.pb ≠ p.ab /\ p.pb ≠ p.g
 nc : p.cb ≠ p.tb /\ p.cb ≠ p.rb /\ p.cb ≠ p.kb /\ p.cb ≠ p.lb /\ p.cb ≠ p.ob /\ p.cb ≠ p.ab /\ p.cb ≠ p.g
 nr : p.rb ≠ p.lb /\ p.rb ≠ p.ob /\ p.rb ≠ p.ab /\ p.rb ≠ p.g
theorem add0 (b j : Nat) : (⟨b, 0, none⟩ : Addr).add j = ⟨b, j, none⟩ := by unfold Addr.add; split <;> simp_all
theorem PlR.keeps {S : Nat -> Prop} {w w' : World} {p : PLC} (h : PlR w p) (K : xaa S w w') (h1 : ¬ S p.lb) (h2 : ¬ S p.ob) (h3 : ¬ S p.ab) (h4 : ¬ S p.g) : PlR w' p := by
 obtain ⟨c, o1⟩ := h.o1
 exact ⟨K.cell h.l h1, K.cell h.o0 h2, ⟨c, K.cell o1 h2⟩, fun i hi => ⟨K.cell (h.bf i hi).1 h3, K.cell (h.bf i hi).2 h3⟩, fun j u hu => K.cell (h.ln j u hu) (by rw [add0]; exact h4)⟩
theorem PlH.keeps {S : Nat -> Prop} {w w' : World} {p : PLC} {sl : Int} {hv : Value} (h : PlH w p sl hv) (K : xaa S w w') (h1 : ¬ S p.pb) : PlH w' p sl hv :=
 ⟨K.cell h.pl h1, K.cell h.ce h1, K.cell h.lo h1, K.cell h.tr h1, K.cell h.so h1, K.cell h.sp h1, K.cell h.hs h1, fun o => K.frozen (h.fr o) (show p.pb < w.heap.size from xal h.pl) h1⟩
theorem PlAt.keeps {S : Nat -> Prop} {w w' : World} {p : PLC} {c0 c1 sl cc cn cr : Int} {hv : Value} {cs : ByteArray} (h : PlAt w p c0 c1 sl hv cc cs cn cr) (K : xaa S w w') (hs : ∀ b, p.has b -> ¬ S b) : PlAt w' p c0 c1 sl hv cc cs cn cr := by
 have f := fun b hb => hs b hb
 unfold PLC.has at f
 exact ⟨h.h.keeps K (f _ (by simp)), h.t.keeps K (f _ (by simp)) (f _ (by simp)) (f _ (by simp)), h.c.keeps K (f _ (by simp)), h.r.keeps K (f _ (by simp)) (f _ (by simp)) (f _ (by simp)) (f _ (by simp)), h.n, h.np, h.nc, h.nr⟩
theorem PlAt.lt {w : World} {p : PLC} {c0 c1 sl cc cn cr : Int} {hv : Value} {cs : ByteArray} (h : PlAt w p c0 c1 sl hv cc cs cn cr) : ∀ b, p.has b -> b < w.heap.size := by
 intro b hb
 obtain ⟨c, o1⟩ := h.r.o1
 obtain ⟨cap, _, hd⟩ := h.t.hd
 have hn := h.n
 rcases hb with rfl | rfl | rfl | rfl | rfl | rfl | rfl | rfl | rfl
 · exact xal h.h.pl
 · exact xal hd
 · exact xal h.t.x0
 · exact xal h.t.kk
 · exact xal h.c.cells.1
 · exact xal h.r.l
 · exact xal h.r.o0
 · exact xal (h.r.bf 0 (by omega)).1
 have := xal (h.r.ln 0 (.int .i64 0) (by
  obtain ⟨m, hm⟩ : ∃ m, p.n = m + 1 := ⟨p.n - 1, by omega⟩
  rw [hm]; simp [upTo]))
 rwa [add0] at this
section
variable {w : World} {p : PLC} {c0 c1 sl cc cn cr : Int} {hv : Value} {cs : ByteArray}
theorem PlAt.tree (h : PlAt w p c0 c1 sl hv cc cs cn cr) {w' : World} (K : xaa (fun b => b = p.rb) w w') {z0 z1 : Int} (ht : TrAt w' p.tb p.rb p.ro p.kb p.ko z0 z1) : PlAt w' p z0 z1 sl hv cc cs cn cr := by
 have r := h.nr
 exact ⟨h.h.keeps K h.np.2.1, ht, h.c.keeps K h.nc.2.1, h.r.keeps K r.1.symm r.2.1.symm r.2.2.1.symm r.2.2.2.symm, h.n, h.np, h.nc, h.nr⟩
theorem xgI (h : PlAt w p c0 c1 sl hv cc cs cn cr) : Calls prog 9 #[.pointer (some ⟨p.pb, 0, none⟩)] w fun e w' => e = .returned (.bool (c0 != 0)) /\ w' = w :=
 xhz p.pb p.tb p.rb p.ro p.kb p.ko c0 c1 w h.t h.h.tr
theorem p_dry (h : PlAt w p c0 c1 sl hv cc cs cn cr) : Calls prog 10 #[.pointer (some ⟨p.pb, 0, none⟩)] w fun e w' => e = .returned (.bool (c1 != 0)) /\ ∃ k, w' = w.drewN k :=
 dry_any p.pb p.tb p.rb p.ro p.kb p.ko c0 c1 w h.t h.h.tr h.h.so
theorem xlj (h : PlAt w p c0 c1 sl hv cc cs cn cr) : Calls prog 12 #[.pointer (some ⟨p.pb, 0, none⟩)] w fun e w' => e = .returned (.int .i64 sl) /\ w' = w :=
 xkN p.pb sl w h.h.sp
theorem p_cut (d : Int) (h : PlAt w p c0 c1 sl hv cc cs cn cr) : Calls prog 14 #[.pointer (some ⟨p.pb, 0, none⟩), .int .i64 d] w fun e w' => e = .returned (.tuple #[]) /\ PlAt w' p c0 (if d = 0 then c1 else stay c1 d) sl hv cc cs cn cr /\ xaa (fun b => b = p.rb) w w' :=
 (xnQ p.pb p.tb p.rb p.ro p.kb p.ko c0 c1 d w h.t h.h.tr h.h.so h.np.2.1).mono fun _ _ ⟨he, ht, hk⟩ => ⟨he, h.tree hk ht, hk⟩
theorem xok (d : Int) (h : PlAt w p c0 c1 sl hv cc cs cn cr) : Calls prog 18 #[.pointer (some ⟨p.pb, 0, none⟩), .int .i64 d] w fun e w' => e = .returned (.tuple #[]) /\ PlAt w' p (if d = 0 then c0 else stay c0 d) (if d = 0 then c1 else if c0 = 0 then stay c1 d else c1) sl hv cc cs cn cr /\ xaa (fun b => b = p.rb) w w' :=
 (xiq p.pb p.tb p.rb p.ro p.kb p.ko c0 c1 d w h.t h.h.tr).mono fun _ _ ⟨he, ht, hk⟩ => ⟨he, h.tree hk ht, hk⟩
theorem xcu (w : World) (b o : Nat) (v : Value) : xaa (fun k => k = b) w (w.setCell ⟨b, o, none⟩ v) := (xaa.refl (fun k => k = b) w).set (p := ⟨b, o, none⟩) rfl v
theorem PlAt.own (h : PlAt w p c0 c1 sl hv cc cs cn cr) {w' : World} (K : xaa (fun b => b = p.pb) w w') {s : Int} {v : Value} (hh : PlH w' p s v) : PlAt w' p c0 c1 s v cc cs cn cr := by
 obtain ⟨a, b, c, d, e, f, g, i⟩ := h.np
 exact ⟨hh, h.t.keeps K a.symm b.symm c.symm, h.c.keeps K d.symm, h.r.keeps K e.symm f.symm g.symm i.symm, h.n, h.np, h.nc, h.nr⟩
theorem PlAt.at23 (h : PlAt w p c0 c1 sl hv cc cs cn cr) (s : Int) : PlAt (w.setCell ⟨p.pb, 23, none⟩ (.int .i64 s)) p c0 c1 s hv cc cs cn cr := by
 have q := h.h
 refine h.own (xcu _ _ _ _) ⟨?_, ?_, ?_, ?_, ?_, xaw q.sp, ?_, fun o => by rw [xbv]; exact q.fr o⟩
 all_goals (rw [xae (by simp)]; first | exact q.pl | exact q.ce | exact q.lo | exact q.tr | exact q.so | exact q.hs)
theorem PlAt.at24 (h : PlAt w p c0 c1 sl hv cc cs cn cr) (v : Value) : PlAt (w.setCell ⟨p.pb, 24, none⟩ v) p c0 c1 sl v cc cs cn cr := by
 have q := h.h
 refine h.own (xcu _ _ _ _) ⟨?_, ?_, ?_, ?_, ?_, ?_, xaw q.hs, fun o => by rw [xbv]; exact q.fr o⟩
 all_goals (rw [xae (by simp)]; first | exact q.pl | exact q.ce | exact q.lo | exact q.tr | exact q.so | exact q.sp)
theorem p_slip0 (h : PlAt w p c0 c1 sl hv cc cs cn cr) (h0 : 0 <= sl) (h1 : sl <= 1000000) : Calls prog 15 #[.pointer (some ⟨p.pb, 0, none⟩), .int .i64 0] w fun e w' => e = .returned (.tuple #[]) /\ w' = w :=
 (xir p.pb 0 sl w h.h.sp (h.h.fr _) h0 h1).mono fun _ _ ⟨he, hw⟩ => ⟨he, hw⟩
theorem p_slip (d : Int) (hd : d ≠ 0) (h : PlAt w p c0 c1 sl hv cc cs cn cr) (h0 : 0 <= sl) (h1 : sl <= 1000000) : Calls prog 15 #[.pointer (some ⟨p.pb, 0, none⟩), .int .i64 d] w fun e w' => e = .returned (.tuple #[]) /\ PlAt w' p c0 c1 (sl + 1) hv cc cs cn cr /\ xaa (fun b => b = p.pb) w w' :=
 (xir p.pb d sl w h.h.sp (h.h.fr _) h0 h1).mono fun _ _ ⟨he, hw⟩ => by
  rw [if_neg hd] at hw; subst hw; exact ⟨he, h.at23 _, xcu _ _ _ _⟩
theorem PlAt.cell (h : PlAt w p c0 c1 sl hv cc cs cn cr) {w' : World} (K : xaa (fun b => b = p.cb \/ b = p.rb) w w') {z0 z1 yc yn yr : Int} {ys : ByteArray} (ht : TrAt w' p.tb p.rb p.ro p.kb p.ko z0 z1) (hc : ClAt w' p.cb yc ys yn yr) : PlAt w' p z0 z1 sl hv yc ys yn yr := by
 obtain ⟨a, b, c, d, e, f, g⟩ := h.nc
 obtain ⟨i, j, k, l⟩ := h.nr
 exact ⟨h.h.keeps K (fun x => x.elim h.np.2.2.2.1 h.np.2.1), ht, hc, h.r.keeps K (fun x => x.elim d.symm i.symm) (fun x => x.elim e.symm j.symm) (fun x => x.elim f.symm k.symm) (fun x => x.elim g.symm l.symm), h.n, h.np, h.nc, h.nr⟩
theorem p_fail1 (d : Int) (t : ByteArray) (hd : d ≠ 0) (h : PlAt w p 0 0 sl hv 0 cs cn 0) : Calls prog 19 #[.pointer (some ⟨p.pb, 0, none⟩), .int .i64 d, .string t] w fun e w' => e = .returned (.tuple #[]) /\ PlAt w' p d d sl hv d t 0 1 /\ xaa (fun b => b = p.cb \/ b = p.rb) w w' := by
 refine (xi4 p.pb p.tb p.rb p.ro p.kb p.ko p.cb p.lb 0 0 d 0 cn 0 d 0 1 cs t t w h.t h.c h.h.tr h.h.ce h.h.lo h.r.l h.np.2.2.2.1 h.nc.1.symm h.nc.2.1.symm h.nc.2.2.1.symm (fun W hW => (xgD p.cb cs cn 0 d t 0 W hW hd (by omega) (by omega)).mono fun _ _ ⟨he, h1, h2⟩ => ⟨⟨_, he⟩, h1, h2⟩)).mono fun _ _ ⟨he, h1, h2, h3⟩ => ?_
 rw [if_neg hd, if_neg hd, if_pos rfl, show stay 0 d = d from rfl] at h2
 exact ⟨he, h.cell h3 h2 h1, h3⟩
theorem p_fail2 (d : Int) (t : ByteArray) (hd : d ≠ 0) (h0 : c0 ≠ 0) (hc : cc ≠ 0) (hr : 0 <= cr) (hr1 : cr <= 1000000) (h : PlAt w p c0 c1 sl hv cc cs cn cr) : Calls prog 19 #[.pointer (some ⟨p.pb, 0, none⟩), .int .i64 d, .string t] w fun e w' => e = .returned (.tuple #[]) /\ PlAt w' p c0 c1 sl hv cc cs cn (cr + 1) /\ xaa (fun b => b = p.cb \/ b = p.rb) w w' := by
 refine (xi4 p.pb p.tb p.rb p.ro p.kb p.ko p.cb p.lb c0 c1 d cc cn cr cc cn (cr + 1) cs t cs w h.t h.c h.h.tr h.h.ce h.h.lo h.r.l h.np.2.2.2.1 h.nc.1.symm h.nc.2.1.symm h.nc.2.2.1.symm (fun W hW => (xgE p.cb cc cs cn cr d t 0 W hW hc hd hr hr1).mono fun _ _ ⟨he, h1, h2⟩ => ⟨⟨_, he⟩, h1, h2⟩)).mono fun _ _ ⟨he, h1, h2, h3⟩ => ?_
 rw [if_neg hd, if_neg hd, if_neg h0, show stay c0 d = c0 from if_neg h0] at h2
 exact ⟨he, h.cell h3 h2 h1, h3⟩
theorem xll (h : PlAt w p c0 c1 sl hv cc cs cn cr) : Calls prog 34 #[.pointer (some ⟨p.ob, 0, none⟩)] w fun e w' => e = .returned (.int .i64 0) /\ KF w w' :=
 xmm p.ob p.ab p.n w h.n.2 h.r.o0 h.r.bf
theorem p_held0 (h : PlAt w p c0 c1 sl (.slice none 0 0) cc cs cn cr) : Calls prog 11 #[.pointer (some ⟨p.pb, 0, none⟩)] w fun e w' => e = .returned (.int .i64 0) /\ KF w w' :=
 xnD p.pb p.ob w h.h.pl h.h.hs (xll h)
theorem p_free (h : PlAt w p c0 c1 sl hv cc cs cn cr) : Calls prog 13 #[.pointer (some ⟨p.ob, 0, none⟩)] w fun e w' => (∃ a c, e = .returned (.slice a p.n c)) /\ KF w w' := by
 obtain ⟨cap, o1⟩ := h.r.o1
 have := h.n
 exact xnG p.ob p.g cap p.n (upTo p.n) w o1 h.r.ln (by intro u hu; simp [upTo] at hu; obtain ⟨a, _, rfl⟩ := hu; rfl) (by simp [upTo]) (by omega)
end
end
structure JV where
 da : Option Addr
 dn : Nat
 dc : Nat
 sa : Option Addr
 sn : Nat
 sc : Nat
 fl : Int
 cd : Int
 mo : Int
 pt : List UInt8
 ev : Int
 bd : Int
 te : Int
 be : Int
 af : Int
 rf : Int
 bu : Int
 ch : Int
 ro : Int
 wo : Int
 rg : Int
def jCs (j : JV) : Array Value := #[.slice j.da j.dn j.dc, .slice j.sa j.sn j.sc, .int .i64 j.fl, .int .i64 j.cd, .int .i64 j.mo, .string ⟨j.pt.toArray⟩, .int .i64 j.ev, .int .i64 j.bd, .int .i64 j.te, .int .i64 j.be, .int .i64 j.af, .int .i64 j.rf, .int .i64 j.bu, .int .i64 j.ch, .int .i64 j.ro, .int .i64 j.wo, .int .i64 j.rg]
def jV (j : JV) : Value := .agg (jCs j)
theorem xe5 (n a b : Int) (w : World) : Calls prog 46 #[.int .i64 n, .int .i64 a, .int .i64 b] w fun e w' => e = .returned (.bool (decide (a <= n) && decide (n <= b))) /\ w' = w := by
 by_cases h : a <= n
 · have g : decide (a <= n) = true := by simpa using h
   have HR : Hid ((decide (a <= n) && decide (n <= b)) = decide (n <= b)) := xa (by rw [g]; rfl)
   generalize (decide (a <= n) && decide (n <= b)) = q at *
   go_enter func46, ntmps46
   go_wp2
   go_ret
   exact ⟨by rw [HR.out]; rfl, rfl⟩
 have g : decide (a <= n) = false := by simpa using h
 have HR : Hid ((decide (a <= n) && decide (n <= b)) = false) := xa (by rw [g]; rfl)
 generalize (decide (a <= n) && decide (n <= b)) = q at *
 go_enter func46, ntmps46
 go_wp2
 go_ret
 exact ⟨by rw [HR.out]; rfl, rfl⟩
def JbAt (w : World) (c : Nat) (j : JV) : Prop := w.heap[c]? = some (.cells (jCs j) 25 (0, 0))
theorem xfC (w : World) (j : JV) : JbAt (w.alloc (.cells (jCs j) 25)) w.heap.size j := heap_alloc_new w _
theorem JbAt.c {w : World} {c : Nat} {j : JV} (h : JbAt w c j) :
 w.cell? ⟨c, 0, none⟩ = some (.slice j.da j.dn j.dc) /\ w.cell? ⟨c, 1, none⟩ = some (.slice j.sa j.sn j.sc) /\ w.cell? ⟨c, 2, none⟩ = some (.int .i64 j.fl) /\ w.cell? ⟨c, 3, none⟩ = some (.int .i64 j.cd) /\ w.cell? ⟨c, 4, none⟩ = some (.int .i64 j.mo) /\ w.cell? ⟨c, 5, none⟩ = some (.string ⟨j.pt.toArray⟩) /\
 w.cell? ⟨c, 6, none⟩ = some (.int .i64 j.ev) /\ w.cell? ⟨c, 7, none⟩ = some (.int .i64 j.bd) /\ w.cell? ⟨c, 8, none⟩ = some (.int .i64 j.te) /\ w.cell? ⟨c, 9, none⟩ = some (.int .i64 j.be) /\ w.cell? ⟨c, 10, none⟩ = some (.int .i64 j.af) := by
 refine ⟨?_, ?_, ?_, ?_, ?_, ?_, ?_, ?_, ?_, ?_, ?_⟩ <;> (rw [Lib.cell_of_heap h]; rfl)
theorem JbAt.keeps {S : Nat -> Prop} {w w' : World} {c : Nat} {j : JV} (h : JbAt w c j) (K : xaa S w w') (hs : ¬ S c) : JbAt w' c j := K.heap h hs
theorem JbAt.d {w : World} {c : Nat} {j : JV} (h : JbAt w c j) :
 w.cell? ⟨c, 11, none⟩ = some (.int .i64 j.rf) /\ w.cell? ⟨c, 12, none⟩ = some (.int .i64 j.bu) /\ w.cell? ⟨c, 13, none⟩ = some (.int .i64 j.ch) /\ w.cell? ⟨c, 14, none⟩ = some (.int .i64 j.ro) /\ w.cell? ⟨c, 15, none⟩ = some (.int .i64 j.wo) /\ w.cell? ⟨c, 16, none⟩ = some (.int .i64 j.rg) := by
 refine ⟨?_, ?_, ?_, ?_, ?_, ?_⟩ <;> (rw [Lib.cell_of_heap h]; rfl)
theorem xed (j : JV) : (prog.info? 25).map (·.size) = some (jCs j).size := by
 show _ = some 17
 kernel_rfl
theorem xay {P : Program} {ops : Array Oper} {rest : List Oper} {o : Oper} {a : Act} {w : World} {Q : Exit -> Act -> World -> Prop} (hw : Region.wanted o (yielded ops a.tmps) = true) (ty : TypeId) (x : Operand) (ho : o.op = .load ty x)
 (g : Nat) (hx : a.eval x = .pointer (some ⟨g, 0, none⟩)) (t : TypeId) (cs : Array Value) (fr : Nat × Nat) (d : TypeDesc) (hg : w.heap[g]? = some (.cells cs t fr))
 (hu : P.underlying ty = some d) (hd : (match d with | .struct _ | .array _ _ => true | _ => false) = true) (hi : (P.info? ty).map (·.size) = some cs.size)
 (h : wpList P ops Q rest (a.put o.dst (.agg cs)) w) : wpList P ops Q (o :: rest) a w :=
 BigFrame.wpList_want hw fun K hK => wp_load_row ty x ho g hx t cs fr d hg hu hd hi (hK _ _ h)
theorem xeq {P : Program} {ops : Array Oper} {o : Oper} {a : Act} {w : World} {K : Act -> World -> Prop} {Q : Exit -> Act -> World -> Prop} {E : Prop} (hgd : o.guard = none) (f : FuncId) (args : Array Value)
 (hrun : (execOp a.eval o).run P w = .ok (.enter f args) w) (h : Calls P f args w fun e w' => ∃ v, e = .returned v /\ K (a.put o.dst v) w') : if Region.wanted o (yielded ops a.tmps) = true then Oper.wp P o a w K Q else E := by
 rw [if_pos (by simp [Region.wanted, hgd])]
 unfold Oper.wp
 rw [hrun, Oper.upon_enter]
 refine h.mono ?_
 rintro e w' ⟨v, rfl, hk⟩
 exact hk
theorem xga {P : Program} {o : Oper} {ρ : Operand -> Value} {w : World} (ty : TypeId) (x : Operand) (ho : o.op = .load ty x)
 (g : Nat) (hx : ρ x = .pointer (some ⟨g, 0, none⟩)) (t : TypeId) (cs : Array Value) (fr : Nat × Nat) (d : TypeDesc) (hg : w.heap[g]? = some (.cells cs t fr))
 (hu : P.underlying ty = some d) (hd : (match d with | .struct _ | .array _ _ => true | _ => false) = true) (hi : (P.info? ty).map (·.size) = some cs.size) :
 (execOp ρ o).run P w = .ok (.value (.agg cs)) w := by
 unfold execOp
 simp only [ho, hx, Instr.loadAt, Instr.sureAddr, Sem.run_bind, Sem.run_pure, Result.andThen_ok, run_loadVar_row w g t ty cs fr d hg hu hd hi]
structure JOk (j : JV) : Prop where
 da : j.dn <= 65536
 sz : j.sn <= 64
 cd : 0 <= j.cd /\ j.cd <= 3
 mo : 1 <= j.mo /\ j.mo <= 4096
 te : 0 <= j.te /\ j.te <= 3
 be : 0 <= j.be /\ j.be <= 16
 af : 0 <= j.af /\ j.af <= 16
 bu : 1 <= j.bu /\ j.bu <= 64
 ch : 1 <= j.ch /\ j.ch <= 4096
 ro : 0 <= j.ro /\ j.ro <= 64
 wo : 1 <= j.wo /\ j.wo <= 16
 rg : 1 <= j.rg /\ j.rg <= 64
theorem xie (n a b : Int) (h1 : a <= n) (h2 : n <= b) (w : World) : Calls prog 46 #[.int .i64 n, .int .i64 a, .int .i64 b] w fun e w' => e = .returned (.bool true) /\ w' = w := by
 refine (xe5 n a b w).mono ?_
 rintro e w' ⟨rfl, rfl⟩
 have g1 : decide (a <= n) = true := by simpa using h1
 have g2 : decide (n <= b) = true := by simpa using h2
 rw [g1, g2]
 exact ⟨rfl, rfl⟩
def CoEr (pt : List UInt8) (er : Int) : Prop := ∀ W, Calls prog 47 #[.string ⟨pt.toArray⟩] W fun e w' => ∃ p, e = .returned (.tuple #[.pointer p, .int .i64 er]) /\ KF W w'
theorem xj2 (j : JV) (er : Int) (hj : JOk j) (hC : CoEr j.pt er) (w : World) :
 Calls prog 26 #[jV j] w fun e w' => e = .returned (.bool (er == 0)) /\ KF w w' := by
 have HC := xa hC
 unfold CoEr at HC
 obtain ⟨b1, b2, ⟨b3, b4⟩, ⟨b5, b6⟩, ⟨b7, b8⟩, ⟨b9, b10⟩, ⟨b11, b12⟩, ⟨b13, b14⟩, ⟨b15, b16⟩, ⟨b17, b18⟩, ⟨b19, b20⟩, ⟨b21, b22⟩⟩ := hj
 have hsz : decide ((j.sn : Int) <= 64) = true := by simp; omega
 have hb1 : (j.dn : Int) <= 65536 := by omega
 have hb2 : (0 : Int) <= (j.dn : Int) := by omega
 have HN : Hid (∀ n a b : Int, a <= n -> n <= b -> ∀ W, Calls prog 46 #[.int .i64 n, .int .i64 a, .int .i64 b] W fun e w' => e = .returned (.bool true) /\ w' = W) := xa (fun n a b h1 h2 W => xie n a b h1 h2 W)
 have hjb := xfC w j
 obtain ⟨w1, hw⟩ : ∃ W, w.alloc (.cells (jCs j) 25) = W := ⟨_, rfl⟩
 rw [hw] at hjb
 have hk1 : KF w w1 := by rw [<- hw]; exact (xaa.refl _ _).alloc _
 have hs1 : w.heap.size + 1 <= w1.heap.size := by rw [<- hw]; simp
 have hw2 := hw
 unfold jCs at hw2
 have HW2 := xa hw2
 have HJ := xa hjb
 have HK1 := xa hk1
 clear hw2 hw hjb hk1 hC
 unfold jV jCs
 go_enter func26, ntmps26
 go_wp2_with fail
 rw [HW2.out]
 clear HW2
 obtain ⟨j0, j1, j2, j3, j4, j5, j6, j7, j8, j9, j10⟩ := HJ.out.c
 obtain ⟨j11, j12, j13, j14, j15, j16⟩ := HJ.out.d
 repeat (refine (HN.out _ _ _ (by assumption) (by assumption) _).mono ?_; rintro e w' ⟨rfl, rfl⟩; go_wp2_with fail)
 refine (HC.out _).mono ?_
 rintro e w2 ⟨p, rfl, k2⟩
 have HK2 := xa (HK1.out.trans k2)
 clear k2
 go_wp2
 go_ret
 exact ⟨rfl, HK2.out⟩
end Go.Proofs.YtapmdhejgnplaaaGreat
