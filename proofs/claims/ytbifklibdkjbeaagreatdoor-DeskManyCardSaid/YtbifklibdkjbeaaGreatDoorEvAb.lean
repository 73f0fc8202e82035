/-
  One operation of any kind; a list of operations. No condition.
-/
import Derived.Test.YtbifklibdkjbeaaGreatDoorEvAa
namespace Go.Proofs.YtbifklibdkjbeaaGreatDoor
open Go
set_option linter.unusedSimpArgs false
set_option linter.unusedVariables false

/-- A frame as it is reckoned. -/
structure FrOK (D : List Deferred) (ρ : Rho) (n : Nat) (fr : Fr) (a : Act) : Prop where
  size : a.tmps.size = fr.size
  den : ∀ t, (fr.get t).den ρ n (a.tmps.getD t undef)
  defers : a.defers = D
theorem FrOK.mono {D : List Deferred} {ρ ρ' : Rho} {n m : Nat} {fr : Fr} {a : Act} (h : FrOK D ρ n fr a) (hx : Ext ρ ρ' n) (hm : n ≤ m) : FrOK D ρ' m fr a :=
  ⟨h.size, fun t => AR.den_mono hx hm _ _ (h.den t), h.defers⟩
theorem FrOK.ev {D : List Deferred} {ρ : Rho} {n : Nat} {fr : Fr} {a : Act} (h : FrOK D ρ n fr a) : ∀ x : Operand, (fr.ev x).den ρ n (a.eval x)
  | .tmp t => h.den t
  | .const v => by
    show ((AR.of? v).getD .any).den ρ n v
    cases hv : AR.of? v with
    | none => trivial
    | some x => exact AR.of_den ρ n v x hv
  | .global g => ⟨rfl, rfl⟩
  | .func f => rfl
theorem FrOK.put {D : List Deferred} {ρ : Rho} {n : Nat} {fr fr' : Fr} {a : Act} (h : FrOK D ρ n fr a) {d : Option Tmp} {r : AR} {v : Value} (hp : fr.put d r = some fr') (hr : r.den ρ n v) : FrOK D ρ n fr' (a.put d v) := by
  rw [Fr.put_def] at hp
  cases d with
  | none => simp only [Option.some.injEq] at hp; subst hp; exact h
  | some d =>
    simp only at hp
    cases hb : Nat.blt d fr.size with
    | false => simp only [hb, cond_false, reduceCtorEq] at hp
    | true =>
      simp only [hb, cond_true, Option.some.injEq] at hp
      subst hp
      have hlt : d < a.tmps.size := by rw [h.size]; simpa [Nat.blt_eq] using hb
      refine ⟨by simp [Act.put, h.size], fun t => ?_, h.defers⟩
      simp only [Fr.get_put, Act.put]
      by_cases ht : t = d
      · subst ht
        rw [if_pos rfl]
        simp only [Array.getD_eq_getD_getElem?, Array.getElem?_setIfInBounds_self_of_lt hlt]
        exact hr
      · rw [if_neg ht]
        simp only [Array.getD_eq_getD_getElem?, Array.getElem?_setIfInBounds_ne (Ne.symm ht)]
        have := h.den t
        simpa [Array.getD_eq_getD_getElem?] using this
theorem FrOK.flush {D : List Deferred} {ρ : Rho} {n : Nat} {fr : Fr} {a : Act} (h : FrOK D ρ n fr a) : FrOK D ρ n fr.flush a :=
  ⟨h.size, fun t => by
    rcases Fr.get_flush fr t with e | e <;> rw [e]
    · exact h.den t
    · trivial, h.defers⟩

/-- No function with a body stands for the model's count of goroutines. -/
def noNG (P : Program) : Prop := ∀ (f : Nat) (fn : Func), P.funcs[f]? = some fn → fn.body.isSome = true → (fn.name == "runtime.NumGoroutine") = false
def OutEv (ρ : Rho) (n : Nat) : Out → Ending → Prop
  | .ret r, e => ∃ v, e = .returned v ∧ r.den ρ n v
  | .pan x, e => ∃ v, e = .panicked [{ v, recovered := false }] ∧ x.den ρ n v
/-- What is asked of calls. -/
def CallOK (P : Program) (call : CallF) : Prop := ∀ (f : FuncId) (az : List AV) (H : AH) (out : Out) (H' : AH), call f az H = some (out, H') → ∀ (ρ : Rho) (w : World) (vs : Array Value), HOK ρ H w →
  All2 (AV.den ρ H.next) az vs.toList → Calls P f vs w fun e w' => ∃ ρ', OutEv ρ' H'.next out e ∧ HOK ρ' H' w' ∧ Kp H ρ w H' ρ' w'

section
variable {P : Program} {ρ : Rho} {H : AH} {w : World} {e : Operand → Value} {ev : Ev} {D : List Deferred}
theorem args_den : ∀ {l : List Operand} {az : List AV}, argsA ev l = some az → EvOK ρ H.next ev e l → All2 (AV.den ρ H.next) az (l.map e)
  | [], az, h, _ => by simp [argsA] at h; subst h; trivial
  | x :: l, az, h, he => by
    simp only [argsA] at h
    split at h
    · rename_i a r ha hr
      simp only [Option.some.injEq] at h; subst h
      have hx := he x (by simp)
      rw [ha] at hx
      exact ⟨hx, args_den hr fun y hy => he y (by simp [hy])⟩
    · simp at h
theorem hasBody_run (hn : noNG P) {g : FuncId} (h : hasBody P g = true) (args : Array Value) : (callFunc g args).run P w = .ok (.enter g args) w := by
  unfold hasBody at h
  split at h
  · rename_i fn hfn
    have hne := hn g fn hfn h
    have hb : fn.body.isNone = false := by cases hb : fn.body <;> simp_all
    have hbn : ¬ fn.body = none := by intro hh; rw [hh] at h; simp at h
    simp only [callFunc, Sem.run_bind, run_program, Result.andThen_ok, hfn, hne, Bool.false_eq_true, if_false, hb, Sem.run_pure]
  · simp at h
/-- A place that a walk through a value's parts has come to. -/
def PlaceOK (ρ : Rho) (n : Nat) : AC ⊕ (Nat × Nat) → Place → Prop
  | .inl c, .val v => c.den ρ n v
  | .inr (id, o), .var a => id < n ∧ a = ⟨ρ.blk id, ρ.base id + o, none⟩
  | _, _ => False
theorem follow_den : ∀ {l : List FieldStep} {t xt : TypeId} {x y : AC ⊕ (Nat × Nat)} {p : Place}, followA P l t x = some (xt, y) → PlaceOK ρ H.next x p →
    ∃ q, (follow l t p).run P w = .ok (xt, q) w ∧ PlaceOK ρ H.next y q
  | [], t, xt, x, y, p, h, hp => by
    simp only [followA, Option.some.injEq, Prod.mk.injEq] at h
    obtain ⟨rfl, rfl⟩ := h
    exact ⟨p, rfl, hp⟩
  | s :: rest, t, xt, x, y, p, h, hp => by
    simp only [followA] at h
    split at h
    · rename_i off ft k hf
      obtain ⟨fields, fy, hu, hy, rfl, rfl, hs⟩ := fieldOf_spec hf
      split at h
      · rename_i id o hd
        cases p with
        | var a => exact hp.elim
        | val v =>
          obtain ⟨hl, hv⟩ := hp
          obtain ⟨q, hq, hqo⟩ := follow_den (p := .var ⟨ρ.blk id, ρ.base id + (o + fy.offset), none⟩) h ⟨hl, rfl⟩
          refine ⟨q, ?_, hqo⟩
          simp [follow, run_underlying hu, hy, hd, Place.get, hv, asAddr, fieldPlace, run_size hs, add_at, Nat.add_assoc]
          exact hq
      · rename_i id o hd
        cases p with
        | val v => exact hp.elim
        | var a =>
          obtain ⟨hl, hv⟩ := hp
          obtain ⟨q, hq, hqo⟩ := follow_den (p := .var ⟨ρ.blk id, ρ.base id + (o + fy.offset), none⟩) h ⟨hl, rfl⟩
          refine ⟨q, ?_, hqo⟩
          simp [follow, run_underlying hu, hy, hd, hv, fieldPlace, run_size hs, add_at, Nat.add_assoc]
          exact hq
      · simp at h
    · simp at h
theorem receiver_den {xt : TypeId} {x : AC ⊕ (Nat × Nat)} {ptr : Bool} {c : AC} {p : Place} (h : receiverA P xt x ptr = some c) (hp : PlaceOK ρ H.next x p) (wr : Option String) :
    ∃ v, (receiverAt xt p ptr wr).run P w = .ok v w ∧ c.den ρ H.next v := by
  unfold receiverA at h
  split at h
  · rename_i el c' hu
    simp only [Option.some.injEq] at h; subst h
    cases p with
    | var a => exact hp.elim
    | val v => exact ⟨v, by simp [receiverAt, run_underlying hu, Place.get], hp⟩
  · simp at h
  · rename_i d id o hne hu
    simp only [Option.some.injEq] at h; subst h
    cases p with
    | val v => exact hp.elim
    | var a =>
      obtain ⟨hl, rfl⟩ := hp
      refine ⟨_, ?_, hl, rfl⟩
      simp only [receiverAt, Sem.run_bind, run_underlying hu, Result.andThen_ok]
      cases d <;> first | rfl | (exact absurd hu (by intro hh; simp_all))
  · rename_i d c' hne hu
    simp only [Option.some.injEq] at h; subst h
    cases p with
    | var a => exact hp.elim
    | val v =>
      refine ⟨v, ?_, hp⟩
      simp only [receiverAt, Sem.run_bind, run_underlying hu, Result.andThen_ok]
      cases d <;> first | rfl | (exact absurd hu (by intro hh; simp_all))
  · simp at h
theorem method_den {t : TypeId} {c r : AC} {name : String} {f : FuncId} {v : Value} (h : methodA P t c name = some (f, r)) (hc : c.den ρ H.next v) (fuel : Nat) :
    ∃ u, (method (fuel + 1) t v name).run P w = .ok (f, u) w ∧ r.den ρ H.next u := by
  unfold methodA at h
  split at h
  · rename_i i hi
    split at h
    · rename_i m hm
      split at h
      · rename_i xt x g ptr hf hg
        simp only [Option.map_eq_some_iff, Prod.mk.injEq] at h
        obtain ⟨r', hr, rfl, rfl⟩ := h
        obtain ⟨q, hq, hqo⟩ := follow_den (P := P) (w := w) (p := .val v) hf hc
        obtain ⟨u, hu, hd⟩ := receiver_den (P := P) (w := w) hr hqo (if m.path.isEmpty then some ((name.splitOn ".").getLastD name) else none)
        refine ⟨u, ?_, hd⟩
        simp only [method, Sem.run_bind, typeInfo, run_program, Result.andThen_ok, hi, Sem.run_pure, hm, hq, hg, hu]
      · simp at h
    · simp at h
  · simp at h
theorem callee_sound (hn : noNG P) {o : Oper} {f : FuncId} {az : List AV} (h : calleeA P ev o = some (f, az)) (he : EvOK ρ H.next ev e o.op.operands.toList) :
    ∃ vs, (execOp e o).run P w = .ok (.enter f vs) w ∧ All2 (AV.den ρ H.next) az vs.toList := by
  obtain ⟨dst, op, ty, pos, after, guard⟩ := o
  cases op with
  | call c =>
    obtain ⟨callee, args, ats⟩ := c
    cases callee with
    | value g =>
      simp only [calleeA] at h
      split at h
      · rename_i x as' hg ha
        split at h
        · rename_i k fs cs hf
          cases hb : hasBody P k with
          | false => simp only [hb, cond_false, reduceCtorEq] at h
          | true =>
            simp only [hb, cond_true, Option.some.injEq, Prod.mk.injEq] at h
            obtain ⟨rfl, rfl⟩ := h
            have h1 := he g (by simp [Op.operands, Call.operands])
            rw [hg] at h1
            obtain ⟨fv, cv, hv, hdf, hdc⟩ := fn_den hf h1
            have hda := args_den ha (fun y hy => he y (by simp [Op.operands, Call.operands] at hy ⊢; exact .inr hy) : EvOK ρ H.next ev e args.toList)
            refine ⟨fv ++ args.map e ++ cv, ?_, ?_⟩
            · simp [execOp, resolve, invoke, hv, Deferred.ofValue, hasBody_run hn hb]
            · have lift : ∀ {l : List AC} {m : List Value}, All2 (AC.den ρ H.next) l m → All2 (AV.den ρ H.next) (l.map .c) m := by
                intro l m hh
                refine All2.of (by simpa using hh.len) fun i x y hx hy => ?_
                simp only [List.getElem?_map, Option.map_eq_some_iff] at hx
                obtain ⟨c, hc, rfl⟩ := hx
                obtain ⟨y', hy', hd⟩ := hh.get hc
                rw [hy] at hy'; cases hy'; exact hd
              simp only [Array.toList_append, Array.toList_map, List.append_assoc]
              exact (lift hdf).app (hda.app (lift hdc))
        · simp at h
      · simp at h
    | invoke r name =>
      simp only [calleeA] at h
      split at h
      · rename_i t c as' hr ha
        split at h
        · rename_i g x hm
          cases hb : hasBody P g with
          | false => simp only [hb, cond_false, reduceCtorEq] at h
          | true =>
            simp only [hb, cond_true, Option.some.injEq, Prod.mk.injEq] at h
            obtain ⟨rfl, rfl⟩ := h
            have h1 := he r (by simp [Op.operands, Call.operands])
            rw [hr] at h1
            obtain ⟨v, hv, hd⟩ := h1
            have hda := args_den ha (fun y hy => he y (by simp [Op.operands, Call.operands] at hy ⊢; exact .inr hy) : EvOK ρ H.next ev e args.toList)
            obtain ⟨u, hu, hdu⟩ := method_den (P := P) (w := w) hm hd (P.types.size + (Made.depth - 1))
            have hdp : 0 < Made.depth := by decide
            have hdep : P.types.size + (Made.depth - 1) + 1 = P.types.size + Made.depth := by omega
            rw [hdep] at hu
            refine ⟨#[u] ++ args.map e, ?_, ?_⟩
            · have hex : (#[e r] ++ args.map e).extract 1 (#[e r] ++ args.map e).size = args.map e := by
                apply Array.ext'
                simp [List.take_of_length_le]
              have h0 : (#[e r] ++ args.map e)[0]? = some (.iface t v) := by rw [Array.getElem?_append_left (by simp), hv]; rfl
              simp only [execOp, resolve, Sem.run_bind, Sem.run_pure, Result.andThen_ok, invoke, h0, hex]
              simp [callMethod, hu, hasBody_run hn hb]
            · have hl : (#[u] ++ args.map e).toList = u :: args.toList.map e := by simp
              rw [hl]; exact ⟨hdu, hda⟩
        · simp at h
      · simp at h
    | builtin b => simp [calleeA] at h
  | _ => simp [calleeA] at h
/-- One operation, whatever stands behind it. -/
theorem opA_sound (hn : noNG P) {call : CallF} (hcall : CallOK P call) {o : Oper} {out : Out} {H' : AH} (h : opA P call ev H o = some (out, H')) {a : Act} (hH : HOK ρ H w)
    (he : EvOK ρ H.next ev a.eval o.op.operands.toList) {next : Act → World → Prop} {Q : Exit → Act → World → Prop}
    (hret : ∀ r v w' ρ', out = .ret r → r.den ρ' H'.next v → HOK ρ' H' w' → Kp H ρ w H' ρ' w' → next (a.put o.dst v) w')
    (hpan : ∀ x v w' ρ', out = .pan x → x.den ρ' H'.next v → HOK ρ' H' w' → Kp H ρ w H' ρ' w' → Q (.panic [{ v, recovered := false }]) a w') : o.wp P a w next Q := by
  unfold opA at h
  unfold Oper.wp
  split at h
  · rename_i r hp
    simp only [Option.some.injEq, Prod.mk.injEq] at h
    obtain ⟨rfl, rfl⟩ := h
    obtain ⟨v, hv, hd⟩ := pureA_sound hp he w
    rw [hv]; exact hret r v w ρ rfl hd hH (Kp.refl _ _ _)
  · split at h
    · rename_i r hp
      simp only [Option.some.injEq, Prod.mk.injEq] at h
      obtain ⟨rfl, rfl⟩ := h
      obtain ⟨v, hv, hd⟩ := readA_sound hH hp he
      rw [hv]; exact hret r v w ρ rfl hd hH (Kp.refl _ _ _)
    · split at h
      · rename_i r H1 hp
        simp only [Option.some.injEq, Prod.mk.injEq] at h
        obtain ⟨rfl, rfl⟩ := h
        obtain ⟨v, w', ρ', hv, hd, hH', hK⟩ := actA_sound hH hp he
        rcases hv with hv | ⟨hv, rfl⟩
        · rw [hv]; exact hret r v w' ρ' rfl hd hH' hK
        · rw [hv]; exact hret r undef w' ρ' rfl hd hH' hK
      · split at h
        · rename_i f az hc
          obtain ⟨vs, hv, hda⟩ := callee_sound (w := w) hn hc he
          rw [hv]
          simp only [Oper.upon]
          split at h
          · rename_i r H1 hcl
            simp only [Option.some.injEq, Prod.mk.injEq] at h
            obtain ⟨rfl, rfl⟩ := h
            refine (hcall f az H _ _ hcl ρ w vs hH hda).mono ?_
            rintro en w' ⟨ρ', ⟨v, rfl, hd⟩, hH', hK⟩
            exact hret r v w' ρ' rfl hd hH' hK
          · rename_i x H1 hcl
            simp only [Option.some.injEq, Prod.mk.injEq] at h
            obtain ⟨rfl, rfl⟩ := h
            refine (hcall f az H _ _ hcl ρ w vs hH hda).mono ?_
            rintro en w' ⟨ρ', ⟨v, rfl, hd⟩, hH', hK⟩
            exact hpan x v w' ρ' rfl hd hH' hK
          · simp at h
        · split at h
          · rename_i r hp
            simp only [Option.some.injEq, Prod.mk.injEq] at h
            obtain ⟨rfl, rfl⟩ := h
            have hp' : scal P ev o = some r := by
              unfold scalC at hp
              split at hp
              · exact hp
              · simp at hp
            obtain ⟨v, hv, hd⟩ := scal_sound hp' he w
            rw [hv]; exact hret r v w ρ rfl hd hH (Kp.refl _ _ _)
          · simp only [Option.map_eq_some_iff, Prod.mk.injEq] at h
            obtain ⟨x, hp, rfl, rfl⟩ := h
            have key : ∃ v, (execOp a.eval o).run P w = .halt (.panic v) w ∧ x.den ρ H.next v := by
              obtain ⟨dst, op, ty, pos, after, guard⟩ := o
              have pan : ∀ v : Value, (∃ t y, v = .iface t y) → (Instr.panic v).run P w = .halt (.panic v) w := by
                rintro v ⟨t, y, rfl⟩; simp [Instr.panic]
              cases op with
              | panic y =>
                have hy := he y (by simp [Op.operands])
                simp only [panicA] at hp
                split at hp
                · rename_i t c hc
                  simp only [Option.some.injEq] at hp; subst hp
                  rw [hc] at hy
                  obtain ⟨u, hu, hd⟩ := hy
                  exact ⟨a.eval y, by simp [execOp, pan _ ⟨t, u, hu⟩], u, hu, hd⟩
                · rename_i t u hc
                  simp only [Option.some.injEq] at hp; subst hp
                  rw [hc] at hy
                  exact ⟨a.eval y, by simp [execOp, pan _ ⟨t, u, hy.1⟩], hy⟩
                · simp at hp
              | call c =>
                obtain ⟨callee, args, ats⟩ := c
                cases callee with
                | value f => simp [panicA] at hp
                | invoke r m => simp [panicA] at hp
                | builtin b =>
                  cases b with
                  | panic =>
                    simp only [panicA] at hp
                    cases hl : args.toList with
                    | nil => simp [hl] at hp
                    | cons y l =>
                      have hy := he y (by simp [Op.operands, Call.operands, hl])
                      have hy0 : (args.map a.eval)[0]? = some (a.eval y) := by
                        have : args[0]? = some y := by rw [← Array.getElem?_toList, hl]; rfl
                        simp [this]
                      have hg : (args.map a.eval).getD 0 .nilIface = a.eval y := by rw [Array.getD_eq_getD_getElem?, hy0]; rfl
                      simp only [hl, List.map_cons] at hp
                      split at hp
                      · rename_i t c r hc
                        simp only [Option.some.injEq] at hp; subst hp
                        simp only [List.cons.injEq] at hc
                        rw [hc.1] at hy
                        obtain ⟨u, hu, hd⟩ := hy
                        refine ⟨a.eval y, ?_, u, hu, hd⟩
                        simp only [execOp, resolve, Sem.run_bind, Sem.run_pure, Result.andThen_ok, invoke, builtin, hg, pan _ ⟨t, u, hu⟩, Result.andThen_halt]
                      · rename_i t u r hc
                        simp only [Option.some.injEq] at hp; subst hp
                        simp only [List.cons.injEq] at hc
                        rw [hc.1] at hy
                        refine ⟨a.eval y, ?_, hy⟩
                        simp only [execOp, resolve, Sem.run_bind, Sem.run_pure, Result.andThen_ok, invoke, builtin, hg, pan _ ⟨t, u, hy.1⟩, Result.andThen_halt]
                      · simp at hp
                  | _ => simp [panicA] at hp
              | _ => simp [panicA] at hp
            obtain ⟨v, hv, hd⟩ := key
            rw [hv]
            exact hpan x v w ρ rfl hd hH (Kp.refl _ _ _)
theorem bool_get {n : Nat} {fr : Fr} {a : Act} {d : Tmp} (h : (fr.get d).den ρ n (a.tmps.getD d undef)) {b : Bool} (hd : fr.get d = .one (.c (.lit (.bool b)))) : a.tmps[d]? = some (.bool b) := by
  rw [hd] at h
  have h1 := h.1
  rw [Array.getD_eq_getD_getElem?] at h1
  cases hx : a.tmps[d]? with
  | none => rw [hx] at h1; simp [undef] at h1
  | some x => rw [hx] at h1; simp at h1; rw [h1]
theorem wanted_of {n : Nat} {ops : Array Oper} {fr : Fr} {a : Act} {o : Oper} (hF : ∀ g c d, o.guard = some (g, c) → (ops[g]?).bind (·.dst) = some d → (fr.get d).den ρ n (a.tmps.getD d undef)) {b : Bool} (h : wantedA ops.toList fr o = some b) : Region.wanted o (yielded ops a.tmps) = b := by
  unfold wantedA at h
  unfold Region.wanted
  cases hg : o.guard with
  | none => simp only [hg, Option.some.injEq] at h ⊢; exact h
  | some p =>
    obtain ⟨j, want⟩ := p
    have hF := fun d => hF j want d hg
    simp only [hg] at h ⊢
    have hj : ops.toList[j]? = ops[j]? := by simp
    rw [hj] at h
    unfold yielded
    cases hd : (ops[j]?).bind (·.dst) with
    | none =>
      simp only [hd, Option.some.injEq] at h
      subst h; simp
    | some d =>
      simp only [hd] at h
      split at h
      · rename_i c hc
        simp only [Option.some.injEq] at h; subst h
        have := bool_get (hF d hd) hc
        simp only [Option.bind_some, this]
        cases c <;> cases want <;> rfl
      · rename_i hc
        simp only [Option.some.injEq] at h; subst h
        have hh := hF d hd
        rw [hc] at hh
        obtain ⟨vs, hv, hd'⟩ := hh
        have hne : ∀ c, a.tmps[d]? ≠ some (.bool c) := fun c hx => by
          rw [Array.getD_eq_getD_getElem?, hx] at hv; simp at hv
        simp only [Option.bind_some]
        cases hx : a.tmps[d]? with
        | none => rfl
        | some x => cases x <;> first | rfl | (exact absurd hx (hne _))
      · simp at h

theorem wanted_den {ops : Array Oper} {fr : Fr} {a : Act} (hF : FrOK D ρ H.next fr a) {o : Oper} {b : Bool} (h : wantedA ops.toList fr o = some b) : Region.wanted o (yielded ops a.tmps) = b :=
  wanted_of (fun _ _ d _ _ => hF.den d) h

/-- What a piece of code comes to. -/
def ExE (ρ : Rho) (n : Nat) : Ex → Exit → Prop
  | .normal, x => x = .normal
  | .exit id, x => x = .exit id
  | .ret, x => x = .ret
  | .pan y, x => ∃ v, x = .panic [{ v, recovered := false }] ∧ y.den ρ n v
def Comes' (D : List Deferred) (ρ : Rho) (H : AH) (w : World) (r : Ex × Fr × AH) (Q : Exit → Act → World → Prop) : Prop :=
  ∀ x a w' ρ', ExE ρ' r.2.2.next r.1 x → FrOK D ρ' r.2.2.next r.2.1 a → HOK ρ' r.2.2 w' → Kp H ρ w r.2.2 ρ' w' → Q x a w'
theorem listA_sound (hn : noNG P) {call : CallF} (hcall : CallOK P call) {ops : Array Oper} {Q : Exit → Act → World → Prop} :
    ∀ (l : List Oper) {fr : Fr} {ρ : Rho} {H : AH} {w : World} {a : Act} {r : Ex × Fr × AH}, listA P call ops.toList l fr H = some r → FrOK D ρ H.next fr a → HOK ρ H w → Comes' D ρ H w r Q → wpList P ops Q l a w
  | [], fr, ρ, H, w, a, r, h, hF, hH, hQ => by
    simp only [listA_nil, Option.some.injEq] at h; subst h
    exact hQ .normal a w ρ rfl hF hH (Kp.refl _ _ _)
  | o :: l, fr, ρ, H, w, a, r, h, hF, hH, hQ => by
    rw [listA_cons] at h
    refine wpList_step fun K hK => ?_
    split at h
    · rename_i hw
      rw [if_pos (wanted_den hF hw)]
      split at h
      · rename_i r1 H1 ho
        split at h
        · rename_i fr1 hp
          refine opA_sound hn hcall ho hH (fun x _ => hF.ev x) (fun r2 v w' ρ' he hd hH' hK' => ?_) (fun x v w' ρ' he => by cases he)
          cases he
          refine hK _ _ (listA_sound hn hcall l h ((hF.mono hK'.ext hK'.next).put hp hd) hH' fun x a2 w2 ρ2 h1 h2 h3 h4 => hQ x a2 w2 ρ2 h1 h2 h3 (hK'.trans h4))
        · simp at h
      · rename_i x1 H1 ho
        simp only [Option.some.injEq] at h; subst h
        refine opA_sound hn hcall ho hH (fun x _ => hF.ev x) (fun r2 v w' ρ' he => by cases he) (fun x v w' ρ' he hd hH' hK' => ?_)
        cases he
        exact hQ _ a w' ρ' ⟨v, rfl, hd⟩ (hF.mono hK'.ext hK'.next) hH' hK'
      · simp at h
    · rename_i hw
      rw [if_neg (by rw [wanted_den hF hw]; simp)]
      split at h
      · rename_i fr1 hp
        exact hK _ _ (listA_sound hn hcall l h (hF.put hp ⟨#[], rfl, trivial⟩) hH hQ)
      · simp at h
    · simp at h
end
end Go.Proofs.YtbifklibdkjbeaaGreatDoor
