/-
  Several texts in one: One operation of any kind; a list of operations. No condition. A region that draws its order: what the reckoned run has checked of it. No condition.
-/
import Derived.Test.YtgobcnheemocnaaGreatDoorMg7
section
namespace Go.Proofs.YtgobcnheemocnaaGreatDoor
open Go
set_option linter.unusedSimpArgs false
set_option linter.unusedVariables false

/-- A frame as it is reckoned. -/
structure FrOK (D : List Deferred) (ρ : Rho) (n : Nat) (fr : Fr) (a : Act) : Prop where
  size : a.tmps.size = fr.size
  den : ∀ t, (fr.get t).den ρ n (a.tmps.getD t undef)
  defers : a.defers = D
theorem FrOK.mono {D : List Deferred} {ρ ρ' : Rho} {n m : Nat} {fr : Fr} {a : Act} (h : FrOK D ρ n fr a) (hx : Ext ρ ρ' n) (hm : n ≤ m) : FrOK D ρ' m fr a :=
  ⟨h.size, fun t => AR.den_mono hx hm _ _ (h.den t), h.defers⟩
theorem FrOK.ev {D : List Deferred} {ρ : Rho} {n : Nat} {fr : Fr} {a : Act} (h : FrOK D ρ n fr a) : ∀ x : Operand, (fr.ev x).den ρ n (a.eval x)
  | .tmp t => h.den t
  | .const v => by
    show ((AR.of? v).getD .any).den ρ n v
    cases hv : AR.of? v with
    | none => trivial
    | some x => exact AR.of_den ρ n v x hv
  | .global g => ⟨rfl, rfl⟩
  | .func f => rfl
theorem FrOK.put {D : List Deferred} {ρ : Rho} {n : Nat} {fr fr' : Fr} {a : Act} (h : FrOK D ρ n fr a) {d : Option Tmp} {r : AR} {v : Value} (hp : fr.put d r = some fr') (hr : r.den ρ n v) : FrOK D ρ n fr' (a.put d v) := by
  rw [Fr.put_def] at hp
  cases d with
  | none => simp only [Option.some.injEq] at hp; subst hp; exact h
  | some d =>
    simp only at hp
    cases hb : Nat.blt d fr.size with
    | false => simp only [hb, cond_false, reduceCtorEq] at hp
    | true =>
      simp only [hb, cond_true, Option.some.injEq] at hp
      subst hp
      have hlt : d < a.tmps.size := by rw [h.size]; simpa [Nat.blt_eq] using hb
      refine ⟨by simp [Act.put, h.size], fun t => ?_, h.defers⟩
      simp only [Fr.get_put, Act.put]
      by_cases ht : t = d
      · subst ht
        rw [if_pos rfl]
        simp only [Array.getD_eq_getD_getElem?, Array.getElem?_setIfInBounds_self_of_lt hlt]
        exact hr
      · rw [if_neg ht]
        simp only [Array.getD_eq_getD_getElem?, Array.getElem?_setIfInBounds_ne (Ne.symm ht)]
        have := h.den t
        simpa [Array.getD_eq_getD_getElem?] using this
theorem FrOK.flush {D : List Deferred} {ρ : Rho} {n : Nat} {fr : Fr} {a : Act} (h : FrOK D ρ n fr a) : FrOK D ρ n fr.flush a :=
  ⟨h.size, fun t => by
    rcases Fr.get_flush fr t with e | e <;> rw [e]
    · exact h.den t
    · trivial, h.defers⟩

/-- No function with a body stands for the model's count of goroutines. -/
def noNG (P : Program) : Prop := ∀ (f : Nat) (fn : Func), P.funcs[f]? = some fn → fn.body.isSome = true → (fn.name == "runtime.NumGoroutine") = false
def OutEv (ρ : Rho) (n : Nat) : Out → Ending → Prop
  | .ret r, e => ∃ v, e = .returned v ∧ r.den ρ n v
  | .pan x, e => ∃ v, e = .panicked [{ v, recovered := false }] ∧ x.den ρ n v
/-- What is asked of calls. -/
def CallOK (P : Program) (call : CallF) : Prop := ∀ (f : FuncId) (az : List AV) (H : AH) (out : Out) (H' : AH), call f az H = some (out, H') → ∀ (ρ : Rho) (w : World) (vs : Array Value), HOK ρ H w →
  All2 (AV.den ρ H.next) az vs.toList → Calls P f vs w fun e w' => ∃ ρ', OutEv ρ' H'.next out e ∧ HOK ρ' H' w' ∧ Kp H ρ w H' ρ' w'

section
variable {P : Program} {ρ : Rho} {H : AH} {w : World} {e : Operand → Value} {ev : Ev} {D : List Deferred}
theorem args_den : ∀ {l : List Operand} {az : List AV}, argsA ev l = some az → EvOK ρ H.next ev e l → All2 (AV.den ρ H.next) az (l.map e)
  | [], az, h, _ => by simp [argsA] at h; subst h; trivial
  | x :: l, az, h, he => by
    simp only [argsA] at h
    split at h
    · rename_i a r ha hr
      simp only [Option.some.injEq] at h; subst h
      have hx := he x (by simp)
      rw [ha] at hx
      exact ⟨hx, args_den hr fun y hy => he y (by simp [hy])⟩
    · simp at h
theorem hasBody_run (hn : noNG P) {g : FuncId} (h : hasBody P g = true) (args : Array Value) : (callFunc g args).run P w = .ok (.enter g args) w := by
  unfold hasBody at h
  split at h
  · rename_i fn hfn
    have hne := hn g fn hfn h
    have hb : fn.body.isNone = false := by cases hb : fn.body <;> simp_all
    have hbn : ¬ fn.body = none := by intro hh; rw [hh] at h; simp at h
    simp only [callFunc, Sem.run_bind, run_program, Result.andThen_ok, hfn, hne, Bool.false_eq_true, if_false, hb, Sem.run_pure]
  · simp at h
/-- A place that a walk through a value's parts has come to. -/
def PlaceOK (ρ : Rho) (n : Nat) : AC ⊕ (Nat × Nat) → Place → Prop
  | .inl c, .val v => c.den ρ n v
  | .inr (id, o), .var a => id < n ∧ a = ⟨ρ.blk id, ρ.base id + o, none⟩
  | _, _ => False
theorem follow_den : ∀ {l : List FieldStep} {t xt : TypeId} {x y : AC ⊕ (Nat × Nat)} {p : Place}, followA P l t x = some (xt, y) → PlaceOK ρ H.next x p →
    ∃ q, (follow l t p).run P w = .ok (xt, q) w ∧ PlaceOK ρ H.next y q
  | [], t, xt, x, y, p, h, hp => by
    simp only [followA, Option.some.injEq, Prod.mk.injEq] at h
    obtain ⟨rfl, rfl⟩ := h
    exact ⟨p, rfl, hp⟩
  | s :: rest, t, xt, x, y, p, h, hp => by
    simp only [followA] at h
    split at h
    · rename_i off ft k hf
      obtain ⟨fields, fy, hu, hy, rfl, rfl, hs⟩ := fieldOf_spec hf
      split at h
      · rename_i id o hd
        cases p with
        | var a => exact hp.elim
        | val v =>
          obtain ⟨hl, hv⟩ := hp
          obtain ⟨q, hq, hqo⟩ := follow_den (p := .var ⟨ρ.blk id, ρ.base id + (o + fy.offset), none⟩) h ⟨hl, rfl⟩
          refine ⟨q, ?_, hqo⟩
          simp [follow, run_underlying hu, hy, hd, Place.get, hv, asAddr, fieldPlace, run_size hs, add_at, Nat.add_assoc]
          exact hq
      · rename_i id o hd
        cases p with
        | val v => exact hp.elim
        | var a =>
          obtain ⟨hl, hv⟩ := hp
          obtain ⟨q, hq, hqo⟩ := follow_den (p := .var ⟨ρ.blk id, ρ.base id + (o + fy.offset), none⟩) h ⟨hl, rfl⟩
          refine ⟨q, ?_, hqo⟩
          simp [follow, run_underlying hu, hy, hd, hv, fieldPlace, run_size hs, add_at, Nat.add_assoc]
          exact hq
      · simp at h
    · simp at h
theorem receiver_den {xt : TypeId} {x : AC ⊕ (Nat × Nat)} {ptr : Bool} {c : AC} {p : Place} (h : receiverA P xt x ptr = some c) (hp : PlaceOK ρ H.next x p) (wr : Option String) :
    ∃ v, (receiverAt xt p ptr wr).run P w = .ok v w ∧ c.den ρ H.next v := by
  unfold receiverA at h
  split at h
  · rename_i el c' hu
    simp only [Option.some.injEq] at h; subst h
    cases p with
    | var a => exact hp.elim
    | val v => exact ⟨v, by simp [receiverAt, run_underlying hu, Place.get], hp⟩
  · simp at h
  · rename_i d id o hne hu
    simp only [Option.some.injEq] at h; subst h
    cases p with
    | val v => exact hp.elim
    | var a =>
      obtain ⟨hl, rfl⟩ := hp
      refine ⟨_, ?_, hl, rfl⟩
      simp only [receiverAt, Sem.run_bind, run_underlying hu, Result.andThen_ok]
      cases d <;> first | rfl | (exact absurd hu (by intro hh; simp_all))
  · rename_i d c' hne hu
    simp only [Option.some.injEq] at h; subst h
    cases p with
    | var a => exact hp.elim
    | val v =>
      refine ⟨v, ?_, hp⟩
      simp only [receiverAt, Sem.run_bind, run_underlying hu, Result.andThen_ok]
      cases d <;> first | rfl | (exact absurd hu (by intro hh; simp_all))
  · simp at h
theorem method_den {t : TypeId} {c r : AC} {name : String} {f : FuncId} {v : Value} (h : methodA P t c name = some (f, r)) (hc : c.den ρ H.next v) (fuel : Nat) :
    ∃ u, (method (fuel + 1) t v name).run P w = .ok (f, u) w ∧ r.den ρ H.next u := by
  unfold methodA at h
  split at h
  · rename_i i hi
    split at h
    · rename_i m hm
      split at h
      · rename_i xt x g ptr hf hg
        simp only [Option.map_eq_some_iff, Prod.mk.injEq] at h
        obtain ⟨r', hr, rfl, rfl⟩ := h
        obtain ⟨q, hq, hqo⟩ := follow_den (P := P) (w := w) (p := .val v) hf hc
        obtain ⟨u, hu, hd⟩ := receiver_den (P := P) (w := w) hr hqo (if m.path.isEmpty then some ((name.splitOn ".").getLastD name) else none)
        refine ⟨u, ?_, hd⟩
        simp only [method, Sem.run_bind, typeInfo, run_program, Result.andThen_ok, hi, Sem.run_pure, hm, hq, hg, hu]
      · simp at h
    · simp at h
  · simp at h
theorem callee_sound (hn : noNG P) {o : Oper} {f : FuncId} {az : List AV} (h : calleeA P ev o = some (f, az)) (he : EvOK ρ H.next ev e o.op.operands.toList) :
    ∃ vs, (execOp e o).run P w = .ok (.enter f vs) w ∧ All2 (AV.den ρ H.next) az vs.toList := by
  obtain ⟨dst, op, ty, pos, after, guard⟩ := o
  cases op with
  | call c =>
    obtain ⟨callee, args, ats⟩ := c
    cases callee with
    | value g =>
      simp only [calleeA] at h
      split at h
      · rename_i x as' hg ha
        split at h
        · rename_i k fs cs hf
          cases hb : hasBody P k with
          | false => simp only [hb, cond_false, reduceCtorEq] at h
          | true =>
            simp only [hb, cond_true, Option.some.injEq, Prod.mk.injEq] at h
            obtain ⟨rfl, rfl⟩ := h
            have h1 := he g (by simp [Op.operands, Call.operands])
            rw [hg] at h1
            obtain ⟨fv, cv, hv, hdf, hdc⟩ := fn_den hf h1
            have hda := args_den ha (fun y hy => he y (by simp [Op.operands, Call.operands] at hy ⊢; exact .inr hy) : EvOK ρ H.next ev e args.toList)
            refine ⟨fv ++ args.map e ++ cv, ?_, ?_⟩
            · simp [execOp, resolve, invoke, hv, Deferred.ofValue, hasBody_run hn hb]
            · have lift : ∀ {l : List AC} {m : List Value}, All2 (AC.den ρ H.next) l m → All2 (AV.den ρ H.next) (l.map .c) m := by
                intro l m hh
                refine All2.of (by simpa using hh.len) fun i x y hx hy => ?_
                simp only [List.getElem?_map, Option.map_eq_some_iff] at hx
                obtain ⟨c, hc, rfl⟩ := hx
                obtain ⟨y', hy', hd⟩ := hh.get hc
                rw [hy] at hy'; cases hy'; exact hd
              simp only [Array.toList_append, Array.toList_map, List.append_assoc]
              exact (lift hdf).app (hda.app (lift hdc))
        · simp at h
      · simp at h
    | invoke r name =>
      simp only [calleeA] at h
      split at h
      · rename_i t c as' hr ha
        split at h
        · rename_i g x hm
          cases hb : hasBody P g with
          | false => simp only [hb, cond_false, reduceCtorEq] at h
          | true =>
            simp only [hb, cond_true, Option.some.injEq, Prod.mk.injEq] at h
            obtain ⟨rfl, rfl⟩ := h
            have h1 := he r (by simp [Op.operands, Call.operands])
            rw [hr] at h1
            obtain ⟨v, hv, hd⟩ := h1
            have hda := args_den ha (fun y hy => he y (by simp [Op.operands, Call.operands] at hy ⊢; exact .inr hy) : EvOK ρ H.next ev e args.toList)
            obtain ⟨u, hu, hdu⟩ := method_den (P := P) (w := w) hm hd (P.types.size + (Made.depth - 1))
            have hdp : 0 < Made.depth := by decide
            have hdep : P.types.size + (Made.depth - 1) + 1 = P.types.size + Made.depth := by omega
            rw [hdep] at hu
            refine ⟨#[u] ++ args.map e, ?_, ?_⟩
            · have hex : (#[e r] ++ args.map e).extract 1 (#[e r] ++ args.map e).size = args.map e := by
                apply Array.ext'
                simp [List.take_of_length_le]
              have h0 : (#[e r] ++ args.map e)[0]? = some (.iface t v) := by rw [Array.getElem?_append_left (by simp), hv]; rfl
              simp only [execOp, resolve, Sem.run_bind, Sem.run_pure, Result.andThen_ok, invoke, h0, hex]
              simp [callMethod, hu, hasBody_run hn hb]
            · have hl : (#[u] ++ args.map e).toList = u :: args.toList.map e := by simp
              rw [hl]; exact ⟨hdu, hda⟩
        · simp at h
      · simp at h
    | builtin b => simp [calleeA] at h
  | _ => simp [calleeA] at h
/-- One operation, whatever stands behind it. -/
theorem opA_sound (hn : noNG P) {call : CallF} (hcall : CallOK P call) {o : Oper} {out : Out} {H' : AH} (h : opA P call ev H o = some (out, H')) {a : Act} (hH : HOK ρ H w)
    (he : EvOK ρ H.next ev a.eval o.op.operands.toList) {next : Act → World → Prop} {Q : Exit → Act → World → Prop}
    (hret : ∀ r v w' ρ', out = .ret r → r.den ρ' H'.next v → HOK ρ' H' w' → Kp H ρ w H' ρ' w' → next (a.put o.dst v) w')
    (hpan : ∀ x v w' ρ', out = .pan x → x.den ρ' H'.next v → HOK ρ' H' w' → Kp H ρ w H' ρ' w' → Q (.panic [{ v, recovered := false }]) a w') : o.wp P a w next Q := by
  unfold opA at h
  unfold Oper.wp
  split at h
  · rename_i r hp
    simp only [Option.some.injEq, Prod.mk.injEq] at h
    obtain ⟨rfl, rfl⟩ := h
    obtain ⟨v, hv, hd⟩ := pureA_sound hp he w
    rw [hv]; exact hret r v w ρ rfl hd hH (Kp.refl _ _ _)
  · split at h
    · rename_i r hp
      simp only [Option.some.injEq, Prod.mk.injEq] at h
      obtain ⟨rfl, rfl⟩ := h
      obtain ⟨v, hv, hd⟩ := readA_sound hH hp he
      rw [hv]; exact hret r v w ρ rfl hd hH (Kp.refl _ _ _)
    · split at h
      · rename_i r H1 hp
        simp only [Option.some.injEq, Prod.mk.injEq] at h
        obtain ⟨rfl, rfl⟩ := h
        obtain ⟨v, w', ρ', hv, hd, hH', hK⟩ := actA_sound hH hp he
        rcases hv with hv | ⟨hv, rfl⟩
        · rw [hv]; exact hret r v w' ρ' rfl hd hH' hK
        · rw [hv]; exact hret r undef w' ρ' rfl hd hH' hK
      · split at h
        · rename_i f az hc
          obtain ⟨vs, hv, hda⟩ := callee_sound (w := w) hn hc he
          rw [hv]
          simp only [Oper.upon]
          split at h
          · rename_i r H1 hcl
            simp only [Option.some.injEq, Prod.mk.injEq] at h
            obtain ⟨rfl, rfl⟩ := h
            refine (hcall f az H _ _ hcl ρ w vs hH hda).mono ?_
            rintro en w' ⟨ρ', ⟨v, rfl, hd⟩, hH', hK⟩
            exact hret r v w' ρ' rfl hd hH' hK
          · rename_i x H1 hcl
            simp only [Option.some.injEq, Prod.mk.injEq] at h
            obtain ⟨rfl, rfl⟩ := h
            refine (hcall f az H _ _ hcl ρ w vs hH hda).mono ?_
            rintro en w' ⟨ρ', ⟨v, rfl, hd⟩, hH', hK⟩
            exact hpan x v w' ρ' rfl hd hH' hK
          · simp at h
        · split at h
          · rename_i r hp
            simp only [Option.some.injEq, Prod.mk.injEq] at h
            obtain ⟨rfl, rfl⟩ := h
            have hp' : scal P ev o = some r := by
              unfold scalC at hp
              split at hp
              · exact hp
              · simp at hp
            obtain ⟨v, hv, hd⟩ := scal_sound hp' he w
            rw [hv]; exact hret r v w ρ rfl hd hH (Kp.refl _ _ _)
          · simp only [Option.map_eq_some_iff, Prod.mk.injEq] at h
            obtain ⟨x, hp, rfl, rfl⟩ := h
            have key : ∃ v, (execOp a.eval o).run P w = .halt (.panic v) w ∧ x.den ρ H.next v := by
              obtain ⟨dst, op, ty, pos, after, guard⟩ := o
              have pan : ∀ v : Value, (∃ t y, v = .iface t y) → (Instr.panic v).run P w = .halt (.panic v) w := by
                rintro v ⟨t, y, rfl⟩; simp [Instr.panic]
              cases op with
              | panic y =>
                have hy := he y (by simp [Op.operands])
                simp only [panicA] at hp
                split at hp
                · rename_i t c hc
                  simp only [Option.some.injEq] at hp; subst hp
                  rw [hc] at hy
                  obtain ⟨u, hu, hd⟩ := hy
                  exact ⟨a.eval y, by simp [execOp, pan _ ⟨t, u, hu⟩], u, hu, hd⟩
                · rename_i t u hc
                  simp only [Option.some.injEq] at hp; subst hp
                  rw [hc] at hy
                  exact ⟨a.eval y, by simp [execOp, pan _ ⟨t, u, hy.1⟩], hy⟩
                · simp at hp
              | call c =>
                obtain ⟨callee, args, ats⟩ := c
                cases callee with
                | value f => simp [panicA] at hp
                | invoke r m => simp [panicA] at hp
                | builtin b =>
                  cases b with
                  | panic =>
                    simp only [panicA] at hp
                    cases hl : args.toList with
                    | nil => simp [hl] at hp
                    | cons y l =>
                      have hy := he y (by simp [Op.operands, Call.operands, hl])
                      have hy0 : (args.map a.eval)[0]? = some (a.eval y) := by
                        have : args[0]? = some y := by rw [← Array.getElem?_toList, hl]; rfl
                        simp [this]
                      have hg : (args.map a.eval).getD 0 .nilIface = a.eval y := by rw [Array.getD_eq_getD_getElem?, hy0]; rfl
                      simp only [hl, List.map_cons] at hp
                      split at hp
                      · rename_i t c r hc
                        simp only [Option.some.injEq] at hp; subst hp
                        simp only [List.cons.injEq] at hc
                        rw [hc.1] at hy
                        obtain ⟨u, hu, hd⟩ := hy
                        refine ⟨a.eval y, ?_, u, hu, hd⟩
                        simp only [execOp, resolve, Sem.run_bind, Sem.run_pure, Result.andThen_ok, invoke, builtin, hg, pan _ ⟨t, u, hu⟩, Result.andThen_halt]
                      · rename_i t u r hc
                        simp only [Option.some.injEq] at hp; subst hp
                        simp only [List.cons.injEq] at hc
                        rw [hc.1] at hy
                        refine ⟨a.eval y, ?_, hy⟩
                        simp only [execOp, resolve, Sem.run_bind, Sem.run_pure, Result.andThen_ok, invoke, builtin, hg, pan _ ⟨t, u, hy.1⟩, Result.andThen_halt]
                      · simp at hp
                  | _ => simp [panicA] at hp
              | _ => simp [panicA] at hp
            obtain ⟨v, hv, hd⟩ := key
            rw [hv]
            exact hpan x v w ρ rfl hd hH (Kp.refl _ _ _)
theorem bool_get {n : Nat} {fr : Fr} {a : Act} {d : Tmp} (h : (fr.get d).den ρ n (a.tmps.getD d undef)) {b : Bool} (hd : fr.get d = .one (.c (.lit (.bool b)))) : a.tmps[d]? = some (.bool b) := by
  rw [hd] at h
  have h1 := h.1
  rw [Array.getD_eq_getD_getElem?] at h1
  cases hx : a.tmps[d]? with
  | none => rw [hx] at h1; simp [undef] at h1
  | some x => rw [hx] at h1; simp at h1; rw [h1]
theorem wanted_of {n : Nat} {ops : Array Oper} {fr : Fr} {a : Act} {o : Oper} (hF : ∀ g c d, o.guard = some (g, c) → (ops[g]?).bind (·.dst) = some d → (fr.get d).den ρ n (a.tmps.getD d undef)) {b : Bool} (h : wantedA ops.toList fr o = some b) : Region.wanted o (yielded ops a.tmps) = b := by
  unfold wantedA at h
  unfold Region.wanted
  cases hg : o.guard with
  | none => simp only [hg, Option.some.injEq] at h ⊢; exact h
  | some p =>
    obtain ⟨j, want⟩ := p
    have hF := fun d => hF j want d hg
    simp only [hg] at h ⊢
    have hj : ops.toList[j]? = ops[j]? := by simp
    rw [hj] at h
    unfold yielded
    cases hd : (ops[j]?).bind (·.dst) with
    | none =>
      simp only [hd, Option.some.injEq] at h
      subst h; simp
    | some d =>
      simp only [hd] at h
      split at h
      · rename_i c hc
        simp only [Option.some.injEq] at h; subst h
        have := bool_get (hF d hd) hc
        simp only [Option.bind_some, this]
        cases c <;> cases want <;> rfl
      · rename_i hc
        simp only [Option.some.injEq] at h; subst h
        have hh := hF d hd
        rw [hc] at hh
        obtain ⟨vs, hv, hd'⟩ := hh
        have hne : ∀ c, a.tmps[d]? ≠ some (.bool c) := fun c hx => by
          rw [Array.getD_eq_getD_getElem?, hx] at hv; simp at hv
        simp only [Option.bind_some]
        cases hx : a.tmps[d]? with
        | none => rfl
        | some x => cases x <;> first | rfl | (exact absurd hx (hne _))
      · simp at h

theorem wanted_den {ops : Array Oper} {fr : Fr} {a : Act} (hF : FrOK D ρ H.next fr a) {o : Oper} {b : Bool} (h : wantedA ops.toList fr o = some b) : Region.wanted o (yielded ops a.tmps) = b :=
  wanted_of (fun _ _ d _ _ => hF.den d) h

/-- What a piece of code comes to. -/
def ExE (ρ : Rho) (n : Nat) : Ex → Exit → Prop
  | .normal, x => x = .normal
  | .exit id, x => x = .exit id
  | .ret, x => x = .ret
  | .pan y, x => ∃ v, x = .panic [{ v, recovered := false }] ∧ y.den ρ n v
def Comes' (D : List Deferred) (ρ : Rho) (H : AH) (w : World) (r : Ex × Fr × AH) (Q : Exit → Act → World → Prop) : Prop :=
  ∀ x a w' ρ', ExE ρ' r.2.2.next r.1 x → FrOK D ρ' r.2.2.next r.2.1 a → HOK ρ' r.2.2 w' → Kp H ρ w r.2.2 ρ' w' → Q x a w'
theorem listA_sound (hn : noNG P) {call : CallF} (hcall : CallOK P call) {ops : Array Oper} {Q : Exit → Act → World → Prop} :
    ∀ (l : List Oper) {fr : Fr} {ρ : Rho} {H : AH} {w : World} {a : Act} {r : Ex × Fr × AH}, listA P call ops.toList l fr H = some r → FrOK D ρ H.next fr a → HOK ρ H w → Comes' D ρ H w r Q → wpList P ops Q l a w
  | [], fr, ρ, H, w, a, r, h, hF, hH, hQ => by
    simp only [listA_nil, Option.some.injEq] at h; subst h
    exact hQ .normal a w ρ rfl hF hH (Kp.refl _ _ _)
  | o :: l, fr, ρ, H, w, a, r, h, hF, hH, hQ => by
    rw [listA_cons] at h
    refine wpList_step fun K hK => ?_
    split at h
    · rename_i hw
      rw [if_pos (wanted_den hF hw)]
      split at h
      · rename_i r1 H1 ho
        split at h
        · rename_i fr1 hp
          refine opA_sound hn hcall ho hH (fun x _ => hF.ev x) (fun r2 v w' ρ' he hd hH' hK' => ?_) (fun x v w' ρ' he => by cases he)
          cases he
          refine hK _ _ (listA_sound hn hcall l h ((hF.mono hK'.ext hK'.next).put hp hd) hH' fun x a2 w2 ρ2 h1 h2 h3 h4 => hQ x a2 w2 ρ2 h1 h2 h3 (hK'.trans h4))
        · simp at h
      · rename_i x1 H1 ho
        simp only [Option.some.injEq] at h; subst h
        refine opA_sound hn hcall ho hH (fun x _ => hF.ev x) (fun r2 v w' ρ' he => by cases he) (fun x v w' ρ' he hd hH' hK' => ?_)
        cases he
        exact hQ _ a w' ρ' ⟨v, rfl, hd⟩ (hF.mono hK'.ext hK'.next) hH' hK'
      · simp at h
    · rename_i hw
      rw [if_neg (by rw [wanted_den hF hw]; simp)]
      split at h
      · rename_i fr1 hp
        exact hK _ _ (listA_sound hn hcall l h (hF.put hp ⟨#[], rfl, trivial⟩) hH hQ)
      · simp at h
    · simp at h
end
end Go.Proofs.YtgobcnheemocnaaGreatDoor
end
section
namespace Go.Proofs.YtgobcnheemocnaaGreatDoor
open Go
set_option linter.unusedSimpArgs false
set_option linter.unusedVariables false

theorem allIx_at {α : Type} {p : Nat → α → Bool} : ∀ {l : List α} {i : Nat}, allIx p l i = true → ∀ k x, l[k]? = some x → p (i + k) x = true
  | [], _, _, k, x, h => by simp at h
  | y :: l, i, h, 0, x, hx => by
    simp only [allIx, Bool.and_eq_true] at h
    simp only [List.getElem?_cons_zero, Option.some.injEq] at hx
    subst hx; exact h.1
  | y :: l, i, h, k + 1, x, hx => by
    simp only [allIx, Bool.and_eq_true] at h
    have := allIx_at h.2 k x (by simpa using hx)
    rw [show i + (k + 1) = i + 1 + k from by omega]; exact this

/-- A set of operations that holds with each all that its edges name. -/
def Closed (ops : List Oper) (L : Nat → Bool) : Prop := ∀ i x, ops[i]? = some x → L i = true → ∀ e ∈ x.after.toList, Region.binds .any e = true → L e.on = true
/-- What comes ahead of i is in each closed set that holds i's edges. -/
def MaskOK (ops : List Oper) (t : Tr Nat) : Prop := ∀ L, Closed ops L → ∀ i x j, ops[i]? = some x → ahead t i j = true → (∀ e ∈ x.after.toList, Region.binds .any e = true → L e.on = true) → L j = true
theorem mask_fold (t : Tr Nat) (j : Nat) : ∀ (es : List Edge) (s : Nat), (es.foldl (fun s e => bif Region.binds .any e then Nat.lor (Nat.lor s (2 ^ e.on)) ((t.get e.on).getD 0) else s) s).testBit j = true →
    s.testBit j = true ∨ ∃ e ∈ es, Region.binds .any e = true ∧ (j = e.on ∨ ahead t e.on j = true)
  | [], s, h => .inl h
  | e :: es, s, h => by
    simp only [List.foldl_cons] at h
    rcases mask_fold t j es _ h with h1 | ⟨e', he, hb, hj⟩
    · cases hbe : Region.binds .any e with
      | false => rw [hbe] at h1; exact .inl h1
      | true =>
        rw [hbe, cond_true] at h1
        have h2 : ((s ||| 2 ^ e.on) ||| ((t.get e.on).getD 0)).testBit j = true := h1
        rw [Nat.testBit_or, Nat.testBit_or] at h2
        simp only [Bool.or_eq_true] at h2
        rcases h2 with (h2 | h2) | h2
        · exact .inl h2
        · rw [Nat.testBit_two_pow] at h2
          simp only [decide_eq_true_eq] at h2
          exact .inr ⟨e, by simp, hbe, .inl h2.symm⟩
        · exact .inr ⟨e, by simp, hbe, .inr h2⟩
    · exact .inr ⟨e', by simp [he], hb, hj⟩
theorem masks_ok (ops : List Oper) : ∀ (l pre : List Oper) (t : Tr Nat), ops = pre ++ l → (∀ i, pre.length ≤ i → t.get i = none) → MaskOK ops t → MaskOK ops (masks l pre.length t)
  | [], _, _, _, _, h => h
  | o :: l, pre, t, ho, hnone, h => by
    simp only [masks]
    have hlen : pre.length + 1 = (pre ++ [o]).length := by simp
    rw [hlen]
    refine masks_ok ops l (pre ++ [o]) _ (by simp [ho]) (fun i hi => ?_) ?_
    · rw [Tr.get_put]
      simp at hi
      rw [if_neg (by omega)]; exact hnone i (by omega)
    · intro L hL i x j hx hj he
      have ho' : ops[pre.length]? = some o := by rw [ho]; simp
      unfold ahead at hj
      rw [Tr.get_put] at hj
      by_cases hi : i = pre.length
      · subst hi
        rw [if_pos rfl] at hj
        rw [ho'] at hx; cases hx
        rcases mask_fold t j _ 0 hj with h1 | ⟨e, hem, hb, hj'⟩
        · simp at h1
        · have hLe := he e hem hb
          rcases hj' with rfl | hj'
          · exact hLe
          · cases hy : ops[e.on]? with
            | none =>
              have : t.get e.on = none := hnone _ (by
                have h1 := List.getElem?_eq_none_iff.1 hy
                rw [ho] at h1; simp at h1; omega)
              simp [ahead, this] at hj'
            | some y => exact h L hL e.on y j hy hj' fun e' he' hb' => hL e.on y hy hLe e' he' hb'
      · rw [if_neg hi] at hj
        exact h L hL i x j hx hj he
theorem masks_all (ops : List Oper) : MaskOK ops (masks ops 0 .nil) :=
  masks_ok ops ops [] .nil rfl (fun _ _ => rfl) (fun L _ i x j _ hj _ => by simp [ahead, Tr.get] at hj)

theorem Value.same_eq {v u : Value} (h : Value.same v u = true) : v = u := by
  unfold Value.same at h
  split at h <;> first | (simp_all; done) | skip
  · rename_i a b
    simp only [beq_iff_eq] at h
    rw [show a = b from ByteArray.ext (Array.toList_inj.1 h)]
theorem AC.same_eq : ∀ {x y : AC}, x.same y = true → x = y
  | .lit v, .lit u, h => by rw [Value.same_eq (v := v) (u := u) h]
  | .ptr a b, .ptr c d, h => by simp only [AC.same, Bool.and_eq_true, Nat.beq_eq] at h; rw [h.1, h.2]
  | .sl a b c d e f, .sl a' b' c' d' e' f', h => by
    simp only [AC.same, Bool.and_eq_true, Nat.beq_eq, beq_iff_eq] at h
    obtain ⟨rfl, rfl, rfl, rfl, rfl, rfl⟩ := h; rfl
  | .ifc t c, .ifc u d, h => by simp only [AC.same, Bool.and_eq_true, Nat.beq_eq] at h; rw [h.1, AC.same_eq h.2]
  | .fn f, .fn g, h => by simp only [AC.same, beq_iff_eq] at h; rw [h]
  | .cap a b, .cap c d, h => by simp only [AC.same, Bool.and_eq_true] at h; rw [AC.same_eq h.1, AC.same_eq h.2]
  | .fst a b, .fst c d, h => by simp only [AC.same, Bool.and_eq_true] at h; rw [AC.same_eq h.1, AC.same_eq h.2]
  | .lit _, .ptr .., h => by simp [AC.same] at h
  | .lit _, .sl .., h => by simp [AC.same] at h
  | .lit _, .ifc .., h => by simp [AC.same] at h
  | .lit _, .fn .., h => by simp [AC.same] at h
  | .lit _, .cap .., h => by simp [AC.same] at h
  | .lit _, .fst .., h => by simp [AC.same] at h
  | .ptr .., .lit .., h => by simp [AC.same] at h
  | .ptr .., .sl .., h => by simp [AC.same] at h
  | .ptr .., .ifc .., h => by simp [AC.same] at h
  | .ptr .., .fn .., h => by simp [AC.same] at h
  | .ptr .., .cap .., h => by simp [AC.same] at h
  | .ptr .., .fst .., h => by simp [AC.same] at h
  | .sl .., .lit .., h => by simp [AC.same] at h
  | .sl .., .ptr .., h => by simp [AC.same] at h
  | .sl .., .ifc .., h => by simp [AC.same] at h
  | .sl .., .fn .., h => by simp [AC.same] at h
  | .sl .., .cap .., h => by simp [AC.same] at h
  | .sl .., .fst .., h => by simp [AC.same] at h
  | .ifc .., .lit .., h => by simp [AC.same] at h
  | .ifc .., .ptr .., h => by simp [AC.same] at h
  | .ifc .., .sl .., h => by simp [AC.same] at h
  | .ifc .., .fn .., h => by simp [AC.same] at h
  | .ifc .., .cap .., h => by simp [AC.same] at h
  | .ifc .., .fst .., h => by simp [AC.same] at h
  | .fn .., .lit .., h => by simp [AC.same] at h
  | .fn .., .ptr .., h => by simp [AC.same] at h
  | .fn .., .sl .., h => by simp [AC.same] at h
  | .fn .., .ifc .., h => by simp [AC.same] at h
  | .fn .., .cap .., h => by simp [AC.same] at h
  | .fn .., .fst .., h => by simp [AC.same] at h
  | .cap .., .lit .., h => by simp [AC.same] at h
  | .cap .., .ptr .., h => by simp [AC.same] at h
  | .cap .., .sl .., h => by simp [AC.same] at h
  | .cap .., .ifc .., h => by simp [AC.same] at h
  | .cap .., .fn .., h => by simp [AC.same] at h
  | .cap .., .fst .., h => by simp [AC.same] at h
  | .fst .., .lit .., h => by simp [AC.same] at h
  | .fst .., .ptr .., h => by simp [AC.same] at h
  | .fst .., .sl .., h => by simp [AC.same] at h
  | .fst .., .ifc .., h => by simp [AC.same] at h
  | .fst .., .fn .., h => by simp [AC.same] at h
  | .fst .., .cap .., h => by simp [AC.same] at h
theorem sameAll_eq : ∀ {l m : List AC}, sameAll l m = true → l = m
  | [], [], _ => rfl
  | x :: l, y :: m, h => by simp only [sameAll, Bool.and_eq_true] at h; rw [AC.same_eq h.1, sameAll_eq h.2]
  | [], _ :: _, h => by simp [sameAll] at h
  | _ :: _, [], h => by simp [sameAll] at h
theorem readsAs_eq {P : Program} {H : AH} {ev : Ev} {o : Oper} {r : AR} (h : readsAs P H ev o r = true) : readA P H ev o = some r := by
  unfold readsAs at h
  split at h
  · rename_i x y hx
    rw [hx]
    cases x <;> cases y <;> simp only [AV.same, Bool.false_eq_true] at h
    · rw [AC.same_eq h]
    · rw [sameAll_eq h]
  · simp at h

/-- One step of the walk in the listed order. -/
def StepOK (P : Program) (call : CallF) (ops : List Oper) (o : Oper) (fr : Fr) (H : AH) (cls : Nat) (r : AR) (H' : AH) : Prop :=
  (wantedA ops fr o = some false ∧ r = .tup [] ∧ H' = H ∧ (kindA P o = 0 ∧ cls = 0 ∨ kindA P o ≠ 0 ∧ cls = 1)) ∨
  (wantedA ops fr o = some true ∧ kindA P o = 0 ∧ cls = 0 ∧ pureA P fr.ev o = some r ∧ H' = H) ∨
  (wantedA ops fr o = some true ∧ kindA P o = 0 ∧ cls = 2 ∧ readA P H fr.ev o = some r ∧ H' = H) ∨
  (wantedA ops fr o = some true ∧ kindA P o ≠ 0 ∧ cls = 1 ∧ opA P call fr.ev H o = some (.ret r, H'))
theorem StepOK.same {P : Program} {call : CallF} {ops : List Oper} {o : Oper} {fr : Fr} {H : AH} {cls : Nat} {r : AR} {H' : AH} (h : StepOK P call ops o fr H cls r H') (hc : cls ≠ 1) : H' = H := by
  rcases h with ⟨_, _, h, _⟩ | ⟨_, _, _, _, h⟩ | ⟨_, _, _, _, h⟩ | ⟨_, _, h, _⟩
  · exact h
  · exact h
  · exact h
  · exact absurd h hc
/-- The whole walk, place by place. -/
structure PassOK (P : Program) (call : CallF) (ops l : List Oper) (rs : List Rc) (fr : Fr) (H : AH) (fr' : Fr) (H' : AH) (fs : Nat → Fr) (hs : Nat → AH) (rr : Nat → AR) (cl : Nat → Nat) : Prop where
  f0 : fs 0 = fr
  h0 : hs 0 = H
  fn : fs l.length = fr'
  hn : hs l.length = H'
  put : ∀ i x, l[i]? = some x → (fs i).put x.dst (rr i) = some (fs (i + 1))
  step : ∀ i x, l[i]? = some x → StepOK P call ops x (fs i) (hs i) (cl i) (rr i) (hs (i + 1))
  len : rs.length = l.length
  rc : ∀ i c, rs[i]? = some c → c.fr = fs i ∧ c.cls = cl i ∧ c.r = rr i ∧ c.H = hs i
theorem pass_ok {P : Program} {call : CallF} {ops : List Oper} : ∀ {l : List Oper} {rs : List Rc} {fr : Fr} {H : AH} {fr' : Fr} {H' : AH}, passA P call ops l fr H = some (rs, fr', H') →
    ∃ fs hs rr cl, PassOK P call ops l rs fr H fr' H' fs hs rr cl
  | [], rs, fr, H, fr', H', h => by
    simp only [passA, Option.some.injEq, Prod.mk.injEq] at h
    obtain ⟨rfl, rfl, rfl⟩ := h
    exact ⟨fun _ => fr, fun _ => H, fun _ => .any, fun _ => 0, rfl, rfl, rfl, rfl, fun _ _ h => by simp at h, fun _ _ h => by simp at h, rfl, fun _ _ h => by simp at h⟩
  | o :: l, rs, fr, H, fr', H', h => by
    have key : ∀ cls r H1, StepOK P call ops o fr H cls r H1 → (match fr.put o.dst r with
        | some fr' => (passA P call ops l fr' H1).map fun (rs, x) => ((⟨fr, cls, r, H⟩ : Rc) :: rs, x)
        | none => none) = some (rs, fr', H') → ∃ fs hs rr cl, PassOK P call ops (o :: l) rs fr H fr' H' fs hs rr cl := by
      intro cls r H1 hst hm
      split at hm
      · rename_i fr1 hp
        simp only [Option.map_eq_some_iff] at hm
        obtain ⟨⟨rs1, fr2, H2⟩, hr, he⟩ := hm
        simp only [Prod.mk.injEq] at he
        obtain ⟨rfl, rfl, rfl⟩ := he
        obtain ⟨fs, hs, rr, cl, ok⟩ := pass_ok hr
        refine ⟨fun i => match i with | 0 => fr | i + 1 => fs i, fun i => match i with | 0 => H | i + 1 => hs i, fun i => match i with | 0 => r | i + 1 => rr i, fun i => match i with | 0 => cls | i + 1 => cl i,
          rfl, rfl, ok.fn, ok.hn, fun i x hx => ?_, fun i x hx => ?_, by simp [ok.len], fun i c hc => ?_⟩
        · cases i with
          | zero => simp only [List.getElem?_cons_zero, Option.some.injEq] at hx; subst hx; rw [hp, ← ok.f0]
          | succ i => exact ok.put i x (by simpa using hx)
        · cases i with
          | zero => simp only [List.getElem?_cons_zero, Option.some.injEq] at hx; subst hx; show StepOK _ _ _ _ _ _ _ _ (hs 0); rw [ok.h0]; exact hst
          | succ i => exact ok.step i x (by simpa using hx)
        · cases i with
          | zero => simp only [List.getElem?_cons_zero, Option.some.injEq] at hc; subst hc; exact ⟨rfl, rfl, rfl, rfl⟩
          | succ i => exact ok.rc i c (by simpa using hc)
      · simp at hm
    simp only [passA, opF_eq] at h
    split at h
    · simp at h
    · rename_i hw
      refine key _ _ _ (.inl ⟨hw, rfl, rfl, ?_⟩) h
      cases hk : Nat.beq (kindA P o) 0 with
      | true => exact .inl ⟨Nat.eq_of_beq_eq_true hk, rfl⟩
      | false => exact .inr ⟨(fun e => by rw [e] at hk; cases hk), rfl⟩
    · rename_i hw
      cases hk : Nat.beq (kindA P o) 0 with
      | true =>
        simp only [hk, cond_true] at h
        have hk' := Nat.eq_of_beq_eq_true hk
        split at h
        · rename_i r hp
          exact key _ _ _ (.inr (.inl ⟨hw, hk', rfl, hp, rfl⟩)) h
        · split at h
          · rename_i r hp
            exact key _ _ _ (.inr (.inr (.inl ⟨hw, hk', rfl, hp, rfl⟩))) h
          · simp at h
      | false =>
        simp only [hk, cond_false] at h
        have hk' : kindA P o ≠ 0 := fun e => by rw [e] at hk; cases hk
        split at h
        · rename_i r H1 hp
          exact key _ _ _ (.inr (.inr (.inr ⟨hw, hk', rfl, hp⟩))) h
        · simp at h
/-- A read tells the same at each place of the chain where it may be its turn. -/
theorem chk_at {P : Program} {t : Tr Nat} {i : Nat} {ev : Ev} {o : Oper} {r : AR} {H' : AH} : ∀ (rs : List Rc) (k : Nat), chkA P t i ev o r (stopsA rs k H') = true → ∀ p, (p < rs.length → ahead t i (k + p) = false) →
    (∀ q, q < p → ∀ c, rs[q]? = some c → c.cls = 1 → ahead t (k + q) i = false) →
    (∀ c, rs[p]? = some c → c.cls = 1 → readA P c.H ev o = some r) ∧ (p = rs.length → readA P H' ev o = some r)
  | [], k, h, p, _, _ => ⟨fun c hc => by simp at hc, fun _ => readsAs_eq h⟩
  | d :: rs, k, h, p, hi, hq => by
    simp only [stopsA] at h
    have ind : chkA P t i ev o r (stopsA rs (k + 1) H') = true → ∀ p', p = p' + 1 →
        (∀ c, (d :: rs)[p]? = some c → c.cls = 1 → readA P c.H ev o = some r) ∧ (p = (d :: rs).length → readA P H' ev o = some r) := by
      intro h1 p' hp
      subst hp
      obtain ⟨a1, a2⟩ := chk_at rs (k + 1) h1 p' (fun hh => by rw [show k + 1 + p' = k + (p' + 1) from by omega]; exact hi (by simpa using hh))
        (fun q hqp c hc h1 => by rw [show k + 1 + q = k + (q + 1) from by omega]; exact hq (q + 1) (by omega) c (by simpa using hc) h1)
      exact ⟨fun c hc => a1 c (by simpa using hc), fun hh => a2 (by simpa using hh)⟩
    cases hcl : Nat.beq d.cls 1 with
    | true =>
      simp only [hcl, cond_true, chkA, Bool.and_eq_true, Bool.or_eq_true] at h
      cases p with
      | zero =>
        refine ⟨fun c hc _ => ?_, fun hh => by simp at hh⟩
        simp only [List.getElem?_cons_zero, Option.some.injEq] at hc; subst hc
        have h1 := hi (by simp)
        rcases h.1 with h2 | h2
        · rw [Nat.add_zero] at h1; rw [h1] at h2; simp at h2
        · exact readsAs_eq h2
      | succ p' =>
        refine ind ?_ p' rfl
        have h1 := hq 0 (by omega) d rfl (Nat.eq_of_beq_eq_true hcl)
        rcases h.2 with h2 | h2
        · rw [Nat.add_zero] at h1; rw [h1] at h2; simp at h2
        · exact h2
    | false =>
      simp only [hcl, cond_false] at h
      cases p with
      | zero =>
        refine ⟨fun c hc h1 => ?_, fun hh => by simp at hh⟩
        simp only [List.getElem?_cons_zero, Option.some.injEq] at hc; subst hc
        rw [h1] at hcl; cases hcl
      | succ p' => exact ind h p' rfl
theorem chkAll_at {P : Program} {t : Tr Nat} {stops : List (Option Nat × AH)} : ∀ {l : List Oper} {rs : List Rc} {k : Nat}, chkAll P t stops l rs k = true → ∀ i o c, l[i]? = some o → rs[i]? = some c → c.cls = 2 →
    chkA P t (k + i) c.fr.ev o c.r stops = true
  | [], rs, k, _, i, o, c, ho, _, _ => by simp at ho
  | x :: l, [], k, _, i, o, c, _, hc, _ => by simp at hc
  | x :: l, d :: rs, k, h, i, o, c, ho, hc, h2 => by
    simp only [chkAll, Bool.and_eq_true, Bool.or_eq_true] at h
    cases i with
    | zero =>
      simp only [List.getElem?_cons_zero, Option.some.injEq] at ho hc
      subst ho; subst hc
      rcases h.1 with h1 | h1
      · rw [h2] at h1; cases h1
      · exact h1
    | succ i =>
      have := chkAll_at h.2 i o c (by simpa using ho) (by simpa using hc) h2
      rw [show k + (i + 1) = k + 1 + i from by omega]; exact this
end Go.Proofs.YtgobcnheemocnaaGreatDoor
end
