/-
  Several texts in one: The reckoned run is a run of the model: regions, code, calls. No condition. The reckoned run is a run of the model: calls; a closed call that is reckoned true is true in every world. No condition.
-/
import Derived.Test.YtgobcnheemocnaaGreatDoorMg9
import Derived.Test.YtgobcnheemocnaaGreatDoorMg1
import Derived.Defers
import Derived.Recover
section
namespace Go.Proofs.YtgobcnheemocnaaGreatDoor
open Go
set_option linter.unusedSimpArgs false
set_option linter.unusedVariables false

section
variable {P : Program} {call : CallF} {ρ : Rho} {H : AH} {w : World} {D : List Deferred}
theorem draw_sound (hn : noNG P) (hm : P.follows .mixedOrders = true) (hcall : CallOK P call) {ops : Array Oper} {id : Nat} {fr : Fr} {a : Act} {r : Ex × Fr × AH} {Q : Exit → Act → World → Prop}
    (h : drawA P call ops.toList fr H = some r) (hF : FrOK D ρ H.next fr a) (hH : HOK ρ H w) (hQ : Comes' D ρ H w r Q) : (Code.region id ops true).wp P Q a w := by
  unfold drawA at h
  simp only at h
  cases hd : drawOK P ops.toList (masks ops.toList 0 .nil) with
  | false => simp only [hd, cond_false, reduceCtorEq] at h
  | true =>
    simp only [hd, cond_true] at h
    split at h
    · rename_i rs fr' H' hp
      cases hc : chkAll P (masks ops.toList 0 .nil) (stopsA rs 0 H') ops.toList rs 0 with
      | false => simp only [hc, cond_false, reduceCtorEq] at h
      | true =>
        simp only [hc, cond_true, Option.some.injEq] at h
        subst h
        obtain ⟨fs, hs, rr, cl, ok⟩ := pass_ok hp
        have hlen : ops.toList.length = ops.size := by simp
        have tl' : ∀ {i : Nat} {x : Oper}, ops[i]? = some x → ops.toList[i]? = some x := fun h => by rw [Array.getElem?_toList]; exact h
        have R : Reg P call ops (masks ops.toList 0 .nil) fs hs rr cl := by
          refine ⟨masks_all _, fun i x hx e he hb => ?_, fun i j x y hx hy hij ha => ?_, fun i x hx => ok.put i x (tl' hx), fun i x hx => ok.step i x (tl' hx), fun i x hx h2 p hpn hp1 hpa hqa => ?_⟩
          · have h1 := allIx_at hd i x (tl' hx)
            simp only [Bool.and_eq_true, Nat.zero_add] at h1
            have h2 := List.all_eq_true.1 h1.1 e he
            simp only [hb, Bool.not_true, Bool.false_or, Nat.blt_eq] at h2
            exact h2
          · have h1 := allIx_at hd i x (tl' hx)
            simp only [Bool.and_eq_true, Nat.zero_add] at h1
            have h2 := allIx_at h1.2 j y (tl' hy)
            simp only [Nat.zero_add] at h2
            have hb : Nat.blt i j = true := by rw [Nat.blt_eq]; exact hij
            rw [hb, ha] at h2
            simp only [Bool.not_true, Bool.false_or, Bool.and_eq_true, Bool.or_eq_true, Nat.beq_eq, Array.toArray_toList] at h2
            refine ⟨h2.1, ?_⟩
            rcases h2.2 with h3 | h3 | ⟨h3, h4⟩
            · exact .inl h3
            · exact .inr (.inl h3)
            · refine .inr (.inr ⟨h3, fun k z hz => ?_⟩)
              have h5 := allIx_at h4 k z (tl' hz)
              simp only [Bool.or_eq_true, Nat.beq_eq, Nat.zero_add] at h5
              rcases h5 with h5 | h5 | h5
              · exact .inl h5
              · exact .inr (.inl h5)
              · exact .inr (.inr h5)
          · have hin : i < ops.size := (Array.getElem?_eq_some_iff.1 hx).1
            have hil : i < rs.length := by rw [ok.len]; omega
            have hrc : rs[i]? = some rs[i] := List.getElem?_eq_getElem hil
            obtain ⟨e1, e2, e3, e4⟩ := ok.rc i _ hrc
            have h1 := chkAll_at hc i x _ (tl' hx) hrc (by rw [e2]; exact h2)
            rw [e1, e3, Nat.zero_add] at h1
            obtain ⟨c1, c2⟩ := chk_at rs 0 h1 p (fun hpl => by rw [Nat.zero_add]; exact hpa (by rw [ok.len] at hpl; omega)) (fun q hq c hcq hc1 => by
              rw [Nat.zero_add]
              exact hqa q hq (by rw [← (ok.rc q c hcq).2.1]; exact hc1))
            rcases hp1 with rfl | hp1
            · have := c2 (by rw [ok.len]; omega)
              rw [← hlen, ok.hn]; exact this
            · by_cases hpe : p = ops.size
              · subst hpe
                have := c2 (by rw [ok.len]; omega)
                rw [← hlen, ok.hn]; exact this
              · have hpl : p < rs.length := by rw [ok.len]; omega
                have hrp : rs[p]? = some rs[p] := List.getElem?_eq_getElem hpl
                obtain ⟨_, f2, _, f4⟩ := ok.rc p _ hrp
                rw [← f4]; exact c1 _ hrp (by rw [f2]; exact hp1)
        have hk1 : ∀ (q : Nat) x, ops[q]? = some x → cl q = 1 → kindA P x ≠ 0 := fun q x hx h1 => by
          rcases ok.step q x (tl' hx) with ⟨_, _, _, h2 | h2⟩ | ⟨_, _, h2, _⟩ | ⟨_, _, h2, _⟩ | ⟨_, h2, _⟩
          · rw [h1] at h2; omega
          · exact h2.1
          · rw [h1] at h2; omega
          · rw [h1] at h2; omega
          · exact h2
        have hF' : ∀ t, Lk ops (fs 0) rr (Lf (Array.replicate ops.size false)) t ops.size = fr.get t := by
          intro t
          have := lk_cut (ops := ops) (fr := fs 0) (rr := rr) (L := Lf (Array.replicate ops.size false)) (t := t) (i := 0) (m := ops.size) (fun j hj _ => by
            simp [Lf, Array.getD_eq_getD_getElem?, Array.getElem?_replicate]; split <;> rfl) (Nat.zero_le _)
          rw [this]; show (fs 0).get t = _; rw [ok.f0]
        have hL0 : ∀ i, Lf (Array.replicate ops.size false) i = false := fun i => by
          simp [Lf, Array.getD_eq_getD_getElem?, Array.getElem?_replicate]; split <;> rfl
        have hrel : Rel D P ops fs hs rr cl ρ w 0 (Lf (Array.replicate ops.size false)) a { w with drawn := w.drawn + 1 } ρ (fun _ => 0) := by
          refine ⟨Nat.zero_le _, fun c hc => by omega, by rw [ok.h0]; exact hH.drawn _, ⟨.refl _ _, Nat.le_refl _, Nat.le_refl _, rfl, rfl, rfl, fun _ _ _ => rfl, fun id b hb => .inr ⟨id, b, hb, rfl⟩⟩, by rw [hF.size, ok.f0], hF.defers, fun d _ => ?_, fun q _ _ _ h2 => ?_, fun q q' _ _ _ _ _ _ h2 => ?_⟩
          · rw [hF', ok.h0]; exact hF.den d
          · rw [hL0] at h2; cases h2
          · rw [hL0] at h2; cases h2
        obtain ⟨p', ρ', h1, h2⟩ := absorb R hk1 _ _ _ _ _ 0 ρ rfl hrel
        refine wp_region_any hm ?_
        refine draw_all hn hcall R hk1 (ρ0 := ρ) (w0 := w) (fun a w' ρ' f1 f2 f3 => ?_) ops.size _ a _ p' ρ' _ (by simp) (fun i x _ hLi => by rw [hL0] at hLi; cases hLi) ?_ h1 h2
        · rw [← hlen, ok.hn] at f1 f2 f3
          rw [ok.fn] at f1
          rw [ok.h0] at f3
          exact hQ .normal a w' ρ' rfl f1 f2 f3
        · refine Nat.le_trans List.countP_le_length (by simp)
    · simp at h

theorem code_sound (hn : noNG P) (hm : P.follows .mixedOrders = true) (hcall : CallOK P call) {Q : Exit → Act → World → Prop} : ∀ (n : Nat) (c : Code) (fr : Fr) (H : AH) (r : Ex × Fr × AH), codeA P call n c fr H = some r →
    ∀ (ρ : Rho) (w : World) (a : Act) (Q : Exit → Act → World → Prop), FrOK D ρ H.next fr a → HOK ρ H w → Comes' D ρ H w r Q → c.wp P Q a w ∧ ∀ b, c = .loop b → Code.rounds P b Q n a w
  | 0, c, fr, H, r, h, _, _, _, _, _, _, _ => by simp [codeA_zero] at h
  | n + 1, c, fr, H, r, h, ρ, w, a, Q, hF, hH, hQ => by
    have IH := code_sound hn hm hcall (Q := Q) n
    cases c with
    | skip =>
      simp only [codeA_succ, Option.some.injEq] at h; subst h
      exact ⟨wp_skip (hQ _ _ _ _ rfl hF hH (Kp.refl _ _ _)), fun _ h => by cases h⟩
    | label l =>
      simp only [codeA_succ, Option.some.injEq] at h; subst h
      exact ⟨wp_label (hQ _ _ _ _ rfl hF hH (Kp.refl _ _ _)), fun _ h => by cases h⟩
    | exit id =>
      simp only [codeA_succ, Option.some.injEq] at h; subst h
      exact ⟨wp_exit (hQ _ _ _ _ rfl hF hH (Kp.refl _ _ _)), fun _ h => by cases h⟩
    | ret =>
      simp only [codeA_succ, Option.some.injEq] at h; subst h
      exact ⟨wp_ret (hQ _ _ _ _ rfl hF hH (Kp.refl _ _ _)), fun _ h => by cases h⟩
    | seq x y =>
      refine ⟨?_, fun _ h => by cases h⟩
      simp only [codeA_succ] at h
      split at h
      · rename_i fr1 H1 hx
        refine wp_seq (IH x fr H _ hx ρ w a _ hF hH ?_).1
        intro e a1 w1 ρ1 he hF1 hH1 hK1
        have he' : e = .normal := he
        subst he'
        exact (IH y fr1 H1 r h ρ1 w1 a1 Q hF1 hH1 fun e a2 w2 ρ2 g1 g2 g3 g4 => hQ e a2 w2 ρ2 g1 g2 g3 (hK1.trans g4)).1
      · rename_i hne
        refine wp_seq (IH x fr H _ h ρ w a _ hF hH ?_).1
        intro e a1 w1 ρ1 he hF1 hH1 hK1
        have := hQ e a1 w1 ρ1 he hF1 hH1 hK1
        obtain ⟨ex, fr1, H1⟩ := r
        cases ex with
        | normal => exact absurd h (hne _ _)
        | exit id => have he : e = .exit id := he; subst he; exact this
        | ret => have he : e = .ret := he; subst he; exact this
        | pan v => obtain ⟨u, rfl, _⟩ := he; exact this
    | cond x y z =>
      refine ⟨?_, fun _ h => by cases h⟩
      simp only [codeA_succ] at h
      split at h
      · rename_i t hx
        have hv := hF.ev x
        rw [hx] at hv
        refine wp_cond (bool_den hv) ?_
        cases t with
        | true => exact (IH y fr H r h ρ w a Q hF hH hQ).1
        | false => exact (IH z fr H r h ρ w a Q hF hH hQ).1
      · simp at h
    | block id b =>
      refine ⟨?_, fun _ h => by cases h⟩
      simp only [codeA_succ] at h
      split at h
      · rename_i k fr1 H1 hb
        refine wp_block (IH b fr H _ hb ρ w a _ hF hH ?_).1
        intro e a1 w1 ρ1 he hF1 hH1 hK1
        have he : e = .exit k := he
        subst he
        show if k = id then _ else _
        cases hk : Nat.beq k id with
        | true =>
          simp only [hk, cond_true, Option.some.injEq] at h; subst h
          rw [if_pos (Nat.eq_of_beq_eq_true hk)]
          exact hQ _ _ _ _ rfl hF1 hH1 hK1
        | false =>
          simp only [hk, cond_false, Option.some.injEq] at h; subst h
          rw [if_neg (fun hh => by rw [hh, Nat.beq_refl] at hk; cases hk)]
          exact hQ _ _ _ _ rfl hF1 hH1 hK1
      · rename_i hne
        refine wp_block (IH b fr H _ h ρ w a _ hF hH ?_).1
        intro e a1 w1 ρ1 he hF1 hH1 hK1
        have := hQ e a1 w1 ρ1 he hF1 hH1 hK1
        obtain ⟨ex, fr1, H1⟩ := r
        cases ex with
        | normal => have he : e = .normal := he; subst he; exact this
        | exit id => exact absurd h (hne _ _ _)
        | ret => have he : e = .ret := he; subst he; exact this
        | pan v => obtain ⟨u, rfl, _⟩ := he; exact this
    | loop b =>
      have key : Code.rounds P b Q (n + 1) a w := by
        rw [rounds_succ]
        simp only [codeA_succ] at h
        split at h
        · rename_i fr1 H1 hb
          refine (IH b fr H _ hb ρ w a _ hF hH ?_).1
          intro e a1 w1 ρ1 he hF1 hH1 hK1
          have he : e = .normal := he
          subst he
          exact (IH (.loop b) fr1 H1 r h ρ1 w1 a1 Q hF1 hH1 fun e a2 w2 ρ2 g1 g2 g3 g4 => hQ e a2 w2 ρ2 g1 g2 g3 (hK1.trans g4)).2 b rfl
        · rename_i hne
          refine (IH b fr H _ h ρ w a _ hF hH ?_).1
          intro e a1 w1 ρ1 he hF1 hH1 hK1
          have := hQ e a1 w1 ρ1 he hF1 hH1 hK1
          obtain ⟨ex, fr1, H1⟩ := r
          cases ex with
          | normal => exact absurd h (hne _ _)
          | exit id => have he : e = .exit id := he; subst he; exact this
          | ret => have he : e = .ret := he; subst he; exact this
          | pan v => obtain ⟨u, rfl, _⟩ := he; exact this
      exact ⟨wp_loop_rounds (n + 1) key, fun b' hb' => by cases hb'; exact key⟩
    | region id ops draw =>
      refine ⟨?_, fun _ h => by cases h⟩
      cases draw with
      | false =>
        obtain ⟨e1, fr1, H1, hl, rfl⟩ := goFlush_some h
        exact wp_region_list (listA_sound hn hcall ops.toList hl hF hH fun x a1 w1 ρ1 g1 g2 g3 g4 => hQ x a1 w1 ρ1 g1 g2.flush g3 g4)
      | true =>
        obtain ⟨e1, fr1, H1, hl, rfl⟩ := goFlush_some h
        exact draw_sound hn hm hcall hl hF hH fun x a1 w1 ρ1 g1 g2 g3 g4 => hQ x a1 w1 ρ1 g1 g2.flush g3 g4
    | rangeFunc f ps az b => simp [codeA_succ] at h
    | scope b => simp [codeA_succ] at h
    | goto l => simp [codeA_succ] at h
    | refuse s => simp [codeA_succ] at h
end
end Go.Proofs.YtgobcnheemocnaaGreatDoor
end
section
namespace Go.Proofs.YtgobcnheemocnaaGreatDoor
open Go
set_option linter.unusedSimpArgs false
set_option linter.unusedVariables false

theorem enter_get : ∀ (l : List AV) (k : Nat) (t : Log) (j : Nat) (d : AR), (enterLog l k t).find j d = if k ≤ j ∧ j < k + l.length then ((l[j - k]?).map .one).getD .any else t.find j d
  | [], k, t, j, d => by simp [enterLog]; intro h1 h2; omega
  | a :: l, k, t, j, d => by
    simp only [enterLog]
    rw [enter_get l (k + 1) _ j, Log.find_cons]
    simp only [List.length_cons]
    by_cases h1 : k = j
    · subst h1
      rw [if_neg (by omega), if_pos rfl, if_pos (by omega)]; simp
    · by_cases h2 : k + 1 ≤ j ∧ j < k + 1 + l.length
      · rw [if_pos h2, if_pos (by omega)]
        have : j - k = (j - (k + 1)) + 1 := by omega
        rw [this]; simp
      · rw [if_neg h2, if_neg (Ne.symm h1), if_neg (by omega)]
section
variable {P : Program} {call : CallF} {ρ : Rho} {H : AH} {w : World} {D : List Deferred}
theorem enter_ok {az : List AV} {vs : Array Value} (h : All2 (AV.den ρ H.next) az vs.toList) (n m : Nat) : FrOK [] ρ H.next (enterA az n m) { tmps := vs ++ Array.replicate (n - vs.size) undef, defers := [] } := by
  have hlen := h.len
  simp only [Array.length_toList] at hlen
  have hmax : Nat.max az.length n = max az.length n := rfl
  refine ⟨by simp only [enterA, Array.size_append, Array.size_replicate]; omega, fun t => ?_, rfl⟩
  show ((enterLog az 0 .nil).find t (lowC .nil m t)).den ρ H.next _
  have hlow : lowC .nil m t = .any := by
    show (bif bitOf m t then orAny none else .any) = AR.any
    cases bitOf m t <;> rfl
  rw [enter_get, hlow]
  simp only [Nat.zero_le, true_and, Nat.zero_add, Nat.sub_zero, Array.getD_eq_getD_getElem?]
  by_cases ht : t < az.length
  · rw [if_pos ht]
    have hx : az[t]? = some az[t] := List.getElem?_eq_getElem ht
    obtain ⟨y, hy, hd⟩ := h.get hx
    rw [hx, Array.getElem?_append_left (by omega)]
    rw [Array.getElem?_toList] at hy
    rw [hy]; exact hd
  · rw [if_neg ht]
    trivial
def resOne (tmps : Array Value) : ResultVar → Sem Value
  | .tmp t => pure (tmps.getD t undef)
  | .cell b t => do loadVar t (← asAddr (tmps.getD b undef))
theorem results_eq (fn : Func) (tmps : Array Value) : results fn tmps = (do let vs ← fn.results.mapM (resOne tmps); pure (if h : vs.size = 1 then vs[0] else .tuple vs)) := by
  unfold results
  congr 1
theorem res_list (hH : HOK ρ H w) {fr : Fr} {a : Act} (hF : FrOK D ρ H.next fr a) : ∀ {l : List ResultVar} {xs : List AV}, resA P fr H l = some xs →
    ∃ vs, (l.mapM (resOne a.tmps)).run P w = .ok vs w ∧ All2 (AV.den ρ H.next) xs vs
  | [], xs, h => by simp [resA] at h; subst h; exact ⟨[], rfl, trivial⟩
  | .tmp t :: l, xs, h => by
    simp only [resA] at h
    split at h
    · rename_i x r hx hr
      simp only [Option.some.injEq] at h; subst h
      obtain ⟨vs, hv, hd⟩ := res_list hH hF hr
      have := hF.den t
      rw [hx] at this
      exact ⟨_ :: vs, by rw [List.mapM_cons]; simp only [Sem.run_bind, resOne, Sem.run_pure, Result.andThen_ok, hv], this, hd⟩
    · simp at h
  | .cell b t :: l, xs, h => by
    simp only [resA] at h
    split at h
    · rename_i id off r hx hr
      cases hb : H.get id with
      | none => simp [hb] at h
      | some blk =>
        simp only [hb, Option.bind_some, Option.map_eq_some_iff] at h
        obtain ⟨x, hp, rfl⟩ := h
        obtain ⟨vs, hv, hd⟩ := res_list hH hF hr
        have hbv := hF.den b
        rw [hx] at hbv
        obtain ⟨hlt, hbv⟩ := hbv
        -- the load is the one of an operation
        have hq := r_load (P := P) (ev := fun _ => .one (.c (.ptr id off))) (e := fun _ => .pointer (some ⟨ρ.blk id, ρ.base id + off, none⟩)) (dst := none) (ty := 0) (pos := "") (after := #[]) (guard := none) (t := t) (a := .tmp 0) (r := .one x) hH
          (by simp [readA, hb, hp]) ⟨hlt, rfl⟩
        obtain ⟨v, hrun, hdv⟩ := hq
        have hrun' : (loadVar t ⟨ρ.blk id, ρ.base id + off, none⟩).run P w = .ok v w := by
          simp only [execOp, Instr.loadAt, Instr.sureAddr, Sem.run_bind, Sem.run_pure, Result.andThen_ok] at hrun
          cases hl : (loadVar t ⟨ρ.blk id, ρ.base id + off, none⟩).run P w with
          | ok u w1 =>
            rw [hl] at hrun
            simp only [Result.andThen_ok, Result.ok.injEq, Next.value.injEq] at hrun
            rw [hrun.1, hrun.2]
          | halt q w1 => rw [hl] at hrun; simp at hrun
        have h1 : (resOne a.tmps (.cell b t)).run P w = .ok v w := by
          simp only [resOne, Sem.run_bind, hbv, asAddr, Sem.run_pure, Result.andThen_ok, hrun']
        exact ⟨v :: vs, by rw [List.mapM_cons]; simp only [Sem.run_bind, h1, Sem.run_pure, Result.andThen_ok, hv], hdv, hd⟩
    · simp at h
theorem result_ok (hH : HOK ρ H w) {fr : Fr} {a : Act} (hF : FrOK D ρ H.next fr a) {fn : Func} {r : AR} (h : resultA P fr H fn.results.toList = some r) :
    ∃ v, (results fn a.tmps).run P w = .ok v w ∧ r.den ρ H.next v := by
  unfold resultA at h
  have fin : ∀ xs, resA P fr H fn.results.toList = some xs → ∃ vs : Array Value, (fn.results.mapM (resOne a.tmps)).run P w = .ok vs w ∧ All2 (AV.den ρ H.next) xs vs.toList := by
    intro xs hx
    obtain ⟨vs, hv, hd⟩ := res_list (P := P) hH hF hx
    refine ⟨vs.toArray, ?_, by simpa using hd⟩
    rw [Array.mapM_eq_mapM_toList]
    simp only [Sem.run_map, hv, Result.andThen_ok]
  have size1 : ∀ {x : AV} {vs : Array Value}, All2 (AV.den ρ H.next) [x] vs.toList → ∃ y, vs = #[y] ∧ x.den ρ H.next y := by
    intro x vs hd
    cases hl : vs.toList with
    | nil => rw [hl] at hd; exact hd.elim
    | cons y l => cases l with
      | nil => rw [hl] at hd; exact ⟨y, Array.toList_inj.1 (by simpa using hl), hd.1⟩
      | cons _ _ => rw [hl] at hd; exact hd.2.elim
  split at h
  · rename_i x hx
    simp only [Option.some.injEq] at h; subst h
    obtain ⟨vs, hv, hd⟩ := fin _ hx
    obtain ⟨y, rfl, hdy⟩ := size1 hd
    exact ⟨y, by simp only [results_eq, Sem.run_bind, hv, Result.andThen_ok]; rfl, hdy⟩
  · rename_i l hne hx
    simp only [Option.some.injEq] at h; subst h
    obtain ⟨vs, hv, hd⟩ := fin _ hx
    have hs : ¬ vs.size = 1 := fun hh => by
      have := hd.len
      simp only [Array.length_toList] at this
      cases l with
      | nil => simp at this; omega
      | cons a l => cases l with
        | nil => exact hne a rfl
        | cons _ _ => simp at this; omega
    exact ⟨.tuple vs, by simp only [results_eq, Sem.run_bind, hv, Result.andThen_ok, dif_neg hs]; rfl, vs, rfl, hd⟩
  · simp at h
/-- A deferred call as it is reckoned. -/
def DD (P : Program) (ρ : Rho) (n : Nat) (x : FuncId × List AV) (d : Deferred) : Prop :=
  ∃ cap, d.target = .fn (.func x.1) cap ∧ hasBody P x.1 = true ∧ All2 (AV.den ρ n) x.2 (d.args ++ cap).toList
theorem all2_mono {α β : Type} {R R' : α → β → Prop} (h : ∀ a b, R a b → R' a b) : ∀ {l : List α} {m : List β}, All2 R l m → All2 R' l m
  | [], [], _ => trivial
  | [], _ :: _, hh => hh.elim
  | _ :: _, [], hh => hh.elim
  | _ :: _, _ :: _, hh => ⟨h _ _ hh.1, all2_mono h hh.2⟩
theorem DD.mono {ρ ρ' : Rho} {n m : Nat} (hx : Ext ρ ρ' n) (hm : n ≤ m) {x : FuncId × List AV} {d : Deferred} (h : DD P ρ n x d) : DD P ρ' m x d := by
  obtain ⟨cap, h1, h2, h3⟩ := h
  exact ⟨cap, h1, h2, all2_mono (fun a b hab => AV.den_mono hx hm _ _ hab) h3⟩
theorem def_sound {ev : Ev} {e : Operand → Value} {o : Oper} {d : FuncId × List AV} (h : defA P ev o = some d) (he : EvOK ρ H.next ev e o.op.operands.toList) :
    ∃ v, (execOp e o).run P w = .ok (.defer v) w ∧ DD P ρ H.next d v := by
  obtain ⟨dst, op, ty, pos, after, guard⟩ := o
  cases op with
  | defer c =>
    obtain ⟨callee, args, ats⟩ := c
    cases callee with
    | value g =>
      simp only [defA, calleeA] at h
      split at h
      · rename_i x as' hg ha
        split at h
        · rename_i k fs cs hf
          cases hb : hasBody P k with
          | false => simp only [hb, cond_false, reduceCtorEq] at h
          | true =>
            simp only [hb, cond_true, Option.some.injEq] at h
            subst h
            have h1 := he g (by simp [Op.operands, Call.operands])
            rw [hg] at h1
            obtain ⟨fv, cv, hv, hdf, hdc⟩ := fn_den hf h1
            have hda := args_den ha (fun y hy => he y (by simp [Op.operands, Call.operands] at hy ⊢; exact .inr hy) : EvOK ρ H.next ev e args.toList)
            refine ⟨{ target := .fn (.func k) cv, args := fv ++ args.map e }, ?_, cv, rfl, hb, ?_⟩
            · simp [execOp, resolve, hv, Deferred.ofValue]
            · have lift : ∀ {l : List AC} {m : List Value}, All2 (AC.den ρ H.next) l m → All2 (AV.den ρ H.next) (l.map .c) m := by
                intro l m hh
                refine All2.of (by simpa using hh.len) fun i x y hx hy => ?_
                simp only [List.getElem?_map, Option.map_eq_some_iff] at hx
                obtain ⟨c, hc, rfl⟩ := hx
                obtain ⟨y', hy', hd⟩ := hh.get hc
                rw [hy] at hy'; cases hy'; exact hd
              simp only [Array.toList_append, Array.toList_map, List.append_assoc]
              exact (lift hdf).app (hda.app (lift hdc))
        · simp at h
      · simp at h
    | invoke r m => simp [defA] at h
    | builtin b => simp [defA] at h
  | _ => simp [defA] at h
def ComesD (P : Program) (ρ : Rho) (H : AH) (w : World) (r : Ex × Fr × AH × DF) (Q : Exit → Act → World → Prop) : Prop :=
  ∀ x a w' ρ' D', ExE ρ' r.2.2.1.next r.1 x → FrOK D' ρ' r.2.2.1.next r.2.1 a → HOK ρ' r.2.2.1 w' → Kp H ρ w r.2.2.1 ρ' w' → All2 (DD P ρ' r.2.2.1.next) r.2.2.2 D' → Q x a w'
theorem defs_mono {ρ' : Rho} {n m : Nat} (hx : Ext ρ ρ' n) (hm : n ≤ m) {ds : DF} (h : All2 (DD P ρ n) ds D) : All2 (DD P ρ' m) ds D := all2_mono (fun _ _ => DD.mono hx hm) h
theorem FrOK.defer {n : Nat} {fr : Fr} {a : Act} (h : FrOK D ρ n fr a) (d : Deferred) : FrOK (d :: D) ρ n fr { a with defers := d :: a.defers } := ⟨h.size, h.den, by rw [h.defers]⟩
theorem listD_sound (hn : noNG P) {call : CallF} (hcall : CallOK P call) {ops : Array Oper} {Q : Exit → Act → World → Prop} :
    ∀ (l : List Oper) {fr : Fr} {ρ : Rho} {H : AH} {w : World} {a : Act} {D : List Deferred} {ds : DF} {r : Ex × Fr × AH × DF}, listD P call ops.toList l fr H ds = some r → FrOK D ρ H.next fr a → HOK ρ H w → All2 (DD P ρ H.next) ds D → ComesD P ρ H w r Q → wpList P ops Q l a w
  | [], fr, ρ, H, w, a, D, ds, r, h, hF, hH, hD, hQ => by
    simp only [listD, Option.some.injEq] at h; subst h
    exact hQ .normal a w ρ D rfl hF hH (Kp.refl _ _ _) hD
  | o :: l, fr, ρ, H, w, a, D, ds, r, h, hF, hH, hD, hQ => by
    simp only [listD, opF_eq] at h
    refine wpList_step fun K hK => ?_
    split at h
    · rename_i hw
      rw [if_pos (wanted_den hF hw)]
      split at h
      · rename_i r1 H1 ho
        split at h
        · rename_i fr1 hp
          refine opA_sound hn hcall ho hH (fun x _ => hF.ev x) (fun r2 v w' ρ' he hd hH' hK' => ?_) (fun x v w' ρ' he => by cases he)
          cases he
          refine hK _ _ (listD_sound hn hcall l h ((hF.mono hK'.ext hK'.next).put hp hd) hH' (defs_mono hK'.ext hK'.next hD) fun x a2 w2 ρ2 D2 h1 h2 h3 h4 => hQ x a2 w2 ρ2 D2 h1 h2 h3 (hK'.trans h4))
        · simp at h
      · rename_i x1 H1 ho
        simp only [Option.some.injEq] at h; subst h
        refine opA_sound hn hcall ho hH (fun x _ => hF.ev x) (fun r2 v w' ρ' he => by cases he) (fun x v w' ρ' he hd hH' hK' => ?_)
        cases he
        exact hQ _ a w' ρ' D ⟨v, rfl, hd⟩ (hF.mono hK'.ext hK'.next) hH' hK' (defs_mono hK'.ext hK'.next hD)
      · split at h
        · rename_i d hd
          split at h
          · rename_i fr1 hp
            obtain ⟨v, hv, hdd⟩ := def_sound (w := w) hd (fun x _ => hF.ev x : EvOK ρ H.next fr.ev a.eval o.op.operands.toList)
            unfold Oper.wp
            rw [hv]
            exact hK _ _ (listD_sound hn hcall l h ((hF.defer v).put hp ⟨#[], rfl, trivial⟩) hH ⟨hdd, hD⟩ hQ)
          · simp at h
        · simp at h
    · rename_i hw
      rw [if_neg (by rw [wanted_den hF hw]; simp)]
      split at h
      · rename_i fr1 hp
        exact hK _ _ (listD_sound hn hcall l h (hF.put hp ⟨#[], rfl, trivial⟩) hH hD hQ)
      · simp at h
    · simp at h
theorem codeD_sound (hn : noNG P) (hm : P.follows .mixedOrders = true) (hcall : CallOK P call) : ∀ (n : Nat) (c : Code) (fr : Fr) (H : AH) (ds : DF) (r : Ex × Fr × AH × DF), codeD P call n c fr H ds = some r →
    ∀ (ρ : Rho) (w : World) (a : Act) (D : List Deferred) (Q : Exit → Act → World → Prop), FrOK D ρ H.next fr a → HOK ρ H w → All2 (DD P ρ H.next) ds D → ComesD P ρ H w r Q → c.wp P Q a w
  | 0, c, fr, H, ds, r, h, _, _, _, _, _, _, _, _, _ => by simp [codeD_zero] at h
  | n + 1, c, fr, H, ds, r, h, ρ, w, a, D, Q, hF, hH, hD, hQ => by
    have IH := codeD_sound hn hm hcall n
    have plain : ∀ {c : Code}, (match codeA P call n c fr H with | some (e, fr, H) => some (e, fr, H, ds) | none => none) = some r → c.wp P Q a w := by
      intro c h
      split at h
      · rename_i e fr1 H1 hc
        simp only [Option.some.injEq] at h; subst h
        exact (code_sound hn hm hcall (Q := Q) n c fr H _ hc ρ w a Q hF hH fun x a1 w1 ρ1 g1 g2 g3 g4 => hQ x a1 w1 ρ1 D g1 g2 g3 g4 (defs_mono g4.ext g4.next hD)).1
      · simp at h
    cases c with
    | seq x y =>
      simp only [codeD_succ] at h
      split at h
      · rename_i fr1 H1 ds1 hx
        refine wp_seq (IH x fr H ds _ hx ρ w a D _ hF hH hD ?_)
        intro e a1 w1 ρ1 D1 he hF1 hH1 hK1 hD1
        have he' : e = .normal := he
        subst he'
        exact IH y fr1 H1 ds1 r h ρ1 w1 a1 D1 Q hF1 hH1 hD1 fun e a2 w2 ρ2 D2 g1 g2 g3 g4 => hQ e a2 w2 ρ2 D2 g1 g2 g3 (hK1.trans g4)
      · rename_i hne
        refine wp_seq (IH x fr H ds _ h ρ w a D _ hF hH hD ?_)
        intro e a1 w1 ρ1 D1 he hF1 hH1 hK1 hD1
        have := hQ e a1 w1 ρ1 D1 he hF1 hH1 hK1 hD1
        obtain ⟨ex, fr1, H1, ds1⟩ := r
        cases ex with
        | normal => exact absurd h (hne _ _ _)
        | exit id => have he : e = .exit id := he; subst he; exact this
        | ret => have he : e = .ret := he; subst he; exact this
        | pan v => obtain ⟨u, rfl, _⟩ := he; exact this
    | cond x y z =>
      simp only [codeD_succ] at h
      split at h
      · rename_i t hx
        have hv := hF.ev x
        rw [hx] at hv
        refine wp_cond (bool_den hv) ?_
        cases t with
        | true => exact IH y fr H ds r h ρ w a D Q hF hH hD hQ
        | false => exact IH z fr H ds r h ρ w a D Q hF hH hD hQ
      · simp at h
    | region id ops draw =>
      simp only [codeD_succ] at h
      cases hb : draw || noDef ops.toList with
      | true => simp only [hb, cond_true] at h; exact plain h
      | false =>
        simp only [hb, cond_false] at h
        obtain rfl : draw = false := by cases draw; rfl; simp at hb
        obtain ⟨e1, fr1, H1, ds1, hl, rfl⟩ := flushD_some h
        exact wp_region_list (listD_sound hn hcall ops.toList hl hF hH hD fun x a1 w1 ρ1 D1 g1 g2 g3 g4 g5 => hQ x a1 w1 ρ1 D1 g1 g2.flush g3 g4 g5)
    | skip => exact plain h
    | label l => exact plain h
    | exit id => exact plain h
    | ret => exact plain h
    | block id b => exact plain h
    | loop b => exact plain h
    | rangeFunc f ps az b => exact plain h
    | scope b => exact plain h
    | goto l => exact plain h
    | refuse s => exact plain h

/-- How the caller of a deferred call stands. -/
def PMD (ρ : Rho) (n : Nat) : PM → FrameMode → Prop
  | .no, u => u = .returning
  | .live x, u => ∃ v, u = .panicking [{ v, recovered := false }] ∧ x.den ρ n v
  | .done _, u => ∃ v, u = .panicking [{ v, recovered := true }]
theorem PMD.mono {ρ ρ' : Rho} {n m : Nat} (hx : Ext ρ ρ' n) (hm : n ≤ m) {pm : PM} {u : FrameMode} (h : PMD ρ n pm u) : PMD ρ' m pm u := by
  cases pm with
  | no => exact h
  | live x => obtain ⟨v, h1, h2⟩ := h; exact ⟨v, h1, AV.den_mono hx hm _ _ h2⟩
  | done x => exact h
theorem PMD.settled {n : Nat} {pm : PM} {u : FrameMode} (h : PMD ρ n pm u) : PMD ρ n pm.settle (settle u) := by
  cases pm with
  | no => subst h; rfl
  | live x => obtain ⟨v, rfl, h2⟩ := h; exact ⟨v, rfl, h2⟩
  | done x => obtain ⟨v, rfl⟩ := h; rfl
theorem PMD.run {n : Nat} {pm : PM} {u : FrameMode} (h : PMD ρ n pm u) : u ≠ .run := by
  cases pm with
  | no => subst h; intro h; cases h
  | live x => obtain ⟨v, rfl, _⟩ := h; intro h; cases h
  | done x => obtain ⟨v, rfl⟩ := h; intro h; cases h
def ComesR (c₀ : Frame) (cs : List Frame) (ρ : Rho) (H : AH) (w : World) (r : Ex × Fr × AH × PM) (Q : Exit → Act → List Frame → World → Prop) : Prop :=
  ∀ x a w' ρ' u', ExE ρ' r.2.2.1.next r.1 x → FrOK [] ρ' r.2.2.1.next r.2.1 a → HOK ρ' r.2.2.1 w' → Kp H ρ w r.2.2.1 ρ' w' → PMD ρ' r.2.2.1.next r.2.2.2 u' → Q x a ({ c₀ with mode := u' } :: cs) w'
theorem range_drop {α : Type} {L : List α} {k : Nat} {x : α} {l : List α} (h : L.drop k = x :: l) : L[k]? = some x ∧ L.drop (k + 1) = l := by
  have h1 : (L.drop k)[0]? = some x := by rw [h]; rfl
  rw [List.getElem?_drop] at h1
  refine ⟨by simpa using h1, ?_⟩
  have : L.drop (k + 1) = (L.drop k).drop 1 := by rw [List.drop_drop]
  rw [this, h]; rfl
theorem wpOpsS_of_wp {ops : Array Oper} {Q : Exit → Act → List Frame → World → Prop} {k : Nat} {rest : List Nat} {a : Act} {cs : List Frame} {w : World} {o : Oper} (ho : ops[k]? = some o)
    (hw : Region.wanted o (yielded ops a.tmps) = true) (h : o.wp P a w (fun a' w' => wpOpsS P ops Q rest a' cs w') (fun e a' w' => Q e a' cs w')) : wpOpsS P ops Q (k :: rest) a cs w := by
  unfold Oper.wp at h
  simp only [wpOpsS, ho, hw, if_true]
  generalize (execOp a.eval o).run P w = r at h
  cases r with
  | ok x w' => cases x <;> first | exact h | exact h.elim
  | halt x w' => exact h
theorem listR_sound (hn : noNG P) {call : CallF} (hcall : CallOK P call) {ops : Array Oper} {c₀ : Frame} {cs : List Frame} {Q : Exit → Act → List Frame → World → Prop} :
    ∀ (l : List Oper) (k : Nat) {fr : Fr} {ρ : Rho} {H : AH} {w : World} {a : Act} {u : FrameMode} {pm : PM} {r : Ex × Fr × AH × PM}, ops.toList.drop k = l → listR P call ops.toList l fr H pm = some r → FrOK [] ρ H.next fr a → HOK ρ H w → PMD ρ H.next pm u →
      ComesR c₀ cs ρ H w r Q → wpOpsS P ops Q (List.range' k l.length) a ({ c₀ with mode := u } :: cs) w
  | [], k, fr, ρ, H, w, a, u, pm, r, hl, h, hF, hH, hP, hQ => by
    simp only [listR, Option.some.injEq] at h; subst h
    exact hQ .normal a w ρ u rfl hF hH (Kp.refl _ _ _) hP
  | o :: l, k, fr, ρ, H, w, a, u, pm, r, hl, h, hF, hH, hP, hQ => by
    obtain ⟨ho', hl'⟩ := range_drop hl
    have ho : ops[k]? = some o := by rw [← Array.getElem?_toList]; exact ho'
    simp only [listR, opF_eq] at h
    show wpOpsS P ops Q (k :: List.range' (k + 1) l.length) a ({ c₀ with mode := u } :: cs) w
    split at h
    · rename_i hw
      have hwd := wanted_den hF hw
      split at h
      · rename_i r1 H1 hop
        split at h
        · rename_i fr1 hp
          refine wpOpsS_of_wp ho hwd (opA_sound hn hcall hop hH (fun x _ => hF.ev x) (fun r2 v w' ρ' he hd hH' hK' => ?_) (fun x v w' ρ' he => by cases he))
          cases he
          exact listR_sound hn hcall l (k + 1) hl' h ((hF.mono hK'.ext hK'.next).put hp hd) hH' (hP.mono hK'.ext hK'.next) fun x a2 w2 ρ2 u2 h1 h2 h3 h4 => hQ x a2 w2 ρ2 u2 h1 h2 h3 (hK'.trans h4)
        · simp at h
      · rename_i x1 H1 hop
        simp only [Option.some.injEq] at h; subst h
        refine wpOpsS_of_wp ho hwd (opA_sound hn hcall hop hH (fun x _ => hF.ev x) (fun r2 v w' ρ' he => by cases he) (fun x v w' ρ' he hd hH' hK' => ?_))
        cases he
        exact hQ _ a w' ρ' u ⟨v, rfl, hd⟩ (hF.mono hK'.ext hK'.next) hH' hK' (hP.mono hK'.ext hK'.next)
      · cases hr : isRec o with
        | false => simp only [hr, cond_false, reduceCtorEq] at h
        | true =>
          simp only [hr, cond_true] at h
          split at h
          · rename_i fr1 hp
            have hrun : (execOp a.eval o).run P w = .ok .recover w := by
              obtain ⟨dst, op, ty, pos, after, guard⟩ := o
              cases op with
              | call c =>
                obtain ⟨callee, args, ats⟩ := c
                cases callee with
                | builtin b => cases b <;> first | (simp [isRec] at hr; done) | (simp [execOp, resolve, invoke, builtin])
                | value g => simp [isRec] at hr
                | invoke g m => simp [isRec] at hr
              | _ => simp [isRec] at hr
            simp only [wpOpsS, ho, hwd, if_true, hrun]
            cases pm with
            | no =>
              have hP' : u = .returning := hP
              subst hP'
              exact listR_sound hn hcall l (k + 1) hl' h (hF.put hp ⟨rfl, rfl⟩) hH hP hQ
            | live x =>
              obtain ⟨v, rfl, hd⟩ := hP
              exact listR_sound hn hcall l (k + 1) hl' h (hF.put hp hd) hH ⟨v, rfl⟩ hQ
            | done x =>
              obtain ⟨v, rfl⟩ := hP
              exact listR_sound hn hcall l (k + 1) hl' h (hF.put hp ⟨rfl, rfl⟩) hH ⟨v, rfl⟩ hQ
          · simp at h
    · rename_i hw
      have hwd := wanted_den hF hw
      split at h
      · rename_i fr1 hp
        simp only [wpOpsS, ho, hwd, Bool.false_eq_true, if_false]
        exact listR_sound hn hcall l (k + 1) hl' h (hF.put hp ⟨#[], rfl, trivial⟩) hH hP hQ
      · simp at h
    · simp at h
theorem codeR_sound (hn : noNG P) (hm : P.follows .mixedOrders = true) (hcall : CallOK P call) (c₀ : Frame) (cs : List Frame) : ∀ (n : Nat) (c : Code) (fr : Fr) (H : AH) (pm : PM) (r : Ex × Fr × AH × PM), codeR P call n c fr H pm = some r →
    ∀ (ρ : Rho) (w : World) (a : Act) (u : FrameMode) (Q : Exit → Act → List Frame → World → Prop), FrOK [] ρ H.next fr a → HOK ρ H w → PMD ρ H.next pm u → ComesR c₀ cs ρ H w r Q → c.wpS P Q a ({ c₀ with mode := u } :: cs) w
  | 0, c, fr, H, pm, r, h, _, _, _, _, _, _, _, _, _ => by simp [codeR] at h
  | n + 1, c, fr, H, pm, r, h, ρ, w, a, u, Q, hF, hH, hP, hQ => by
    have IH := codeR_sound hn hm hcall c₀ cs n
    have plain : ∀ {c : Code}, (match codeA P call n c fr H with | some (e, fr, H) => some (e, fr, H, pm) | none => none) = some r → c.wpS P Q a ({ c₀ with mode := u } :: cs) w := by
      intro c h
      split at h
      · rename_i e fr1 H1 hc
        simp only [Option.some.injEq] at h; subst h
        exact wpS_of_wp (code_sound hn hm hcall (Q := fun _ _ _ => True) n c fr H _ hc ρ w a _ hF hH fun x a1 w1 ρ1 g1 g2 g3 g4 => hQ x a1 w1 ρ1 u g1 g2 g3 g4 (hP.mono g4.ext g4.next)).1
      · simp at h
    cases c with
    | seq x y =>
      simp only [codeR] at h
      split at h
      · rename_i fr1 H1 pm1 hx
        refine wpS_seq (IH x fr H pm _ hx ρ w a u _ hF hH hP ?_)
        intro e a1 w1 ρ1 u1 he hF1 hH1 hK1 hP1
        have he' : e = .normal := he
        subst he'
        exact IH y fr1 H1 pm1 r h ρ1 w1 a1 u1 Q hF1 hH1 hP1 fun e a2 w2 ρ2 u2 g1 g2 g3 g4 => hQ e a2 w2 ρ2 u2 g1 g2 g3 (hK1.trans g4)
      · rename_i hne
        refine wpS_seq (IH x fr H pm _ h ρ w a u _ hF hH hP ?_)
        intro e a1 w1 ρ1 u1 he hF1 hH1 hK1 hP1
        have := hQ e a1 w1 ρ1 u1 he hF1 hH1 hK1 hP1
        obtain ⟨ex, fr1, H1, pm1⟩ := r
        cases ex with
        | normal => exact absurd h (hne _ _ _)
        | exit id => have he : e = .exit id := he; subst he; exact this
        | ret => have he : e = .ret := he; subst he; exact this
        | pan v => obtain ⟨u, rfl, _⟩ := he; exact this
    | cond x y z =>
      simp only [codeR] at h
      split at h
      · rename_i t hx
        have hv := hF.ev x
        rw [hx] at hv
        refine wpS_cond (bool_den hv) ?_
        cases t with
        | true => exact IH y fr H pm r h ρ w a u Q hF hH hP hQ
        | false => exact IH z fr H pm r h ρ w a u Q hF hH hP hQ
      · simp at h
    | region id ops draw =>
      cases draw with
      | false =>
        refine wpS_region ?_
        obtain ⟨e1, fr1, H1, pm1, hl, rfl⟩ := flushR_some h
        have := listR_sound hn hcall (c₀ := c₀) (cs := cs) (Q := Q) ops.toList 0 (by simp) hl hF hH hP fun x a1 w1 ρ1 u1 g1 g2 g3 g4 g5 => hQ x a1 w1 ρ1 u1 g1 g2.flush g3 g4 g5
        rw [List.range_eq_range']
        simpa using this
      | true => exact plain h
    | skip => exact plain h
    | label l => exact plain h
    | exit id => exact plain h
    | ret => exact plain h
    | block id b => exact plain h
    | loop b => exact plain h
    | rangeFunc f ps az b => exact plain h
    | scope b => exact plain h
    | goto l => exact plain h
    | refuse s => exact plain h
theorem leave_sound (hn : noNG P) (hm : P.follows .mixedOrders = true) (hcall : CallOK P call) {fn : Func} {tmps : Array Value} {R : Ending → World → Prop} (n : Nat) : ∀ (ds : DF) (D : List Deferred) (H : AH) (pm : PM) (H' : AH) (pm' : PM), leaveA P call n ds H pm = some (H', pm') →
    ∀ (ρ : Rho) (w : World) (u : FrameMode), HOK ρ H w → All2 (DD P ρ H.next) ds D → PMD ρ H.next pm u → (∀ ρ' w' u', HOK ρ' H' w' → Kp H ρ w H' ρ' w' → PMD ρ' H'.next pm' u' → Leaves P fn tmps R [] u' w') → Leaves P fn tmps R D u w
  | [], [], H, pm, H', pm', h, ρ, w, u, hH, hD, hP, hE => by
    simp only [leaveA, Option.some.injEq, Prod.mk.injEq] at h
    obtain ⟨rfl, rfl⟩ := h
    exact hE ρ w u hH (Kp.refl _ _ _) hP
  | [], _ :: _, H, pm, H', pm', h, ρ, w, u, hH, hD, hP, hE => hD.elim
  | _ :: _, [], H, pm, H', pm', h, ρ, w, u, hH, hD, hP, hE => hD.elim
  | (f, az) :: ds, d :: D, H, pm, H', pm', h, ρ, w, u, hH, hD, hP, hE => by
    obtain ⟨⟨cap, ht, hb, hda⟩, hDs⟩ := hD
    simp only [leaveA] at h
    split at h
    · simp at h
    · rename_i g hg
      split at h
      · simp at h
      · rename_i c hc
        refine ⟨hP.run, .func f, cap, f, d.args ++ cap, ht, ?_, callsD_of_wpS hg hc fun c₀ cs hu => ?_⟩
        · rw [ht]; simp only [invoke]; exact hasBody_run hn hb _
        · have hcu : (c₀ :: cs) = ({ c₀ with mode := u } :: cs) := by subst hu; rfl
          rw [hcu]
          have fin : ∀ {fr1 H1 pm1}, (match resultA P fr1 H1 g.results.toList with | some _ => leaveA P call n ds H1 pm1.settle | none => none) = some (H', pm') → ∀ {a1 w1 ρ1 u1}, FrOK [] ρ1 H1.next fr1 a1 → HOK ρ1 H1 w1 → Kp H ρ w H1 ρ1 w1 → PMD ρ1 H1.next pm1 u1 →
              ∃ v, (results g a1.tmps).run P w1 = .ok v w1 ∧ Leaves P fn tmps R D (settle u1) w1 := by
            intro fr1 H1 pm1 hr a1 w1 ρ1 u1 g1 g2 g3 g4
            split at hr
            · rename_i r hr1
              obtain ⟨v, hv, _⟩ := result_ok g2 g1 hr1
              exact ⟨v, hv, leave_sound hn hm hcall n ds D H1 _ H' pm' hr ρ1 w1 _ g2 (defs_mono g3.ext g3.next hDs) g4.settled fun ρ' w' u' k1 k2 k3 => hE ρ' w' u' k1 (g3.trans k2) k3⟩
            · simp at hr
          split at h
          · rename_i fr1 H1 pm1 hcr
            refine codeR_sound hn hm hcall c₀ cs n c _ H pm _ hcr ρ w _ u _ (enter_ok hda g.ntmps (liveOf g)) hH hP ?_
            intro e a1 w1 ρ1 u1 he g1 g2 g3 g4
            have he : e = .normal := he
            subst he
            obtain ⟨v, hv, hl⟩ := fin h g1 g2 g3 g4
            exact ⟨g1.defers, u1, rfl, v, hv, hl⟩
          · rename_i fr1 H1 pm1 hcr
            refine codeR_sound hn hm hcall c₀ cs n c _ H pm _ hcr ρ w _ u _ (enter_ok hda g.ntmps (liveOf g)) hH hP ?_
            intro e a1 w1 ρ1 u1 he g1 g2 g3 g4
            have he : e = .ret := he
            subst he
            obtain ⟨v, hv, hl⟩ := fin h g1 g2 g3 g4
            exact ⟨g1.defers, u1, rfl, v, hv, hl⟩
          · simp at h
theorem call_sound (hn : noNG P) (hm : P.follows .mixedOrders = true) : ∀ n, CallOK P (callA P n)
  | 0 => fun f az H out H' h => by simp [callA] at h
  | n + 1 => by
    intro f az H out H' h ρ w vs hH hda
    have hcall := call_sound hn hm n
    simp only [callA] at h
    split at h
    · simp at h
    · rename_i fn hfn
      split at h
      · simp at h
      · rename_i c hb
        refine calls_of_wp_defers hfn hb ?_
        have hF := enter_ok hda fn.ntmps (liveOf fn)
        have fin : ∀ {fr1 : Fr} {H1 : AH} {ds : DF} {pm : PM}, endA P (callA P n) n fn.results.toList fr1 H1 ds pm = some (out, H') → ∀ {a1 w1 ρ1 D1 u1}, FrOK D1 ρ1 H1.next fr1 a1 → HOK ρ1 H1 w1 → Kp H ρ w H1 ρ1 w1 → All2 (DD P ρ1 H1.next) ds D1 → PMD ρ1 H1.next pm u1 →
            Leaves P fn a1.tmps (fun e w' => ∃ ρ', OutEv ρ' H'.next out e ∧ HOK ρ' H' w' ∧ Kp H ρ w H' ρ' w') a1.defers u1 w1 := by
          intro fr1 H1 ds pm he a1 w1 ρ1 D1 u1 g1 g2 g3 g4 g5
          rw [g1.defers]
          unfold endA at he
          split at he
          · rename_i H2 hl
            split at he
            · rename_i r hr
              simp only [Option.some.injEq, Prod.mk.injEq] at he
              obtain ⟨rfl, rfl⟩ := he
              refine leave_sound hn hm hcall n ds D1 H1 pm _ _ hl ρ1 w1 u1 g2 g4 g5 fun ρ' w' u' k1 k2 k3 => ?_
              have k3 : u' = .returning := k3
              subst k3
              obtain ⟨v, hv, hd⟩ := result_ok k1 (g1.mono k2.ext k2.next) hr
              exact ⟨v, hv, ρ', ⟨v, rfl, hd⟩, k1, g3.trans k2⟩
            · simp at he
          · rename_i H2 x hl
            simp only [Option.some.injEq, Prod.mk.injEq] at he
            obtain ⟨rfl, rfl⟩ := he
            refine leave_sound hn hm hcall n ds D1 H1 pm _ _ hl ρ1 w1 u1 g2 g4 g5 fun ρ' w' u' k1 k2 k3 => ?_
            obtain ⟨v, rfl, hd⟩ := k3
            exact ⟨ρ', ⟨v, rfl, hd⟩, k1, g3.trans k2⟩
          · simp at he
        split at h
        · rename_i fr1 H1 ds hc
          refine codeD_sound hn hm hcall n c _ H [] _ hc ρ w _ [] _ hF hH trivial ?_
          intro e a1 w1 ρ1 D1 he g1 g2 g3 g4
          have he : e = .normal := he
          subst he
          exact fin h g1 g2 g3 g4 rfl
        · rename_i fr1 H1 ds hc
          refine codeD_sound hn hm hcall n c _ H [] _ hc ρ w _ [] _ hF hH trivial ?_
          intro e a1 w1 ρ1 D1 he g1 g2 g3 g4
          have he : e = .ret := he
          subst he
          exact fin h g1 g2 g3 g4 rfl
        · rename_i x fr1 H1 ds hc
          refine codeD_sound hn hm hcall n c _ H [] _ hc ρ w _ [] _ hF hH trivial ?_
          intro e a1 w1 ρ1 D1 he g1 g2 g3 g4
          obtain ⟨v, rfl, hd⟩ := he
          exact fin h g1 g2 g3 g4 ⟨v, rfl, hd⟩
        · simp at h

def saysTrue : Option (Out × AH) → Bool
  | some (.ret (.one (.c (.lit (.bool b)))), _) => b
  | _ => false
def okNG (P : Program) : Bool := P.funcs.toList.all fun fn => fn.body.isNone || !(fn.name == "runtime.NumGoroutine")
theorem okNG_of (h : okNG P = true) : noNG P := fun f fn hf hb => by
  have h1 := List.all_eq_true.1 h fn (by
    have : P.funcs.toList[f]? = some fn := by rw [Array.getElem?_toList]; exact hf
    exact List.mem_of_getElem? this)
  simp only [Bool.or_eq_true, Bool.not_eq_true'] at h1
  rcases h1 with h1 | h1
  · cases hx : fn.body <;> simp_all
  · exact h1
/-- A call without arguments that is reckoned true. -/
theorem awake_true (hn : okNG P = true) (hm : P.follows .mixedOrders = true) (n : Nat) (f : FuncId) (h : saysTrue (callA P n f [] AH.empty) = true) (w : World) :
    Calls P f #[] w fun e w' => e = .returned (.bool true) ∧ Keeps (fun _ => False) w w' := by
  unfold saysTrue at h
  split at h
  · rename_i b H' hc
    subst h
    have hH0 : HOK ⟨fun _ => 0, fun _ => 0, fun _ => 0⟩ AH.empty w := ⟨fun _ _ h => by simp [AH.empty, AH.get, Tr.getR_eq, Tr.get] at h, fun _ _ _ _ h => by simp [AH.empty, AH.get, Tr.getR_eq, Tr.get] at h, fun _ _ h => by simp [AH.empty, AH.get, Tr.getR_eq, Tr.get] at h⟩
    refine (call_sound (okNG_of hn) hm n f [] _ _ _ hc _ w #[] hH0 trivial).mono ?_
    rintro e w' ⟨ρ', ⟨v, rfl, hd⟩, _, hK⟩
    exact ⟨by rw [show v = _ from hd.1], hK.os, hK.tape, hK.output, hK.size, fun k hk _ => hK.frame k hk fun id b hb => by simp [AH.empty, AH.get, Tr.getR_eq, Tr.get] at hb⟩
  · simp at h
end
end Go.Proofs.YtgobcnheemocnaaGreatDoor
end
