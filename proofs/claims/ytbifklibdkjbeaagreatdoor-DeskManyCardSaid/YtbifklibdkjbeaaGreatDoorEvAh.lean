/-
  The reckoned run is a run of the model: regions, code, calls. No condition.
-/
import Derived.Test.YtbifklibdkjbeaaGreatDoorEvAg
namespace Go.Proofs.YtbifklibdkjbeaaGreatDoor
open Go
set_option linter.unusedSimpArgs false
set_option linter.unusedVariables false

section
variable {P : Program} {call : CallF} {ρ : Rho} {H : AH} {w : World} {D : List Deferred}
theorem draw_sound (hn : noNG P) (hm : P.follows .mixedOrders = true) (hcall : CallOK P call) {ops : Array Oper} {id : Nat} {fr : Fr} {a : Act} {r : Ex × Fr × AH} {Q : Exit → Act → World → Prop}
    (h : drawA P call ops.toList fr H = some r) (hF : FrOK D ρ H.next fr a) (hH : HOK ρ H w) (hQ : Comes' D ρ H w r Q) : (Code.region id ops true).wp P Q a w := by
  unfold drawA at h
  simp only at h
  cases hd : drawOK P ops.toList (masks ops.toList 0 .nil) with
  | false => simp only [hd, cond_false, reduceCtorEq] at h
  | true =>
    simp only [hd, cond_true] at h
    split at h
    · rename_i rs fr' H' hp
      cases hc : chkAll P (masks ops.toList 0 .nil) (stopsA rs 0 H') ops.toList rs 0 with
      | false => simp only [hc, cond_false, reduceCtorEq] at h
      | true =>
        simp only [hc, cond_true, Option.some.injEq] at h
        subst h
        obtain ⟨fs, hs, rr, cl, ok⟩ := pass_ok hp
        have hlen : ops.toList.length = ops.size := by simp
        have tl' : ∀ {i : Nat} {x : Oper}, ops[i]? = some x → ops.toList[i]? = some x := fun h => by rw [Array.getElem?_toList]; exact h
        have R : Reg P call ops (masks ops.toList 0 .nil) fs hs rr cl := by
          refine ⟨masks_all _, fun i x hx e he hb => ?_, fun i j x y hx hy hij ha => ?_, fun i x hx => ok.put i x (tl' hx), fun i x hx => ok.step i x (tl' hx), fun i x hx h2 p hpn hp1 hpa hqa => ?_⟩
          · have h1 := allIx_at hd i x (tl' hx)
            simp only [Bool.and_eq_true, Nat.zero_add] at h1
            have h2 := List.all_eq_true.1 h1.1 e he
            simp only [hb, Bool.not_true, Bool.false_or, Nat.blt_eq] at h2
            exact h2
          · have h1 := allIx_at hd i x (tl' hx)
            simp only [Bool.and_eq_true, Nat.zero_add] at h1
            have h2 := allIx_at h1.2 j y (tl' hy)
            simp only [Nat.zero_add] at h2
            have hb : Nat.blt i j = true := by rw [Nat.blt_eq]; exact hij
            rw [hb, ha] at h2
            simp only [Bool.not_true, Bool.false_or, Bool.and_eq_true, Bool.or_eq_true, Nat.beq_eq, Array.toArray_toList] at h2
            refine ⟨h2.1, ?_⟩
            rcases h2.2 with h3 | h3 | ⟨h3, h4⟩
            · exact .inl h3
            · exact .inr (.inl h3)
            · refine .inr (.inr ⟨h3, fun k z hz => ?_⟩)
              have h5 := allIx_at h4 k z (tl' hz)
              simp only [Bool.or_eq_true, Nat.beq_eq, Nat.zero_add] at h5
              rcases h5 with h5 | h5 | h5
              · exact .inl h5
              · exact .inr (.inl h5)
              · exact .inr (.inr h5)
          · have hin : i < ops.size := (Array.getElem?_eq_some_iff.1 hx).1
            have hil : i < rs.length := by rw [ok.len]; omega
            have hrc : rs[i]? = some rs[i] := List.getElem?_eq_getElem hil
            obtain ⟨e1, e2, e3, e4⟩ := ok.rc i _ hrc
            have h1 := chkAll_at hc i x _ (tl' hx) hrc (by rw [e2]; exact h2)
            rw [e1, e3, Nat.zero_add] at h1
            obtain ⟨c1, c2⟩ := chk_at rs 0 h1 p (fun hpl => by rw [Nat.zero_add]; exact hpa (by rw [ok.len] at hpl; omega)) (fun q hq c hcq hc1 => by
              rw [Nat.zero_add]
              exact hqa q hq (by rw [← (ok.rc q c hcq).2.1]; exact hc1))
            rcases hp1 with rfl | hp1
            · have := c2 (by rw [ok.len]; omega)
              rw [← hlen, ok.hn]; exact this
            · by_cases hpe : p = ops.size
              · subst hpe
                have := c2 (by rw [ok.len]; omega)
                rw [← hlen, ok.hn]; exact this
              · have hpl : p < rs.length := by rw [ok.len]; omega
                have hrp : rs[p]? = some rs[p] := List.getElem?_eq_getElem hpl
                obtain ⟨_, f2, _, f4⟩ := ok.rc p _ hrp
                rw [← f4]; exact c1 _ hrp (by rw [f2]; exact hp1)
        have hk1 : ∀ (q : Nat) x, ops[q]? = some x → cl q = 1 → kindA P x ≠ 0 := fun q x hx h1 => by
          rcases ok.step q x (tl' hx) with ⟨_, _, _, h2 | h2⟩ | ⟨_, _, h2, _⟩ | ⟨_, _, h2, _⟩ | ⟨_, h2, _⟩
          · rw [h1] at h2; omega
          · exact h2.1
          · rw [h1] at h2; omega
          · rw [h1] at h2; omega
          · exact h2
        have hF' : ∀ t, Lk ops (fs 0) rr (Lf (Array.replicate ops.size false)) t ops.size = fr.get t := by
          intro t
          have := lk_cut (ops := ops) (fr := fs 0) (rr := rr) (L := Lf (Array.replicate ops.size false)) (t := t) (i := 0) (m := ops.size) (fun j hj _ => by
            simp [Lf, Array.getD_eq_getD_getElem?, Array.getElem?_replicate]; split <;> rfl) (Nat.zero_le _)
          rw [this]; show (fs 0).get t = _; rw [ok.f0]
        have hL0 : ∀ i, Lf (Array.replicate ops.size false) i = false := fun i => by
          simp [Lf, Array.getD_eq_getD_getElem?, Array.getElem?_replicate]; split <;> rfl
        have hrel : Rel D P ops fs hs rr cl ρ w 0 (Lf (Array.replicate ops.size false)) a { w with drawn := w.drawn + 1 } ρ (fun _ => 0) := by
          refine ⟨Nat.zero_le _, fun c hc => by omega, by rw [ok.h0]; exact hH.drawn _, ⟨.refl _ _, Nat.le_refl _, Nat.le_refl _, rfl, rfl, rfl, fun _ _ _ => rfl, fun id b hb => .inr ⟨id, b, hb, rfl⟩⟩, by rw [hF.size, ok.f0], hF.defers, fun d _ => ?_, fun q _ _ _ h2 => ?_, fun q q' _ _ _ _ _ _ h2 => ?_⟩
          · rw [hF', ok.h0]; exact hF.den d
          · rw [hL0] at h2; cases h2
          · rw [hL0] at h2; cases h2
        obtain ⟨p', ρ', h1, h2⟩ := absorb R hk1 _ _ _ _ _ 0 ρ rfl hrel
        refine wp_region_any hm ?_
        refine draw_all hn hcall R hk1 (ρ0 := ρ) (w0 := w) (fun a w' ρ' f1 f2 f3 => ?_) ops.size _ a _ p' ρ' _ (by simp) (fun i x _ hLi => by rw [hL0] at hLi; cases hLi) ?_ h1 h2
        · rw [← hlen, ok.hn] at f1 f2 f3
          rw [ok.fn] at f1
          rw [ok.h0] at f3
          exact hQ .normal a w' ρ' rfl f1 f2 f3
        · refine Nat.le_trans List.countP_le_length (by simp)
    · simp at h

theorem code_sound (hn : noNG P) (hm : P.follows .mixedOrders = true) (hcall : CallOK P call) {Q : Exit → Act → World → Prop} : ∀ (n : Nat) (c : Code) (fr : Fr) (H : AH) (r : Ex × Fr × AH), codeA P call n c fr H = some r →
    ∀ (ρ : Rho) (w : World) (a : Act) (Q : Exit → Act → World → Prop), FrOK D ρ H.next fr a → HOK ρ H w → Comes' D ρ H w r Q → c.wp P Q a w ∧ ∀ b, c = .loop b → Code.rounds P b Q n a w
  | 0, c, fr, H, r, h, _, _, _, _, _, _, _ => by simp [codeA_zero] at h
  | n + 1, c, fr, H, r, h, ρ, w, a, Q, hF, hH, hQ => by
    have IH := code_sound hn hm hcall (Q := Q) n
    cases c with
    | skip =>
      simp only [codeA_succ, Option.some.injEq] at h; subst h
      exact ⟨wp_skip (hQ _ _ _ _ rfl hF hH (Kp.refl _ _ _)), fun _ h => by cases h⟩
    | label l =>
      simp only [codeA_succ, Option.some.injEq] at h; subst h
      exact ⟨wp_label (hQ _ _ _ _ rfl hF hH (Kp.refl _ _ _)), fun _ h => by cases h⟩
    | exit id =>
      simp only [codeA_succ, Option.some.injEq] at h; subst h
      exact ⟨wp_exit (hQ _ _ _ _ rfl hF hH (Kp.refl _ _ _)), fun _ h => by cases h⟩
    | ret =>
      simp only [codeA_succ, Option.some.injEq] at h; subst h
      exact ⟨wp_ret (hQ _ _ _ _ rfl hF hH (Kp.refl _ _ _)), fun _ h => by cases h⟩
    | seq x y =>
      refine ⟨?_, fun _ h => by cases h⟩
      simp only [codeA_succ] at h
      split at h
      · rename_i fr1 H1 hx
        refine wp_seq (IH x fr H _ hx ρ w a _ hF hH ?_).1
        intro e a1 w1 ρ1 he hF1 hH1 hK1
        have he' : e = .normal := he
        subst he'
        exact (IH y fr1 H1 r h ρ1 w1 a1 Q hF1 hH1 fun e a2 w2 ρ2 g1 g2 g3 g4 => hQ e a2 w2 ρ2 g1 g2 g3 (hK1.trans g4)).1
      · rename_i hne
        refine wp_seq (IH x fr H _ h ρ w a _ hF hH ?_).1
        intro e a1 w1 ρ1 he hF1 hH1 hK1
        have := hQ e a1 w1 ρ1 he hF1 hH1 hK1
        obtain ⟨ex, fr1, H1⟩ := r
        cases ex with
        | normal => exact absurd h (hne _ _)
        | exit id => have he : e = .exit id := he; subst he; exact this
        | ret => have he : e = .ret := he; subst he; exact this
        | pan v => obtain ⟨u, rfl, _⟩ := he; exact this
    | cond x y z =>
      refine ⟨?_, fun _ h => by cases h⟩
      simp only [codeA_succ] at h
      split at h
      · rename_i t hx
        have hv := hF.ev x
        rw [hx] at hv
        refine wp_cond (bool_den hv) ?_
        cases t with
        | true => exact (IH y fr H r h ρ w a Q hF hH hQ).1
        | false => exact (IH z fr H r h ρ w a Q hF hH hQ).1
      · simp at h
    | block id b =>
      refine ⟨?_, fun _ h => by cases h⟩
      simp only [codeA_succ] at h
      split at h
      · rename_i k fr1 H1 hb
        refine wp_block (IH b fr H _ hb ρ w a _ hF hH ?_).1
        intro e a1 w1 ρ1 he hF1 hH1 hK1
        have he : e = .exit k := he
        subst he
        show if k = id then _ else _
        cases hk : Nat.beq k id with
        | true =>
          simp only [hk, cond_true, Option.some.injEq] at h; subst h
          rw [if_pos (Nat.eq_of_beq_eq_true hk)]
          exact hQ _ _ _ _ rfl hF1 hH1 hK1
        | false =>
          simp only [hk, cond_false, Option.some.injEq] at h; subst h
          rw [if_neg (fun hh => by rw [hh, Nat.beq_refl] at hk; cases hk)]
          exact hQ _ _ _ _ rfl hF1 hH1 hK1
      · rename_i hne
        refine wp_block (IH b fr H _ h ρ w a _ hF hH ?_).1
        intro e a1 w1 ρ1 he hF1 hH1 hK1
        have := hQ e a1 w1 ρ1 he hF1 hH1 hK1
        obtain ⟨ex, fr1, H1⟩ := r
        cases ex with
        | normal => have he : e = .normal := he; subst he; exact this
        | exit id => exact absurd h (hne _ _ _)
        | ret => have he : e = .ret := he; subst he; exact this
        | pan v => obtain ⟨u, rfl, _⟩ := he; exact this
    | loop b =>
      have key : Code.rounds P b Q (n + 1) a w := by
        rw [rounds_succ]
        simp only [codeA_succ] at h
        split at h
        · rename_i fr1 H1 hb
          refine (IH b fr H _ hb ρ w a _ hF hH ?_).1
          intro e a1 w1 ρ1 he hF1 hH1 hK1
          have he : e = .normal := he
          subst he
          exact (IH (.loop b) fr1 H1 r h ρ1 w1 a1 Q hF1 hH1 fun e a2 w2 ρ2 g1 g2 g3 g4 => hQ e a2 w2 ρ2 g1 g2 g3 (hK1.trans g4)).2 b rfl
        · rename_i hne
          refine (IH b fr H _ h ρ w a _ hF hH ?_).1
          intro e a1 w1 ρ1 he hF1 hH1 hK1
          have := hQ e a1 w1 ρ1 he hF1 hH1 hK1
          obtain ⟨ex, fr1, H1⟩ := r
          cases ex with
          | normal => exact absurd h (hne _ _)
          | exit id => have he : e = .exit id := he; subst he; exact this
          | ret => have he : e = .ret := he; subst he; exact this
          | pan v => obtain ⟨u, rfl, _⟩ := he; exact this
      exact ⟨wp_loop_rounds (n + 1) key, fun b' hb' => by cases hb'; exact key⟩
    | region id ops draw =>
      refine ⟨?_, fun _ h => by cases h⟩
      cases draw with
      | false =>
        obtain ⟨e1, fr1, H1, hl, rfl⟩ := goFlush_some h
        exact wp_region_list (listA_sound hn hcall ops.toList hl hF hH fun x a1 w1 ρ1 g1 g2 g3 g4 => hQ x a1 w1 ρ1 g1 g2.flush g3 g4)
      | true =>
        obtain ⟨e1, fr1, H1, hl, rfl⟩ := goFlush_some h
        exact draw_sound hn hm hcall hl hF hH fun x a1 w1 ρ1 g1 g2 g3 g4 => hQ x a1 w1 ρ1 g1 g2.flush g3 g4
    | rangeFunc f ps az b => simp [codeA_succ] at h
    | scope b => simp [codeA_succ] at h
    | goto l => simp [codeA_succ] at h
    | refuse s => simp [codeA_succ] at h
end
end Go.Proofs.YtbifklibdkjbeaaGreatDoor
