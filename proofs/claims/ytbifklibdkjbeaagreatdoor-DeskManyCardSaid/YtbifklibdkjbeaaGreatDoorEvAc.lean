/-
  A region that draws its order: what the reckoned run has checked of it. No condition.
-/
import Derived.Test.YtbifklibdkjbeaaGreatDoorEvAb
namespace Go.Proofs.YtbifklibdkjbeaaGreatDoor
open Go
set_option linter.unusedSimpArgs false
set_option linter.unusedVariables false

theorem allIx_at {α : Type} {p : Nat → α → Bool} : ∀ {l : List α} {i : Nat}, allIx p l i = true → ∀ k x, l[k]? = some x → p (i + k) x = true
  | [], _, _, k, x, h => by simp at h
  | y :: l, i, h, 0, x, hx => by
    simp only [allIx, Bool.and_eq_true] at h
    simp only [List.getElem?_cons_zero, Option.some.injEq] at hx
    subst hx; exact h.1
  | y :: l, i, h, k + 1, x, hx => by
    simp only [allIx, Bool.and_eq_true] at h
    have := allIx_at h.2 k x (by simpa using hx)
    rw [show i + (k + 1) = i + 1 + k from by omega]; exact this

/-- A set of operations that holds with each all that its edges name. -/
def Closed (ops : List Oper) (L : Nat → Bool) : Prop := ∀ i x, ops[i]? = some x → L i = true → ∀ e ∈ x.after.toList, Region.binds .any e = true → L e.on = true
/-- What comes ahead of i is in each closed set that holds i's edges. -/
def MaskOK (ops : List Oper) (t : Tr Nat) : Prop := ∀ L, Closed ops L → ∀ i x j, ops[i]? = some x → ahead t i j = true → (∀ e ∈ x.after.toList, Region.binds .any e = true → L e.on = true) → L j = true
theorem mask_fold (t : Tr Nat) (j : Nat) : ∀ (es : List Edge) (s : Nat), (es.foldl (fun s e => bif Region.binds .any e then Nat.lor (Nat.lor s (2 ^ e.on)) ((t.get e.on).getD 0) else s) s).testBit j = true →
    s.testBit j = true ∨ ∃ e ∈ es, Region.binds .any e = true ∧ (j = e.on ∨ ahead t e.on j = true)
  | [], s, h => .inl h
  | e :: es, s, h => by
    simp only [List.foldl_cons] at h
    rcases mask_fold t j es _ h with h1 | ⟨e', he, hb, hj⟩
    · cases hbe : Region.binds .any e with
      | false => rw [hbe] at h1; exact .inl h1
      | true =>
        rw [hbe, cond_true] at h1
        have h2 : ((s ||| 2 ^ e.on) ||| ((t.get e.on).getD 0)).testBit j = true := h1
        rw [Nat.testBit_or, Nat.testBit_or] at h2
        simp only [Bool.or_eq_true] at h2
        rcases h2 with (h2 | h2) | h2
        · exact .inl h2
        · rw [Nat.testBit_two_pow] at h2
          simp only [decide_eq_true_eq] at h2
          exact .inr ⟨e, by simp, hbe, .inl h2.symm⟩
        · exact .inr ⟨e, by simp, hbe, .inr h2⟩
    · exact .inr ⟨e', by simp [he], hb, hj⟩
theorem masks_ok (ops : List Oper) : ∀ (l pre : List Oper) (t : Tr Nat), ops = pre ++ l → (∀ i, pre.length ≤ i → t.get i = none) → MaskOK ops t → MaskOK ops (masks l pre.length t)
  | [], _, _, _, _, h => h
  | o :: l, pre, t, ho, hnone, h => by
    simp only [masks]
    have hlen : pre.length + 1 = (pre ++ [o]).length := by simp
    rw [hlen]
    refine masks_ok ops l (pre ++ [o]) _ (by simp [ho]) (fun i hi => ?_) ?_
    · rw [Tr.get_put]
      simp at hi
      rw [if_neg (by omega)]; exact hnone i (by omega)
    · intro L hL i x j hx hj he
      have ho' : ops[pre.length]? = some o := by rw [ho]; simp
      unfold ahead at hj
      rw [Tr.get_put] at hj
      by_cases hi : i = pre.length
      · subst hi
        rw [if_pos rfl] at hj
        rw [ho'] at hx; cases hx
        rcases mask_fold t j _ 0 hj with h1 | ⟨e, hem, hb, hj'⟩
        · simp at h1
        · have hLe := he e hem hb
          rcases hj' with rfl | hj'
          · exact hLe
          · cases hy : ops[e.on]? with
            | none =>
              have : t.get e.on = none := hnone _ (by
                have h1 := List.getElem?_eq_none_iff.1 hy
                rw [ho] at h1; simp at h1; omega)
              simp [ahead, this] at hj'
            | some y => exact h L hL e.on y j hy hj' fun e' he' hb' => hL e.on y hy hLe e' he' hb'
      · rw [if_neg hi] at hj
        exact h L hL i x j hx hj he
theorem masks_all (ops : List Oper) : MaskOK ops (masks ops 0 .nil) :=
  masks_ok ops ops [] .nil rfl (fun _ _ => rfl) (fun L _ i x j _ hj _ => by simp [ahead, Tr.get] at hj)

theorem Value.same_eq {v u : Value} (h : Value.same v u = true) : v = u := by
  unfold Value.same at h
  split at h <;> first | (simp_all; done) | skip
  · rename_i a b
    simp only [beq_iff_eq] at h
    rw [show a = b from ByteArray.ext (Array.toList_inj.1 h)]
theorem AC.same_eq : ∀ {x y : AC}, x.same y = true → x = y
  | .lit v, .lit u, h => by rw [Value.same_eq (v := v) (u := u) h]
  | .ptr a b, .ptr c d, h => by simp only [AC.same, Bool.and_eq_true, Nat.beq_eq] at h; rw [h.1, h.2]
  | .sl a b c d e f, .sl a' b' c' d' e' f', h => by
    simp only [AC.same, Bool.and_eq_true, Nat.beq_eq, beq_iff_eq] at h
    obtain ⟨rfl, rfl, rfl, rfl, rfl, rfl⟩ := h; rfl
  | .ifc t c, .ifc u d, h => by simp only [AC.same, Bool.and_eq_true, Nat.beq_eq] at h; rw [h.1, AC.same_eq h.2]
  | .fn f, .fn g, h => by simp only [AC.same, beq_iff_eq] at h; rw [h]
  | .cap a b, .cap c d, h => by simp only [AC.same, Bool.and_eq_true] at h; rw [AC.same_eq h.1, AC.same_eq h.2]
  | .fst a b, .fst c d, h => by simp only [AC.same, Bool.and_eq_true] at h; rw [AC.same_eq h.1, AC.same_eq h.2]
  | .lit _, .ptr .., h => by simp [AC.same] at h
  | .lit _, .sl .., h => by simp [AC.same] at h
  | .lit _, .ifc .., h => by simp [AC.same] at h
  | .lit _, .fn .., h => by simp [AC.same] at h
  | .lit _, .cap .., h => by simp [AC.same] at h
  | .lit _, .fst .., h => by simp [AC.same] at h
  | .ptr .., .lit .., h => by simp [AC.same] at h
  | .ptr .., .sl .., h => by simp [AC.same] at h
  | .ptr .., .ifc .., h => by simp [AC.same] at h
  | .ptr .., .fn .., h => by simp [AC.same] at h
  | .ptr .., .cap .., h => by simp [AC.same] at h
  | .ptr .., .fst .., h => by simp [AC.same] at h
  | .sl .., .lit .., h => by simp [AC.same] at h
  | .sl .., .ptr .., h => by simp [AC.same] at h
  | .sl .., .ifc .., h => by simp [AC.same] at h
  | .sl .., .fn .., h => by simp [AC.same] at h
  | .sl .., .cap .., h => by simp [AC.same] at h
  | .sl .., .fst .., h => by simp [AC.same] at h
  | .ifc .., .lit .., h => by simp [AC.same] at h
  | .ifc .., .ptr .., h => by simp [AC.same] at h
  | .ifc .., .sl .., h => by simp [AC.same] at h
  | .ifc .., .fn .., h => by simp [AC.same] at h
  | .ifc .., .cap .., h => by simp [AC.same] at h
  | .ifc .., .fst .., h => by simp [AC.same] at h
  | .fn .., .lit .., h => by simp [AC.same] at h
  | .fn .., .ptr .., h => by simp [AC.same] at h
  | .fn .., .sl .., h => by simp [AC.same] at h
  | .fn .., .ifc .., h => by simp [AC.same] at h
  | .fn .., .cap .., h => by simp [AC.same] at h
  | .fn .., .fst .., h => by simp [AC.same] at h
  | .cap .., .lit .., h => by simp [AC.same] at h
  | .cap .., .ptr .., h => by simp [AC.same] at h
  | .cap .., .sl .., h => by simp [AC.same] at h
  | .cap .., .ifc .., h => by simp [AC.same] at h
  | .cap .., .fn .., h => by simp [AC.same] at h
  | .cap .., .fst .., h => by simp [AC.same] at h
  | .fst .., .lit .., h => by simp [AC.same] at h
  | .fst .., .ptr .., h => by simp [AC.same] at h
  | .fst .., .sl .., h => by simp [AC.same] at h
  | .fst .., .ifc .., h => by simp [AC.same] at h
  | .fst .., .fn .., h => by simp [AC.same] at h
  | .fst .., .cap .., h => by simp [AC.same] at h
theorem sameAll_eq : ∀ {l m : List AC}, sameAll l m = true → l = m
  | [], [], _ => rfl
  | x :: l, y :: m, h => by simp only [sameAll, Bool.and_eq_true] at h; rw [AC.same_eq h.1, sameAll_eq h.2]
  | [], _ :: _, h => by simp [sameAll] at h
  | _ :: _, [], h => by simp [sameAll] at h
theorem readsAs_eq {P : Program} {H : AH} {ev : Ev} {o : Oper} {r : AR} (h : readsAs P H ev o r = true) : readA P H ev o = some r := by
  unfold readsAs at h
  split at h
  · rename_i x y hx
    rw [hx]
    cases x <;> cases y <;> simp only [AV.same, Bool.false_eq_true] at h
    · rw [AC.same_eq h]
    · rw [sameAll_eq h]
  · simp at h

/-- One step of the walk in the listed order. -/
def StepOK (P : Program) (call : CallF) (ops : List Oper) (o : Oper) (fr : Fr) (H : AH) (cls : Nat) (r : AR) (H' : AH) : Prop :=
  (wantedA ops fr o = some false ∧ r = .tup [] ∧ H' = H ∧ (kindA P o = 0 ∧ cls = 0 ∨ kindA P o ≠ 0 ∧ cls = 1)) ∨
  (wantedA ops fr o = some true ∧ kindA P o = 0 ∧ cls = 0 ∧ pureA P fr.ev o = some r ∧ H' = H) ∨
  (wantedA ops fr o = some true ∧ kindA P o = 0 ∧ cls = 2 ∧ readA P H fr.ev o = some r ∧ H' = H) ∨
  (wantedA ops fr o = some true ∧ kindA P o ≠ 0 ∧ cls = 1 ∧ opA P call fr.ev H o = some (.ret r, H'))
theorem StepOK.same {P : Program} {call : CallF} {ops : List Oper} {o : Oper} {fr : Fr} {H : AH} {cls : Nat} {r : AR} {H' : AH} (h : StepOK P call ops o fr H cls r H') (hc : cls ≠ 1) : H' = H := by
  rcases h with ⟨_, _, h, _⟩ | ⟨_, _, _, _, h⟩ | ⟨_, _, _, _, h⟩ | ⟨_, _, h, _⟩
  · exact h
  · exact h
  · exact h
  · exact absurd h hc
/-- The whole walk, place by place. -/
structure PassOK (P : Program) (call : CallF) (ops l : List Oper) (rs : List Rc) (fr : Fr) (H : AH) (fr' : Fr) (H' : AH) (fs : Nat → Fr) (hs : Nat → AH) (rr : Nat → AR) (cl : Nat → Nat) : Prop where
  f0 : fs 0 = fr
  h0 : hs 0 = H
  fn : fs l.length = fr'
  hn : hs l.length = H'
  put : ∀ i x, l[i]? = some x → (fs i).put x.dst (rr i) = some (fs (i + 1))
  step : ∀ i x, l[i]? = some x → StepOK P call ops x (fs i) (hs i) (cl i) (rr i) (hs (i + 1))
  len : rs.length = l.length
  rc : ∀ i c, rs[i]? = some c → c.fr = fs i ∧ c.cls = cl i ∧ c.r = rr i ∧ c.H = hs i
theorem pass_ok {P : Program} {call : CallF} {ops : List Oper} : ∀ {l : List Oper} {rs : List Rc} {fr : Fr} {H : AH} {fr' : Fr} {H' : AH}, passA P call ops l fr H = some (rs, fr', H') →
    ∃ fs hs rr cl, PassOK P call ops l rs fr H fr' H' fs hs rr cl
  | [], rs, fr, H, fr', H', h => by
    simp only [passA, Option.some.injEq, Prod.mk.injEq] at h
    obtain ⟨rfl, rfl, rfl⟩ := h
    exact ⟨fun _ => fr, fun _ => H, fun _ => .any, fun _ => 0, rfl, rfl, rfl, rfl, fun _ _ h => by simp at h, fun _ _ h => by simp at h, rfl, fun _ _ h => by simp at h⟩
  | o :: l, rs, fr, H, fr', H', h => by
    have key : ∀ cls r H1, StepOK P call ops o fr H cls r H1 → (match fr.put o.dst r with
        | some fr' => (passA P call ops l fr' H1).map fun (rs, x) => ((⟨fr, cls, r, H⟩ : Rc) :: rs, x)
        | none => none) = some (rs, fr', H') → ∃ fs hs rr cl, PassOK P call ops (o :: l) rs fr H fr' H' fs hs rr cl := by
      intro cls r H1 hst hm
      split at hm
      · rename_i fr1 hp
        simp only [Option.map_eq_some_iff] at hm
        obtain ⟨⟨rs1, fr2, H2⟩, hr, he⟩ := hm
        simp only [Prod.mk.injEq] at he
        obtain ⟨rfl, rfl, rfl⟩ := he
        obtain ⟨fs, hs, rr, cl, ok⟩ := pass_ok hr
        refine ⟨fun i => match i with | 0 => fr | i + 1 => fs i, fun i => match i with | 0 => H | i + 1 => hs i, fun i => match i with | 0 => r | i + 1 => rr i, fun i => match i with | 0 => cls | i + 1 => cl i,
          rfl, rfl, ok.fn, ok.hn, fun i x hx => ?_, fun i x hx => ?_, by simp [ok.len], fun i c hc => ?_⟩
        · cases i with
          | zero => simp only [List.getElem?_cons_zero, Option.some.injEq] at hx; subst hx; rw [hp, ← ok.f0]
          | succ i => exact ok.put i x (by simpa using hx)
        · cases i with
          | zero => simp only [List.getElem?_cons_zero, Option.some.injEq] at hx; subst hx; show StepOK _ _ _ _ _ _ _ _ (hs 0); rw [ok.h0]; exact hst
          | succ i => exact ok.step i x (by simpa using hx)
        · cases i with
          | zero => simp only [List.getElem?_cons_zero, Option.some.injEq] at hc; subst hc; exact ⟨rfl, rfl, rfl, rfl⟩
          | succ i => exact ok.rc i c (by simpa using hc)
      · simp at hm
    simp only [passA, opF_eq] at h
    split at h
    · simp at h
    · rename_i hw
      refine key _ _ _ (.inl ⟨hw, rfl, rfl, ?_⟩) h
      cases hk : Nat.beq (kindA P o) 0 with
      | true => exact .inl ⟨Nat.eq_of_beq_eq_true hk, rfl⟩
      | false => exact .inr ⟨(fun e => by rw [e] at hk; cases hk), rfl⟩
    · rename_i hw
      cases hk : Nat.beq (kindA P o) 0 with
      | true =>
        simp only [hk, cond_true] at h
        have hk' := Nat.eq_of_beq_eq_true hk
        split at h
        · rename_i r hp
          exact key _ _ _ (.inr (.inl ⟨hw, hk', rfl, hp, rfl⟩)) h
        · split at h
          · rename_i r hp
            exact key _ _ _ (.inr (.inr (.inl ⟨hw, hk', rfl, hp, rfl⟩))) h
          · simp at h
      | false =>
        simp only [hk, cond_false] at h
        have hk' : kindA P o ≠ 0 := fun e => by rw [e] at hk; cases hk
        split at h
        · rename_i r H1 hp
          exact key _ _ _ (.inr (.inr (.inr ⟨hw, hk', rfl, hp⟩))) h
        · simp at h
/-- A read tells the same at each place of the chain where it may be its turn. -/
theorem chk_at {P : Program} {t : Tr Nat} {i : Nat} {ev : Ev} {o : Oper} {r : AR} {H' : AH} : ∀ (rs : List Rc) (k : Nat), chkA P t i ev o r (stopsA rs k H') = true → ∀ p, (p < rs.length → ahead t i (k + p) = false) →
    (∀ q, q < p → ∀ c, rs[q]? = some c → c.cls = 1 → ahead t (k + q) i = false) →
    (∀ c, rs[p]? = some c → c.cls = 1 → readA P c.H ev o = some r) ∧ (p = rs.length → readA P H' ev o = some r)
  | [], k, h, p, _, _ => ⟨fun c hc => by simp at hc, fun _ => readsAs_eq h⟩
  | d :: rs, k, h, p, hi, hq => by
    simp only [stopsA] at h
    have ind : chkA P t i ev o r (stopsA rs (k + 1) H') = true → ∀ p', p = p' + 1 →
        (∀ c, (d :: rs)[p]? = some c → c.cls = 1 → readA P c.H ev o = some r) ∧ (p = (d :: rs).length → readA P H' ev o = some r) := by
      intro h1 p' hp
      subst hp
      obtain ⟨a1, a2⟩ := chk_at rs (k + 1) h1 p' (fun hh => by rw [show k + 1 + p' = k + (p' + 1) from by omega]; exact hi (by simpa using hh))
        (fun q hqp c hc h1 => by rw [show k + 1 + q = k + (q + 1) from by omega]; exact hq (q + 1) (by omega) c (by simpa using hc) h1)
      exact ⟨fun c hc => a1 c (by simpa using hc), fun hh => a2 (by simpa using hh)⟩
    cases hcl : Nat.beq d.cls 1 with
    | true =>
      simp only [hcl, cond_true, chkA, Bool.and_eq_true, Bool.or_eq_true] at h
      cases p with
      | zero =>
        refine ⟨fun c hc _ => ?_, fun hh => by simp at hh⟩
        simp only [List.getElem?_cons_zero, Option.some.injEq] at hc; subst hc
        have h1 := hi (by simp)
        rcases h.1 with h2 | h2
        · rw [Nat.add_zero] at h1; rw [h1] at h2; simp at h2
        · exact readsAs_eq h2
      | succ p' =>
        refine ind ?_ p' rfl
        have h1 := hq 0 (by omega) d rfl (Nat.eq_of_beq_eq_true hcl)
        rcases h.2 with h2 | h2
        · rw [Nat.add_zero] at h1; rw [h1] at h2; simp at h2
        · exact h2
    | false =>
      simp only [hcl, cond_false] at h
      cases p with
      | zero =>
        refine ⟨fun c hc h1 => ?_, fun hh => by simp at hh⟩
        simp only [List.getElem?_cons_zero, Option.some.injEq] at hc; subst hc
        rw [h1] at hcl; cases hcl
      | succ p' => exact ind h p' rfl
theorem chkAll_at {P : Program} {t : Tr Nat} {stops : List (Option Nat × AH)} : ∀ {l : List Oper} {rs : List Rc} {k : Nat}, chkAll P t stops l rs k = true → ∀ i o c, l[i]? = some o → rs[i]? = some c → c.cls = 2 →
    chkA P t (k + i) c.fr.ev o c.r stops = true
  | [], rs, k, _, i, o, c, ho, _, _ => by simp at ho
  | x :: l, [], k, _, i, o, c, _, hc, _ => by simp at hc
  | x :: l, d :: rs, k, h, i, o, c, ho, hc, h2 => by
    simp only [chkAll, Bool.and_eq_true, Bool.or_eq_true] at h
    cases i with
    | zero =>
      simp only [List.getElem?_cons_zero, Option.some.injEq] at ho hc
      subst ho; subst hc
      rcases h.1 with h1 | h1
      · rw [h2] at h1; cases h1
      · exact h1
    | succ i =>
      have := chkAll_at h.2 i o c (by simpa using ho) (by simpa using hc) h2
      rw [show k + (i + 1) = k + 1 + i from by omega]; exact this
end Go.Proofs.YtbifklibdkjbeaaGreatDoor
