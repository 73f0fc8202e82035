/-
  Several texts in one: A region that draws its order: what the reckoned run has checked of it. No condition. A region that draws its order: whatever order is drawn, it comes to what the listed order comes to. No condition. A region that draws its order: one operation, whichever is drawn. No condition. A region that draws its order: the step. No condition.
-/
import Derived.Test.YtbifklibdkjbeaaGreatDoorMg36
namespace Go.Proofs.YtbifklibdkjbeaaGreatDoor
open Go.RowKit
set_option linter.unusedVariables false
set_option linter.unusedSimpArgs false
set_option maxRecDepth 100000
section
open Go
theorem xdw {α : Type} {p : Nat → α → Bool} : ∀ {l : List α} {i : Nat}, xif p l i = true → ∀ k x, l[k]? = some x → p (i + k) x = true
 | [], _, _, k, x, h => by simp at h
 | y :: l, i, h, 0, x, hx => by
  simp only [xif, Bool.and_eq_true] at h
  simp only [List.getElem?_cons_zero, Option.some.injEq] at hx
  subst hx; exact h.1
 | y :: l, i, h, k + 1, x, hx => by
  simp only [xif, Bool.and_eq_true] at h
  have := xdw h.2 k x (by simpa using hx)
  rw [show i + (k + 1) = i + 1 + k from by omega]; exact this
def xcI (ops : List Oper) (L : Nat → Bool) : Prop := ∀ i x, ops[i]? = some x → L i = true → ∀ e ∈ x.after.toList, Region.binds .any e = true → L e.on = true
def xjg (ops : List Oper) (t : Tr Nat) : Prop := ∀ L, xcI ops L → ∀ i x j, ops[i]? = some x → xbE t i j = true → (∀ e ∈ x.after.toList, Region.binds .any e = true → L e.on = true) → L j = true
theorem xgV (t : Tr Nat) (j : Nat) : ∀ (es : List Edge) (s : Nat), (es.foldl (fun s e => bif Region.binds .any e then Nat.lor (Nat.lor s (2 ^ e.on)) ((t.get e.on).getD 0) else s) s).testBit j = true →
 s.testBit j = true ∨ ∃ e ∈ es, Region.binds .any e = true ∧ (j = e.on ∨ xbE t e.on j = true)
 | [], s, h => .inl h
 | e :: es, s, h => by
  simp only [List.foldl_cons] at h
  rcases xgV t j es _ h with h1 | ⟨e', he, hb, hj⟩
  · cases hbe : Region.binds .any e with
    | false => rw [hbe] at h1; exact .inl h1
    | true =>
     rw [hbe, cond_true] at h1
     have h2 : ((s ||| 2 ^ e.on) ||| ((t.get e.on).getD 0)).testBit j = true := h1
     rw [Nat.testBit_or, Nat.testBit_or] at h2
     simp only [Bool.or_eq_true] at h2
     rcases h2 with (h2 | h2) | h2
     · exact .inl h2
     · rw [Nat.testBit_two_pow] at h2
       simp only [decide_eq_true_eq] at h2
       exact .inr ⟨e, by simp, hbe, .inl h2.symm⟩
     exact .inr ⟨e, by simp, hbe, .inr h2⟩
  exact .inr ⟨e', by simp [he], hb, hj⟩
theorem xiP (ops : List Oper) : ∀ (l pre : List Oper) (t : Tr Nat), ops = pre ++ l → (∀ i, pre.length ≤ i → t.get i = none) → xjg ops t → xjg ops (xgU l pre.length t)
 | [], _, _, _, _, h => h
 | o :: l, pre, t, ho, hnone, h => by
  simp only [xgU]
  have hlen : pre.length + 1 = (pre ++ [o]).length := by simp
  rw [hlen]
  refine xiP ops l (pre ++ [o]) _ (by simp [ho]) (fun i hi => ?_) ?_
  · rw [Tr.get_put]
    simp at hi
    rw [if_neg (by omega)]; exact hnone i (by omega)
  intro L hL i x j hx hj he
  have ho' : ops[pre.length]? = some o := by rw [ho]; simp
  unfold xbE at hj
  rw [Tr.get_put] at hj
  by_cases hi : i = pre.length
  · subst hi
    rw [if_pos rfl] at hj
    rw [ho'] at hx; cases hx
    rcases xgV t j _ 0 hj with h1 | ⟨e, hem, hb, hj'⟩
    · simp at h1
    have hLe := he e hem hb
    rcases hj' with rfl | hj'
    · exact hLe
    cases hy : ops[e.on]? with
    | none =>
     have : t.get e.on = none := hnone _ (by
      have h1 := List.getElem?_eq_none_iff.1 hy
      rw [ho] at h1; simp at h1; omega)
     simp [xbE, this] at hj'
    | some y => exact h L hL e.on y j hy hj' fun e' he' hb' => hL e.on y hy hLe e' he' hb'
  rw [if_neg hi] at hj
  exact h L hL i x j hx hj he
theorem xlu (ops : List Oper) : xjg ops (xgU ops 0 .nil) :=
 xiP ops ops [] .nil rfl (fun _ _ => rfl) (fun L _ i x j _ hj _ => by simp [xbE, Tr.get] at hj)
theorem Value.same_eq {v u : Value} (h : Value.same v u = true) : v = u := by
 unfold Value.same at h
 split at h <;> first | (simp_all; done) | skip
 · rename_i a b
   simp only [beq_iff_eq] at h
   rw [show a = b from ByteArray.ext (Array.toList_inj.1 h)]
theorem AC.same_eq : ∀ {x y : AC}, x.same y = true → x = y
 | .lit v, .lit u, h => by rw [Value.same_eq (v := v) (u := u) h]
 | .ptr a b, .ptr c d, h => by simp only [AC.same, Bool.and_eq_true, Nat.beq_eq] at h; rw [h.1, h.2]
 | .sl a b c d e f, .sl a' b' c' d' e' f', h => by
  simp only [AC.same, Bool.and_eq_true, Nat.beq_eq, beq_iff_eq] at h
  obtain ⟨rfl, rfl, rfl, rfl, rfl, rfl⟩ := h; rfl
 | .ifc t c, .ifc u d, h => by simp only [AC.same, Bool.and_eq_true, Nat.beq_eq] at h; rw [h.1, AC.same_eq h.2]
 | .fn f, .fn g, h => by simp only [AC.same, beq_iff_eq] at h; rw [h]
 | .cap a b, .cap c d, h => by simp only [AC.same, Bool.and_eq_true] at h; rw [AC.same_eq h.1, AC.same_eq h.2]
 | .fst a b, .fst c d, h => by simp only [AC.same, Bool.and_eq_true] at h; rw [AC.same_eq h.1, AC.same_eq h.2]
 | .lit _, .ptr .., h => by simp [AC.same] at h
 | .lit _, .sl .., h => by simp [AC.same] at h
 | .lit _, .ifc .., h => by simp [AC.same] at h
 | .lit _, .fn .., h => by simp [AC.same] at h
 | .lit _, .cap .., h => by simp [AC.same] at h
 | .lit _, .fst .., h => by simp [AC.same] at h
 | .ptr .., .lit .., h => by simp [AC.same] at h
 | .ptr .., .sl .., h => by simp [AC.same] at h
 | .ptr .., .ifc .., h => by simp [AC.same] at h
 | .ptr .., .fn .., h => by simp [AC.same] at h
 | .ptr .., .cap .., h => by simp [AC.same] at h
 | .ptr .., .fst .., h => by simp [AC.same] at h
 | .sl .., .lit .., h => by simp [AC.same] at h
 | .sl .., .ptr .., h => by simp [AC.same] at h
 | .sl .., .ifc .., h => by simp [AC.same] at h
 | .sl .., .fn .., h => by simp [AC.same] at h
 | .sl .., .cap .., h => by simp [AC.same] at h
 | .sl .., .fst .., h => by simp [AC.same] at h
 | .ifc .., .lit .., h => by simp [AC.same] at h
 | .ifc .., .ptr .., h => by simp [AC.same] at h
 | .ifc .., .sl .., h => by simp [AC.same] at h
 | .ifc .., .fn .., h => by simp [AC.same] at h
 | .ifc .., .cap .., h => by simp [AC.same] at h
 | .ifc .., .fst .., h => by simp [AC.same] at h
 | .fn .., .lit .., h => by simp [AC.same] at h
 | .fn .., .ptr .., h => by simp [AC.same] at h
 | .fn .., .sl .., h => by simp [AC.same] at h
 | .fn .., .ifc .., h => by simp [AC.same] at h
 | .fn .., .cap .., h => by simp [AC.same] at h
 | .fn .., .fst .., h => by simp [AC.same] at h
 | .cap .., .lit .., h => by simp [AC.same] at h
 | .cap .., .ptr .., h => by simp [AC.same] at h
 | .cap .., .sl .., h => by simp [AC.same] at h
 | .cap .., .ifc .., h => by simp [AC.same] at h
 | .cap .., .fn .., h => by simp [AC.same] at h
 | .cap .., .fst .., h => by simp [AC.same] at h
 | .fst .., .lit .., h => by simp [AC.same] at h
 | .fst .., .ptr .., h => by simp [AC.same] at h
 | .fst .., .sl .., h => by simp [AC.same] at h
 | .fst .., .ifc .., h => by simp [AC.same] at h
 | .fst .., .fn .., h => by simp [AC.same] at h
 | .fst .., .cap .., h => by simp [AC.same] at h
theorem xfi : ∀ {l m : List AC}, xdz l m = true → l = m
 | [], [], _ => rfl
 | x :: l, y :: m, h => by simp only [xdz, Bool.and_eq_true] at h; rw [AC.same_eq h.1, xfi h.2]
 | [], _ :: _, h => by simp [xdz] at h
 | _ :: _, [], h => by simp [xdz] at h
theorem xfp {P : Program} {H : AH} {ev : Ev} {o : Oper} {r : AR} (h : xfZ P H ev o r = true) : xbt P H ev o = some r := by
 unfold xfZ at h
 split at h
 · rename_i x y hx
   rw [hx]
   cases x <;> cases y <;> simp only [AV.same, Bool.false_eq_true] at h
   · rw [AC.same_eq h]
   rw [xfi h]
 simp at h
def xfO (P : Program) (call : xa2) (ops : List Oper) (o : Oper) (fr : Fr) (H : AH) (cls : Nat) (r : AR) (H' : AH) : Prop :=
 (xa9 ops fr o = some false ∧ r = .tup [] ∧ H' = H ∧ (xbe P o = 0 ∧ cls = 0 ∨ xbe P o ≠ 0 ∧ cls = 1)) ∨
 (xa9 ops fr o = some true ∧ xbe P o = 0 ∧ cls = 0 ∧ xaQ P fr.ev o = some r ∧ H' = H) ∨
 (xa9 ops fr o = some true ∧ xbe P o = 0 ∧ cls = 2 ∧ xbt P H fr.ev o = some r ∧ H' = H) ∨
 (xa9 ops fr o = some true ∧ xbe P o ≠ 0 ∧ cls = 1 ∧ opA P call fr.ev H o = some (.ret r, H'))
theorem xfO.same {P : Program} {call : xa2} {ops : List Oper} {o : Oper} {fr : Fr} {H : AH} {cls : Nat} {r : AR} {H' : AH} (h : xfO P call ops o fr H cls r H') (hc : cls ≠ 1) : H' = H := by
 rcases h with ⟨_, _, h, _⟩ | ⟨_, _, _, _, h⟩ | ⟨_, _, _, _, h⟩ | ⟨_, _, h, _⟩
 · exact h
 · exact h
 · exact h
 exact absurd h hc
structure xol (P : Program) (call : xa2) (ops l : List Oper) (rs : List Rc) (fr : Fr) (H : AH) (fr' : Fr) (H' : AH) (fs : Nat → Fr) (hs : Nat → AH) (rr : Nat → AR) (cl : Nat → Nat) : Prop where
 f0 : fs 0 = fr
 h0 : hs 0 = H
 fn : fs l.length = fr'
 hn : hs l.length = H'
 put : ∀ i x, l[i]? = some x → (fs i).put x.dst (rr i) = some (fs (i + 1))
 step : ∀ i x, l[i]? = some x → xfO P call ops x (fs i) (hs i) (cl i) (rr i) (hs (i + 1))
 len : rs.length = l.length
 rc : ∀ i c, rs[i]? = some c → c.fr = fs i ∧ c.cls = cl i ∧ c.r = rr i ∧ c.H = hs i
theorem xl {P : Program} {call : xa2} {ops : List Oper} : ∀ {l : List Oper} {rs : List Rc} {fr : Fr} {H : AH} {fr' : Fr} {H' : AH}, xjN P call ops l fr H = some (rs, fr', H') →
 ∃ fs hs rr cl, xol P call ops l rs fr H fr' H' fs hs rr cl
 | [], rs, fr, H, fr', H', h => by
  simp only [xjN, Option.some.injEq, Prod.mk.injEq] at h
  obtain ⟨rfl, rfl, rfl⟩ := h
  exact ⟨fun _ => fr, fun _ => H, fun _ => .any, fun _ => 0, rfl, rfl, rfl, rfl, fun _ _ h => by simp at h, fun _ _ h => by simp at h, rfl, fun _ _ h => by simp at h⟩
 | o :: l, rs, fr, H, fr', H', h => by
  have key : ∀ cls r H1, xfO P call ops o fr H cls r H1 → (match fr.put o.dst r with
   | some fr' => (xjN P call ops l fr' H1).map fun (rs, x) => ((⟨fr, cls, r, H⟩ : Rc) :: rs, x)
   | none => none) = some (rs, fr', H') → ∃ fs hs rr cl, xol P call ops (o :: l) rs fr H fr' H' fs hs rr cl := by
   intro cls r H1 hst hm
   split at hm
   · rename_i fr1 hp
     simp only [Option.map_eq_some_iff] at hm
     obtain ⟨⟨rs1, fr2, H2⟩, hr, he⟩ := hm
     simp only [Prod.mk.injEq] at he
     obtain ⟨rfl, rfl, rfl⟩ := he
     obtain ⟨fs, hs, rr, cl, ok⟩ := xl hr
     refine ⟨fun i => match i with | 0 => fr | i + 1 => fs i, fun i => match i with | 0 => H | i + 1 => hs i, fun i => match i with | 0 => r | i + 1 => rr i, fun i => match i with | 0 => cls | i + 1 => cl i,
      rfl, rfl, ok.fn, ok.hn, fun i x hx => ?_, fun i x hx => ?_, by simp [ok.len], fun i c hc => ?_⟩
     · cases i with
       | zero => simp only [List.getElem?_cons_zero, Option.some.injEq] at hx; subst hx; rw [hp, ← ok.f0]
       | succ i => exact ok.put i x (by simpa using hx)
     · cases i with
       | zero => simp only [List.getElem?_cons_zero, Option.some.injEq] at hx; subst hx; show xfO _ _ _ _ _ _ _ _ (hs 0); rw [ok.h0]; exact hst
       | succ i => exact ok.step i x (by simpa using hx)
     cases i with
     | zero => simp only [List.getElem?_cons_zero, Option.some.injEq] at hc; subst hc; exact ⟨rfl, rfl, rfl, rfl⟩
     | succ i => exact ok.rc i c (by simpa using hc)
   simp at hm
  simp only [xjN, xiE] at h
  split at h
  · simp at h
  · rename_i hw
    refine key _ _ _ (.inl ⟨hw, rfl, rfl, ?_⟩) h
    cases hk : Nat.beq (xbe P o) 0 with
    | true => exact .inl ⟨Nat.eq_of_beq_eq_true hk, rfl⟩
    | false => exact .inr ⟨(fun e => by rw [e] at hk; cases hk), rfl⟩
  rename_i hw
  cases hk : Nat.beq (xbe P o) 0 with
  | true =>
   simp only [hk, cond_true] at h
   have hk' := Nat.eq_of_beq_eq_true hk
   split at h
   · rename_i r hp
     exact key _ _ _ (.inr (.inl ⟨hw, hk', rfl, hp, rfl⟩)) h
   split at h
   · rename_i r hp
     exact key _ _ _ (.inr (.inr (.inl ⟨hw, hk', rfl, hp, rfl⟩))) h
   simp at h
  | false =>
   simp only [hk, cond_false] at h
   have hk' : xbe P o ≠ 0 := fun e => by rw [e] at hk; cases hk
   split at h
   · rename_i r H1 hp
     exact key _ _ _ (.inr (.inr (.inr ⟨hw, hk', rfl, hp⟩))) h
   simp at h
theorem xoh {P : Program} {t : Tr Nat} {i : Nat} {ev : Ev} {o : Oper} {r : AR} {H' : AH} : ∀ (rs : List Rc) (k : Nat), chkA P t i ev o r (xel rs k H') = true → ∀ p, (p < rs.length → xbE t i (k + p) = false) →
 (∀ q, q < p → ∀ c, rs[q]? = some c → c.cls = 1 → xbE t (k + q) i = false) →
 (∀ c, rs[p]? = some c → c.cls = 1 → xbt P c.H ev o = some r) ∧ (p = rs.length → xbt P H' ev o = some r)
 | [], k, h, p, _, _ => ⟨fun c hc => by simp at hc, fun _ => xfp h⟩
 | d :: rs, k, h, p, hi, hq => by
  simp only [xel] at h
  have ind : chkA P t i ev o r (xel rs (k + 1) H') = true → ∀ p', p = p' + 1 →
   (∀ c, (d :: rs)[p]? = some c → c.cls = 1 → xbt P c.H ev o = some r) ∧ (p = (d :: rs).length → xbt P H' ev o = some r) := by
   intro h1 p' hp
   subst hp
   obtain ⟨a1, a2⟩ := xoh rs (k + 1) h1 p' (fun hh => by rw [show k + 1 + p' = k + (p' + 1) from by omega]; exact hi (by simpa using hh))
    (fun q hqp c hc h1 => by rw [show k + 1 + q = k + (q + 1) from by omega]; exact hq (q + 1) (by omega) c (by simpa using hc) h1)
   exact ⟨fun c hc => a1 c (by simpa using hc), fun hh => a2 (by simpa using hh)⟩
  cases hcl : Nat.beq d.cls 1 with
  | true =>
   simp only [hcl, cond_true, chkA, Bool.and_eq_true, Bool.or_eq_true] at h
   cases p with
   | zero =>
    refine ⟨fun c hc _ => ?_, fun hh => by simp at hh⟩
    simp only [List.getElem?_cons_zero, Option.some.injEq] at hc; subst hc
    have h1 := hi (by simp)
    rcases h.1 with h2 | h2
    · rw [Nat.add_zero] at h1; rw [h1] at h2; simp at h2
    exact xfp h2
   | succ p' =>
    refine ind ?_ p' rfl
    have h1 := hq 0 (by omega) d rfl (Nat.eq_of_beq_eq_true hcl)
    rcases h.2 with h2 | h2
    · rw [Nat.add_zero] at h1; rw [h1] at h2; simp at h2
    exact h2
  | false =>
   simp only [hcl, cond_false] at h
   cases p with
   | zero =>
    refine ⟨fun c hc h1 => ?_, fun hh => by simp at hh⟩
    simp only [List.getElem?_cons_zero, Option.some.injEq] at hc; subst hc
    rw [h1] at hcl; cases hcl
   | succ p' => exact ind h p' rfl
theorem xhg {P : Program} {t : Tr Nat} {stops : List (Option Nat × AH)} : ∀ {l : List Oper} {rs : List Rc} {k : Nat}, xhh P t stops l rs k = true → ∀ i o c, l[i]? = some o → rs[i]? = some c → c.cls = 2 →
 chkA P t (k + i) c.fr.ev o c.r stops = true
 | [], rs, k, _, i, o, c, ho, _, _ => by simp at ho
 | x :: l, [], k, _, i, o, c, _, hc, _ => by simp at hc
 | x :: l, d :: rs, k, h, i, o, c, ho, hc, h2 => by
  simp only [xhh, Bool.and_eq_true, Bool.or_eq_true] at h
  cases i with
  | zero =>
   simp only [List.getElem?_cons_zero, Option.some.injEq] at ho hc
   subst ho; subst hc
   rcases h.1 with h1 | h1
   · rw [h2] at h1; cases h1
   exact h1
  | succ i =>
   have := xhg h.2 i o c (by simpa using ho) (by simpa using hc) h2
   rw [show k + (i + 1) = k + 1 + i from by omega]; exact this
end
section
open Go
structure Reg (P : Program) (call : xa2) (ops : Array Oper) (t : Tr Nat) (fs : Nat → Fr) (hs : Nat → AH) (rr : Nat → AR) (cl : Nat → Nat) : Prop where
 mask : xjg ops.toList t
 edge : ∀ (i : Nat) x, ops[i]? = some x → ∀ e ∈ x.after.toList, Region.binds .any e = true → e.on < i
 pair : ∀ (i j : Nat) x y, ops[i]? = some x → ops[j]? = some y → i < j → xbE t j i = false → Oper.apart ops x y = true ∧
  (xbe P x = 0 ∨ xbe P y = 0 ∨ (xbe P y = 2 ∧ ∀ (k : Nat) z, ops[k]? = some z → k = j ∨ Oper.apart ops y z = true ∨ xbE t k i = true))
 put : ∀ (i : Nat) x, ops[i]? = some x → (fs i).put x.dst (rr i) = some (fs (i + 1))
 step : ∀ (i : Nat) x, ops[i]? = some x → xfO P call ops.toList x (fs i) (hs i) (cl i) (rr i) (hs (i + 1))
 read : ∀ (i : Nat) x, ops[i]? = some x → cl i = 2 → ∀ p, p ≤ ops.size → (p = ops.size ∨ cl p = 1) → (p < ops.size → xbE t i p = false) → (∀ q, q < p → cl q = 1 → xbE t q i = false) →
  xbt P (hs p) (fs i).ev x = some (rr i)
noncomputable def Lk (ops : Array Oper) (fr : Fr) (rr : Nat → AR) (L : Nat → Bool) (t : Tmp) : Nat → AR
 | 0 => fr.get t
 | k + 1 => if L k = true ∧ (ops[k]?).bind (·.dst) = some t then rr k else Lk ops fr rr L t k
def More (L : Nat → Bool) (i : Nat) : Nat → Bool := fun j => decide (j = i) || L j
section
variable {ops : Array Oper} {fr : Fr} {rr : Nat → AR} {L : Nat → Bool} {t : Tmp}
theorem xnx {fr fr' : Fr} {d : Option Tmp} {r : AR} (h : fr.put d r = some fr') (t : Tmp) : fr'.get t = if d = some t then r else fr.get t := by
 rw [Fr.put_def] at h
 cases d with
 | none => simp only [Option.some.injEq] at h; subst h; simp
 | some d =>
  simp only at h
  cases hb : Nat.blt d fr.size with
  | false => simp only [hb, cond_false, reduceCtorEq] at h
  | true =>
   simp only [hb, cond_true, Option.some.injEq] at h
   subst h
   simp only [Fr.get_put, Option.some.injEq]
   by_cases ht : t = d
   · subst ht; simp
   rw [if_neg ht, if_neg (Ne.symm ht)]
theorem xiu {fr fr' : Fr} {d : Option Tmp} {r : AR} (h : fr.put d r = some fr') : fr'.size = fr.size ∧ ∀ k, d = some k → k < fr.size := by
 rw [Fr.put_def] at h
 cases d with
 | none => simp only [Option.some.injEq] at h; subst h; simp
 | some d =>
  simp only at h
  cases hb : Nat.blt d fr.size with
  | false => simp only [hb, cond_false, reduceCtorEq] at h
  | true =>
   simp only [hb, cond_true, Option.some.injEq] at h
   subst h
   exact ⟨rfl, fun k hk => by cases hk; simpa [Nat.blt_eq] using hb⟩
theorem xgW {i : Nat} : ∀ {m : Nat}, (∀ j, j < m → (ops[j]?).bind (·.dst) = some t → (L j = true ↔ j < i)) → i ≤ m → Lk ops fr rr L t m = Lk ops fr rr (fun _ => true) t i
 | 0, _, hi => by have : i = 0 := (by omega); subst this; rfl
 | m + 1, h, hi => by
  by_cases hm : i = m + 1
  · subst hm
    simp only [Lk, true_and]
    by_cases hd : (ops[m]?).bind (·.dst) = some t
    · have := (h m (by omega) hd).2 (by omega)
      simp [hd, this]
    simp only [hd, and_false, if_false]
    exact xgW (i := m) (fun j hj hd' => ⟨fun _ => hj, fun _ => (h j (by omega) hd').2 (by omega)⟩) (Nat.le_refl _)
  have hne : ¬ (L m = true ∧ (ops[m]?).bind (·.dst) = some t) := by
   rintro ⟨h1, h2⟩
   have := (h m (by omega) h2).1 h1
   omega
  simp only [Lk, if_neg hne]
  exact xgW (fun j hj => h j (by omega)) (by omega)
theorem xoa {i : Nat} (hd : (ops[i]?).bind (·.dst) = some t) : ∀ {m : Nat}, i < m → (∀ j, i < j → j < m → L j = true → (ops[j]?).bind (·.dst) ≠ some t) → Lk ops fr rr (More L i) t m = rr i
 | 0, h, _ => by omega
 | m + 1, h, hj => by
  simp only [Lk]
  by_cases hm : m = i
  · subst hm; simp [More, hd]
  have : ¬ (More L i m = true ∧ (ops[m]?).bind (·.dst) = some t) := by
   rintro ⟨h1, h2⟩
   simp only [More, Bool.or_eq_true, decide_eq_true_eq] at h1
   rcases h1 with h1 | h1
   · exact hm h1
   exact hj m (by omega) (by omega) h1 h2
  rw [if_neg this]
  exact xoa hd (by omega) (fun j h1 h2 => hj j h1 (by omega))
theorem xiQ {i : Nat} (hd : (ops[i]?).bind (·.dst) ≠ some t) : ∀ (m : Nat), Lk ops fr rr (More L i) t m = Lk ops fr rr L t m
 | 0 => rfl
 | m + 1 => by
  simp only [Lk]
  rw [xiQ hd m]
  by_cases hm : m = i
  · subst hm; rw [if_neg (fun h => hd h.2), if_neg (fun h => hd h.2)]
  have : More L i m = L m := by simp [More, hm]
  rw [this]
theorem xo {q : Nat} (hL : L q = true) (hd : (ops[q]?).bind (·.dst) = some t) : ∀ {m : Nat}, q < m → (∀ j, j < m → L j = true → j ≠ q → (ops[j]?).bind (·.dst) ≠ some t) → Lk ops fr rr L t m = rr q
 | 0, h, _ => by omega
 | m + 1, h, hj => by
  simp only [Lk]
  by_cases hm : m = q
  · subst hm; rw [if_pos ⟨hL, hd⟩]
  rw [if_neg (fun hh => hj m (by omega) hh.1 hm hh.2)]
  exact xo hL hd (by omega) (fun j h1 => hj j (by omega))
end
section
variable {P : Program} {call : xa2} {ops : Array Oper} {t : Tr Nat} {fs : Nat → Fr} {hs : Nat → AH} {rr : Nat → AR} {cl : Nat → Nat}
theorem Reg.lk (R : Reg P call ops t fs hs rr cl) (d : Tmp) : ∀ i, i ≤ ops.size → (fs i).get d = Lk ops (fs 0) rr (fun _ => true) d i
 | 0, _ => rfl
 | i + 1, h => by
  have hx : ops[i]? = some ops[i] := Array.getElem?_eq_getElem (by omega)
  rw [xnx (R.put i _ hx) d, Lk, hx, R.lk d i (by omega)]
  simp
theorem Reg.size (R : Reg P call ops t fs hs rr cl) : ∀ i, i ≤ ops.size → (fs i).size = (fs 0).size
 | 0, _ => rfl
 | i + 1, h => by
  have hx : ops[i]? = some ops[i] := Array.getElem?_eq_getElem (by omega)
  rw [(xiu (R.put i _ hx)).1, R.size i (by omega)]
structure Early (P : Program) (ops : Array Oper) (L : Nat → Bool) (a : Act) (w : World) (n0 : Nat) (H : AH) (ρ : Rho) (q β : Nat) (x : Oper) (T : TypeId) (i : TypeInfo) (v : Value) : Prop where
 at_ : ops[q]? = some x
 op : x.op = .alloc T
 kind : xbe P x = 2
 info : P.info? T = some i
 zero : i.zero = some v
 heap : w.heap[β]? = some (.cells v.cells T (0, 0))
 old : n0 ≤ β
 free : ∀ id b, H.get id = some b → ρ.blk id ≠ β
 tmp : ∀ d, x.dst = some d → a.tmps.getD d undef = .pointer (some ⟨β, 0, none⟩)
 only : ∀ j, L j = true → j ≠ q → ∀ d, x.dst = some d → (ops[j]?).bind (·.dst) ≠ some d
structure Rel (D : List Deferred) (P : Program) (ops : Array Oper) (fs : Nat → Fr) (hs : Nat → AH) (rr : Nat → AR) (cl : Nat → Nat) (ρ0 : Rho) (w0 : World) (p : Nat) (L : Nat → Bool) (a : Act) (w : World) (ρ : Rho) (β : Nat → Nat) : Prop where
 pn : p ≤ ops.size
 done : ∀ c, c < p → cl c = 1 → L c = true
 hok : HOK ρ (hs p) w
 kp : Kp (hs 0) ρ0 w0 (hs p) ρ w
 size : a.tmps.size = (fs 0).size
 defers : a.defers = D
 den : ∀ d, (∀ q x, p ≤ q → ops[q]? = some x → cl q = 1 → L q = true → x.dst ≠ some d) → (Lk ops (fs 0) rr L d ops.size).den ρ (hs p).next (a.tmps.getD d undef)
 early : ∀ q, p ≤ q → q < ops.size → cl q = 1 → L q = true → ∃ x T i v, Early P ops L a w w0.heap.size (hs p) ρ q (β q) x T i v
 apart : ∀ q q', p ≤ q → p ≤ q' → q < ops.size → q' < ops.size → cl q = 1 → cl q' = 1 → L q = true → L q' = true → q ≠ q' → β q ≠ β q'
theorem xfN {x : Oper} {T : TypeId} (ho : x.op = .alloc T) (hk : xbe P x = 2) : x.guard = none := by
 obtain ⟨dst, op, ty, pos, after, guard⟩ := x
 simp only at ho; subst ho
 cases guard with
 | none => rfl
 | some g => simp [xbe] at hk
theorem kind2 {x : Oper} (hk : xbe P x = 2) : ∃ T, x.op = .alloc T := by
 obtain ⟨dst, op, ty, pos, after, guard⟩ := x
 cases op with
 | alloc T => exact ⟨T, rfl⟩
 | convert s d x => simp only [xbe] at hk; split at hk <;> simp at hk
 | call c =>
  obtain ⟨callee, args, ats⟩ := c
  cases callee with
  | builtin b => cases b <;> simp [xbe] at hk
  | _ => simp [xbe] at hk
 | _ => simp [xbe] at hk
theorem xfM (R : Reg P call ops t fs hs rr cl) {q : Nat} {x : Oper} {T : TypeId} (hx : ops[q]? = some x) (ho : x.op = .alloc T) (hk : xbe P x = 2) :
 ∃ z, zeroCells? P T = some z ∧ rr q = .one (.c (.ptr (hs q).next 0)) ∧ hs (q + 1) = (hs q).new ⟨z, T, true⟩ := by
 have hg := xfN ho hk
 have hst := R.step q x hx
 have hw : xa9 ops.toList (fs q) x = some true := by unfold xa9; rw [hg]
 rcases hst with ⟨h, _⟩ | ⟨_, h, _⟩ | ⟨_, h, _⟩ | ⟨_, _, _, h⟩
 · rw [hw] at h; simp at h
 · rw [hk] at h; simp at h
 · rw [hk] at h; simp at h
 obtain ⟨dst, op, ty, pos, after, guard⟩ := x
 simp only at ho; subst ho
 have h1 : xaQ P (fs q).ev ⟨dst, .alloc T, ty, pos, after, guard⟩ = none := rfl
 have h2 : xbt P (hs q) (fs q).ev ⟨dst, .alloc T, ty, pos, after, guard⟩ = none := rfl
 simp only [opA, h1, h2, actA] at h
 cases hz : zeroCells? P T with
 | some z =>
  simp only [hz, Option.map_some, Option.some.injEq, Prod.mk.injEq, Out.ret.injEq] at h
  exact ⟨z, rfl, h.1.symm, h.2.symm⟩
 | none =>
  exfalso
  have h3 : xbk P (fs q).ev ⟨dst, .alloc T, ty, pos, after, guard⟩ = none := rfl
  have h4 : xct (fs q).ev ⟨dst, .alloc T, ty, pos, after, guard⟩ = none := rfl
  have h5 : xjl P (fs q).ev ⟨dst, .alloc T, ty, pos, after, guard⟩ = none := rfl
  simp [hz, h3, h4, h5] at h
end
end
section
open Go
section
variable {P : Program} {call : xa2} {ops : Array Oper} {t : Tr Nat} {fs : Nat → Fr} {hs : Nat → AH} {rr : Nat → AR} {cl : Nat → Nat} {ρ0 : Rho} {w0 : World} {D : List Deferred}
theorem tl {i : Nat} {x : Oper} (h : ops[i]? = some x) : ops.toList[i]? = some x := by rw [Array.getElem?_toList]; exact h
theorem xb1 {q : Nat} {x : Oper} (hx : ops[q]? = some x) : (ops[q]?).bind (·.dst) = x.dst := by rw [hx]; rfl
theorem xjf (R : Reg P call ops t fs hs rr cl) (hk1 : ∀ q x, ops[q]? = some x → cl q = 1 → xbe P x ≠ 0) (L : Nat → Bool) (a : Act) (w : World) (β : Nat → Nat) : ∀ (m p : Nat) (ρ : Rho), ops.size - p = m → Rel D P ops fs hs rr cl ρ0 w0 p L a w ρ β →
 ∃ p' ρ', Rel D P ops fs hs rr cl ρ0 w0 p' L a w ρ' β ∧ (p' = ops.size ∨ (p' < ops.size ∧ cl p' = 1 ∧ L p' = false))
 | 0, p, ρ, hm, h => ⟨p, ρ, h, .inl (by have := h.pn; omega)⟩
 | m + 1, p, ρ, hm, h => by
  have hp : p < ops.size := by omega
  have hx : ops[p]? = some ops[p] := Array.getElem?_eq_getElem hp
  by_cases hc : cl p = 1
  · cases hL : L p with
    | false => exact ⟨p, ρ, h, .inr ⟨hp, hc, hL⟩⟩
    | true =>
     obtain ⟨x, T, i, v, e⟩ := h.early p (Nat.le_refl _) hp hc hL
     obtain ⟨z, hz, hr, hh⟩ := xfM R e.at_ e.op e.kind
     obtain ⟨i', v', hi', hv', hdz⟩ := xc hz ρ (hs p).next
     rw [e.info] at hi'; cases hi'
     rw [e.zero] at hv'; cases hv'
     have hsz := xbj hdz
     have hok := xiS (b := ⟨z, T, true⟩) (cs := v.cells) (fz := (0, 0)) (g := β p) (o := 0) h.hok (w' := w) (Nat.le_refl _) (fun _ _ _ => rfl) e.heap e.free (.inl rfl) (by rw [hsz, Nat.zero_add]; exact Nat.le_refl _) (fun _ => ⟨rfl, hsz⟩)
      (fun k y hy => by rw [Nat.zero_add]; exact xdM hdz k y hy)
     have ext := Rho.upd_ext ρ (hs p).next (β p) 0 v.cells.size
     refine xjf R hk1 L a w β m (p + 1) (ρ.upd (hs p).next (β p) 0 v.cells.size) (by omega) ⟨hp, fun c hc' h1 => ?_, by rw [hh]; exact hok, ?_, h.size, h.defers, fun d hd => ?_, fun q hq hqn h1 h2 => ?_, fun q q' h1 h2 => h.apart q q' (by omega) (by omega)⟩
     · by_cases hcp : c = p
       · subst hcp; exact hL
       exact h.done c (by omega) h1
     · rw [hh]
       have k := h.kp
       refine ⟨k.ext.trans ext k.next, Nat.le_trans k.next (Nat.le_succ _), k.size, k.os, k.tape, k.output, k.frame, fun id b hb => ?_⟩
       rw [AH.get_new] at hb
       split at hb
       · rename_i hid; subst hid; left; simpa [Rho.upd] using e.old
       rename_i hid
       rcases k.come id b hb with h1 | ⟨id0, b0, h1, h2⟩
       · left; simpa [Rho.upd, hid] using h1
       right; exact ⟨id0, b0, h1, by simpa [Rho.upd, hid] using h2⟩
     · have hnx : (hs (p + 1)).next = (hs p).next + 1 := by rw [hh]; rfl
       by_cases hdp : x.dst = some d
       · have : Lk ops (fs 0) rr L d ops.size = rr p := xo hL (by rw [xb1 e.at_]; exact hdp) hp (fun j _ hj hne => e.only j hj hne d hdp)
         rw [this, hr, e.tmp d hdp, hnx]
         exact ⟨Nat.lt_succ_self _, by simp [Rho.upd]⟩
       have := h.den d (fun q y hq hy h1 h2 => by
        by_cases hqp : q = p
        · subst hqp; rw [e.at_] at hy; cases hy; exact hdp
        exact hd q y (by omega) hy h1 h2)
       rw [hnx]
       exact AR.den_mono ext (Nat.le_succ _) _ _ this
     obtain ⟨x', T', i', v', e'⟩ := h.early q (by omega) hqn h1 h2
     refine ⟨x', T', i', v', e'.at_, e'.op, e'.kind, e'.info, e'.zero, e'.heap, e'.old, fun id b hb => ?_, e'.tmp, e'.only⟩
     rw [hh, AH.get_new] at hb
     split at hb
     · rename_i hid
       subst hid
       simp only [Rho.upd, if_true]
       exact h.apart p q (Nat.le_refl _) (by omega) hp hqn hc h1 hL h2 (by omega)
     rename_i hid
     simp only [Rho.upd, if_neg hid]
     exact e'.free id b hb
  have hh : hs (p + 1) = hs p := (R.step p _ hx).same hc
  refine xjf R hk1 L a w β m (p + 1) ρ (by omega) ⟨hp, fun c hc' h1 => ?_, by rw [hh]; exact h.hok, by rw [hh]; exact h.kp, h.size, h.defers, fun d hd => ?_, fun q hq hqn h1 h2 => ?_, fun q q' h1 h2 => h.apart q q' (by omega) (by omega)⟩
  · by_cases hcp : c = p
    · subst hcp; exact absurd h1 hc
    exact h.done c (by omega) h1
  · rw [hh]
    exact h.den d (fun q y hq hy h1 h2 => by
     by_cases hqp : q = p
     · subst hqp; exact absurd h1 hc
     exact hd q y (by omega) hy h1 h2)
  rw [hh]; exact h.early q (by omega) hqn h1 h2
theorem xlw {x : Oper} {d : Tmp} (h : Operand.tmp d ∈ x.op.operands.toList) : d ∈ x.looksAt ops :=
 List.mem_append_left _ (List.mem_filterMap.2 ⟨.tmp d, h, rfl⟩)
theorem xhR {x : Oper} {g : Nat} {b : Bool} {d : Tmp} (h : x.guard = some (g, b)) (hd : (ops[g]?).bind (·.dst) = some d) : d ∈ x.looksAt ops := by
 unfold Oper.looksAt
 rw [h]
 simp only
 rw [hd]
 exact List.mem_append_right _ (by simp)
theorem xlx (R : Reg P call ops t fs hs rr cl) (hk1 : ∀ q x, ops[q]? = some x → cl q = 1 → xbe P x ≠ 0) {L : Nat → Bool} (hL : xcI ops.toList L) {a : Act} {w : World} {p : Nat} {ρ : Rho} {β : Nat → Nat} (h : Rel D P ops fs hs rr cl ρ0 w0 p L a w ρ β)
 (hp : p = ops.size ∨ (p < ops.size ∧ cl p = 1 ∧ L p = false)) {i : Nat} {o : Oper} (ho : ops[i]? = some o) (hi : L i = false) (he : ∀ e ∈ o.after.toList, Region.binds .any e = true → L e.on = true) {d : Tmp} (hd : d ∈ o.looksAt ops) :
 ((fs i).get d).den ρ (hs p).next (a.tmps.getD d undef) := by
 have hin : i < ops.size := (Array.getElem?_eq_some_iff.1 ho).1
 have F1 : ∀ j, xbE t i j = true → L j = true := fun j hj => R.mask L hL i o j (tl ho) hj he
 have F2 : ∀ j, j < ops.size → xbE t j i = true → L j = false := fun j hjn hj => by
  cases hLj : L j with
  | false => rfl
  | true =>
   have hy : ops[j]? = some ops[j] := Array.getElem?_eq_getElem hjn
   have := R.mask L hL j _ i (tl hy) hj (fun e hem hb => hL j _ (tl hy) hLj e hem hb)
   rw [hi] at this; cases this
 have key : Lk ops (fs 0) rr L d ops.size = (fs i).get d := by
  rw [R.lk d i (by omega)]
  refine xgW (fun j hj hdj => ?_) (by omega)
  have hy : ops[j]? = some ops[j] := Array.getElem?_eq_getElem hj
  rw [xb1 hy] at hdj
  rcases Nat.lt_trichotomy j i with hji | hji | hji
  · refine ⟨fun _ => hji, fun _ => ?_⟩
    cases ha : xbE t i j with
    | true => exact F1 j ha
    | false => exact absurd hd ((Oper.apart_spec (R.pair j i _ _ hy ho hji ha).1).1 d hdj)
  · subst hji
    exact ⟨fun hh => (by rw [hi] at hh; cases hh), fun hh => by omega⟩
  refine ⟨fun hh => ?_, fun hh => by omega⟩
  exfalso
  cases ha : xbE t j i with
  | true => rw [F2 j hj ha] at hh; cases hh
  | false => exact absurd hd ((Oper.apart_spec (R.pair i j _ _ ho hy hji ha).1).2.2 d hdj)
 rw [← key]
 refine h.den d (fun q x hq hx h1 h2 hxd => ?_)
 have hqn : q < ops.size := (Array.getElem?_eq_some_iff.1 hx).1
 rcases hp with hp | ⟨hpn, hpc, hpL⟩
 · omega
 have hne : q ≠ p := fun hh => by subst hh; rw [hpL] at h2; cases h2
 have hpx : ops[p]? = some ops[p] := Array.getElem?_eq_getElem hpn
 cases ha : xbE t q p with
 | true =>
  have := R.mask L hL q x p (tl hx) ha (fun e hem hb => hL q x (tl hx) h2 e hem hb)
  rw [hpL] at this; cases this
 | false =>
  obtain ⟨_, hor⟩ := R.pair p q _ _ hpx hx (by omega) ha
  rcases hor with h3 | h3 | ⟨_, h3⟩
  · exact hk1 p _ hpx hpc h3
  · exact hk1 q _ hx h1 h3
  rcases h3 i o ho with h4 | h4 | h4
  · subst h4; rw [hi] at h2; cases h2
  · exact (Oper.apart_spec h4).1 d hxd hd
  have := F1 p h4
  rw [hpL] at this; cases this
end
end
section
open Go
section
variable {P : Program} {call : xa2} {ops : Array Oper} {t : Tr Nat} {fs : Nat → Fr} {hs : Nat → AH} {rr : Nat → AR} {cl : Nat → Nat} {ρ0 : Rho} {w0 : World} {D : List Deferred}
theorem xm0 {a : Act} {k : Option Tmp} {v : Value} {n : Nat} (hn : a.tmps.size = n) (hk : ∀ j, k = some j → j < n) (d : Tmp) :
 (a.put k v).tmps.getD d undef = if k = some d then v else a.tmps.getD d undef := by
 cases k with
 | none => simp [Act.put]
 | some k =>
  have hlt : k < a.tmps.size := by rw [hn]; exact hk k rfl
  simp only [Act.put, Option.some.injEq, Array.getD_eq_getD_getElem?]
  by_cases h : k = d
  · rw [if_pos h, ← h, Array.getElem?_setIfInBounds_self_of_lt hlt]; rfl
  rw [if_neg h, Array.getElem?_setIfInBounds_ne h]
theorem xb5 (a : Act) (k : Option Tmp) (v : Value) : (a.put k v).tmps.size = a.tmps.size ∧ (a.put k v).defers = a.defers := by
 cases k <;> simp [Act.put]
def xcH (n : Nat) (cl : Nat → Nat) (L : Nat → Bool) (p : Nat) : Prop := p = n ∨ (p < n ∧ cl p = 1 ∧ L p = false)
theorem xc5 (R : Reg P call ops t fs hs rr cl) (hk1 : ∀ q x, ops[q]? = some x → cl q = 1 → xbe P x ≠ 0) {L : Nat → Bool} (hL : xcI ops.toList L) {p : Nat}
 (hp : xcH ops.size cl L p) {i : Nat} {o : Oper} (ho : ops[i]? = some o) (hi : L i = false) (he : ∀ e ∈ o.after.toList, Region.binds .any e = true → L e.on = true)
 {q : Nat} {x : Oper} (hq : p ≤ q) (hx : ops[q]? = some x) (h1 : cl q = 1) (h2 : L q = true) : Oper.apart ops x o = true := by
 have hqn : q < ops.size := (Array.getElem?_eq_some_iff.1 hx).1
 rcases hp with hp | ⟨hpn, hpc, hpL⟩
 · omega
 have hne : q ≠ p := fun hh => by subst hh; rw [hpL] at h2; cases h2
 have hpx : ops[p]? = some ops[p] := Array.getElem?_eq_getElem hpn
 cases ha : xbE t q p with
 | true =>
  have := R.mask L hL q x p (tl hx) ha (fun e hem hb => hL q x (tl hx) h2 e hem hb)
  rw [hpL] at this; cases this
 | false =>
  obtain ⟨_, hor⟩ := R.pair p q _ _ hpx hx (by omega) ha
  rcases hor with h3 | h3 | ⟨_, h3⟩
  · exact absurd h3 (hk1 p _ hpx hpc)
  · exact absurd h3 (hk1 q _ hx h1)
  rcases h3 i o ho with h4 | h4 | h4
  · subst h4; rw [hi] at h2; cases h2
  · exact h4
  have := R.mask L hL i o p (tl ho) h4 he
  rw [hpL] at this; cases this
theorem xcd (R : Reg P call ops t fs hs rr cl) {L : Nat → Bool} (hL : xcI ops.toList L) {i : Nat} {o : Oper} (ho : ops[i]? = some o) (hi : L i = false) {a : Act} (hsz : a.tmps.size = (fs 0).size) {v : Value} (d : Tmp) :
 (o.dst = some d ∧ Lk ops (fs 0) rr (More L i) d ops.size = rr i ∧ (a.put o.dst v).tmps.getD d undef = v) ∨
 (o.dst ≠ some d ∧ Lk ops (fs 0) rr (More L i) d ops.size = Lk ops (fs 0) rr L d ops.size ∧ (a.put o.dst v).tmps.getD d undef = a.tmps.getD d undef) := by
 have hin : i < ops.size := (Array.getElem?_eq_some_iff.1 ho).1
 have hput := xm0 (v := v) hsz (k := o.dst) (fun j hj => by rw [← R.size i (by omega)]; exact (xiu (R.put i o ho)).2 j hj) d
 by_cases hd : o.dst = some d
 · refine .inl ⟨hd, xoa (by rw [xb1 ho]; exact hd) hin fun j hij hj hLj hdj => ?_, by rw [hput, if_pos hd]⟩
   have hy : ops[j]? = some ops[j] := Array.getElem?_eq_getElem hj
   rw [xb1 hy] at hdj
   cases ha : xbE t j i with
   | true =>
    have := R.mask L hL j _ i (tl hy) ha (fun e hem hb => hL j _ (tl hy) hLj e hem hb)
    rw [hi] at this; cases this
   | false => exact (Oper.apart_spec (R.pair i j _ _ ho hy hij ha).1).2.1 d hd hdj
 exact .inr ⟨hd, xiQ (by rw [xb1 ho]; exact hd) _, by rw [hput, if_neg hd]⟩
theorem xaR {L : Nat → Bool} {i j : Nat} (h : More L i j = true) : j = i ∨ L j = true := by
 simpa [More] using h
theorem xcv {L : Nat → Bool} {i j : Nat} (h : L j = true) : More L i j = true := by simp [More, h]
theorem xfY (R : Reg P call ops t fs hs rr cl) (hk1 : ∀ q x, ops[q]? = some x → cl q = 1 → xbe P x ≠ 0) {L : Nat → Bool} (hL : xcI ops.toList L) {a : Act} {w : World} {p : Nat} {ρ : Rho} {β : Nat → Nat}
 (h : Rel D P ops fs hs rr cl ρ0 w0 p L a w ρ β) (hp : xcH ops.size cl L p) {i : Nat} {o : Oper} (ho : ops[i]? = some o) (hi : L i = false) (he : ∀ e ∈ o.after.toList, Region.binds .any e = true → L e.on = true)
 (hc : cl i ≠ 1) {v : Value} (hv : (rr i).den ρ (hs p).next v) : Rel D P ops fs hs rr cl ρ0 w0 p (More L i) (a.put o.dst v) w ρ β where
 pn := h.pn
 done := fun c hc1 h1 => xcv (h.done c hc1 h1)
 hok := h.hok
 kp := h.kp
 size := (xb5 a _ _).1.trans h.size
 defers := (xb5 a _ _).2.trans h.defers
 den := fun d hd => by
  rcases xcd R hL ho hi h.size (v := v) d with ⟨_, e1, e2⟩ | ⟨_, e1, e2⟩
  · rw [e1, e2]; exact hv
  rw [e1, e2]; exact h.den d fun q x hq hx h1 h2 => hd q x hq hx h1 (xcv h2)
 early := fun q hq hqn h1 h2 => by
  rcases xaR h2 with rfl | h2
  · exact absurd h1 hc
  obtain ⟨x, T, inf, z, e⟩ := h.early q hq hqn h1 h2
  have hap := Oper.apart_spec (xc5 R hk1 hL hp ho hi he hq e.at_ h1 h2)
  refine ⟨x, T, inf, z, e.at_, e.op, e.kind, e.info, e.zero, e.heap, e.old, e.free, fun d hd => ?_, fun j hj hne d hd => ?_⟩
  · rcases xcd R hL ho hi h.size (v := v) d with ⟨e0, _, _⟩ | ⟨_, _, e2⟩
    · exact absurd e0 (hap.2.1 d hd)
    rw [e2]; exact e.tmp d hd
  rcases xaR hj with rfl | hj
  · rw [xb1 ho]; exact hap.2.1 d hd
  exact e.only j hj hne d hd
 apart := fun q q' a1 a2 a3 a4 a5 a6 a7 a8 => by
  rcases xaR a7 with rfl | a7
  · exact absurd a5 hc
  rcases xaR a8 with rfl | a8
  · exact absurd a6 hc
  exact h.apart q q' a1 a2 a3 a4 a5 a6 a7 a8
theorem xit (R : Reg P call ops t fs hs rr cl) (hk1 : ∀ q x, ops[q]? = some x → cl q = 1 → xbe P x ≠ 0) {L : Nat → Bool} (hL : xcI ops.toList L) {a : Act} {w : World} {p : Nat} {ρ : Rho} {β : Nat → Nat}
 (h : Rel D P ops fs hs rr cl ρ0 w0 p L a w ρ β) (hp : xcH ops.size cl L p) {o : Oper} (ho : ops[p]? = some o) (hi : L p = false) (he : ∀ e ∈ o.after.toList, Region.binds .any e = true → L e.on = true)
 {v : Value} {ρ' : Rho} {w' : World} (hv : (rr p).den ρ' (hs (p + 1)).next v) (hH : HOK ρ' (hs (p + 1)) w') (hK : Kp (hs p) ρ w (hs (p + 1)) ρ' w') :
 Rel D P ops fs hs rr cl ρ0 w0 (p + 1) (More L p) (a.put o.dst v) w' ρ' β where
 pn := (Array.getElem?_eq_some_iff.1 ho).1
 done := fun c hc1 h1 => by
  by_cases hcp : c = p
  · subst hcp; simp [More]
  exact xcv (h.done c (by omega) h1)
 hok := hH
 kp := h.kp.trans hK
 size := (xb5 a _ _).1.trans h.size
 defers := (xb5 a _ _).2.trans h.defers
 den := fun d hd => by
  rcases xcd R hL ho hi h.size (v := v) d with ⟨_, e1, e2⟩ | ⟨_, e1, e2⟩
  · rw [e1, e2]; exact hv
  rw [e1, e2]
  refine AR.den_mono hK.ext hK.next _ _ (h.den d fun q x hq hx h1 h2 => ?_)
  by_cases hqp : q = p
  · subst hqp; rw [hi] at h2; cases h2
  exact hd q x (by omega) hx h1 (xcv h2)
 early := fun q hq hqn h1 h2 => by
  rcases xaR h2 with rfl | h2
  · omega
  obtain ⟨x, T, inf, z, e⟩ := h.early q (by omega) hqn h1 h2
  have hap := Oper.apart_spec (xc5 R hk1 hL hp ho hi he (by omega) e.at_ h1 h2)
  have hlt : β q < w.heap.size := (Array.getElem?_eq_some_iff.1 e.heap).1
  refine ⟨x, T, inf, z, e.at_, e.op, e.kind, e.info, e.zero, (hK.frame _ hlt e.free).trans e.heap, e.old, fun id b hb hh => ?_, fun d hd => ?_, fun j hj hne d hd => ?_⟩
  · rcases hK.come id b hb with h3 | ⟨id0, b0, h3, h4⟩
    · omega
    exact e.free id0 b0 h3 (h4.trans hh)
  · rcases xcd R hL ho hi h.size (v := v) d with ⟨e0, _, _⟩ | ⟨_, _, e2⟩
    · exact absurd e0 (hap.2.1 d hd)
    rw [e2]; exact e.tmp d hd
  rcases xaR hj with rfl | hj
  · rw [xb1 ho]; exact hap.2.1 d hd
  exact e.only j hj hne d hd
 apart := fun q q' a1 a2 a3 a4 a5 a6 a7 a8 => by
  rcases xaR a7 with rfl | a7
  · omega
  rcases xaR a8 with rfl | a8
  · omega
  exact h.apart q q' (by omega) (by omega) a3 a4 a5 a6 a7 a8
theorem xkp (w : World) (o : Obj) : (∀ k, k < w.heap.size → (w.alloc o).heap[k]? = w.heap[k]?) ∧ (w.alloc o).heap[w.heap.size]? = some o ∧ (w.alloc o).heap.size = w.heap.size + 1 :=
 ⟨fun k hk => by show (w.heap.push _)[k]? = _; rw [Array.getElem?_push, if_neg (by omega)], by show (w.heap.push _)[_]? = _; simp, by show (w.heap.push _).size = _; simp⟩
theorem xkU (R : Reg P call ops t fs hs rr cl) (hk1 : ∀ q x, ops[q]? = some x → cl q = 1 → xbe P x ≠ 0) {L : Nat → Bool} (hL : xcI ops.toList L) {a : Act} {w : World} {p : Nat} {ρ : Rho} {β : Nat → Nat}
 (h : Rel D P ops fs hs rr cl ρ0 w0 p L a w ρ β) (hp : xcH ops.size cl L p) {i : Nat} {o : Oper} (ho : ops[i]? = some o) (hi : L i = false) (he : ∀ e ∈ o.after.toList, Region.binds .any e = true → L e.on = true)
 (hc : cl i = 1) (hpi : p < i) (hk : xbe P o = 2) {T : TypeId} (hop : o.op = .alloc T) {inf : TypeInfo} {z : Value} (hinf : P.info? T = some inf) (hz : inf.zero = some z)
 (honly : ∀ j, L j = true → j ≠ i → ∀ d, o.dst = some d → (ops[j]?).bind (·.dst) ≠ some d) :
 Rel D P ops fs hs rr cl ρ0 w0 p (More L i) (a.put o.dst (.pointer (some ⟨w.heap.size, 0, none⟩))) (w.alloc (.cells z.cells T)) ρ (fun q => if q = i then w.heap.size else β q) := by
 obtain ⟨a1, a2, a3⟩ := xkp w (.cells z.cells T)
 have hne : ∀ id b, (hs p).get id = some b → ρ.blk id < w.heap.size := fun id b hb => h.hok.lt_size hb
 refine ⟨h.pn, fun c hc1 h1 => xcv (h.done c hc1 h1), ⟨h.hok.lt, h.hok.inj, fun id b hb => ?_⟩, ?_, (xb5 a _ _).1.trans h.size, (xb5 a _ _).2.trans h.defers, fun d hd => ?_, fun q hq hqn h1 h2 => ?_, fun q q' b1 b2 b3 b4 b5 b6 b7 b8 b9 => ?_⟩
 · obtain ⟨cs, fz, hl⟩ := h.hok.row id b hb
   exact ⟨cs, fz, (a1 _ (hne id b hb)).trans hl.heap, hl.size, hl.thaw, hl.room, hl.whole, hl.den⟩
 · have k := h.kp
   exact ⟨k.ext, k.next, by have := k.size; omega, k.os, k.tape, k.output, fun j hj hn => (a1 j (by have := k.size; omega)).trans (k.frame j hj hn), k.come⟩
 · rcases xcd R hL ho hi h.size (v := .pointer (some ⟨w.heap.size, 0, none⟩)) d with ⟨e0, _, _⟩ | ⟨_, e1, e2⟩
   · exact absurd e0 (hd i o (by omega) ho hc (by simp [More]))
   rw [e1, e2]; exact h.den d fun q x hq hx h1 h2 => hd q x hq hx h1 (xcv h2)
 · by_cases hqi : q = i
   · subst hqi
     refine ⟨o, T, inf, z, ho, hop, hk, hinf, hz, by rw [if_pos rfl]; exact a2, by rw [if_pos rfl]; exact h.kp.size, fun id b hb => by rw [if_pos rfl]; have := hne id b hb; omega, fun d hd => ?_, fun j hj hne' d hd => ?_⟩
     · rcases xcd R hL ho hi h.size (v := .pointer (some ⟨w.heap.size, 0, none⟩)) d with ⟨_, _, e2⟩ | ⟨e0, _, _⟩
       · rw [e2, if_pos rfl]
       exact absurd hd e0
     rcases xaR hj with hj | hj
     · exact absurd hj hne'
     exact honly j hj hne' d hd
   rcases xaR h2 with h2 | h2
   · exact absurd h2 hqi
   obtain ⟨x, T', inf', z', e⟩ := h.early q hq hqn h1 h2
   have hap := Oper.apart_spec (xc5 R hk1 hL hp ho hi he hq e.at_ h1 h2)
   have hlt : β q < w.heap.size := (Array.getElem?_eq_some_iff.1 e.heap).1
   refine ⟨x, T', inf', z', e.at_, e.op, e.kind, e.info, e.zero, by rw [if_neg hqi]; exact (a1 _ hlt).trans e.heap, by rw [if_neg hqi]; exact e.old, by rw [if_neg hqi]; exact e.free, fun d hd => ?_, fun j hj hne' d hd => ?_⟩
   · rcases xcd R hL ho hi h.size (v := .pointer (some ⟨w.heap.size, 0, none⟩)) d with ⟨e0, _, _⟩ | ⟨_, _, e2⟩
     · exact absurd e0 (hap.2.1 d hd)
     rw [e2, if_neg hqi]; exact e.tmp d hd
   rcases xaR hj with rfl | hj
   · rw [xb1 ho]; exact hap.2.1 d hd
   exact e.only j hj hne' d hd
 have lt : ∀ r, p ≤ r → r < ops.size → cl r = 1 → More L i r = true → r ≠ i → β r < w.heap.size := fun r r1 r2 r3 r4 r5 => by
  rcases xaR r4 with r4 | r4
  · exact absurd r4 r5
  obtain ⟨x, T', inf', z', e⟩ := h.early r r1 r2 r3 r4
  exact (Array.getElem?_eq_some_iff.1 e.heap).1
 by_cases c1 : q = i <;> by_cases c2 : q' = i
 · omega
 · rw [if_pos c1, if_neg c2]; have := lt q' b2 b4 b6 b8 c2; omega
 · rw [if_neg c1, if_pos c2]; have := lt q b1 b3 b5 b7 c1; omega
 rw [if_neg c1, if_neg c2]
 rcases xaR b7 with b7 | b7
 · exact absurd b7 c1
 rcases xaR b8 with b8 | b8
 · exact absurd b8 c2
 exact h.apart q q' b1 b2 b3 b4 b5 b6 b7 b8 b9
end
end
end Go.Proofs.YtbifklibdkjbeaaGreatDoor
