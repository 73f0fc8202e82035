/-
  Trees that are shown alike are the same: plain Lean.
-/
import Derived.Test.YtinogeobkljngaaDoorPaShP
import Derived.Test.YtinogeobkljngaaDoorPaSm
namespace Go.Proofs.YtinogeobkljngaaDoor
open Go.RowKit
set_option linter.unusedVariables false
set_option linter.unusedSimpArgs false
set_option maxRecDepth 100000

def isDg (c : UInt8) : Prop := 48 ≤ c.toNat ∧ c.toNat ≤ 57
def dval (l : List UInt8) : Nat := l.foldl (fun a c => a * 10 + (c.toNat - 48)) 0
theorem dval_snoc (l : List UInt8) (c : UInt8) : dval (l ++ [c]) = dval l * 10 + (c.toNat - 48) := by simp [dval]
theorem dg_of (k : Nat) (h : k < 10) : isDg (UInt8.ofNat (48 + k)) ∧ (UInt8.ofNat (48 + k)).toNat - 48 = k := by
  unfold isDg
  rw [UInt8.toNat_ofNat_of_lt' (by show 48 + k < 256; omega)]; omega
theorem dec_facts : ∀ m, (∀ c ∈ Lib.decDigits m, isDg c) ∧ dval (Lib.decDigits m) = m ∧ Lib.decDigits m ≠ [] := by
  intro m
  induction m using Nat.strongRecOn with
  | _ m ih =>
    rw [Lib.decDigits]
    by_cases h : m < 10
    · rw [dif_pos h]
      refine ⟨fun c hc => ?_, ?_, by simp⟩
      · rw [List.mem_singleton] at hc; subst hc; exact (dg_of m h).1
      · have := (dg_of m h).2
        simp only [dval, List.foldl_cons, List.foldl_nil]; omega
    · rw [dif_neg h]
      have h1 := ih (m / 10) (by omega)
      have h2 := dg_of (m % 10) (by omega)
      refine ⟨fun c hc => ?_, ?_, by simp⟩
      · rcases List.mem_append.1 hc with hc | hc
        · exact h1.1 c hc
        · rw [List.mem_singleton] at hc; subst hc; exact h2.1
      · rw [dval_snoc, h1.2.1, h2.2]; omega
def noDg (u : List UInt8) : Prop := ∀ c r, u = c :: r → ¬ isDg c
theorem dg_split : ∀ (a b u v : List UInt8), (∀ c ∈ a, isDg c) → (∀ c ∈ b, isDg c) → noDg u → noDg v → a ++ u = b ++ v → a = b ∧ u = v := by
  intro a
  induction a with
  | nil =>
    intro b u v _ hb hu _ h
    cases b with
    | nil => exact ⟨rfl, h⟩
    | cons c b => exact absurd (hb c (by simp)) (hu c (b ++ v) h)
  | cons c a ih =>
    intro b u v ha hb hu hv h
    cases b with
    | nil => exact absurd (ha c (by simp)) (hv c (a ++ u) h.symm)
    | cons d b =>
      simp only [List.cons_append, List.cons.injEq] at h
      obtain ⟨rfl, h⟩ := h
      obtain ⟨rfl, rfl⟩ := ih b u v (fun x hx => ha x (by simp [hx])) (fun x hx => hb x (by simp [hx])) hu hv h
      exact ⟨rfl, rfl⟩
theorem dec_inj {m n : Nat} {u v : List UInt8} (hu : noDg u) (hv : noDg v) (h : Lib.decDigits m ++ u = Lib.decDigits n ++ v) : m = n ∧ u = v := by
  obtain ⟨h1, h2⟩ := dg_split _ _ _ _ (dec_facts m).1 (dec_facts n).1 hu hv h
  have := congrArg dval h1
  rw [(dec_facts m).2.1, (dec_facts n).2.1] at this
  exact ⟨this, h2⟩
theorem dec_head (m : Nat) : ∃ c r, Lib.decDigits m = c :: r ∧ isDg c := by
  have h := dec_facts m
  cases hh : Lib.decDigits m with
  | nil => exact absurd hh h.2.2
  | cons c r => exact ⟨c, r, rfl, h.1 c (by rw [hh]; simp)⟩
theorem not_dg45 : ¬ isDg 45 := by unfold isDg; decide
theorem itoa_inj {x y : Int} {u v : List UInt8} (hu : noDg u) (hv : noDg v) (h : Lib.itoa x ++ u = Lib.itoa y ++ v) : x = y ∧ u = v := by
  unfold Lib.itoa at h
  by_cases hx : x < 0 <;> by_cases hy : y < 0
  · rw [if_pos hx, if_pos hy] at h
    simp only [List.cons_append, List.cons.injEq, true_and] at h
    obtain ⟨h1, h2⟩ := dec_inj hu hv h
    exact ⟨by omega, h2⟩
  · rw [if_pos hx, if_neg hy] at h
    obtain ⟨c, r, hc, hd⟩ := dec_head y.toNat
    rw [hc] at h
    simp only [List.cons_append, List.cons.injEq] at h
    rw [← h.1] at hd
    exact absurd hd not_dg45
  · rw [if_neg hx, if_pos hy] at h
    obtain ⟨c, r, hc, hd⟩ := dec_head x.toNat
    rw [hc] at h
    simp only [List.cons_append, List.cons.injEq] at h
    rw [h.1] at hd
    exact absurd hd not_dg45
  · rw [if_neg hx, if_neg hy] at h
    obtain ⟨h1, h2⟩ := dec_inj hu hv h
    exact ⟨by omega, h2⟩
theorem itoa_head (x : Int) : ∃ c r, Lib.itoa x = c :: r ∧ (isDg c ∨ c = 45) := by
  unfold Lib.itoa
  split
  · exact ⟨45, _, rfl, Or.inr rfl⟩
  · obtain ⟨c, r, h1, h2⟩ := dec_head x.toNat
    exact ⟨c, r, h1, Or.inl h2⟩
def stopR (u : List UInt8) : Prop := ∀ c r, u = c :: r → ¬ isDg c ∧ c ≠ 45
theorem stopR.dg {u : List UInt8} (h : stopR u) : noDg u := fun c r e => (h c r e).1
theorem noDg45 (r : List UInt8) : noDg (45 :: r) := fun c r' e => by
  obtain ⟨rfl, _⟩ := List.cons.inj e; exact not_dg45
theorem range_inj {p q : Int × Int} {u v : List UInt8} (hu : stopR u) (hv : stopR v) (h : rangeS p ++ u = rangeS q ++ v) : p = q ∧ u = v := by
  obtain ⟨p1, p2⟩ := p
  obtain ⟨q1, q2⟩ := q
  unfold rangeS at h
  simp only at h
  by_cases hp : p2 = p1 <;> by_cases hq : q2 = q1
  · rw [if_pos hp, if_pos hq] at h
    obtain ⟨h1, h2⟩ := itoa_inj hu.dg hv.dg h
    exact ⟨by rw [hp, hq, h1], h2⟩
  · rw [if_pos hp, if_neg hq, List.append_assoc] at h
    obtain ⟨_, h2⟩ := itoa_inj hu.dg (noDg45 _) h
    exact absurd rfl (hu _ _ h2).2
  · rw [if_neg hp, if_pos hq, List.append_assoc] at h
    obtain ⟨_, h2⟩ := itoa_inj (noDg45 _) hv.dg h
    exact absurd rfl (hv _ _ h2.symm).2
  · rw [if_neg hp, if_neg hq, List.append_assoc, List.append_assoc] at h
    obtain ⟨h1, h2⟩ := itoa_inj (noDg45 _) (noDg45 _) h
    simp only [List.cons_append, List.cons.injEq, true_and] at h2
    obtain ⟨h3, h4⟩ := itoa_inj hu.dg hv.dg h2
    exact ⟨by rw [h1, h3], h4⟩
theorem range_head (p : Int × Int) : ∃ c r, rangeS p = c :: r ∧ (isDg c ∨ c = 45) := by
  obtain ⟨c, r, h1, h2⟩ := itoa_head p.1
  unfold rangeS
  split
  · exact ⟨c, r, h1, h2⟩
  · exact ⟨c, _, by rw [h1]; rfl, h2⟩
def rt : List (Int × Int) → List UInt8
  | [] => [125]
  | p :: r => 32 :: (rangeS p ++ rt r)
theorem rt_stop (l : List (Int × Int)) (u : List UInt8) : stopR (rt l ++ u) := by
  intro c r e
  cases l with
  | nil =>
    simp only [rt, List.cons_append, List.cons.injEq] at e
    obtain ⟨rfl, _⟩ := e; unfold isDg; decide
  | cons p l =>
    simp only [rt, List.cons_append, List.cons.injEq] at e
    obtain ⟨rfl, _⟩ := e; unfold isDg; decide
theorem rt_inj : ∀ (l m : List (Int × Int)) (u v : List UInt8), rt l ++ u = rt m ++ v → l = m ∧ u = v := by
  intro l
  induction l with
  | nil =>
    intro m u v h
    cases m with
    | nil => simp only [rt, List.cons_append, List.nil_append, List.cons.injEq, true_and] at h; exact ⟨rfl, h⟩
    | cons q m => simp [rt] at h
  | cons p l ih =>
    intro m u v h
    cases m with
    | nil => simp [rt] at h
    | cons q m =>
      simp only [rt, List.cons_append, List.cons.injEq, true_and, List.append_assoc] at h
      obtain ⟨rfl, h2⟩ := range_inj (rt_stop _ _) (rt_stop _ _) h
      obtain ⟨rfl, rfl⟩ := ih m u v h2
      exact ⟨rfl, rfl⟩
theorem rangesS_eq (l : List (Int × Int)) : rangesS l = 123 :: (match l with | [] => [125] | p :: r => rangeS p ++ rt r) := by
  have key : ∀ r : List (Int × Int), Lib.joinTail [32] (r.map rangeS) ++ [125] = rt r := by
    intro r
    induction r with
    | nil => rfl
    | cons q r ih =>
      rw [rt, ← ih]
      simp [Lib.joinTail]
  cases l with
  | nil => rfl
  | cons p r =>
    unfold rangesS
    rw [List.map_cons, Lib.join_cons, List.append_assoc, key]
theorem ranges_inj {l m : List (Int × Int)} {u v : List UInt8} (h : rangesS l ++ u = rangesS m ++ v) : l = m ∧ u = v := by
  rw [rangesS_eq, rangesS_eq] at h
  simp only [List.cons_append, List.cons.injEq, true_and] at h
  have h125 : ¬ (isDg 125 ∨ (125 : UInt8) = 45) := by unfold isDg; decide
  cases l with
  | nil =>
    cases m with
    | nil => simp only [List.cons_append, List.nil_append, List.cons.injEq, true_and] at h; exact ⟨rfl, h⟩
    | cons q m =>
      obtain ⟨c, r, hc, hd⟩ := range_head q
      simp only [hc, List.cons_append, List.nil_append, List.cons.injEq] at h
      rw [← h.1] at hd
      exact absurd hd h125
  | cons p l =>
    cases m with
    | nil =>
      obtain ⟨c, r, hc, hd⟩ := range_head p
      simp only [hc, List.cons_append, List.nil_append, List.cons.injEq] at h
      rw [h.1] at hd
      exact absurd hd h125
    | cons q m =>
      simp only [List.append_assoc] at h
      obtain ⟨rfl, h2⟩ := range_inj (rt_stop _ _) (rt_stop _ _) h
      obtain ⟨rfl, rfl⟩ := rt_inj _ _ _ _ h2
      exact ⟨rfl, rfl⟩
def kt : List (List UInt8) → List UInt8
  | [] => [41]
  | k :: r => 44 :: (k ++ kt r)
theorem shownS_eq (l : List (List UInt8)) : shownS l = 40 :: (match l with | [] => [41] | k :: r => k ++ kt r) := by
  have key : ∀ r : List (List UInt8), Lib.joinTail [44] r ++ [41] = kt r := by
    intro r
    induction r with
    | nil => rfl
    | cons q r ih =>
      rw [kt, ← ih]
      simp [Lib.joinTail]
  cases l with
  | nil => rfl
  | cons p r =>
    unfold shownS
    rw [Lib.join_cons, List.append_assoc, key]

/-- A node as the parser makes it. -/
def WFn (t : T) : Prop :=
  t = zeroT ∨ (∃ s, t = charT s) ∨ t = ⟨2, [], 0, 0, .nil⟩ ∨ t = ⟨3, [], 0, 0, .nil⟩ ∨ (∃ l, t = ⟨4, [], 0, 0, F.ofL l⟩) ∨ (∃ l, t = ⟨5, [], 0, 0, F.ofL l⟩) ∨ ∃ mn mx l, t = ⟨6, [], mn, mx, F.ofL l⟩
def WF : F → Prop
  | .nil => True
  | .cons op s mn mx k r => WFn ⟨op, s, mn, mx, k⟩ ∧ WF k ∧ WF r
def WFT (t : T) : Prop := WFn t ∧ WF t.kids
theorem WF.of {l : List T} : WF (F.ofL l) ↔ ∀ t ∈ l, WFT t := by
  induction l with
  | nil => simp [F.ofL, WF]
  | cons t l ih =>
    simp only [F.ofL, WF, ih, List.mem_cons, forall_eq_or_imp]
    constructor
    · rintro ⟨h1, h2, h3⟩; exact ⟨⟨h1, h2⟩, h3⟩
    · rintro ⟨⟨h1, h2⟩, h3⟩; exact ⟨h1, h2, h3⟩
/-- What it is shown as. -/
def Fm (t : T) : Prop :=
  (t = zeroT ∧ showT t = [101, 109, 112, 116, 121]) ∨ (∃ s, t = charT s ∧ showT t = [99, 104, 97, 114] ++ rangesS s) ∨ (t = ⟨2, [], 0, 0, .nil⟩ ∧ showT t = [98, 101, 103, 105, 110]) ∨ (t = ⟨3, [], 0, 0, .nil⟩ ∧ showT t = [101, 110, 100]) ∨
  (∃ l, (∀ k ∈ l, WFT k) ∧ t = ⟨4, [], 0, 0, F.ofL l⟩ ∧ showT t = [99, 97, 116] ++ shownS (l.map showT)) ∨ (∃ l, (∀ k ∈ l, WFT k) ∧ t = ⟨5, [], 0, 0, F.ofL l⟩ ∧ showT t = [97, 108, 116] ++ shownS (l.map showT)) ∨
  ∃ mn mx l, (∀ k ∈ l, WFT k) ∧ t = ⟨6, [], mn, mx, F.ofL l⟩ ∧ showT t = [114, 101, 112, 123] ++ Lib.itoa mn ++ [32] ++ Lib.itoa mx ++ [125] ++ shownS (l.map showT)
theorem WFT.fm {t : T} (h : WFT t) : Fm t := by
  obtain ⟨h1, h2⟩ := h
  rcases h1 with rfl | ⟨s, rfl⟩ | rfl | rfl | ⟨l, rfl⟩ | ⟨l, rfl⟩ | ⟨mn, mx, l, rfl⟩
  · exact Or.inl ⟨rfl, rfl⟩
  · exact Or.inr (Or.inl ⟨s, rfl, rfl⟩)
  · exact Or.inr (Or.inr (Or.inl ⟨rfl, rfl⟩))
  · exact Or.inr (Or.inr (Or.inr (Or.inl ⟨rfl, rfl⟩)))
  · exact Or.inr (Or.inr (Or.inr (Or.inr (Or.inl ⟨l, WF.of.1 h2, rfl, by rw [← showF_of]; rfl⟩))))
  · exact Or.inr (Or.inr (Or.inr (Or.inr (Or.inr (Or.inl ⟨l, WF.of.1 h2, rfl, by rw [← showF_of]; rfl⟩)))))
  · exact Or.inr (Or.inr (Or.inr (Or.inr (Or.inr (Or.inr ⟨mn, mx, l, WF.of.1 h2, rfl, by rw [← showF_of]; rfl⟩)))))
theorem show_head {t : T} (h : WFT t) : ∃ c r, showT t = c :: r ∧ c ≠ 41 := by
  rcases h.fm with ⟨_, e⟩ | ⟨s, _, e⟩ | ⟨_, e⟩ | ⟨_, e⟩ | ⟨l, _, _, e⟩ | ⟨l, _, _, e⟩ | ⟨mn, mx, l, _, _, e⟩
  all_goals (rw [e]; exact ⟨_, _, rfl, by decide⟩)
def InjC (t : T) : Prop := ∀ t' u v, WFT t → WFT t' → showT t ++ u = showT t' ++ v → t = t' ∧ u = v
theorem kt_inj : ∀ (L L' : List T) (u v : List UInt8), (∀ k ∈ L, InjC k) → (∀ k ∈ L, WFT k) → (∀ k ∈ L', WFT k) → kt (L.map showT) ++ u = kt (L'.map showT) ++ v → L = L' ∧ u = v := by
  intro L
  induction L with
  | nil =>
    intro L' u v _ _ _ h
    cases L' with
    | nil => simp only [kt, List.map_nil, List.cons_append, List.nil_append, List.cons.injEq, true_and] at h; exact ⟨rfl, h⟩
    | cons q m => simp [kt] at h
  | cons p l ih =>
    intro L' u v hc hw hw' h
    cases L' with
    | nil => simp [kt] at h
    | cons q m =>
      simp only [kt, List.map_cons, List.cons_append, List.cons.injEq, true_and, List.append_assoc] at h
      obtain ⟨rfl, h2⟩ := hc p (by simp) q _ _ (hw p (by simp)) (hw' q (by simp)) h
      obtain ⟨rfl, rfl⟩ := ih m u v (fun k hk => hc k (by simp [hk])) (fun k hk => hw k (by simp [hk])) (fun k hk => hw' k (by simp [hk])) h2
      exact ⟨rfl, rfl⟩
theorem shown_inj {L L' : List T} {u v : List UInt8} (hc : ∀ k ∈ L, InjC k) (hw : ∀ k ∈ L, WFT k) (hw' : ∀ k ∈ L', WFT k) (h : shownS (L.map showT) ++ u = shownS (L'.map showT) ++ v) : L = L' ∧ u = v := by
  rw [shownS_eq, shownS_eq] at h
  simp only [List.cons_append, List.cons.injEq, true_and] at h
  cases L with
  | nil =>
    cases L' with
    | nil => simp only [List.map_nil, List.cons_append, List.nil_append, List.cons.injEq, true_and] at h; exact ⟨rfl, h⟩
    | cons q m =>
      obtain ⟨c, r, e, hd⟩ := show_head (hw' q (by simp))
      simp only [List.map_nil, List.map_cons, e, List.cons_append, List.nil_append, List.cons.injEq] at h
      exact absurd h.1.symm hd
  | cons p l =>
    cases L' with
    | nil =>
      obtain ⟨c, r, e, hd⟩ := show_head (hw p (by simp))
      simp only [List.map_nil, List.map_cons, e, List.cons_append, List.nil_append, List.cons.injEq] at h
      exact absurd h.1 hd
    | cons q m =>
      simp only [List.map_cons, List.append_assoc] at h
      obtain ⟨rfl, h2⟩ := hc p (by simp) q _ _ (hw p (by simp)) (hw' q (by simp)) h
      obtain ⟨rfl, rfl⟩ := kt_inj _ _ _ _ (fun k hk => hc k (by simp [hk])) (fun k hk => hw k (by simp [hk])) (fun k hk => hw' k (by simp [hk])) h2
      exact ⟨rfl, rfl⟩
theorem noDg_c {c : UInt8} (h : ¬ isDg c) (r : List UInt8) : noDg (c :: r) := fun d r' e => by
  obtain ⟨rfl, _⟩ := List.cons.inj e; exact h
theorem show_injC (t : T) : InjC t := by
  refine T.ind (C := InjC) ?_ t
  intro t ih t' u v hw hw' h
  have IH : ∀ {l : List T}, t.kids = F.ofL l → ∀ k ∈ l, InjC k := by
    intro l e k hk
    obtain ⟨i, hi⟩ := List.getElem?_of_mem hk
    exact ih i k (by rw [e, F.to_of]; exact hi)
  rcases hw.fm with ⟨a, e⟩ | ⟨s, a, e⟩ | ⟨a, e⟩ | ⟨a, e⟩ | ⟨l, hl, a, e⟩ | ⟨l, hl, a, e⟩ | ⟨mn, mx, l, hl, a, e⟩ <;>
  rcases hw'.fm with ⟨a', e'⟩ | ⟨s', a', e'⟩ | ⟨a', e'⟩ | ⟨a', e'⟩ | ⟨l', hl', a', e'⟩ | ⟨l', hl', a', e'⟩ | ⟨mn', mx', l', hl', a', e'⟩ <;>
  rw [e, e'] at h <;>
  first
    | (exfalso; simp at h; done)
    | (simp only [List.cons_append, List.nil_append, List.cons.injEq, true_and] at h; exact ⟨by rw [a, a'], h⟩)
    | (simp only [List.cons_append, List.nil_append, List.cons.injEq, true_and, List.append_assoc] at h
       obtain ⟨rfl, h2⟩ := ranges_inj h
       exact ⟨by rw [a, a'], h2⟩)
    | (simp only [List.cons_append, List.nil_append, List.cons.injEq, true_and, List.append_assoc] at h
       obtain ⟨rfl, h2⟩ := shown_inj (IH (by rw [a])) hl hl' h
       exact ⟨by rw [a, a'], h2⟩)
    | (simp only [List.cons_append, List.nil_append, List.cons.injEq, true_and, List.append_assoc] at h
       obtain ⟨rfl, h2⟩ := itoa_inj (noDg_c (by unfold isDg; decide) _) (noDg_c (by unfold isDg; decide) _) h
       simp only [List.cons.injEq, true_and] at h2
       obtain ⟨rfl, h3⟩ := itoa_inj (noDg_c (by unfold isDg; decide) _) (noDg_c (by unfold isDg; decide) _) h2
       simp only [List.cons.injEq, true_and] at h3
       obtain ⟨rfl, h4⟩ := shown_inj (IH (by rw [a])) hl hl' h3
       exact ⟨by rw [a, a'], h4⟩)
theorem show_inj {t t' : T} (hw : WFT t) (hw' : WFT t') (h : showT t = showT t') : t = t' :=
  (show_injC t t' [] [] hw hw' (by rw [h])).1
end Go.Proofs.YtinogeobkljngaaDoor
