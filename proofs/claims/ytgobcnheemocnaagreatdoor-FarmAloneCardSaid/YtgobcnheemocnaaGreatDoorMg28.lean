/-
  Several texts in one: Plain laws: matching comes to an end, whatever the program and the text. engine's Is, All (every program). Is and All at every engine: some answer that hangs on the program, the prefix and the text alone. The reckoned engine of "a", read: it answers at every text of up to thirty octets. No condition. FarmAlone whole, for whatever came in. No condition.
-/
import Derived.Test.YtgobcnheemocnaaGreatDoorMg26
import Derived.Test.YtgobcnheemocnaaGreatDoorMg27
import Derived.Deep.RegionHeld3
import Derived.Test.YtgobcnheemocnaaGreatDoorMg14
import Derived.Test.YtgobcnheemocnaaGreatDoorMg12
import Derived.Test.YtgobcnheemocnaaGreatDoorMg21
section
namespace Go.Proofs.YtgobcnheemocnaaGreatDoor
open Go.RowKit
set_option linter.unusedVariables false
set_option linter.unusedSimpArgs false
set_option maxRecDepth 100000

def PgOK (is : List Ins) : Prop := ∀ (k : Nat) (i : Ins), is[k]? = some i → okI is.length i
/-- How many are not marked yet. -/
def unm : Nat → (Nat → Bool) → Nat
  | 0, _ => 0
  | n + 1, M => unm n M + if M n = true then 0 else 1
theorem unm_upd {M : Nat → Bool} {i : Nat} (h : M i = false) : ∀ n, i < n → unm n (updM M i) + 1 = unm n M
  | 0, hi => by omega
  | n + 1, hi => by
    by_cases hn : i = n
    · subst hn
      have hs : ∀ m, m ≤ i → unm m (updM M i) = unm m M := by
        intro m
        induction m with
        | zero => intro _; rfl
        | succ m ih =>
          intro hm
          have : updM M i m = M m := by unfold updM; rw [if_neg (by omega)]
          rw [unm, unm, ih (by omega), this]
      rw [unm, unm, hs i (Nat.le_refl _), h]
      simp [updM]
    · have := unm_upd h n (by omega)
      have e : updM M i n = M n := by unfold updM; rw [if_neg (fun e => hn e.symm)]
      rw [unm, unm, e]; omega
/-- Instructions that may stand in a list. -/
def leafs (is : List Ins) (l : List Nat) : Prop := ∀ i ∈ l, ∃ x, is[i]? = some x ∧ (x.op = 0 ∨ x.op = 1)
theorem put_total {is : List Ins} (hok : PgOK is) (bg en : Bool) : ∀ (k i : Nat) (L : List Nat) (M : Nat → Bool), i < is.length → unm is.length M ≤ k → leafs is L → ∃ s', PtR is bg en i (L, M) s' ∧ s'.1.length + unm is.length s'.2 ≤ L.length + unm is.length M ∧ unm is.length s'.2 ≤ unm is.length M ∧ leafs is s'.1 := by
  intro k
  induction k with
  | zero =>
    intro i L M hi hk hL
    cases hm : M i with
    | true => exact ⟨_, PtR.seen hi hm, Nat.le_refl _, Nat.le_refl _, hL⟩
    | false => have := unm_upd hm is.length hi; omega
  | succ k ih =>
    intro i L M hi hk hL
    cases hm : M i with
    | true => exact ⟨_, PtR.seen hi hm, Nat.le_refl _, Nat.le_refl _, hL⟩
    | false =>
      have hu := unm_upd hm is.length hi
      obtain ⟨x, hx⟩ : ∃ x, is[i]? = some x := ⟨_, List.getElem?_eq_getElem hi⟩
      rcases hok i x hx with ho | ⟨ho | ho | ho, h1⟩ | ⟨ho, h1, h2⟩
      · refine ⟨_, PtR.leaf hm hx (Or.inl ho), by simp; omega, by simp only; omega, fun j hj => ?_⟩
        rcases List.mem_append.1 hj with hj | hj
        · exact hL j hj
        · obtain rfl : j = i := by simpa using hj
          exact ⟨x, hx, Or.inl ho⟩
      · refine ⟨_, PtR.leaf hm hx (Or.inr ho), by simp; omega, by simp only; omega, fun j hj => ?_⟩
        rcases List.mem_append.1 hj with hj | hj
        · exact hL j hj
        · obtain rfl : j = i := by simpa using hj
          exact ⟨x, hx, Or.inr ho⟩
      · cases hb : bg with
        | false => exact ⟨_, PtR.skip hm hx (Or.inl ⟨ho, rfl⟩), by simp only; omega, by simp only; omega, hL⟩
        | true =>
          obtain ⟨s1, r1, r2, r3, r4⟩ := ih x.x L (updM M i) h1 (by omega) hL
          rw [hb] at r1
          exact ⟨s1, PtR.pass hm hx (Or.inl ⟨ho, rfl⟩) r1, by omega, by omega, r4⟩
      · cases he : en with
        | false => exact ⟨_, PtR.skip hm hx (Or.inr ⟨ho, rfl⟩), by simp only; omega, by simp only; omega, hL⟩
        | true =>
          obtain ⟨s1, r1, r2, r3, r4⟩ := ih x.x L (updM M i) h1 (by omega) hL
          rw [he] at r1
          exact ⟨s1, PtR.pass hm hx (Or.inr ⟨ho, rfl⟩) r1, by omega, by omega, r4⟩
      · obtain ⟨s1, r1, r2, r3, r4⟩ := ih x.x L (updM M i) h1 (by omega) hL
        obtain ⟨s2, t1, t2, t3, t4⟩ := ih x.y s1.1 s1.2 h2 (by omega) r4
        exact ⟨s2, PtR.split hm hx ho r1 t1, by omega, by omega, t4⟩
theorem fold_total {is : List Ins} (hok : PgOK is) (r : Int) (n p ln : Nat) : ∀ (l : List Nat) (s : St), leafs is l → leafs is s.2.1 → ∃ f, FoldR is r n p ln l s f ∧ f.2.1.length + unm is.length f.2.2 ≤ s.2.1.length + unm is.length s.2.2 ∧ leafs is f.2.1 ∧ (f.1 = s.1 ∨ f.1 = p) := by
  intro l
  induction l with
  | nil => exact fun s _ hs => ⟨s, FoldR.nil s, Nat.le_refl _, hs, Or.inl rfl⟩
  | cons i l ih =>
    intro s hl hs
    have hl2 : leafs is l := fun j hj => hl j (by simp [hj])
    obtain ⟨x, hx, ho⟩ := hl i (by simp)
    rcases ho with ho | ho
    · obtain ⟨f, h1, h2, h3, h4⟩ := ih ((p : Int), s.2) hl2 hs
      exact ⟨f, FoldR.mt hx ho h1, h2, h3, h4.elim (fun e => Or.inr e) Or.inr⟩
    · by_cases hn : 0 < n
      · cases hh : has x.set r with
        | false =>
          obtain ⟨f, h1, h2, h3, h4⟩ := ih s hl2 hs
          exact ⟨f, FoldR.miss hx ho (Or.inr hh) h1, h2, h3, h4⟩
        | true =>
          have hxx : x.x < is.length := by
            rcases hok i x hx with h | ⟨_, h⟩ | ⟨h, _⟩
            · omega
            · exact h
            · omega
          obtain ⟨q, q1, q2, q3, q4⟩ := put_total hok (decide (p + n = 0)) (decide (p + n = ln)) _ x.x s.2.1 s.2.2 hxx (Nat.le_refl _) hs
          obtain ⟨f, h1, h2, h3, h4⟩ := ih (s.1, q) hl2 q4
          exact ⟨f, FoldR.hit hx ho hn hh q1 h1, by simp only at h2; omega, h3, h4⟩
      · obtain ⟨f, h1, h2, h3, h4⟩ := ih s hl2 hs
        exact ⟨f, FoldR.miss hx ho (Or.inl (by omega)) h1, h2, h3, h4⟩
theorem unm_false (n : Nat) : unm n (fun _ => false) = n := by
  induction n with
  | zero => rfl
  | succ n ih => rw [unm, ih]; simp
theorem long_total {is : List Ins} (hok : PgOK is) (his : is.length ≤ 4000) (tx : List UInt8) : ∀ (d p : Nat) (L : List Nat) (e : Int), tx.length - p ≤ d → p ≤ tx.length → leafs is L → ∃ k e', LongR is tx k L p e e' ∧ k ≤ d ∧ (e' = e ∨ (p : Int) ≤ e' ∧ e' ≤ tx.length) := by
  intro d
  induction d with
  | zero =>
    intro p L e hd hp hL
    obtain ⟨f, h1, h2, h3, h4⟩ := fold_total hok (pointP tx p).1 (pointP tx p).2 p tx.length L (e, [], fun _ => false) hL (fun i hi => by simp at hi)
    have hz := h1.zero (by rw [pointP_none (by omega)])
    obtain ⟨f1, f2, f3⟩ := f
    obtain ⟨rfl, rfl⟩ : f2 = [] ∧ f3 = fun _ => false := by simpa using hz
    exact ⟨0, f1, LongR.stop h1, Nat.le_refl _, by rcases h4 with h | h; exact Or.inl h; exact Or.inr (by simp only at h; omega)⟩
  | succ d ih =>
    intro p L e hd hp hL
    obtain ⟨f, h1, h2, h3, h4⟩ := fold_total hok (pointP tx p).1 (pointP tx p).2 p tx.length L (e, [], fun _ => false) hL (fun i hi => by simp at hi)
    obtain ⟨f1, f2, f3⟩ := f
    simp only [unm_false, List.length_nil] at h2 h3 h4
    have h4' : f1 = e ∨ (p : Int) ≤ f1 ∧ f1 ≤ tx.length := h4.imp id (fun h => by omega)
    by_cases h0 : f2 = []
    · subst h0
      exact ⟨0, f1, LongR.stop h1, by omega, h4'⟩
    · have hpl : p < tx.length := by
        rcases Nat.lt_or_ge p tx.length with h | h
        · exact h
        · have := h1.zero (by rw [pointP_none h])
          exact absurd (congrArg Prod.fst this) h0
      have hn := pointP_le hp
      have hn1 : 1 ≤ (pointP tx p).2 := by
        cases hdr : tx.drop p with
        | nil => have := congrArg List.length hdr; simp at this; omega
        | cons c t => rw [pointP_some hdr]; exact (getP_pos c t).1
      obtain ⟨k, e', r1, r2, r3⟩ := ih (p + (pointP tx p).2) f2 f1 (by omega) hn h3
      refine ⟨k + 1, e', LongR.go h1 h0 (by omega) r1, by omega, ?_⟩
      rcases r3 with rfl | r3
      · exact h4'
      · exact Or.inr (by omega)
theorem start_total {is : List Ins} (hok : PgOK is) (h0 : 0 < is.length) (his : is.length ≤ 4000) (tx : List UInt8) (p : Nat) (hp : p ≤ tx.length) : ∃ k e, StartR is tx p k e ∧ k ≤ tx.length ∧ (e = -1 ∨ (p : Int) ≤ e ∧ e ≤ tx.length) := by
  obtain ⟨s0, h1, h2, h3, h4⟩ := put_total hok (decide (p = 0)) (decide (p = tx.length)) _ 0 [] (fun _ => false) h0 (Nat.le_refl _) (fun i hi => by simp at hi)
  rw [unm_false] at h2
  obtain ⟨k, e, r1, r2, r3⟩ := long_total hok his tx (tx.length - p) p s0.1 (-1) (Nat.le_refl _) hp h4
  exact ⟨k, e, ⟨s0, h1, by simp at h2; omega, r1⟩, by omega, r3⟩
theorem first_total {is : List Ins} (hok : PgOK is) (h0 : 0 < is.length) (his : is.length ≤ 4000) (tx : List UInt8) : ∀ (l : List Nat), (∀ p ∈ l, p ≤ tx.length) → ∃ m fin, FirstR is tx m l fin ∧ m ≤ l.length * (tx.length + 1) ∧ (fin = (0, 0, false) ∨ ∃ p e : Nat, fin = ((p : Int), (e : Int), true) ∧ p ∈ l ∧ p ≤ e ∧ e ≤ tx.length) := by
  intro l
  induction l with
  | nil => exact fun _ => ⟨0, _, FirstR.none, by simp, Or.inl rfl⟩
  | cons p l ih =>
    intro hl
    have hp := hl p (by simp)
    obtain ⟨k, e, h1, h2, h3⟩ := start_total hok h0 his tx p hp
    by_cases he : 0 ≤ e
    · obtain ⟨e', rfl⟩ : ∃ e' : Nat, e = (e' : Int) := ⟨e.toNat, by omega⟩
      refine ⟨k + 1, _, FirstR.hit hp h1 he, ?_, Or.inr ⟨p, e', rfl, by simp, by omega, by omega⟩⟩
      rw [List.length_cons, Nat.add_mul]; omega
    · obtain ⟨m, fin, r1, r2, r3⟩ := ih (fun q hq => hl q (by simp [hq]))
      refine ⟨k + 1 + m, fin, FirstR.miss hp h1 (by omega) r1, ?_, ?_⟩
      · rw [List.length_cons, Nat.add_mul]; omega
      · rcases r3 with r3 | ⟨p', e', r3, r4, r5⟩
        · exact Or.inl r3
        · exact Or.inr ⟨p', e', r3, by simp [r4], r5⟩
theorem drop_ne {l : List Nat} {p : Nat} (h : p ∈ l) : l.dropWhile (fun q => decide (q < p)) ≠ [] := by
  induction l with
  | nil => simp at h
  | cons a l ih =>
    by_cases ha : a < p
    · rw [List.dropWhile_cons_of_pos (by simpa using ha)]
      rcases List.mem_cons.1 h with rfl | h
      · omega
      · exact ih h
    · rw [List.dropWhile_cons_of_neg (by simpa using ha)]; simp
theorem all_total {is : List Ins} (hok : PgOK is) (h0 : 0 < is.length) (his : is.length ≤ 4000) (tx : List UInt8) : ∀ (d : Nat) (l : List Nat) (last : Int), l.length ≤ d → (∀ p ∈ l, p ≤ tx.length) → l.Pairwise (· < ·) → ∃ m all, AllR is tx m l last all ∧ m ≤ d * (d * (tx.length + 1)) ∧ all.length ≤ d ∧ ∀ y ∈ all, 0 ≤ y.1 ∧ y.1 ≤ y.2 ∧ y.2 ≤ (tx.length : Int) := by
  intro d
  induction d with
  | zero =>
    intro l last hd _ _
    obtain rfl : l = [] := List.length_eq_zero_iff.1 (by omega)
    exact ⟨0, [], AllR.nil last, by simp, by simp, by simp⟩
  | succ d ih =>
    intro l last hd hl hs
    by_cases hn : l = []
    · subst hn
      exact ⟨0, [], AllR.nil last, by simp, by simp, by simp⟩
    · obtain ⟨m, fin, h1, h2, h3⟩ := first_total hok h0 his tx l hl
      have hm1 : m ≤ (d + 1) * (tx.length + 1) := Nat.le_trans h2 (Nat.mul_le_mul hd (Nat.le_refl _))
      have hbig : ∀ m' : Nat, m' ≤ d * (d * (tx.length + 1)) → m + m' ≤ (d + 1) * ((d + 1) * (tx.length + 1)) := fun m' hm' => by
        have e1 : (d + 1) * ((d + 1) * (tx.length + 1)) = d * ((d + 1) * (tx.length + 1)) + (d + 1) * (tx.length + 1) := by rw [Nat.add_mul d 1, Nat.one_mul]
        have e2 : d * (d * (tx.length + 1)) ≤ d * ((d + 1) * (tx.length + 1)) := Nat.mul_le_mul (Nat.le_refl _) (Nat.mul_le_mul (by omega) (Nat.le_refl _))
        omega
      have hsuf : ∀ e, (∀ p ∈ l.dropWhile (fun q => decide (q < e)), p ≤ tx.length) ∧ (l.dropWhile (fun q => decide (q < e))).Pairwise (· < ·) := fun e =>
        ⟨fun p hp => hl p ((List.dropWhile_suffix _).subset hp), hs.sublist (List.dropWhile_suffix _).sublist⟩
      rcases h3 with rfl | ⟨p, e, rfl, hp, hpe, hee⟩
      · exact ⟨m, [], AllR.stop hn h1, by have := hbig 0 (Nat.zero_le _); omega, by simp, by simp⟩
      · by_cases hlt : p < e
        · have hlen : (l.dropWhile (fun q => decide (q < e))).length < l.length := by
            rcases l with _ | ⟨a, t⟩
            · exact absurd rfl hn
            · have hae : a < e := by
                rcases List.mem_cons.1 hp with rfl | hp
                · exact hlt
                · have := (List.pairwise_cons.1 hs).1 p hp; omega
              rw [List.dropWhile_cons_of_pos (by simpa using hae)]
              have := (List.dropWhile_suffix (l := t) (fun q => decide (q < e))).length_le
              simp only [List.length_cons]; omega
          obtain ⟨m', all, r1, r2, r3, r4⟩ := ih (l.dropWhile (fun q => decide (q < e))) e (by omega) (hsuf e).1 (hsuf e).2
          exact ⟨m + m', _, AllR.far hn h1 hlt hlen r1, hbig m' r2, by simp; omega, fun y hy => by
            rcases List.mem_cons.1 hy with rfl | hy
            · exact ⟨by show (0 : Int) ≤ (p : Int); omega, by show (p : Int) ≤ (e : Int); omega, by show (e : Int) ≤ _; omega⟩
            · exact r4 y hy⟩
        · obtain rfl : p = e := by omega
          obtain ⟨x, q, hd'⟩ : ∃ x q, l.dropWhile (fun q => decide (q < p)) = x :: q := by
            cases h : l.dropWhile (fun q => decide (q < p)) with
            | nil => exact absurd h (drop_ne hp)
            | cons x q => exact ⟨x, q, rfl⟩
          have hsu := hsuf p
          rw [hd'] at hsu
          have hql : q.length ≤ d := by
            have := (List.dropWhile_suffix (l := l) (fun q => decide (q < p))).length_le
            rw [hd', List.length_cons] at this; omega
          by_cases hla : last = p
          · obtain ⟨m', all, r1, r2, r3, r4⟩ := ih q last hql (fun y hy => hsu.1 y (by simp [hy])) (List.pairwise_cons.1 hsu.2).2
            exact ⟨m + m', _, AllR.same hn h1 hd' hla r1, hbig m' r2, by omega, r4⟩
          · obtain ⟨m', all, r1, r2, r3, r4⟩ := ih q p hql (fun y hy => hsu.1 y (by simp [hy])) (List.pairwise_cons.1 hsu.2).2
            exact ⟨m + m', _, AllR.void hn h1 hd' hla r1, hbig m' r2, by simp; omega, fun y hy => by
              rcases List.mem_cons.1 hy with rfl | hy
              · exact ⟨by show (0 : Int) ≤ (p : Int); omega, by show (p : Int) ≤ (p : Int); omega, by show (p : Int) ≤ _; omega⟩
              · exact r4 y hy⟩
theorem plc_sorted : ∀ (f : Nat) (l : List UInt8) (a : Nat), (∀ p ∈ plcP f l a, a < p ∧ p ≤ a + l.length) ∧ (plcP f l a).Pairwise (· < ·)
  | 0, _, _ => ⟨fun p hp => by simp [plcP] at hp, List.Pairwise.nil⟩
  | f + 1, [], _ => ⟨fun p hp => by simp [plcP] at hp, List.Pairwise.nil⟩
  | f + 1, c :: t, a => by
    have hpos := (getP_pos c t).1
    have hle := getP_le c t
    obtain ⟨h1, h2⟩ := plc_sorted f ((c :: t).drop (getP (c :: t)).2) (a + (getP (c :: t)).2)
    have hl : ((c :: t).drop (getP (c :: t)).2).length = t.length + 1 - (getP (c :: t)).2 := by simp
    rw [hl] at h1
    have e : plcP (f + 1) (c :: t) a = (a + (getP (c :: t)).2) :: plcP f ((c :: t).drop (getP (c :: t)).2) (a + (getP (c :: t)).2) := rfl
    rw [e]
    refine ⟨fun p hp => ?_, List.pairwise_cons.2 ⟨fun p hp => (h1 p hp).1, h2⟩⟩
    rcases List.mem_cons.1 hp with rfl | hp
    · simp only [List.length_cons]; omega
    · have := h1 p hp
      simp only [List.length_cons]; omega
theorem places_sorted (l : List UInt8) : (∀ p ∈ places l, p ≤ l.length) ∧ (places l).Pairwise (· < ·) := by
  obtain ⟨h1, h2⟩ := plc_sorted l.length l 0
  unfold places
  refine ⟨fun p hp => ?_, List.pairwise_cons.2 ⟨fun p hp => (h1 p hp).1, h2⟩⟩
  rcases List.mem_cons.1 hp with rfl | hp
  · omega
  · have := h1 p hp; omega
theorem plcP_len : ∀ (f : Nat) (l : List UInt8) (a : Nat), (plcP f l a).length ≤ f
  | 0, _, _ => Nat.le_refl _
  | f + 1, [], _ => Nat.zero_le _
  | f + 1, c :: t, a => by
    have := plcP_len f ((c :: t).drop (getP (c :: t)).2) (a + (getP (c :: t)).2)
    simp only [plcP, List.length_cons]; omega
theorem places_len (l : List UInt8) : (places l).length ≤ l.length + 1 := by
  have := plcP_len l.length l 0
  unfold places
  simp only [List.length_cons]; omega
/-- All matches there are. -/
theorem match_total {is : List Ins} (hok : PgOK is) (h0 : 0 < is.length) (his : is.length ≤ 4000) (tx : List UInt8) (htx : tx.length ≤ 4000) : ∃ m all, AllR is tx m (places tx) (-1) all ∧ m ≤ 900000000000 ∧ all.length ≤ 4001 ∧ ∀ y ∈ all, 0 ≤ y.1 ∧ y.1 ≤ y.2 ∧ y.2 ≤ (tx.length : Int) := by
  obtain ⟨m, all, h1, h2, h3, h4⟩ := all_total hok h0 his tx (tx.length + 1) (places tx) (-1) (places_len tx) (places_sorted tx).1 (places_sorted tx).2
  refine ⟨m, all, h1, Nat.le_trans h2 ?_, by omega, h4⟩
  have e1 : (tx.length + 1) * (tx.length + 1) ≤ 4001 * 4001 := Nat.mul_le_mul (by omega) (by omega)
  have e2 : (tx.length + 1) * ((tx.length + 1) * (tx.length + 1)) ≤ 4001 * (4001 * 4001) := Nat.mul_le_mul (by omega) e1
  omega
end Go.Proofs.YtgobcnheemocnaaGreatDoor
end
section
namespace Go.Proofs.YtgobcnheemocnaaGreatDoor
open Go.RowKit
set_option linter.unusedVariables false
set_option linter.unusedSimpArgs false
set_option maxRecDepth 100000

/-- It's plain that a text has no match. -/
def HopeL (pre tx : List UInt8) : Prop := pre ≠ [] ∧ (∀ a, a ≤ tx.length → mtL pre tx a = false) ∧ (pts tx).isSome = true
def NotHopeL (pre tx : List UInt8) : Prop := pre = [] ∨ (∃ a, a ≤ tx.length ∧ mtL pre tx a = true) ∨ (pts tx).isSome = false
theorem hope_yes {pre tx : List UInt8} (h : HopeL pre tx) {z : Int} (hz : pre ≠ [] → IdxAt (mtL pre tx) tx.length 0 z) : (!pre.isEmpty && (decide (z < 0) && (pts tx).isSome)) = true := by
  obtain ⟨h1, h2, h3⟩ := h
  have hz1 : z < 0 := by
    rcases Int.lt_or_le z 0 with h | h
    · exact h
    · obtain ⟨a, _, _, ha, hm, _⟩ := idx_some (hz h1) h
      rw [h2 a ha] at hm; cases hm
  have : pre.isEmpty = false := by cases pre <;> simp_all
  simp [this, h3, hz1]
theorem hope_no {pre tx : List UInt8} (h : NotHopeL pre tx) {z : Int} (hz : pre ≠ [] → IdxAt (mtL pre tx) tx.length 0 z) : (!pre.isEmpty && (decide (z < 0) && (pts tx).isSome)) = false := by
  by_cases h0 : pre = []
  · simp [h0]
  · rcases h with h | ⟨a, ha, hm⟩ | h
    · exact absurd h h0
    · have hz1 : ¬ z < 0 := by
        intro h
        have := idx_none (hz h0) h a (Nat.zero_le _) ha
        rw [this] at hm; cases hm
      simp [hz1]
    · simp [h]
/-- All hits by the texts alone. -/
inductive LitR (pre tx : List UInt8) : Nat → List (Int × Int) → Prop
  | none {f : Nat} (h : ∀ a, f ≤ a → a ≤ tx.length → mtL pre tx a = false) : LitR pre tx f []
  | some {f a : Nat} {r : List (Int × Int)} (h1 : f ≤ a) (ha : a ≤ tx.length) (h2 : mtL pre tx a = true) (h3 : ∀ b, f ≤ b → b < a → mtL pre tx b = false) (hr : LitR pre tx (a + pre.length) r) : LitR pre tx f (((a : Int), ((a + pre.length : Nat) : Int)) :: r)
theorem LitR.none' {pre tx : List UInt8} {f : Nat} {r : List (Int × Int)} {z : Int} (h : LitR pre tx f r) (hz : IdxAt (mtL pre tx) tx.length f z) (h0 : z < 0) : r = [] := by
  cases h with
  | none => rfl
  | some h1 ha h2 => have := idx_none hz h0 _ h1 ha; rw [this] at h2; cases h2
theorem LitR.some' {pre tx : List UInt8} {f : Nat} {r : List (Int × Int)} {z : Int} (h : LitR pre tx f r) (hz : IdxAt (mtL pre tx) tx.length f z) (h0 : 0 ≤ z) : ∃ (a : Nat) (r' : List (Int × Int)), z = a ∧ f ≤ a ∧ a + pre.length ≤ tx.length ∧ r = ((a : Int), ((a + pre.length : Nat) : Int)) :: r' ∧ LitR pre tx (a + pre.length) r' := by
  obtain ⟨a, rfl, ha1, ha2, ha3, ha4⟩ := idx_some hz h0
  have hb := (mtB_iff.1 ha3).1
  cases h with
  | none h => rw [h a ha1 ha2] at ha3; cases ha3
  | @some _ b r' h1 hb' h2 h3 hr =>
    have : a = b := by
      rcases Nat.lt_trichotomy a b with h | h | h
      · rw [h3 a ha1 h] at ha3; cases ha3
      · exact h
      · rw [ha4 b h1 h] at h2; cases h2
    subst this
    exact ⟨a, r', rfl, ha1, hb, rfl, hr⟩
def LiR (pre tx : List UInt8) (all : List (Int × Int)) (OB : Nat) (w0 : World) (ov av : Value) (wr : World) : Prop :=
  ∃ (f : Nat) (z : Int) (acc rest : List (Int × Int)), av = .int .i64 z ∧ f ≤ 100000 ∧ IdxAt (mtL pre tx) tx.length f z ∧ LitR pre tx f rest ∧ all = acc ++ rest ∧ wr.ownsRow OB 118 2 ov acc.length (cellsOf 2 encR acc) ∧ Keeps (fun _ => False) w0 wr
def msZ (v : Value) (n : Nat) : Nat := if intOf v < 0 then 0 else n + 1 - (intOf v).toNat
theorem msZ_lt {a n : Nat} {z : Int} (hz : z < 0 ∨ (a : Int) < z ∧ z ≤ n) (ha : a ≤ n) : msZ (.int .i64 z) n < msZ (.int .i64 (a : Int)) n := by
  show (if z < 0 then 0 else n + 1 - z.toNat) < (if (a : Int) < 0 then 0 else n + 1 - (a : Int).toNat)
  rw [if_neg (show ¬ (a : Int) < 0 by omega)]
  split <;> omega
set_option maxHeartbeats 8000000 in
theorem eall_lit (eb : Nat) (P : Nat → Prop) (pv : Value) (is : List Ins) (pre tx : List UInt8) (all : List (Int × Int)) (w : World) (h : EngAt w P eb pv is (pre, true)) (hr : pre.length ≤ 1000) (htx : tx.length ≤ 1000) (hh : NotHopeL pre tx) (h0 : pre ≠ []) (hpl : plainL tx = true) (hl : LitR pre tx 0 all) (hal : all.length ≤ 100000) :
    Calls Tryz.prog 244 #[.pointer (some ⟨eb, 0, none⟩), .string ⟨tx.toArray⟩] w fun e w' => ∃ v, e = .returned v ∧ w'.ownsRow w.heap.size 118 2 v all.length (cellsOf 2 encR all) ∧ Keeps (fun _ => False) w w' := by
  obtain ⟨i0, hi, hz0, hz1, hz2⟩ := info_parts info_hit
  have HH := Lib.hid (hopeless_any eb _ pv is (pre, true) tx w h hr htx)
  have HY := Lib.hid (fun z => hope_no hh (z := z))
  have HI := Lib.hid (fun f W (hf : f ≤ 1000000) => index_any pre tx f W hr htx hf)
  have HP := Lib.hid (fun W => eplain_any tx W (by omega))
  rw [hpl] at HP
  obtain ⟨c0, c1, c2⟩ := h.cells
  obtain ⟨pa, pc, rfl⟩ := h.pg.form
  have HL := Lib.hid hl
  have hne : pre.isEmpty = false := by cases pre <;> simp_all
  have hp0 := List.length_pos_iff.2 h0
  clear h hh hl h0 hpl
  go_enter Tryz.func244, Tryz.ntmps244
  go_wp2_with fail
  refine HH.out.mono ?_
  rintro e w2 ⟨⟨z, hz, rfl⟩, k2⟩
  rw [HY.out z hz]
  have d0 := k2.cell c0 id
  have d1 := k2.cell c1 id
  have d2 := k2.cell c2 id
  have K2 := Lib.hid k2
  clear k2 hz c0 c1 c2
  go_wp2_with fail
  refine (HP.out _).mono ?_
  rintro e w3 ⟨rfl, rfl⟩
  go_wp2_with fail
  refine (HI.out 0 _ (by omega)).mono ?_
  rintro e w4 ⟨z0, rfl, hz0', k4⟩
  have HZ := Lib.hid hz0'
  have K4 := Lib.hid (K2.out.trans k4)
  have e1 := k4.cell d1 id
  clear k4 hz0' d0 d1 d2 HP HH
  go_wp2_with fail
  go_loopw [5, 6] (fun ov av wr => LiR pre tx all w4.heap.size w4 ov av wr) (fun _ av _ => msZ av tx.length)
  case atStart => exact ⟨0, z0, [], all, rfl, by omega, HZ.out, HL.out, rfl, ⟨rfl, Or.inl ⟨rfl, rfl⟩⟩, Keeps.refl _ _⟩
  case round =>
    clear HZ HL
    obtain ⟨f, y, acc, rest, rfl, hf, hy, hR, rfl, hO, hk⟩ := hrel
    have HO := Lib.hid hO
    have HK := Lib.hid hk
    obtain ⟨oa, oc, rfl⟩ := ownsRow_slice hO
    have r1 := hk.cell e1 id
    have hwr := hk.size
    have hw4 := K4.out.size
    clear hO hk
    by_cases hy0 : y < 0
    · obtain rfl := hR.none' hy hy0
      have g1 : decide ((0 : Int) ≤ y) = false := by simp; omega
      clear hy hR
      go_wp2_with fail
      go_ret
      exact ⟨_, rfl, by simpa using ownsRow_base HO.out hw4, K4.out.trans HK.out⟩
    · obtain ⟨a, r', rfl, hfa, hat, rfl, hR'⟩ := hR.some' hy (by omega)
      have g1 : decide ((0 : Int) ≤ (a : Int)) = true := by simp
      have HR' := Lib.hid hR'
      have HIa := Lib.hid (fun W => HI.out (a + pre.length) W (by omega))
      rw [Int.natCast_add] at HIa
      clear hy hR hR' hy0
      go_wp2_with (at_builtin; refine wpList_append_lies _ rfl (.tmp 54) (.tmp 64) 53 rfl w4.heap.size 118 i0 _ 2 16 Tryz.underlying53 hi hz0 hz1 hz2 rfl (by decide) _ acc.length (cellsOf 2 encR acc) rfl (ownsRow_alloc HO.out _) ⟨wr.heap.size, 0, none⟩ 1 1 [.int .i64 (a : Int), .int .i64 ((a : Int) + (pre.length : Int))] rfl rfl (by exact cells_new _ [_, _] _) (by simp [Value.oneCell']) (by decide) (by have := hal; simp at this; unfold maxLen; omega) (by have := hal; simp at this; omega) (by simp; omega) _ rfl ?_)
      intro g cap9 w9 hown9 hgrow9 hat9 hlt9
      have HO9 : Hid (w9.ownsRow w4.heap.size 118 2 (.slice (some ⟨g, 0, none⟩) (acc.length + 1) cap9) (acc ++ [((a : Int), ((a + pre.length : Nat) : Int))]).length (cellsOf 2 encR (acc ++ [((a : Int), ((a + pre.length : Nat) : Int))]))) := Lib.hid (by
        have e1 : cellsOf 2 encR (acc ++ [((a : Int), ((a + pre.length : Nat) : Int))]) = cellsOf 2 encR acc ++ [.int .i64 (a : Int), .int .i64 ((a : Int) + (pre.length : Int))] := by rw [cellsOf_append]; rfl
        rw [e1]; simpa using hown9)
      have kg : Keeps (fun b => w4.heap.size ≤ b) wr w9 := ((Keeps.refl (fun b => w4.heap.size ≤ b) wr).alloc _).grown hgrow9 (fun b hb => Or.inl (ownBlock_base HO.out b hb))
      have k9 : Keeps (fun _ => False) w4 w9 := HK.out.trans2 kg (fun i hi e => by omega)
      have q1 := k9.cell e1 id
      have hk0 : Keeps (fun _ => False) w9 w9.drew := (Keeps.refl _ _).drew
      have q1d : w9.drew.cell? ⟨eb, 1, none⟩ = some (.string ⟨pre.toArray⟩) := q1
      have HI2 := Lib.hid (fun W (K : Keeps (fun _ => False) w9 W) => (HIa.out W).mono (fun e w' h => (⟨h.choose, h.choose_spec.1, h.choose_spec.2.1, K.trans h.choose_spec.2.2⟩ : ∃ z : Int, e = .returned (.int .i64 z) ∧ IdxAt (mtL pre tx) tx.length (a + pre.length) z ∧ Keeps (fun _ => False) w9 w')))
      have K9 := Lib.hid k9
      clear hown9 hgrow9 hat9 kg k9 HIa
      have hww : IntKind.i64.wrap ((a : Int) + (pre.length : Int)) = (a : Int) + (pre.length : Int) := IntWalk.i64_in _ (by omega)
      go_wp2_with fail
      go_region_held3 (fun w' => w'.cell? ⟨eb, 1, none⟩ = some (.string ⟨pre.toArray⟩) ∧ Keeps (fun _ => False) w9 w') (first | exact ⟨q1d, hk0⟩ | exact ⟨Keeps.cell (by assumption) q1 id, by assumption⟩) (first | (go_at_call 249; refine (HI2.out _ ?_).mono ?_; exact (by assumption : _ ∧ _).2; rintro e w' ⟨z9, rfl, hz9, hkn⟩))
      all_goals
        have HZ9 := Lib.hid hz9
        have HK9 := Lib.hid (K9.out.trans hkn)
        have HO10 := Lib.hid (ownsRow_keeps HO9.out hkn (fun _ _ => id))
        have hzl : z9 < 0 ∨ (a : Int) < z9 ∧ z9 ≤ tx.length := by
          rcases Int.lt_or_le z9 0 with h | h
          · exact Or.inl h
          · obtain ⟨b9, rfl, hb1, hb2, _, _⟩ := idx_some hz9 h
            exact Or.inr ⟨by omega, by omega⟩
        clear hz9 hkn
        go_wp2_with fail
        go_roundw
        case rel => exact ⟨a + pre.length, z9, acc ++ [((a : Int), ((a + pre.length : Nat) : Int))], r', rfl, by omega, HZ9.out, HR'.out, by simp, HO10.out, HK9.out⟩
        case measure => exact msZ_lt hzl (by omega)
set_option maxHeartbeats 8000000 in
theorem eall_match (eb : Nat) (pv : Value) (is : List Ins) (r : List UInt8 × Bool) (tx : List UInt8) (w : World) (M : Nat) (all : List (Int × Int)) (h : EngAt w (fun b => b < w.heap.size) eb pv is r) (hr : r.1.length ≤ 1000) (htx : tx.length ≤ 1000) (hh : NotHopeL r.1 tx) (hm : r.2 = false ∨ r.1 = [] ∨ plainL tx = false)
    (hok : ∀ (k : Nat) (i : Ins), is[k]? = some i → okI is.length i) (h0 : 0 < is.length) (his : is.length ≤ 4000) (hf : AllR is tx M (places tx) (-1) all) (hM : M ≤ 900000000000) (hal : all.length ≤ 100000) (hpl : (places tx).length ≤ 100000) :
    Calls Tryz.prog 244 #[.pointer (some ⟨eb, 0, none⟩), .string ⟨tx.toArray⟩] w fun e w' => ∃ v, e = .returned v ∧ w'.ownsRow w.heap.size 118 2 v all.length (cellsOf 2 encR all) ∧ Keeps (fun _ => False) w w' := by
  have HH := Lib.hid (hopeless_any eb _ pv is r tx w h hr htx)
  have HY := Lib.hid (fun z => hope_no hh (z := z))
  have HF := Lib.hid (fun W (K : Keeps (fun _ => False) w W) => mall_any is pv tx M all W (h.pg.keepsTo (Q := fun b => b < W.heap.size) K (fun _ _ => id) (fun b hb => by have := K.size; omega)) hok h0 his (by omega) hf hM hal hpl)
  have HP := Lib.hid (fun W => eplain_any tx W (by omega))
  obtain ⟨c0, c1, c2⟩ := h.cells
  obtain ⟨pa, pc, rfl⟩ := h.pg.form
  have Hm := Lib.hid hm
  clear h hh hf hok hm
  obtain ⟨pre, wh⟩ := r
  simp only at c1 c2 Hm HH HY
  go_enter Tryz.func244, Tryz.ntmps244
  go_wp2_with fail
  refine HH.out.mono ?_
  rintro e w2 ⟨⟨z, hz, rfl⟩, k2⟩
  rw [HY.out z hz]
  have d0 := k2.cell c0 id
  have d1 := k2.cell c1 id
  have d2 := k2.cell c2 id
  have K2 := Lib.hid k2
  clear k2 hz c0 c1 c2 HH HY
  cases wh with
  | false =>
    go_wp2_with fail
    refine (HF.out _ K2.out).mono ?_
    rintro e w3 ⟨v, rfl, hO, k3⟩
    have HO := Lib.hid (ownsRow_base hO K2.out.size)
    have K3 := Lib.hid (K2.out.trans k3)
    clear hO k3
    go_wp2_with fail
    go_ret
    exact ⟨_, rfl, HO.out, K3.out⟩
  | true =>
    by_cases h9 : pre = []
    · subst h9
      go_wp2_with fail
      refine (HF.out _ K2.out).mono ?_
      rintro e w3 ⟨v, rfl, hO, k3⟩
      have HO := Lib.hid (ownsRow_base hO K2.out.size)
      have K3 := Lib.hid (K2.out.trans k3)
      clear hO k3
      go_wp2_with fail
      go_ret
      exact ⟨_, rfl, HO.out, K3.out⟩
    · have hne : pre.isEmpty = false := by cases pre <;> simp_all
      have h10 : plainL tx = false := by
        rcases Hm.out with h | h | h
        · cases h
        · exact absurd h h9
        · exact h
      rw [h10] at HP
      clear h9 h10 Hm
      go_wp2_with fail
      refine (HP.out _).mono ?_
      rintro e w3 ⟨rfl, rfl⟩
      go_wp2_with fail
      refine (HF.out _ K2.out).mono ?_
      rintro e w3 ⟨v, rfl, hO, k3⟩
      have HO := Lib.hid (ownsRow_base hO K2.out.size)
      have K3 := Lib.hid (K2.out.trans k3)
      clear hO k3
      go_wp2_with fail
      go_ret
      exact ⟨_, rfl, HO.out, K3.out⟩
end Go.Proofs.YtgobcnheemocnaaGreatDoor
end
section
namespace Go.Proofs.YtgobcnheemocnaaGreatDoor
open Go.RowKit
set_option linter.unusedVariables false
set_option linter.unusedSimpArgs false
set_option maxRecDepth 100000

theorem LitR.skip {pre tx : List UInt8} {f : Nat} {r : List (Int × Int)} (h : LitR pre tx (f + 1) r) (hf : mtL pre tx f = false) : LitR pre tx f r := by
  cases h with
  | none h =>
    refine .none (fun a h1 h2 => ?_)
    rcases Nat.eq_or_lt_of_le h1 with rfl | h3
    · exact hf
    · exact h a h3 h2
  | some h1 ha h2 h3 hr =>
    refine .some (by omega) ha h2 (fun b h4 h5 => ?_) hr
    rcases Nat.eq_or_lt_of_le h4 with rfl | h6
    · exact hf
    · exact h3 b h6 h5
theorem lit_total {pre tx : List UInt8} (h0 : pre ≠ []) : ∀ (d f : Nat), tx.length + 1 - f ≤ d → ∃ r, LitR pre tx f r ∧ r.length ≤ d
  | 0, f, h => ⟨[], .none (fun a h1 h2 => by omega), Nat.le_refl _⟩
  | d + 1, f, h => by
    have hp := List.length_pos_iff.2 h0
    by_cases hf : f ≤ tx.length
    · cases hm : mtL pre tx f with
      | false =>
        obtain ⟨r, h1, h2⟩ := lit_total (tx := tx) h0 d (f + 1) (by omega)
        exact ⟨r, h1.skip hm, by omega⟩
      | true =>
        obtain ⟨r, h1, h2⟩ := lit_total (tx := tx) h0 d (f + pre.length) (by omega)
        exact ⟨_, .some (Nat.le_refl _) hf hm (fun b h4 h5 => by omega) h1, by simp; omega⟩
    · exact ⟨[], .none (fun a h1 h2 => by omega), Nat.zero_le _⟩
theorem LitR.inT {pre tx : List UInt8} {f : Nat} {r : List (Int × Int)} (h : LitR pre tx f r) : ∀ y ∈ r, 0 ≤ y.1 ∧ y.1 ≤ y.2 ∧ y.2 ≤ (tx.length : Int) := by
  induction h with
  | none => simp
  | @some f a r' h1 ha h2 h3 hr ih =>
    have hb := (mtB_iff.1 h2).1
    intro y hy
    rcases List.mem_cons.1 hy with rfl | hy
    · exact ⟨by show (0 : Int) ≤ (a : Int); omega, by show (a : Int) ≤ ((a + pre.length : Nat) : Int); omega, by show ((a + pre.length : Nat) : Int) ≤ _; omega⟩
    · exact ih y hy
theorem hope_or (pre tx : List UInt8) : HopeL pre tx ∨ NotHopeL pre tx := by
  by_cases h0 : pre = []
  · exact Or.inr (Or.inl h0)
  · by_cases h1 : ∃ a, a ≤ tx.length ∧ mtL pre tx a = true
    · exact Or.inr (Or.inr (Or.inl h1))
    · cases h2 : (pts tx).isSome with
      | false => exact Or.inr (Or.inr (Or.inr h2))
      | true =>
        refine Or.inl ⟨h0, fun a ha => ?_, h2⟩
        cases h3 : mtL pre tx a with
        | false => rfl
        | true => exact absurd ⟨a, ha, h3⟩ h1
set_option maxHeartbeats 4000000 in
theorem eall_no (eb : Nat) (P : Nat → Prop) (pv : Value) (is : List Ins) (r : List UInt8 × Bool) (tx : List UInt8) (w : World) (h : EngAt w P eb pv is r) (hr : r.1.length ≤ 1000) (htx : tx.length ≤ 1000) (hh : HopeL r.1 tx) :
    Calls Tryz.prog 244 #[.pointer (some ⟨eb, 0, none⟩), .string ⟨tx.toArray⟩] w fun e w' => ∃ v, e = .returned v ∧ w'.ownsRow w.heap.size 118 2 v 0 [] ∧ Keeps (fun _ => False) w w' := by
  have HH := Lib.hid (hopeless_any eb P pv is r tx w h hr htx)
  have HY := Lib.hid (fun z => hope_yes hh (z := z))
  clear h hh
  go_enter Tryz.func244, Tryz.ntmps244
  go_wp2_with fail
  refine HH.out.mono ?_
  rintro e w2 ⟨⟨z, hz, rfl⟩, k2⟩
  rw [HY.out z hz]
  have K2 := Lib.hid k2
  clear k2 hz
  go_wp2_with fail
  go_ret
  exact ⟨_, rfl, ⟨rfl, Or.inl ⟨rfl, rfl⟩⟩, K2.out⟩
theorem eng_all (is : List Ins) (r : List UInt8 × Bool) (tx : List UInt8) (hok : ∀ (k : Nat) (i : Ins), is[k]? = some i → okI is.length i) (h0 : 0 < is.length) (his : is.length ≤ 4000) (hr : r.1.length ≤ 1000) (htx : tx.length ≤ 1000) :
    ∃ all : List (Int × Int), (all.length ≤ 4001 ∧ ∀ y ∈ all, 0 ≤ y.1 ∧ y.1 ≤ y.2 ∧ y.2 ≤ (tx.length : Int)) ∧ ∀ (eb : Nat) (pv : Value) (w : World), EngAt w (fun b => b < w.heap.size) eb pv is r → Calls Tryz.prog 244 #[.pointer (some ⟨eb, 0, none⟩), .string ⟨tx.toArray⟩] w fun e w' => ∃ v, e = .returned v ∧ w'.ownsRow w.heap.size 118 2 v all.length (cellsOf 2 encR all) ∧ Keeps (fun _ => False) w w' := by
  rcases hope_or r.1 tx with hh | hh
  · exact ⟨[], by simp, fun eb pv w h => by simpa [cellsOf] using eall_no eb _ pv is r tx w h hr htx hh⟩
  · by_cases hm : r.2 = false ∨ r.1 = [] ∨ plainL tx = false
    · obtain ⟨m, all, h1, h2, h3, h4⟩ := match_total hok h0 his tx (by omega)
      have hpl := places_len tx
      exact ⟨all, ⟨h3, h4⟩, fun eb pv w h => eall_match eb pv is r tx w m all h hr htx hh hm hok h0 his h1 h2 (by omega) (by omega)⟩
    · obtain ⟨pre, b⟩ := r
      cases b with
      | false => exact absurd (Or.inl rfl) hm
      | true =>
        have hp0 : pre ≠ [] := fun e => hm (Or.inr (Or.inl e))
        have hpl : plainL tx = true := by
          cases hq : plainL tx with
          | true => rfl
          | false => exact absurd (Or.inr (Or.inr hq)) hm
        obtain ⟨all, h1, h2⟩ := lit_total (pre := pre) (tx := tx) hp0 (tx.length + 1) 0 (by omega)
        exact ⟨all, ⟨by omega, h1.inT⟩, fun eb pv w h => eall_lit eb _ pv is pre tx all w h hr htx hh hp0 hpl h1 (by omega)⟩
end Go.Proofs.YtgobcnheemocnaaGreatDoor
end
section
namespace Go.Proofs.YtgobcnheemocnaaGreatDoor
open Go
open Go.RowKit
set_option linter.unusedVariables false
set_option linter.unusedSimpArgs false
set_option maxRecDepth 1000000

noncomputable def lookE : OSt → Option (ByteArray × Bool × List Int)
  | some ((i, 0), H) => match H.get i with
    | some ⟨[.sl p 0 2 _ _ _, .lit (.string s), .lit (.bool b)], _, true⟩ => match H.get p with
      | some ⟨.lit (.int .i64 o0) :: .sl q 0 1 _ _ _ :: .lit (.int .i64 x0) :: .lit (.int .i64 y0) :: .lit (.int .i64 o1) :: .lit (.slice none 0 0) :: .lit (.int .i64 x1) :: .lit (.int .i64 y1) :: _, _, _⟩ => match H.get q with
        | some ⟨.lit (.int .i64 f) :: .lit (.int .i64 t) :: _, _, _⟩ => some (s, b, [o0, x0, y0, o1, x1, y1, f, t])
        | _ => none
      | _ => none
    | _ => none
  | _ => none
theorem en_look : lookE en0 = some (⟨#[97]⟩, true, [1, 1, 0, 0, 0, 0, 97, 97]) := by kernel_rfl
def enIs : List Ins := [⟨1, [(97, 97)], 1, 0⟩, ⟨0, [], 0, 0⟩]
theorem eng_of {w : World} {xb : Nat} {S : Nat → Prop} (h : ObS en0 w (.pointer (some ⟨xb, 0, none⟩)) S) : ∃ pv, EngAt w (fun b => b < w.heap.size) xb pv enIs ([97], true) := by
  obtain ⟨i, o, H, ρ, hst, hH, hi, hp, hS⟩ := h
  have hl := en_look
  rw [hst] at hl
  unfold lookE at hl
  split at hl
  · rename_i i' H' he
    obtain ⟨⟨rfl, rfl⟩, rfl⟩ : (i = i' ∧ o = 0) ∧ H = H' := by simpa using he
    split at hl
    · rename_i p cp es ex s b el hb
      split at hl
      · rename_i o0 q cq es2 ex2 x0 y0 o1 x1 y1 rest el2 wh2 hb2
        split at hl
        · rename_i f t rest3 el3 wh3 hb3
          simp only [Option.some.injEq, Prod.mk.injEq, List.cons.injEq, and_true] at hl
          obtain ⟨rfl, rfl, rfl, rfl, rfl, rfl, rfl, rfl, rfl, rfl⟩ := hl
          have b0 : ρ.base i = 0 := by
            obtain ⟨cs, fz, hlz⟩ := hH.row i _ hb
            exact (hlz.whole rfl).1
          obtain rfl : xb = ρ.blk i := by simpa [b0] using hp
          obtain ⟨u, hu, hpl, hcp, o', c, rfl, ho, hx, hy⟩ := lies_cell hH hb (i := 0) (x := .sl p 0 2 cp es ex) rfl
          obtain ⟨u1, hu1, hd1⟩ := lies_cell hH hb (i := 1) (x := .lit (.string ⟨#[97]⟩)) rfl
          obtain ⟨u2, hu2, hd2⟩ := lies_cell hH hb (i := 2) (x := .lit (.bool true)) rfl
          obtain ⟨v0, hv0, hd3⟩ := lies_cell hH hb2 (i := 0) (x := .lit (.int .i64 1)) rfl
          obtain ⟨v1, hv1, hql, hcq, o2, c2, rfl, ho2, hx2, hy2⟩ := lies_cell hH hb2 (i := 1) (x := .sl q 0 1 cq es2 ex2) rfl
          obtain ⟨v2, hv2, hd4⟩ := lies_cell hH hb2 (i := 2) (x := .lit (.int .i64 1)) rfl
          obtain ⟨v3, hv3, hd5⟩ := lies_cell hH hb2 (i := 3) (x := .lit (.int .i64 0)) rfl
          obtain ⟨v4, hv4, hd6⟩ := lies_cell hH hb2 (i := 4) (x := .lit (.int .i64 0)) rfl
          obtain ⟨v5, hv5, hd7⟩ := lies_cell hH hb2 (i := 5) (x := .lit (.slice none 0 0)) rfl
          obtain ⟨v6, hv6, hd8⟩ := lies_cell hH hb2 (i := 6) (x := .lit (.int .i64 0)) rfl
          obtain ⟨v7, hv7, hd9⟩ := lies_cell hH hb2 (i := 7) (x := .lit (.int .i64 0)) rfl
          obtain ⟨t0, ht0, hda⟩ := lies_cell hH hb3 (i := 0) (x := .lit (.int .i64 97)) rfl
          obtain ⟨t1, ht1, hdb⟩ := lies_cell hH hb3 (i := 1) (x := .lit (.int .i64 97)) rfl
          obtain rfl := hd1.1
          obtain rfl := hd2.1
          obtain rfl := hd3.1
          obtain rfl := hd4.1
          obtain rfl := hd5.1
          obtain rfl := hd6.1
          obtain rfl := hd7.1
          obtain rfl := hd8.1
          obtain rfl := hd9.1
          obtain rfl := hda.1
          obtain rfl := hdb.1
          have g1 : cp ≤ c := by cases ex with
            | true => rw [hx rfl]; exact Nat.le_refl _
            | false => exact (hy rfl).1
          have g2 : cq ≤ c2 := by cases ex2 with
            | true => rw [hx2 rfl]; exact Nat.le_refl _
            | false => exact (hy2 rfl).1
          obtain rfl : o' = ρ.base p + 0 := ho (by omega)
          obtain rfl : o2 = ρ.base q + 0 := ho2 (by omega)
          rw [b0] at hu hu1 hu2
          have hset : RSl w (.slice (some ⟨ρ.blk q, ρ.base q + 0, none⟩) 1 c2) [(97, 97)] := by
            refine ⟨⟨_, c2, rfl, ⟨by show 1 ≤ c2; omega, (nomatch ·)⟩, by simp, fun _ => ⟨_, _, rfl, fun i x hi j hj => ?_⟩⟩, fun p hp => ?_⟩
            · have : i = 0 := by rcases i with _ | i; rfl; simp at hi
              subst this
              simp at hi; subst hi
              have hj' : j = 0 ∨ j = 1 := by omega
              rcases hj' with rfl | rfl
              · exact ht0
              · exact ht1
            · simp at hp; subst hp; exact ⟨by unfold in64; decide, by unfold in64; decide⟩
          refine ⟨.slice (some ⟨ρ.blk p, ρ.base p + 0, none⟩) 2 c, hu, hu1, hu2, ⟨[⟨1, .slice (some ⟨ρ.blk q, ρ.base q + 0, none⟩) 1 c2, 1, 0⟩, ⟨0, .slice none 0 0, 0, 0⟩], ⟨_, c, rfl, ⟨by show 2 ≤ c; omega, (nomatch ·)⟩, by simp, fun _ => ⟨_, _, rfl, fun i x hi j hj => ?_⟩⟩, rfl, fun k iv i h1 h2 => ?_⟩, fun b hb => ?_⟩
          · have hj' : j = 0 ∨ j = 1 ∨ j = 2 ∨ j = 3 := by omega
            rcases i with _ | _ | i
            · simp at hi; subst hi
              rcases hj' with rfl | rfl | rfl | rfl
              · exact hv0
              · exact hv1
              · exact hv2
              · exact hv3
            · simp at hi; subst hi
              rcases hj' with rfl | rfl | rfl | rfl
              · exact hv4
              · exact hv5
              · exact hv6
              · exact hv7
            · simp at hi
          · rcases k with _ | _ | k
            · simp [enIs] at h1 h2; subst h1 h2
              exact ⟨rfl, rfl, rfl, hset, fun b hb => by have : ρ.blk q = b := Option.some.inj hb; rw [← this]; exact hH.lt_size hb3⟩
            · simp [enIs] at h1 h2; subst h1 h2
              exact ⟨rfl, rfl, rfl, rsl_nil w, (fun b hb => nomatch hb)⟩
            · simp at h1
          · have : ρ.blk p = b := Option.some.inj hb
            rw [← this]; exact hH.lt_size hb2
        · cases hl
      · cases hl
    · cases hl
  · cases hl
theorem answers_of {w : World} {xb : Nat} {S : Nat → Prop} (h : ObS en0 w (.pointer (some ⟨xb, 0, none⟩)) S) : Answers w xb := by
  intro W s hs K
  obtain ⟨pv, hE⟩ := eng_of (h.keeps K (fun _ _ => id))
  obtain ⟨all, _, hall⟩ := eng_all enIs ([97], true) s.data.toList (fun k i hk => by
    rcases k with _ | _ | k
    · simp [enIs] at hk; subst hk; exact Or.inr (Or.inl ⟨Or.inl rfl, by decide⟩)
    · simp [enIs] at hk; subst hk; exact Or.inl rfl
    · simp [enIs] at hk) (by decide) (by decide) (by decide) (by have : s.data.toList.length = s.size := rfl; omega)
  have hc := hall xb pv W hE
  have e : (⟨s.data.toList.toArray⟩ : ByteArray) = s := by cases s; simp
  rw [e] at hc
  refine hc.mono ?_
  rintro e w' ⟨v, rfl, hv, k⟩
  obtain ⟨a, c, rfl⟩ := ownsRow_slice hv
  exact ⟨⟨a, _, c, rfl⟩, k⟩
end Go.Proofs.YtgobcnheemocnaaGreatDoor
end
section
namespace Go.Proofs.YtgobcnheemocnaaGreatDoor
open Go
open Go.RowKit
set_option linter.unusedVariables false
set_option linter.unusedSimpArgs false
set_option maxRecDepth 100000

section
variable {H : Type} {enc : TypeId × Value → H} {w : World} {base : Nat} {spare : Nat → Bool} {held : Bool}
theorem alone_row {a b : Option Addr} {n cap m cap2 : Nat} {x y : DataW H × List MemPlace}
    (h0 : ∃ fuel, DataW.trod enc Tryz.prog w base spare held fuel 22 (Value.slice a n cap).cells.toList = some x)
    (h1 : ∃ fuel, DataW.trod enc Tryz.prog w base spare held fuel 23 (Value.slice b m cap2).cells.toList = some y) :
    Calls Tryz.prog 3 #[.slice a n cap, .slice b m cap2] w fun e w' => e = .returned (.bool true) ∧ Keeps (fun _ => False) w w' := by
  obtain ⟨l, hl, ht⟩ := strs_open h0
  obtain ⟨ps, hp, hq⟩ := picks_open h1
  by_cases hs : smallB l = true ∧ ps.length ≤ 300
  · exact law_yes l ps _ _ w ht hq hs.1 hs.2 fun W x S h => answers_of h
  · refine law_no l ps _ _ w ht hq ?_
    cases hb : smallB l with
    | false => exact Or.inl rfl
    | true => exact Or.inr fun h => hs ⟨hb, h⟩
end
end Go.Proofs.YtgobcnheemocnaaGreatDoor
end
