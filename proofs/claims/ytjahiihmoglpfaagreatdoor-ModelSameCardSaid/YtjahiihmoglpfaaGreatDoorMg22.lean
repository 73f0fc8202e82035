/-
  Several texts in one: Plain laws: matching comes to an end, whatever the program and the text. engine's Is, All (every program). Is and All at every engine: some answer that hangs on the program, the prefix and the text alone. order's marks, Mark, Sure.
-/
import Derived.Test.YtjahiihmoglpfaaGreatDoorMg14
import Derived.Test.YtjahiihmoglpfaaGreatDoorMg21
import Derived.Deep.RegionHeld3
import Derived.Test.YtjahiihmoglpfaaGreatDoorMg3
import Derived.Handy
namespace Go.Proofs.YtjahiihmoglpfaaGreatDoor
open Go.RowKit
set_option linter.unusedVariables false
set_option linter.unusedSimpArgs false
set_option maxRecDepth 100000
def PgOK (is : List Ins) : Prop := ∀ (k : Nat) (i : Ins), is[k]? = some i → okI is.length i
def unm : Nat → (Nat → Bool) → Nat
 | 0, _ => 0
 | n + 1, M => unm n M + if M n = true then 0 else 1
theorem xgX {M : Nat → Bool} {i : Nat} (h : M i = false) : ∀ n, i < n → unm n (updM M i) + 1 = unm n M
 | 0, hi => by omega
 | n + 1, hi => by
  by_cases hn : i = n
  · subst hn
    have hs : ∀ m, m ≤ i → unm m (updM M i) = unm m M := by
     intro m
     induction m with
     | zero => intro _; rfl
     | succ m ih =>
      intro hm
      have : updM M i m = M m := by unfold updM; rw [if_neg (by omega)]
      rw [unm, unm, ih (by omega), this]
    rw [unm, unm, hs i (Nat.le_refl _), h]
    simp [updM]
  have := xgX h n (by omega)
  have e : updM M i n = M n := by unfold updM; rw [if_neg (fun e => hn e.symm)]
  rw [unm, unm, e]; omega
def xht (is : List Ins) (l : List Nat) : Prop := ∀ i ∈ l, ∃ x, is[i]? = some x ∧ (x.op = 0 ∨ x.op = 1)
theorem xgg {is : List Ins} (hok : PgOK is) (bg en : Bool) : ∀ (k i : Nat) (L : List Nat) (M : Nat → Bool), i < is.length → unm is.length M ≤ k → xht is L → ∃ s', PtR is bg en i (L, M) s' ∧ s'.1.length + unm is.length s'.2 ≤ L.length + unm is.length M ∧ unm is.length s'.2 ≤ unm is.length M ∧ xht is s'.1 := by
 intro k
 induction k with
 | zero =>
  intro i L M hi hk hL
  cases hm : M i with
  | true => exact ⟨_, PtR.seen hi hm, Nat.le_refl _, Nat.le_refl _, hL⟩
  | false => have := xgX hm is.length hi; omega
 | succ k ih =>
  intro i L M hi hk hL
  cases hm : M i with
  | true => exact ⟨_, PtR.seen hi hm, Nat.le_refl _, Nat.le_refl _, hL⟩
  | false =>
   have hu := xgX hm is.length hi
   obtain ⟨x, hx⟩ : ∃ x, is[i]? = some x := ⟨_, List.getElem?_eq_getElem hi⟩
   rcases hok i x hx with ho | ⟨ho | ho | ho, h1⟩ | ⟨ho, h1, h2⟩
   · refine ⟨_, PtR.leaf hm hx (Or.inl ho), by simp; omega, by simp only; omega, fun j hj => ?_⟩
     rcases List.mem_append.1 hj with hj | hj
     · exact hL j hj
     obtain rfl : j = i := by simpa using hj
     exact ⟨x, hx, Or.inl ho⟩
   · refine ⟨_, PtR.leaf hm hx (Or.inr ho), by simp; omega, by simp only; omega, fun j hj => ?_⟩
     rcases List.mem_append.1 hj with hj | hj
     · exact hL j hj
     obtain rfl : j = i := by simpa using hj
     exact ⟨x, hx, Or.inr ho⟩
   · cases hb : bg with
     | false => exact ⟨_, PtR.skip hm hx (Or.inl ⟨ho, rfl⟩), by simp only; omega, by simp only; omega, hL⟩
     | true =>
      obtain ⟨s1, r1, r2, r3, r4⟩ := ih x.x L (updM M i) h1 (by omega) hL
      rw [hb] at r1
      exact ⟨s1, PtR.pass hm hx (Or.inl ⟨ho, rfl⟩) r1, by omega, by omega, r4⟩
   · cases he : en with
     | false => exact ⟨_, PtR.skip hm hx (Or.inr ⟨ho, rfl⟩), by simp only; omega, by simp only; omega, hL⟩
     | true =>
      obtain ⟨s1, r1, r2, r3, r4⟩ := ih x.x L (updM M i) h1 (by omega) hL
      rw [he] at r1
      exact ⟨s1, PtR.pass hm hx (Or.inr ⟨ho, rfl⟩) r1, by omega, by omega, r4⟩
   obtain ⟨s1, r1, r2, r3, r4⟩ := ih x.x L (updM M i) h1 (by omega) hL
   obtain ⟨s2, t1, t2, t3, t4⟩ := ih x.y s1.1 s1.2 h2 (by omega) r4
   exact ⟨s2, PtR.split hm hx ho r1 t1, by omega, by omega, t4⟩
theorem xfa {is : List Ins} (hok : PgOK is) (r : Int) (n p ln : Nat) : ∀ (l : List Nat) (s : St), xht is l → xht is s.2.1 → ∃ f, xbo is r n p ln l s f ∧ f.2.1.length + unm is.length f.2.2 ≤ s.2.1.length + unm is.length s.2.2 ∧ xht is f.2.1 ∧ (f.1 = s.1 ∨ f.1 = p) := by
 intro l
 induction l with
 | nil => exact fun s _ hs => ⟨s, xbo.nil s, Nat.le_refl _, hs, Or.inl rfl⟩
 | cons i l ih =>
  intro s hl hs
  have hl2 : xht is l := fun j hj => hl j (by simp [hj])
  obtain ⟨x, hx, ho⟩ := hl i (by simp)
  rcases ho with ho | ho
  · obtain ⟨f, h1, h2, h3, h4⟩ := ih ((p : Int), s.2) hl2 hs
    exact ⟨f, xbo.mt hx ho h1, h2, h3, h4.elim (fun e => Or.inr e) Or.inr⟩
  by_cases hn : 0 < n
  · cases hh : has x.set r with
    | false =>
     obtain ⟨f, h1, h2, h3, h4⟩ := ih s hl2 hs
     exact ⟨f, xbo.miss hx ho (Or.inr hh) h1, h2, h3, h4⟩
    | true =>
     have hxx : x.x < is.length := by
      rcases hok i x hx with h | ⟨_, h⟩ | ⟨h, _⟩
      · omega
      · exact h
      omega
     obtain ⟨q, q1, q2, q3, q4⟩ := xgg hok (decide (p + n = 0)) (decide (p + n = ln)) _ x.x s.2.1 s.2.2 hxx (Nat.le_refl _) hs
     obtain ⟨f, h1, h2, h3, h4⟩ := ih (s.1, q) hl2 q4
     exact ⟨f, xbo.hit hx ho hn hh q1 h1, by simp only at h2; omega, h3, h4⟩
  obtain ⟨f, h1, h2, h3, h4⟩ := ih s hl2 hs
  exact ⟨f, xbo.miss hx ho (Or.inl (by omega)) h1, h2, h3, h4⟩
theorem xfT (n : Nat) : unm n (fun _ => false) = n := by
 induction n with
 | zero => rfl
 | succ n ih => rw [unm, ih]; simp
theorem xi2 {is : List Ins} (hok : PgOK is) (his : is.length ≤ 4000) (tx : List UInt8) : ∀ (d p : Nat) (L : List Nat) (e : Int), tx.length - p ≤ d → p ≤ tx.length → xht is L → ∃ k e', xdR is tx k L p e e' ∧ k ≤ d ∧ (e' = e ∨ (p : Int) ≤ e' ∧ e' ≤ tx.length) := by
 intro d
 induction d with
 | zero =>
  intro p L e hd hp hL
  obtain ⟨f, h1, h2, h3, h4⟩ := xfa hok (xa7 tx p).1 (xa7 tx p).2 p tx.length L (e, [], fun _ => false) hL (fun i hi => by simp at hi)
  have hz := h1.zero (by rw [xcN (by omega)])
  obtain ⟨f1, f2, f3⟩ := f
  obtain ⟨rfl, rfl⟩ : f2 = [] ∧ f3 = fun _ => false := by simpa using hz
  exact ⟨0, f1, xdR.stop h1, Nat.le_refl _, by rcases h4 with h | h; exact Or.inl h; exact Or.inr (by simp only at h; omega)⟩
 | succ d ih =>
  intro p L e hd hp hL
  obtain ⟨f, h1, h2, h3, h4⟩ := xfa hok (xa7 tx p).1 (xa7 tx p).2 p tx.length L (e, [], fun _ => false) hL (fun i hi => by simp at hi)
  obtain ⟨f1, f2, f3⟩ := f
  simp only [xfT, List.length_nil] at h2 h3 h4
  have h4' : f1 = e ∨ (p : Int) ≤ f1 ∧ f1 ≤ tx.length := h4.imp id (fun h => by omega)
  by_cases h0 : f2 = []
  · subst h0
    exact ⟨0, f1, xdR.stop h1, by omega, h4'⟩
  have hpl : p < tx.length := by
   rcases Nat.lt_or_ge p tx.length with h | h
   · exact h
   have := h1.zero (by rw [xcN h])
   exact absurd (congrArg Prod.fst this) h0
  have hn := xgj hp
  have hn1 : 1 ≤ (xa7 tx p).2 := by
   cases hdr : tx.drop p with
   | nil => have := congrArg List.length hdr; simp at this; omega
   | cons c t => rw [xef hdr]; exact (xbS c t).1
  obtain ⟨k, e', r1, r2, r3⟩ := ih (p + (xa7 tx p).2) f2 f1 (by omega) hn h3
  refine ⟨k + 1, e', xdR.go h1 h0 (by omega) r1, by omega, ?_⟩
  rcases r3 with rfl | r3
  · exact h4'
  exact Or.inr (by omega)
theorem xg4 {is : List Ins} (hok : PgOK is) (h0 : 0 < is.length) (his : is.length ≤ 4000) (tx : List UInt8) (p : Nat) (hp : p ≤ tx.length) : ∃ k e, xgT is tx p k e ∧ k ≤ tx.length ∧ (e = -1 ∨ (p : Int) ≤ e ∧ e ≤ tx.length) := by
 obtain ⟨s0, h1, h2, h3, h4⟩ := xgg hok (decide (p = 0)) (decide (p = tx.length)) _ 0 [] (fun _ => false) h0 (Nat.le_refl _) (fun i hi => by simp at hi)
 rw [xfT] at h2
 obtain ⟨k, e, r1, r2, r3⟩ := xi2 hok his tx (tx.length - p) p s0.1 (-1) (Nat.le_refl _) hp h4
 exact ⟨k, e, ⟨s0, h1, by simp at h2; omega, r1⟩, by omega, r3⟩
theorem xhy {is : List Ins} (hok : PgOK is) (h0 : 0 < is.length) (his : is.length ≤ 4000) (tx : List UInt8) : ∀ (l : List Nat), (∀ p ∈ l, p ≤ tx.length) → ∃ m fin, xbF is tx m l fin ∧ m ≤ l.length * (tx.length + 1) ∧ (fin = (0, 0, false) ∨ ∃ p e : Nat, fin = ((p : Int), (e : Int), true) ∧ p ∈ l ∧ p ≤ e ∧ e ≤ tx.length) := by
 intro l
 induction l with
 | nil => exact fun _ => ⟨0, _, xbF.none, by simp, Or.inl rfl⟩
 | cons p l ih =>
  intro hl
  have hp := hl p (by simp)
  obtain ⟨k, e, h1, h2, h3⟩ := xg4 hok h0 his tx p hp
  by_cases he : 0 ≤ e
  · obtain ⟨e', rfl⟩ : ∃ e' : Nat, e = (e' : Int) := ⟨e.toNat, by omega⟩
    refine ⟨k + 1, _, xbF.hit hp h1 he, ?_, Or.inr ⟨p, e', rfl, by simp, by omega, by omega⟩⟩
    rw [List.length_cons, Nat.add_mul]; omega
  obtain ⟨m, fin, r1, r2, r3⟩ := ih (fun q hq => hl q (by simp [hq]))
  refine ⟨k + 1 + m, fin, xbF.miss hp h1 (by omega) r1, ?_, ?_⟩
  · rw [List.length_cons, Nat.add_mul]; omega
  rcases r3 with r3 | ⟨p', e', r3, r4, r5⟩
  · exact Or.inl r3
  exact Or.inr ⟨p', e', r3, by simp [r4], r5⟩
theorem drop_ne {l : List Nat} {p : Nat} (h : p ∈ l) : l.dropWhile (fun q => decide (q < p)) ≠ [] := by
 induction l with
 | nil => simp at h
 | cons a l ih =>
  by_cases ha : a < p
  · rw [List.dropWhile_cons_of_pos (by simpa using ha)]
    rcases List.mem_cons.1 h with rfl | h
    · omega
    exact ih h
  rw [List.dropWhile_cons_of_neg (by simpa using ha)]; simp
theorem xk0 {is : List Ins} (hok : PgOK is) (h0 : 0 < is.length) (his : is.length ≤ 4000) (tx : List UInt8) : ∀ (d : Nat) (l : List Nat) (last : Int), l.length ≤ d → (∀ p ∈ l, p ≤ tx.length) → l.Pairwise (· < ·) → ∃ m all, AllR is tx m l last all ∧ m ≤ d * (d * (tx.length + 1)) ∧ all.length ≤ d ∧ ∀ y ∈ all, 0 ≤ y.1 ∧ y.1 ≤ y.2 ∧ y.2 ≤ (tx.length : Int) := by
 intro d
 induction d with
 | zero =>
  intro l last hd _ _
  obtain rfl : l = [] := List.length_eq_zero_iff.1 (by omega)
  exact ⟨0, [], AllR.nil last, by simp, by simp, by simp⟩
 | succ d ih =>
  intro l last hd hl hs
  by_cases hn : l = []
  · subst hn
    exact ⟨0, [], AllR.nil last, by simp, by simp, by simp⟩
  obtain ⟨m, fin, h1, h2, h3⟩ := xhy hok h0 his tx l hl
  have hm1 : m ≤ (d + 1) * (tx.length + 1) := Nat.le_trans h2 (Nat.mul_le_mul hd (Nat.le_refl _))
  have hbig : ∀ m' : Nat, m' ≤ d * (d * (tx.length + 1)) → m + m' ≤ (d + 1) * ((d + 1) * (tx.length + 1)) := fun m' hm' => by
   have e1 : (d + 1) * ((d + 1) * (tx.length + 1)) = d * ((d + 1) * (tx.length + 1)) + (d + 1) * (tx.length + 1) := by rw [Nat.add_mul d 1, Nat.one_mul]
   have e2 : d * (d * (tx.length + 1)) ≤ d * ((d + 1) * (tx.length + 1)) := Nat.mul_le_mul (Nat.le_refl _) (Nat.mul_le_mul (by omega) (Nat.le_refl _))
   omega
  have hsuf : ∀ e, (∀ p ∈ l.dropWhile (fun q => decide (q < e)), p ≤ tx.length) ∧ (l.dropWhile (fun q => decide (q < e))).Pairwise (· < ·) := fun e =>
   ⟨fun p hp => hl p ((List.dropWhile_suffix _).subset hp), hs.sublist (List.dropWhile_suffix _).sublist⟩
  rcases h3 with rfl | ⟨p, e, rfl, hp, hpe, hee⟩
  · exact ⟨m, [], AllR.stop hn h1, by have := hbig 0 (Nat.zero_le _); omega, by simp, by simp⟩
  by_cases hlt : p < e
  · have hlen : (l.dropWhile (fun q => decide (q < e))).length < l.length := by
     rcases l with _ | ⟨a, t⟩
     · exact absurd rfl hn
     have hae : a < e := by
      rcases List.mem_cons.1 hp with rfl | hp
      · exact hlt
      have := (List.pairwise_cons.1 hs).1 p hp; omega
     rw [List.dropWhile_cons_of_pos (by simpa using hae)]
     have := (List.dropWhile_suffix (l := t) (fun q => decide (q < e))).length_le
     simp only [List.length_cons]; omega
    obtain ⟨m', all, r1, r2, r3, r4⟩ := ih (l.dropWhile (fun q => decide (q < e))) e (by omega) (hsuf e).1 (hsuf e).2
    exact ⟨m + m', _, AllR.far hn h1 hlt hlen r1, hbig m' r2, by simp; omega, fun y hy => by
     rcases List.mem_cons.1 hy with rfl | hy
     · exact ⟨by show (0 : Int) ≤ (p : Int); omega, by show (p : Int) ≤ (e : Int); omega, by show (e : Int) ≤ _; omega⟩
     exact r4 y hy⟩
  obtain rfl : p = e := by omega
  obtain ⟨x, q, hd'⟩ : ∃ x q, l.dropWhile (fun q => decide (q < p)) = x :: q := by
   cases h : l.dropWhile (fun q => decide (q < p)) with
   | nil => exact absurd h (drop_ne hp)
   | cons x q => exact ⟨x, q, rfl⟩
  have hsu := hsuf p
  rw [hd'] at hsu
  have hql : q.length ≤ d := by
   have := (List.dropWhile_suffix (l := l) (fun q => decide (q < p))).length_le
   rw [hd', List.length_cons] at this; omega
  by_cases hla : last = p
  · obtain ⟨m', all, r1, r2, r3, r4⟩ := ih q last hql (fun y hy => hsu.1 y (by simp [hy])) (List.pairwise_cons.1 hsu.2).2
    exact ⟨m + m', _, AllR.same hn h1 hd' hla r1, hbig m' r2, by omega, r4⟩
  obtain ⟨m', all, r1, r2, r3, r4⟩ := ih q p hql (fun y hy => hsu.1 y (by simp [hy])) (List.pairwise_cons.1 hsu.2).2
  exact ⟨m + m', _, AllR.void hn h1 hd' hla r1, hbig m' r2, by simp; omega, fun y hy => by
   rcases List.mem_cons.1 hy with rfl | hy
   · exact ⟨by show (0 : Int) ≤ (p : Int); omega, by show (p : Int) ≤ (p : Int); omega, by show (p : Int) ≤ _; omega⟩
   exact r4 y hy⟩
theorem xeY : ∀ (f : Nat) (l : List UInt8) (a : Nat), (∀ p ∈ plcP f l a, a < p ∧ p ≤ a + l.length) ∧ (plcP f l a).Pairwise (· < ·)
 | 0, _, _ => ⟨fun p hp => by simp [plcP] at hp, List.Pairwise.nil⟩
 | f + 1, [], _ => ⟨fun p hp => by simp [plcP] at hp, List.Pairwise.nil⟩
 | f + 1, c :: t, a => by
  have hpos := (xbS c t).1
  have hle := xet c t
  obtain ⟨h1, h2⟩ := xeY f ((c :: t).drop (getP (c :: t)).2) (a + (getP (c :: t)).2)
  have hl : ((c :: t).drop (getP (c :: t)).2).length = t.length + 1 - (getP (c :: t)).2 := by simp
  rw [hl] at h1
  have e : plcP (f + 1) (c :: t) a = (a + (getP (c :: t)).2) :: plcP f ((c :: t).drop (getP (c :: t)).2) (a + (getP (c :: t)).2) := rfl
  rw [e]
  refine ⟨fun p hp => ?_, List.pairwise_cons.2 ⟨fun p hp => (h1 p hp).1, h2⟩⟩
  rcases List.mem_cons.1 hp with rfl | hp
  · simp only [List.length_cons]; omega
  have := h1 p hp
  simp only [List.length_cons]; omega
theorem xc7 (l : List UInt8) : (∀ p ∈ xbr l, p ≤ l.length) ∧ (xbr l).Pairwise (· < ·) := by
 obtain ⟨h1, h2⟩ := xeY l.length l 0
 unfold xbr
 refine ⟨fun p hp => ?_, List.pairwise_cons.2 ⟨fun p hp => (h1 p hp).1, h2⟩⟩
 rcases List.mem_cons.1 hp with rfl | hp
 · omega
 have := h1 p hp; omega
theorem xhZ : ∀ (f : Nat) (l : List UInt8) (a : Nat), (plcP f l a).length ≤ f
 | 0, _, _ => Nat.le_refl _
 | f + 1, [], _ => Nat.zero_le _
 | f + 1, c :: t, a => by
  have := xhZ f ((c :: t).drop (getP (c :: t)).2) (a + (getP (c :: t)).2)
  simp only [plcP, List.length_cons]; omega
theorem xeZ (l : List UInt8) : (xbr l).length ≤ l.length + 1 := by
 have := xhZ l.length l 0
 unfold xbr
 simp only [List.length_cons]; omega
theorem xhq {is : List Ins} (hok : PgOK is) (h0 : 0 < is.length) (his : is.length ≤ 4000) (tx : List UInt8) (htx : tx.length ≤ 4000) : ∃ m all, AllR is tx m (xbr tx) (-1) all ∧ m ≤ 900000000000 ∧ all.length ≤ 4001 ∧ ∀ y ∈ all, 0 ≤ y.1 ∧ y.1 ≤ y.2 ∧ y.2 ≤ (tx.length : Int) := by
 obtain ⟨m, all, h1, h2, h3, h4⟩ := xk0 hok h0 his tx (tx.length + 1) (xbr tx) (-1) (xeZ tx) (xc7 tx).1 (xc7 tx).2
 refine ⟨m, all, h1, Nat.le_trans h2 ?_, by omega, h4⟩
 have e1 : (tx.length + 1) * (tx.length + 1) ≤ 4001 * 4001 := Nat.mul_le_mul (by omega) (by omega)
 have e2 : (tx.length + 1) * ((tx.length + 1) * (tx.length + 1)) ≤ 4001 * (4001 * 4001) := Nat.mul_le_mul (by omega) e1
 omega
def HopeL (pre tx : List UInt8) : Prop := pre ≠ [] ∧ (∀ a, a ≤ tx.length → mtL pre tx a = false) ∧ (pts tx).isSome = true
def xd5 (pre tx : List UInt8) : Prop := pre = [] ∨ (∃ a, a ≤ tx.length ∧ mtL pre tx a = true) ∨ (pts tx).isSome = false
theorem xlV {pre tx : List UInt8} (h : HopeL pre tx) {z : Int} (hz : pre ≠ [] → xdm (mtL pre tx) tx.length 0 z) : (!pre.isEmpty && (decide (z < 0) && (pts tx).isSome)) = true := by
 obtain ⟨h1, h2, h3⟩ := h
 have hz1 : z < 0 := by
  rcases Int.lt_or_le z 0 with h | h
  · exact h
  obtain ⟨a, _, _, ha, hm, _⟩ := xfC (hz h1) h
  rw [h2 a ha] at hm; cases hm
 have : pre.isEmpty = false := by cases pre <;> simp_all
 simp [this, h3, hz1]
theorem xku {pre tx : List UInt8} (h : xd5 pre tx) {z : Int} (hz : pre ≠ [] → xdm (mtL pre tx) tx.length 0 z) : (!pre.isEmpty && (decide (z < 0) && (pts tx).isSome)) = false := by
 by_cases h0 : pre = []
 · simp [h0]
 rcases h with h | ⟨a, ha, hm⟩ | h
 · exact absurd h h0
 · have hz1 : ¬ z < 0 := by
    intro h
    have := xie (hz h0) h a (Nat.zero_le _) ha
    rw [this] at hm; cases hm
   simp [hz1]
 simp [h]
inductive LitR (pre tx : List UInt8) : Nat → List (Int × Int) → Prop
 | none {f : Nat} (h : ∀ a, f ≤ a → a ≤ tx.length → mtL pre tx a = false) : LitR pre tx f []
 | some {f a : Nat} {r : List (Int × Int)} (h1 : f ≤ a) (ha : a ≤ tx.length) (h2 : mtL pre tx a = true) (h3 : ∀ b, f ≤ b → b < a → mtL pre tx b = false) (hr : LitR pre tx (a + pre.length) r) : LitR pre tx f (((a : Int), ((a + pre.length : Nat) : Int)) :: r)
theorem LitR.none' {pre tx : List UInt8} {f : Nat} {r : List (Int × Int)} {z : Int} (h : LitR pre tx f r) (hz : xdm (mtL pre tx) tx.length f z) (h0 : z < 0) : r = [] := by
 cases h with
 | none => rfl
 | some h1 ha h2 => have := xie hz h0 _ h1 ha; rw [this] at h2; cases h2
theorem LitR.some' {pre tx : List UInt8} {f : Nat} {r : List (Int × Int)} {z : Int} (h : LitR pre tx f r) (hz : xdm (mtL pre tx) tx.length f z) (h0 : 0 ≤ z) : ∃ (a : Nat) (r' : List (Int × Int)), z = a ∧ f ≤ a ∧ a + pre.length ≤ tx.length ∧ r = ((a : Int), ((a + pre.length : Nat) : Int)) :: r' ∧ LitR pre tx (a + pre.length) r' := by
 obtain ⟨a, rfl, ha1, ha2, ha3, ha4⟩ := xfC hz h0
 have hb := (xdD.1 ha3).1
 cases h with
 | none h => rw [h a ha1 ha2] at ha3; cases ha3
 | @some _ b r' h1 hb' h2 h3 hr =>
  have : a = b := by
   rcases Nat.lt_trichotomy a b with h | h | h
   · rw [h3 a ha1 h] at ha3; cases ha3
   · exact h
   rw [ha4 b h1 h] at h2; cases h2
  subst this
  exact ⟨a, r', rfl, ha1, hb, rfl, hr⟩
def LiR (pre tx : List UInt8) (all : List (Int × Int)) (OB : Nat) (w0 : World) (ov av : Value) (wr : World) : Prop :=
 ∃ (f : Nat) (z : Int) (acc rest : List (Int × Int)), av = .int .i64 z ∧ f ≤ 100000 ∧ xdm (mtL pre tx) tx.length f z ∧ LitR pre tx f rest ∧ all = acc ++ rest ∧ wr.ownsRow OB 99 2 ov acc.length (cellsOf 2 encR acc) ∧ xaa (fun _ => False) w0 wr
def msZ (v : Value) (n : Nat) : Nat := if intOf v < 0 then 0 else n + 1 - (intOf v).toNat
theorem msZ_lt {a n : Nat} {z : Int} (hz : z < 0 ∨ (a : Int) < z ∧ z ≤ n) (ha : a ≤ n) : msZ (.int .i64 z) n < msZ (.int .i64 (a : Int)) n := by
 show (if z < 0 then 0 else n + 1 - z.toNat) < (if (a : Int) < 0 then 0 else n + 1 - (a : Int).toNat)
 rw [if_neg (show ¬ (a : Int) < 0 by omega)]
 split <;> omega
set_option maxHeartbeats 8000000 in
theorem xii (eb : Nat) (P : Nat → Prop) (pv : Value) (is : List Ins) (pre tx : List UInt8) (all : List (Int × Int)) (w : World) (h : xcW w P eb pv is (pre, true)) (hr : pre.length ≤ 1000) (htx : tx.length ≤ 1000) (hh : xd5 pre tx) (h0 : pre ≠ []) (hpl : xbK tx = true) (hl : LitR pre tx 0 all) (hal : all.length ≤ 100000) :
 Calls Tryz.prog 24 #[.pointer (some ⟨eb, 0, none⟩), .string ⟨tx.toArray⟩] w fun e w' => ∃ v, e = .returned v ∧ w'.ownsRow w.heap.size 99 2 v all.length (cellsOf 2 encR all) ∧ xaa (fun _ => False) w w' := by
 obtain ⟨i0, hi, hz0, hz1, hz2⟩ := info_parts xfA
 have HH := xmA (xco eb _ pv is (pre, true) tx w h hr htx)
 have HY := xmA (fun z => xku hh (z := z))
 have HI := xmA (fun f W (hf : f ≤ 1000000) => xgD pre tx f W hr htx hf)
 have HP := xmA (fun W => xfc tx W (by omega))
 rw [hpl] at HP
 obtain ⟨c0, c1, c2⟩ := h.cells
 obtain ⟨pa, pc, rfl⟩ := h.pg.form
 have HL := xmA hl
 have hne : pre.isEmpty = false := by cases pre <;> simp_all
 have hp0 := List.length_pos_iff.2 h0
 clear h hh hl h0 hpl
 go_enter Tryz.func24, Tryz.ntmps24
 go_wp2_with fail
 refine HH.out.mono ?_
 rintro e w2 ⟨⟨z, hz, rfl⟩, k2⟩
 rw [HY.out z hz]
 have d0 := k2.cell c0 id
 have d1 := k2.cell c1 id
 have d2 := k2.cell c2 id
 have K2 := xmA k2
 clear k2 hz c0 c1 c2
 go_wp2_with fail
 refine (HP.out _).mono ?_
 rintro e w3 ⟨rfl, rfl⟩
 go_wp2_with fail
 refine (HI.out 0 _ (by omega)).mono ?_
 rintro e w4 ⟨z0, rfl, hz0', k4⟩
 have HZ := xmA hz0'
 have K4 := xmA (K2.out.trans k4)
 have e1 := k4.cell d1 id
 clear k4 hz0' d0 d1 d2 HP HH
 go_wp2_with fail
 go_loopw [5, 6] (fun ov av wr => LiR pre tx all w4.heap.size w4 ov av wr) (fun _ av _ => msZ av tx.length)
 case atStart => exact ⟨0, z0, [], all, rfl, by omega, HZ.out, HL.out, rfl, ⟨rfl, Or.inl ⟨rfl, rfl⟩⟩, xaa.refl _ _⟩
 case round =>
  clear HZ HL
  obtain ⟨f, y, acc, rest, rfl, hf, hy, hR, rfl, hO, hk⟩ := hrel
  have HO := xmA hO
  have HK := xmA hk
  obtain ⟨oa, oc, rfl⟩ := xad hO
  have r1 := hk.cell e1 id
  have hwr := hk.size
  have hw4 := K4.out.size
  clear hO hk
  by_cases hy0 : y < 0
  · obtain rfl := hR.none' hy hy0
    have g1 : decide ((0 : Int) ≤ y) = false := by simp; omega
    clear hy hR
    go_wp2_with fail
    go_ret
    exact ⟨_, rfl, by simpa using xag HO.out hw4, K4.out.trans HK.out⟩
  obtain ⟨a, r', rfl, hfa, hat, rfl, hR'⟩ := hR.some' hy (by omega)
  have g1 : decide ((0 : Int) ≤ (a : Int)) = true := by simp
  have HR' := xmA hR'
  have HIa := xmA (fun W => HI.out (a + pre.length) W (by omega))
  rw [Int.natCast_add] at HIa
  clear hy hR hR' hy0
  go_wp2_with (at_builtin; refine wpList_append_lies _ rfl (.tmp 54) (.tmp 64) 40 rfl w4.heap.size 99 i0 _ 2 16 Tryz.underlying40 hi hz0 hz1 hz2 rfl (by decide) _ acc.length (cellsOf 2 encR acc) rfl (xac HO.out _) ⟨wr.heap.size, 0, none⟩ 1 1 [.int .i64 (a : Int), .int .i64 ((a : Int) + (pre.length : Int))] rfl rfl (by exact xak _ [_, _] _) (by simp [Value.oneCell']) (by decide) (by have := hal; simp at this; unfold maxLen; omega) (by have := hal; simp at this; omega) (by simp; omega) _ rfl ?_)
  intro g cap9 w9 hown9 hgrow9 hat9 hlt9
  have HO9 : Hid (w9.ownsRow w4.heap.size 99 2 (.slice (some ⟨g, 0, none⟩) (acc.length + 1) cap9) (acc ++ [((a : Int), ((a + pre.length : Nat) : Int))]).length (cellsOf 2 encR (acc ++ [((a : Int), ((a + pre.length : Nat) : Int))]))) := xmA (by
   have e1 : cellsOf 2 encR (acc ++ [((a : Int), ((a + pre.length : Nat) : Int))]) = cellsOf 2 encR acc ++ [.int .i64 (a : Int), .int .i64 ((a : Int) + (pre.length : Int))] := by rw [xai]; rfl
   rw [e1]; simpa using hown9)
  have kg : xaa (fun b => w4.heap.size ≤ b) wr w9 := ((xaa.refl (fun b => w4.heap.size ≤ b) wr).alloc _).grown hgrow9 (fun b hb => Or.inl (xab HO.out b hb))
  have k9 : xaa (fun _ => False) w4 w9 := HK.out.trans2 kg (fun i hi e => by omega)
  have q1 := k9.cell e1 id
  have hk0 : xaa (fun _ => False) w9 w9.drew := (xaa.refl _ _).drew
  have q1d : w9.drew.cell? ⟨eb, 1, none⟩ = some (.string ⟨pre.toArray⟩) := q1
  have HI2 := xmA (fun W (K : xaa (fun _ => False) w9 W) => (HIa.out W).mono (fun e w' h => (⟨h.choose, h.choose_spec.1, h.choose_spec.2.1, K.trans h.choose_spec.2.2⟩ : ∃ z : Int, e = .returned (.int .i64 z) ∧ xdm (mtL pre tx) tx.length (a + pre.length) z ∧ xaa (fun _ => False) w9 w')))
  have K9 := xmA k9
  clear hown9 hgrow9 hat9 kg k9 HIa
  have hww : IntKind.i64.wrap ((a : Int) + (pre.length : Int)) = (a : Int) + (pre.length : Int) := IntWalk.i64_in _ (by omega)
  go_wp2_with fail
  go_region_held3 (fun w' => w'.cell? ⟨eb, 1, none⟩ = some (.string ⟨pre.toArray⟩) ∧ xaa (fun _ => False) w9 w') (first | exact ⟨q1d, hk0⟩ | exact ⟨xaa.cell (by assumption) q1 id, by assumption⟩) (first | (go_at_call 46; refine (HI2.out _ ?_).mono ?_; exact (by assumption : _ ∧ _).2; rintro e w' ⟨z9, rfl, hz9, hkn⟩))
  all_goals
   have HZ9 := xmA hz9
   have HK9 := xmA (K9.out.trans hkn)
   have HO10 := xmA (xae HO9.out hkn (fun _ _ => id))
   have hzl : z9 < 0 ∨ (a : Int) < z9 ∧ z9 ≤ tx.length := by
    rcases Int.lt_or_le z9 0 with h | h
    · exact Or.inl h
    obtain ⟨b9, rfl, hb1, hb2, _, _⟩ := xfC hz9 h
    exact Or.inr ⟨by omega, by omega⟩
   clear hz9 hkn
   go_wp2_with fail
   go_roundw
   case rel => exact ⟨a + pre.length, z9, acc ++ [((a : Int), ((a + pre.length : Nat) : Int))], r', rfl, by omega, HZ9.out, HR'.out, by simp, HO10.out, HK9.out⟩
   case measure => exact msZ_lt hzl (by omega)
set_option maxHeartbeats 8000000 in
theorem xjd (eb : Nat) (pv : Value) (is : List Ins) (r : List UInt8 × Bool) (tx : List UInt8) (w : World) (M : Nat) (all : List (Int × Int)) (h : xcW w (fun b => b < w.heap.size) eb pv is r) (hr : r.1.length ≤ 1000) (htx : tx.length ≤ 1000) (hh : xd5 r.1 tx) (hm : r.2 = false ∨ r.1 = [] ∨ xbK tx = false)
 (hok : ∀ (k : Nat) (i : Ins), is[k]? = some i → okI is.length i) (h0 : 0 < is.length) (his : is.length ≤ 4000) (hf : AllR is tx M (xbr tx) (-1) all) (hM : M ≤ 900000000000) (hal : all.length ≤ 100000) (hpl : (xbr tx).length ≤ 100000) :
 Calls Tryz.prog 24 #[.pointer (some ⟨eb, 0, none⟩), .string ⟨tx.toArray⟩] w fun e w' => ∃ v, e = .returned v ∧ w'.ownsRow w.heap.size 99 2 v all.length (cellsOf 2 encR all) ∧ xaa (fun _ => False) w w' := by
 have HH := xmA (xco eb _ pv is r tx w h hr htx)
 have HY := xmA (fun z => xku hh (z := z))
 have HF := xmA (fun W (K : xaa (fun _ => False) w W) => xlM is pv tx M all W (h.pg.keepsTo (Q := fun b => b < W.heap.size) K (fun _ _ => id) (fun b hb => by have := K.size; omega)) hok h0 his (by omega) hf hM hal hpl)
 have HP := xmA (fun W => xfc tx W (by omega))
 obtain ⟨c0, c1, c2⟩ := h.cells
 obtain ⟨pa, pc, rfl⟩ := h.pg.form
 have Hm := xmA hm
 clear h hh hf hok hm
 obtain ⟨pre, wh⟩ := r
 simp only at c1 c2 Hm HH HY
 go_enter Tryz.func24, Tryz.ntmps24
 go_wp2_with fail
 refine HH.out.mono ?_
 rintro e w2 ⟨⟨z, hz, rfl⟩, k2⟩
 rw [HY.out z hz]
 have d0 := k2.cell c0 id
 have d1 := k2.cell c1 id
 have d2 := k2.cell c2 id
 have K2 := xmA k2
 clear k2 hz c0 c1 c2 HH HY
 cases wh with
 | false =>
  go_wp2_with fail
  refine (HF.out _ K2.out).mono ?_
  rintro e w3 ⟨v, rfl, hO, k3⟩
  have HO := xmA (xag hO K2.out.size)
  have K3 := xmA (K2.out.trans k3)
  clear hO k3
  go_wp2_with fail
  go_ret
  exact ⟨_, rfl, HO.out, K3.out⟩
 | true =>
  by_cases h9 : pre = []
  · subst h9
    go_wp2_with fail
    refine (HF.out _ K2.out).mono ?_
    rintro e w3 ⟨v, rfl, hO, k3⟩
    have HO := xmA (xag hO K2.out.size)
    have K3 := xmA (K2.out.trans k3)
    clear hO k3
    go_wp2_with fail
    go_ret
    exact ⟨_, rfl, HO.out, K3.out⟩
  have hne : pre.isEmpty = false := by cases pre <;> simp_all
  have h10 : xbK tx = false := by
   rcases Hm.out with h | h | h
   · cases h
   · exact absurd h h9
   exact h
  rw [h10] at HP
  clear h9 h10 Hm
  go_wp2_with fail
  refine (HP.out _).mono ?_
  rintro e w3 ⟨rfl, rfl⟩
  go_wp2_with fail
  refine (HF.out _ K2.out).mono ?_
  rintro e w3 ⟨v, rfl, hO, k3⟩
  have HO := xmA (xag hO K2.out.size)
  have K3 := xmA (K2.out.trans k3)
  clear hO k3
  go_wp2_with fail
  go_ret
  exact ⟨_, rfl, HO.out, K3.out⟩
theorem LitR.skip {pre tx : List UInt8} {f : Nat} {r : List (Int × Int)} (h : LitR pre tx (f + 1) r) (hf : mtL pre tx f = false) : LitR pre tx f r := by
 cases h with
 | none h =>
  refine .none (fun a h1 h2 => ?_)
  rcases Nat.eq_or_lt_of_le h1 with rfl | h3
  · exact hf
  exact h a h3 h2
 | some h1 ha h2 h3 hr =>
  refine .some (by omega) ha h2 (fun b h4 h5 => ?_) hr
  rcases Nat.eq_or_lt_of_le h4 with rfl | h6
  · exact hf
  exact h3 b h6 h5
theorem xem {pre tx : List UInt8} (h0 : pre ≠ []) : ∀ (d f : Nat), tx.length + 1 - f ≤ d → ∃ r, LitR pre tx f r ∧ r.length ≤ d
 | 0, f, h => ⟨[], .none (fun a h1 h2 => by omega), Nat.le_refl _⟩
 | d + 1, f, h => by
  have hp := List.length_pos_iff.2 h0
  by_cases hf : f ≤ tx.length
  · cases hm : mtL pre tx f with
    | false =>
     obtain ⟨r, h1, h2⟩ := xem (tx := tx) h0 d (f + 1) (by omega)
     exact ⟨r, h1.skip hm, by omega⟩
    | true =>
     obtain ⟨r, h1, h2⟩ := xem (tx := tx) h0 d (f + pre.length) (by omega)
     exact ⟨_, .some (Nat.le_refl _) hf hm (fun b h4 h5 => by omega) h1, by simp; omega⟩
  exact ⟨[], .none (fun a h1 h2 => by omega), Nat.zero_le _⟩
theorem LitR.inT {pre tx : List UInt8} {f : Nat} {r : List (Int × Int)} (h : LitR pre tx f r) : ∀ y ∈ r, 0 ≤ y.1 ∧ y.1 ≤ y.2 ∧ y.2 ≤ (tx.length : Int) := by
 induction h with
 | none => simp
 | @some f a r' h1 ha h2 h3 hr ih =>
  have hb := (xdD.1 h2).1
  intro y hy
  rcases List.mem_cons.1 hy with rfl | hy
  · exact ⟨by show (0 : Int) ≤ (a : Int); omega, by show (a : Int) ≤ ((a + pre.length : Nat) : Int); omega, by show ((a + pre.length : Nat) : Int) ≤ _; omega⟩
  exact ih y hy
theorem hope_or (pre tx : List UInt8) : HopeL pre tx ∨ xd5 pre tx := by
 by_cases h0 : pre = []
 · exact Or.inr (Or.inl h0)
 by_cases h1 : ∃ a, a ≤ tx.length ∧ mtL pre tx a = true
 · exact Or.inr (Or.inr (Or.inl h1))
 cases h2 : (pts tx).isSome with
 | false => exact Or.inr (Or.inr (Or.inr h2))
 | true =>
  refine Or.inl ⟨h0, fun a ha => ?_, h2⟩
  cases h3 : mtL pre tx a with
  | false => rfl
  | true => exact absurd ⟨a, ha, h3⟩ h1
set_option maxHeartbeats 4000000 in
theorem eall_no (eb : Nat) (P : Nat → Prop) (pv : Value) (is : List Ins) (r : List UInt8 × Bool) (tx : List UInt8) (w : World) (h : xcW w P eb pv is r) (hr : r.1.length ≤ 1000) (htx : tx.length ≤ 1000) (hh : HopeL r.1 tx) :
 Calls Tryz.prog 24 #[.pointer (some ⟨eb, 0, none⟩), .string ⟨tx.toArray⟩] w fun e w' => ∃ v, e = .returned v ∧ w'.ownsRow w.heap.size 99 2 v 0 [] ∧ xaa (fun _ => False) w w' := by
 have HH := xmA (xco eb P pv is r tx w h hr htx)
 have HY := xmA (fun z => xlV hh (z := z))
 clear h hh
 go_enter Tryz.func24, Tryz.ntmps24
 go_wp2_with fail
 refine HH.out.mono ?_
 rintro e w2 ⟨⟨z, hz, rfl⟩, k2⟩
 rw [HY.out z hz]
 have K2 := xmA k2
 clear k2 hz
 go_wp2_with fail
 go_ret
 exact ⟨_, rfl, ⟨rfl, Or.inl ⟨rfl, rfl⟩⟩, K2.out⟩
theorem eng_all (is : List Ins) (r : List UInt8 × Bool) (tx : List UInt8) (hok : ∀ (k : Nat) (i : Ins), is[k]? = some i → okI is.length i) (h0 : 0 < is.length) (his : is.length ≤ 4000) (hr : r.1.length ≤ 1000) (htx : tx.length ≤ 1000) :
 ∃ all : List (Int × Int), (all.length ≤ 4001 ∧ ∀ y ∈ all, 0 ≤ y.1 ∧ y.1 ≤ y.2 ∧ y.2 ≤ (tx.length : Int)) ∧ ∀ (eb : Nat) (pv : Value) (w : World), xcW w (fun b => b < w.heap.size) eb pv is r → Calls Tryz.prog 24 #[.pointer (some ⟨eb, 0, none⟩), .string ⟨tx.toArray⟩] w fun e w' => ∃ v, e = .returned v ∧ w'.ownsRow w.heap.size 99 2 v all.length (cellsOf 2 encR all) ∧ xaa (fun _ => False) w w' := by
 rcases hope_or r.1 tx with hh | hh
 · exact ⟨[], by simp, fun eb pv w h => by simpa [cellsOf] using eall_no eb _ pv is r tx w h hr htx hh⟩
 by_cases hm : r.2 = false ∨ r.1 = [] ∨ xbK tx = false
 · obtain ⟨m, all, h1, h2, h3, h4⟩ := xhq hok h0 his tx (by omega)
   have hpl := xeZ tx
   exact ⟨all, ⟨h3, h4⟩, fun eb pv w h => xjd eb pv is r tx w m all h hr htx hh hm hok h0 his h1 h2 (by omega) (by omega)⟩
 obtain ⟨pre, b⟩ := r
 cases b with
 | false => exact absurd (Or.inl rfl) hm
 | true =>
  have hp0 : pre ≠ [] := fun e => hm (Or.inr (Or.inl e))
  have hpl : xbK tx = true := by
   cases hq : xbK tx with
   | true => rfl
   | false => exact absurd (Or.inr (Or.inr hq)) hm
  obtain ⟨all, h1, h2⟩ := xem (pre := pre) (tx := tx) hp0 (tx.length + 1) 0 (by omega)
  exact ⟨all, ⟨by omega, h1.inT⟩, fun eb pv w h => xii eb _ pv is pre tx all w h hr htx hh hp0 hpl h1 (by omega)⟩
theorem BS.form {X : Nat} {w : World} {v : Value} {l : List UInt8} (h : BS X w v l) : ∃ a cap, v = .slice a l.length cap ∧ l.length ≤ cap ∧ Lib.BytesIn w a l.length (l.map fun x => (x.toNat : Int)) := by
 obtain ⟨a, cap, rfl, h1, h2⟩ := h
 refine ⟨a, cap, rfl, h1, fun h0 => ?_⟩
 obtain ⟨off, rfl, h3⟩ := h2 (List.length_pos_iff.1 h0)
 refine ⟨X, off, rfl, fun i hi => ?_⟩
 obtain ⟨x, hx⟩ : ∃ x, l[i]? = some x := ⟨_, List.getElem?_eq_getElem hi⟩
 rw [h3 i x hx, List.getD_eq_getElem?_getD, List.getElem?_map, hx]; rfl
theorem xeB (l : List UInt8) : Lib.bytesOf (l.map fun x => (x.toNat : Int)) = l := by
 unfold Lib.bytesOf
 rw [List.map_map]
 conv => rhs; rw [← List.map_id l]
 refine List.map_congr_left fun x _ => ?_
 simp
theorem xd2 {X Y : Nat} {w : World} {v u : Value} {l m : List UInt8} (h : BS X w v l) (k : BS Y w u m) :
 Calls Tryz.prog 182 #[v, u] w fun e w' => e = .returned (.bool (Lib.hasPrefix l m)) ∧ w' = w := by
 obtain ⟨a, c, rfl, h1, h2⟩ := h.form
 obtain ⟨b, d, rfl, k1, k2⟩ := k.form
 have := Tryz.bytes_HasPrefix_all a b l.length c m.length d (l.map fun x => (x.toNat : Int)) (m.map fun x => (x.toNat : Int)) w (by simp) (by simp) h1 h2 k2
 rw [xeB, xeB] at this
 exact this
def m1 : List UInt8 := [239, 187, 191]
def m2 : List UInt8 := [255, 254]
def m3 : List UInt8 := [254, 255]
theorem pre_two (x y a b : UInt8) (t : List UInt8) : ([x, y].isPrefixOf (a :: b :: t) = true) ↔ (a = x ∧ b = y) := by
 simp only [List.isPrefixOf, Bool.and_eq_true, beq_iff_eq, and_true]
 exact ⟨fun h => ⟨h.1.symm, h.2.symm⟩, fun h => ⟨h.1.symm, h.2.symm⟩⟩
theorem xjY (x y z a b : UInt8) (t : List UInt8) : ([x, y, z].isPrefixOf (a :: b :: t) = true) ↔ (a = x ∧ b = y ∧ t.head? = some z) := by
 cases t with
 | nil => simp [List.isPrefixOf]
 | cons c t =>
  simp only [List.isPrefixOf, Bool.and_eq_true, beq_iff_eq, and_true, List.head?_cons, Option.some.injEq]
  exact ⟨fun h => ⟨h.1.symm, h.2.1.symm, h.2.2.symm⟩, fun h => ⟨h.1.symm, h.2.1.symm, h.2.2.symm⟩⟩
theorem xia (l : List UInt8) : xaE l = if Lib.hasPrefix l m1 then (1, 3) else if Lib.hasPrefix l m2 then (2, 2) else if Lib.hasPrefix l m3 then (3, 2) else (0, 0) := by
 unfold Lib.hasPrefix m1 m2 m3
 rcases l with _ | ⟨a, _ | ⟨b, t⟩⟩
 · rfl
 · simp [xaE, List.isPrefixOf]
 simp only [xaE, pre_two, xjY]
def xgU (w : World) (b : Nat) : Prop :=
 (∀ i x, m1[i]? = some x → w.cell? ⟨b, 0 + i, none⟩ = some (.int .u8 (x.toNat : Int))) ∧ (∀ i x, m2[i]? = some x → w.cell? ⟨b + 1, 0 + i, none⟩ = some (.int .u8 (x.toNat : Int))) ∧ (∀ i x, m3[i]? = some x → w.cell? ⟨b + 2, 0 + i, none⟩ = some (.int .u8 (x.toNat : Int)))
def mksV (b : Nat) : Value := .agg #[.slice none 0 0, .slice (some ⟨b, 0, none⟩) 3 3, .slice (some ⟨b + 1, 0, none⟩) 2 2, .slice (some ⟨b + 2, 0, none⟩) 2 2]
theorem xgU.keeps {S : Nat → Prop} {w w' : World} {b : Nat} (h : xgU w b) (K : xaa S w w') (hs : ∀ k, b ≤ k → ¬ S k) : xgU w' b :=
 ⟨fun i x hx => K.cell (h.1 i x hx) (hs _ (Nat.le_refl _)), fun i x hx => K.cell (h.2.1 i x hx) (hs _ (Nat.le_add_right _ _)), fun i x hx => K.cell (h.2.2 i x hx) (hs _ (Nat.le_add_right _ _))⟩
theorem xgU.bs {w : World} {b : Nat} (h : xgU w b) : BS b w (.slice (some ⟨b, 0, none⟩) 3 3) m1 ∧ BS (b + 1) w (.slice (some ⟨b + 1, 0, none⟩) 2 2) m2 ∧ BS (b + 2) w (.slice (some ⟨b + 2, 0, none⟩) 2 2) m3 :=
 ⟨⟨_, 3, rfl, Nat.le_refl _, fun _ => ⟨0, rfl, h.1⟩⟩, ⟨_, 2, rfl, Nat.le_refl _, fun _ => ⟨0, rfl, h.2.1⟩⟩, ⟨_, 2, rfl, Nat.le_refl _, fun _ => ⟨0, rfl, h.2.2⟩⟩⟩
set_option maxHeartbeats 4000000 in
theorem xgx (w : World) : Calls Tryz.prog 179 #[] w fun e w' => e = .returned (mksV (w.heap.size + 1)) ∧ xgU w' (w.heap.size + 1) ∧ xaa (fun _ => False) w w' := by
 go_enter Tryz.func179, Tryz.ntmps179
 go_wp2_with fail
 go_returns
 refine ⟨rfl, ?_, KI.out⟩
 refine ⟨?_, ?_, ?_⟩ <;> intro i x hx
 · rcases i with _ | _ | _ | i
   · cases hx; simp [go_sem]
   · cases hx; simp [go_sem]
   · cases hx; simp [go_sem]
   simp [m1] at hx
 · rcases i with _ | _ | i
   · cases hx; simp [go_sem]
   · cases hx; simp [go_sem]
   simp [m2] at hx
 rcases i with _ | _ | i
 · cases hx; simp [go_sem]
 · cases hx; simp [go_sem]
 simp [m3] at hx
theorem xfD (b : Nat) (W : World) : (Instr.index 238 (.agg #[.slice none 0 0, .slice (some ⟨b, 0, none⟩) 3 3, .slice (some ⟨b + 1, 0, none⟩) 2 2, .slice (some ⟨b + 2, 0, none⟩) 2 2]) (.int .i64 0)).run Tryz.prog W = .ok (.slice none 0 0) W ∧
 (Instr.index 238 (.agg #[.slice none 0 0, .slice (some ⟨b, 0, none⟩) 3 3, .slice (some ⟨b + 1, 0, none⟩) 2 2, .slice (some ⟨b + 2, 0, none⟩) 2 2]) (.int .i64 1)).run Tryz.prog W = .ok (.slice (some ⟨b, 0, none⟩) 3 3) W ∧
 (Instr.index 238 (.agg #[.slice none 0 0, .slice (some ⟨b, 0, none⟩) 3 3, .slice (some ⟨b + 1, 0, none⟩) 2 2, .slice (some ⟨b + 2, 0, none⟩) 2 2]) (.int .i64 2)).run Tryz.prog W = .ok (.slice (some ⟨b + 1, 0, none⟩) 2 2) W ∧
 (Instr.index 238 (.agg #[.slice none 0 0, .slice (some ⟨b, 0, none⟩) 3 3, .slice (some ⟨b + 1, 0, none⟩) 2 2, .slice (some ⟨b + 2, 0, none⟩) 2 2]) (.int .i64 3)).run Tryz.prog W = .ok (.slice (some ⟨b + 2, 0, none⟩) 2 2) W := by
 refine ⟨?_, ?_, ?_, ?_⟩ <;> simp [Instr.index, run_underlying Tryz.underlying238, asIntOf, go_sem, part]
set_option maxHeartbeats 4000000 in
theorem xbR {X : Nat} {w : World} {v : Value} {l : List UInt8} (h : BS X w v l) :
 Calls Tryz.prog 153 #[v] w fun e w' => e = .returned (.tuple #[.int .i64 (xaE l).1, .int .i64 ((xaE l).2 : Int)]) ∧ xaa (fun _ => False) w w' := by
 have HM := xmA (xia l)
 have HH := xmA (fun (W : World) (K : xaa (fun _ => False) w W) => h.keeps K id)
 obtain ⟨a, c, rfl, _, _⟩ := h.form
 clear h
 go_enter Tryz.func153, Tryz.ntmps153
 go_wp2_with fail
 refine (xgx _).mono ?_
 rintro e w1 ⟨rfl, hM, k1⟩
 unfold mksV
 obtain ⟨b1, b2, b3⟩ := hM.bs
 have P1 := xmA (xd2 (HH.out w1 k1) b1)
 have P2 := xmA (xd2 (HH.out w1 k1) b2)
 have P3 := xmA (xd2 (HH.out w1 k1) b3)
 have K1 := xmA k1
 clear hM k1 b1 b2 b3
 generalize Lib.hasPrefix l m1 = q1 at *
 generalize Lib.hasPrefix l m2 = q2 at *
 generalize Lib.hasPrefix l m3 = q3 at *
 generalize w.heap.size + 1 = g at *
 have i0 := fun W => (xfD g W).1
 have i1 := fun W => (xfD g W).2.1
 have i2 := fun W => (xfD g W).2.2.1
 have i3 := fun W => (xfD g W).2.2.2
 obtain ⟨qf, hq1, hq2, hq3⟩ : ∃ qf : Nat → Bool, qf g = q1 ∧ qf (g + 1) = q2 ∧ qf (g + 2) = q3 := ⟨fun k => if k = g then q1 else if k = g + 1 then q2 else q3, by simp, by simp, by simp⟩
 have HP : Hid (∀ k n, (k = g ∧ n = 3) ∨ (k = g + 1 ∧ n = 2) ∨ (k = g + 2 ∧ n = 2) → Calls Tryz.prog 182 #[.slice a l.length c, .slice (some ⟨k, 0, none⟩) n n] w1 fun e w' => e = .returned (.bool (qf k)) ∧ w' = w1) := xmA (fun k n h => by
  rcases h with ⟨rfl, rfl⟩ | ⟨rfl, rfl⟩ | ⟨rfl, rfl⟩
  · rw [hq1]; exact P1.out
  · rw [hq2]; exact P2.out
  rw [hq3]; exact P3.out)
 clear P1 P2 P3 HH
 have hcase : (q1 = true) ∨ (q1 = false ∧ q2 = true) ∨ (q1 = false ∧ q2 = false ∧ q3 = true) ∨ (q1 = false ∧ q2 = false ∧ q3 = false) := by
  cases q1 <;> cases q2 <;> cases q3 <;> simp
 rcases hcase with rfl | ⟨rfl, rfl⟩ | ⟨rfl, rfl, rfl⟩ | ⟨rfl, rfl, rfl⟩
 all_goals
  have HM2 := HM.out
  simp only [if_true, Bool.false_eq_true, if_false] at HM2
  have HM3 := xmA HM2
  clear HM2 HM
  go_wp2_with fail
  refine wp_loop_rounds 5 ?_
  repeat any_goals (rw [rounds_succ]; go_wp2_with (go_at_call 182; refine (HP.out _ _ (by omega)).mono ?_; rintro e w' ⟨rfl, rfl⟩; simp only [hq1, hq2, hq3]))
  go_ret2
  exact ⟨by rw [HM3.out]; rfl, K1.out⟩
end Go.Proofs.YtjahiihmoglpfaaGreatDoor
