/-
  Several texts in one: The parser's state, and its smallest steps: peek, next, take, want. Sets of numbers as lists of ranges: the plain laws. No program in sight. The walks of the document's own words on sets (reedbedref08): Has, Same, Right, Ends. Trees as data, and where they lie in memory. The parser's take, want, number.
-/
import Derived.Test.YtbifklibdkjbeaaGreatDoorMg3
import Derived.Deep.QuietTactic
import Derived.BigQuiet
import Derived.Lib.Hide
import Derived.Test.YtbifklibdkjbeaaGreatDoorRows
import Derived.Deep.RegionWith
namespace Go.Proofs.YtbifklibdkjbeaaGreatDoor
open Go.RowKit
set_option linter.unusedVariables false
set_option linter.unusedSimpArgs false
set_option maxRecDepth 100000
set_option maxHeartbeats 4000000
structure PS where
 pos : Nat
 deep : Int
 bad : Bool
def pk (rs : List Int) (s : PS) : Int := if s.bad then -1 else rs.getD s.pos (-1)
def nx (rs : List Int) (s : PS) : PS := ⟨s.pos + 1, s.deep, s.bad || decide (pk rs s < 0)⟩
def tkB (rs : List Int) (r : Int) (s : PS) : Bool := decide (pk rs s = r)
def tk (rs : List Int) (r : Int) (s : PS) : PS := if pk rs s = r then ⟨s.pos + 1, s.deep, s.bad⟩ else s
def wt (rs : List Int) (r : Int) (s : PS) : PS := if pk rs s = r then ⟨s.pos + 1, s.deep, s.bad⟩ else ⟨s.pos, s.deep, true⟩
def encI (n : Int) (_ : Nat) : Value := .int .i64 n
structure PaAt (w : World) (pb : Nat) (rv : Value) (rs : List Int) (s : PS) : Prop where
 c0 : w.cell? ⟨pb, 0, none⟩ = some rv
 c1 : w.cell? ⟨pb, 1, none⟩ = some (.int .i64 s.pos)
 c2 : w.cell? ⟨pb, 2, none⟩ = some (.int .i64 s.deep)
 c3 : w.cell? ⟨pb, 3, none⟩ = some (.bool s.bad)
 fr : ∀ o, w.frozen? ⟨pb, o, none⟩ = false
 sl : SlOf 1 encI w rv rs
 ne : rv.ownBlock ≠ some pb
 len : rs.length ≤ 100000
 pos : s.pos ≤ 1000000
 rng : ∀ r ∈ rs, 0 ≤ r ∧ r ≤ 1114111
 rb : ∀ b, rv.ownBlock = some b → b < w.heap.size
theorem PaAt.lt {w : World} {pb : Nat} {rv : Value} {rs : List Int} {s : PS} (h : PaAt w pb rv rs s) : pb < w.heap.size := xay h.c0
theorem PaAt.keeps {S : Nat → Prop} {w w' : World} {pb : Nat} {rv : Value} {rs : List Int} {s : PS} (h : PaAt w pb rv rs s) (K : xa S w w') (h1 : ¬ S pb) (h2 : ∀ b, rv.ownBlock = some b → ¬ S b) : PaAt w' pb rv rs s :=
 ⟨K.cell h.c0 h1, K.cell h.c1 h1, K.cell h.c2 h1, K.cell h.c3 h1, fun o => K.frozen (h.fr o) h.lt h1, h.sl.keeps K h2, h.ne, h.len, h.pos, h.rng, fun b hb => Nat.lt_of_lt_of_le (h.rb b hb) K.size⟩
theorem PaAt.keepsF {w w' : World} {pb : Nat} {rv : Value} {rs : List Int} {s : PS} (h : PaAt w pb rv rs s) (K : xa (fun _ => False) w w') : PaAt w' pb rv rs s := h.keeps K id (fun _ _ => id)
theorem PaAt.setPos {w : World} {pb : Nat} {rv : Value} {rs : List Int} {s : PS} (h : PaAt w pb rv rs s) (p : Nat) (hp : p ≤ 1000000) : PaAt (w.setCell ⟨pb, 1, none⟩ (.int .i64 p)) pb rv rs ⟨p, s.deep, s.bad⟩ := by
 have K : xa (fun b => b = pb) w (w.setCell ⟨pb, 1, none⟩ (.int .i64 p)) := (xa.refl (fun b => b = pb) _).set (p := ⟨pb, 1, none⟩) rfl _
 exact ⟨by rw [xaf (by simp)]; exact h.c0, xaL h.c1, by rw [xaf (by simp)]; exact h.c2, by rw [xaf (by simp)]; exact h.c3,
  fun o => by rw [xdJ]; exact h.fr o, h.sl.keeps K (fun b hb e => h.ne (by rw [hb, e])), h.ne, h.len, hp, h.rng, fun b hb => Nat.lt_of_lt_of_le (h.rb b hb) K.size⟩
theorem PaAt.setBad {w : World} {pb : Nat} {rv : Value} {rs : List Int} {s : PS} (h : PaAt w pb rv rs s) (x : Bool) : PaAt (w.setCell ⟨pb, 3, none⟩ (.bool x)) pb rv rs ⟨s.pos, s.deep, x⟩ := by
 have K : xa (fun b => b = pb) w (w.setCell ⟨pb, 3, none⟩ (.bool x)) := (xa.refl (fun b => b = pb) _).set (p := ⟨pb, 3, none⟩) rfl _
 exact ⟨by rw [xaf (by simp)]; exact h.c0, by rw [xaf (by simp)]; exact h.c1, by rw [xaf (by simp)]; exact h.c2, xaL h.c3,
  fun o => by rw [xdJ]; exact h.fr o, h.sl.keeps K (fun b hb e => h.ne (by rw [hb, e])), h.ne, h.len, h.pos, h.rng, fun b hb => Nat.lt_of_lt_of_le (h.rb b hb) K.size⟩
theorem PaAt.setDeep {w : World} {pb : Nat} {rv : Value} {rs : List Int} {s : PS} (h : PaAt w pb rv rs s) (d : Int) : PaAt (w.setCell ⟨pb, 2, none⟩ (.int .i64 d)) pb rv rs ⟨s.pos, d, s.bad⟩ := by
 have K : xa (fun b => b = pb) w (w.setCell ⟨pb, 2, none⟩ (.int .i64 d)) := (xa.refl (fun b => b = pb) _).set (p := ⟨pb, 2, none⟩) rfl _
 exact ⟨by rw [xaf (by simp)]; exact h.c0, by rw [xaf (by simp)]; exact h.c1, xaL h.c2, by rw [xaf (by simp)]; exact h.c3,
  fun o => by rw [xdJ]; exact h.fr o, h.sl.keeps K (fun b hb e => h.ne (by rw [hb, e])), h.ne, h.len, h.pos, h.rng, fun b hb => Nat.lt_of_lt_of_le (h.rb b hb) K.size⟩
theorem xbY (w : World) (pb : Nat) (rv : Value) (rs : List Int) (s : PS) (h : PaAt w pb rv rs s) :
 Calls Tryz.prog 194 #[.pointer (some ⟨pb, 0, none⟩)] w fun e w' => e = .returned (.int .i64 (pk rs s)) ∧ xa (fun _ => False) w w' := by
 obtain ⟨c0, c1, c2, c3, fr, sl, ne, hlen, hpos, hrng, hrb⟩ := h
 obtain ⟨a, cap, rfl, ⟨hlc, _⟩, _, hcc⟩ := sl
 obtain ⟨p, d, bad⟩ := s
 simp only at c1 c2 c3 hpos
 cases bad with
 | true =>
  have e : pk rs ⟨p, d, true⟩ = -1 := rfl
  rw [e]
  go_enter Tryz.func194, Tryz.ntmps194
  go_wp2_with fail
  go_quiet (fail)
  go_wp2_with fail
  go_ret
  exact ⟨rfl, (xa.refl _ _).drawN _⟩
 | false =>
  by_cases hp : rs.length ≤ p
  · have e : pk rs ⟨p, d, false⟩ = -1 := by unfold pk; simp [List.getD_eq_getElem?_getD, List.getElem?_eq_none hp]
    have g1 : decide ((rs.length : Int) ≤ (p : Int)) = true := by simp; omega
    have g2 : decide (rs.length ≤ p) = true := by simpa using hp
    rw [e]
    go_enter Tryz.func194, Tryz.ntmps194
    go_wp2_with fail
    go_quiet (fail)
    go_wp2_with fail
    go_ret
    exact ⟨rfl, (xa.refl _ _).drawN _⟩
  obtain ⟨r, hr⟩ : ∃ r, rs[p]? = some r := ⟨_, List.getElem?_eq_getElem (by omega)⟩
  have e : pk rs ⟨p, d, false⟩ = r := by unfold pk; simp [List.getD_eq_getElem?_getD, hr]
  obtain ⟨b, off, rfl, hcells⟩ := hcc (by omega)
  have x0 := hcells p r hr 0 (by omega)
  simp only [Nat.mul_one, Nat.add_zero, encI] at x0
  have g1 : decide ((rs.length : Int) ≤ (p : Int)) = false := by simp; omega
  have g2 : decide (rs.length ≤ p) = false := by simpa using hp
  have g3 : (p : Int) < (rs.length : Int) := by omega
  have g4 : (0 : Int) ≤ (p : Int) := by omega
  rw [e]
  clear e hcells hcc hr
  go_enter Tryz.func194, Tryz.ntmps194
  go_wp2_with fail
  go_quiet (fail)
  go_wp2_with fail
  go_quiet (fail)
  go_wp2_with fail
  go_ret
  exact ⟨rfl, ((xa.refl _ _).drawN _).drawN _⟩
theorem xk7 {w : World} {pb : Nat} {rv : Value} {rs : List Int} {s : PS} (h : PaAt w pb rv rs s) : -1 ≤ pk rs s ∧ pk rs s ≤ 1114111 := by
 unfold pk
 split
 · omega
 rw [List.getD_eq_getElem?_getD]
 cases hh : rs[s.pos]? with
 | none => simp
 | some r => have := h.rng r (List.mem_of_getElem? hh); simp; omega
theorem xaJ {rs : List Int} {s : PS} (h : 0 ≤ pk rs s) : s.pos < rs.length ∧ s.bad = false := by
 unfold pk at h
 cases hb : s.bad with
 | true => rw [hb] at h; simp at h
 | false =>
  refine ⟨?_, rfl⟩
  rw [hb] at h
  simp only [Bool.false_eq_true, if_false, List.getD_eq_getElem?_getD] at h
  rcases Nat.lt_or_ge s.pos rs.length with h1 | h1
  · exact h1
  rw [List.getElem?_eq_none h1] at h; simp at h
abbrev xaj (pb : Nat) : Nat → Prop := fun b => b = pb
theorem xbK (w : World) (pb : Nat) (rv : Value) (rs : List Int) (s : PS) (h : PaAt w pb rv rs s) (hp : s.pos + 1 ≤ 1000000) :
 Calls Tryz.prog 231 #[.pointer (some ⟨pb, 0, none⟩)] w fun e w' => e = .returned (.int .i64 (pk rs s)) ∧ PaAt w' pb rv rs (nx rs s) ∧ xa (xaj pb) w w' := by
 have HP := xoo (xbY w pb rv rs s h)
 have H := xoo h
 clear h
 have Hn : Hid (nx rs s = ⟨s.pos + 1, s.deep, s.bad || decide (pk rs s < 0)⟩) := rfl
 generalize nx rs s = s' at *
 generalize hr : pk rs s = r at *
 clear hr
 by_cases hr0 : r < 0
 · have E : Hid (s' = ⟨s.pos + 1, s.deep, true⟩) := xoo (by rw [Hn.out]; simp [hr0])
   go_enter Tryz.func231, Tryz.ntmps231
   go_wp2_with fail
   refine HP.out.mono ?_
   rintro e w1 ⟨rfl, hk1⟩
   have h1 := H.out.keepsF hk1
   have c3 := h1.c3
   have f3 := h1.fr 3
   have h2 := h1.setBad true
   have c1 := h2.c1
   have f1 := h2.fr 1
   have h3 := h2.setPos (s.pos + 1) hp
   have hk3 := ((hk1.mono (T := xaj pb) (fun _ _ e => e.elim)).set (p := ⟨pb, 3, none⟩) rfl (.bool true)).set (p := ⟨pb, 1, none⟩) rfl (.int .i64 ((s.pos + 1 : Nat) : Int))
   have H3 := xoo h3
   have Hk3 := xoo hk3
   simp only at c1
   clear h1 h2 h3 hk1 hk3
   go_wp2_with fail
   go_ret
   exact ⟨rfl, by rw [E.out]; exact H3.out, Hk3.out⟩
 have E : Hid (s' = ⟨s.pos + 1, s.deep, s.bad⟩) := xoo (by rw [Hn.out]; simp [hr0])
 go_enter Tryz.func231, Tryz.ntmps231
 go_wp2_with fail
 refine HP.out.mono ?_
 rintro e w1 ⟨rfl, hk1⟩
 have h1 := H.out.keepsF hk1
 have c1 := h1.c1
 have f1 := h1.fr 1
 have h3 := h1.setPos (s.pos + 1) hp
 have hk3 := (hk1.mono (T := xaj pb) (fun _ _ e => e.elim)).set (p := ⟨pb, 1, none⟩) rfl (.int .i64 ((s.pos + 1 : Nat) : Int))
 have H3 := xoo h3
 have Hk3 := xoo hk3
 clear h1 h3 hk1 hk3
 go_wp2_with fail
 go_ret
 exact ⟨rfl, by rw [E.out]; exact H3.out, Hk3.out⟩
def mem (l : List (Int × Int)) (r : Int) : Bool := l.any fun p => decide (p.1 ≤ r) && decide (r ≤ p.2)
theorem mem_iff (l : List (Int × Int)) (r : Int) : mem l r = true ↔ ∃ p ∈ l, p.1 ≤ r ∧ r ≤ p.2 := by simp [mem]
theorem xdI (r : Int) : mem [] r = false := rfl
theorem mem_append (a b : List (Int × Int)) (r : Int) : mem (a ++ b) r = (mem a r || mem b r) := by simp [mem]
theorem xbv (p : Int × Int) (r : Int) : mem [p] r = (decide (p.1 ≤ r) && decide (r ≤ p.2)) := by simp [mem]
theorem mem_cons (p : Int × Int) (l : List (Int × Int)) (r : Int) : mem (p :: l) r = ((decide (p.1 ≤ r) && decide (r ≤ p.2)) || mem l r) := by simp [mem]
def xa1 (r : Int) : Bool := decide (0 ≤ r) && decide (r ≤ 1114111)
def has (l : List (Int × Int)) (r : Int) : Bool := mem l r && xa1 r
def Norm : List (Int × Int) → Prop
 | [] => True
 | p :: l => 0 ≤ p.1 ∧ p.1 ≤ p.2 ∧ p.2 ≤ 1114111 ∧ (∀ q ∈ l, p.2 + 2 ≤ q.1) ∧ Norm l
theorem Norm.tail {p : Int × Int} {l : List (Int × Int)} (h : Norm (p :: l)) : Norm l := h.2.2.2.2
theorem Norm.rng {l : List (Int × Int)} (h : Norm l) : ∀ p ∈ l, 0 ≤ p.1 ∧ p.1 ≤ p.2 ∧ p.2 ≤ 1114111 := by
 induction l with
 | nil => simp
 | cons q l ih =>
  intro p hp
  rcases List.mem_cons.1 hp with rfl | hp
  · exact ⟨h.1, h.2.1, h.2.2.1⟩
  exact ih h.tail p hp
theorem xbu (l : List (Int × Int)) (q : Int × Int) (h : Norm l) (h1 : 0 ≤ q.1) (h2 : q.1 ≤ q.2) (h3 : q.2 ≤ 1114111) (hq : ∀ p ∈ l, p.2 + 2 ≤ q.1) : Norm (l ++ [q]) := by
 induction l with
 | nil => exact ⟨h1, h2, h3, by simp, trivial⟩
 | cons p l ih =>
  refine ⟨h.1, h.2.1, h.2.2.1, fun x hx => ?_, ih h.tail (fun p hp => hq p (List.mem_cons_of_mem _ hp))⟩
  rcases List.mem_append.1 hx with hx | hx
  · exact h.2.2.2.1 x hx
  simp at hx; subst hx; exact hq p List.mem_cons_self
theorem xdk (l : List (Int × Int)) (p : Int × Int) (h : Norm (l ++ [p])) : Norm l ∧ 0 ≤ p.1 ∧ p.1 ≤ p.2 ∧ p.2 ≤ 1114111 ∧ ∀ q ∈ l, q.2 + 2 ≤ p.1 := by
 induction l with
 | nil => exact ⟨trivial, h.1, h.2.1, h.2.2.1, by simp⟩
 | cons q l ih =>
  obtain ⟨a, b, c, d, e⟩ := ih h.tail
  refine ⟨⟨h.1, h.2.1, h.2.2.1, fun x hx => h.2.2.2.1 x (List.mem_append_left _ hx), a⟩, b, c, d, fun x hx => ?_⟩
  rcases List.mem_cons.1 hx with rfl | hx
  · exact h.2.2.2.1 p (by simp)
  exact e x hx
theorem xa5 : ∀ (a b : List (Int × Int)), Norm a → Norm b → (∀ r, mem a r = mem b r) → a = b := by
 intro a
 induction a with
 | nil =>
  intro b _ hb h
  cases b with
  | nil => rfl
  | cons q b =>
   have := h q.1
   rw [xdI, mem_cons] at this
   have h2 := hb.2.1
   simp [h2] at this
 | cons p a ih =>
  intro b ha hb h
  cases b with
  | nil =>
   have := h p.1
   rw [xdI, mem_cons] at this
   have h2 := ha.2.1
   simp [h2] at this
  | cons q b =>
   have hlow : ∀ (p : Int × Int) (l : List (Int × Int)), Norm (p :: l) → ∀ r, mem (p :: l) r = true → p.1 ≤ r := by
    intro p l hn r hr
    obtain ⟨x, hx, h1, h2⟩ := (mem_iff _ r).1 hr
    rcases List.mem_cons.1 hx with rfl | hx
    · exact h1
    have := hn.2.2.2.1 x hx; have := hn.2.1; omega
   have hfst : ∀ (p : Int × Int) (l : List (Int × Int)), Norm (p :: l) → ∀ r, p.1 ≤ r → r ≤ p.2 → mem (p :: l) r = true := by
    intro p l hn r h1 h2; rw [mem_cons]; simp [h1, h2]
   have hgap : ∀ (p : Int × Int) (l : List (Int × Int)), Norm (p :: l) → mem (p :: l) (p.2 + 1) = false := by
    intro p l hn
    cases hm : mem (p :: l) (p.2 + 1)
    · rfl
    obtain ⟨x, hx, h1, h2⟩ := (mem_iff _ _).1 hm
    rcases List.mem_cons.1 hx with rfl | hx
    · omega
    have := hn.2.2.2.1 x hx; omega
   have ha2 := ha.2.1
   have hb2 := hb.2.1
   have e1 : p.1 = q.1 := by
    have h1 := hlow q b hb p.1 (by rw [← h]; exact hfst p a ha p.1 (by omega) (by omega))
    have h2 := hlow p a ha q.1 (by rw [h]; exact hfst q b hb q.1 (by omega) (by omega))
    omega
   have e2 : p.2 = q.2 := by
    rcases Int.lt_trichotomy p.2 q.2 with hlt | he | hlt
    · have h1 := hgap p a ha
      rw [h, hfst q b hb (p.2 + 1) (by omega) (by omega)] at h1
      cases h1
    · exact he
    have h1 := hgap q b hb
    rw [← h, hfst p a ha (q.2 + 1) (by omega) (by omega)] at h1
    cases h1
   have e : p = q := Prod.ext e1 e2
   subst e
   congr 1
   refine ih b ha.tail hb.tail fun r => ?_
   have hr := h r
   rw [mem_cons, mem_cons] at hr
   by_cases hin : p.1 ≤ r ∧ r ≤ p.2
   · have hz : ∀ l, Norm (p :: l) → mem l r = false := by
      intro l hn
      cases hm : mem l r
      · rfl
      obtain ⟨x, hx, h1, h2⟩ := (mem_iff _ _).1 hm
      have := hn.2.2.2.1 x hx; omega
     rw [hz a ha, hz b hb]
   have : (decide (p.1 ≤ r) && decide (r ≤ p.2)) = false := by simp; omega
   simpa [this] using hr
def chain : List (Int × Int) → Prop
 | [] => True
 | [p] => 0 ≤ p.1 ∧ p.1 ≤ p.2 ∧ p.2 ≤ 1114111
 | p :: q :: l => 0 ≤ p.1 ∧ p.1 ≤ p.2 ∧ p.2 ≤ 1114111 ∧ p.2 + 2 ≤ q.1 ∧ chain (q :: l)
def sumR (l : List (Int × Int)) : Int := (l.map fun p => p.2 - p.1 + 1).sum
theorem xmO : sumR [] = 0 := rfl
theorem xek (p : Int × Int) (l : List (Int × Int)) : sumR (p :: l) = p.2 - p.1 + 1 + sumR l := by simp [sumR]
def cnt (f : Int → Bool) : Nat → Int
 | 0 => 0
 | n + 1 => cnt f n + if f n then 1 else 0
theorem xhe (f g : Int → Bool) (n : Nat) (h : ∀ r : Int, 0 ≤ r → r < n → f r = g r) : cnt f n = cnt g n := by
 induction n with
 | zero => rfl
 | succ n ih => simp only [cnt]; rw [ih (fun r h1 h2 => h r h1 (by omega)), h n (by omega) (by omega)]
theorem xkf (f g : Int → Bool) (n : Nat) : cnt (fun r => f r || g r) n + cnt (fun r => f r && g r) n = cnt f n + cnt g n := by
 induction n with
 | zero => rfl
 | succ n ih =>
  simp only [cnt]
  by_cases hf : f n = true <;> by_cases hg : g n = true <;> simp [hf, hg] <;> omega
theorem xhd (n : Nat) : cnt (fun _ => false) n = 0 := by
 induction n with
 | zero => rfl
 | succ n ih => simp [cnt, ih]
theorem xmg (a b : Int) (n : Nat) (ha : 0 ≤ a) (hab : a ≤ b + 1) (hb : b < n) : cnt (fun r => decide (a ≤ r) && decide (r ≤ b)) n = b - a + 1 := by
 have key : ∀ m : Nat, cnt (fun r => decide (a ≤ r) && decide (r ≤ b)) m = if (m : Int) ≤ a then 0 else if (m : Int) ≤ b + 1 then (m : Int) - a else b - a + 1 := by
  intro m
  induction m with
  | zero => simp [cnt]; omega
  | succ m ih =>
   simp only [cnt, ih]
   by_cases h1 : a ≤ (m : Int) <;> by_cases h2 : (m : Int) ≤ b <;> simp [h1, h2] <;> (repeat' split) <;> omega
 rw [key]
 split
 · omega
 split <;> omega
theorem xnc (l : List (Int × Int)) (h : Norm l) : cnt (mem l) 1114112 = sumR l := by
 induction l with
 | nil => exact xhd _
 | cons p l ih =>
  rw [xek, ← ih h.tail, ← xmg p.1 p.2 1114112 h.1 (by have := h.2.1; omega) (by have := h.2.2.1; omega)]
  rw [← xkf]
  have : cnt (fun r => (decide (p.1 ≤ r) && decide (r ≤ p.2)) && mem l r) 1114112 = 0 := by
   rw [← xhd 1114112]
   refine xhe _ _ _ fun r _ _ => ?_
   by_cases hin : p.1 ≤ r ∧ r ≤ p.2
   · cases hm : mem l r
     · simp
     obtain ⟨x, hx, h1, h2⟩ := (mem_iff _ _).1 hm
     have := h.2.2.2.1 x hx; omega
   have : (decide (p.1 ≤ r) && decide (r ≤ p.2)) = false := by simp; omega
   simp [this]
  rw [this, Int.add_zero]
  exact xhe _ _ _ fun r _ _ => mem_cons p l r
theorem xej (l : List (Int × Int)) (h : Norm l) : 0 ≤ sumR l ∧ sumR l ≤ 1114112 := by
 rw [← xnc l h]
 have key : ∀ (f : Int → Bool) (n : Nat), 0 ≤ cnt f n ∧ cnt f n ≤ n := by
  intro f n
  induction n with
  | zero => simp [cnt]
  | succ n ih => simp only [cnt]; split <;> omega
 exact key _ _
def IsOf (rs out : List (Int × Int)) : Prop := Norm out ∧ ∀ r, mem out r = has rs r
theorem IsOf.unique {rs a b : List (Int × Int)} (ha : IsOf rs a) (hb : IsOf rs b) : a = b := xa5 a b ha.1 hb.1 fun r => by rw [ha.2, hb.2]
def encR (p : Int × Int) (j : Nat) : Value := if j = 0 then .int .i64 p.1 else .int .i64 p.2
def RSl (w : World) (v : Value) (l : List (Int × Int)) : Prop := SlOf 2 encR w v l ∧ ∀ p ∈ l, in64 p.1 ∧ in64 p.2
theorem RSl.cells {w : World} {v : Value} {l : List (Int × Int)} (h : RSl w v l) : ∃ a cap, v = .slice a l.length cap ∧ l.length ≤ 4611686018427387904 ∧
 (0 < l.length → ∃ b off, a = some ⟨b, off, none⟩ ∧ ∀ i (p : Int × Int), l[i]? = some p → w.cell? ⟨b, off + i * 2, none⟩ = some (.int .i64 p.1) ∧ w.cell? ⟨b, off + i * 2 + 1, none⟩ = some (.int .i64 p.2) ∧ in64 p.1 ∧ in64 p.2) := by
 obtain ⟨⟨a, cap, rfl, ⟨hl, hln⟩, hl2, hc⟩, hr⟩ := h
 refine ⟨a, cap, rfl, hl2, fun h0 => ?_⟩
 obtain ⟨b, off, rfl, hcc⟩ := hc h0
 exact ⟨b, off, rfl, fun i p hp => ⟨hcc i p hp 0 (by omega), hcc i p hp 1 (by omega), hr p (List.mem_of_getElem? hp)⟩⟩
theorem xfo (l : List (Int × Int)) (v : Value) (r : Int) (w : World) (h : RSl w v l) :
 Calls Tryz.prog 215 #[v, .int .i64 r] w fun e w' => e = .returned (.bool (has l r)) ∧ w = w' := by
 obtain ⟨a, cap, rfl, hl, hc⟩ := h.cells
 have Hc := xoo hc
 clear hc h
 go_enter Tryz.func215, Tryz.ntmps215
 go_wp2_with fail
 go_loop [5] (fun iv => ∃ i : Nat, iv = .int .i64 i ∧ i ≤ l.length ∧ has (l.take i) r = false) (fun iv => l.length - (intOf iv).toNat)
 case atStart => exact ⟨0, rfl, Nat.zero_le _, rfl⟩
 case round =>
  obtain ⟨i, rfl, hi, hno⟩ := hrel
  have Hno := xoo hno
  clear hno
  by_cases hil : i < l.length
  · obtain ⟨b, off, rfl, hcc⟩ := Hc.out (by omega)
    obtain ⟨p, hp⟩ : ∃ p, l[i]? = some p := ⟨_, List.getElem?_eq_getElem hil⟩
    obtain ⟨c0, c1, _, _⟩ := hcc i p hp
    clear hcc
    have hsn : l.take (i + 1) = l.take i ++ [p] := by rw [List.take_add_one, hp]; rfl
    have Hp := xoo hp
    have Hsn := xoo hsn
    clear hp hsn
    by_cases h1 : p.1 ≤ r ∧ r ≤ p.2 ∧ 0 ≤ r ∧ r ≤ 1114111
    · obtain ⟨a1, a2, a3, a4⟩ := h1
      go_wp2_with fail
      go_ret
      refine ⟨?_, rfl⟩
      have : has l r = true := by
       unfold has; rw [Bool.and_eq_true, mem_iff]
       exact ⟨⟨p, List.mem_of_getElem? Hp.out, a1, a2⟩, by simp [xa1, a3, a4]⟩
      rw [this]; rfl
    have hgo : has (l.take (i + 1)) r = false := by
     rw [Hsn.out]; unfold has; rw [mem_append, xbv]
     have h0 := Hno.out
     unfold has at h0
     by_cases hin : p.1 ≤ r ∧ r ≤ p.2
     · have : xa1 r = false := by simp [xa1]; omega
       simp [this]
     have : (decide (p.1 ≤ r) && decide (r ≤ p.2)) = false := by simp; omega
     rw [this, Bool.or_false]; exact h0
    by_cases g1 : p.1 ≤ r
    · by_cases g2 : r ≤ p.2
      · by_cases g3 : 0 ≤ r
        · have g4 : 1114111 < r := by omega
          go_wp2_with fail
          go_round
          case rel => exact ⟨i + 1, by go_num, by omega, hgo⟩
          case measure => simp [intOf]; omega
        go_wp2_with fail
        go_round
        case rel => exact ⟨i + 1, by go_num, by omega, hgo⟩
        case measure => simp [intOf]; omega
      go_wp2_with fail
      go_round
      case rel => exact ⟨i + 1, by go_num, by omega, hgo⟩
      case measure => simp [intOf]; omega
    go_wp2_with fail
    go_round
    case rel => exact ⟨i + 1, by go_num, by omega, hgo⟩
    case measure => simp [intOf]; omega
  go_wp2_with fail
  go_ret
  have h0 := Hno.out
  rw [List.take_of_length_le (by omega)] at h0
  exact ⟨by rw [h0]; rfl, rfl⟩
theorem xdV {α : Type} {l : List α} {i : Nat} {x : α} (h : l[i]? = some x) : l.take (i + 1) = l.take i ++ [x] := by rw [List.take_add_one, h]; rfl
inductive F where
 | nil : F
 | cons (op : Int) (set : List (Int × Int)) (mn mx : Int) (kids rest : F) : F
 deriving DecidableEq
structure T where
 op : Int
 set : List (Int × Int)
 mn : Int
 mx : Int
 kids : F
 deriving DecidableEq
def F.toL : F → List T
 | .nil => []
 | .cons a b c d k r => ⟨a, b, c, d, k⟩ :: r.toL
def F.ofL : List T → F
 | [] => .nil
 | t :: l => .cons t.op t.set t.mn t.mx t.kids (F.ofL l)
theorem F.of_to (f : F) : F.ofL f.toL = f := by
 induction f with
 | nil => rfl
 | cons a b c d k r ih1 ih2 => simp only [F.toL, F.ofL, ih2]
theorem F.to_of (l : List T) : (F.ofL l).toL = l := by
 induction l with
 | nil => rfl
 | cons t l ih => simp only [F.ofL, F.toL, ih]
structure NV where
 op : Int
 sv : Value
 mn : Int
 mx : Int
 kv : Value
def encN (v : NV) (j : Nat) : Value := if j = 0 then .int .i64 v.op else if j = 1 then v.sv else if j = 2 then .int .i64 v.mn else if j = 3 then .int .i64 v.mx else v.kv
def NV.val (v : NV) : Value := .agg #[.int .i64 v.op, v.sv, .int .i64 v.mn, .int .i64 v.mx, v.kv]
theorem xfH (v : NV) : (List.range 5).map (encN v) = [.int .i64 v.op, v.sv, .int .i64 v.mn, .int .i64 v.mx, v.kv] := rfl
def FAt (w : World) (P : Nat → Prop) : F → List NV → Prop
 | .nil, vs => vs = []
 | .cons op set mn mx kids rest, vs => ∃ v vs', vs = v :: vs' ∧ (v.op = op ∧ v.mn = mn ∧ v.mx = mx ∧ in64 mn ∧ in64 mx) ∧ (RSl w v.sv set ∧ (∀ b, v.sv.ownBlock = some b → P b)) ∧
  (∃ ks, (SlOf 5 encN w v.kv ks ∧ (∀ b, v.kv.ownBlock = some b → P b)) ∧ FAt w P kids ks) ∧ FAt w P rest vs'
structure TAt (w : World) (P : Nat → Prop) (v : NV) (t : T) : Prop where
 op : v.op = t.op
 mn : v.mn = t.mn
 mx : v.mx = t.mx
 nn : in64 t.mn
 nx : in64 t.mx
 set : RSl w v.sv t.set
 sb : ∀ b, v.sv.ownBlock = some b → P b
 kids : ∃ ks, SlOf 5 encN w v.kv ks ∧ FAt w P t.kids ks
 kb : ∀ b, v.kv.ownBlock = some b → P b
theorem FAt.cons_iff {w : World} {P : Nat → Prop} {t : T} {l : List T} {vs : List NV} : FAt w P (F.ofL (t :: l)) vs ↔ ∃ v vs', vs = v :: vs' ∧ TAt w P v t ∧ FAt w P (F.ofL l) vs' := by
 constructor
 · rintro ⟨v, vs', rfl, ⟨h1, h2, h3, g1, g2⟩, ⟨h4, h5⟩, ⟨ks, ⟨h6, h7⟩, h8⟩, h9⟩
   exact ⟨v, vs', rfl, ⟨h1, h2, h3, g1, g2, h4, h5, ⟨ks, h6, h8⟩, h7⟩, h9⟩
 rintro ⟨v, vs', rfl, ⟨h1, h2, h3, g1, g2, h4, h5, ⟨ks, h6, h8⟩, h7⟩, h9⟩
 exact ⟨v, vs', rfl, ⟨h1, h2, h3, g1, g2⟩, ⟨h4, h5⟩, ⟨ks, ⟨h6, h7⟩, h8⟩, h9⟩
theorem RSl.keeps {S : Nat → Prop} {w w' : World} {v : Value} {l : List (Int × Int)} (h : RSl w v l) (K : xa S w w') (hs : ∀ b, v.ownBlock = some b → ¬ S b) : RSl w' v l := ⟨h.1.keeps K hs, h.2⟩
theorem FAt.keepsTo {S P Q : Nat → Prop} {w w' : World} (K : xa S w w') (hs : ∀ b, P b → ¬ S b) (hq : ∀ b, P b → Q b) : ∀ {f : F} {vs : List NV}, FAt w P f vs → FAt w' Q f vs := by
 intro f
 induction f with
 | nil => intro vs h; exact h
 | cons a b c d k r ih1 ih2 =>
  rintro vs ⟨v, vs', rfl, h1, ⟨h4, h5⟩, ⟨ks, ⟨h6, h7⟩, h8⟩, h9⟩
  exact ⟨v, vs', rfl, h1, ⟨h4.keeps K (fun b hb => hs b (h5 b hb)), fun b hb => hq b (h5 b hb)⟩, ⟨ks, ⟨h6.keeps K (fun b hb => hs b (h7 b hb)), fun b hb => hq b (h7 b hb)⟩, ih1 h8⟩, ih2 h9⟩
theorem TAt.keepsTo {S P Q : Nat → Prop} {w w' : World} {v : NV} {t : T} (h : TAt w P v t) (K : xa S w w') (hs : ∀ b, P b → ¬ S b) (hq : ∀ b, P b → Q b) : TAt w' Q v t := by
 obtain ⟨ks, h6, h8⟩ := h.kids
 exact ⟨h.op, h.mn, h.mx, h.nn, h.nx, h.set.keeps K (fun b hb => hs b (h.sb b hb)), fun b hb => hq b (h.sb b hb), ⟨ks, h6.keeps K (fun b hb => hs b (h.kb b hb)), h8.keepsTo K hs hq⟩, fun b hb => hq b (h.kb b hb)⟩
theorem FAt.len {w : World} {P : Nat → Prop} : ∀ {l : List T} {vs : List NV}, FAt w P (F.ofL l) vs → vs.length = l.length := by
 intro l
 induction l with
 | nil => intro vs h; rw [show vs = [] from h]; rfl
 | cons t l ih => intro vs h; obtain ⟨v, vs', rfl, _, h2⟩ := FAt.cons_iff.1 h; simp [ih h2]
theorem FAt.snoc {w : World} {P : Nat → Prop} {t : T} {v : NV} : ∀ {l : List T} {vs : List NV}, FAt w P (F.ofL l) vs → TAt w P v t → FAt w P (F.ofL (l ++ [t])) (vs ++ [v]) := by
 intro l
 induction l with
 | nil => intro vs h ht; rw [show vs = [] from h]; exact FAt.cons_iff.2 ⟨v, [], rfl, ht, rfl⟩
 | cons u l ih =>
  intro vs h ht
  obtain ⟨v', vs', rfl, h1, h2⟩ := FAt.cons_iff.1 h
  exact FAt.cons_iff.2 ⟨v', vs' ++ [v], rfl, h1, ih h2 ht⟩
theorem FAt.get {w : World} {P : Nat → Prop} : ∀ {l : List T} {vs : List NV} {i : Nat} {t : T}, FAt w P (F.ofL l) vs → l[i]? = some t → ∃ v, vs[i]? = some v ∧ TAt w P v t := by
 intro l
 induction l with
 | nil => intro vs i t h hi; simp at hi
 | cons u l ih =>
  intro vs i t h hi
  obtain ⟨v', vs', rfl, h1, h2⟩ := FAt.cons_iff.1 h
  cases i with
  | zero => simp at hi; subst hi; exact ⟨v', rfl, h1⟩
  | succ i => simp at hi; obtain ⟨v, h3, h4⟩ := ih h2 hi; exact ⟨v, by simpa using h3, h4⟩
theorem xbW (w : World) (pb : Nat) (rv : Value) (rs : List Int) (s : PS) (r : Int) (h : PaAt w pb rv rs s) (hp : s.pos + 1 ≤ 1000000) :
 Calls Tryz.prog 165 #[.pointer (some ⟨pb, 0, none⟩), .int .i64 r] w fun e w' => e = .returned (.bool (tkB rs r s)) ∧ PaAt w' pb rv rs (tk rs r s) ∧ xa (xaj pb) w w' := by
 have HP := xoo (xbY w pb rv rs s h)
 have H := xoo h
 clear h
 by_cases hr : pk rs s = r
 · have E : Hid (tk rs r s = ⟨s.pos + 1, s.deep, s.bad⟩) := xoo (if_pos hr)
   have E2 : Hid (tkB rs r s = true) := xoo (by unfold tkB; simpa using hr)
   rw [hr] at HP
   clear hr
   generalize tk rs r s = s' at *
   generalize tkB rs r s = q at *
   go_enter Tryz.func165, Tryz.ntmps165
   go_wp2_with fail
   refine HP.out.mono ?_
   rintro e w1 ⟨rfl, hk1⟩
   have h1 := H.out.keepsF hk1
   have c1 := h1.c1
   have f1 := h1.fr 1
   have h3 := h1.setPos (s.pos + 1) hp
   have hk3 := (hk1.mono (T := xaj pb) (fun _ _ e => e.elim)).set (p := ⟨pb, 1, none⟩) rfl (.int .i64 ((s.pos + 1 : Nat) : Int))
   have H3 := xoo h3
   have Hk3 := xoo hk3
   clear h1 h3 hk1 hk3
   go_wp2_with fail
   go_ret
   exact ⟨by rw [E2.out]; rfl, by rw [E.out]; exact H3.out, Hk3.out⟩
 have E : Hid (tk rs r s = s) := xoo (if_neg hr)
 have E2 : Hid (tkB rs r s = false) := xoo (by unfold tkB; simpa using hr)
 have g1 : (pk rs s != r) = true := by simp only [bne_iff_ne, ne_eq]; exact hr
 clear hr
 generalize tk rs r s = s' at *
 generalize tkB rs r s = q at *
 generalize pk rs s = t at *
 go_enter Tryz.func165, Tryz.ntmps165
 go_wp2_with fail
 refine HP.out.mono ?_
 rintro e w1 ⟨rfl, hk1⟩
 have h1 := xoo (H.out.keepsF hk1)
 go_wp2_with fail
 go_ret
 exact ⟨by rw [E2.out]; rfl, by rw [E.out]; exact h1.out, hk1.mono (fun _ _ e => e.elim)⟩
theorem xcJ (w : World) (pb : Nat) (rv : Value) (rs : List Int) (s : PS) (r : Int) (h : PaAt w pb rv rs s) (hp : s.pos + 1 ≤ 1000000) :
 Calls Tryz.prog 232 #[.pointer (some ⟨pb, 0, none⟩), .int .i64 r] w fun e w' => e = .returned (.tuple #[]) ∧ PaAt w' pb rv rs (wt rs r s) ∧ xa (xaj pb) w w' := by
 have HT := xoo (xbW w pb rv rs s r h hp)
 clear h
 by_cases hr : pk rs s = r
 · have E : Hid (wt rs r s = tk rs r s) := xoo (by unfold wt tk; rw [if_pos hr, if_pos hr])
   have E2 : tkB rs r s = true := by unfold tkB; simpa using hr
   rw [E2] at HT
   clear hr E2
   go_enter Tryz.func232, Tryz.ntmps232
   go_wp2_with fail
   refine HT.out.mono ?_
   rintro e w1 ⟨rfl, h1, hk1⟩
   have H1 := xoo h1
   clear h1
   go_wp2_with fail
   go_end0
   exact ⟨rfl, by rw [E.out]; exact H1.out, hk1⟩
 have E : Hid (wt rs r s = ⟨s.pos, s.deep, true⟩) := xoo (if_neg hr)
 have E2 : tkB rs r s = false := by unfold tkB; simpa using hr
 have E3 : tk rs r s = s := if_neg hr
 rw [E2, E3] at HT
 clear hr E2 E3
 go_enter Tryz.func232, Tryz.ntmps232
 go_wp2_with fail
 refine HT.out.mono ?_
 rintro e w1 ⟨rfl, h1, hk1⟩
 have c3 := h1.c3
 have f3 := h1.fr 3
 have H1 := xoo (h1.setBad true)
 clear h1
 go_wp2_with fail
 go_end0
 exact ⟨rfl, by rw [E.out]; exact H1.out, hk1.set (p := ⟨pb, 3, none⟩) rfl _⟩
def dig (r : Int) : Bool := decide (48 ≤ r) && decide (r ≤ 57)
def numN (rs : List Int) (s : PS) : Int :=
 if dig (pk rs s) then (if dig (pk rs ⟨s.pos + 1, s.deep, s.bad⟩) then (pk rs s - 48) * 10 + pk rs ⟨s.pos + 1, s.deep, s.bad⟩ - 48 else pk rs s - 48) else 0
def numS (rs : List Int) (s : PS) : PS :=
 if dig (pk rs s) then (if dig (pk rs ⟨s.pos + 1, s.deep, s.bad⟩) then ⟨s.pos + 2, s.deep, s.bad || decide (50 < numN rs s)⟩ else ⟨s.pos + 1, s.deep, s.bad⟩) else ⟨s.pos, s.deep, true⟩
def NumR (pb : Nat) (rv : Value) (rs : List Int) (s : PS) (w : World) (nv iv : Value) (wr : World) : Prop :=
 ∃ (i : Nat) (n : Int) (s' : PS), iv = .int .i64 i ∧ nv = .int .i64 n ∧ PaAt wr pb rv rs s' ∧ xa (xaj pb) w wr ∧ 0 ≤ n ∧ n ≤ 99 ∧
  ((i = 0 ∧ n = 0 ∧ s' = s) ∨ (i = 1 ∧ dig (pk rs s) = true ∧ n = pk rs s - 48 ∧ n ≤ 9 ∧ s' = ⟨s.pos + 1, s.deep, s.bad⟩) ∨
   (i = 2 ∧ dig (pk rs s) = true ∧ dig (pk rs ⟨s.pos + 1, s.deep, s.bad⟩) = true ∧ n = numN rs s ∧ s' = ⟨s.pos + 2, s.deep, s.bad⟩))
theorem xcN (w : World) (pb : Nat) (rv : Value) (rs : List Int) (s : PS) (h : PaAt w pb rv rs s) (hp : s.pos + 2 ≤ 1000000) :
 Calls Tryz.prog 239 #[.pointer (some ⟨pb, 0, none⟩)] w fun e w' => e = .returned (.int .i64 (numN rs s)) ∧ PaAt w' pb rv rs (numS rs s) ∧ xa (xaj pb) w w' := by
 have H0 := xoo h
 clear h
 go_enter Tryz.func239, Tryz.ntmps239
 go_wp2_with fail
 go_loopw [3, 6] (fun nv iv wr => NumR pb rv rs s w nv iv wr) (fun _ iv _ => 2 - (intOf iv).toNat)
 case atStart => exact ⟨0, 0, s, rfl, rfl, H0.out, xa.refl _ _, by omega, by omega, Or.inl ⟨rfl, rfl, rfl⟩⟩
 case round =>
  obtain ⟨i, n, s', rfl, rfl, hA, hk, hn0, hn9, hc⟩ := hrel
  have hPk := xoo (xbY wr pb rv rs s' hA)
  have hple := xk7 hA
  have HA := xoo hA
  have hsp : s'.pos + 1 ≤ 1000000 ∨ i = 2 := by
   rcases hc with ⟨_, _, rfl⟩ | ⟨_, _, _, _, rfl⟩ | ⟨e, _⟩
   · left; omega
   · left; show s.pos + 1 + 1 ≤ 1000000; omega
   right; exact e
  clear hA
  by_cases hi2 : i = 2
  · subst hi2
    rcases hc with ⟨e, _⟩ | ⟨e, _⟩ | ⟨_, d0, d1, hN, hS⟩
    · omega
    · omega
    have hb : s.bad = false := (xaJ (show 0 ≤ pk rs s by simp [dig] at d0; omega)).2
    have En : Hid (numN rs s = n) := xoo hN.symm
    have Es : Hid (numS rs s = ⟨s.pos + 2, s.deep, decide (50 < n)⟩) := xoo (by unfold numS; rw [if_pos d0, if_pos d1, ← hN, hb]; rfl)
    have c3 := HA.out.c3
    have f3 := HA.out.fr 3
    have hb' : s'.bad = false := by rw [hS]; exact hb
    rw [hb'] at c3
    have hSs : s'.pos = s.pos + 2 ∧ s'.deep = s.deep := by rw [hS]; exact ⟨rfl, rfl⟩
    clear hN hS d0 d1 hPk hple hb hb'
    by_cases h50 : 50 < n
    · have g : decide (50 < n) = true := by simpa using h50
      have H1 := xoo (HA.out.setBad true)
      have Es2 : Hid (numS rs s = ⟨s'.pos, s'.deep, true⟩) := xoo (by rw [Es.out, g, hSs.1, hSs.2])
      clear Es hSs
      go_wp2_with fail
      go_ret
      exact ⟨by rw [En.out]; rfl, by rw [Es2.out]; exact H1.out, hk.set (p := ⟨pb, 3, none⟩) rfl _⟩
    have g : decide (50 < n) = false := by simpa using h50
    have H1 := xoo (HA.out.setBad false)
    have Es2 : Hid (numS rs s = ⟨s'.pos, s'.deep, false⟩) := xoo (by rw [Es.out, g, hSs.1, hSs.2])
    clear Es hSs
    go_wp2_with fail
    go_ret
    exact ⟨by rw [En.out]; rfl, by rw [Es2.out]; exact H1.out, hk.set (p := ⟨pb, 3, none⟩) rfl _⟩
  have hi : i < 2 := by omega
  have hsp' : s'.pos + 1 ≤ 1000000 := by omega
  clear hsp
  by_cases hd : dig (pk rs s') = true
  · have hd' : 48 ≤ pk rs s' ∧ pk rs s' ≤ 57 := by simpa [dig] using hd
    have hb : s'.bad = false := (xaJ (show 0 ≤ pk rs s' by omega)).2
    have hn9' : n ≤ 9 := by
     rcases hc with ⟨_, e, _⟩ | ⟨_, _, _, e, _⟩ | ⟨e, _⟩
     · omega
     · exact e
     omega
    have Hc := xoo hc
    have Hd := xoo hd
    have Hb := xoo hb
    clear hc hd hb
    have Hpk : Hid (pk rs s' = pk rs s') := rfl
    generalize hr : pk rs s' = r at *
    have Hr := xoo hr
    clear hr Hpk
    have g1 : decide (r < 48) = false := by simp; omega
    have g2 : decide ((57 : Int) < r) = false := by simp; omega
    obtain ⟨r1, r2⟩ := hd'
    go_wp2_with fail
    refine hPk.out.mono ?_
    rintro e w1 ⟨rfl, hk1⟩
    have h1 := HA.out.keepsF hk1
    have c1 := h1.c1
    have f1 := h1.fr 1
    have H3 := xoo (h1.setPos (s'.pos + 1) hsp')
    have Hk3 := xoo ((hk.trans (hk1.mono (T := xaj pb) (fun _ _ e => e.elim))).set (p := ⟨pb, 1, none⟩) rfl (.int .i64 ((s'.pos + 1 : Nat) : Int)))
    clear h1 hk1 hPk
    go_wp2_with fail
    go_roundw
    case rel =>
     refine ⟨i + 1, n * 10 + r - 48, _, by go_num, rfl, H3.out, Hk3.out, by omega, by omega, ?_⟩
     rcases Hc.out with ⟨rfl, rfl, rfl⟩ | ⟨rfl, d0, hn, _, rfl⟩ | ⟨e, _⟩
     · right; left
       have hr := Hr.out
       refine ⟨rfl, by rw [hr]; exact Hd.out, by rw [hr]; omega, by omega, rfl⟩
     · right; right
       have hr := Hr.out
       refine ⟨rfl, d0, by rw [hr]; exact Hd.out, ?_, rfl⟩
       unfold numN
       rw [if_pos d0, if_pos (by rw [hr]; exact Hd.out), hr, hn]
     omega
    case measure => simp [intOf]; omega
  have hd' : pk rs s' < 48 ∨ 57 < pk rs s' := by simp [dig] at hd; omega
  rcases hc with ⟨rfl, rfl, rfl⟩ | ⟨rfl, d0, hn, h9, hS⟩ | ⟨e, _⟩
  · have En : Hid (numN rs s' = 0) := xoo (by unfold numN; rw [if_neg hd])
    have Es : Hid (numS rs s' = ⟨s'.pos, s'.deep, true⟩) := xoo (by unfold numS; rw [if_neg hd])
    clear hd
    generalize pk rs s' = r at *
    obtain ⟨bad, hbad⟩ : ∃ b, s'.bad = b := ⟨_, rfl⟩
    have Hbad := xoo hbad
    clear hbad
    by_cases hr48 : r < 48
    · have g1 : decide (r < 48) = true := by simpa using hr48
      clear hd'
      go_wp2_with fail
      refine hPk.out.mono ?_
      rintro e w1 ⟨rfl, hk1⟩
      have h1 := HA.out.keepsF hk1
      have c3 := h1.c3
      have f3 := h1.fr 3
      rw [Hbad.out] at c3
      have h2 := h1.setBad true
      have H3 := xoo (h2.setBad true)
      have Hk3 := xoo (((hk.trans (hk1.mono (T := xaj pb) (fun _ _ e => e.elim))).set (p := ⟨pb, 3, none⟩) rfl (.bool true)).set (p := ⟨pb, 3, none⟩) rfl (.bool true))
      have d3 := h2.c3
      have e3 := h2.fr 3
      simp only at d3
      clear h1 h2 hk1 hPk
      cases bad
      all_goals
       go_wp2_with fail
       go_ret
       exact ⟨by rw [En.out]; rfl, by rw [Es.out]; exact H3.out, Hk3.out⟩
    have g1 : decide (r < 48) = false := by simpa using hr48
    have g2 : decide ((57 : Int) < r) = true := by simp; omega
    clear hd'
    go_wp2_with fail
    refine hPk.out.mono ?_
    rintro e w1 ⟨rfl, hk1⟩
    have h1 := HA.out.keepsF hk1
    have c3 := h1.c3
    have f3 := h1.fr 3
    rw [Hbad.out] at c3
    have h2 := h1.setBad true
    have H3 := xoo (h2.setBad true)
    have Hk3 := xoo (((hk.trans (hk1.mono (T := xaj pb) (fun _ _ e => e.elim))).set (p := ⟨pb, 3, none⟩) rfl (.bool true)).set (p := ⟨pb, 3, none⟩) rfl (.bool true))
    have d3 := h2.c3
    have e3 := h2.fr 3
    simp only at d3
    clear h1 h2 hk1 hPk
    cases bad
    all_goals
     go_wp2_with fail
     go_ret
     exact ⟨by rw [En.out]; rfl, by rw [Es.out]; exact H3.out, Hk3.out⟩
  · have hb : s.bad = false := (xaJ (show 0 ≤ pk rs s by simp [dig] at d0; omega)).2
    have hb' : s'.bad = false := by rw [hS]; exact hb
    have En : Hid (numN rs s = n) := xoo (by unfold numN; rw [if_pos d0, if_neg (by rw [← hS]; exact hd), hn])
    have Es : Hid (numS rs s = ⟨s'.pos, s'.deep, false⟩) := xoo (by unfold numS; rw [if_pos d0, if_neg (by rw [← hS]; exact hd), hS, hb])
    have Hb' := xoo hb'
    have g50 : decide ((50 : Int) < n) = false := by simp; omega
    clear hd hS hb d0 hn hb'
    generalize pk rs s' = r at *
    by_cases hr48 : r < 48
    · have g1 : decide (r < 48) = true := by simpa using hr48
      clear hd'
      go_wp2_with fail
      refine hPk.out.mono ?_
      rintro e w1 ⟨rfl, hk1⟩
      have h1 := HA.out.keepsF hk1
      have c3 := h1.c3
      have f3 := h1.fr 3
      rw [Hb'.out] at c3
      have h2 := h1.setBad false
      have H3 := xoo (h2.setBad false)
      have Hk3 := xoo (((hk.trans (hk1.mono (T := xaj pb) (fun _ _ e => e.elim))).set (p := ⟨pb, 3, none⟩) rfl (.bool false)).set (p := ⟨pb, 3, none⟩) rfl (.bool false))
      have d3 := h2.c3
      have e3 := h2.fr 3
      simp only at d3
      clear h1 h2 hk1 hPk
      go_wp2_with fail
      go_ret
      exact ⟨by rw [En.out]; rfl, by rw [Es.out]; exact H3.out, Hk3.out⟩
    have g1 : decide (r < 48) = false := by simpa using hr48
    have g2 : decide ((57 : Int) < r) = true := by simp; omega
    clear hd'
    go_wp2_with fail
    refine hPk.out.mono ?_
    rintro e w1 ⟨rfl, hk1⟩
    have h1 := HA.out.keepsF hk1
    have c3 := h1.c3
    have f3 := h1.fr 3
    rw [Hb'.out] at c3
    have h2 := h1.setBad false
    have H3 := xoo (h2.setBad false)
    have Hk3 := xoo (((hk.trans (hk1.mono (T := xaj pb) (fun _ _ e => e.elim))).set (p := ⟨pb, 3, none⟩) rfl (.bool false)).set (p := ⟨pb, 3, none⟩) rfl (.bool false))
    have d3 := h2.c3
    have e3 := h2.fr 3
    simp only at d3
    clear h1 h2 hk1 hPk
    go_wp2_with fail
    go_ret
    exact ⟨by rw [En.out]; rfl, by rw [Es.out]; exact H3.out, Hk3.out⟩
  omega
end Go.Proofs.YtbifklibdkjbeaaGreatDoor
