/-
  The parser's state, and its smallest steps: peek, next, take, want.
-/
import Derived.Test.YtapmdhejgnplaaaGreatMg8
import Derived.Deep.QuietTactic
import Derived.BigQuiet
import Derived.Lib.Hide
import Derived.Test.YtapmdhejgnplaaaGreatRows
import Derived.Deep.RegionWith
import Derived.Test.YtapmdhejgnplaaaGreatShelfS
import Derived.Deep.LoopGhost
import Derived.RegionTactic
import Derived.Laws.AppendOwnNone
namespace Go.Proofs.YtapmdhejgnplaaaGreat
open Go.RowKit Go.Proofs.Tryz
set_option linter.unusedVariables false
set_option linter.unusedSimpArgs false
set_option maxRecDepth 100000
set_option maxHeartbeats 4000000
structure PS where
 pos : Nat
 deep : Int
 bad : Bool
def pk (rs : List Int) (s : PS) : Int := if s.bad then -1 else rs.getD s.pos (-1)
def nx (rs : List Int) (s : PS) : PS := ⟨s.pos + 1, s.deep, s.bad || decide (pk rs s < 0)⟩
def tkB (rs : List Int) (r : Int) (s : PS) : Bool := decide (pk rs s = r)
def tk (rs : List Int) (r : Int) (s : PS) : PS := if pk rs s = r then ⟨s.pos + 1, s.deep, s.bad⟩ else s
def wt (rs : List Int) (r : Int) (s : PS) : PS := if pk rs s = r then ⟨s.pos + 1, s.deep, s.bad⟩ else ⟨s.pos, s.deep, true⟩
def encI (n : Int) (_ : Nat) : Value := .int .i64 n
structure PaAt (w : World) (pb : Nat) (rv : Value) (rs : List Int) (s : PS) : Prop where
 c0 : w.cell? ⟨pb, 0, none⟩ = some rv
 c1 : w.cell? ⟨pb, 1, none⟩ = some (.int .i64 s.pos)
 c2 : w.cell? ⟨pb, 2, none⟩ = some (.int .i64 s.deep)
 c3 : w.cell? ⟨pb, 3, none⟩ = some (.bool s.bad)
 fr : ∀ o, w.frozen? ⟨pb, o, none⟩ = false
 sl : SlOf 1 encI w rv rs
 ne : rv.ownBlock ≠ some pb
 len : rs.length <= 100000
 pos : s.pos <= 1000000
 rng : ∀ r ∈ rs, 0 <= r /\ r <= 1114111
 rb : ∀ b, rv.ownBlock = some b -> b < w.heap.size
theorem PaAt.lt {w : World} {pb : Nat} {rv : Value} {rs : List Int} {s : PS} (h : PaAt w pb rv rs s) : pb < w.heap.size := xal h.c0
theorem PaAt.keeps {S : Nat -> Prop} {w w' : World} {pb : Nat} {rv : Value} {rs : List Int} {s : PS} (h : PaAt w pb rv rs s) (K : xaa S w w') (h1 : ¬ S pb) (h2 : ∀ b, rv.ownBlock = some b -> ¬ S b) : PaAt w' pb rv rs s :=
 ⟨K.cell h.c0 h1, K.cell h.c1 h1, K.cell h.c2 h1, K.cell h.c3 h1, fun o => K.frozen (h.fr o) h.lt h1, h.sl.keeps K h2, h.ne, h.len, h.pos, h.rng, fun b hb => Nat.lt_of_lt_of_le (h.rb b hb) K.size⟩
theorem PaAt.keepsF {w w' : World} {pb : Nat} {rv : Value} {rs : List Int} {s : PS} (h : PaAt w pb rv rs s) (K : KF w w') : PaAt w' pb rv rs s := h.keeps K id (fun _ _ => id)
theorem PaAt.setPos {w : World} {pb : Nat} {rv : Value} {rs : List Int} {s : PS} (h : PaAt w pb rv rs s) (p : Nat) (hp : p <= 1000000) : PaAt (w.setCell ⟨pb, 1, none⟩ (.int .i64 p)) pb rv rs ⟨p, s.deep, s.bad⟩ := by
 have K : xaa (fun b => b = pb) w (w.setCell ⟨pb, 1, none⟩ (.int .i64 p)) := (xaa.refl (fun b => b = pb) _).set (p := ⟨pb, 1, none⟩) rfl _
 exact ⟨by rw [xae (by simp)]; exact h.c0, xaw h.c1, by rw [xae (by simp)]; exact h.c2, by rw [xae (by simp)]; exact h.c3,
  fun o => by rw [xbv]; exact h.fr o, h.sl.keeps K (fun b hb e => h.ne (by rw [hb, e])), h.ne, h.len, hp, h.rng, fun b hb => Nat.lt_of_lt_of_le (h.rb b hb) K.size⟩
theorem PaAt.setBad {w : World} {pb : Nat} {rv : Value} {rs : List Int} {s : PS} (h : PaAt w pb rv rs s) (x : Bool) : PaAt (w.setCell ⟨pb, 3, none⟩ (.bool x)) pb rv rs ⟨s.pos, s.deep, x⟩ := by
 have K : xaa (fun b => b = pb) w (w.setCell ⟨pb, 3, none⟩ (.bool x)) := (xaa.refl (fun b => b = pb) _).set (p := ⟨pb, 3, none⟩) rfl _
 exact ⟨by rw [xae (by simp)]; exact h.c0, by rw [xae (by simp)]; exact h.c1, by rw [xae (by simp)]; exact h.c2, xaw h.c3,
  fun o => by rw [xbv]; exact h.fr o, h.sl.keeps K (fun b hb e => h.ne (by rw [hb, e])), h.ne, h.len, h.pos, h.rng, fun b hb => Nat.lt_of_lt_of_le (h.rb b hb) K.size⟩
theorem PaAt.setDeep {w : World} {pb : Nat} {rv : Value} {rs : List Int} {s : PS} (h : PaAt w pb rv rs s) (d : Int) : PaAt (w.setCell ⟨pb, 2, none⟩ (.int .i64 d)) pb rv rs ⟨s.pos, d, s.bad⟩ := by
 have K : xaa (fun b => b = pb) w (w.setCell ⟨pb, 2, none⟩ (.int .i64 d)) := (xaa.refl (fun b => b = pb) _).set (p := ⟨pb, 2, none⟩) rfl _
 exact ⟨by rw [xae (by simp)]; exact h.c0, by rw [xae (by simp)]; exact h.c1, xaw h.c2, by rw [xae (by simp)]; exact h.c3,
  fun o => by rw [xbv]; exact h.fr o, h.sl.keeps K (fun b hb e => h.ne (by rw [hb, e])), h.ne, h.len, h.pos, h.rng, fun b hb => Nat.lt_of_lt_of_le (h.rb b hb) K.size⟩
theorem xbW (w : World) (pb : Nat) (rv : Value) (rs : List Int) (s : PS) (h : PaAt w pb rv rs s) :
 Calls prog 105 #[.pointer (some ⟨pb, 0, none⟩)] w fun e w' => e = .returned (.int .i64 (pk rs s)) /\ KF w w' := by
 obtain ⟨c0, c1, c2, c3, fr, sl, ne, hlen, hpos, hrng, hrb⟩ := h
 obtain ⟨a, cap, rfl, ⟨hlc, _⟩, _, hcc⟩ := sl
 obtain ⟨p, d, bad⟩ := s
 simp only at c1 c2 c3 hpos
 cases bad with
 | true =>
  have e : pk rs ⟨p, d, true⟩ = -1 := rfl
  rw [e]
  go_enter func105, ntmps105
  go_wp2_with fail
  go_quiet (fail)
  go_wp2
  go_ret
  exact ⟨rfl, (xaa.refl _ _).drawN _⟩
 | false =>
  by_cases hp : rs.length <= p
  · have e : pk rs ⟨p, d, false⟩ = -1 := by unfold pk; simp [List.getD_eq_getElem?_getD, List.getElem?_eq_none hp]
    have g1 : decide ((rs.length : Int) <= (p : Int)) = true := by simp; omega
    have g2 : decide (rs.length <= p) = true := by simpa using hp
    rw [e]
    go_enter func105, ntmps105
    go_wp2_with fail
    go_quiet (fail)
    go_wp2
    go_ret
    exact ⟨rfl, (xaa.refl _ _).drawN _⟩
  obtain ⟨r, hr⟩ : ∃ r, rs[p]? = some r := ⟨_, List.getElem?_eq_getElem (by omega)⟩
  have e : pk rs ⟨p, d, false⟩ = r := by unfold pk; simp [List.getD_eq_getElem?_getD, hr]
  obtain ⟨b, off, rfl, hcells⟩ := hcc (by omega)
  have x0 := hcells p r hr 0 (by omega)
  simp only [Nat.mul_one, Nat.add_zero, encI] at x0
  have g1 : decide ((rs.length : Int) <= (p : Int)) = false := by simp; omega
  have g2 : decide (rs.length <= p) = false := by simpa using hp
  have g3 : (p : Int) < (rs.length : Int) := by omega
  have g4 : (0 : Int) <= (p : Int) := by omega
  rw [e]
  clear e hcells hcc hr
  go_enter func105, ntmps105
  go_wp2_with fail
  go_quiet (fail)
  go_wp2_with fail
  go_quiet (fail)
  go_wp2
  go_ret
  exact ⟨rfl, ((xaa.refl _ _).drawN _).drawN _⟩
theorem xlf {w : World} {pb : Nat} {rv : Value} {rs : List Int} {s : PS} (h : PaAt w pb rv rs s) : -1 <= pk rs s /\ pk rs s <= 1114111 := by
 unfold pk
 split
 · omega
 rw [List.getD_eq_getElem?_getD]
 cases hh : rs[s.pos]? with
 | none => simp
 | some r => have := h.rng r (List.mem_of_getElem? hh); simp; omega
theorem xaK {rs : List Int} {s : PS} (h : 0 <= pk rs s) : s.pos < rs.length /\ s.bad = false := by
 unfold pk at h
 cases hb : s.bad with
 | true => rw [hb] at h; simp at h
 | false =>
  refine ⟨?_, rfl⟩
  rw [hb] at h
  simp only [Bool.false_eq_true, if_false, List.getD_eq_getElem?_getD] at h
  rcases Nat.lt_or_ge s.pos rs.length with h1 | h1
  · exact h1
  rw [List.getElem?_eq_none h1] at h; simp at h
abbrev xam (pb : Nat) : Nat -> Prop := fun b => b = pb
theorem xbJ (w : World) (pb : Nat) (rv : Value) (rs : List Int) (s : PS) (h : PaAt w pb rv rs s) (hp : s.pos + 1 <= 1000000) :
 Calls prog 129 #[.pointer (some ⟨pb, 0, none⟩)] w fun e w' => e = .returned (.int .i64 (pk rs s)) /\ PaAt w' pb rv rs (nx rs s) /\ xaa (xam pb) w w' := by
 have HP := xa (xbW w pb rv rs s h)
 have H := xa h
 clear h
 have Hn : Hid (nx rs s = ⟨s.pos + 1, s.deep, s.bad || decide (pk rs s < 0)⟩) := rfl
 generalize nx rs s = s' at *
 generalize hr : pk rs s = r at *
 clear hr
 by_cases hr0 : r < 0
 · have E : Hid (s' = ⟨s.pos + 1, s.deep, true⟩) := xa (by rw [Hn.out]; simp [hr0])
   go_enter func129, ntmps129
   go_wp2_with fail
   refine HP.out.mono ?_
   rintro e w1 ⟨rfl, hk1⟩
   have h1 := H.out.keepsF hk1
   have c3 := h1.c3
   have f3 := h1.fr 3
   have h2 := h1.setBad true
   have c1 := h2.c1
   have f1 := h2.fr 1
   have h3 := h2.setPos (s.pos + 1) hp
   have hk3 := ((hk1.mono (T := xam pb) (fun _ _ e => e.elim)).set (p := ⟨pb, 3, none⟩) rfl (.bool true)).set (p := ⟨pb, 1, none⟩) rfl (.int .i64 ((s.pos + 1 : Nat) : Int))
   have H3 := xa h3
   have Hk3 := xa hk3
   simp only at c1
   clear h1 h2 h3 hk1 hk3
   go_wp2
   go_ret
   exact ⟨rfl, by rw [E.out]; exact H3.out, Hk3.out⟩
 have E : Hid (s' = ⟨s.pos + 1, s.deep, s.bad⟩) := xa (by rw [Hn.out]; simp [hr0])
 go_enter func129, ntmps129
 go_wp2_with fail
 refine HP.out.mono ?_
 rintro e w1 ⟨rfl, hk1⟩
 have h1 := H.out.keepsF hk1
 have c1 := h1.c1
 have f1 := h1.fr 1
 have h3 := h1.setPos (s.pos + 1) hp
 have hk3 := (hk1.mono (T := xam pb) (fun _ _ e => e.elim)).set (p := ⟨pb, 1, none⟩) rfl (.int .i64 ((s.pos + 1 : Nat) : Int))
 have H3 := xa h3
 have Hk3 := xa hk3
 clear h1 h3 hk1 hk3
 go_wp2
 go_ret
 exact ⟨rfl, by rw [E.out]; exact H3.out, Hk3.out⟩
def mem (l : LI) (r : Int) : Bool := l.any fun p => decide (p.1 <= r) && decide (r <= p.2)
theorem mem_iff (l : LI) (r : Int) : mem l r = true ↔ ∃ p ∈ l, p.1 <= r /\ r <= p.2 := by simp [mem]
theorem xdO (r : Int) : mem [] r = false := rfl
theorem mem_append (a b : LI) (r : Int) : mem (a ++ b) r = (mem a r || mem b r) := by simp [mem]
theorem xbt (p : Int × Int) (r : Int) : mem [p] r = (decide (p.1 <= r) && decide (r <= p.2)) := by simp [mem]
theorem mem_cons (p : Int × Int) (l : LI) (r : Int) : mem (p :: l) r = ((decide (p.1 <= r) && decide (r <= p.2)) || mem l r) := by simp [mem]
def xaZ (r : Int) : Bool := decide (0 <= r) && decide (r <= 1114111)
def has (l : LI) (r : Int) : Bool := mem l r && xaZ r
def Norm : LI -> Prop
 | [] => True
 | p :: l => 0 <= p.1 /\ p.1 <= p.2 /\ p.2 <= 1114111 /\ (∀ q ∈ l, p.2 + 2 <= q.1) /\ Norm l
theorem Norm.tail {p : Int × Int} {l : LI} (h : Norm (p :: l)) : Norm l := h.2.2.2.2
theorem Norm.rng {l : LI} (h : Norm l) : ∀ p ∈ l, 0 <= p.1 /\ p.1 <= p.2 /\ p.2 <= 1114111 := by
 induction l with
 | nil => simp
 | cons q l ih =>
  intro p hp
  rcases List.mem_cons.1 hp with rfl | hp
  · exact ⟨h.1, h.2.1, h.2.2.1⟩
  exact ih h.tail p hp
theorem xbs (l : LI) (q : Int × Int) (h : Norm l) (h1 : 0 <= q.1) (h2 : q.1 <= q.2) (h3 : q.2 <= 1114111) (hq : ∀ p ∈ l, p.2 + 2 <= q.1) : Norm (l ++ [q]) := by
 induction l with
 | nil => exact ⟨h1, h2, h3, by simp, trivial⟩
 | cons p l ih =>
  refine ⟨h.1, h.2.1, h.2.2.1, fun x hx => ?_, ih h.tail (fun p hp => hq p (List.mem_cons_of_mem _ hp))⟩
  rcases List.mem_append.1 hx with hx | hx
  · exact h.2.2.2.1 x hx
  simp at hx; subst hx; exact hq p List.mem_cons_self
theorem xdo (l : LI) (p : Int × Int) (h : Norm (l ++ [p])) : Norm l /\ 0 <= p.1 /\ p.1 <= p.2 /\ p.2 <= 1114111 /\ ∀ q ∈ l, q.2 + 2 <= p.1 := by
 induction l with
 | nil => exact ⟨trivial, h.1, h.2.1, h.2.2.1, by simp⟩
 | cons q l ih =>
  obtain ⟨a, b, c, d, e⟩ := ih h.tail
  refine ⟨⟨h.1, h.2.1, h.2.2.1, fun x hx => h.2.2.2.1 x (List.mem_append_left _ hx), a⟩, b, c, d, fun x hx => ?_⟩
  rcases List.mem_cons.1 hx with rfl | hx
  · exact h.2.2.2.1 p (by simp)
  exact e x hx
theorem xa3 : ∀ (a b : LI), Norm a -> Norm b -> (∀ r, mem a r = mem b r) -> a = b := by
 intro a
 induction a with
 | nil =>
  intro b _ hb h
  cases b with
  | nil => rfl
  | cons q b =>
   have := h q.1
   rw [xdO, mem_cons] at this
   have h2 := hb.2.1
   simp [h2] at this
 | cons p a ih =>
  intro b ha hb h
  cases b with
  | nil =>
   have := h p.1
   rw [xdO, mem_cons] at this
   have h2 := ha.2.1
   simp [h2] at this
  | cons q b =>
   have hlow : ∀ (p : Int × Int) (l : LI), Norm (p :: l) -> ∀ r, mem (p :: l) r = true -> p.1 <= r := by
    intro p l hn r hr
    obtain ⟨x, hx, h1, h2⟩ := (mem_iff _ r).1 hr
    rcases List.mem_cons.1 hx with rfl | hx
    · exact h1
    have := hn.2.2.2.1 x hx; have := hn.2.1; omega
   have hfst : ∀ (p : Int × Int) (l : LI), Norm (p :: l) -> ∀ r, p.1 <= r -> r <= p.2 -> mem (p :: l) r = true := by
    intro p l hn r h1 h2; rw [mem_cons]; simp [h1, h2]
   have hgap : ∀ (p : Int × Int) (l : LI), Norm (p :: l) -> mem (p :: l) (p.2 + 1) = false := by
    intro p l hn
    cases hm : mem (p :: l) (p.2 + 1)
    · rfl
    obtain ⟨x, hx, h1, h2⟩ := (mem_iff _ _).1 hm
    rcases List.mem_cons.1 hx with rfl | hx
    · omega
    have := hn.2.2.2.1 x hx; omega
   have ha2 := ha.2.1
   have hb2 := hb.2.1
   have e1 : p.1 = q.1 := by
    have h1 := hlow q b hb p.1 (by rw [<- h]; exact hfst p a ha p.1 (by omega) (by omega))
    have h2 := hlow p a ha q.1 (by rw [h]; exact hfst q b hb q.1 (by omega) (by omega))
    omega
   have e2 : p.2 = q.2 := by
    rcases Int.lt_trichotomy p.2 q.2 with hlt | he | hlt
    · have h1 := hgap p a ha
      rw [h, hfst q b hb (p.2 + 1) (by omega) (by omega)] at h1
      cases h1
    · exact he
    have h1 := hgap q b hb
    rw [<- h, hfst p a ha (q.2 + 1) (by omega) (by omega)] at h1
    cases h1
   have e : p = q := Prod.ext e1 e2
   subst e
   congr 1
   refine ih b ha.tail hb.tail fun r => ?_
   have hr := h r
   rw [mem_cons, mem_cons] at hr
   by_cases hin : p.1 <= r /\ r <= p.2
   · have hz : ∀ l, Norm (p :: l) -> mem l r = false := by
      intro l hn
      cases hm : mem l r
      · rfl
      obtain ⟨x, hx, h1, h2⟩ := (mem_iff _ _).1 hm
      have := hn.2.2.2.1 x hx; omega
     rw [hz a ha, hz b hb]
   have : (decide (p.1 <= r) && decide (r <= p.2)) = false := by simp; omega
   simpa [this] using hr
def chain : LI -> Prop
 | [] => True
 | [p] => 0 <= p.1 /\ p.1 <= p.2 /\ p.2 <= 1114111
 | p :: q :: l => 0 <= p.1 /\ p.1 <= p.2 /\ p.2 <= 1114111 /\ p.2 + 2 <= q.1 /\ chain (q :: l)
def sumR (l : LI) : Int := (l.map fun p => p.2 - p.1 + 1).sum
theorem xmM : sumR [] = 0 := rfl
theorem xeo (p : Int × Int) (l : LI) : sumR (p :: l) = p.2 - p.1 + 1 + sumR l := by simp [sumR]
def cnt (f : Int -> Bool) : Nat -> Int
 | 0 => 0
 | n + 1 => cnt f n + if f n then 1 else 0
theorem xhg (f g : Int -> Bool) (n : Nat) (h : ∀ r : Int, 0 <= r -> r < n -> f r = g r) : cnt f n = cnt g n := by
 induction n with
 | zero => rfl
 | succ n ih => simp only [cnt]; rw [ih (fun r h1 h2 => h r h1 (by omega)), h n (by omega) (by omega)]
theorem xkl (f g : Int -> Bool) (n : Nat) : cnt (fun r => f r || g r) n + cnt (fun r => f r && g r) n = cnt f n + cnt g n := by
 induction n with
 | zero => rfl
 | succ n ih =>
  simp only [cnt]
  by_cases hf : f n = true <;> by_cases hg : g n = true <;> simp [hf, hg] <;> omega
theorem xhf (n : Nat) : cnt (fun _ => false) n = 0 := by
 induction n with
 | zero => rfl
 | succ n ih => simp [cnt, ih]
theorem xl8 (a b : Int) (n : Nat) (ha : 0 <= a) (hab : a <= b + 1) (hb : b < n) : cnt (fun r => decide (a <= r) && decide (r <= b)) n = b - a + 1 := by
 have key : ∀ m : Nat, cnt (fun r => decide (a <= r) && decide (r <= b)) m = if (m : Int) <= a then 0 else if (m : Int) <= b + 1 then (m : Int) - a else b - a + 1 := by
  intro m
  induction m with
  | zero => simp [cnt]; omega
  | succ m ih =>
   simp only [cnt, ih]
   by_cases h1 : a <= (m : Int) <;> by_cases h2 : (m : Int) <= b <;> simp [h1, h2] <;> (repeat' split) <;> omega
 rw [key]
 split
 · omega
 split <;> omega
theorem xne (l : LI) (h : Norm l) : cnt (mem l) 1114112 = sumR l := by
 induction l with
 | nil => exact xhf _
 | cons p l ih =>
  rw [xeo, <- ih h.tail, <- xl8 p.1 p.2 1114112 h.1 (by have := h.2.1; omega) (by have := h.2.2.1; omega)]
  rw [<- xkl]
  have : cnt (fun r => (decide (p.1 <= r) && decide (r <= p.2)) && mem l r) 1114112 = 0 := by
   rw [<- xhf 1114112]
   refine xhg _ _ _ fun r _ _ => ?_
   by_cases hin : p.1 <= r /\ r <= p.2
   · cases hm : mem l r
     · simp
     obtain ⟨x, hx, h1, h2⟩ := (mem_iff _ _).1 hm
     have := h.2.2.2.1 x hx; omega
   have : (decide (p.1 <= r) && decide (r <= p.2)) = false := by simp; omega
   simp [this]
  rw [this, Int.add_zero]
  exact xhg _ _ _ fun r _ _ => mem_cons p l r
theorem xen (l : LI) (h : Norm l) : 0 <= sumR l /\ sumR l <= 1114112 := by
 rw [<- xne l h]
 have key : ∀ (f : Int -> Bool) (n : Nat), 0 <= cnt f n /\ cnt f n <= n := by
  intro f n
  induction n with
  | zero => simp [cnt]
  | succ n ih => simp only [cnt]; split <;> omega
 exact key _ _
def IsOf (rs out : LI) : Prop := Norm out /\ ∀ r, mem out r = has rs r
theorem IsOf.unique {rs a b : LI} (ha : IsOf rs a) (hb : IsOf rs b) : a = b := xa3 a b ha.1 hb.1 fun r => by rw [ha.2, hb.2]
def encR (p : Int × Int) (j : Nat) : Value := if j = 0 then .int .i64 p.1 else .int .i64 p.2
def RSl (w : World) (v : Value) (l : LI) : Prop := SlOf 2 encR w v l /\ ∀ p ∈ l, in64 p.1 /\ in64 p.2
theorem RSl.cells {w : World} {v : Value} {l : LI} (h : RSl w v l) : ∃ a cap, v = .slice a l.length cap /\ l.length <= 4611686018427387904 /\
 (0 < l.length -> ∃ b off, a = some ⟨b, off, none⟩ /\ ∀ i (p : Int × Int), l[i]? = some p -> w.cell? ⟨b, off + i * 2, none⟩ = some (.int .i64 p.1) /\ w.cell? ⟨b, off + i * 2 + 1, none⟩ = some (.int .i64 p.2) /\ in64 p.1 /\ in64 p.2) := by
 obtain ⟨⟨a, cap, rfl, ⟨hl, hln⟩, hl2, hc⟩, hr⟩ := h
 refine ⟨a, cap, rfl, hl2, fun h0 => ?_⟩
 obtain ⟨b, off, rfl, hcc⟩ := hc h0
 exact ⟨b, off, rfl, fun i p hp => ⟨hcc i p hp 0 (by omega), hcc i p hp 1 (by omega), hr p (List.mem_of_getElem? hp)⟩⟩
theorem xfp (l : LI) (v : Value) (r : Int) (w : World) (h : RSl w v l) :
 Calls prog 102 #[v, .int .i64 r] w fun e w' => e = .returned (.bool (has l r)) /\ w = w' := by
 obtain ⟨a, cap, rfl, hl, hc⟩ := h.cells
 have Hc := xa hc
 clear hc h
 go_enter func102, ntmps102
 go_wp2_with fail
 go_loop [5] (fun iv => ∃ i : Nat, iv = .int .i64 i /\ i <= l.length /\ has (l.take i) r = false) (fun iv => l.length - (intOf iv).toNat)
 case atStart => exact ⟨0, rfl, Nat.zero_le _, rfl⟩
 case round =>
  obtain ⟨i, rfl, hi, hno⟩ := hrel
  have Hno := xa hno
  clear hno
  by_cases hil : i < l.length
  · obtain ⟨b, off, rfl, hcc⟩ := Hc.out (by omega)
    obtain ⟨p, hp⟩ : ∃ p, l[i]? = some p := ⟨_, List.getElem?_eq_getElem hil⟩
    obtain ⟨c0, c1, _, _⟩ := hcc i p hp
    clear hcc
    have hsn : l.take (i + 1) = l.take i ++ [p] := by rw [List.take_add_one, hp]; rfl
    have Hp := xa hp
    have Hsn := xa hsn
    clear hp hsn
    by_cases h1 : p.1 <= r /\ r <= p.2 /\ 0 <= r /\ r <= 1114111
    · obtain ⟨a1, a2, a3, a4⟩ := h1
      go_wp2
      go_ret
      refine ⟨?_, rfl⟩
      have : has l r = true := by
       unfold has; rw [Bool.and_eq_true, mem_iff]
       exact ⟨⟨p, List.mem_of_getElem? Hp.out, a1, a2⟩, by simp [xaZ, a3, a4]⟩
      rw [this]; rfl
    have hgo : has (l.take (i + 1)) r = false := by
     rw [Hsn.out]; unfold has; rw [mem_append, xbt]
     have h0 := Hno.out
     unfold has at h0
     by_cases hin : p.1 <= r /\ r <= p.2
     · have : xaZ r = false := by simp [xaZ]; omega
       simp [this]
     have : (decide (p.1 <= r) && decide (r <= p.2)) = false := by simp; omega
     rw [this, Bool.or_false]; exact h0
    by_cases g1 : p.1 <= r
    · by_cases g2 : r <= p.2
      · by_cases g3 : 0 <= r
        · have g4 : 1114111 < r := by omega
          go_wp2_with fail
          go_round
          case rel => exact ⟨i + 1, by go_num, by omega, hgo⟩
          case measure => simp [intOf]; omega
        go_wp2_with fail
        go_round
        case rel => exact ⟨i + 1, by go_num, by omega, hgo⟩
        case measure => simp [intOf]; omega
      go_wp2_with fail
      go_round
      case rel => exact ⟨i + 1, by go_num, by omega, hgo⟩
      case measure => simp [intOf]; omega
    go_wp2_with fail
    go_round
    case rel => exact ⟨i + 1, by go_num, by omega, hgo⟩
    case measure => simp [intOf]; omega
  go_wp2
  go_ret
  have h0 := Hno.out
  rw [List.take_of_length_le (by omega)] at h0
  exact ⟨by rw [h0]; rfl, rfl⟩
theorem xd0 {α : Type} {l : List α} {i : Nat} {x : α} (h : l[i]? = some x) : l.take (i + 1) = l.take i ++ [x] := by rw [List.take_add_one, h]; rfl
inductive F where
 | nil : F
 | cons (op : Int) (set : LI) (mn mx : Int) (kids rest : F) : F
 deriving DecidableEq
structure T where
 op : Int
 set : LI
 mn : Int
 mx : Int
 kids : F
 deriving DecidableEq
def F.toL : F -> List T
 | .nil => []
 | .cons a b c d k r => ⟨a, b, c, d, k⟩ :: r.toL
def F.ofL : List T -> F
 | [] => .nil
 | t :: l => .cons t.op t.set t.mn t.mx t.kids (F.ofL l)
theorem F.of_to (f : F) : F.ofL f.toL = f := by
 induction f with
 | nil => rfl
 | cons a b c d k r ih1 ih2 => simp only [F.toL, F.ofL, ih2]
theorem F.to_of (l : List T) : (F.ofL l).toL = l := by
 induction l with
 | nil => rfl
 | cons t l ih => simp only [F.ofL, F.toL, ih]
structure NV where
 op : Int
 sv : Value
 mn : Int
 mx : Int
 kv : Value
def encN (v : NV) (j : Nat) : Value := if j = 0 then .int .i64 v.op else if j = 1 then v.sv else if j = 2 then .int .i64 v.mn else if j = 3 then .int .i64 v.mx else v.kv
def NV.val (v : NV) : Value := .agg #[.int .i64 v.op, v.sv, .int .i64 v.mn, .int .i64 v.mx, v.kv]
theorem xfG (v : NV) : (List.range 5).map (encN v) = [.int .i64 v.op, v.sv, .int .i64 v.mn, .int .i64 v.mx, v.kv] := rfl
def FAt (w : World) (P : Nat -> Prop) : F -> List NV -> Prop
 | .nil, vs => vs = []
 | .cons op set mn mx kids rest, vs => ∃ v vs', vs = v :: vs' /\ (v.op = op /\ v.mn = mn /\ v.mx = mx /\ in64 mn /\ in64 mx) /\ (RSl w v.sv set /\ (∀ b, v.sv.ownBlock = some b -> P b)) /\
  (∃ ks, (SlOf 5 encN w v.kv ks /\ (∀ b, v.kv.ownBlock = some b -> P b)) /\ FAt w P kids ks) /\ FAt w P rest vs'
structure TAt (w : World) (P : Nat -> Prop) (v : NV) (t : T) : Prop where
 op : v.op = t.op
 mn : v.mn = t.mn
 mx : v.mx = t.mx
 nn : in64 t.mn
 nx : in64 t.mx
 set : RSl w v.sv t.set
 sb : ∀ b, v.sv.ownBlock = some b -> P b
 kids : ∃ ks, SlOf 5 encN w v.kv ks /\ FAt w P t.kids ks
 kb : ∀ b, v.kv.ownBlock = some b -> P b
theorem FAt.cons_iff {w : World} {P : Nat -> Prop} {t : T} {l : List T} {vs : List NV} : FAt w P (F.ofL (t :: l)) vs ↔ ∃ v vs', vs = v :: vs' /\ TAt w P v t /\ FAt w P (F.ofL l) vs' := by
 constructor
 · rintro ⟨v, vs', rfl, ⟨h1, h2, h3, g1, g2⟩, ⟨h4, h5⟩, ⟨ks, ⟨h6, h7⟩, h8⟩, h9⟩
   exact ⟨v, vs', rfl, ⟨h1, h2, h3, g1, g2, h4, h5, ⟨ks, h6, h8⟩, h7⟩, h9⟩
 rintro ⟨v, vs', rfl, ⟨h1, h2, h3, g1, g2, h4, h5, ⟨ks, h6, h8⟩, h7⟩, h9⟩
 exact ⟨v, vs', rfl, ⟨h1, h2, h3, g1, g2⟩, ⟨h4, h5⟩, ⟨ks, ⟨h6, h7⟩, h8⟩, h9⟩
theorem RSl.keeps {S : Nat -> Prop} {w w' : World} {v : Value} {l : LI} (h : RSl w v l) (K : xaa S w w') (hs : ∀ b, v.ownBlock = some b -> ¬ S b) : RSl w' v l := ⟨h.1.keeps K hs, h.2⟩
theorem FAt.keepsTo {S P Q : Nat -> Prop} {w w' : World} (K : xaa S w w') (hs : ∀ b, P b -> ¬ S b) (hq : ∀ b, P b -> Q b) : ∀ {f : F} {vs : List NV}, FAt w P f vs -> FAt w' Q f vs := by
 intro f
 induction f with
 | nil => intro vs h; exact h
 | cons a b c d k r ih1 ih2 =>
  rintro vs ⟨v, vs', rfl, h1, ⟨h4, h5⟩, ⟨ks, ⟨h6, h7⟩, h8⟩, h9⟩
  exact ⟨v, vs', rfl, h1, ⟨h4.keeps K (fun b hb => hs b (h5 b hb)), fun b hb => hq b (h5 b hb)⟩, ⟨ks, ⟨h6.keeps K (fun b hb => hs b (h7 b hb)), fun b hb => hq b (h7 b hb)⟩, ih1 h8⟩, ih2 h9⟩
theorem TAt.keepsTo {S P Q : Nat -> Prop} {w w' : World} {v : NV} {t : T} (h : TAt w P v t) (K : xaa S w w') (hs : ∀ b, P b -> ¬ S b) (hq : ∀ b, P b -> Q b) : TAt w' Q v t := by
 obtain ⟨ks, h6, h8⟩ := h.kids
 exact ⟨h.op, h.mn, h.mx, h.nn, h.nx, h.set.keeps K (fun b hb => hs b (h.sb b hb)), fun b hb => hq b (h.sb b hb), ⟨ks, h6.keeps K (fun b hb => hs b (h.kb b hb)), h8.keepsTo K hs hq⟩, fun b hb => hq b (h.kb b hb)⟩
theorem FAt.len {w : World} {P : Nat -> Prop} : ∀ {l : List T} {vs : List NV}, FAt w P (F.ofL l) vs -> vs.length = l.length := by
 intro l
 induction l with
 | nil => intro vs h; rw [show vs = [] from h]; rfl
 | cons t l ih => intro vs h; obtain ⟨v, vs', rfl, _, h2⟩ := FAt.cons_iff.1 h; simp [ih h2]
theorem FAt.snoc {w : World} {P : Nat -> Prop} {t : T} {v : NV} : ∀ {l : List T} {vs : List NV}, FAt w P (F.ofL l) vs -> TAt w P v t -> FAt w P (F.ofL (l ++ [t])) (vs ++ [v]) := by
 intro l
 induction l with
 | nil => intro vs h ht; rw [show vs = [] from h]; exact FAt.cons_iff.2 ⟨v, [], rfl, ht, rfl⟩
 | cons u l ih =>
  intro vs h ht
  obtain ⟨v', vs', rfl, h1, h2⟩ := FAt.cons_iff.1 h
  exact FAt.cons_iff.2 ⟨v', vs' ++ [v], rfl, h1, ih h2 ht⟩
theorem FAt.get {w : World} {P : Nat -> Prop} : ∀ {l : List T} {vs : List NV} {i : Nat} {t : T}, FAt w P (F.ofL l) vs -> l[i]? = some t -> ∃ v, vs[i]? = some v /\ TAt w P v t := by
 intro l
 induction l with
 | nil => intro vs i t h hi; simp at hi
 | cons u l ih =>
  intro vs i t h hi
  obtain ⟨v', vs', rfl, h1, h2⟩ := FAt.cons_iff.1 h
  cases i with
  | zero => simp at hi; subst hi; exact ⟨v', rfl, h1⟩
  | succ i => simp at hi; obtain ⟨v, h3, h4⟩ := ih h2 hi; exact ⟨v, by simpa using h3, h4⟩
theorem xbU (w : World) (pb : Nat) (rv : Value) (rs : List Int) (s : PS) (r : Int) (h : PaAt w pb rv rs s) (hp : s.pos + 1 <= 1000000) :
 Calls prog 92 #[.pointer (some ⟨pb, 0, none⟩), .int .i64 r] w fun e w' => e = .returned (.bool (tkB rs r s)) /\ PaAt w' pb rv rs (tk rs r s) /\ xaa (xam pb) w w' := by
 have HP := xa (xbW w pb rv rs s h)
 have H := xa h
 clear h
 by_cases hr : pk rs s = r
 · have E : Hid (tk rs r s = ⟨s.pos + 1, s.deep, s.bad⟩) := xa (if_pos hr)
   have E2 : Hid (tkB rs r s = true) := xa (by unfold tkB; simpa using hr)
   rw [hr] at HP
   clear hr
   generalize tk rs r s = s' at *
   generalize tkB rs r s = q at *
   go_enter func92, ntmps92
   go_wp2_with fail
   refine HP.out.mono ?_
   rintro e w1 ⟨rfl, hk1⟩
   have h1 := H.out.keepsF hk1
   have c1 := h1.c1
   have f1 := h1.fr 1
   have h3 := h1.setPos (s.pos + 1) hp
   have hk3 := (hk1.mono (T := xam pb) (fun _ _ e => e.elim)).set (p := ⟨pb, 1, none⟩) rfl (.int .i64 ((s.pos + 1 : Nat) : Int))
   have H3 := xa h3
   have Hk3 := xa hk3
   clear h1 h3 hk1 hk3
   go_wp2
   go_ret
   exact ⟨by rw [E2.out]; rfl, by rw [E.out]; exact H3.out, Hk3.out⟩
 have E : Hid (tk rs r s = s) := xa (if_neg hr)
 have E2 : Hid (tkB rs r s = false) := xa (by unfold tkB; simpa using hr)
 have g1 : (pk rs s != r) = true := by simp only [bne_iff_ne, ne_eq]; exact hr
 clear hr
 generalize tk rs r s = s' at *
 generalize tkB rs r s = q at *
 generalize pk rs s = t at *
 go_enter func92, ntmps92
 go_wp2_with fail
 refine HP.out.mono ?_
 rintro e w1 ⟨rfl, hk1⟩
 have h1 := xa (H.out.keepsF hk1)
 go_wp2
 go_ret
 exact ⟨by rw [E2.out]; rfl, by rw [E.out]; exact h1.out, hk1.mono (fun _ _ e => e.elim)⟩
theorem xcL (w : World) (pb : Nat) (rv : Value) (rs : List Int) (s : PS) (r : Int) (h : PaAt w pb rv rs s) (hp : s.pos + 1 <= 1000000) :
 Calls prog 130 #[.pointer (some ⟨pb, 0, none⟩), .int .i64 r] w fun e w' => e = .returned (.tuple #[]) /\ PaAt w' pb rv rs (wt rs r s) /\ xaa (xam pb) w w' := by
 have HT := xa (xbU w pb rv rs s r h hp)
 clear h
 by_cases hr : pk rs s = r
 · have E : Hid (wt rs r s = tk rs r s) := xa (by unfold wt tk; rw [if_pos hr, if_pos hr])
   have E2 : tkB rs r s = true := by unfold tkB; simpa using hr
   rw [E2] at HT
   clear hr E2
   go_enter func130, ntmps130
   go_wp2_with fail
   refine HT.out.mono ?_
   rintro e w1 ⟨rfl, h1, hk1⟩
   have H1 := xa h1
   clear h1
   go_wp2
   go_end0
   exact ⟨rfl, by rw [E.out]; exact H1.out, hk1⟩
 have E : Hid (wt rs r s = ⟨s.pos, s.deep, true⟩) := xa (if_neg hr)
 have E2 : tkB rs r s = false := by unfold tkB; simpa using hr
 have E3 : tk rs r s = s := if_neg hr
 rw [E2, E3] at HT
 clear hr E2 E3
 go_enter func130, ntmps130
 go_wp2_with fail
 refine HT.out.mono ?_
 rintro e w1 ⟨rfl, h1, hk1⟩
 have c3 := h1.c3
 have f3 := h1.fr 3
 have H1 := xa (h1.setBad true)
 clear h1
 go_wp2
 go_end0
 exact ⟨rfl, by rw [E.out]; exact H1.out, hk1.set (p := ⟨pb, 3, none⟩) rfl _⟩
def dig (r : Int) : Bool := decide (48 <= r) && decide (r <= 57)
def numN (rs : List Int) (s : PS) : Int :=
 if dig (pk rs s) then (if dig (pk rs ⟨s.pos + 1, s.deep, s.bad⟩) then (pk rs s - 48) * 10 + pk rs ⟨s.pos + 1, s.deep, s.bad⟩ - 48 else pk rs s - 48) else 0
def numS (rs : List Int) (s : PS) : PS :=
 if dig (pk rs s) then (if dig (pk rs ⟨s.pos + 1, s.deep, s.bad⟩) then ⟨s.pos + 2, s.deep, s.bad || decide (50 < numN rs s)⟩ else ⟨s.pos + 1, s.deep, s.bad⟩) else ⟨s.pos, s.deep, true⟩
def NumR (pb : Nat) (rv : Value) (rs : List Int) (s : PS) (w : World) (nv iv : Value) (wr : World) : Prop :=
 ∃ (i : Nat) (n : Int) (s' : PS), iv = .int .i64 i /\ nv = .int .i64 n /\ PaAt wr pb rv rs s' /\ xaa (xam pb) w wr /\ 0 <= n /\ n <= 99 /\
  ((i = 0 /\ n = 0 /\ s' = s) \/ (i = 1 /\ dig (pk rs s) = true /\ n = pk rs s - 48 /\ n <= 9 /\ s' = ⟨s.pos + 1, s.deep, s.bad⟩) \/
   (i = 2 /\ dig (pk rs s) = true /\ dig (pk rs ⟨s.pos + 1, s.deep, s.bad⟩) = true /\ n = numN rs s /\ s' = ⟨s.pos + 2, s.deep, s.bad⟩))
theorem xcQ (w : World) (pb : Nat) (rv : Value) (rs : List Int) (s : PS) (h : PaAt w pb rv rs s) (hp : s.pos + 2 <= 1000000) :
 Calls prog 137 #[.pointer (some ⟨pb, 0, none⟩)] w fun e w' => e = .returned (.int .i64 (numN rs s)) /\ PaAt w' pb rv rs (numS rs s) /\ xaa (xam pb) w w' := by
 have H0 := xa h
 clear h
 go_enter func137, ntmps137
 go_wp2_with fail
 go_loopw [3, 6] (fun nv iv wr => NumR pb rv rs s w nv iv wr) (fun _ iv _ => 2 - (intOf iv).toNat)
 case atStart => exact ⟨0, 0, s, rfl, rfl, H0.out, xaa.refl _ _, by omega, by omega, Or.inl ⟨rfl, rfl, rfl⟩⟩
 case round =>
  obtain ⟨i, n, s', rfl, rfl, hA, hk, hn0, hn9, hc⟩ := hrel
  have hPk := xa (xbW wr pb rv rs s' hA)
  have hple := xlf hA
  have HA := xa hA
  have hsp : s'.pos + 1 <= 1000000 \/ i = 2 := by
   rcases hc with ⟨_, _, rfl⟩ | ⟨_, _, _, _, rfl⟩ | ⟨e, _⟩
   · left; omega
   · left; show s.pos + 1 + 1 <= 1000000; omega
   right; exact e
  clear hA
  by_cases hi2 : i = 2
  · subst hi2
    rcases hc with ⟨e, _⟩ | ⟨e, _⟩ | ⟨_, d0, d1, hN, hS⟩
    · omega
    · omega
    have hb : s.bad = false := (xaK (show 0 <= pk rs s by simp [dig] at d0; omega)).2
    have En : Hid (numN rs s = n) := xa hN.symm
    have Es : Hid (numS rs s = ⟨s.pos + 2, s.deep, decide (50 < n)⟩) := xa (by unfold numS; rw [if_pos d0, if_pos d1, <- hN, hb]; rfl)
    have c3 := HA.out.c3
    have f3 := HA.out.fr 3
    have hb' : s'.bad = false := by rw [hS]; exact hb
    rw [hb'] at c3
    have hSs : s'.pos = s.pos + 2 /\ s'.deep = s.deep := by rw [hS]; exact ⟨rfl, rfl⟩
    clear hN hS d0 d1 hPk hple hb hb'
    by_cases h50 : 50 < n
    · have g : decide (50 < n) = true := by simpa using h50
      have H1 := xa (HA.out.setBad true)
      have Es2 : Hid (numS rs s = ⟨s'.pos, s'.deep, true⟩) := xa (by rw [Es.out, g, hSs.1, hSs.2])
      clear Es hSs
      go_wp2
      go_ret
      exact ⟨by rw [En.out]; rfl, by rw [Es2.out]; exact H1.out, hk.set (p := ⟨pb, 3, none⟩) rfl _⟩
    have g : decide (50 < n) = false := by simpa using h50
    have H1 := xa (HA.out.setBad false)
    have Es2 : Hid (numS rs s = ⟨s'.pos, s'.deep, false⟩) := xa (by rw [Es.out, g, hSs.1, hSs.2])
    clear Es hSs
    go_wp2
    go_ret
    exact ⟨by rw [En.out]; rfl, by rw [Es2.out]; exact H1.out, hk.set (p := ⟨pb, 3, none⟩) rfl _⟩
  have hi : i < 2 := by omega
  have hsp' : s'.pos + 1 <= 1000000 := by omega
  clear hsp
  by_cases hd : dig (pk rs s') = true
  · have hd' : 48 <= pk rs s' /\ pk rs s' <= 57 := by simpa [dig] using hd
    have hb : s'.bad = false := (xaK (show 0 <= pk rs s' by omega)).2
    have hn9' : n <= 9 := by
     rcases hc with ⟨_, e, _⟩ | ⟨_, _, _, e, _⟩ | ⟨e, _⟩
     · omega
     · exact e
     omega
    have Hc := xa hc
    have Hd := xa hd
    have Hb := xa hb
    clear hc hd hb
    have Hpk : Hid (pk rs s' = pk rs s') := rfl
    generalize hr : pk rs s' = r at *
    have Hr := xa hr
    clear hr Hpk
    have g1 : decide (r < 48) = false := by simp; omega
    have g2 : decide ((57 : Int) < r) = false := by simp; omega
    obtain ⟨r1, r2⟩ := hd'
    go_wp2_with fail
    refine hPk.out.mono ?_
    rintro e w1 ⟨rfl, hk1⟩
    have h1 := HA.out.keepsF hk1
    have c1 := h1.c1
    have f1 := h1.fr 1
    have H3 := xa (h1.setPos (s'.pos + 1) hsp')
    have Hk3 := xa ((hk.trans (hk1.mono (T := xam pb) (fun _ _ e => e.elim))).set (p := ⟨pb, 1, none⟩) rfl (.int .i64 ((s'.pos + 1 : Nat) : Int)))
    clear h1 hk1 hPk
    go_wp2
    go_roundw
    case rel =>
     refine ⟨i + 1, n * 10 + r - 48, _, by go_num, rfl, H3.out, Hk3.out, by omega, by omega, ?_⟩
     rcases Hc.out with ⟨rfl, rfl, rfl⟩ | ⟨rfl, d0, hn, _, rfl⟩ | ⟨e, _⟩
     · right; left
       have hr := Hr.out
       refine ⟨rfl, by rw [hr]; exact Hd.out, by rw [hr]; omega, by omega, rfl⟩
     · right; right
       have hr := Hr.out
       refine ⟨rfl, d0, by rw [hr]; exact Hd.out, ?_, rfl⟩
       unfold numN
       rw [if_pos d0, if_pos (by rw [hr]; exact Hd.out), hr, hn]
     omega
    case measure => simp [intOf]; omega
  have hd' : pk rs s' < 48 \/ 57 < pk rs s' := by simp [dig] at hd; omega
  rcases hc with ⟨rfl, rfl, rfl⟩ | ⟨rfl, d0, hn, h9, hS⟩ | ⟨e, _⟩
  · have En : Hid (numN rs s' = 0) := xa (by unfold numN; rw [if_neg hd])
    have Es : Hid (numS rs s' = ⟨s'.pos, s'.deep, true⟩) := xa (by unfold numS; rw [if_neg hd])
    clear hd
    generalize pk rs s' = r at *
    obtain ⟨bad, hbad⟩ : ∃ b, s'.bad = b := ⟨_, rfl⟩
    have Hbad := xa hbad
    clear hbad
    by_cases hr48 : r < 48
    · have g1 : decide (r < 48) = true := by simpa using hr48
      clear hd'
      go_wp2_with fail
      refine hPk.out.mono ?_
      rintro e w1 ⟨rfl, hk1⟩
      have h1 := HA.out.keepsF hk1
      have c3 := h1.c3
      have f3 := h1.fr 3
      rw [Hbad.out] at c3
      have h2 := h1.setBad true
      have H3 := xa (h2.setBad true)
      have Hk3 := xa (((hk.trans (hk1.mono (T := xam pb) (fun _ _ e => e.elim))).set (p := ⟨pb, 3, none⟩) rfl (.bool true)).set (p := ⟨pb, 3, none⟩) rfl (.bool true))
      have d3 := h2.c3
      have e3 := h2.fr 3
      simp only at d3
      clear h1 h2 hk1 hPk
      cases bad
      all_goals
       go_wp2
       go_ret
       exact ⟨by rw [En.out]; rfl, by rw [Es.out]; exact H3.out, Hk3.out⟩
    have g1 : decide (r < 48) = false := by simpa using hr48
    have g2 : decide ((57 : Int) < r) = true := by simp; omega
    clear hd'
    go_wp2_with fail
    refine hPk.out.mono ?_
    rintro e w1 ⟨rfl, hk1⟩
    have h1 := HA.out.keepsF hk1
    have c3 := h1.c3
    have f3 := h1.fr 3
    rw [Hbad.out] at c3
    have h2 := h1.setBad true
    have H3 := xa (h2.setBad true)
    have Hk3 := xa (((hk.trans (hk1.mono (T := xam pb) (fun _ _ e => e.elim))).set (p := ⟨pb, 3, none⟩) rfl (.bool true)).set (p := ⟨pb, 3, none⟩) rfl (.bool true))
    have d3 := h2.c3
    have e3 := h2.fr 3
    simp only at d3
    clear h1 h2 hk1 hPk
    cases bad
    all_goals
     go_wp2
     go_ret
     exact ⟨by rw [En.out]; rfl, by rw [Es.out]; exact H3.out, Hk3.out⟩
  · have hb : s.bad = false := (xaK (show 0 <= pk rs s by simp [dig] at d0; omega)).2
    have hb' : s'.bad = false := by rw [hS]; exact hb
    have En : Hid (numN rs s = n) := xa (by unfold numN; rw [if_pos d0, if_neg (by rw [<- hS]; exact hd), hn])
    have Es : Hid (numS rs s = ⟨s'.pos, s'.deep, false⟩) := xa (by unfold numS; rw [if_pos d0, if_neg (by rw [<- hS]; exact hd), hS, hb])
    have Hb' := xa hb'
    have g50 : decide ((50 : Int) < n) = false := by simp; omega
    clear hd hS hb d0 hn hb'
    generalize pk rs s' = r at *
    by_cases hr48 : r < 48
    · have g1 : decide (r < 48) = true := by simpa using hr48
      clear hd'
      go_wp2_with fail
      refine hPk.out.mono ?_
      rintro e w1 ⟨rfl, hk1⟩
      have h1 := HA.out.keepsF hk1
      have c3 := h1.c3
      have f3 := h1.fr 3
      rw [Hb'.out] at c3
      have h2 := h1.setBad false
      have H3 := xa (h2.setBad false)
      have Hk3 := xa (((hk.trans (hk1.mono (T := xam pb) (fun _ _ e => e.elim))).set (p := ⟨pb, 3, none⟩) rfl (.bool false)).set (p := ⟨pb, 3, none⟩) rfl (.bool false))
      have d3 := h2.c3
      have e3 := h2.fr 3
      simp only at d3
      clear h1 h2 hk1 hPk
      go_wp2
      go_ret
      exact ⟨by rw [En.out]; rfl, by rw [Es.out]; exact H3.out, Hk3.out⟩
    have g1 : decide (r < 48) = false := by simpa using hr48
    have g2 : decide ((57 : Int) < r) = true := by simp; omega
    clear hd'
    go_wp2_with fail
    refine hPk.out.mono ?_
    rintro e w1 ⟨rfl, hk1⟩
    have h1 := HA.out.keepsF hk1
    have c3 := h1.c3
    have f3 := h1.fr 3
    rw [Hb'.out] at c3
    have h2 := h1.setBad false
    have H3 := xa (h2.setBad false)
    have Hk3 := xa (((hk.trans (hk1.mono (T := xam pb) (fun _ _ e => e.elim))).set (p := ⟨pb, 3, none⟩) rfl (.bool false)).set (p := ⟨pb, 3, none⟩) rfl (.bool false))
    have d3 := h2.c3
    have e3 := h2.fr 3
    simp only at d3
    clear h1 h2 hk1 hPk
    go_wp2
    go_ret
    exact ⟨by rw [En.out]; rfl, by rw [Es.out]; exact H3.out, Hk3.out⟩
  omega
theorem xbT {w : World} {pb : Nat} {rv : Value} {rs : List Int} {s : PS} (r : Int) (h : PaAt w pb rv rs s) (hr : pk rs s = r) (hr0 : 0 <= r) :
 Calls prog 92 #[.pointer (some ⟨pb, 0, none⟩), .int .i64 r] w fun e w' => e = .returned (.bool true) /\ PaAt w' pb rv rs ⟨s.pos + 1, s.deep, s.bad⟩ /\ xaa (xam pb) w w' := by
 have h1 := xbU w pb rv rs s r h (by have := (xaK (show 0 <= pk rs s by omega)).1; have := h.len; omega)
 rw [show tkB rs r s = true by unfold tkB; simpa using hr, show tk rs r s = ⟨s.pos + 1, s.deep, s.bad⟩ from if_pos hr] at h1
 exact h1
theorem xa7 {w : World} {pb : Nat} {rv : Value} {rs : List Int} {s : PS} (r : Int) (h : PaAt w pb rv rs s) (hr : ¬ pk rs s = r) (hp : s.pos + 1 <= 1000000) :
 Calls prog 92 #[.pointer (some ⟨pb, 0, none⟩), .int .i64 r] w fun e w' => e = .returned (.bool false) /\ PaAt w' pb rv rs s /\ xaa (xam pb) w w' := by
 have h1 := xbU w pb rv rs s r h hp
 rw [show tkB rs r s = false by unfold tkB; simpa using hr, show tk rs r s = s from if_neg hr] at h1
 exact h1
def brA (rs : List Int) (s : PS) : Int := numN rs s
def br3 (rs : List Int) (s : PS) : PS := ⟨(numS rs s).pos + 1, (numS rs s).deep, (numS rs s).bad⟩
def brB (rs : List Int) (s : PS) : Int := if pk rs (numS rs s) = 44 then (if pk rs (br3 rs s) = 125 then -1 else numN rs (br3 rs s)) else numN rs s
def brS (rs : List Int) (s : PS) : PS :=
 if pk rs (numS rs s) = 44 then
  (if pk rs (br3 rs s) = 125 then wt rs 125 (br3 rs s)
   else wt rs 125 ⟨(numS rs (br3 rs s)).pos, (numS rs (br3 rs s)).deep, (numS rs (br3 rs s)).bad || decide (numN rs (br3 rs s) < numN rs s)⟩)
 else wt rs 125 (numS rs s)
def cntV (rs : List Int) (s : PS) : Int × Int × Bool :=
 if pk rs s = 63 then (0, 1, true) else if pk rs s = 43 then (1, -1, true) else if pk rs s = 42 then (0, -1, true)
 else if pk rs s = 123 then (brA rs ⟨s.pos + 1, s.deep, s.bad⟩, brB rs ⟨s.pos + 1, s.deep, s.bad⟩, true) else (0, 0, false)
def cntS (rs : List Int) (s : PS) : PS :=
 if pk rs s = 63 \/ pk rs s = 43 \/ pk rs s = 42 then ⟨s.pos + 1, s.deep, s.bad⟩ else if pk rs s = 123 then brS rs ⟨s.pos + 1, s.deep, s.bad⟩ else s
theorem xiN (rs : List Int) (s : PS) : s.pos <= (numS rs s).pos /\ (numS rs s).pos <= s.pos + 2 := by
 unfold numS
 split
 · split
   · exact ⟨by show s.pos <= s.pos + 2; omega, Nat.le_refl _⟩
   exact ⟨by show s.pos <= s.pos + 1; omega, by show s.pos + 1 <= s.pos + 2; omega⟩
 exact ⟨Nat.le_refl _, by show s.pos <= s.pos + 2; omega⟩
theorem xhQ (rs : List Int) (s : PS) (h : ∀ r ∈ rs, 0 <= r /\ r <= 1114111) : numN rs s <= 1000000000 /\ -1000000000 <= numN rs s := by
 unfold numN
 split
 · rename_i h1
   split
   · rename_i h2
     simp [dig] at h1 h2
     omega
   simp [dig] at h1
   omega
 omega
theorem xjN (w : World) (pb : Nat) (rv : Value) (rs : List Int) (s : PS) (h : PaAt w pb rv rs s) (hp : s.pos + 10 <= 1000000) :
 Calls prog 120 #[.pointer (some ⟨pb, 0, none⟩)] w fun e w' => e = .returned (.tuple #[.int .i64 (cntV rs s).1, .int .i64 (cntV rs s).2.1, .bool (cntV rs s).2.2]) /\ PaAt w' pb rv rs (cntS rs s) /\ xaa (xam pb) w w' := by
 have H0 := xa h
 clear h
 by_cases h63 : pk rs s = 63
 · have Ev : Hid (cntV rs s = (0, 1, true)) := xa (if_pos h63)
   have Es : Hid (cntS rs s = ⟨s.pos + 1, s.deep, s.bad⟩) := xa (if_pos (Or.inl h63))
   have Hr := xa h63
   clear h63
   go_enter func120, ntmps120
   go_wp2_with fail
   refine (xbT 63 H0.out Hr.out (by omega)).mono ?_
   rintro e w1 ⟨rfl, h1, k1⟩
   have H1 := xa h1
   clear h1
   go_wp2_with fail
   go_ret3
   exact ⟨by rw [Ev.out]; rfl, by rw [Es.out]; exact H1.out, k1⟩
 by_cases h43 : pk rs s = 43
 · have Ev : Hid (cntV rs s = (1, -1, true)) := xa (by unfold cntV; rw [if_neg h63, if_pos h43])
   have Es : Hid (cntS rs s = ⟨s.pos + 1, s.deep, s.bad⟩) := xa (if_pos (Or.inr (Or.inl h43)))
   have Hr := xa h43
   have Hn := xa h63
   clear h43 h63
   go_enter func120, ntmps120
   go_wp2_with fail
   refine (xa7 63 H0.out Hn.out (by omega)).mono ?_
   rintro e w1 ⟨rfl, h1, k1⟩
   have H1 := xa h1
   clear h1
   go_wp2_with fail
   refine (xbT 43 H1.out Hr.out (by omega)).mono ?_
   rintro e w2 ⟨rfl, h2, k2⟩
   have H2 := xa h2
   clear h2
   go_wp2_with fail
   go_ret3
   exact ⟨by rw [Ev.out]; rfl, by rw [Es.out]; exact H2.out, k1.trans k2⟩
 by_cases h42 : pk rs s = 42
 · have Ev : Hid (cntV rs s = (0, -1, true)) := xa (by unfold cntV; rw [if_neg h63, if_neg h43, if_pos h42])
   have Es : Hid (cntS rs s = ⟨s.pos + 1, s.deep, s.bad⟩) := xa (if_pos (Or.inr (Or.inr h42)))
   have Hr := xa h42
   have Hn := xa h63
   have Hm := xa h43
   clear h43 h63 h42
   go_enter func120, ntmps120
   go_wp2_with fail
   refine (xa7 63 H0.out Hn.out (by omega)).mono ?_
   rintro e w1 ⟨rfl, h1, k1⟩
   have H1 := xa h1
   clear h1
   go_wp2_with fail
   refine (xa7 43 H1.out Hm.out (by omega)).mono ?_
   rintro e w2 ⟨rfl, h2, k2⟩
   have H2 := xa h2
   clear h2
   go_wp2_with fail
   refine (xbT 42 H2.out Hr.out (by omega)).mono ?_
   rintro e w3 ⟨rfl, h3, k3⟩
   have H3 := xa h3
   clear h3
   go_wp2_with fail
   go_ret3
   exact ⟨by rw [Ev.out]; rfl, by rw [Es.out]; exact H3.out, (k1.trans k2).trans k3⟩
 have Ha := xa h63
 have Hb := xa h43
 have Hc := xa h42
 by_cases h123 : pk rs s = 123
 · have Ev : Hid (cntV rs s = (brA rs ⟨s.pos + 1, s.deep, s.bad⟩, brB rs ⟨s.pos + 1, s.deep, s.bad⟩, true)) := xa (by unfold cntV; rw [if_neg h63, if_neg h43, if_neg h42, if_pos h123])
   have Es : Hid (cntS rs s = brS rs ⟨s.pos + 1, s.deep, s.bad⟩) := xa (by unfold cntS; rw [if_neg (by rintro (e | e | e); exact h63 e; exact h43 e; exact h42 e), if_pos h123])
   have Hd := xa h123
   clear h63 h43 h42 h123
   obtain ⟨q, hq⟩ : ∃ q : PS, (⟨s.pos + 1, s.deep, s.bad⟩ : PS) = q := ⟨_, rfl⟩
   have hqp : q.pos + 9 <= 1000000 := by rw [<- hq]; show s.pos + 1 + 9 <= 1000000; omega
   have hP := xiN rs q
   have Hq := xa hq
   rw [hq] at Ev Es
   clear hq
   have hnq : numN rs q <= 1000000000 /\ -1000000000 <= numN rs q := xhQ rs q H0.out.rng
   by_cases h44 : pk rs (numS rs q) = 44
   · have H44 := xa h44
     have hP3 := xiN rs (br3 rs q)
     have e3 : (br3 rs q).pos <= (numS rs q).pos + 1 := Nat.le_refl _
     have hn3 : numN rs (br3 rs q) <= 1000000000 /\ -1000000000 <= numN rs (br3 rs q) := xhQ rs _ H0.out.rng
     by_cases h125 : pk rs (br3 rs q) = 125
     · have Eb : Hid (brB rs q = -1) := xa (by unfold brB; rw [if_pos h44, if_pos h125])
       have Et : Hid (brS rs q = wt rs 125 (br3 rs q)) := xa (by unfold brS; rw [if_pos h44, if_pos h125])
       have H125 := xa h125
       clear h44 h125
       go_enter func120, ntmps120
       go_wp2_with fail
       refine (xa7 63 H0.out Ha.out (by omega)).mono ?_
       rintro e w1 ⟨rfl, h1, k1⟩
       have H1 := xa h1
       clear h1
       go_wp2_with fail
       refine (xa7 43 H1.out Hb.out (by omega)).mono ?_
       rintro e w2 ⟨rfl, h2, k2⟩
       have H2 := xa h2
       clear h2
       go_wp2_with fail
       refine (xa7 42 H2.out Hc.out (by omega)).mono ?_
       rintro e w3 ⟨rfl, h3, k3⟩
       have H3 := xa h3
       clear h3
       go_wp2_with fail
       refine (xbT 123 H3.out Hd.out (by omega)).mono ?_
       rintro e w4 ⟨rfl, h4, k4⟩
       rw [Hq.out] at h4
       have H4 := xa h4
       have K4 := xa (((k1.trans k2).trans k3).trans k4)
       clear h4 k1 k2 k3 k4
       go_wp2_with fail
       refine (xcQ _ _ _ _ q H4.out (by omega)).mono ?_
       rintro e w5 ⟨rfl, h5, k5⟩
       have H5 := xa h5
       clear h5
       go_wp2_with fail
       refine (xbT 44 H5.out H44.out (by omega)).mono ?_
       rintro e w6 ⟨rfl, h6, k6⟩
       have H6 : Hid (PaAt w6 pb rv rs (br3 rs q)) := xa h6
       clear h6
       go_wp2_with fail
       refine (xbW _ _ _ _ _ H6.out).mono ?_
       rintro e w7 ⟨rfl, k7⟩
       have H7 := xa (H6.out.keepsF k7)
       have K7 := xa (((K4.out.trans k5).trans k6).trans (k7.mono (T := xam pb) (fun _ _ e => e.elim)))
       clear k5 k6 k7
       rw [H125.out]
       go_wp2_with fail
       refine (xcL _ _ _ _ _ 125 H7.out (by omega)).mono ?_
       rintro e w8 ⟨rfl, h8, k8⟩
       have H8 := xa h8
       clear h8
       go_wp2_with fail
       go_ret3
       exact ⟨by rw [Ev.out, Eb.out]; rfl, by rw [Es.out, Et.out]; exact H8.out, K7.out.trans k8⟩
     have Eb : Hid (brB rs q = numN rs (br3 rs q)) := xa (by unfold brB; rw [if_pos h44, if_neg h125])
     have Et : Hid (brS rs q = wt rs 125 ⟨(numS rs (br3 rs q)).pos, (numS rs (br3 rs q)).deep, (numS rs (br3 rs q)).bad || decide (numN rs (br3 rs q) < numN rs q)⟩) := xa (by unfold brS; rw [if_pos h44, if_neg h125])
     have g125 : (pk rs (br3 rs q) != 125) = true := by simp only [bne_iff_ne, ne_eq]; exact h125
     clear h44 h125
     obtain ⟨bd, hbd⟩ : ∃ b, (numS rs (br3 rs q)).bad = b := ⟨_, rfl⟩
     have Hbd := xa hbd
     clear hbd
     generalize hlt : decide (numN rs (br3 rs q) < numN rs q) = lt at Et
     have Hlt := xa hlt
     clear hlt
     go_enter func120, ntmps120
     go_wp2_with fail
     refine (xa7 63 H0.out Ha.out (by omega)).mono ?_
     rintro e w1 ⟨rfl, h1, k1⟩
     have H1 := xa h1
     clear h1
     go_wp2_with fail
     refine (xa7 43 H1.out Hb.out (by omega)).mono ?_
     rintro e w2 ⟨rfl, h2, k2⟩
     have H2 := xa h2
     clear h2
     go_wp2_with fail
     refine (xa7 42 H2.out Hc.out (by omega)).mono ?_
     rintro e w3 ⟨rfl, h3, k3⟩
     have H3 := xa h3
     clear h3
     go_wp2_with fail
     refine (xbT 123 H3.out Hd.out (by omega)).mono ?_
     rintro e w4 ⟨rfl, h4, k4⟩
     rw [Hq.out] at h4
     have H4 := xa h4
     have K4 := xa (((k1.trans k2).trans k3).trans k4)
     clear h4 k1 k2 k3 k4
     go_wp2_with fail
     refine (xcQ _ _ _ _ q H4.out (by omega)).mono ?_
     rintro e w5 ⟨rfl, h5, k5⟩
     have H5 := xa h5
     clear h5
     go_wp2_with fail
     refine (xbT 44 H5.out H44.out (by omega)).mono ?_
     rintro e w6 ⟨rfl, h6, k6⟩
     have H6 : Hid (PaAt w6 pb rv rs (br3 rs q)) := xa h6
     clear h6
     go_wp2_with fail
     refine (xbW _ _ _ _ _ H6.out).mono ?_
     rintro e w7 ⟨rfl, k7⟩
     have H7 := xa (H6.out.keepsF k7)
     have K7 := xa (((K4.out.trans k5).trans k6).trans (k7.mono (T := xam pb) (fun _ _ e => e.elim)))
     clear k5 k6 k7
     go_wp2_with fail
     refine (xcQ _ _ _ _ (br3 rs q) H7.out (by omega)).mono ?_
     rintro e w8 ⟨rfl, h8, k8⟩
     have c3 := h8.c3
     have f3 := h8.fr 3
     rw [Hbd.out] at c3
     have H8 := xa (h8.setBad (bd || lt))
     have K8 := xa ((K7.out.trans k8).set (p := ⟨pb, 3, none⟩) rfl (.bool (bd || lt)))
     clear h8 k8
     generalize hna : numN rs q = na at *
     have Hna := xa hna
     clear hna
     generalize hnb : numN rs (br3 rs q) = nb at *
     have Hnb := xa hnb
     clear hnb
     have hlt := Hlt.out
     cases bd
     · cases lt
       · have hg : ¬ nb < na := by simpa using hlt
         clear Hlt
         go_wp2_with fail
         refine (xcL _ _ _ _ _ 125 H8.out (by show (numS rs (br3 rs q)).pos + 1 <= 1000000; omega)).mono ?_
         rintro e w9 ⟨rfl, h9, k9⟩
         have H9 := xa h9
         clear h9
         go_wp2_with fail
         go_ret3
         exact ⟨by rw [Ev.out, Eb.out]; unfold brA; rw [Hna.out]; rfl, by rw [Es.out, Et.out, Hbd.out]; exact H9.out, K8.out.trans k9⟩
       have hg : nb < na := by simpa using hlt
       clear Hlt
       go_wp2_with fail
       refine (xcL _ _ _ _ _ 125 H8.out (by show (numS rs (br3 rs q)).pos + 1 <= 1000000; omega)).mono ?_
       rintro e w9 ⟨rfl, h9, k9⟩
       have H9 := xa h9
       clear h9
       go_wp2_with fail
       go_ret3
       exact ⟨by rw [Ev.out, Eb.out]; unfold brA; rw [Hna.out]; rfl, by rw [Es.out, Et.out, Hbd.out]; exact H9.out, K8.out.trans k9⟩
     clear hlt Hlt
     go_wp2_with fail
     refine (xcL _ _ _ _ _ 125 H8.out (by show (numS rs (br3 rs q)).pos + 1 <= 1000000; omega)).mono ?_
     rintro e w9 ⟨rfl, h9, k9⟩
     have H9 := xa h9
     clear h9
     go_wp2_with fail
     go_ret3
     exact ⟨by rw [Ev.out, Eb.out]; unfold brA; rw [Hna.out]; rfl, by rw [Es.out, Et.out, Hbd.out]; exact H9.out, K8.out.trans k9⟩
   have H44 := xa h44
   have Eb : Hid (brB rs q = numN rs q) := xa (by unfold brB; rw [if_neg h44])
   have Et : Hid (brS rs q = wt rs 125 (numS rs q)) := xa (by unfold brS; rw [if_neg h44])
   clear h44
   go_enter func120, ntmps120
   go_wp2_with fail
   refine (xa7 63 H0.out Ha.out (by omega)).mono ?_
   rintro e w1 ⟨rfl, h1, k1⟩
   have H1 := xa h1
   clear h1
   go_wp2_with fail
   refine (xa7 43 H1.out Hb.out (by omega)).mono ?_
   rintro e w2 ⟨rfl, h2, k2⟩
   have H2 := xa h2
   clear h2
   go_wp2_with fail
   refine (xa7 42 H2.out Hc.out (by omega)).mono ?_
   rintro e w3 ⟨rfl, h3, k3⟩
   have H3 := xa h3
   clear h3
   go_wp2_with fail
   refine (xbT 123 H3.out Hd.out (by omega)).mono ?_
   rintro e w4 ⟨rfl, h4, k4⟩
   rw [Hq.out] at h4
   have H4 := xa h4
   have K4 := xa (((k1.trans k2).trans k3).trans k4)
   clear h4 k1 k2 k3 k4
   go_wp2_with fail
   refine (xcQ _ _ _ _ q H4.out (by omega)).mono ?_
   rintro e w5 ⟨rfl, h5, k5⟩
   have H5 := xa h5
   clear h5
   go_wp2_with fail
   refine (xa7 44 H5.out H44.out (by omega)).mono ?_
   rintro e w6 ⟨rfl, h6, k6⟩
   have H6 := xa h6
   clear h6
   go_wp2_with fail
   refine (xcL _ _ _ _ _ 125 H6.out (by omega)).mono ?_
   rintro e w8 ⟨rfl, h8, k8⟩
   have H8 := xa h8
   clear h8
   go_wp2_with fail
   go_ret3
   exact ⟨by rw [Ev.out, Eb.out]; rfl, by rw [Es.out, Et.out]; exact H8.out, ((K4.out.trans k5).trans k6).trans k8⟩
 have Ev : Hid (cntV rs s = (0, 0, false)) := xa (by unfold cntV; rw [if_neg h63, if_neg h43, if_neg h42, if_neg h123])
 have Es : Hid (cntS rs s = s) := xa (by unfold cntS; rw [if_neg (by rintro (e | e | e); exact h63 e; exact h43 e; exact h42 e), if_neg h123])
 have Hd := xa h123
 clear h63 h43 h42 h123
 go_enter func120, ntmps120
 go_wp2_with fail
 refine (xa7 63 H0.out Ha.out (by omega)).mono ?_
 rintro e w1 ⟨rfl, h1, k1⟩
 have H1 := xa h1
 clear h1
 go_wp2_with fail
 refine (xa7 43 H1.out Hb.out (by omega)).mono ?_
 rintro e w2 ⟨rfl, h2, k2⟩
 have H2 := xa h2
 clear h2
 go_wp2_with fail
 refine (xa7 42 H2.out Hc.out (by omega)).mono ?_
 rintro e w3 ⟨rfl, h3, k3⟩
 have H3 := xa h3
 clear h3
 go_wp2_with fail
 refine (xa7 123 H3.out Hd.out (by omega)).mono ?_
 rintro e w4 ⟨rfl, h4, k4⟩
 have H4 := xa h4
 clear h4
 go_wp2_with fail
 go_ret3
 exact ⟨by rw [Ev.out]; rfl, by rw [Es.out]; exact H4.out, ((k1.trans k2).trans k3).trans k4⟩
section
open Go.Shelf Go.Lib Go.Sort
def xhb (x : Int × Int) : List Value := [.int .i64 x.1, .int .i64 x.2]
theorem xeR (x : Int) (w : World) : Calls prog 123 #[.int .i64 x] w fun e w' => e = .returned (.bool false) /\ w = w' := by
 have h : (x != x) = false := by simp
 go_enter func123, ntmps123
 go_wp2
 go_ret
 exact ⟨rfl, rfl⟩
def cmpI (x y : Int) : Int := if x < y then -1 else if y < x then 1 else 0
theorem xh9 (x y : Int) (w : World) : Calls prog 112 #[.int .i64 x, .int .i64 y] w fun e w' => e = .returned (.int .i64 (cmpI x y)) /\ w = w' := by
 by_cases h1 : x < y
 · have HV := xa (show cmpI x y = -1 from if_pos h1)
   go_enter func112, ntmps112
   go_wp2_with (go_at_call 123; refine (xeR _ _).mono ?_; rintro e w' ⟨rfl, rfl⟩)
   go_ret
   exact ⟨by rw [HV.out]; rfl, rfl⟩
 by_cases h2 : y < x
 · have HV := xa (show cmpI x y = 1 by unfold cmpI; rw [if_neg h1, if_pos h2])
   go_enter func112, ntmps112
   go_wp2_with (go_at_call 123; refine (xeR _ _).mono ?_; rintro e w' ⟨rfl, rfl⟩)
   go_ret
   exact ⟨by rw [HV.out]; rfl, rfl⟩
 have HV := xa (show cmpI x y = 0 by unfold cmpI; rw [if_neg h1, if_neg h2])
 go_enter func112, ntmps112
 go_wp2_with (go_at_call 123; refine (xeR _ _).mono ?_; rintro e w' ⟨rfl, rfl⟩)
 go_ret
 exact ⟨by rw [HV.out]; rfl, rfl⟩
def xi (x y : Int × Int) : Int := cmpI x.1 y.1
theorem xl9 (x y : Int × Int) (W : World) : Calls prog 111 #[.agg #[.int .i64 x.1, .int .i64 x.2], .agg #[.int .i64 y.1, .int .i64 y.2]] W fun e w' => e = .returned (.int .i64 (xi x y)) /\ ∃ q os', w' = grow (W.drewN q) os' := by
 go_enter func111, ntmps111
 go_wp2_with fail
 refine (xh9 _ _ _).mono ?_
 rintro e w' ⟨rfl, rfl⟩
 go_wp2
 go_ret
 exact ⟨rfl, 0, _, by rw [alloc_eq_grow, alloc_eq_grow, grow_grow]; rfl⟩
theorem swoLo : SWO (ltOf xi) := by
 have key : ∀ x y : Int × Int, ltOf xi x y = decide (x.1 < y.1) := by
  intro x y
  unfold ltOf xi cmpI
  by_cases h1 : x.1 < y.1
  · simp [h1]
  by_cases h2 : y.1 < x.1 <;> simp [h1, h2]
 exact ⟨fun x => by rw [key]; simp, fun x y z h1 h2 => by rw [key] at *; simp at *; omega, fun x y z h1 h2 => by rw [key] at *; simp at *; omega⟩
theorem ltLo (x y : Int × Int) : ltOf xi x y = decide (x.1 < y.1) := by
 unfold ltOf xi cmpI
 by_cases h1 : x.1 < y.1
 · simp [h1]
 by_cases h2 : y.1 < x.1 <;> simp [h1, h2]
theorem xeP {α : Type} [Inhabited α] (enc : α -> List Value) (k : Nat) (w : World) (blk off n : Nat) (d : Array α) (os : Array Obj) : xaa (fun b => b = blk) w (sortWorldK enc k w blk off n d os) := by
 unfold sortWorldK grow putRowK putRow mapBlock
 refine ⟨rfl, rfl, rfl, ?_, fun j hj hs => ?_⟩
 · show w.heap.size <= ((w.heap.modify blk _) ++ os).size
   simp
 show ((w.heap.modify blk _) ++ os)[j]? = _
 rw [Array.getElem?_append_left (by simpa using hj), Array.getElem?_modify, if_neg (fun e => hs e.symm)]
theorem xmN (l : LI) (v : Value) (base : Nat) (w : World) (h : w.ownsRow base 180 2 v l.length (cellsOf 2 encR l)) (hl : l.length < 1000000) :
 Calls prog 110 #[v, .func (.func 111) #[] #[]] w fun e w' => e = .returned (.tuple #[]) /\
  ∃ l', l'.Perm l /\ l'.Pairwise (fun a b => a.1 <= b.1) /\ SlOf 2 encR w' v l' /\ xaa (fun b => v.ownBlock = some b) w w' := by
 rcases h.2 with ⟨rfl, h0⟩ | ⟨g, cap, cur, rfl, hg, hh, hn, hcap, _⟩
 · have hl0 : l = [] := List.length_eq_zero_iff.1 h0
   subst hl0
   have hc := AnyF.slices_SortFunc_none Tryz.sortR none 0 (.func (.func 111) #[] #[]) w
   change Calls prog 110 _ _ _ at hc
   refine hc.mono ?_
   rintro e w' ⟨rfl, rfl⟩
   exact ⟨rfl, [], List.Perm.refl _, List.Pairwise.nil, SlOf.nil _ _ _, xaa.refl _ _⟩
 have eg : ∀ args w, (callFunc 111 args).run prog w = .ok (.enter 111 args) w := enters_of func111 (by kernel_rfl) rfl
 have hcell := h.cellAt
 have hfz := h.frozenAt
 have hH : HoldsK xhb 2 w g 0 l.toArray := by
  intro j hj
  rw [size_flatK] at hj
  have hj' : j < l.length * 2 := by simpa using hj
  refine ⟨?_, hfz _⟩
  rw [get_flatK _ _ _ _ hj, Nat.zero_add, hcell j hj']
  obtain ⟨x, hx⟩ : ∃ x, l[j / 2]? = some x := ⟨_, List.getElem?_eq_getElem (by omega)⟩
  have h1 := xaI 2 encR l (j / 2) x hx (j % 2) (by omega)
  rw [show j / 2 * 2 + j % 2 = j by omega] at h1
  rw [h1]
  have h2 : l.toArray[j / 2]! = x := by
   rw [getElem!_def]; simp [hx]
  rw [h2]
  have : j % 2 = 0 \/ j % 2 = 1 := by omega
  rcases this with e | e <;> simp [e, encR, xhb]
 have hc := AnyQ.slices_SortFunc Tryz.sortR 2 Tryz.isAgg180 Tryz.sizeOf180 xhb (fun _ => rfl) (fun x v hv => by simp [xhb] at hv; rcases hv with rfl | rfl <;> rfl) xi swoLo 111 #[] g 0 cap l.toArray w eg (fun _ _ _ _ x y => xl9 x y _) hH (Array.getElem?_eq_some_iff.1 hh).1 (by simp; omega)
 change Calls prog 110 _ _ _ at hc
 simp only [List.size_toArray] at hc
 refine hc.mono ?_
 rintro e w' ⟨rfl, d', n, os, hp, hs, rfl⟩
 have hsz : d'.size = l.length := by simpa using hp.1
 have hHs : HoldsK xhb 2 (sortWorldK xhb 2 w g 0 n d' os) g 0 d' := holdsK_sortWorldK xhb 2 w g 0 n l.toArray d' os (Array.getElem?_eq_some_iff.1 hh).1 hH (by simpa using hp.1)
 refine ⟨rfl, d'.toList, ?_, ?_, ⟨some ⟨g, 0, none⟩, cap, by simp [hsz], by simp; omega, by simp; omega, fun _ => ⟨g, 0, rfl, fun i x hx j hj => ?_⟩⟩, (xeP xhb 2 w g 0 n d' os).mono (fun b _ hb => by subst hb; rfl)⟩
 · have h3 := hp.2.2
   rw [show d'.extract 0 l.length = d' by rw [<- hsz]; simp] at h3
   rw [show l.toArray.extract 0 l.length = l.toArray by rw [show l.length = l.toArray.size by simp]; simp] at h3
   simpa using h3
 · rw [List.pairwise_iff_getElem]
   intro i j hi hj hij
   have h4 := hs i j (Nat.zero_le _) hij (by simpa [hsz] using hj)
   rw [ltLo] at h4
   rw [getElem!_pos d' i (by simpa using hi), getElem!_pos d' j (by simpa using hj)] at h4
   simp at h4
   simpa using h4
 have hi : i < d'.size := by
  rcases Nat.lt_or_ge i d'.size with h5 | h5
  · exact h5
  rw [List.getElem?_eq_none (by simpa using h5)] at hx; cases hx
 have h6 := (hHs.cell hi hj).1
 rw [h6]
 have h7 : d'[i]! = x := by
  rw [getElem!_pos d' i hi]
  rw [Array.getElem?_toList, Array.getElem?_eq_getElem hi] at hx
  exact Option.some.inj hx
 rw [h7]
 have : j = 0 \/ j = 1 := by omega
 rcases this with rfl | rfl <;> rfl
end
def xa9 (p : Int × Int) : Int × Int := (max p.1 0, min p.2 1114111)
def xcD (l : LI) : LI := (l.map xa9).filter fun p => decide (p.1 <= p.2)
theorem xib (l : LI) (p : Int × Int) : xcD (l ++ [p]) = xcD l ++ (if (xa9 p).1 <= (xa9 p).2 then [xa9 p] else []) := by
 unfold xcD
 rw [List.map_append, List.filter_append]
 congr 1
 by_cases h : (xa9 p).1 <= (xa9 p).2 <;> simp [h]
theorem xdA (l : LI) : (xcD l).length <= l.length := by
 unfold xcD; have := List.length_filter_le (fun p => decide (p.1 <= p.2)) (l.map xa9); simpa using this
theorem xe0 (l : LI) : ∀ p ∈ xcD l, 0 <= p.1 /\ p.1 <= p.2 /\ p.2 <= 1114111 := by
 intro p hp
 have h := List.mem_filter.1 hp
 obtain ⟨q, hq, rfl⟩ := List.mem_map.1 h.1
 have := of_decide_eq_true h.2
 refine ⟨?_, this, ?_⟩ <;> unfold xa9 <;> simp only <;> omega
theorem xko (l : LI) (r : Int) : mem (xcD l) r = has l r := by
 rw [Bool.eq_iff_iff]
 unfold has
 rw [mem_iff, Bool.and_eq_true, mem_iff]
 constructor
 · rintro ⟨p, hp, h1, h2⟩
   have h := List.mem_filter.1 hp
   obtain ⟨q, hq, rfl⟩ := List.mem_map.1 h.1
   unfold xa9 at h1 h2
   simp only at h1 h2
   exact ⟨⟨q, hq, by omega, by omega⟩, by simp [xaZ]; omega⟩
 rintro ⟨⟨q, hq, h1, h2⟩, h3⟩
 simp [xaZ] at h3
 refine ⟨xa9 q, List.mem_filter.2 ⟨List.mem_map.2 ⟨q, hq, rfl⟩, ?_⟩, ?_, ?_⟩ <;> unfold xa9 <;> simp only
 · rw [decide_eq_true_eq]; omega
 · omega
 omega
def xcx (out : LI) (x : Int × Int) : LI :=
 match out.getLast? with
 | none => out ++ [x]
 | some q => if x.1 <= q.2 + 1 then out.dropLast ++ [(q.1, max q.2 x.2)] else out ++ [x]
theorem xeM (x : Int × Int) : xcx [] x = [x] := rfl
theorem xdN (l : LI) (q x : Int × Int) (h : x.1 <= q.2 + 1) : xcx (l ++ [q]) x = l ++ [(q.1, max q.2 x.2)] := by simp [xcx, h]
theorem xdM (l : LI) (q x : Int × Int) (h : ¬ x.1 <= q.2 + 1) : xcx (l ++ [q]) x = l ++ [q] ++ [x] := by simp [xcx, h]
theorem xgP (l : LI) (x : Int × Int) : (xcx l x).length <= l.length + 1 := by
 rcases List.eq_nil_or_concat l with rfl | ⟨m, q, rfl⟩
 · simp [xeM]
 rw [List.concat_eq_append]
 by_cases h : x.1 <= q.2 + 1
 · rw [xdN m q x h]; simp
 rw [xdM m q x h]; simp
def xbF (l : LI) : LI := l.foldl xcx []
theorem xhU (l : LI) (x : Int × Int) : xbF (l ++ [x]) = xcx (xbF l) x := by simp [xbF]
theorem xdr (l : LI) : (xbF l).length <= l.length := by
 have key : ∀ (m out : LI), (m.foldl xcx out).length <= out.length + m.length := by
  intro m
  induction m with
  | nil => intro out; simp
  | cons x m ih => intro out; have h1 := ih (xcx out x); have h2 := xgP out x; simp only [List.foldl_cons, List.length_cons]; omega
 simpa [xbF] using key l []
theorem xnl (out : LI) (x : Int × Int) (h : Norm out) (hx : 0 <= x.1 /\ x.1 <= x.2 /\ x.2 <= 1114111) (hle : ∀ p ∈ out, p.1 <= x.1) :
 Norm (xcx out x) /\ (∀ r, mem (xcx out x) r = (mem out r || (decide (x.1 <= r) && decide (r <= x.2)))) /\ ∀ p ∈ xcx out x, p.1 <= x.1 := by
 rcases List.eq_nil_or_concat out with rfl | ⟨m, q, rfl⟩
 · rw [xeM]
   exact ⟨⟨hx.1, hx.2.1, hx.2.2, by simp, trivial⟩, fun r => by rw [xbt, xdO, Bool.false_or], by simp⟩
 rw [List.concat_eq_append] at h hle ⊢
 obtain ⟨hm, q0, q1, q2, q3⟩ := xdo m q h
 have hq := hle q (by simp)
 by_cases hj : x.1 <= q.2 + 1
 · rw [xdN m q x hj]
   refine ⟨xbs m _ hm q0 (by simp only; omega) (by simp only; omega) q3, fun r => ?_, ?_⟩
   · rw [mem_append, mem_append, xbt, xbt, Bool.or_assoc]
     congr 1
     rw [Bool.eq_iff_iff]; simp only [Bool.and_eq_true, Bool.or_eq_true, decide_eq_true_eq]; omega
   intro p hp
   rcases List.mem_append.1 hp with hp | hp
   · exact hle p (List.mem_append_left _ hp)
   simp at hp; subst hp; exact hq
 rw [xdM m q x hj]
 refine ⟨xbs (m ++ [q]) x h hx.1 hx.2.1 hx.2.2 ?_, fun r => by rw [mem_append (m ++ [q]), xbt], ?_⟩
 · intro p hp
   rcases List.mem_append.1 hp with hp | hp
   · have := q3 p hp; omega
   simp at hp; subst hp; omega
 intro p hp
 rcases List.mem_append.1 hp with hp | hp
 · exact hle p hp
 simp at hp; subst hp; exact Int.le_refl _
theorem xgS (l : LI) (hg : ∀ p ∈ l, 0 <= p.1 /\ p.1 <= p.2 /\ p.2 <= 1114111) (hs : l.Pairwise (fun a b => a.1 <= b.1)) :
 Norm (xbF l) /\ ∀ r, mem (xbF l) r = mem l r := by
 have key : ∀ (m out done : LI), Norm out -> (∀ r, mem out r = mem done r) -> (∀ p ∈ out, ∀ x ∈ m, p.1 <= x.1) -> (∀ p ∈ m, 0 <= p.1 /\ p.1 <= p.2 /\ p.2 <= 1114111) -> m.Pairwise (fun a b => a.1 <= b.1) ->
  Norm (m.foldl xcx out) /\ ∀ r, mem (m.foldl xcx out) r = mem (done ++ m) r := by
  intro m
  induction m with
  | nil => intro out done hn hm _ _ _; exact ⟨hn, fun r => by simpa using hm r⟩
  | cons x m ih =>
   intro out done hn hm hle hgo hpw
   obtain ⟨a, b, c⟩ := xnl out x hn (hgo x List.mem_cons_self) (fun p hp => hle p hp x List.mem_cons_self)
   have hpw' := List.pairwise_cons.1 hpw
   have := ih (xcx out x) (done ++ [x]) a (fun r => by rw [b, mem_append, xbt, hm]) (fun p hp y hy => Int.le_trans (c p hp) (hpw'.1 y hy)) (fun p hp => hgo p (List.mem_cons_of_mem _ hp)) hpw'.2
   refine ⟨this.1, fun r => ?_⟩
   have h2 := this.2 r
   simp only [List.foldl_cons]
   rw [h2]; simp
 have := key l [] [] trivial (fun _ => rfl) (by simp) hg hs
 exact ⟨this.1, fun r => by have := this.2 r; simpa [xbF] using this⟩
theorem xnn {a b : LI} (h : a.Perm b) (r : Int) : mem a r = mem b r := by
 rw [Bool.eq_iff_iff, mem_iff, mem_iff]
 exact ⟨fun ⟨p, hp, hr⟩ => ⟨p, h.mem_iff.1 hp, hr⟩, fun ⟨p, hp, hr⟩ => ⟨p, h.mem_iff.2 hp, hr⟩⟩
theorem of_ok (rs l : LI) (hp : l.Perm (xcD rs)) (hs : l.Pairwise (fun a b => a.1 <= b.1)) : IsOf rs (xbF l) := by
 have h := xgS l (fun p hp' => xe0 rs p (hp.mem_iff.1 hp')) hs
 exact ⟨h.1, fun r => by rw [h.2, xnn hp, xko]⟩
theorem xf9 : (prog.info? 3).map (fun i => (i.zero, i.size, i.bytes)) = some (some (.int .i64 0), 1, 8) := by kernel_rfl
theorem own_ne {w : World} {base : Nat} {e : TypeId} {v : Value} {n : Nat} {xs : List Value} (h : w.ownsRow base e 1 v n xs) (h3 : 3 <= n) {b : Nat} {cs : Array Value} {T : TypeId} (hb : w.heap[b]? = some (.cells cs T (0, 0))) (hcs : cs.size = 2) : ∀ g, v.ownBlock = some g -> g ≠ b := by
 rintro g hg rfl
 rcases h.2 with ⟨rfl, _⟩ | ⟨g', cap, cur, rfl, _, hh, hn, _, hsz, _⟩
 · simp [Value.ownBlock] at hg
 simp [Value.ownBlock] at hg
 subst hg
 rw [hb] at hh
 simp at hh
 obtain ⟨⟨rfl, _⟩, _⟩ := hh
 omega
theorem xaM {w : World} {base : Nat} {e : TypeId} {size : Nat} {v : Value} {n : Nat} {xs : List Value} (h : w.ownsRow base e size v n xs) : ∀ g, v.ownBlock = some g -> g < w.heap.size := by
 rintro g hg
 rcases h.2 with ⟨rfl, _⟩ | ⟨g', cap, cur, rfl, _, hh, _⟩
 · simp [Value.ownBlock] at hg
 simp [Value.ownBlock] at hg; subst hg; exact (Array.getElem?_eq_some_iff.1 hh).1
theorem xag {S : Nat -> Prop} {w w' : World} {base : Nat} {e : TypeId} {size : Nat} {v : Value} {n : Nat} {xs : List Value} (h : w.ownsRow base e size v n xs) (K : xaa S w w') (hs : ∀ b, v.ownBlock = some b -> ¬ S b) : w'.ownsRow base e size v n xs := by
 refine ⟨h.1, ?_⟩
 rcases h.2 with h0 | ⟨g, cap, cur, rfl, hg, hh, hr⟩
 · exact Or.inl h0
 exact Or.inr ⟨g, cap, cur, rfl, hg, K.heap hh (hs g rfl), hr⟩
theorem xaO : (prog.info? 180).map (fun i => (i.zero, i.size, i.bytes)) = some (some (.agg #[.int .i64 0, .int .i64 0]), 2, 16) := by kernel_rfl
def ROwn (w0 w : World) (v : Value) (l : LI) : Prop := w.ownsRow w0.heap.size 180 2 v l.length (cellsOf 2 encR l) /\ KF w0 w
theorem xcG (w : World) (l : List Value) (T : TypeId) (n : Nat) (hn : w.heap.size = n) : ∀ (j : Nat) (u : Value), l[j]? = some u -> (w.alloc (.cells l.toArray T)).cell? ((⟨n, 0, none⟩ : Addr).add j) = some u := by
 subst hn; exact xaq w l T
theorem xbA {w : World} {base : Nat} {e : TypeId} {size : Nat} {v : Value} {n : Nat} {xs : List Value} (h : w.ownsRow base e size v n xs) (hn : 0 < n) : ∃ g cap, v = .slice (some ⟨g, 0, none⟩) n cap /\ base <= g /\ g < w.heap.size := by
 rcases h.2 with ⟨_, rfl⟩ | ⟨g, cap, cur, rfl, hg, hh, _⟩
 · omega
 exact ⟨g, cap, rfl, hg, (Array.getElem?_eq_some_iff.1 hh).1⟩
theorem xiu (m : LI) (q : Int × Int) (z : Int) : (cellsOf 2 encR (m ++ [q])).set (m.length * 2 + 1) (.int .i64 z) = cellsOf 2 encR (m ++ [(q.1, z)]) := by
 rw [xah, xah, List.set_append_right _ _ (by rw [xai]; omega), xai]
 congr 1
 rw [show m.length * 2 + 1 - m.length * 2 = 1 by omega]
 rfl
def Of2 (w0 : World) (l : LI) (v i : Value) (wr : World) : Prop := ∃ k : Nat, i = .int .i64 k /\ k <= l.length /\ ROwn w0 wr v (xbF (l.take k))
theorem xak {w : World} {base base' : Nat} {e : TypeId} {size : Nat} {v : Value} {n : Nat} {xs : List Value} (h : w.ownsRow base' e size v n xs) (hb : base <= base') : w.ownsRow base e size v n xs := by
 obtain ⟨h1, h2⟩ := h
 refine ⟨h1, ?_⟩
 rcases h2 with h2 | ⟨g, cap, cur, hv, hg, r⟩
 · exact Or.inl h2
 exact Or.inr ⟨g, cap, cur, hv, by omega, r⟩
def Of1 (w0 : World) (rs : LI) (v i : Value) (wr : World) : Prop := ∃ k : Nat, i = .int .i64 k /\ k <= rs.length /\ ROwn w0 wr v (xcD (rs.take k))
theorem xc0 (rs : LI) (v : Value) (w : World) (h : RSl w v rs) (hlen : rs.length <= 100000) :
 Calls prog 97 #[v] w fun e w' => ∃ u out, e = .returned u /\ IsOf rs out /\ ROwn w w' u out /\ out.length <= rs.length := by
 obtain ⟨a, cap, rfl, hl, hc⟩ := h.cells
 have Hc := xa hc
 clear hc h
 obtain ⟨i0, hi, hz0, hz1, hz2⟩ := info_parts xaO
 go_enter func97, ntmps97
 go_wp2_with fail
 go_loopw [3, 12] (fun v i wr => Of1 w rs v i wr) (fun _ i _ => rs.length - (intOf i).toNat)
 case atStart => exact ⟨0, rfl, Nat.zero_le _, World.ownsRow_nil _ _ _ _, xaa.refl _ _⟩
 case round =>
  obtain ⟨k, rfl, hk, hown, hkw⟩ := hrel
  by_cases hlt : k < rs.length
  · obtain ⟨b, off, rfl, hcc⟩ := Hc.out (by omega)
    obtain ⟨p, hp⟩ : ∃ p, rs[k]? = some p := ⟨_, List.getElem?_eq_getElem hlt⟩
    obtain ⟨c0, c1, _, _⟩ := hcc k p hp
    clear hcc
    have d0 := hkw.cell c0 id
    have d1 := hkw.cell c1 id
    have hsn := xd0 hp
    have hcl := xib (rs.take k) p
    rw [<- hsn] at hcl
    have hll := xdA (rs.take k)
    rw [List.length_take] at hll
    have Hcl := xa hcl
    clear c0 c1 hcl hsn hp
    have hsz := hkw.size
    by_cases hin : max p.1 0 <= min p.2 1114111
    · go_wp2_with (at_builtin; refine wpList_append_own _ rfl (.tmp 29) (.tmp 31) 70 rfl w.heap.size 180 i0 _ 2 16 underlying70 hi hz0 hz1 hz2 rfl (by decide) _ _ _ rfl (xac (xac hown _) _) ⟨wr.heap.size + 1, 0, none⟩ 1 1 [.int .i64 (max p.1 0), .int .i64 (min p.2 1114111)] rfl rfl ?c1 ?c2 ?c3 ?c4 ?c5 ?_)
      case c1 => exact xcG _ [_, _] _ _ (by simp)
      case c2 => intro u hu; simp at hu; rcases hu with rfl | rfl <;> rfl
      case c3 => unfold maxLen; omega
      case c4 => omega
      case c5 => simp; omega
      intro v' w1 hown' hgrow _
      have hcl := Hcl.out
      rw [if_pos (by unfold xa9; exact hin)] at hcl
      have hO : ROwn w w1 v' (xcD (rs.take (k + 1))) := by
       refine ⟨?_, ((hkw.alloc _).alloc _).grown hgrow (fun b hb => Or.inr (xab hown b hb))⟩
       rw [hcl, xah]
       simpa [cellsOf, encR, xa9, List.range_succ] using hown'
      clear hown hown' hgrow hcl hkw d0 d1
      go_wp2
      go_roundw
      case rel => exact ⟨k + 1, by go_num, by omega, hO⟩
      case measure => simp [intOf]; omega
    go_wp2
    go_roundw
    case rel =>
     refine ⟨k + 1, by go_num, by omega, ?_, hkw.alloc _⟩
     have hcl := Hcl.out
     rw [if_neg (by unfold xa9; exact hin), List.append_nil] at hcl
     rw [hcl]; exact xac hown _
    case measure => simp [intOf]; omega
  obtain rfl : rs.length = k := by omega
  rw [List.take_length] at hown
  have hll := xdA rs
  have hsz := hkw.size
  go_wp2_with fail
  refine (xmN (xcD rs) _ _ _ hown (by omega)).mono ?_
  rintro e w1 ⟨rfl, l, hperm, hsort, hS, hk1⟩
  have hkw1 : KF w w1 := hkw.trans2 hk1 (fun j hj hb => by have := xab hown j hb; omega)
  have hfin := of_ok rs l hperm hsort
  have hlc : l.length <= rs.length := by rw [hperm.length_eq]; exact hll
  have HF := xa hfin
  have HG := xa (show ∀ p ∈ l, 0 <= p.1 /\ p.1 <= p.2 /\ p.2 <= 1114111 from fun p hp => xe0 rs p (hperm.mem_iff.1 hp))
  have HS := xa hsort
  clear hfin hperm hsort hk1 hown hkw hll hsz
  obtain ⟨al, lc, rfl, hl1, hl2, hcl⟩ := hS
  have Hcl := xa hcl
  clear hcl
  go_wp2_with fail
  go_loopw [6, 38] (fun v i wr => Of2 w1 l v i wr) (fun _ i _ => l.length - (intOf i).toNat)
  case atStart => exact ⟨0, rfl, Nat.zero_le _, World.ownsRow_nil _ _ _ _, xaa.refl _ _⟩
  case round =>
   obtain ⟨k, rfl, hk, hown, hkl⟩ := hrel
   by_cases hlt : k < l.length
   · obtain ⟨b, off, rfl, hcc⟩ := Hcl.out (by omega)
     obtain ⟨p, hp⟩ : ∃ p, l[k]? = some p := ⟨_, List.getElem?_eq_getElem hlt⟩
     have c0 : w1.cell? ⟨b, off + k * 2, none⟩ = some (.int .i64 p.1) := hcc k p hp 0 (by omega)
     have c1 : w1.cell? ⟨b, off + k * 2 + 1, none⟩ = some (.int .i64 p.2) := hcc k p hp 1 (by omega)
     obtain ⟨gp0, gp1, gp2⟩ := HG.out p (List.mem_of_getElem? hp)
     have d0 := hkl.cell c0 id
     have d1 := hkl.cell c1 id
     have hml := xdr (l.take k)
     rw [List.length_take] at hml
     have hms : xbF (l.take (k + 1)) = xcx (xbF (l.take k)) p := by rw [xd0 hp, xhU]
     have hnorm := (xgS (l.take k) (fun q hq => HG.out q (List.mem_of_mem_take hq)) (HS.out.sublist (List.take_sublist _ _))).1
     have Hms := xa hms
     clear hcc c0 c1 hms hp
     have hsz := hkl.size
     generalize hout : xbF (l.take k) = out at *
     have Hout := xa hout
     clear hout
     rcases List.eq_nil_or_concat out with rfl | ⟨m, q, rfl⟩
     · obtain ⟨va, vc, rfl⟩ := xad hown
       simp only [List.length_nil] at hown
       go_wp2_with fail
       go_quiet (fail)
       go_wp2_with (at_builtin; refine wpList_append_own _ rfl (.tmp 72) (.tmp 74) 70 rfl w1.heap.size 180 i0 _ 2 16 underlying70 hi hz0 hz1 hz2 rfl (by decide) _ _ _ rfl (xac (xbI (xac hown _) _) _) ⟨wr.heap.size + 1, 0, none⟩ 1 1 [.int .i64 p.1, .int .i64 p.2] rfl rfl ?c1 ?c2 ?c3 ?c4 ?c5 ?_)
       case c1 => exact xcG _ [_, _] _ _ (by simp)
       case c2 => intro u hu; simp at hu; rcases hu with rfl | rfl <;> rfl
       case c3 => unfold maxLen; simp at hml; omega
       case c4 => simp at hml; omega
       case c5 => simp; omega
       intro v' w2 hown' hgrow _
       have hO : ROwn w1 w2 v' (xbF (l.take (k + 1))) := by
        refine ⟨?_, (((hkl.alloc _).drawN _).alloc _).grown hgrow (fun b hb => Or.inr (xab hown b hb))⟩
        rw [Hms.out, xeM]
        simpa [cellsOf, encR, List.range_succ] using hown'
       clear hown hown' hgrow hkl d0 d1
       go_wp2
       go_roundw
       case rel => exact ⟨k + 1, by go_num, by omega, hO⟩
       case measure => simp [intOf]; omega
     rw [List.concat_eq_append] at *
     obtain ⟨g, gc, rfl, hg1, hg2⟩ := xbA hown (by simp)
     have hcg : wr.cell? ⟨g, m.length * 2 + 1, none⟩ = some (.int .i64 q.2) := by
      rw [hown.cellAt _ (by simp; omega)]
      exact xaI 2 encR (m ++ [q]) m.length q (by simp) 1 (by omega)
     have hcg1 : ∀ o, (wr.alloc o).cell? ⟨g, m.length * 2 + 1, none⟩ = some (.int .i64 q.2) := xaf hcg
     have hfg : ∀ o x, (wr.alloc o).frozen? ⟨g, x, none⟩ = false := fun o x => xau (hown.frozenAt x) hg2 o
     obtain ⟨hnm, q0, q1, q2, q3⟩ := xdo m q hnorm
     simp only [List.length_append, List.length_cons, List.length_nil, Nat.zero_add] at hown ⊢
     have hw1 : IntKind.i64.wrap ((m.length : Int) + 1 - 1) = (m.length : Int) := by rw [show (m.length : Int) + 1 - 1 = (m.length : Int) by omega]; exact IntWalk.i64_in _ (by simp at hml; omega)
     have hw2 : IntKind.i64.wrap (m.length : Int) = (m.length : Int) := IntWalk.i64_in _ (by simp at hml; omega)
     have hw3 : IntKind.i64.wrap (q.2 + 1) = q.2 + 1 := IntWalk.i64_in _ (by omega)
     have hix : (m.length : Int) < (m.length : Int) + 1 := by omega
     have hix2 : ((m.length : Int)).toNat = m.length := by simp
     by_cases hj : p.1 <= q.2 + 1
     · go_wp2_with fail
       go_quiet (fail)
       go_wp2_with fail
       go_region
       all_goals go_wp2
       go_roundw
       case rel =>
        refine ⟨k + 1, by go_num, by omega, ?_, ((hkl.alloc _).drawN _).setNew hg1 _⟩
        rw [Hms.out, xdN m q p hj, <- xiu m q (max q.2 p.2)]
        have h5 := (World.ownsRow.stored (xbI (xac hown (.cells #[.int .i64 p.1, .int .i64 p.2] 180)) (nq + 1)) (m.length * 2 + 1) (.int .i64 (max q.2 p.2))).1
        simpa using h5
       case measure => simp [intOf]; omega
     have hd : decide (p.1 <= q.2 + 1) = false := by simp; omega
     go_wp2_with fail
     go_quiet (fail)
     go_wp2_with (at_builtin; refine wpList_append_own _ rfl (.tmp 72) (.tmp 74) 70 rfl w1.heap.size 180 i0 _ 2 16 underlying70 hi hz0 hz1 hz2 rfl (by decide) _ _ _ rfl (xac (xbI (xac hown _) _) _) ⟨wr.heap.size + 1, 0, none⟩ 1 1 [.int .i64 p.1, .int .i64 p.2] rfl rfl ?e1 ?e2 ?e3 ?e4 ?e5 ?_)
     case e1 => exact xcG _ [_, _] _ _ (by simp)
     case e2 => intro u hu; simp at hu; rcases hu with rfl | rfl <;> rfl
     case e3 => unfold maxLen; simp at hml; omega
     case e4 => simp at hml; omega
     case e5 => simp; omega
     intro v' w2 hown' hgrow _
     have hO : ROwn w1 w2 v' (xbF (l.take (k + 1))) := by
      refine ⟨?_, (((hkl.alloc _).drawN _).alloc _).grown hgrow (fun b hb => Or.inr (xab hown b hb))⟩
      rw [Hms.out, xdM m q p (by omega)]
      simpa [cellsOf, encR, List.range_succ] using hown'
     clear hown hown' hgrow hkl d0 d1
     go_wp2
     go_roundw
     case rel => exact ⟨k + 1, by go_num, by omega, hO⟩
     case measure => simp [intOf]; omega
   obtain rfl : l.length = k := by omega
   rw [List.take_length] at hown
   go_wp2
   go_ret
   refine ⟨_, xbF l, rfl, HF.out, ⟨xak hown hkw1.size, hkw1.trans hkl⟩, Nat.le_trans (xdr l) hlc⟩

theorem ROwn.read {w0 w : World} {v : Value} {l : LI} (h : ROwn w0 w v l) (hl : l.length <= 4611686018427387904) (hr : ∀ p ∈ l, in64 p.1 /\ in64 p.2) : RSl w v l := ⟨SlOf.ofOwn h.1 hl, hr⟩
theorem xiT {l : LI} (h : Norm l) : ∀ p ∈ l, in64 p.1 /\ in64 p.2 := fun p hp => by have := h.rng p hp; unfold in64; omega
theorem RSl.keep {w w' : World} {v : Value} {l : LI} (h : RSl w v l) (K : KF w w') : RSl w' v l := ⟨h.1.keep K, h.2⟩
structure xcW (l : LI) (i : Nat) (next : Int) (ns : LI) : Prop where
 nrm : Norm ns
 n0 : 0 <= next
 n1 : next <= 1114112
 gap : ∀ q ∈ ns, q.2 + 2 <= next
 has : ∀ r, mem ns r = (decide (0 <= r) && decide (r < next) && !mem (l.take i) r)
 rest : ∀ p ∈ l.drop i, next <= p.1
 done : ∀ r, mem (l.take i) r = true -> r < next
 len : ns.length <= i
theorem xcW.start (l : LI) (h : Norm l) : xcW l 0 0 [] :=
 ⟨trivial, by omega, by omega, by simp, fun r => by
  rw [xdO]; symm
  have : (decide (0 <= r) && decide (r < 0)) = false := by
   rw [Bool.and_eq_false_iff, decide_eq_false_iff_not, decide_eq_false_iff_not]; omega
  rw [this]; rfl,
  fun p hp => (h.rng p (by simpa using hp)).1, fun r hr => by simp [mem] at hr, Nat.le_refl _⟩
theorem xgM (l : LI) (h : Norm l) (i : Nat) (p : Int × Int) (hp : l[i]? = some p) : ∀ q ∈ l.drop (i + 1), p.2 + 2 <= q.1 := by
 induction l generalizing i with
 | nil => simp at hp
 | cons x l ih =>
  cases i with
  | zero => simp at hp; subst hp; simpa using h.2.2.2.1
  | succ j => simpa using ih h.tail j (by simpa using hp)
theorem xcW.step {l : LI} {i : Nat} {next : Int} {ns : LI} {p : Int × Int} (h : xcW l i next ns) (hl : Norm l) (hp : l[i]? = some p) :
 (next < p.1 -> xcW l (i + 1) (p.2 + 1) (ns ++ [(next, p.1 - 1)])) /\ (¬ next < p.1 -> xcW l (i + 1) (p.2 + 1) ns) := by
 have hr := hl.rng p (List.mem_of_getElem? hp)
 have n0 := h.n0
 have hd : l.drop i = p :: l.drop (i + 1) := by
  have hi := (List.getElem?_eq_some_iff.1 hp)
  obtain ⟨hi, e⟩ := hi
  rw [List.drop_eq_getElem_cons hi, e]
 have hle := h.rest p (by rw [hd]; simp)
 have hsn : l.take (i + 1) = l.take i ++ [p] := by rw [List.take_add_one, hp]; rfl
 have hrest : ∀ q ∈ l.drop (i + 1), p.2 + 1 <= q.1 := fun q hq => by have := xgM l hl i p hp q hq; omega
 have hdone : ∀ r, mem (l.take (i + 1)) r = true -> r < p.2 + 1 := by
  intro r hr'
  rw [hsn, mem_append, xbt, Bool.or_eq_true, Bool.and_eq_true, decide_eq_true_eq, decide_eq_true_eq] at hr'
  rcases hr' with h1 | h1
  · have := h.done r h1; omega
  omega
 have hm : ∀ r, next <= r -> mem (l.take i) r = false := by
  intro r hn
  cases hq : mem (l.take i) r
  · rfl
  have := h.done r hq; omega
 constructor
 · intro hlt
   refine ⟨xbs ns _ h.nrm h.n0 (by simp only; omega) (by simp only; omega) h.gap, by omega, by omega, ?_, ?_, hrest, hdone, by simp; exact h.len⟩
   · intro q hq
     rcases List.mem_append.1 hq with hq | hq
     · have := h.gap q hq; omega
     simp at hq; subst hq; simp only; omega
   intro r
   rw [mem_append, h.has, hsn, mem_append, xbt, xbt]
   by_cases a : r < next
   · have e1 : decide (next <= r) = false := by simp; omega
     have e2 : decide (p.1 <= r) = false := by simp; omega
     have e3 : decide (r < p.2 + 1) = decide (r < next) := by rw [decide_eq_decide]; omega
     rw [e1, e2, e3]; simp
   have e0 := hm r (by omega)
   have e1 : decide (r < next) = false := by simp; omega
   rw [e0, e1]
   rw [Bool.eq_iff_iff]
   simp only [Bool.and_false, Bool.false_and, Bool.false_or, Bool.and_eq_true, decide_eq_true_eq, Bool.not_eq_true', Bool.and_eq_false_iff, decide_eq_false_iff_not]
   omega
 intro hge
 have he : next = p.1 := by omega
 refine ⟨h.nrm, by omega, by omega, fun q hq => by have := h.gap q hq; omega, ?_, hrest, hdone, by have := h.len; omega⟩
 intro r
 rw [h.has, hsn, mem_append, xbt]
 by_cases a : r < next
 · have e2 : decide (p.1 <= r) = false := by simp; omega
   have e3 : decide (r < p.2 + 1) = decide (r < next) := by rw [decide_eq_decide]; omega
   rw [e2, e3]; simp
 have e0 := hm r (by omega)
 have e1 : decide (r < next) = false := by simp; omega
 rw [e0, e1]
 rw [Bool.eq_iff_iff]
 simp only [Bool.and_false, Bool.false_and, Bool.false_or, Bool.and_eq_true, decide_eq_true_eq, Bool.not_eq_true', Bool.and_eq_false_iff, decide_eq_false_iff_not]
 constructor
 · intro h; cases h
 intro h; omega
def xe8 (rs out : LI) : Prop := Norm out /\ ∀ r, mem out r = (xaZ r && !has rs r)
theorem xcW.fin {rs l : LI} {next : Int} {ns : LI} (h : xcW l l.length next ns) (hl : IsOf rs l) :
 (next <= 1114111 -> xe8 rs (ns ++ [(next, 1114111)])) /\ (¬ next <= 1114111 -> xe8 rs ns) := by
 have ht : l.take l.length = l := List.take_length
 have hh := h.has
 have hd := h.done
 rw [ht] at hd
 simp only [ht] at hh
 have hm : ∀ r, next <= r -> mem l r = false := by
  intro r hn
  cases hq : mem l r
  · rfl
  have := hd r hq; omega
 constructor
 · intro hle
   refine ⟨xbs ns _ h.nrm h.n0 (by simp only; omega) (by simp only; omega) h.gap, fun r => ?_⟩
   rw [mem_append, hh, xbt, <- hl.2]
   unfold xaZ
   have n0 := h.n0
   by_cases a : r < next
   · have e1 : decide (next <= r) = false := by simp; omega
     have e2 : decide (r <= 1114111) = true := by simp; omega
     have e3 : decide (r < next) = true := by simp; omega
     rw [e1, e2, e3]; simp
   have e0 := hm r (by omega)
   have e1 : decide (r < next) = false := by simp; omega
   have e2 : decide (next <= r) = true := by simp; omega
   have e3 : decide (0 <= r) = true := by simp; omega
   rw [e0, e1, e2, e3]; simp
 intro hgt
 refine ⟨h.nrm, fun r => ?_⟩
 rw [hh, <- hl.2]
 unfold xaZ
 have n1 := h.n1
 have : decide (r < next) = decide (r <= 1114111) := by rw [decide_eq_decide]; omega
 rw [this]
def NotR (w1 : World) (out : LI) (v nx i : Value) (wr : World) : Prop :=
 ∃ (k : Nat) (next : Int) (ns : LI), i = .int .i64 k /\ nx = .int .i64 next /\ k <= out.length /\ xcW out k next ns /\ ROwn w1 wr v ns
theorem xdL (l : LI) (v : Value) (w : World) (h : RSl w v l) (hl : l.length <= 100000) :
 Calls prog 132 #[v] w fun e w' => ∃ u out, e = .returned u /\ xe8 l out /\ ROwn w w' u out /\ out.length <= l.length + 1 := by
 obtain ⟨i0, hi, hz0, hz1, hz2⟩ := info_parts xaO
 go_enter func132, ntmps132
 go_wp2_with fail
 refine (xc0 l v _ h hl).mono ?_
 rintro e w1 ⟨u, out, rfl, hof, hown, hlo⟩
 have hS := hown.read (by omega) (xiT hof.1)
 obtain ⟨a, cap, rfl, hl1, hcl⟩ := hS.cells
 have Hc := xa hcl
 clear hcl hS
 have hkw := hown.2
 have hw1 := hkw.size
 clear hown
 go_wp2_with fail
 go_loopw [3, 4, 10] (fun v nx i wr => NotR w1 out v nx i wr) (fun _ _ i _ => out.length - (intOf i).toNat)
 case atStart => exact ⟨0, 0, [], rfl, rfl, Nat.zero_le _, xcW.start out hof.1, World.ownsRow_nil _ _ _ _, xaa.refl _ _⟩
 case round =>
  obtain ⟨k, next, ns, rfl, rfl, hk, hinv, hown, hkl⟩ := hrel
  have hn0 := hinv.n0
  have hn1 := hinv.n1
  have hnl := hinv.len
  by_cases hlt : k < out.length
  · obtain ⟨b, off, rfl, hcc⟩ := Hc.out (by omega)
    obtain ⟨p, hp⟩ : ∃ p, out[k]? = some p := ⟨_, List.getElem?_eq_getElem hlt⟩
    obtain ⟨c0, c1, _, _⟩ := hcc k p hp
    have d0 := hkl.cell c0 id
    have d1 := hkl.cell c1 id
    have hpr := hof.1.rng p (List.mem_of_getElem? hp)
    obtain ⟨st1, st2⟩ := hinv.step hof.1 hp
    have St1 := xa st1
    have St2 := xa st2
    obtain ⟨p0, p1, p2⟩ := hpr
    clear hcc c0 c1 hp st1 st2
    obtain ⟨va, vc, rfl⟩ := xad hown
    have hsz := hkl.size
    by_cases hj : next < p.1
    · go_wp2_with (at_builtin; refine wpList_append_own _ rfl (.tmp 18) (.tmp 24) 70 rfl w1.heap.size 180 i0 _ 2 16 underlying70 hi hz0 hz1 hz2 rfl (by decide) _ _ _ rfl (xac (xac hown _) _) ⟨wr.heap.size + 1, 0, none⟩ 1 1 [.int .i64 next, .int .i64 (p.1 - 1)] rfl rfl ?c1 ?c2 ?c3 ?c4 ?c5 ?_)
      case c2 => exact ⟨rfl, rfl⟩
      case c3 => unfold maxLen; omega
      case c4 => omega
      case c5 => omega
      intro v' w2 hown' hgrow _
      have hO : ROwn w1 w2 v' (ns ++ [(next, p.1 - 1)]) := by
       refine ⟨?_, ((hkl.alloc _).alloc _).grown hgrow (fun b hb => Or.inr (xab hown b hb))⟩
       rw [xah]
       simpa [cellsOf, encR, List.range_succ] using hown'
      have hfr : ∀ (j : Nat) (hj : j < w2.heap.size) x, (⟨wr.heap.size, x, none⟩ : Addr) = ⟨wr.heap.size, x, none⟩ := fun _ _ _ => rfl
      have hb6 : w2.heap[wr.heap.size]? = some (.cells #[.int .i64 p.1, .int .i64 p.2] 180 (0, 0)) := by
       rw [hgrow.block _ (by simp; omega) (fun e => by have := xaM hown _ e.symm; omega), Below.heap_alloc _ _ _ (by simp)]
       show (wr.heap.push _)[_]? = _; simp
      have e0 : w2.cell? ⟨wr.heap.size, 0, none⟩ = some (.int .i64 p.1) := by rw [xaj hb6]; rfl
      have e1 : w2.cell? ⟨wr.heap.size, 1, none⟩ = some (.int .i64 p.2) := by rw [xaj hb6]; rfl
      clear hown hown' hgrow hkl d0 d1 hb6
      go_wp2
      go_roundw
      case rel => exact ⟨k + 1, p.2 + 1, _, by go_num, rfl, by omega, St1.out hj, hO⟩
      case measure => simp [intOf]; omega
    go_wp2
    go_roundw
    case rel => exact ⟨k + 1, p.2 + 1, _, by go_num, rfl, by omega, St2.out hj, xac hown _, hkl.alloc _⟩
    case measure => simp [intOf]; omega
  obtain rfl : out.length = k := by omega
  obtain ⟨fi1, fi2⟩ := hinv.fin hof
  have Fi1 := xa fi1
  have Fi2 := xa fi2
  clear fi1 fi2
  have hsz := hkl.size
  by_cases hj : next <= 1114111
  · obtain ⟨va, vc, rfl⟩ := xad hown
    go_wp2_with (at_builtin; refine wpList_append_own _ rfl (.tmp 32) (.tmp 35) 70 rfl w1.heap.size 180 i0 _ 2 16 underlying70 hi hz0 hz1 hz2 rfl (by decide) _ _ _ rfl (xac hown _) ⟨wr.heap.size, 0, none⟩ 1 1 [.int .i64 next, .int .i64 1114111] rfl rfl ?d1 ?d2 ?d3 ?d4 ?d5 ?_)
    case d2 => exact ⟨rfl, rfl⟩
    case d3 => unfold maxLen; omega
    case d4 => omega
    case d5 => omega
    intro v' w2 hown' hgrow _
    have hO : ROwn w1 w2 v' (ns ++ [(next, 1114111)]) := by
     refine ⟨?_, (hkl.alloc _).grown hgrow (fun b hb => Or.inr (xab hown b hb))⟩
     rw [xah]
     simpa [cellsOf, encR, List.range_succ] using hown'
    clear hown hown' hgrow hkl
    go_wp2
    go_ret
    exact ⟨_, ns ++ [(next, 1114111)], rfl, Fi1.out hj, ⟨xak hO.1 hw1, hkw.trans hO.2⟩, by simp; omega⟩
  go_wp2
  go_ret
  first
   | exact ⟨_, ns, rfl, Fi2.out hj, ⟨xak hown hw1, hkw.trans hkl⟩, by omega⟩
   | exact ⟨_, rfl, ns, Fi2.out hj, ⟨xak hown hw1, hkw.trans hkl⟩, by omega⟩

end Go.Proofs.YtapmdhejgnplaaaGreat
