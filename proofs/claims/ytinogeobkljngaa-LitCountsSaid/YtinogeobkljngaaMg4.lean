/-
  Several texts in one: Sets of numbers as lists of ranges: the plain laws. No program in sight. The walks of the document's own words on sets (reedbedref08): Has, Same, Right, Ends. slices.SortFunc over an owned row of ranges: a permutation, in the order of the lower ends. How set.Of works, in plain words: clamp, sort, merge.
-/
import Derived.Lib.Hide
import Derived.Test.YtinogeobkljngaaMg1
import Derived.Test.YtinogeobkljngaaRows
import Derived.Deep.QuietTactic
import Derived.BigQuiet
import Derived.Deep.RegionWith
import Derived.Test.YtinogeobkljngaaShelfS
section
namespace Go.Proofs.Ytinogeobkljngaa
set_option linter.unusedVariables false
set_option linter.unusedSimpArgs false

/-- Is a number in one of the ranges? -/
def mem (l : List (Int × Int)) (r : Int) : Bool := l.any fun p => decide (p.1 ≤ r) && decide (r ≤ p.2)
theorem mem_iff (l : List (Int × Int)) (r : Int) : mem l r = true ↔ ∃ p ∈ l, p.1 ≤ r ∧ r ≤ p.2 := by simp [mem]
theorem mem_nil (r : Int) : mem [] r = false := rfl
theorem mem_append (a b : List (Int × Int)) (r : Int) : mem (a ++ b) r = (mem a r || mem b r) := by simp [mem]
theorem mem_one (p : Int × Int) (r : Int) : mem [p] r = (decide (p.1 ≤ r) && decide (r ≤ p.2)) := by simp [mem]
theorem mem_cons (p : Int × Int) (l : List (Int × Int)) (r : Int) : mem (p :: l) r = ((decide (p.1 ≤ r) && decide (r ≤ p.2)) || mem l r) := by simp [mem]
def inAll (r : Int) : Bool := decide (0 ≤ r) && decide (r ≤ 1114111)
def has (l : List (Int × Int)) (r : Int) : Bool := mem l r && inAll r

/-- A set: its ranges in order, with gaps between. -/
def Norm : List (Int × Int) → Prop
  | [] => True
  | p :: l => 0 ≤ p.1 ∧ p.1 ≤ p.2 ∧ p.2 ≤ 1114111 ∧ (∀ q ∈ l, p.2 + 2 ≤ q.1) ∧ Norm l
theorem Norm.tail {p : Int × Int} {l : List (Int × Int)} (h : Norm (p :: l)) : Norm l := h.2.2.2.2
theorem Norm.rng {l : List (Int × Int)} (h : Norm l) : ∀ p ∈ l, 0 ≤ p.1 ∧ p.1 ≤ p.2 ∧ p.2 ≤ 1114111 := by
  induction l with
  | nil => simp
  | cons q l ih =>
    intro p hp
    rcases List.mem_cons.1 hp with rfl | hp
    · exact ⟨h.1, h.2.1, h.2.2.1⟩
    · exact ih h.tail p hp
theorem Norm.mem_all {l : List (Int × Int)} (h : Norm l) (r : Int) (hr : mem l r = true) : 0 ≤ r ∧ r ≤ 1114111 := by
  obtain ⟨p, hp, h1, h2⟩ := (mem_iff l r).1 hr
  have := h.rng p hp
  omega
theorem Norm.has {l : List (Int × Int)} (h : Norm l) (r : Int) : has l r = mem l r := by
  unfold Go.Proofs.Ytinogeobkljngaa.has
  cases hm : mem l r
  · rfl
  · have := h.mem_all r hm
    simp [inAll, this.1, this.2]
theorem norm_append (l : List (Int × Int)) (q : Int × Int) (h : Norm l) (h1 : 0 ≤ q.1) (h2 : q.1 ≤ q.2) (h3 : q.2 ≤ 1114111) (hq : ∀ p ∈ l, p.2 + 2 ≤ q.1) : Norm (l ++ [q]) := by
  induction l with
  | nil => exact ⟨h1, h2, h3, by simp, trivial⟩
  | cons p l ih =>
    refine ⟨h.1, h.2.1, h.2.2.1, fun x hx => ?_, ih h.tail (fun p hp => hq p (List.mem_cons_of_mem _ hp))⟩
    rcases List.mem_append.1 hx with hx | hx
    · exact h.2.2.2.1 x hx
    · simp at hx; subst hx; exact hq p List.mem_cons_self
theorem norm_last (l : List (Int × Int)) (p : Int × Int) (h : Norm (l ++ [p])) : Norm l ∧ 0 ≤ p.1 ∧ p.1 ≤ p.2 ∧ p.2 ≤ 1114111 ∧ ∀ q ∈ l, q.2 + 2 ≤ p.1 := by
  induction l with
  | nil => exact ⟨trivial, h.1, h.2.1, h.2.2.1, by simp⟩
  | cons q l ih =>
    obtain ⟨a, b, c, d, e⟩ := ih h.tail
    refine ⟨⟨h.1, h.2.1, h.2.2.1, fun x hx => h.2.2.2.1 x (List.mem_append_left _ hx), a⟩, b, c, d, fun x hx => ?_⟩
    rcases List.mem_cons.1 hx with rfl | hx
    · exact h.2.2.2.1 p (by simp)
    · exact e x hx

/-- Two sets that have the same numbers are one list. -/
theorem norm_unique : ∀ (a b : List (Int × Int)), Norm a → Norm b → (∀ r, mem a r = mem b r) → a = b := by
  intro a
  induction a with
  | nil =>
    intro b _ hb h
    cases b with
    | nil => rfl
    | cons q b =>
      have := h q.1
      rw [mem_nil, mem_cons] at this
      have h2 := hb.2.1
      simp [h2] at this
  | cons p a ih =>
    intro b ha hb h
    cases b with
    | nil =>
      have := h p.1
      rw [mem_nil, mem_cons] at this
      have h2 := ha.2.1
      simp [h2] at this
    | cons q b =>
      have hlow : ∀ (p : Int × Int) (l : List (Int × Int)), Norm (p :: l) → ∀ r, mem (p :: l) r = true → p.1 ≤ r := by
        intro p l hn r hr
        obtain ⟨x, hx, h1, h2⟩ := (mem_iff _ r).1 hr
        rcases List.mem_cons.1 hx with rfl | hx
        · exact h1
        · have := hn.2.2.2.1 x hx; have := hn.2.1; omega
      have hfst : ∀ (p : Int × Int) (l : List (Int × Int)), Norm (p :: l) → ∀ r, p.1 ≤ r → r ≤ p.2 → mem (p :: l) r = true := by
        intro p l hn r h1 h2; rw [mem_cons]; simp [h1, h2]
      have hgap : ∀ (p : Int × Int) (l : List (Int × Int)), Norm (p :: l) → mem (p :: l) (p.2 + 1) = false := by
        intro p l hn
        cases hm : mem (p :: l) (p.2 + 1)
        · rfl
        · obtain ⟨x, hx, h1, h2⟩ := (mem_iff _ _).1 hm
          rcases List.mem_cons.1 hx with rfl | hx
          · omega
          · have := hn.2.2.2.1 x hx; omega
      have ha2 := ha.2.1
      have hb2 := hb.2.1
      have e1 : p.1 = q.1 := by
        have h1 := hlow q b hb p.1 (by rw [← h]; exact hfst p a ha p.1 (by omega) (by omega))
        have h2 := hlow p a ha q.1 (by rw [h]; exact hfst q b hb q.1 (by omega) (by omega))
        omega
      have e2 : p.2 = q.2 := by
        rcases Int.lt_trichotomy p.2 q.2 with hlt | he | hlt
        · have h1 := hgap p a ha
          rw [h, hfst q b hb (p.2 + 1) (by omega) (by omega)] at h1
          cases h1
        · exact he
        · have h1 := hgap q b hb
          rw [← h, hfst p a ha (q.2 + 1) (by omega) (by omega)] at h1
          cases h1
      have e : p = q := Prod.ext e1 e2
      subst e
      congr 1
      refine ih b ha.tail hb.tail fun r => ?_
      have hr := h r
      rw [mem_cons, mem_cons] at hr
      by_cases hin : p.1 ≤ r ∧ r ≤ p.2
      · have hz : ∀ l, Norm (p :: l) → mem l r = false := by
          intro l hn
          cases hm : mem l r
          · rfl
          · obtain ⟨x, hx, h1, h2⟩ := (mem_iff _ _).1 hm
            have := hn.2.2.2.1 x hx; omega
        rw [hz a ha, hz b hb]
      · have : (decide (p.1 ≤ r) && decide (r ≤ p.2)) = false := by simp; omega
        simpa [this] using hr

/-- What the statements' own look at a set comes to: range by range, against the one ahead. -/
def chain : List (Int × Int) → Prop
  | [] => True
  | [p] => 0 ≤ p.1 ∧ p.1 ≤ p.2 ∧ p.2 ≤ 1114111
  | p :: q :: l => 0 ≤ p.1 ∧ p.1 ≤ p.2 ∧ p.2 ≤ 1114111 ∧ p.2 + 2 ≤ q.1 ∧ chain (q :: l)
theorem chain_norm : ∀ l, chain l ↔ Norm l := by
  intro l
  induction l with
  | nil => exact Iff.rfl
  | cons p l ih =>
    cases l with
    | nil => simp [chain, Norm]
    | cons q l =>
      constructor
      · rintro ⟨a, b, c, d, e⟩
        have hn := ih.1 e
        refine ⟨a, b, c, fun x hx => ?_, hn⟩
        rcases List.mem_cons.1 hx with rfl | hx
        · exact d
        · have := hn.2.2.2.1 x hx; have := hn.2.1; omega
      · rintro ⟨a, b, c, d, e⟩
        exact ⟨a, b, c, d q List.mem_cons_self, ih.2 e⟩
/-- One range more behind: what the look at place i asks. -/
theorem norm_snoc (l : List (Int × Int)) (q : Int × Int) : Norm (l ++ [q]) ↔ Norm l ∧ 0 ≤ q.1 ∧ q.1 ≤ q.2 ∧ q.2 ≤ 1114111 ∧ ∀ p, l.getLast? = some p → p.2 + 2 ≤ q.1 := by
  constructor
  · intro h
    obtain ⟨a, b, c, d, e⟩ := norm_last l q h
    exact ⟨a, b, c, d, fun p hp => e p (List.mem_of_getLast? hp)⟩
  · rintro ⟨a, b, c, d, e⟩
    refine norm_append l q a b c d ?_
    intro p hp
    rcases List.eq_nil_or_concat l with rfl | ⟨m, x, rfl⟩
    · simp at hp
    · have hx := e x (by simp)
      simp only [List.concat_eq_append] at hp a
      obtain ⟨_, _, h2, _, h4⟩ := norm_last m x a
      rcases List.mem_append.1 hp with hp | hp
      · have := h4 p hp; omega
      · simp at hp; subst hp; exact hx

/-- How many numbers ranges have, one by one. -/
def sumR (l : List (Int × Int)) : Int := (l.map fun p => p.2 - p.1 + 1).sum
theorem sumR_nil : sumR [] = 0 := rfl
theorem sumR_cons (p : Int × Int) (l : List (Int × Int)) : sumR (p :: l) = p.2 - p.1 + 1 + sumR l := by simp [sumR]
theorem sumR_snoc (l : List (Int × Int)) (p : Int × Int) : sumR (l ++ [p]) = sumR l + (p.2 - p.1 + 1) := by simp [sumR]

/-- How many numbers below n there are. -/
def cnt (f : Int → Bool) : Nat → Int
  | 0 => 0
  | n + 1 => cnt f n + if f n then 1 else 0
theorem cnt_congr (f g : Int → Bool) (n : Nat) (h : ∀ r : Int, 0 ≤ r → r < n → f r = g r) : cnt f n = cnt g n := by
  induction n with
  | zero => rfl
  | succ n ih => simp only [cnt]; rw [ih (fun r h1 h2 => h r h1 (by omega)), h n (by omega) (by omega)]
theorem cnt_or_and (f g : Int → Bool) (n : Nat) : cnt (fun r => f r || g r) n + cnt (fun r => f r && g r) n = cnt f n + cnt g n := by
  induction n with
  | zero => rfl
  | succ n ih =>
    simp only [cnt]
    by_cases hf : f n = true <;> by_cases hg : g n = true <;> simp [hf, hg] <;> omega
theorem cnt_not (f : Int → Bool) (n : Nat) : cnt f n + cnt (fun r => !f r) n = n := by
  induction n with
  | zero => rfl
  | succ n ih =>
    simp only [cnt]
    by_cases hf : f n = true <;> simp [hf] <;> omega
theorem cnt_false (n : Nat) : cnt (fun _ => false) n = 0 := by
  induction n with
  | zero => rfl
  | succ n ih => simp [cnt, ih]
theorem cnt_range (a b : Int) (n : Nat) (ha : 0 ≤ a) (hab : a ≤ b + 1) (hb : b < n) : cnt (fun r => decide (a ≤ r) && decide (r ≤ b)) n = b - a + 1 := by
  have key : ∀ m : Nat, cnt (fun r => decide (a ≤ r) && decide (r ≤ b)) m = if (m : Int) ≤ a then 0 else if (m : Int) ≤ b + 1 then (m : Int) - a else b - a + 1 := by
    intro m
    induction m with
    | zero => simp [cnt]; omega
    | succ m ih =>
      simp only [cnt, ih]
      by_cases h1 : a ≤ (m : Int) <;> by_cases h2 : (m : Int) ≤ b <;> simp [h1, h2] <;> (repeat' split) <;> omega
  rw [key]
  split
  · omega
  · split <;> omega
theorem norm_cnt (l : List (Int × Int)) (h : Norm l) : cnt (mem l) 1114112 = sumR l := by
  induction l with
  | nil => exact cnt_false _
  | cons p l ih =>
    rw [sumR_cons, ← ih h.tail, ← cnt_range p.1 p.2 1114112 h.1 (by have := h.2.1; omega) (by have := h.2.2.1; omega)]
    rw [← cnt_or_and]
    have : cnt (fun r => (decide (p.1 ≤ r) && decide (r ≤ p.2)) && mem l r) 1114112 = 0 := by
      rw [← cnt_false 1114112]
      refine cnt_congr _ _ _ fun r _ _ => ?_
      by_cases hin : p.1 ≤ r ∧ r ≤ p.2
      · cases hm : mem l r
        · simp
        · obtain ⟨x, hx, h1, h2⟩ := (mem_iff _ _).1 hm
          have := h.2.2.2.1 x hx; omega
      · have : (decide (p.1 ≤ r) && decide (r ≤ p.2)) = false := by simp; omega
        simp [this]
    rw [this, Int.add_zero]
    exact cnt_congr _ _ _ fun r _ _ => mem_cons p l r
theorem sumR_nonneg (l : List (Int × Int)) (h : Norm l) : 0 ≤ sumR l ∧ sumR l ≤ 1114112 := by
  rw [← norm_cnt l h]
  have key : ∀ (f : Int → Bool) (n : Nat), 0 ≤ cnt f n ∧ cnt f n ≤ n := by
    intro f n
    induction n with
    | zero => simp [cnt]
    | succ n ih => simp only [cnt]; split <;> omega
  exact key _ _

/-- What makes 'out' the set made of ranges. -/
def IsOf (rs out : List (Int × Int)) : Prop := Norm out ∧ ∀ r, mem out r = has rs r
theorem IsOf.unique {rs a b : List (Int × Int)} (ha : IsOf rs a) (hb : IsOf rs b) : a = b := norm_unique a b ha.1 hb.1 fun r => by rw [ha.2, hb.2]
theorem IsOf.self {a : List (Int × Int)} (ha : Norm a) : IsOf a a := ⟨ha, fun r => (ha.has r).symm⟩
end Go.Proofs.Ytinogeobkljngaa
end
section
namespace Go.Proofs.Ytinogeobkljngaa
open Go.RowKit
set_option linter.unusedVariables false
set_option linter.unusedSimpArgs false
set_option maxRecDepth 100000

/-- A range's two cells. -/
def encR (p : Int × Int) (j : Nat) : Value := if j = 0 then .int .i64 p.1 else .int .i64 p.2
/-- v reads as the ranges l, whose ends are of 64 bits. -/
def RSl (w : World) (v : Value) (l : List (Int × Int)) : Prop := SlOf 2 encR w v l ∧ ∀ p ∈ l, in64 p.1 ∧ in64 p.2
theorem RSl.cells {w : World} {v : Value} {l : List (Int × Int)} (h : RSl w v l) : ∃ a cap, v = .slice a l.length cap ∧ l.length ≤ 4611686018427387904 ∧
    (0 < l.length → ∃ b off, a = some ⟨b, off, none⟩ ∧ ∀ i (p : Int × Int), l[i]? = some p → w.cell? ⟨b, off + i * 2, none⟩ = some (.int .i64 p.1) ∧ w.cell? ⟨b, off + i * 2 + 1, none⟩ = some (.int .i64 p.2) ∧ in64 p.1 ∧ in64 p.2) := by
  obtain ⟨⟨a, cap, rfl, ⟨hl, hln⟩, hl2, hc⟩, hr⟩ := h
  refine ⟨a, cap, rfl, hl2, fun h0 => ?_⟩
  obtain ⟨b, off, rfl, hcc⟩ := hc h0
  exact ⟨b, off, rfl, fun i p hp => ⟨hcc i p hp 0 (by omega), hcc i p hp 1 (by omega), hr p (List.mem_of_getElem? hp)⟩⟩

theorem refHas_any (l : List (Int × Int)) (v : Value) (r : Int) (w : World) (h : RSl w v l) :
    Calls Try.prog 52 #[v, .int .i64 r] w fun e w' => e = .returned (.bool (has l r)) ∧ w = w' := by
  obtain ⟨a, cap, rfl, hl, hc⟩ := h.cells
  have Hc := Lib.hid hc
  clear hc h
  go_enter Try.func52, Try.ntmps52
  go_wp2_with fail
  go_loop [5] (fun iv => ∃ i : Nat, iv = .int .i64 i ∧ i ≤ l.length ∧ has (l.take i) r = false) (fun iv => l.length - (intOf iv).toNat)
  case atStart => exact ⟨0, rfl, Nat.zero_le _, rfl⟩
  case round =>
    obtain ⟨i, rfl, hi, hno⟩ := hrel
    have Hno := Lib.hid hno
    clear hno
    by_cases hil : i < l.length
    · obtain ⟨b, off, rfl, hcc⟩ := Hc.out (by omega)
      obtain ⟨p, hp⟩ : ∃ p, l[i]? = some p := ⟨_, List.getElem?_eq_getElem hil⟩
      obtain ⟨c0, c1, _, _⟩ := hcc i p hp
      clear hcc
      have hsn : l.take (i + 1) = l.take i ++ [p] := by rw [List.take_add_one, hp]; rfl
      have Hp := Lib.hid hp
      have Hsn := Lib.hid hsn
      clear hp hsn
      by_cases h1 : p.1 ≤ r ∧ r ≤ p.2 ∧ 0 ≤ r ∧ r ≤ 1114111
      · obtain ⟨a1, a2, a3, a4⟩ := h1
        go_wp2_with fail
        go_ret
        refine ⟨?_, rfl⟩
        have : has l r = true := by
          unfold has; rw [Bool.and_eq_true, mem_iff]
          exact ⟨⟨p, List.mem_of_getElem? Hp.out, a1, a2⟩, by simp [inAll, a3, a4]⟩
        rw [this]; rfl
      · have hgo : has (l.take (i + 1)) r = false := by
          rw [Hsn.out]; unfold has; rw [mem_append, mem_one]
          have h0 := Hno.out
          unfold has at h0
          by_cases hin : p.1 ≤ r ∧ r ≤ p.2
          · have : inAll r = false := by simp [inAll]; omega
            simp [this]
          · have : (decide (p.1 ≤ r) && decide (r ≤ p.2)) = false := by simp; omega
            rw [this, Bool.or_false]; exact h0
        by_cases g1 : p.1 ≤ r
        · by_cases g2 : r ≤ p.2
          · by_cases g3 : 0 ≤ r
            · have g4 : 1114111 < r := by omega
              go_wp2_with fail
              go_round
              case rel => exact ⟨i + 1, by go_num, by omega, hgo⟩
              case measure => simp [intOf]; omega
            · go_wp2_with fail
              go_round
              case rel => exact ⟨i + 1, by go_num, by omega, hgo⟩
              case measure => simp [intOf]; omega
          · go_wp2_with fail
            go_round
            case rel => exact ⟨i + 1, by go_num, by omega, hgo⟩
            case measure => simp [intOf]; omega
        · go_wp2_with fail
          go_round
          case rel => exact ⟨i + 1, by go_num, by omega, hgo⟩
          case measure => simp [intOf]; omega
    · go_wp2_with fail
      go_ret
      have h0 := Hno.out
      rw [List.take_of_length_le (by omega)] at h0
      exact ⟨by rw [h0]; rfl, rfl⟩

theorem take_snoc_of {α : Type} {l : List α} {i : Nat} {x : α} (h : l[i]? = some x) : l.take (i + 1) = l.take i ++ [x] := by rw [List.take_add_one, h]; rfl

end Go.Proofs.Ytinogeobkljngaa
end
section
namespace Go.Proofs.Ytinogeobkljngaa
open Go.RowKit Go.Shelf Go.Lib Go.Sort
set_option linter.unusedVariables false
set_option linter.unusedSimpArgs false
set_option maxRecDepth 100000

def encRl (x : Int × Int) : List Value := [.int .i64 x.1, .int .i64 x.2]

theorem isNaN_any (x : Int) (w : World) : Calls Try.prog 56 #[.int .i64 x] w fun e w' => e = .returned (.bool false) ∧ w = w' := by
  have h : (x != x) = false := by simp
  go_enter Try.func56, Try.ntmps56
  go_wp2
  go_ret
  exact ⟨rfl, rfl⟩

def cmpI (x y : Int) : Int := if x < y then -1 else if y < x then 1 else 0
theorem compare_any (x y : Int) (w : World) : Calls Try.prog 44 #[.int .i64 x, .int .i64 y] w fun e w' => e = .returned (.int .i64 (cmpI x y)) ∧ w = w' := by
  by_cases h1 : x < y
  · have HV := Lib.hid (show cmpI x y = -1 from if_pos h1)
    go_enter Try.func44, Try.ntmps44
    go_wp2_with (go_at_call 56; refine (isNaN_any _ _).mono ?_; rintro e w' ⟨rfl, rfl⟩)
    go_ret
    exact ⟨by rw [HV.out]; rfl, rfl⟩
  · by_cases h2 : y < x
    · have HV := Lib.hid (show cmpI x y = 1 by unfold cmpI; rw [if_neg h1, if_pos h2])
      go_enter Try.func44, Try.ntmps44
      go_wp2_with (go_at_call 56; refine (isNaN_any _ _).mono ?_; rintro e w' ⟨rfl, rfl⟩)
      go_ret
      exact ⟨by rw [HV.out]; rfl, rfl⟩
    · have HV := Lib.hid (show cmpI x y = 0 by unfold cmpI; rw [if_neg h1, if_neg h2])
      go_enter Try.func44, Try.ntmps44
      go_wp2_with (go_at_call 56; refine (isNaN_any _ _).mono ?_; rintro e w' ⟨rfl, rfl⟩)
      go_ret
      exact ⟨by rw [HV.out]; rfl, rfl⟩

def cmpLo (x y : Int × Int) : Int := cmpI x.1 y.1

theorem closureLo (x y : Int × Int) (W : World) : Calls Try.prog 43 #[.agg #[.int .i64 x.1, .int .i64 x.2], .agg #[.int .i64 y.1, .int .i64 y.2]] W fun e w' => e = .returned (.int .i64 (cmpLo x y)) ∧ ∃ q os', w' = grow (W.drewN q) os' := by
  go_enter Try.func43, Try.ntmps43
  go_wp2_with fail
  refine (compare_any _ _ _).mono ?_
  rintro e w' ⟨rfl, rfl⟩
  go_wp2_with fail
  go_ret
  exact ⟨rfl, 0, _, by rw [alloc_eq_grow, alloc_eq_grow, grow_grow]; rfl⟩

theorem swoLo : SWO (ltOf cmpLo) := by
  have key : ∀ x y : Int × Int, ltOf cmpLo x y = decide (x.1 < y.1) := by
    intro x y
    unfold ltOf cmpLo cmpI
    by_cases h1 : x.1 < y.1
    · simp [h1]
    · by_cases h2 : y.1 < x.1 <;> simp [h1, h2]
  exact ⟨fun x => by rw [key]; simp, fun x y z h1 h2 => by rw [key] at *; simp at *; omega, fun x y z h1 h2 => by rw [key] at *; simp at *; omega⟩
theorem ltLo (x y : Int × Int) : ltOf cmpLo x y = decide (x.1 < y.1) := by
  unfold ltOf cmpLo cmpI
  by_cases h1 : x.1 < y.1
  · simp [h1]
  · by_cases h2 : y.1 < x.1 <;> simp [h1, h2]

theorem keeps_sortWorld {α : Type} [Inhabited α] (enc : α → List Value) (k : Nat) (w : World) (blk off n : Nat) (d : Array α) (os : Array Obj) : Keeps (fun b => b = blk) w (sortWorldK enc k w blk off n d os) := by
  unfold sortWorldK grow putRowK putRow mapBlock
  refine ⟨rfl, rfl, rfl, ?_, fun j hj hs => ?_⟩
  · show w.heap.size ≤ ((w.heap.modify blk _) ++ os).size
    simp
  · show ((w.heap.modify blk _) ++ os)[j]? = _
    rw [Array.getElem?_append_left (by simpa using hj), Array.getElem?_modify, if_neg (fun e => hs e.symm)]

theorem sort_any (l : List (Int × Int)) (v : Value) (base : Nat) (w : World) (h : w.ownsRow base 57 2 v l.length (cellsOf 2 encR l)) (hl : l.length < 1000000) :
    Calls Try.prog 42 #[v, .func (.func 43) #[] #[]] w fun e w' => e = .returned (.tuple #[]) ∧
      ∃ l', l'.Perm l ∧ l'.Pairwise (fun a b => a.1 ≤ b.1) ∧ SlOf 2 encR w' v l' ∧ Keeps (fun b => v.ownBlock = some b) w w' := by
  rcases h.2 with ⟨rfl, h0⟩ | ⟨g, cap, cur, rfl, hg, hh, hn, hcap, _⟩
  · have hl0 : l = [] := List.length_eq_zero_iff.1 h0
    subst hl0
    have hc := AnyF.slices_SortFunc_none Try.sortR none 0 (.func (.func 43) #[] #[]) w
    change Calls Try.prog 42 _ _ _ at hc
    refine hc.mono ?_
    rintro e w' ⟨rfl, rfl⟩
    exact ⟨rfl, [], List.Perm.refl _, List.Pairwise.nil, SlOf.nil _ _ _, Keeps.refl _ _⟩
  · have eg : ∀ args w, (callFunc 43 args).run Try.prog w = .ok (.enter 43 args) w := enters_of Try.func43 (by kernel_rfl) rfl
    have hcell := h.cellAt
    have hfz := h.frozenAt
    have hH : HoldsK encRl 2 w g 0 l.toArray := by
      intro j hj
      rw [size_flatK] at hj
      have hj' : j < l.length * 2 := by simpa using hj
      refine ⟨?_, hfz _⟩
      rw [get_flatK _ _ _ _ hj, Nat.zero_add, hcell j hj']
      obtain ⟨x, hx⟩ : ∃ x, l[j / 2]? = some x := ⟨_, List.getElem?_eq_getElem (by omega)⟩
      have h1 := cellsOf_get 2 encR l (j / 2) x hx (j % 2) (by omega)
      rw [show j / 2 * 2 + j % 2 = j by omega] at h1
      rw [h1]
      have h2 : l.toArray[j / 2]! = x := by
        rw [getElem!_def]; simp [hx]
      rw [h2]
      have : j % 2 = 0 ∨ j % 2 = 1 := by omega
      rcases this with e | e <;> simp [e, encR, encRl]
    have hc := AnyQ.slices_SortFunc Try.sortR 2 Try.isAgg57 Try.sizeOf57 encRl (fun _ => rfl) (fun x v hv => by simp [encRl] at hv; rcases hv with rfl | rfl <;> rfl) cmpLo swoLo 43 #[] g 0 cap l.toArray w eg (fun _ _ _ _ x y => closureLo x y _) hH (Array.getElem?_eq_some_iff.1 hh).1 (by simp; omega)
    change Calls Try.prog 42 _ _ _ at hc
    simp only [List.size_toArray] at hc
    refine hc.mono ?_
    rintro e w' ⟨rfl, d', n, os, hp, hs, rfl⟩
    have hsz : d'.size = l.length := by simpa using hp.1
    have hHs : HoldsK encRl 2 (sortWorldK encRl 2 w g 0 n d' os) g 0 d' := holdsK_sortWorldK encRl 2 w g 0 n l.toArray d' os (Array.getElem?_eq_some_iff.1 hh).1 hH (by simpa using hp.1)
    refine ⟨rfl, d'.toList, ?_, ?_, ⟨some ⟨g, 0, none⟩, cap, by simp [hsz], by simp; omega, by simp; omega, fun _ => ⟨g, 0, rfl, fun i x hx j hj => ?_⟩⟩, (keeps_sortWorld encRl 2 w g 0 n d' os).mono (fun b _ hb => by subst hb; rfl)⟩
    · have h3 := hp.2.2
      rw [show d'.extract 0 l.length = d' by rw [← hsz]; simp] at h3
      rw [show l.toArray.extract 0 l.length = l.toArray by rw [show l.length = l.toArray.size by simp]; simp] at h3
      simpa using h3
    · rw [List.pairwise_iff_getElem]
      intro i j hi hj hij
      have h4 := hs i j (Nat.zero_le _) hij (by simpa [hsz] using hj)
      rw [ltLo] at h4
      rw [getElem!_pos d' i (by simpa using hi), getElem!_pos d' j (by simpa using hj)] at h4
      simp at h4
      simpa using h4
    · have hi : i < d'.size := by
        rcases Nat.lt_or_ge i d'.size with h5 | h5
        · exact h5
        · rw [List.getElem?_eq_none (by simpa using h5)] at hx; cases hx
      have h6 := (hHs.cell hi hj).1
      rw [h6]
      have h7 : d'[i]! = x := by
        rw [getElem!_pos d' i hi]
        rw [Array.getElem?_toList, Array.getElem?_eq_getElem hi] at hx
        exact Option.some.inj hx
      rw [h7]
      have : j = 0 ∨ j = 1 := by omega
      rcases this with rfl | rfl <;> rfl
end Go.Proofs.Ytinogeobkljngaa
end
section
namespace Go.Proofs.Ytinogeobkljngaa
set_option linter.unusedVariables false
set_option linter.unusedSimpArgs false

def clampOne (p : Int × Int) : Int × Int := (max p.1 0, min p.2 1114111)
def clampL (l : List (Int × Int)) : List (Int × Int) := (l.map clampOne).filter fun p => decide (p.1 ≤ p.2)
theorem clampL_snoc (l : List (Int × Int)) (p : Int × Int) : clampL (l ++ [p]) = clampL l ++ (if (clampOne p).1 ≤ (clampOne p).2 then [clampOne p] else []) := by
  unfold clampL
  rw [List.map_append, List.filter_append]
  congr 1
  by_cases h : (clampOne p).1 ≤ (clampOne p).2 <;> simp [h]
theorem clampL_length (l : List (Int × Int)) : (clampL l).length ≤ l.length := by
  unfold clampL; have := List.length_filter_le (fun p => decide (p.1 ≤ p.2)) (l.map clampOne); simpa using this
theorem clampL_good (l : List (Int × Int)) : ∀ p ∈ clampL l, 0 ≤ p.1 ∧ p.1 ≤ p.2 ∧ p.2 ≤ 1114111 := by
  intro p hp
  have h := List.mem_filter.1 hp
  obtain ⟨q, hq, rfl⟩ := List.mem_map.1 h.1
  have := of_decide_eq_true h.2
  refine ⟨?_, this, ?_⟩ <;> unfold clampOne <;> simp only <;> omega
theorem clampL_mem (l : List (Int × Int)) (r : Int) : mem (clampL l) r = has l r := by
  rw [Bool.eq_iff_iff]
  unfold has
  rw [mem_iff, Bool.and_eq_true, mem_iff]
  constructor
  · rintro ⟨p, hp, h1, h2⟩
    have h := List.mem_filter.1 hp
    obtain ⟨q, hq, rfl⟩ := List.mem_map.1 h.1
    unfold clampOne at h1 h2
    simp only at h1 h2
    exact ⟨⟨q, hq, by omega, by omega⟩, by simp [inAll]; omega⟩
  · rintro ⟨⟨q, hq, h1, h2⟩, h3⟩
    simp [inAll] at h3
    refine ⟨clampOne q, List.mem_filter.2 ⟨List.mem_map.2 ⟨q, hq, rfl⟩, ?_⟩, ?_, ?_⟩ <;> unfold clampOne <;> simp only
    · rw [decide_eq_true_eq]; omega
    · omega
    · omega

def mstep (out : List (Int × Int)) (x : Int × Int) : List (Int × Int) :=
  match out.getLast? with
  | none => out ++ [x]
  | some q => if x.1 ≤ q.2 + 1 then out.dropLast ++ [(q.1, max q.2 x.2)] else out ++ [x]
theorem mstep_nil (x : Int × Int) : mstep [] x = [x] := rfl
theorem mstep_join (l : List (Int × Int)) (q x : Int × Int) (h : x.1 ≤ q.2 + 1) : mstep (l ++ [q]) x = l ++ [(q.1, max q.2 x.2)] := by simp [mstep, h]
theorem mstep_more (l : List (Int × Int)) (q x : Int × Int) (h : ¬ x.1 ≤ q.2 + 1) : mstep (l ++ [q]) x = l ++ [q] ++ [x] := by simp [mstep, h]
theorem mstep_length (l : List (Int × Int)) (x : Int × Int) : (mstep l x).length ≤ l.length + 1 := by
  rcases List.eq_nil_or_concat l with rfl | ⟨m, q, rfl⟩
  · simp [mstep_nil]
  · rw [List.concat_eq_append]
    by_cases h : x.1 ≤ q.2 + 1
    · rw [mstep_join m q x h]; simp
    · rw [mstep_more m q x h]; simp
def mergeL (l : List (Int × Int)) : List (Int × Int) := l.foldl mstep []
theorem mergeL_snoc (l : List (Int × Int)) (x : Int × Int) : mergeL (l ++ [x]) = mstep (mergeL l) x := by simp [mergeL]
theorem mergeL_length (l : List (Int × Int)) : (mergeL l).length ≤ l.length := by
  have key : ∀ (m out : List (Int × Int)), (m.foldl mstep out).length ≤ out.length + m.length := by
    intro m
    induction m with
    | nil => intro out; simp
    | cons x m ih => intro out; have h1 := ih (mstep out x); have h2 := mstep_length out x; simp only [List.foldl_cons, List.length_cons]; omega
  simpa [mergeL] using key l []

theorem mstep_ok (out : List (Int × Int)) (x : Int × Int) (h : Norm out) (hx : 0 ≤ x.1 ∧ x.1 ≤ x.2 ∧ x.2 ≤ 1114111) (hle : ∀ p ∈ out, p.1 ≤ x.1) :
    Norm (mstep out x) ∧ (∀ r, mem (mstep out x) r = (mem out r || (decide (x.1 ≤ r) && decide (r ≤ x.2)))) ∧ ∀ p ∈ mstep out x, p.1 ≤ x.1 := by
  rcases List.eq_nil_or_concat out with rfl | ⟨m, q, rfl⟩
  · rw [mstep_nil]
    exact ⟨⟨hx.1, hx.2.1, hx.2.2, by simp, trivial⟩, fun r => by rw [mem_one, mem_nil, Bool.false_or], by simp⟩
  · rw [List.concat_eq_append] at h hle ⊢
    obtain ⟨hm, q0, q1, q2, q3⟩ := norm_last m q h
    have hq := hle q (by simp)
    by_cases hj : x.1 ≤ q.2 + 1
    · rw [mstep_join m q x hj]
      refine ⟨norm_append m _ hm q0 (by simp only; omega) (by simp only; omega) q3, fun r => ?_, ?_⟩
      · rw [mem_append, mem_append, mem_one, mem_one, Bool.or_assoc]
        congr 1
        rw [Bool.eq_iff_iff]; simp only [Bool.and_eq_true, Bool.or_eq_true, decide_eq_true_eq]; omega
      · intro p hp
        rcases List.mem_append.1 hp with hp | hp
        · exact hle p (List.mem_append_left _ hp)
        · simp at hp; subst hp; exact hq
    · rw [mstep_more m q x hj]
      refine ⟨norm_append (m ++ [q]) x h hx.1 hx.2.1 hx.2.2 ?_, fun r => by rw [mem_append (m ++ [q]), mem_one], ?_⟩
      · intro p hp
        rcases List.mem_append.1 hp with hp | hp
        · have := q3 p hp; omega
        · simp at hp; subst hp; omega
      · intro p hp
        rcases List.mem_append.1 hp with hp | hp
        · exact hle p hp
        · simp at hp; subst hp; exact Int.le_refl _

theorem mergeL_ok (l : List (Int × Int)) (hg : ∀ p ∈ l, 0 ≤ p.1 ∧ p.1 ≤ p.2 ∧ p.2 ≤ 1114111) (hs : l.Pairwise (fun a b => a.1 ≤ b.1)) :
    Norm (mergeL l) ∧ ∀ r, mem (mergeL l) r = mem l r := by
  have key : ∀ (m out done : List (Int × Int)), Norm out → (∀ r, mem out r = mem done r) → (∀ p ∈ out, ∀ x ∈ m, p.1 ≤ x.1) → (∀ p ∈ m, 0 ≤ p.1 ∧ p.1 ≤ p.2 ∧ p.2 ≤ 1114111) → m.Pairwise (fun a b => a.1 ≤ b.1) →
      Norm (m.foldl mstep out) ∧ ∀ r, mem (m.foldl mstep out) r = mem (done ++ m) r := by
    intro m
    induction m with
    | nil => intro out done hn hm _ _ _; exact ⟨hn, fun r => by simpa using hm r⟩
    | cons x m ih =>
      intro out done hn hm hle hgo hpw
      obtain ⟨a, b, c⟩ := mstep_ok out x hn (hgo x List.mem_cons_self) (fun p hp => hle p hp x List.mem_cons_self)
      have hpw' := List.pairwise_cons.1 hpw
      have := ih (mstep out x) (done ++ [x]) a (fun r => by rw [b, mem_append, mem_one, hm]) (fun p hp y hy => Int.le_trans (c p hp) (hpw'.1 y hy)) (fun p hp => hgo p (List.mem_cons_of_mem _ hp)) hpw'.2
      refine ⟨this.1, fun r => ?_⟩
      have h2 := this.2 r
      simp only [List.foldl_cons]
      rw [h2]; simp
  have := key l [] [] trivial (fun _ => rfl) (by simp) hg hs
  exact ⟨this.1, fun r => by have := this.2 r; simpa [mergeL] using this⟩

theorem mem_perm {a b : List (Int × Int)} (h : a.Perm b) (r : Int) : mem a r = mem b r := by
  rw [Bool.eq_iff_iff, mem_iff, mem_iff]
  exact ⟨fun ⟨p, hp, hr⟩ => ⟨p, h.mem_iff.1 hp, hr⟩, fun ⟨p, hp, hr⟩ => ⟨p, h.mem_iff.2 hp, hr⟩⟩

/-- The whole: whatever order the sort leaves equals in. -/
theorem of_ok (rs l : List (Int × Int)) (hp : l.Perm (clampL rs)) (hs : l.Pairwise (fun a b => a.1 ≤ b.1)) : IsOf rs (mergeL l) := by
  have h := mergeL_ok l (fun p hp' => clampL_good rs p (hp.mem_iff.1 hp')) hs
  exact ⟨h.1, fun r => by rw [h.2, mem_perm hp, clampL_mem]⟩
end Go.Proofs.Ytinogeobkljngaa
end
