/-
  The ring as a whole: which tickets it has, and their items; each method's contract said of that.
-/
import Derived.Test.YtibfioekmpnkgaaRingAwake
namespace Go.Proofs.Ytibfioekmpnkgaa
open Go.RowKit
set_option linter.unusedVariables false
set_option linter.unusedSimpArgs false
set_option maxRecDepth 100000

/-- An item's values. -/
structure ItemV where
  N : Int
  Buf : Int
  RN : Int
  RA : Int
  text : ByteArray
  ha : Option Addr
  hl : Nat
  hc : Nat
  err : Int
def ItemV.val (x : ItemV) : Value := .agg #[.int .i64 x.N, .int .i64 x.Buf, .int .i64 x.RN, .int .i64 x.RA, .string x.text, .slice x.ha x.hl x.hc, .int .i64 x.err]
def ItemV.cell (x : ItemV) : Nat → Value := plc (.int .i64 x.N) (.int .i64 x.Buf) (.int .i64 x.RN) (.int .i64 x.RA) (.string x.text) (.slice x.ha x.hl x.hc) (.int .i64 x.err) (.bool true)

theorem mod_inj' (k given a b : Nat) (ha : given ≤ a) (ha' : a < given + k) (hb : given ≤ b) (hb' : b < given + k) (h : a % k = b % k) : a = b := by
  have h1 := Nat.div_add_mod a k
  have h2 := Nat.div_add_mod b k
  rw [h] at h1
  rcases Nat.lt_trichotomy (a / k) (b / k) with hh | hh | hh
  · have : k * (a / k) + k ≤ k * (b / k) := by rw [← Nat.mul_succ]; exact Nat.mul_le_mul_left _ hh
    omega
  · rw [hh] at h1; omega
  · have : k * (b / k) + k ≤ k * (a / k) := by rw [← Nat.mul_succ]; exact Nat.mul_le_mul_left _ hh
    omega
theorem toNat_mod' (a k : Nat) : ((a : Int) % (k : Int)).toNat = a % k := by rw [← Int.natCast_emod, Int.toNat_natCast]

structure RingHas (w : World) (rb pb k nx : Nat) (hd : Nat → Bool) (it : Nat → ItemV) : Prop where
  ring : ∃ g, RingAt w rb pb k nx g ∧ ∀ t, nx ≤ t → t < nx + k → g (t % k) 7 = .bool (hd t) ∧ (hd t = true → ∀ j, j < 7 → g (t % k) j = (it t).cell j)
  out : ∀ t, nx + k ≤ t → hd t = false

theorem RingHas.keeps {S : Nat → Prop} {w w' : World} {rb pb k nx : Nat} {hd : Nat → Bool} {it : Nat → ItemV} (h : RingHas w rb pb k nx hd it) (K : Keeps S w w') (h1 : ¬ S rb) (h2 : ¬ S pb) : RingHas w' rb pb k nx hd it := by
  obtain ⟨⟨g, hR, hg⟩, ho⟩ := h
  exact ⟨⟨g, hR.keeps K h1 h2, hg⟩, ho⟩
theorem RingHas.k1 {w : World} {rb pb k nx : Nat} {hd : Nat → Bool} {it : Nat → ItemV} (h : RingHas w rb pb k nx hd it) : 1 ≤ k := by obtain ⟨⟨g, hR, _⟩, _⟩ := h; exact hR.n1
theorem RingHas.k64 {w : World} {rb pb k nx : Nat} {hd : Nat → Bool} {it : Nat → ItemV} (h : RingHas w rb pb k nx hd it) : k ≤ 64 := by obtain ⟨⟨g, hR, _⟩, _⟩ := h; exact hR.n64
theorem RingHas.lr {w : World} {rb pb k nx : Nat} {hd : Nat → Bool} {it : Nat → ItemV} (h : RingHas w rb pb k nx hd it) : rb < w.heap.size ∧ pb < w.heap.size := by obtain ⟨⟨g, hR, _⟩, _⟩ := h; exact ⟨hR.lr, hR.lp⟩
theorem RingHas.congr {w : World} {rb pb k nx : Nat} {hd hd' : Nat → Bool} {it it' : Nat → ItemV} (h : RingHas w rb pb k nx hd it) (h1 : ∀ t, nx ≤ t → hd t = hd' t) (h2 : ∀ t, nx ≤ t → hd t = true → it t = it' t) : RingHas w rb pb k nx hd' it' := by
  obtain ⟨⟨g, hR, hg⟩, ho⟩ := h
  refine ⟨⟨g, hR, fun t ht ht' => ?_⟩, fun t ht => by rw [← h1 t (by omega)]; exact ho t ht⟩
  rw [← h1 t ht]
  exact ⟨(hg t ht ht').1, fun hh j hj => by rw [(hg t ht ht').2 hh j hj, h2 t ht hh]⟩

theorem spec_new (k : Nat) (w : World) (h1 : 1 ≤ k) (h64 : k ≤ 64) (it : Nat → ItemV) :
    Calls Try.prog 13 #[.int .i64 k] w fun e w' => ∃ rb pb, e = .returned (.tuple #[.pointer (some ⟨rb, 0, none⟩), .int .i64 0]) ∧
      RingHas w' rb pb k 0 (fun _ => false) it ∧ w.heap.size ≤ rb ∧ w.heap.size ≤ pb ∧ Keeps (fun _ => False) w w' := by
  refine (new_ok k w h1 h64).mono ?_
  rintro e w' ⟨rb, pb, he, hR, a, b, c⟩
  exact ⟨rb, pb, he, ⟨⟨_, hR, fun t _ _ => ⟨rfl, fun h => by cases h⟩⟩, fun _ _ => rfl⟩, a, b, c⟩

theorem spec_ticket {w : World} {rb pb k nx : Nat} {hd : Nat → Bool} {it : Nat → ItemV} (h : RingHas w rb pb k nx hd it) :
    Calls Try.prog 17 #[.pointer (some ⟨rb, 0, none⟩)] w fun e w' => e = .returned (.int .i64 nx) ∧ w = w' := by
  obtain ⟨⟨g, hR, hg⟩, ho⟩ := h
  exact ticket_any rb pb k nx g w hR

theorem spec_ready {w : World} {rb pb k nx : Nat} {hd : Nat → Bool} {it : Nat → ItemV} (h : RingHas w rb pb k nx hd it) :
    Calls Try.prog 15 #[.pointer (some ⟨rb, 0, none⟩)] w fun e w' => e = .returned (.bool (hd nx)) ∧ ∃ m, w' = w.drewN m := by
  have k1 := h.k1
  obtain ⟨⟨g, hR, hg⟩, ho⟩ := h
  exact ready_any rb pb k nx g w _ _ hR (toNat_mod' _ _) (hg nx (by omega) (by omega)).1

theorem spec_room {w : World} {rb pb k nx : Nat} {hd : Nat → Bool} {it : Nat → ItemV} (h : RingHas w rb pb k nx hd it) (t : Int) (ht : t ≤ 9223372036854775807) :
    Calls Try.prog 21 #[.pointer (some ⟨rb, 0, none⟩), .int .i64 t] w fun e w' => e = .returned (.bool (decide ((nx : Int) ≤ t ∧ t < nx + k) && !hd t.toNat)) ∧ ∃ m, w' = w.drewN m := by
  have k1 := h.k1
  obtain ⟨⟨g, hR, hg⟩, ho⟩ := h
  by_cases hw : (nx : Int) ≤ t ∧ t < nx + k
  · obtain ⟨n, rfl⟩ := Int.eq_ofNat_of_zero_le (show 0 ≤ t by omega)
    refine (room_in rb pb k nx _ g w _ _ hR (by omega) (by omega) (toNat_mod' _ _) (hg n (by omega) (by omega)).1).mono ?_
    rintro e w' ⟨rfl, hm⟩
    refine ⟨?_, hm⟩
    simp only [Int.toNat_natCast, hw, and_self, decide_true, Bool.true_and]
  · refine (room_out rb pb k nx t g w hR (by omega) ht).mono ?_
    rintro e w' ⟨rfl, hm⟩
    refine ⟨?_, hm⟩
    simp only [hw, decide_false, Bool.false_and]

/-- What Put answers. -/
def putAns (nx k : Nat) (hd : Nat → Bool) (N : Int) : Int := if N < nx then 2 else if (nx : Int) + k ≤ N then 16 else if hd N.toNat then 2 else 0

theorem spec_put {w : World} {rb pb k nx : Nat} {hd : Nat → Bool} {it : Nat → ItemV} (h : RingHas w rb pb k nx hd it) (x : ItemV) (hN : x.N ≤ 9223372036854775807) :
    Calls Try.prog 14 #[.pointer (some ⟨rb, 0, none⟩), x.val] w fun e w' => e = .returned (.int .i64 (putAns nx k hd x.N)) ∧ Keeps (fun b => b = pb) w w' ∧
      RingHas w' rb pb k nx (if putAns nx k hd x.N = 0 then fun t => if t = x.N.toNat then true else hd t else hd) (if putAns nx k hd x.N = 0 then fun t => if t = x.N.toNat then x else it t else it) := by
  have k1 := h.k1
  have hh := h
  obtain ⟨⟨g, hR, hg⟩, ho⟩ := h
  have mk : ∀ {w' : World}, Keeps (fun _ => False) w w' → Keeps (fun b => b = pb) w w' := fun K => K.mono (fun _ _ hf => hf.elim)
  by_cases h1 : x.N < nx
  · have ea : putAns nx k hd x.N = 2 := by simp [putAns, h1]
    rw [ea]
    refine (put_old rb pb k nx g w x.N _ _ _ _ _ _ rfl hR h1).mono ?_
    rintro e w' ⟨rfl, hR', K⟩
    exact ⟨rfl, mk K, hh.keeps K id id⟩
  by_cases h2 : (nx : Int) + k ≤ x.N
  · have ea : putAns nx k hd x.N = 16 := by simp [putAns, h1, h2]
    rw [ea]
    refine (put_far rb pb k nx g w x.N _ _ _ _ _ _ hR (by omega) hN).mono ?_
    rintro e w' ⟨rfl, hR', K⟩
    exact ⟨rfl, mk K, hh.keeps K id id⟩
  obtain ⟨n, hn⟩ := Int.eq_ofNat_of_zero_le (show 0 ≤ x.N by omega)
  have hm : (x.N % (k : Int)).toNat = n % k := by rw [hn]; exact toNat_mod' _ _
  have htn : x.N.toNat = n := by omega
  have hgn := hg n (by omega) (by omega)
  cases hu : hd n with
  | true =>
    have ea : putAns nx k hd x.N = 2 := by simp only [putAns, h1, h2, if_false, htn, hu, if_true]
    rw [ea]
    refine (put_twice rb pb k nx g w _ x.N _ _ _ _ _ _ hR (by omega) (by omega) hm (by rw [hgn.1, hu])).mono ?_
    rintro e w' ⟨rfl, hR', K⟩
    exact ⟨rfl, mk K, hh.keeps K id id⟩
  | false =>
    have ea : putAns nx k hd x.N = 0 := by simp [putAns, h1, h2, htn, hu]
    rw [ea]
    refine (put_ok rb pb k nx g w _ x.N _ _ _ _ _ _ _ _ hR hm (by rw [hgn.1, hu]) (by omega) (by omega)).mono ?_
    rintro e w' ⟨rfl, hR', K⟩
    refine ⟨rfl, K, ⟨_, hR', fun t ht ht' => ?_⟩, fun t ht => ?_⟩
    · simp only [if_true, htn]
      by_cases e : t = n
      · subst e
        simp only [if_true]
        refine ⟨by simp [plc], fun _ j hj => rfl⟩
      · have e2 : ¬ t % k = n % k := fun h => e (mod_inj' k nx t n ht ht' (by omega) (by omega) h)
        simp only [e, e2, if_false]
        exact hg t ht ht'
    · simp only [if_true, htn]
      rw [if_neg (by omega)]; exact ho t ht

theorem spec_next_yes {w : World} {rb pb k nx : Nat} {hd : Nat → Bool} {it : Nat → ItemV} (h : RingHas w rb pb k nx hd it) (hx : nx < 1000000) (hu : hd nx = true) :
    Calls Try.prog 16 #[.pointer (some ⟨rb, 0, none⟩)] w fun e w' => e = .returned (.tuple #[(it nx).val, .bool true]) ∧
      RingHas w' rb pb k (nx + 1) hd it ∧ Keeps (fun b => b = pb ∨ b = rb) w w' := by
  have k1 := h.k1
  obtain ⟨⟨g, hR, hg⟩, ho⟩ := h
  have hgn := hg nx (by omega) (by omega)
  have hi := hgn.2 hu
  refine (next_yes rb pb k nx g w (nx % k) _ _ _ _ _ _ _ _ _ hR (toNat_mod' _ _) (by omega) (hi 0 (by omega)) (hi 1 (by omega)) (hi 2 (by omega)) (hi 3 (by omega)) (hi 4 (by omega)) (hi 5 (by omega)) (hi 6 (by omega)) (by rw [hgn.1, hu])).mono ?_
  rintro e w' ⟨rfl, hR', K⟩
  refine ⟨rfl, ⟨⟨_, by simpa using hR', fun t ht ht' => ?_⟩, fun t ht => ho t (by omega)⟩, K⟩
  by_cases e : t = nx + k
  · subst e
    have e2 : (nx + k) % k = nx % k := Nat.add_mod_right _ _
    have e3 := ho (nx + k) (Nat.le_refl _)
    simp only [e2, if_true, e3]
    exact ⟨rfl, fun h => by cases h⟩
  · have e2 : ¬ t % k = nx % k := fun h => by have := mod_inj' k nx t nx (by omega) (by omega) (by omega) (by omega) h; omega
    simp only [e2, if_false]
    exact hg t (by omega) (by omega)

theorem spec_next_no {w : World} {rb pb k nx : Nat} {hd : Nat → Bool} {it : Nat → ItemV} (h : RingHas w rb pb k nx hd it) (hu : hd nx = false) :
    Calls Try.prog 16 #[.pointer (some ⟨rb, 0, none⟩)] w fun e w' => e = .returned (.tuple #[.agg #[.int .i64 0, .int .i64 0, .int .i64 0, .int .i64 0, .string ⟨#[]⟩, .slice none 0 0, .int .i64 0], .bool false]) ∧
      RingHas w' rb pb k nx hd it ∧ Keeps (fun _ => False) w w' := by
  have k1 := h.k1
  have hh := h
  obtain ⟨⟨g, hR, hg⟩, ho⟩ := h
  refine (next_no rb pb k nx g w (nx % k) hR (toNat_mod' _ _) (by rw [(hg nx (by omega) (by omega)).1, hu])).mono ?_
  rintro e w' ⟨rfl, hR', K⟩
  exact ⟨rfl, hh.keeps K id id, K⟩

/-- The tickets that the ring has, in order. -/
def ticks (nx k : Nat) (hd : Nat → Bool) : List Nat := ((List.range k).map fun i => nx + i).filter hd
def itemCells (it : Nat → ItemV) (l : List Nat) : List Value := l.flatMap fun t => [(it t).cell 0, (it t).cell 1, (it t).cell 2, (it t).cell 3, (it t).cell 4, (it t).cell 5, (it t).cell 6]

theorem heldIx_ticks (nx k n : Nat) (hk : k ≤ n) (hd u : Nat → Bool) (hu : ∀ t, nx ≤ t → t < nx + n → u (t % n) = hd t) : heldIx nx n u k = (ticks nx k hd).map (· % n) := by
  induction k with
  | zero => rfl
  | succ k ih =>
    have e : ((nx : Int) + (k : Int)) % (n : Int) = (((nx + k) % n : Nat) : Int) := by rw [← Int.natCast_add, Int.natCast_emod]
    have e2 : (((nx : Int) + (k : Int)) % (n : Int)).toNat = (nx + k) % n := by rw [e, Int.toNat_natCast]
    have h1 := hu (nx + k) (by omega) (by omega)
    have h2 : ticks nx (k + 1) hd = ticks nx k hd ++ (if hd (nx + k) then [nx + k] else []) := by
      simp only [ticks, List.range_succ, List.map_append, List.filter_append, List.map_cons, List.map_nil]
      cases hq : hd (nx + k) <;> simp [hq]
    cases hb : hd (nx + k)
    · rw [heldIx_no nx n u k _ e2 (by rw [h1, hb]), ih (by omega), h2, hb]; simp
    · rw [heldIx_yes nx n u k _ e2 (by rw [h1, hb]), ih (by omega), h2, hb]; simp

theorem spec_held {w : World} {rb pb k nx : Nat} {hd : Nat → Bool} {it : Nat → ItemV} (h : RingHas w rb pb k nx hd it) :
    Calls Try.prog 23 #[.pointer (some ⟨rb, 0, none⟩)] w fun e w' => ∃ v, e = .returned v ∧
      w'.ownsRow w.heap.size 34 7 v (ticks nx k hd).length (itemCells it (ticks nx k hd)) ∧ RingHas w' rb pb k nx hd it ∧ Keeps (fun _ => False) w w' := by
  have k1 := h.k1
  have hh := h
  obtain ⟨⟨g, hR, hg⟩, ho⟩ := h
  -- the ticket of a place
  let tk : Nat → Nat := fun p => ((List.range k).map fun i => nx + i).find? (fun t => t % k == p) |>.getD 0
  have htk : ∀ t, nx ≤ t → t < nx + k → tk (t % k) = t := by
    intro t h1 h2
    have hm : t ∈ (List.range k).map fun i => nx + i := List.mem_map.2 ⟨t - nx, List.mem_range.2 (by omega), by omega⟩
    show (List.find? _ _).getD 0 = t
    cases hf : ((List.range k).map fun i => nx + i).find? (fun s => s % k == t % k) with
    | none => have := List.find?_eq_none.1 hf t hm; simp at this
    | some s =>
      have h3 := List.find?_some hf
      have h4 := List.mem_of_find?_eq_some hf
      obtain ⟨i, hi, rfl⟩ := List.mem_map.1 h4
      have hi' := List.mem_range.1 hi
      simp at h3
      simp only [Option.getD_some]
      exact mod_inj' k nx _ _ (by omega) (by omega) h1 h2 h3
  have hsur : ∀ p, p < k → ∃ t, nx ≤ t ∧ t < nx + k ∧ t % k = p := by
    intro p hp
    have h1 := Nat.div_add_mod nx k
    have h2 := Nat.mod_lt nx (show 0 < k by omega)
    by_cases hle : nx % k ≤ p
    · exact ⟨k * (nx / k) + p, by omega, by omega, by rw [Nat.mul_add_mod, Nat.mod_eq_of_lt hp]⟩
    · exact ⟨k * (nx / k) + k + p, by omega, by omega, by rw [Nat.add_assoc, Nat.mul_add_mod, Nat.add_mod_left, Nat.mod_eq_of_lt hp]⟩
  have hu : ∀ t, nx ≤ t → t < nx + k → (fun p => hd (tk p)) (t % k) = hd t := fun t h1 h2 => by show hd (tk (t % k)) = hd t; rw [htk t h1 h2]
  refine (held_any rb pb k nx g (fun p => hd (tk p)) w hR ?_ ?_).mono ?_
  · intro p hp
    obtain ⟨t, h1, h2, rfl⟩ := hsur p hp
    rw [(hg t h1 h2).1, ← hu t h1 h2]
  · intro p hp hup j hj
    obtain ⟨t, h1, h2, rfl⟩ := hsur p hp
    replace hup : hd t = true := by rw [← hu t h1 h2]; exact hup
    rw [(hg t h1 h2).2 hup j hj]
    have : j = 0 ∨ j = 1 ∨ j = 2 ∨ j = 3 ∨ j = 4 ∨ j = 5 ∨ j = 6 := by omega
    rcases this with rfl | rfl | rfl | rfl | rfl | rfl | rfl <;> rfl
  · rintro e w' ⟨v, rfl, hown, K⟩
    rw [heldIx_ticks nx k k (Nat.le_refl _) hd _ hu] at hown
    have hc : heldCells g ((ticks nx k hd).map (· % k)) = itemCells it (ticks nx k hd) := by
      have hall : ∀ t ∈ ticks nx k hd, nx ≤ t ∧ t < nx + k ∧ hd t = true := by
        intro t ht
        have h1 := List.mem_filter.1 ht
        obtain ⟨i, hi, rfl⟩ := List.mem_map.1 h1.1
        have := List.mem_range.1 hi
        exact ⟨by omega, by omega, h1.2⟩
      generalize ticks nx k hd = l at hall
      induction l with
      | nil => rfl
      | cons a l ih =>
        obtain ⟨a1, a2, a3⟩ := hall a List.mem_cons_self
        have hi := (hg a a1 a2).2 a3
        have ih' := ih (fun t ht => hall t (List.mem_cons_of_mem _ ht))
        simp only [heldCells, itemCells, List.map_cons, List.flatMap_cons] at ih' ⊢
        rw [ih', hi 0 (by omega), hi 1 (by omega), hi 2 (by omega), hi 3 (by omega), hi 4 (by omega), hi 5 (by omega), hi 6 (by omega)]
    rw [hc, List.length_map] at hown
    exact ⟨v, rfl, hown, hh.keeps K id id, K⟩

/-- An item that has a number alone. -/
def itemN (n : Nat) : ItemV := ⟨n, 0, 0, 0, ⟨#[]⟩, none, 0, 0, 0⟩

theorem spec_put_ok {w : World} {rb pb k nx : Nat} {hd : Nat → Bool} (n : Nat) (h : RingHas w rb pb k nx hd itemN) (h1 : nx ≤ n) (h2 : n < nx + k) (h3 : hd n = false) (hn : n < 1000000) :
    Calls Try.prog 14 #[.pointer (some ⟨rb, 0, none⟩), .agg #[.int .i64 n, .int .i64 0, .int .i64 0, .int .i64 0, .string ⟨#[]⟩, .slice none 0 0, .int .i64 0]] w fun e w' => e = .returned (.int .i64 0) ∧ Keeps (fun b => b = pb) w w' ∧
      RingHas w' rb pb k nx (fun t => if t = n then true else hd t) itemN := by
  have ea : putAns nx k hd (itemN n).N = 0 := by
    show putAns nx k hd (n : Int) = 0
    simp only [putAns, Int.toNat_natCast, h3]
    rw [if_neg (by omega), if_neg (by omega)]; rfl
  refine (spec_put h (itemN n) (by show (n : Int) ≤ _; omega)).mono ?_
  rintro e w' ⟨rfl, K, hR⟩
  rw [ea] at hR
  refine ⟨by rw [ea], K, hR.congr (fun t _ => rfl) (fun t _ _ => ?_)⟩
  show (if t = Int.toNat (n : Int) then itemN n else itemN t) = itemN t
  rw [Int.toNat_natCast]
  split
  · rename_i e; rw [e]
  · rfl
theorem ticks_all (nx k : Nat) (hd : Nat → Bool) (h : ∀ t, nx ≤ t → t < nx + k → hd t = true) : (ticks nx k hd).length = k := by
  unfold ticks
  rw [List.filter_eq_self.2]
  · simp
  · intro t ht
    obtain ⟨i, hi, rfl⟩ := List.mem_map.1 ht
    exact h _ (by omega) (by have := List.mem_range.1 hi; omega)
theorem ticks_none (nx k : Nat) (hd : Nat → Bool) (h : ∀ t, nx ≤ t → hd t = false) : ticks nx k hd = [] := by
  unfold ticks
  rw [List.filter_eq_nil_iff]
  intro t ht
  obtain ⟨i, hi, rfl⟩ := List.mem_map.1 ht
  simp [h]
end Go.Proofs.Ytibfioekmpnkgaa
