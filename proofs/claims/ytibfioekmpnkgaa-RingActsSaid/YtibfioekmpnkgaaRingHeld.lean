/-
  The walk of ring.Held, and of ring.New.
-/
import Derived.Test.YtibfioekmpnkgaaRingA
namespace Go.Proofs.Ytibfioekmpnkgaa
open Go.RowKit
set_option linter.unusedVariables false
set_option linter.unusedSimpArgs false

/-- The places of the items that are held, in the tickets' order: the first k tickets from next on. -/
def heldIx (next : Int) (n : Nat) (u : Nat → Bool) (k : Nat) : List Nat := ((List.range k).map fun (i : Nat) => ((next + i) % n).toNat).filter u
def heldCells (g : Nat → Nat → Value) (l : List Nat) : List Value := l.flatMap fun p => [g p 0, g p 1, g p 2, g p 3, g p 4, g p 5, g p 6]
theorem heldCells_length (g : Nat → Nat → Value) (l : List Nat) : (heldCells g l).length = l.length * 7 := by
  induction l with
  | nil => rfl
  | cons a l ih => simp only [heldCells, List.flatMap_cons, List.length_append, List.length_cons, List.length_nil] at ih ⊢; omega
theorem heldIx_le (next : Int) (n : Nat) (u : Nat → Bool) (k : Nat) : (heldIx next n u k).length ≤ k := by
  unfold heldIx; have := List.length_filter_le u ((List.range k).map fun (i : Nat) => ((next + i) % n).toNat); simpa using this
theorem heldIx_yes (next : Int) (n : Nat) (u : Nat → Bool) (k p : Nat) (hp : ((next + k) % n).toNat = p) (hu : u p = true) : heldIx next n u (k + 1) = heldIx next n u k ++ [p] := by
  simp [heldIx, List.range_succ, hp, hu]
theorem heldIx_no (next : Int) (n : Nat) (u : Nat → Bool) (k p : Nat) (hp : ((next + k) % n).toNat = p) (hu : u p = false) : heldIx next n u (k + 1) = heldIx next n u k := by
  simp [heldIx, List.range_succ, hp, hu]
theorem info_item : (Try.prog.info? 34).map (fun i => (i.zero, i.size, i.bytes)) = some (some (.agg #[.int .i64 0, .int .i64 0, .int .i64 0, .int .i64 0, .string ⟨#[]⟩, .slice none 0 0, .int .i64 0]), 7, 80) := by kernel_rfl

theorem held_any (rb pb n : Nat) (next : Int) (g : Nat → Nat → Value) (u : Nat → Bool) (w : World) (hR : RingAt w rb pb n next g) (hu : ∀ i < n, g i 7 = .bool (u i))
    (hone : ∀ i < n, u i = true → ∀ j < 7, (g i j).oneCell' = true) :
    Calls Try.prog 23 #[.pointer (some ⟨rb, 0, none⟩)] w
      fun e w' => ∃ v, e = .returned v ∧ w'.ownsRow w.heap.size 34 7 v (heldIx next n u n).length (heldCells g (heldIx next n u n)) ∧ Keeps (fun _ => False) w w' := by
  have h0 := hR.hd0
  have x0 := hR.x0
  have x1 := hR.x1
  have n1 := hR.n1
  have n64 := hR.n64
  obtain ⟨i0, hi, hz0, hz1, hz2⟩ := info_parts info_item
  have Hu := Lib.hid hu
  have Hone := Lib.hid hone
  clear hu hone
  go_enter Try.func23, Try.ntmps23
  go_wp2
  go_loopw [3, 11] (fun v i wr => ∃ k : Nat, k ≤ n ∧ i = .int .i64 k ∧ wr.ownsRow w.heap.size 34 7 v (heldIx next n u k).length (heldCells g (heldIx next n u k)) ∧ Keeps (fun _ => False) w wr)
    (fun _ i _ => n - (intOf i).toNat)
  case atStart => exact ⟨0, Nat.zero_le _, rfl, World.ownsRow_nil _ _ _ _, Keeps.refl _ _⟩
  case round =>
    obtain ⟨k, hk, rfl, hown, hkp⟩ := hrel
    have hRr := hR.keeps hkp id id
    have hr0 := hRr.hd0
    have hr1 := hRr.hd1
    have hm1 := Int.emod_nonneg (next + k) (b := (n : Int)) (by omega)
    have hm2 := Int.emod_lt_of_pos (next + k) (b := (n : Int)) (by omega)
    by_cases hlt : k < n
    · obtain ⟨p, hp⟩ : ∃ p, ((next + k) % n).toNat = p := ⟨_, rfl⟩
      have hpn : p < n := by omega
      have hc7 := hRr.cells p hpn 7 (by omega)
      rw [Hu.out p hpn] at hc7
      have hle := heldIx_le next n u k
      go_wp2_with fail
      refine (at_any rb pb n (next + k) _ ?_ n64 n1 (by omega) (by omega)).mono ?_
      exact hr0
      rintro e w' ⟨rfl, m2, rfl⟩
      rw [hp]
      have Hp := Lib.hid hp
      clear hp
      cases hup : u p
      · rw [hup] at hc7
        go_wp2
        go_roundw
        case rel => exact ⟨k + 1, by omega, by go_num, by rw [heldIx_no next n u k p Hp.out hup]; exact ownsRow_drawN hown _, hkp.drawN _⟩
        case measure => simp [intOf]; omega
      · rw [hup] at hc7
        have hc0 : wr.cell? ⟨pb, p * 8, none⟩ = some (g p 0) := hRr.cells p hpn 0 (by omega)
        have hc1 := hRr.cells p hpn 1 (by omega)
        have hc2 := hRr.cells p hpn 2 (by omega)
        have hc3 := hRr.cells p hpn 3 (by omega)
        have hc4 := hRr.cells p hpn 4 (by omega)
        have hc5 := hRr.cells p hpn 5 (by omega)
        have hc6 := hRr.cells p hpn 6 (by omega)
        have hsz := hkp.size
        go_wp2_with (at_builtin; refine wpList_append_own _ rfl (.tmp 26) (.tmp 31) 41 rfl w.heap.size 34 i0 _ 7 80 Try.underlying41 hi hz0 hz1 hz2 rfl (by decide) _ _ _ rfl (ownsRow_alloc (ownsRow_drawN hown _) _) ⟨wr.heap.size, 0, none⟩ 1 1 [g p 0, g p 1, g p 2, g p 3, g p 4, g p 5, g p 6] rfl rfl ?c1 ?c2 ?c3 ?c4 ?c5 ?_)
        case c1 => exact cells_new _ _ _
        case c2 =>
          intro x hx
          have ho := fun j hj => Hone.out p hpn hup j hj
          simp only [List.mem_cons, List.not_mem_nil, or_false] at hx
          rcases hx with rfl | rfl | rfl | rfl | rfl | rfl | rfl <;> exact ho _ (by omega)
        case c3 => unfold maxLen; omega
        case c4 => omega
        case c5 => simp; omega
        intro v' w1 hown' hgrow _
        have hstep := heldIx_yes next n u k p Hp.out hup
        have hown2 : w1.ownsRow w.heap.size 34 7 v' (heldIx next n u (k + 1)).length (heldCells g (heldIx next n u (k + 1))) := by
          rw [hstep]; simpa [heldCells] using hown'
        have hk2 : Keeps (fun _ => False) w w1 := ((hkp.drawN _).alloc _).grown hgrow (fun b hb => Or.inr (ownBlock_base hown b hb))
        clear hown hown' hgrow hstep hc0 hc1 hc2 hc3 hc4 hc5 hc6 hc7
        go_wp2
        go_roundw
        case rel => exact ⟨k + 1, by omega, by go_num, hown2, hk2⟩
        case measure => simp [intOf]; omega
    · go_wp2
      go_ret
      have : k = n := by omega
      subst this
      exact ⟨_, rfl, hown, hkp⟩

theorem info_place : (Try.prog.info? 80).map (fun i => (i.zero, i.size, i.bytes)) = some (some (.agg #[.int .i64 0, .int .i64 0, .int .i64 0, .int .i64 0, .string ⟨#[]⟩, .slice none 0 0, .int .i64 0, .bool false]), 8, 88) := by kernel_rfl

theorem new_bad (n : Int) (w : World) (h : n < 1 ∨ 64 < n) :
    Calls Try.prog 13 #[.int .i64 n] w fun e w' => e = .returned (.tuple #[.pointer none, .int .i64 2]) ∧ w = w' := by
  rcases h with h | h
  · go_enter Try.func13, Try.ntmps13
    go_wp2
    go_ret2
    exact ⟨rfl, rfl⟩
  · have h1 : ¬ n < 1 := by omega
    go_enter Try.func13, Try.ntmps13
    go_wp2
    go_ret2
    exact ⟨rfl, rfl⟩

theorem made_place (i j : Nat) (hj : j < 8) (n : Nat) (hi : i < n) :
    (madeCells #[.int .i64 0, .int .i64 0, .int .i64 0, .int .i64 0, .string ⟨#[]⟩, .slice none 0 0, .int .i64 0, .bool false] (n * 8)).toList[i * 8 + j]? = some (emptyPlc j) := by
  have h1 : i * 8 + j < n * 8 := by omega
  have h2 : (i * 8 + j) % 8 = j := by omega
  simp only [madeCells, Array.getElem?_toList, Array.getElem?_map, Array.getElem?_range, List.size_toArray, List.length_cons, List.length_nil, Nat.reduceAdd, h1, ↓reduceIte, Option.map_some, h2]
  have : j = 0 ∨ j = 1 ∨ j = 2 ∨ j = 3 ∨ j = 4 ∨ j = 5 ∨ j = 6 ∨ j = 7 := by omega
  rcases this with rfl | rfl | rfl | rfl | rfl | rfl | rfl | rfl <;> rfl

set_option maxRecDepth 100000 in
theorem new_ok (n : Nat) (w : World) (h1 : 1 ≤ n) (h64 : n ≤ 64) :
    Calls Try.prog 13 #[.int .i64 n] w fun e w' => ∃ rb pb, e = .returned (.tuple #[.pointer (some ⟨rb, 0, none⟩), .int .i64 0]) ∧
      RingAt w' rb pb n 0 (fun _ j => emptyPlc j) ∧ w.heap.size ≤ rb ∧ w.heap.size ≤ pb ∧ Keeps (fun _ => False) w w' := by
  obtain ⟨i0, hi, hz0, hz1, hz2⟩ := info_parts info_place
  go_enter Try.func13, Try.ntmps13
  go_wp2_with (at_make; go_must (refine wpList_make_full _ rfl _ _ 76 rfl w.heap.size 80 i0 _ 8 Try.underlying76 hi hz0 hz1 .i64 .i64 _ _ n rfl rfl rfl rfl ?c1 ?c2 ?c3 ?_))
  case c1 => rw [hz2]; omega
  case c2 => unfold maxLen; omega
  case c3 => exact Nat.le_refl _
  intro w1 hown hg
  have hlt : w.heap.size < w1.heap.size := by
    rcases hown.2 with ⟨h, _⟩ | ⟨g, cap, cur, h, _, hh, _⟩
    · simp at h
    · simp at h; obtain ⟨rfl, rfl⟩ := h; exact (Array.getElem?_eq_some_iff.1 hh).1
  go_wp2
  go_ret2
  refine ⟨_, _, rfl, ?_, ?_, Nat.le_refl _, ((Keeps.refl _ _).grown hg (by simp)).alloc _⟩
  · refine ⟨?_, ?_, by simp, by simp; omega, ?_, ?_, ?_, by omega, h1, h64, by omega, by omega⟩
    · simp
    · simp
    · intro o; exact frozen_block (cs := #[.slice (some ⟨w.heap.size, 0, none⟩) n n, .int .i64 0]) (T := 78) (by show (w1.heap.push _)[_]? = _; simp) o none
    · intro o; exact alloc_frozen (hown.frozenAt o) hlt _
    · intro i hi j hj
      refine alloc_cell ?_ _
      rw [hown.cellAt (i * 8 + j) (by omega)]
      exact made_place i j hj n hi
  · exact Nat.le_of_lt hlt
end Go.Proofs.Ytibfioekmpnkgaa
