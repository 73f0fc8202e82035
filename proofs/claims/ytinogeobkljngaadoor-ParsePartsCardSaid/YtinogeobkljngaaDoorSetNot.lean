/-
  The walk of set.Not.
-/
import Derived.Test.YtinogeobkljngaaDoorSetFun1
import Derived.Test.YtinogeobkljngaaDoorSetNotP
namespace Go.Proofs.YtinogeobkljngaaDoor
open Go.RowKit
set_option linter.unusedVariables false
set_option linter.unusedSimpArgs false
set_option maxRecDepth 100000

/-- At the loop's head: the row, the next number, the counter. -/
def NotR (w1 : World) (out : List (Int × Int)) (v nx i : Value) (wr : World) : Prop :=
  ∃ (k : Nat) (next : Int) (ns : List (Int × Int)), i = .int .i64 k ∧ nx = .int .i64 next ∧ k ≤ out.length ∧ NotInv out k next ns ∧ ROwn w1 wr v ns

set_option maxHeartbeats 2000000 in
theorem not_any (l : List (Int × Int)) (v : Value) (w : World) (h : RSl w v l) (hl : l.length ≤ 100000) :
    Calls Tryd.prog 53 #[v] w fun e w' => ∃ u out, e = .returned u ∧ IsNot l out ∧ ROwn w w' u out ∧ out.length ≤ l.length + 1 := by
  obtain ⟨i0, hi, hz0, hz1, hz2⟩ := info_parts info_range
  go_enter Tryd.func53, Tryd.ntmps53
  go_wp2_with fail
  refine (of_walk l v _ h hl).mono ?_
  rintro e w1 ⟨u, out, rfl, hof, hown, hlo⟩
  have hS := hown.read (by omega) (norm64 hof.1)
  obtain ⟨a, cap, rfl, hl1, hcl⟩ := hS.cells
  have Hc := Lib.hid hcl
  clear hcl hS
  have hkw := hown.2
  have hw1 := hkw.size
  clear hown
  go_wp2_with fail
  go_loopw [3, 4, 10] (fun v nx i wr => NotR w1 out v nx i wr) (fun _ _ i _ => out.length - (intOf i).toNat)
  case atStart => exact ⟨0, 0, [], rfl, rfl, Nat.zero_le _, NotInv.start out hof.1, World.ownsRow_nil _ _ _ _, Keeps.refl _ _⟩
  case round =>
    obtain ⟨k, next, ns, rfl, rfl, hk, hinv, hown, hkl⟩ := hrel
    have hn0 := hinv.n0
    have hn1 := hinv.n1
    have hnl := hinv.len
    by_cases hlt : k < out.length
    · obtain ⟨b, off, rfl, hcc⟩ := Hc.out (by omega)
      obtain ⟨p, hp⟩ : ∃ p, out[k]? = some p := ⟨_, List.getElem?_eq_getElem hlt⟩
      obtain ⟨c0, c1, _, _⟩ := hcc k p hp
      have d0 := hkl.cell c0 id
      have d1 := hkl.cell c1 id
      have hpr := hof.1.rng p (List.mem_of_getElem? hp)
      obtain ⟨st1, st2⟩ := hinv.step hof.1 hp
      have St1 := Lib.hid st1
      have St2 := Lib.hid st2
      obtain ⟨p0, p1, p2⟩ := hpr
      clear hcc c0 c1 hp st1 st2
      obtain ⟨va, vc, rfl⟩ := ownsRow_slice hown
      have hsz := hkl.size
      by_cases hj : next < p.1
      · go_wp2_with (at_builtin; refine wpList_append_own _ rfl (.tmp 18) (.tmp 24) 23 rfl w1.heap.size 36 i0 _ 2 16 Tryd.underlying23 hi hz0 hz1 hz2 rfl (by decide) _ _ _ rfl (ownsRow_alloc (ownsRow_alloc hown _) _) ⟨wr.heap.size + 1, 0, none⟩ 1 1 [.int .i64 next, .int .i64 (p.1 - 1)] rfl rfl ?c1 ?c2 ?c3 ?c4 ?c5 ?_)
        case c2 => exact ⟨rfl, rfl⟩
        case c3 => unfold maxLen; omega
        case c4 => omega
        case c5 => omega
        intro v' w2 hown' hgrow _
        have hO : ROwn w1 w2 v' (ns ++ [(next, p.1 - 1)]) := by
          refine ⟨?_, ((hkl.alloc _).alloc _).grown hgrow (fun b hb => Or.inr (ownBlock_base hown b hb))⟩
          rw [cellsOf_append]
          simpa [cellsOf, encR, List.range_succ] using hown'
        have hfr : ∀ (j : Nat) (hj : j < w2.heap.size) x, (⟨wr.heap.size, x, none⟩ : Addr) = ⟨wr.heap.size, x, none⟩ := fun _ _ _ => rfl
        have hb6 : w2.heap[wr.heap.size]? = some (.cells #[.int .i64 p.1, .int .i64 p.2] 36 (0, 0)) := by
          rw [hgrow.block _ (by simp; omega) (fun e => by have := own_lt hown _ e.symm; omega), Below.heap_alloc _ _ _ (by simp)]
          show (wr.heap.push _)[_]? = _; simp
        have e0 : w2.cell? ⟨wr.heap.size, 0, none⟩ = some (.int .i64 p.1) := by rw [cell_block hb6]; rfl
        have e1 : w2.cell? ⟨wr.heap.size, 1, none⟩ = some (.int .i64 p.2) := by rw [cell_block hb6]; rfl
        clear hown hown' hgrow hkl d0 d1 hb6
        go_wp2_with fail
        go_roundw
        case rel => exact ⟨k + 1, p.2 + 1, _, by go_num, rfl, by omega, St1.out hj, hO⟩
        case measure => simp [intOf]; omega
      · go_wp2_with fail
        go_roundw
        case rel => exact ⟨k + 1, p.2 + 1, _, by go_num, rfl, by omega, St2.out hj, ownsRow_alloc hown _, hkl.alloc _⟩
        case measure => simp [intOf]; omega
    · obtain rfl : out.length = k := by omega
      obtain ⟨fi1, fi2⟩ := hinv.fin hof
      have Fi1 := Lib.hid fi1
      have Fi2 := Lib.hid fi2
      clear fi1 fi2
      have hsz := hkl.size
      by_cases hj : next ≤ 1114111
      · obtain ⟨va, vc, rfl⟩ := ownsRow_slice hown
        go_wp2_with (at_builtin; refine wpList_append_own _ rfl (.tmp 32) (.tmp 35) 23 rfl w1.heap.size 36 i0 _ 2 16 Tryd.underlying23 hi hz0 hz1 hz2 rfl (by decide) _ _ _ rfl (ownsRow_alloc hown _) ⟨wr.heap.size, 0, none⟩ 1 1 [.int .i64 next, .int .i64 1114111] rfl rfl ?d1 ?d2 ?d3 ?d4 ?d5 ?_)
        case d2 => exact ⟨rfl, rfl⟩
        case d3 => unfold maxLen; omega
        case d4 => omega
        case d5 => omega
        intro v' w2 hown' hgrow _
        have hO : ROwn w1 w2 v' (ns ++ [(next, 1114111)]) := by
          refine ⟨?_, (hkl.alloc _).grown hgrow (fun b hb => Or.inr (ownBlock_base hown b hb))⟩
          rw [cellsOf_append]
          simpa [cellsOf, encR, List.range_succ] using hown'
        clear hown hown' hgrow hkl
        go_wp2_with fail
        go_ret
        exact ⟨_, ns ++ [(next, 1114111)], rfl, Fi1.out hj, ⟨ownsRow_base hO.1 hw1, hkw.trans hO.2⟩, by simp; omega⟩
      · go_wp2_with fail
        go_ret
        first
          | exact ⟨_, ns, rfl, Fi2.out hj, ⟨ownsRow_base hown hw1, hkw.trans hkl⟩, by omega⟩
          | exact ⟨_, rfl, ns, Fi2.out hj, ⟨ownsRow_base hown hw1, hkw.trans hkl⟩, by omega⟩
end Go.Proofs.YtinogeobkljngaaDoor
