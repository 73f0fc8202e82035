/-
  The walks of slices.Grow, slices.Concat (of two), set.Or, set.And.
-/
import Derived.Test.YtibfioekmpnkgaaSetNot
import Derived.Test.YtibfioekmpnkgaaShelfG
import Derived.Laws.AppendOwnNone
namespace Go.Proofs.Ytibfioekmpnkgaa
open Go.RowKit
set_option linter.unusedVariables false
set_option linter.unusedSimpArgs false
set_option maxRecDepth 100000

theorem cell_new (w : World) (cs : Array Value) (T : TypeId) (o : Nat) : (w.alloc (.cells cs T)).cell? ⟨w.heap.size, o, none⟩ = cs[o]? :=
  cell_block (cs := cs) (T := T) (fz := (0, 0)) (by show (w.heap.push _)[_]? = _; simp) o
theorem grow_any (n : Nat) (w : World) (hn : n ≤ 1000000) :
    Calls Try.prog 61 #[.slice none 0 0, .int .i64 n] w fun e w' => ∃ u, e = .returned u ∧ ROwn w w' u [] := by
  obtain ⟨i0, hi, hz0, hz1, hz2⟩ := info_parts info_range
  by_cases h0 : n = 0
  · subst h0
    refine Calls.mono (Any8.slices_Grow_room Try.growR none 0 0 0 w (by omega) (by omega) (by omega) (by omega)) ?_
    rintro e w' ⟨rfl, rfl⟩
    exact ⟨_, rfl, World.ownsRow_nil _ _ _ _, Keeps.refl _ _⟩
  · refine Calls.mono (Any8.slices_Grow_grow Try.growR i0 _ hi hz0 (by rw [hz1]; omega) none 0 0 n [] w (by omega) (by omega) (by rw [hz2]; omega) (by omega) (by simp) (fun _ => rfl) (by intro a h; cases h)) ?_
    rintro e w' ⟨rfl, rfl⟩
    refine ⟨_, rfl, ⟨rfl, Or.inr ⟨w.heap.size, _, _, rfl, Nat.le_refl _, by show (w.heap.push _)[_]? = _; simp; exact ⟨rfl, rfl⟩, Nat.zero_le _, ?_, ?_, by simp; rfl⟩⟩, ((Keeps.refl _ _).drew).alloc _⟩
    · exact grownCap_le_maxLen _ _ _ _ (by unfold maxLen; omega)
    · have := grownCap_ge w (0 + n) 0 (Try.growR_ren.t 25)
      simp only [Array.size_append, size_zeroCells, Nat.sub_zero, List.size_toArray, List.length_nil, Nat.zero_add] at *
      have hc : (Value.agg #[Value.int IntKind.i64 0, Value.int IntKind.i64 0]).cells.size = 2 := rfl
      rw [hc]; omega

def cat2 (xs ys : List (Int × Int)) (k : Nat) : List (Int × Int) := (if 1 ≤ k then xs else []) ++ (if 2 ≤ k then ys else [])
theorem cat2_0 (xs ys : List (Int × Int)) : cat2 xs ys 0 = [] := rfl
theorem cat2_1 (xs ys : List (Int × Int)) : cat2 xs ys 1 = xs := by simp [cat2]
theorem cat2_2 (xs ys : List (Int × Int)) : cat2 xs ys 2 = xs ++ ys := by simp [cat2]
theorem encR_one (l : List (Int × Int)) : ∀ u ∈ cellsOf 2 encR l, u.oneCell' = true := by
  intro u hu
  unfold cellsOf at hu
  rw [List.mem_flatMap] at hu
  obtain ⟨x, _, hx⟩ := hu
  rw [encR_cells] at hx
  simp at hx
  rcases hx with rfl | rfl <;> rfl

def Cat1 (xs ys : List (Int × Int)) (sv kv : Value) : Prop := ∃ k : Nat, kv = .int .i64 k ∧ k ≤ 2 ∧ sv = .int .i64 (cat2 xs ys k).length
def Cat2 (w : World) (xs ys : List (Int × Int)) (u kv : Value) (wr : World) : Prop := ∃ k : Nat, kv = .int .i64 k ∧ k ≤ 2 ∧ ROwn w wr u (cat2 xs ys k)

set_option maxHeartbeats 2000000 in
theorem concat_two (xs ys : List (Int × Int)) (x y : Value) (b : Nat) (w : World) (cx : w.cell? ⟨b, 0, none⟩ = some x) (cy : w.cell? ⟨b, 1, none⟩ = some y) (hx : RSl w x xs) (hy : RSl w y ys) (lx : xs.length ≤ 200000) (ly : ys.length ≤ 200000) :
    Calls Try.prog 51 #[.slice (some ⟨b, 0, none⟩) 2 2] w fun e w' => ∃ u, e = .returned u ∧ ROwn w w' u (xs ++ ys) := by
  obtain ⟨i0, hi, hz0, hz1, hz2⟩ := info_parts info_range
  have Hx := Lib.hid hx
  have Hy := Lib.hid hy
  obtain ⟨ax, kx, rfl, _, _⟩ := hx.cells
  obtain ⟨ay, ky, rfl, _, _⟩ := hy.cells
  clear hx hy
  go_enter Try.func51, Try.ntmps51
  go_wp2_with fail
  go_loop [3, 11] (fun sv kv => Cat1 xs ys sv kv) (fun _ kv => 2 - (intOf kv).toNat)
  case atStart => exact ⟨0, rfl, by omega, rfl⟩
  case round =>
    obtain ⟨k, rfl, hk, rfl⟩ := hrel
    by_cases hk2 : k < 2
    · have hc : k = 0 ∨ k = 1 := by omega
      rcases hc with rfl | rfl
      · rw [cat2_0]
        go_wp2_with fail
        go_round
        case rel => exact ⟨1, by go_num, by omega, by rw [cat2_1]⟩
        case measure => simp [intOf]
      · rw [cat2_1]
        go_wp2_with fail
        go_round
        case rel => exact ⟨2, by go_num, by omega, by rw [cat2_2, List.length_append]; go_num⟩
        case measure => simp [intOf]
    · obtain rfl : k = 2 := by omega
      rw [cat2_2]
      have hlen : (xs ++ ys).length ≤ 400000 := by simp; omega
      generalize hn : (xs ++ ys).length = n at *
      go_wp2_with fail
      refine (grow_any n _ (by omega)).mono ?_
      rintro e w1 ⟨u, rfl, hown⟩
      go_wp2_with fail
      go_loopw [6, 27] (fun u kv wr => Cat2 w xs ys u kv wr) (fun _ kv _ => 2 - (intOf kv).toNat)
      case atStart => exact ⟨0, rfl, by omega, by rw [cat2_0]; exact hown⟩
      case round =>
        clear hown
        obtain ⟨k, rfl, hk, hown, hkw⟩ := hrel
        have hsz := hkw.size
        by_cases hk2 : k < 2
        · have hc : k = 0 ∨ k = 1 := by omega
          rcases hc with rfl | rfl
          · rw [cat2_0] at hown
            have dx := hkw.cell cx id
            have ln := Hx.out.1.news (by omega)
            have lo := hown.1
            obtain ⟨va, vc, rfl⟩ := ownsRow_slice hown
            rcases ln with ⟨e, rfl⟩ | ⟨ad, kk, e, hnews⟩
            · injection e with e1 e2 e3
              subst e1 e3
              go_wp2_with (at_builtin; refine wpList_append_own_none rfl (.tmp 31) (.tmp 32) 52 rfl w.heap.size 60 i0 2 Try.underlying52 hi _ _ _ rfl hown rfl ?_)
              go_wp2_with fail
              go_roundw
              case rel => exact ⟨1, by go_num, by omega, by rw [cat2_1]; exact ⟨hown, hkw⟩⟩
              case measure => simp [intOf]
            · injection e with e1 e2 e3
              subst e1 e3
              have hnews2 : ∀ (j : Nat) (u : Value), (cellsOf 2 encR xs)[j]? = some u → wr.cell? (ad.add j) = some u := fun j u h => hkw.cell (hnews j u h) id
              go_wp2_with (at_builtin; refine wpList_append_own _ rfl (.tmp 31) (.tmp 32) 52 rfl w.heap.size 60 i0 _ 2 16 Try.underlying52 hi hz0 hz1 hz2 rfl (by decide) _ _ _ rfl hown ad xs.length kx (cellsOf 2 encR xs) rfl (cellsOf_length _ _ _) hnews2 (encR_one _) ?c3 ?c4 hsz ?_)
              case c3 => unfold maxLen; simp; omega
              case c4 => omega
              intro v' w2 hown' hgrow _
              have hO : ROwn w w2 v' (cat2 xs ys 1) := by
                refine ⟨?_, hkw.grown hgrow (fun b hb => Or.inr (ownBlock_base hown b hb))⟩
                rw [cat2_1]
                simpa [cellsOf] using hown'
              clear hown hown' hgrow hkw
              go_wp2_with fail
              go_roundw
              case rel => exact ⟨1, by go_num, by omega, hO⟩
              case measure => simp [intOf]
          · rw [cat2_1] at hown
            have dx := hkw.cell cy id
            have ln := Hy.out.1.news (by omega)
            have lo := hown.1
            obtain ⟨va, vc, rfl⟩ := ownsRow_slice hown
            rcases ln with ⟨e, rfl⟩ | ⟨ad, kk, e, hnews⟩
            · injection e with e1 e2 e3
              subst e1 e3
              go_wp2_with (at_builtin; refine wpList_append_own_none rfl (.tmp 31) (.tmp 32) 52 rfl w.heap.size 60 i0 2 Try.underlying52 hi _ _ _ rfl hown rfl ?_)
              go_wp2_with fail
              go_roundw
              case rel => exact ⟨2, by go_num, by omega, by rw [cat2_2]; rw [List.append_nil]; exact ⟨hown, hkw⟩⟩
              case measure => simp [intOf]
            · injection e with e1 e2 e3
              subst e1 e3
              have hnews2 : ∀ (j : Nat) (u : Value), (cellsOf 2 encR ys)[j]? = some u → wr.cell? (ad.add j) = some u := fun j u h => hkw.cell (hnews j u h) id
              go_wp2_with (at_builtin; refine wpList_append_own _ rfl (.tmp 31) (.tmp 32) 52 rfl w.heap.size 60 i0 _ 2 16 Try.underlying52 hi hz0 hz1 hz2 rfl (by decide) _ _ _ rfl hown ad ys.length ky (cellsOf 2 encR ys) rfl (cellsOf_length _ _ _) hnews2 (encR_one _) ?c3 ?c4 hsz ?_)
              case c3 => unfold maxLen; simp; omega
              case c4 => omega
              intro v' w2 hown' hgrow _
              have hO : ROwn w w2 v' (cat2 xs ys 2) := by
                refine ⟨?_, hkw.grown hgrow (fun b hb => Or.inr (ownBlock_base hown b hb))⟩
                rw [cat2_2]
                rw [cellsOf_append, List.length_append]; exact hown'
              clear hown hown' hgrow hkw
              go_wp2_with fail
              go_roundw
              case rel => exact ⟨2, by go_num, by omega, hO⟩
              case measure => simp [intOf]
        · obtain rfl : k = 2 := by omega
          rw [cat2_2] at hown
          go_wp2_with fail
          go_ret
          exact ⟨_, rfl, hown, hkw⟩

/-- The two together: a set. -/
def IsOr (xs ys out : List (Int × Int)) : Prop := Norm out ∧ ∀ r, mem out r = (has xs r || has ys r)
def IsAnd (xs ys out : List (Int × Int)) : Prop := Norm out ∧ ∀ r, mem out r = (has xs r && has ys r)
theorem in64_append {xs ys : List (Int × Int)} (hx : ∀ p ∈ xs, in64 p.1 ∧ in64 p.2) (hy : ∀ p ∈ ys, in64 p.1 ∧ in64 p.2) : ∀ p ∈ xs ++ ys, in64 p.1 ∧ in64 p.2 := by
  intro p hp
  rcases List.mem_append.1 hp with h | h
  · exact hx p h
  · exact hy p h

theorem or_any (xs ys : List (Int × Int)) (x y : Value) (w : World) (hx : RSl w x xs) (hy : RSl w y ys) (lx : xs.length ≤ 40000) (ly : ys.length ≤ 40000) :
    Calls Try.prog 37 #[x, y] w fun e w' => ∃ u out, e = .returned u ∧ IsOr xs ys out ∧ ROwn w w' u out ∧ out.length ≤ xs.length + ys.length := by
  have cx : x.oneCell' = true := by obtain ⟨a, c, rfl, _⟩ := hx.cells; rfl
  have cy : y.oneCell' = true := by obtain ⟨a, c, rfl, _⟩ := hy.cells; rfl
  obtain ⟨ax, kx, rfl, _, _⟩ := hx.cells
  obtain ⟨ay, ky, rfl, _, _⟩ := hy.cells
  have h64 := in64_append hx.2 hy.2
  go_enter Try.func37, Try.ntmps37
  go_wp2_with fail
  refine (concat_two xs ys _ _ w.heap.size _ (by rw [cell_new]; rfl) (by rw [cell_new]; rfl) ⟨hx.1.alloc _, hx.2⟩ ⟨hy.1.alloc _, hy.2⟩ (by omega) (by omega)).mono ?_
  rintro e w1 ⟨u, rfl, hown⟩
  have hS := hown.read (by simp; omega) h64
  have hk := hown.2
  clear hown
  go_wp2_with fail
  refine (of_walk (xs ++ ys) u _ hS (by simp; omega)).mono ?_
  rintro e w2 ⟨v, out, rfl, hof, hown, hlo⟩
  rw [List.length_append] at hlo
  go_wp2_with fail
  go_ret
  have hk1 : Keeps (fun _ => False) w w1 := ((Keeps.refl _ _).alloc _).trans hk
  refine ⟨_, out, rfl, ⟨hof.1, fun r => ?_⟩, ⟨ownsRow_base hown.1 hk1.size, hk1.trans hown.2⟩, hlo⟩
  rw [hof.2]; unfold has; rw [mem_append, Bool.and_or_distrib_right]

theorem and_any (xs ys : List (Int × Int)) (x y : Value) (w : World) (hx : RSl w x xs) (hy : RSl w y ys) (lx : xs.length ≤ 10000) (ly : ys.length ≤ 10000) :
    Calls Try.prog 38 #[x, y] w fun e w' => ∃ u out, e = .returned u ∧ IsAnd xs ys out ∧ ROwn w w' u out ∧ out.length ≤ xs.length + ys.length + 3 := by
  go_enter Try.func38, Try.ntmps38
  go_wp2_with fail
  refine (not_any xs x _ hx (by omega)).mono ?_
  rintro e w1 ⟨u1, o1, rfl, n1, w1o, l1⟩
  have s1 := w1o.read (by omega) (norm64 n1.1)
  have k1 := w1o.2
  clear w1o
  go_wp2_with fail
  refine (not_any ys y _ (hy.keep k1) (by omega)).mono ?_
  rintro e w2 ⟨u2, o2, rfl, n2, w2o, l2⟩
  have s2 := w2o.read (by omega) (norm64 n2.1)
  have s1' := s1.keep w2o.2
  have k2 := k1.trans w2o.2
  clear w2o s1 k1
  go_wp2_with fail
  refine (or_any o1 o2 _ _ _ s1' s2 (by omega) (by omega)).mono ?_
  rintro e w3 ⟨u3, o3, rfl, n3, w3o, l3⟩
  have s3 := w3o.read (by omega) (norm64 n3.1)
  have k3 := k2.trans w3o.2
  clear w3o
  go_wp2_with fail
  refine (not_any o3 _ _ s3 (by omega)).mono ?_
  rintro e w4 ⟨u4, o4, rfl, n4, w4o, l4⟩
  go_wp2_with fail
  go_ret
  refine ⟨_, o4, rfl, ⟨n4.1, fun r => ?_⟩, ⟨ownsRow_base w4o.1 k3.size, k3.trans w4o.2⟩, by omega⟩
  rw [n4.2, n3.1.has, n3.2, n1.1.has, n2.1.has, n1.2, n2.2]
  unfold has
  cases inAll r <;> cases mem xs r <;> cases mem ys r <;> rfl
end Go.Proofs.Ytibfioekmpnkgaa
