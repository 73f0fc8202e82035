/-
  The walk of set.Of.
-/
import Derived.Test.YtinogeobkljngaaDoorSetSort
import Derived.Test.YtinogeobkljngaaDoorSetMerge
import Derived.Test.YtinogeobkljngaaDoorSetEnds
import Derived.RegionTactic
namespace Go.Proofs.YtinogeobkljngaaDoor
open Go.RowKit
set_option linter.unusedVariables false
set_option linter.unusedSimpArgs false
set_option maxRecDepth 100000

theorem info_range : (Tryd.prog.info? 36).map (fun i => (i.zero, i.size, i.bytes)) = some (some (.agg #[.int .i64 0, .int .i64 0]), 2, 16) := by kernel_rfl
/-- An owned row of ranges, all else as it was. -/
def ROwn (w0 w : World) (v : Value) (l : List (Int × Int)) : Prop := w.ownsRow w0.heap.size 36 2 v l.length (cellsOf 2 encR l) ∧ Keeps (fun _ => False) w0 w

theorem encR_cells (x : Int × Int) : (List.range 2).map (encR x) = [.int .i64 x.1, .int .i64 x.2] := rfl

theorem cells_new_at (w : World) (l : List Value) (T : TypeId) (n : Nat) (hn : w.heap.size = n) : ∀ (j : Nat) (u : Value), l[j]? = some u → (w.alloc (.cells l.toArray T)).cell? ((⟨n, 0, none⟩ : Addr).add j) = some u := by
  subst hn; exact cells_new w l T
theorem ownsRow_some {w : World} {base : Nat} {e : TypeId} {size : Nat} {v : Value} {n : Nat} {xs : List Value} (h : w.ownsRow base e size v n xs) (hn : 0 < n) : ∃ g cap, v = .slice (some ⟨g, 0, none⟩) n cap ∧ base ≤ g ∧ g < w.heap.size := by
  rcases h.2 with ⟨_, rfl⟩ | ⟨g, cap, cur, rfl, hg, hh, _⟩
  · omega
  · exact ⟨g, cap, rfl, hg, (Array.getElem?_eq_some_iff.1 hh).1⟩

theorem set_last (m : List (Int × Int)) (q : Int × Int) (z : Int) : (cellsOf 2 encR (m ++ [q])).set (m.length * 2 + 1) (.int .i64 z) = cellsOf 2 encR (m ++ [(q.1, z)]) := by
  rw [cellsOf_append, cellsOf_append, List.set_append_right _ _ (by rw [cellsOf_length]; omega), cellsOf_length]
  congr 1
  rw [show m.length * 2 + 1 - m.length * 2 = 1 by omega]
  rfl
def Of2 (w0 : World) (l : List (Int × Int)) (v i : Value) (wr : World) : Prop := ∃ k : Nat, i = .int .i64 k ∧ k ≤ l.length ∧ ROwn w0 wr v (mergeL (l.take k))
theorem ownsRow_base {w : World} {base base' : Nat} {e : TypeId} {size : Nat} {v : Value} {n : Nat} {xs : List Value} (h : w.ownsRow base' e size v n xs) (hb : base ≤ base') : w.ownsRow base e size v n xs := by
  obtain ⟨h1, h2⟩ := h
  refine ⟨h1, ?_⟩
  rcases h2 with h2 | ⟨g, cap, cur, hv, hg, r⟩
  · exact Or.inl h2
  · exact Or.inr ⟨g, cap, cur, hv, by omega, r⟩
def Of1 (w0 : World) (rs : List (Int × Int)) (v i : Value) (wr : World) : Prop := ∃ k : Nat, i = .int .i64 k ∧ k ≤ rs.length ∧ ROwn w0 wr v (clampL (rs.take k))

set_option maxHeartbeats 2000000 in
theorem of_walk (rs : List (Int × Int)) (v : Value) (w : World) (h : RSl w v rs) (hlen : rs.length ≤ 100000) :
    Calls Tryd.prog 66 #[v] w fun e w' => ∃ u out, e = .returned u ∧ IsOf rs out ∧ ROwn w w' u out ∧ out.length ≤ rs.length := by
  obtain ⟨a, cap, rfl, hl, hc⟩ := h.cells
  have Hc := Lib.hid hc
  clear hc h
  obtain ⟨i0, hi, hz0, hz1, hz2⟩ := info_parts info_range
  go_enter Tryd.func66, Tryd.ntmps66
  go_wp2_with fail
  go_loopw [3, 12] (fun v i wr => Of1 w rs v i wr) (fun _ i _ => rs.length - (intOf i).toNat)
  case atStart => exact ⟨0, rfl, Nat.zero_le _, World.ownsRow_nil _ _ _ _, Keeps.refl _ _⟩
  case round =>
    obtain ⟨k, rfl, hk, hown, hkw⟩ := hrel
    by_cases hlt : k < rs.length
    · obtain ⟨b, off, rfl, hcc⟩ := Hc.out (by omega)
      obtain ⟨p, hp⟩ : ∃ p, rs[k]? = some p := ⟨_, List.getElem?_eq_getElem hlt⟩
      obtain ⟨c0, c1, _, _⟩ := hcc k p hp
      clear hcc
      have d0 := hkw.cell c0 id
      have d1 := hkw.cell c1 id
      have hsn := take_snoc_of hp
      have hcl := clampL_snoc (rs.take k) p
      rw [← hsn] at hcl
      have hll := clampL_length (rs.take k)
      rw [List.length_take] at hll
      have Hcl := Lib.hid hcl
      clear c0 c1 hcl hsn hp
      have hsz := hkw.size
      by_cases hin : max p.1 0 ≤ min p.2 1114111
      · go_wp2_with (at_builtin; refine wpList_append_own _ rfl (.tmp 29) (.tmp 31) 23 rfl w.heap.size 36 i0 _ 2 16 Tryd.underlying23 hi hz0 hz1 hz2 rfl (by decide) _ _ _ rfl (ownsRow_alloc (ownsRow_alloc hown _) _) ⟨wr.heap.size + 1, 0, none⟩ 1 1 [.int .i64 (max p.1 0), .int .i64 (min p.2 1114111)] rfl rfl ?c1 ?c2 ?c3 ?c4 ?c5 ?_)
        case c1 => exact cells_new_at _ [_, _] _ _ (by simp)
        case c2 => intro u hu; simp at hu; rcases hu with rfl | rfl <;> rfl
        case c3 => unfold maxLen; omega
        case c4 => omega
        case c5 => simp; omega
        intro v' w1 hown' hgrow _
        have hcl := Hcl.out
        rw [if_pos (by unfold clampOne; exact hin)] at hcl
        have hO : ROwn w w1 v' (clampL (rs.take (k + 1))) := by
          refine ⟨?_, ((hkw.alloc _).alloc _).grown hgrow (fun b hb => Or.inr (ownBlock_base hown b hb))⟩
          rw [hcl, cellsOf_append]
          simpa [cellsOf, encR, clampOne, List.range_succ] using hown'
        clear hown hown' hgrow hcl hkw d0 d1
        go_wp2_with fail
        go_roundw
        case rel => exact ⟨k + 1, by go_num, by omega, hO⟩
        case measure => simp [intOf]; omega
      · go_wp2_with fail
        go_roundw
        case rel =>
          refine ⟨k + 1, by go_num, by omega, ?_, hkw.alloc _⟩
          have hcl := Hcl.out
          rw [if_neg (by unfold clampOne; exact hin), List.append_nil] at hcl
          rw [hcl]; exact ownsRow_alloc hown _
        case measure => simp [intOf]; omega
    · obtain rfl : rs.length = k := by omega
      rw [List.take_length] at hown
      have hll := clampL_length rs
      have hsz := hkw.size
      go_wp2_with fail
      refine (sort_any (clampL rs) _ _ _ hown (by omega)).mono ?_
      rintro e w1 ⟨rfl, l, hperm, hsort, hS, hk1⟩
      have hkw1 : Keeps (fun _ => False) w w1 := hkw.trans2 hk1 (fun j hj hb => by have := ownBlock_base hown j hb; omega)
      have hfin := of_ok rs l hperm hsort
      have hlc : l.length ≤ rs.length := by rw [hperm.length_eq]; exact hll
      have HF := Lib.hid hfin
      have HG := Lib.hid (show ∀ p ∈ l, 0 ≤ p.1 ∧ p.1 ≤ p.2 ∧ p.2 ≤ 1114111 from fun p hp => clampL_good rs p (hperm.mem_iff.1 hp))
      have HS := Lib.hid hsort
      clear hfin hperm hsort hk1 hown hkw hll hsz
      obtain ⟨al, lc, rfl, hl1, hl2, hcl⟩ := hS
      have Hcl := Lib.hid hcl
      clear hcl
      go_wp2_with fail
      go_loopw [6, 38] (fun v i wr => Of2 w1 l v i wr) (fun _ i _ => l.length - (intOf i).toNat)
      case atStart => exact ⟨0, rfl, Nat.zero_le _, World.ownsRow_nil _ _ _ _, Keeps.refl _ _⟩
      case round =>
        obtain ⟨k, rfl, hk, hown, hkl⟩ := hrel
        by_cases hlt : k < l.length
        · obtain ⟨b, off, rfl, hcc⟩ := Hcl.out (by omega)
          obtain ⟨p, hp⟩ : ∃ p, l[k]? = some p := ⟨_, List.getElem?_eq_getElem hlt⟩
          have c0 : w1.cell? ⟨b, off + k * 2, none⟩ = some (.int .i64 p.1) := hcc k p hp 0 (by omega)
          have c1 : w1.cell? ⟨b, off + k * 2 + 1, none⟩ = some (.int .i64 p.2) := hcc k p hp 1 (by omega)
          obtain ⟨gp0, gp1, gp2⟩ := HG.out p (List.mem_of_getElem? hp)
          have d0 := hkl.cell c0 id
          have d1 := hkl.cell c1 id
          have hml := mergeL_length (l.take k)
          rw [List.length_take] at hml
          have hms : mergeL (l.take (k + 1)) = mstep (mergeL (l.take k)) p := by rw [take_snoc_of hp, mergeL_snoc]
          have hnorm := (mergeL_ok (l.take k) (fun q hq => HG.out q (List.mem_of_mem_take hq)) (HS.out.sublist (List.take_sublist _ _))).1
          have Hms := Lib.hid hms
          clear hcc c0 c1 hms hp
          have hsz := hkl.size
          generalize hout : mergeL (l.take k) = out at *
          have Hout := Lib.hid hout
          clear hout
          rcases List.eq_nil_or_concat out with rfl | ⟨m, q, rfl⟩
          · obtain ⟨va, vc, rfl⟩ := ownsRow_slice hown
            simp only [List.length_nil] at hown
            go_wp2_with fail
            go_quiet (fail)
            go_wp2_with (at_builtin; refine wpList_append_own _ rfl (.tmp 72) (.tmp 74) 23 rfl w1.heap.size 36 i0 _ 2 16 Tryd.underlying23 hi hz0 hz1 hz2 rfl (by decide) _ _ _ rfl (ownsRow_alloc (ownsRow_drawN (ownsRow_alloc hown _) _) _) ⟨wr.heap.size + 1, 0, none⟩ 1 1 [.int .i64 p.1, .int .i64 p.2] rfl rfl ?c1 ?c2 ?c3 ?c4 ?c5 ?_)
            case c1 => exact cells_new_at _ [_, _] _ _ (by simp)
            case c2 => intro u hu; simp at hu; rcases hu with rfl | rfl <;> rfl
            case c3 => unfold maxLen; simp at hml; omega
            case c4 => simp at hml; omega
            case c5 => simp; omega
            intro v' w2 hown' hgrow _
            have hO : ROwn w1 w2 v' (mergeL (l.take (k + 1))) := by
              refine ⟨?_, (((hkl.alloc _).drawN _).alloc _).grown hgrow (fun b hb => Or.inr (ownBlock_base hown b hb))⟩
              rw [Hms.out, mstep_nil]
              simpa [cellsOf, encR, List.range_succ] using hown'
            clear hown hown' hgrow hkl d0 d1
            go_wp2_with fail
            go_roundw
            case rel => exact ⟨k + 1, by go_num, by omega, hO⟩
            case measure => simp [intOf]; omega
          · rw [List.concat_eq_append] at *
            obtain ⟨g, gc, rfl, hg1, hg2⟩ := ownsRow_some hown (by simp)
            have hcg : wr.cell? ⟨g, m.length * 2 + 1, none⟩ = some (.int .i64 q.2) := by
              rw [hown.cellAt _ (by simp; omega)]
              exact cellsOf_get 2 encR (m ++ [q]) m.length q (by simp) 1 (by omega)
            have hcg1 : ∀ o, (wr.alloc o).cell? ⟨g, m.length * 2 + 1, none⟩ = some (.int .i64 q.2) := alloc_cell hcg
            have hfg : ∀ o x, (wr.alloc o).frozen? ⟨g, x, none⟩ = false := fun o x => alloc_frozen (hown.frozenAt x) hg2 o
            obtain ⟨hnm, q0, q1, q2, q3⟩ := norm_last m q hnorm
            simp only [List.length_append, List.length_cons, List.length_nil, Nat.zero_add] at hown ⊢
            have hw1 : IntKind.i64.wrap ((m.length : Int) + 1 - 1) = (m.length : Int) := by rw [show (m.length : Int) + 1 - 1 = (m.length : Int) by omega]; exact IntWalk.i64_in _ (by simp at hml; omega)
            have hw2 : IntKind.i64.wrap (m.length : Int) = (m.length : Int) := IntWalk.i64_in _ (by simp at hml; omega)
            have hw3 : IntKind.i64.wrap (q.2 + 1) = q.2 + 1 := IntWalk.i64_in _ (by omega)
            have hix : (m.length : Int) < (m.length : Int) + 1 := by omega
            have hix2 : ((m.length : Int)).toNat = m.length := by simp
            by_cases hj : p.1 ≤ q.2 + 1
            · go_wp2_with fail
              go_quiet (fail)
              go_wp2_with fail
              go_region
              all_goals go_wp2_with fail
              go_roundw
              case rel =>
                refine ⟨k + 1, by go_num, by omega, ?_, ((hkl.alloc _).drawN _).setNew hg1 _⟩
                rw [Hms.out, mstep_join m q p hj, ← set_last m q (max q.2 p.2)]
                have h5 := (World.ownsRow.stored (ownsRow_drawN (ownsRow_alloc hown (.cells #[.int .i64 p.1, .int .i64 p.2] 36)) (nq + 1)) (m.length * 2 + 1) (.int .i64 (max q.2 p.2))).1
                simpa using h5
              case measure => simp [intOf]; omega
            · have hd : decide (p.1 ≤ q.2 + 1) = false := by simp; omega
              go_wp2_with fail
              go_quiet (fail)
              go_wp2_with (at_builtin; refine wpList_append_own _ rfl (.tmp 72) (.tmp 74) 23 rfl w1.heap.size 36 i0 _ 2 16 Tryd.underlying23 hi hz0 hz1 hz2 rfl (by decide) _ _ _ rfl (ownsRow_alloc (ownsRow_drawN (ownsRow_alloc hown _) _) _) ⟨wr.heap.size + 1, 0, none⟩ 1 1 [.int .i64 p.1, .int .i64 p.2] rfl rfl ?e1 ?e2 ?e3 ?e4 ?e5 ?_)
              case e1 => exact cells_new_at _ [_, _] _ _ (by simp)
              case e2 => intro u hu; simp at hu; rcases hu with rfl | rfl <;> rfl
              case e3 => unfold maxLen; simp at hml; omega
              case e4 => simp at hml; omega
              case e5 => simp; omega
              intro v' w2 hown' hgrow _
              have hO : ROwn w1 w2 v' (mergeL (l.take (k + 1))) := by
                refine ⟨?_, (((hkl.alloc _).drawN _).alloc _).grown hgrow (fun b hb => Or.inr (ownBlock_base hown b hb))⟩
                rw [Hms.out, mstep_more m q p (by omega)]
                simpa [cellsOf, encR, List.range_succ] using hown'
              clear hown hown' hgrow hkl d0 d1
              go_wp2_with fail
              go_roundw
              case rel => exact ⟨k + 1, by go_num, by omega, hO⟩
              case measure => simp [intOf]; omega
        · obtain rfl : l.length = k := by omega
          rw [List.take_length] at hown
          go_wp2_with fail
          go_ret
          refine ⟨_, mergeL l, rfl, HF.out, ⟨ownsRow_base hown hkw1.size, hkw1.trans hkl⟩, Nat.le_trans (mergeL_length l) hlc⟩
end Go.Proofs.YtinogeobkljngaaDoor
