/-
  Several texts in one: The walk of reedbedref08.Ends: some numbers, all within the set's bounds. The walk of set.Of. The walk of slices.Equal on ranges. The walks of set.Right and set.Has, and of what they call of slices. set.Not in plain words. The walk of set.Not. The walks of slices.Grow, slices.Concat (of two), set.Or, set.And. The walks of set.Count, Only, Not.
-/
import Derived.Test.YtpcbfmbpbegjgaaGreatMg2
import Derived.Deep.LoopGhost
import Derived.RegionTactic
import Derived.Test.YtpcbfmbpbegjgaaGreatMg3
import Derived.Laws.AppendOwnNone
section
namespace Go.Proofs.YtpcbfmbpbegjgaaGreat
open Go.RowKit
set_option linter.unusedVariables false
set_option linter.unusedSimpArgs false
set_option maxRecDepth 100000

theorem info_int : (Tryz.prog.info? 3).map (fun i => (i.zero, i.size, i.bytes)) = some (some (.int .i64 0), 1, 8) := by kernel_rfl

/-- An owned row of three or more is not the block of two. -/
theorem own_ne {w : World} {base : Nat} {e : TypeId} {v : Value} {n : Nat} {xs : List Value} (h : w.ownsRow base e 1 v n xs) (h3 : 3 ≤ n) {b : Nat} {cs : Array Value} {T : TypeId} (hb : w.heap[b]? = some (.cells cs T (0, 0))) (hcs : cs.size = 2) : ∀ g, v.ownBlock = some g → g ≠ b := by
  rintro g hg rfl
  rcases h.2 with ⟨rfl, _⟩ | ⟨g', cap, cur, rfl, _, hh, hn, _, hsz, _⟩
  · simp [Value.ownBlock] at hg
  · simp [Value.ownBlock] at hg
    subst hg
    rw [hb] at hh
    simp at hh
    obtain ⟨⟨rfl, _⟩, _⟩ := hh
    omega

def OutR (w0 wr : World) (u : Value) (es : List Int) (bound : Nat) : Prop :=
  wr.ownsRow w0.heap.size 3 1 u es.length (es.map (Value.int .i64)) ∧ es.length ≤ bound ∧ 2 ≤ es.length ∧ (∀ x ∈ es, 0 ≤ x ∧ x ≤ 1114111) ∧ Keeps (fun _ => False) w0 wr

theorem own_lt {w : World} {base : Nat} {e : TypeId} {size : Nat} {v : Value} {n : Nat} {xs : List Value} (h : w.ownsRow base e size v n xs) : ∀ g, v.ownBlock = some g → g < w.heap.size := by
  rintro g hg
  rcases h.2 with ⟨rfl, _⟩ | ⟨g', cap, cur, rfl, _, hh, _⟩
  · simp [Value.ownBlock] at hg
  · simp [Value.ownBlock] at hg; subst hg; exact (Array.getElem?_eq_some_iff.1 hh).1

/-- At the middle loop's head. -/
def MidR (w : World) (i : Nat) (p : Int × Int) (lb : Nat) (u kv : Value) (wk : World) : Prop :=
  ∃ (k : Nat) (es : List Int), kv = .int .i64 k ∧ k ≤ 2 ∧ OutR w wk u es (2 + 6 * i + 3 * k) ∧ wk.heap[lb]? = some (.cells #[.int .i64 p.1, .int .i64 p.2] 3 (0, 0)) ∧ ∀ g, u.ownBlock = some g → g ≠ lb
/-- At the inner loop's head. -/
def InR (w : World) (i k : Nat) (p : Int × Int) (lb : Nat) (u dv : Value) (wk : World) : Prop :=
  ∃ (d : Nat) (es : List Int), dv = .int .i64 ((d : Int) - 1) ∧ d ≤ 3 ∧ OutR w wk u es (2 + 6 * i + 3 * k + d) ∧ wk.heap[lb]? = some (.cells #[.int .i64 p.1, .int .i64 p.2] 3 (0, 0)) ∧ ∀ g, u.ownBlock = some g → g ≠ lb

set_option maxHeartbeats 2000000 in
theorem refEnds_any (l : List (Int × Int)) (v : Value) (w : World) (h : RSl w v l) (hlen : l.length ≤ 100) :
    Calls Tryz.prog 82 #[v] w fun e w' => ∃ u, ∃ es : List Int, e = .returned u ∧ OutR w w' u es (2 + 6 * l.length) := by
  obtain ⟨a, cap, rfl, hl, hc⟩ := h.cells
  have Hc := Lib.hid hc
  clear hc h
  obtain ⟨i0, hi, hz0, hz1, hz2⟩ := info_parts info_int
  go_enter Tryz.func82, Tryz.ntmps82
  go_wp2_with fail
  go_loopw [3, 4] (fun u iv wr => ∃ (i : Nat) (es : List Int), iv = .int .i64 i ∧ i ≤ l.length ∧ OutR w wr u es (2 + 6 * i)) (fun _ iv _ => l.length - (intOf iv).toNat)
  case atStart =>
    refine ⟨0, [0, 1114111], rfl, Nat.zero_le _, ⟨rfl, ?_⟩, by simp, by simp, by simp, (Keeps.refl _ _).alloc _⟩
    exact Or.inr ⟨w.heap.size, 2, #[.int .i64 0, .int .i64 1114111], rfl, Nat.le_refl _, by show (w.heap.push _)[_]? = _; simp, by simp, by unfold maxLen; simp, by simp, rfl⟩
  case round =>
    obtain ⟨i, es, rfl, hil, hO⟩ := hrel
    by_cases hlt : i < l.length
    · obtain ⟨b, off, rfl, hcc⟩ := Hc.out (by omega)
      obtain ⟨p, hp⟩ : ∃ p, l[i]? = some p := ⟨_, List.getElem?_eq_getElem hlt⟩
      obtain ⟨c0, c1, ⟨ip1, ip2⟩, ⟨ip3, ip4⟩⟩ := hcc i p hp
      clear hcc hp
      have d0 := hO.2.2.2.2.cell c0 id
      have d1 := hO.2.2.2.2.cell c1 id
      clear c0 c1
      go_wp2_with fail
      go_region
      all_goals go_wp2_with fail
      have hlb : (wr.drew.alloc (.cells #[.int .i64 p.1, .int .i64 p.2] 3)).heap[wr.heap.size]? = some (.cells #[.int .i64 p.1, .int .i64 p.2] 3 (0, 0)) := by
        show (wr.heap.push _)[_]? = _; simp
      have hbase : w.heap.size ≤ wr.heap.size := hO.2.2.2.2.size
      obtain ⟨o1, o2, o3, o4, o5⟩ := hO
      have hO1 : OutR w (wr.drew.alloc (.cells #[.int .i64 p.1, .int .i64 p.2] 3)) u3 es (2 + 6 * i) := ⟨ownsRow_alloc o1 _, o2, o3, o4, (o5.drew).alloc _⟩
      have hne : ∀ g, u3.ownBlock = some g → g ≠ wr.heap.size := fun g hg => Nat.ne_of_lt (own_lt o1 g hg)
      clear o1 o2 o3 o4 o5 d0 d1
      have ew : (wr.alloc (.cells #[.int .i64 p.1, .int .i64 p.2] 3)).drew = wr.drew.alloc (.cells #[.int .i64 p.1, .int .i64 p.2] 3) := rfl
      rw [← ew] at hO1 hlb
      clear ew
      generalize (wr.alloc (.cells #[.int .i64 p.1, .int .i64 p.2] 3)).drew = w1 at *
      generalize wr.heap.size = lb at *
      go_loopw [3, 6] (fun u kv wk => MidR w i p lb u kv wk) (fun _ kv _ => 2 - (intOf kv).toNat)
      case atStart => exact ⟨0, es, rfl, by omega, hO1, hlb, hne⟩
      case round =>
        clear hO1 hlb hne
        obtain ⟨k, es, rfl, hk2, hO, hlb, hne⟩ := hrel
        by_cases hk : k < 2
        · have hkd : decide ((k : Int) < 2) = true := by simp; omega
          go_wp2_with fail
          go_loopw [3, 7] (fun u dv wk => InR w i k p lb u dv wk) (fun _ dv _ => (2 - intOf dv).toNat)
          case atStart => exact ⟨0, es, rfl, by omega, hO, hlb, hne⟩
          case round =>
            clear hO hlb hne
            obtain ⟨d, es, rfl, hd3, hO, hlb, hne⟩ := hrel
            have Hne := Lib.hid hne
            clear hne
            by_cases hd : d < 3
            · obtain ⟨x, hx, hx0, hx1⟩ : ∃ x : Int, wr.cell? ⟨lb, k, none⟩ = some (.int .i64 x) ∧ -9223372036854775808 ≤ x ∧ x ≤ 9223372036854775807 := by
                have : k = 0 ∨ k = 1 := by omega
                rcases this with rfl | rfl
                · exact ⟨p.1, by rw [cell_block hlb]; rfl, ip1, ip2⟩
                · exact ⟨p.2, by rw [cell_block hlb]; rfl, ip3, ip4⟩
              obtain ⟨o1, o2, o3, o4, o5⟩ := hO
              have hsz := o5.size
              by_cases x1 : x < -2
              · go_wp2_with fail
                go_roundw
                case rel => exact ⟨d + 1, es, by go_num, by omega, ⟨o1, by omega, o3, o4, o5⟩, hlb, Hne.out⟩
                case measure => simp [intOf]; omega
              by_cases x2 : 1114113 < x
              · go_wp2_with fail
                go_roundw
                case rel => exact ⟨d + 1, es, by go_num, by omega, ⟨o1, by omega, o3, o4, o5⟩, hlb, Hne.out⟩
                case measure => simp [intOf]; omega
              by_cases x3 : x + ((d : Int) - 1) < 0
              · go_wp2_with fail
                go_roundw
                case rel => exact ⟨d + 1, es, by go_num, by omega, ⟨o1, by omega, o3, o4, o5⟩, hlb, Hne.out⟩
                case measure => simp [intOf]; omega
              by_cases x4 : 1114111 < x + ((d : Int) - 1)
              · go_wp2_with fail
                go_roundw
                case rel => exact ⟨d + 1, es, by go_num, by omega, ⟨o1, by omega, o3, o4, o5⟩, hlb, Hne.out⟩
                case measure => simp [intOf]; omega
              go_wp2_with (at_builtin; refine wpList_append_own _ rfl (.tmp 53) (.tmp 57) 58 rfl w.heap.size 3 i0 _ 1 8 Tryz.underlying58 hi hz0 hz1 hz2 rfl (by decide) _ _ _ rfl (ownsRow_alloc o1 _) ⟨wr.heap.size, 0, none⟩ 1 1 [.int .i64 (x + ((d : Int) - 1))] rfl rfl (by exact cells_new _ [_] _) (by intro u hu; simp at hu; subst hu; rfl) ?c3 ?c4 ?c5 ?_)
              case c3 => unfold maxLen; omega
              case c4 => omega
              case c5 => first | omega | (simp; omega)
              intro v' w2 hown' hgrow _
              have hown2 : w2.ownsRow w.heap.size 3 1 v' (es ++ [x + ((d : Int) - 1)]).length ((es ++ [x + ((d : Int) - 1)]).map (Value.int .i64)) := by simpa using hown'
              have hlb2 : w2.heap[lb]? = some (.cells #[.int .i64 p.1, .int .i64 p.2] 3 (0, 0)) := by
                rw [hgrow.block lb (by simp; exact Nat.lt_succ_of_lt (Array.getElem?_eq_some_iff.1 hlb).1) (fun e => Hne.out lb e.symm rfl), Below.heap_alloc _ _ _ (Array.getElem?_eq_some_iff.1 hlb).1]
                exact hlb
              have Hne2 := Lib.hid (own_ne hown2 (by simp; omega) hlb2 rfl)
              have hk2 : Keeps (fun _ => False) w w2 := (o5.alloc _).grown hgrow (fun b hb => Or.inr (ownBlock_base o1 b hb))
              have hO2 : OutR w w2 v' (es ++ [x + ((d : Int) - 1)]) (2 + 6 * i + 3 * k + (d + 1)) := ⟨hown2, by simp; omega, by simp; omega, fun y hy => by
                rcases List.mem_append.1 hy with hy | hy
                · exact o4 y hy
                · simp at hy; omega, hk2⟩
              clear hown2 hown' hgrow hk2 o1 o2 o3 o4 o5
              go_wp2_with fail
              go_roundw
              case rel => first | exact ⟨d + 1, _, by go_num, by omega, hO2, hlb2, Hne2.out⟩ | ((repeat apply Exists.intro); exact ⟨⟨d + 1, _, by go_num, by omega, hO2, hlb2, Hne2.out⟩, rfl⟩)
              case measure => simp [intOf]; omega
            · obtain rfl : d = 3 := by omega
              go_wp2_with fail
              go_roundw
              case rel => exact ⟨k + 1, es, by go_num, by omega, ⟨hO.1, by have := hO.2.1; omega, hO.2.2⟩, hlb, Hne.out⟩
              case measure => simp [intOf]; omega
        · obtain rfl : k = 2 := by omega
          go_wp2_with fail
          go_roundw
          case rel => exact ⟨i + 1, es, by go_num, by omega, ⟨hO.1, by have := hO.2.1; omega, hO.2.2⟩⟩
          case measure => simp [intOf]; omega
    · go_wp2_with fail
      go_ret
      obtain rfl : l.length = i := by omega
      exact ⟨_, es, rfl, hO⟩
end Go.Proofs.YtpcbfmbpbegjgaaGreat
end
section
namespace Go.Proofs.YtpcbfmbpbegjgaaGreat
open Go.RowKit
set_option linter.unusedVariables false
set_option linter.unusedSimpArgs false
set_option maxRecDepth 100000

theorem info_range : (Tryz.prog.info? 87).map (fun i => (i.zero, i.size, i.bytes)) = some (some (.agg #[.int .i64 0, .int .i64 0]), 2, 16) := by kernel_rfl
/-- An owned row of ranges, all else as it was. -/
def ROwn (w0 w : World) (v : Value) (l : List (Int × Int)) : Prop := w.ownsRow w0.heap.size 87 2 v l.length (cellsOf 2 encR l) ∧ Keeps (fun _ => False) w0 w

theorem encR_cells (x : Int × Int) : (List.range 2).map (encR x) = [.int .i64 x.1, .int .i64 x.2] := rfl

theorem cells_new_at (w : World) (l : List Value) (T : TypeId) (n : Nat) (hn : w.heap.size = n) : ∀ (j : Nat) (u : Value), l[j]? = some u → (w.alloc (.cells l.toArray T)).cell? ((⟨n, 0, none⟩ : Addr).add j) = some u := by
  subst hn; exact cells_new w l T
theorem ownsRow_some {w : World} {base : Nat} {e : TypeId} {size : Nat} {v : Value} {n : Nat} {xs : List Value} (h : w.ownsRow base e size v n xs) (hn : 0 < n) : ∃ g cap, v = .slice (some ⟨g, 0, none⟩) n cap ∧ base ≤ g ∧ g < w.heap.size := by
  rcases h.2 with ⟨_, rfl⟩ | ⟨g, cap, cur, rfl, hg, hh, _⟩
  · omega
  · exact ⟨g, cap, rfl, hg, (Array.getElem?_eq_some_iff.1 hh).1⟩

theorem set_last (m : List (Int × Int)) (q : Int × Int) (z : Int) : (cellsOf 2 encR (m ++ [q])).set (m.length * 2 + 1) (.int .i64 z) = cellsOf 2 encR (m ++ [(q.1, z)]) := by
  rw [cellsOf_append, cellsOf_append, List.set_append_right _ _ (by rw [cellsOf_length]; omega), cellsOf_length]
  congr 1
  rw [show m.length * 2 + 1 - m.length * 2 = 1 by omega]
  rfl
def Of2 (w0 : World) (l : List (Int × Int)) (v i : Value) (wr : World) : Prop := ∃ k : Nat, i = .int .i64 k ∧ k ≤ l.length ∧ ROwn w0 wr v (mergeL (l.take k))
theorem ownsRow_base {w : World} {base base' : Nat} {e : TypeId} {size : Nat} {v : Value} {n : Nat} {xs : List Value} (h : w.ownsRow base' e size v n xs) (hb : base ≤ base') : w.ownsRow base e size v n xs := by
  obtain ⟨h1, h2⟩ := h
  refine ⟨h1, ?_⟩
  rcases h2 with h2 | ⟨g, cap, cur, hv, hg, r⟩
  · exact Or.inl h2
  · exact Or.inr ⟨g, cap, cur, hv, by omega, r⟩
def Of1 (w0 : World) (rs : List (Int × Int)) (v i : Value) (wr : World) : Prop := ∃ k : Nat, i = .int .i64 k ∧ k ≤ rs.length ∧ ROwn w0 wr v (clampL (rs.take k))

set_option maxHeartbeats 2000000 in
theorem of_walk (rs : List (Int × Int)) (v : Value) (w : World) (h : RSl w v rs) (hlen : rs.length ≤ 100000) :
    Calls Tryz.prog 74 #[v] w fun e w' => ∃ u out, e = .returned u ∧ IsOf rs out ∧ ROwn w w' u out ∧ out.length ≤ rs.length := by
  obtain ⟨a, cap, rfl, hl, hc⟩ := h.cells
  have Hc := Lib.hid hc
  clear hc h
  obtain ⟨i0, hi, hz0, hz1, hz2⟩ := info_parts info_range
  go_enter Tryz.func74, Tryz.ntmps74
  go_wp2_with fail
  go_loopw [3, 12] (fun v i wr => Of1 w rs v i wr) (fun _ i _ => rs.length - (intOf i).toNat)
  case atStart => exact ⟨0, rfl, Nat.zero_le _, World.ownsRow_nil _ _ _ _, Keeps.refl _ _⟩
  case round =>
    obtain ⟨k, rfl, hk, hown, hkw⟩ := hrel
    by_cases hlt : k < rs.length
    · obtain ⟨b, off, rfl, hcc⟩ := Hc.out (by omega)
      obtain ⟨p, hp⟩ : ∃ p, rs[k]? = some p := ⟨_, List.getElem?_eq_getElem hlt⟩
      obtain ⟨c0, c1, _, _⟩ := hcc k p hp
      clear hcc
      have d0 := hkw.cell c0 id
      have d1 := hkw.cell c1 id
      have hsn := take_snoc_of hp
      have hcl := clampL_snoc (rs.take k) p
      rw [← hsn] at hcl
      have hll := clampL_length (rs.take k)
      rw [List.length_take] at hll
      have Hcl := Lib.hid hcl
      clear c0 c1 hcl hsn hp
      have hsz := hkw.size
      by_cases hin : max p.1 0 ≤ min p.2 1114111
      · go_wp2_with (at_builtin; refine wpList_append_own _ rfl (.tmp 29) (.tmp 31) 24 rfl w.heap.size 87 i0 _ 2 16 Tryz.underlying24 hi hz0 hz1 hz2 rfl (by decide) _ _ _ rfl (ownsRow_alloc (ownsRow_alloc hown _) _) ⟨wr.heap.size + 1, 0, none⟩ 1 1 [.int .i64 (max p.1 0), .int .i64 (min p.2 1114111)] rfl rfl ?c1 ?c2 ?c3 ?c4 ?c5 ?_)
        case c1 => exact cells_new_at _ [_, _] _ _ (by simp)
        case c2 => intro u hu; simp at hu; rcases hu with rfl | rfl <;> rfl
        case c3 => unfold maxLen; omega
        case c4 => omega
        case c5 => simp; omega
        intro v' w1 hown' hgrow _
        have hcl := Hcl.out
        rw [if_pos (by unfold clampOne; exact hin)] at hcl
        have hO : ROwn w w1 v' (clampL (rs.take (k + 1))) := by
          refine ⟨?_, ((hkw.alloc _).alloc _).grown hgrow (fun b hb => Or.inr (ownBlock_base hown b hb))⟩
          rw [hcl, cellsOf_append]
          simpa [cellsOf, encR, clampOne, List.range_succ] using hown'
        clear hown hown' hgrow hcl hkw d0 d1
        go_wp2_with fail
        go_roundw
        case rel => exact ⟨k + 1, by go_num, by omega, hO⟩
        case measure => simp [intOf]; omega
      · go_wp2_with fail
        go_roundw
        case rel =>
          refine ⟨k + 1, by go_num, by omega, ?_, hkw.alloc _⟩
          have hcl := Hcl.out
          rw [if_neg (by unfold clampOne; exact hin), List.append_nil] at hcl
          rw [hcl]; exact ownsRow_alloc hown _
        case measure => simp [intOf]; omega
    · obtain rfl : rs.length = k := by omega
      rw [List.take_length] at hown
      have hll := clampL_length rs
      have hsz := hkw.size
      go_wp2_with fail
      refine (sort_any (clampL rs) _ _ _ hown (by omega)).mono ?_
      rintro e w1 ⟨rfl, l, hperm, hsort, hS, hk1⟩
      have hkw1 : Keeps (fun _ => False) w w1 := hkw.trans2 hk1 (fun j hj hb => by have := ownBlock_base hown j hb; omega)
      have hfin := of_ok rs l hperm hsort
      have hlc : l.length ≤ rs.length := by rw [hperm.length_eq]; exact hll
      have HF := Lib.hid hfin
      have HG := Lib.hid (show ∀ p ∈ l, 0 ≤ p.1 ∧ p.1 ≤ p.2 ∧ p.2 ≤ 1114111 from fun p hp => clampL_good rs p (hperm.mem_iff.1 hp))
      have HS := Lib.hid hsort
      clear hfin hperm hsort hk1 hown hkw hll hsz
      obtain ⟨al, lc, rfl, hl1, hl2, hcl⟩ := hS
      have Hcl := Lib.hid hcl
      clear hcl
      go_wp2_with fail
      go_loopw [6, 38] (fun v i wr => Of2 w1 l v i wr) (fun _ i _ => l.length - (intOf i).toNat)
      case atStart => exact ⟨0, rfl, Nat.zero_le _, World.ownsRow_nil _ _ _ _, Keeps.refl _ _⟩
      case round =>
        obtain ⟨k, rfl, hk, hown, hkl⟩ := hrel
        by_cases hlt : k < l.length
        · obtain ⟨b, off, rfl, hcc⟩ := Hcl.out (by omega)
          obtain ⟨p, hp⟩ : ∃ p, l[k]? = some p := ⟨_, List.getElem?_eq_getElem hlt⟩
          have c0 : w1.cell? ⟨b, off + k * 2, none⟩ = some (.int .i64 p.1) := hcc k p hp 0 (by omega)
          have c1 : w1.cell? ⟨b, off + k * 2 + 1, none⟩ = some (.int .i64 p.2) := hcc k p hp 1 (by omega)
          obtain ⟨gp0, gp1, gp2⟩ := HG.out p (List.mem_of_getElem? hp)
          have d0 := hkl.cell c0 id
          have d1 := hkl.cell c1 id
          have hml := mergeL_length (l.take k)
          rw [List.length_take] at hml
          have hms : mergeL (l.take (k + 1)) = mstep (mergeL (l.take k)) p := by rw [take_snoc_of hp, mergeL_snoc]
          have hnorm := (mergeL_ok (l.take k) (fun q hq => HG.out q (List.mem_of_mem_take hq)) (HS.out.sublist (List.take_sublist _ _))).1
          have Hms := Lib.hid hms
          clear hcc c0 c1 hms hp
          have hsz := hkl.size
          generalize hout : mergeL (l.take k) = out at *
          have Hout := Lib.hid hout
          clear hout
          rcases List.eq_nil_or_concat out with rfl | ⟨m, q, rfl⟩
          · obtain ⟨va, vc, rfl⟩ := ownsRow_slice hown
            simp only [List.length_nil] at hown
            go_wp2_with fail
            go_quiet (fail)
            go_wp2_with (at_builtin; refine wpList_append_own _ rfl (.tmp 72) (.tmp 74) 24 rfl w1.heap.size 87 i0 _ 2 16 Tryz.underlying24 hi hz0 hz1 hz2 rfl (by decide) _ _ _ rfl (ownsRow_alloc (ownsRow_drawN (ownsRow_alloc hown _) _) _) ⟨wr.heap.size + 1, 0, none⟩ 1 1 [.int .i64 p.1, .int .i64 p.2] rfl rfl ?c1 ?c2 ?c3 ?c4 ?c5 ?_)
            case c1 => exact cells_new_at _ [_, _] _ _ (by simp)
            case c2 => intro u hu; simp at hu; rcases hu with rfl | rfl <;> rfl
            case c3 => unfold maxLen; simp at hml; omega
            case c4 => simp at hml; omega
            case c5 => simp; omega
            intro v' w2 hown' hgrow _
            have hO : ROwn w1 w2 v' (mergeL (l.take (k + 1))) := by
              refine ⟨?_, (((hkl.alloc _).drawN _).alloc _).grown hgrow (fun b hb => Or.inr (ownBlock_base hown b hb))⟩
              rw [Hms.out, mstep_nil]
              simpa [cellsOf, encR, List.range_succ] using hown'
            clear hown hown' hgrow hkl d0 d1
            go_wp2_with fail
            go_roundw
            case rel => exact ⟨k + 1, by go_num, by omega, hO⟩
            case measure => simp [intOf]; omega
          · rw [List.concat_eq_append] at *
            obtain ⟨g, gc, rfl, hg1, hg2⟩ := ownsRow_some hown (by simp)
            have hcg : wr.cell? ⟨g, m.length * 2 + 1, none⟩ = some (.int .i64 q.2) := by
              rw [hown.cellAt _ (by simp; omega)]
              exact cellsOf_get 2 encR (m ++ [q]) m.length q (by simp) 1 (by omega)
            have hcg1 : ∀ o, (wr.alloc o).cell? ⟨g, m.length * 2 + 1, none⟩ = some (.int .i64 q.2) := alloc_cell hcg
            have hfg : ∀ o x, (wr.alloc o).frozen? ⟨g, x, none⟩ = false := fun o x => alloc_frozen (hown.frozenAt x) hg2 o
            obtain ⟨hnm, q0, q1, q2, q3⟩ := norm_last m q hnorm
            simp only [List.length_append, List.length_cons, List.length_nil, Nat.zero_add] at hown ⊢
            have hw1 : IntKind.i64.wrap ((m.length : Int) + 1 - 1) = (m.length : Int) := by rw [show (m.length : Int) + 1 - 1 = (m.length : Int) by omega]; exact IntWalk.i64_in _ (by simp at hml; omega)
            have hw2 : IntKind.i64.wrap (m.length : Int) = (m.length : Int) := IntWalk.i64_in _ (by simp at hml; omega)
            have hw3 : IntKind.i64.wrap (q.2 + 1) = q.2 + 1 := IntWalk.i64_in _ (by omega)
            have hix : (m.length : Int) < (m.length : Int) + 1 := by omega
            have hix2 : ((m.length : Int)).toNat = m.length := by simp
            by_cases hj : p.1 ≤ q.2 + 1
            · go_wp2_with fail
              go_quiet (fail)
              go_wp2_with fail
              go_region
              all_goals go_wp2_with fail
              go_roundw
              case rel =>
                refine ⟨k + 1, by go_num, by omega, ?_, ((hkl.alloc _).drawN _).setNew hg1 _⟩
                rw [Hms.out, mstep_join m q p hj, ← set_last m q (max q.2 p.2)]
                have h5 := (World.ownsRow.stored (ownsRow_drawN (ownsRow_alloc hown (.cells #[.int .i64 p.1, .int .i64 p.2] 87)) (nq + 1)) (m.length * 2 + 1) (.int .i64 (max q.2 p.2))).1
                simpa using h5
              case measure => simp [intOf]; omega
            · have hd : decide (p.1 ≤ q.2 + 1) = false := by simp; omega
              go_wp2_with fail
              go_quiet (fail)
              go_wp2_with (at_builtin; refine wpList_append_own _ rfl (.tmp 72) (.tmp 74) 24 rfl w1.heap.size 87 i0 _ 2 16 Tryz.underlying24 hi hz0 hz1 hz2 rfl (by decide) _ _ _ rfl (ownsRow_alloc (ownsRow_drawN (ownsRow_alloc hown _) _) _) ⟨wr.heap.size + 1, 0, none⟩ 1 1 [.int .i64 p.1, .int .i64 p.2] rfl rfl ?e1 ?e2 ?e3 ?e4 ?e5 ?_)
              case e1 => exact cells_new_at _ [_, _] _ _ (by simp)
              case e2 => intro u hu; simp at hu; rcases hu with rfl | rfl <;> rfl
              case e3 => unfold maxLen; simp at hml; omega
              case e4 => simp at hml; omega
              case e5 => simp; omega
              intro v' w2 hown' hgrow _
              have hO : ROwn w1 w2 v' (mergeL (l.take (k + 1))) := by
                refine ⟨?_, (((hkl.alloc _).drawN _).alloc _).grown hgrow (fun b hb => Or.inr (ownBlock_base hown b hb))⟩
                rw [Hms.out, mstep_more m q p (by omega)]
                simpa [cellsOf, encR, List.range_succ] using hown'
              clear hown hown' hgrow hkl d0 d1
              go_wp2_with fail
              go_roundw
              case rel => exact ⟨k + 1, by go_num, by omega, hO⟩
              case measure => simp [intOf]; omega
        · obtain rfl : l.length = k := by omega
          rw [List.take_length] at hown
          go_wp2_with fail
          go_ret
          refine ⟨_, mergeL l, rfl, HF.out, ⟨ownsRow_base hown hkw1.size, hkw1.trans hkl⟩, Nat.le_trans (mergeL_length l) hlc⟩
end Go.Proofs.YtpcbfmbpbegjgaaGreat
end
section
namespace Go.Proofs.YtpcbfmbpbegjgaaGreat
open Go.RowKit
set_option linter.unusedVariables false
set_option linter.unusedSimpArgs false
set_option maxRecDepth 100000

end Go.Proofs.YtpcbfmbpbegjgaaGreat
end
section
namespace Go.Proofs.YtpcbfmbpbegjgaaGreat
open Go.RowKit
set_option linter.unusedVariables false
set_option linter.unusedSimpArgs false
set_option maxRecDepth 100000

theorem ROwn.read {w0 w : World} {v : Value} {l : List (Int × Int)} (h : ROwn w0 w v l) (hl : l.length ≤ 4611686018427387904) (hr : ∀ p ∈ l, in64 p.1 ∧ in64 p.2) : RSl w v l := ⟨SlOf.ofOwn h.1 hl, hr⟩
theorem norm64 {l : List (Int × Int)} (h : Norm l) : ∀ p ∈ l, in64 p.1 ∧ in64 p.2 := fun p hp => by have := h.rng p hp; unfold in64; omega
theorem RSl.keep {w w' : World} {v : Value} {l : List (Int × Int)} (h : RSl w v l) (K : Keeps (fun _ => False) w w') : RSl w' v l := ⟨h.1.keep K, h.2⟩

theorem hasClosure (p : Int × Int) (r : Int) (c : Nat) (w : World) (hc : w.cell? ⟨c, 0, none⟩ = some (.int .i64 r)) :
    Calls Tryz.prog 110 #[.agg #[.int .i64 p.1, .int .i64 p.2], .pointer (some ⟨c, 0, none⟩)] w fun e w' => e = .returned (.bool (decide (p.1 ≤ r) && decide (r ≤ p.2))) ∧ Keeps (fun _ => False) w w' := by
  have hc1 : ∀ o, (w.alloc o).cell? ⟨c, 0, none⟩ = some (.int .i64 r) := alloc_cell hc
  by_cases h1 : p.1 ≤ r
  · have HV := Lib.hid (show (decide (p.1 ≤ r) && decide (r ≤ p.2)) = decide (r ≤ p.2) by simp [h1])
    go_enter Tryz.func110, Tryz.ntmps110
    go_wp2_with fail
    go_ret
    exact ⟨by first | (rw [HV.out]; rfl) | rfl, (Keeps.refl _ _).alloc _⟩
  · have HV := Lib.hid (show (decide (p.1 ≤ r) && decide (r ≤ p.2)) = false by simp [h1])
    have hd : decide (p.1 ≤ r) = false := by simpa using h1
    go_enter Tryz.func110, Tryz.ntmps110
    go_wp2_with fail
    go_ret
    exact ⟨by first | (rw [HV.out]; rfl) | rfl, (Keeps.refl _ _).alloc _⟩

theorem indexFunc_any (l : List (Int × Int)) (v : Value) (r : Int) (c : Nat) (w : World) (h : RSl w v l) (hc : w.cell? ⟨c, 0, none⟩ = some (.int .i64 r)) :
    Calls Tryz.prog 131 #[v, .func (.func 110) #[] #[.pointer (some ⟨c, 0, none⟩)]] w
      fun e w' => ∃ x : Int, e = .returned (.int .i64 x) ∧ (0 ≤ x ↔ mem l r = true) ∧ Keeps (fun _ => False) w w' := by
  obtain ⟨a, cap, rfl, hl, hcl⟩ := h.cells
  have Hc := Lib.hid hcl
  clear hcl h
  go_enter Tryz.func131, Tryz.ntmps131
  go_wp2_with fail
  go_loopw [8] (fun iv wr => ∃ i : Nat, iv = .int .i64 i ∧ i ≤ l.length ∧ mem (l.take i) r = false ∧ Keeps (fun _ => False) w wr) (fun iv _ => l.length - (intOf iv).toNat)
  case atStart => exact ⟨0, rfl, Nat.zero_le _, rfl, Keeps.refl _ _⟩
  case round =>
    obtain ⟨i, rfl, hi, hno, hkw⟩ := hrel
    have Hno := Lib.hid hno
    clear hno
    by_cases hil : i < l.length
    · obtain ⟨b, off, rfl, hcc⟩ := Hc.out (by omega)
      obtain ⟨p, hp⟩ : ∃ p, l[i]? = some p := ⟨_, List.getElem?_eq_getElem hil⟩
      obtain ⟨c0, c1, _, _⟩ := hcc i p hp
      have d0 := hkw.cell c0 id
      have d1 := hkw.cell c1 id
      have hcr := hkw.cell hc id
      clear hcc c0 c1
      have hsn := take_snoc_of hp
      have Hp := Lib.hid hp
      have Hsn := Lib.hid hsn
      clear hp hsn
      go_wp2_with fail
      refine (hasClosure p r c _ hcr).mono ?_
      rintro e w1 ⟨rfl, hk1⟩
      have hkw1 := hkw.trans hk1
      cases hb : (decide (p.1 ≤ r) && decide (r ≤ p.2))
      · have hgo : mem (l.take (i + 1)) r = false := by rw [Hsn.out, mem_append, mem_one, hb, Hno.out]; rfl
        clear hb
        go_wp2_with fail
        go_roundw
        case rel => exact ⟨i + 1, by go_num, by omega, hgo, hkw1⟩
        case measure => simp [intOf]; omega
      · have hyes : mem l r = true := by
          rw [mem_iff]
          rw [Bool.and_eq_true, decide_eq_true_eq, decide_eq_true_eq] at hb
          exact ⟨p, List.mem_of_getElem? Hp.out, hb.1, hb.2⟩
        have Hy := Lib.hid hyes
        clear hb hyes
        go_wp2_with fail
        go_ret
        exact ⟨i, rfl, by rw [Hy.out]; simp, hkw1⟩
    · go_wp2_with fail
      go_ret
      have h0 := Hno.out
      rw [List.take_of_length_le (by omega)] at h0
      exact ⟨-1, rfl, by rw [h0]; simp, hkw⟩

theorem containsFunc_any (l : List (Int × Int)) (v : Value) (r : Int) (c : Nat) (w : World) (h : RSl w v l) (hc : w.cell? ⟨c, 0, none⟩ = some (.int .i64 r)) :
    Calls Tryz.prog 109 #[v, .func (.func 110) #[] #[.pointer (some ⟨c, 0, none⟩)]] w
      fun e w' => e = .returned (.bool (mem l r)) ∧ Keeps (fun _ => False) w w' := by
  go_enter Tryz.func109, Tryz.ntmps109
  go_wp2_with fail
  refine (indexFunc_any l v r c _ h hc).mono ?_
  rintro e w1 ⟨x, rfl, hx, hk⟩
  have HX := Lib.hid (show mem l r = decide (0 ≤ x) by rw [Bool.eq_iff_iff, decide_eq_true_eq, hx])
  clear hx
  go_wp2_with fail
  go_ret
  exact ⟨by rw [HX.out]; rfl, hk⟩

theorem has_any (l : List (Int × Int)) (v : Value) (r : Int) (w : World) (h : RSl w v l) :
    Calls Tryz.prog 99 #[v, .int .i64 r] w fun e w' => e = .returned (.bool (has l r)) ∧ Keeps (fun _ => False) w w' := by
  by_cases h0 : 0 ≤ r
  · by_cases h1 : r ≤ 1114111
    · have HV := Lib.hid (show has l r = mem l r by unfold has; simp [inAll, h0, h1])
      go_enter Tryz.func99, Tryz.ntmps99
      go_wp2_with fail
      refine (containsFunc_any l v r w.heap.size _ ?_ ?_).mono ?_
      · exact h.keep ((Keeps.refl _ _).alloc _)
      · rw [cell_block (cs := #[.int .i64 r]) (T := 3) (fz := (0, 0)) (by show (w.heap.push _)[_]? = _; simp)]; rfl
      rintro e w1 ⟨rfl, hk⟩
      go_wp2_with fail
      go_ret
      exact ⟨by rw [HV.out]; rfl, ((Keeps.refl _ _).alloc _).trans hk⟩
    · have HV := Lib.hid (show has l r = false by unfold has; simp [inAll]; intro _ _; omega)
      have hd : decide (r ≤ 1114111) = false := by simpa using h1
      go_enter Tryz.func99, Tryz.ntmps99
      go_wp2_with fail
      go_ret
      exact ⟨by first | (rw [HV.out]; rfl) | rfl, (Keeps.refl _ _).alloc _⟩
  · have HV := Lib.hid (show has l r = false by unfold has; simp [inAll]; intro _ _; omega)
    have hd : decide (0 ≤ r) = false := by simpa using h0
    go_enter Tryz.func99, Tryz.ntmps99
    go_wp2_with fail
    go_ret
    exact ⟨by first | (rw [HV.out]; rfl) | rfl, (Keeps.refl _ _).alloc _⟩
end Go.Proofs.YtpcbfmbpbegjgaaGreat
end
section
namespace Go.Proofs.YtpcbfmbpbegjgaaGreat
set_option linter.unusedVariables false
set_option linter.unusedSimpArgs false

structure NotInv (l : List (Int × Int)) (i : Nat) (next : Int) (ns : List (Int × Int)) : Prop where
  nrm : Norm ns
  n0 : 0 ≤ next
  n1 : next ≤ 1114112
  gap : ∀ q ∈ ns, q.2 + 2 ≤ next
  has : ∀ r, mem ns r = (decide (0 ≤ r) && decide (r < next) && !mem (l.take i) r)
  rest : ∀ p ∈ l.drop i, next ≤ p.1
  done : ∀ r, mem (l.take i) r = true → r < next
  len : ns.length ≤ i

theorem NotInv.start (l : List (Int × Int)) (h : Norm l) : NotInv l 0 0 [] :=
  ⟨trivial, by omega, by omega, by simp, fun r => by
    rw [mem_nil]; symm
    have : (decide (0 ≤ r) && decide (r < 0)) = false := by
      rw [Bool.and_eq_false_iff, decide_eq_false_iff_not, decide_eq_false_iff_not]; omega
    rw [this]; rfl,
   fun p hp => (h.rng p (by simpa using hp)).1, fun r hr => by simp [mem] at hr, Nat.le_refl _⟩

theorem norm_drop (l : List (Int × Int)) (h : Norm l) (i : Nat) (p : Int × Int) (hp : l[i]? = some p) : ∀ q ∈ l.drop (i + 1), p.2 + 2 ≤ q.1 := by
  induction l generalizing i with
  | nil => simp at hp
  | cons x l ih =>
    cases i with
    | zero => simp at hp; subst hp; simpa using h.2.2.2.1
    | succ j => simpa using ih h.tail j (by simpa using hp)

theorem NotInv.step {l : List (Int × Int)} {i : Nat} {next : Int} {ns : List (Int × Int)} {p : Int × Int} (h : NotInv l i next ns) (hl : Norm l) (hp : l[i]? = some p) :
    (next < p.1 → NotInv l (i + 1) (p.2 + 1) (ns ++ [(next, p.1 - 1)])) ∧ (¬ next < p.1 → NotInv l (i + 1) (p.2 + 1) ns) := by
  have hr := hl.rng p (List.mem_of_getElem? hp)
  have n0 := h.n0
  have hd : l.drop i = p :: l.drop (i + 1) := by
    have hi := (List.getElem?_eq_some_iff.1 hp)
    obtain ⟨hi, e⟩ := hi
    rw [List.drop_eq_getElem_cons hi, e]
  have hle := h.rest p (by rw [hd]; simp)
  have hsn : l.take (i + 1) = l.take i ++ [p] := by rw [List.take_add_one, hp]; rfl
  have hrest : ∀ q ∈ l.drop (i + 1), p.2 + 1 ≤ q.1 := fun q hq => by have := norm_drop l hl i p hp q hq; omega
  have hdone : ∀ r, mem (l.take (i + 1)) r = true → r < p.2 + 1 := by
    intro r hr'
    rw [hsn, mem_append, mem_one, Bool.or_eq_true, Bool.and_eq_true, decide_eq_true_eq, decide_eq_true_eq] at hr'
    rcases hr' with h1 | h1
    · have := h.done r h1; omega
    · omega
  have hm : ∀ r, next ≤ r → mem (l.take i) r = false := by
    intro r hn
    cases hq : mem (l.take i) r
    · rfl
    · have := h.done r hq; omega
  constructor
  · intro hlt
    refine ⟨norm_append ns _ h.nrm h.n0 (by simp only; omega) (by simp only; omega) h.gap, by omega, by omega, ?_, ?_, hrest, hdone, by simp; exact h.len⟩
    · intro q hq
      rcases List.mem_append.1 hq with hq | hq
      · have := h.gap q hq; omega
      · simp at hq; subst hq; simp only; omega
    · intro r
      rw [mem_append, h.has, hsn, mem_append, mem_one, mem_one]
      by_cases a : r < next
      · have e1 : decide (next ≤ r) = false := by simp; omega
        have e2 : decide (p.1 ≤ r) = false := by simp; omega
        have e3 : decide (r < p.2 + 1) = decide (r < next) := by rw [decide_eq_decide]; omega
        rw [e1, e2, e3]; simp
      · have e0 := hm r (by omega)
        have e1 : decide (r < next) = false := by simp; omega
        rw [e0, e1]
        rw [Bool.eq_iff_iff]
        simp only [Bool.and_false, Bool.false_and, Bool.false_or, Bool.and_eq_true, decide_eq_true_eq, Bool.not_eq_true', Bool.and_eq_false_iff, decide_eq_false_iff_not]
        omega
  · intro hge
    have he : next = p.1 := by omega
    refine ⟨h.nrm, by omega, by omega, fun q hq => by have := h.gap q hq; omega, ?_, hrest, hdone, by have := h.len; omega⟩
    intro r
    rw [h.has, hsn, mem_append, mem_one]
    by_cases a : r < next
    · have e2 : decide (p.1 ≤ r) = false := by simp; omega
      have e3 : decide (r < p.2 + 1) = decide (r < next) := by rw [decide_eq_decide]; omega
      rw [e2, e3]; simp
    · have e0 := hm r (by omega)
      have e1 : decide (r < next) = false := by simp; omega
      rw [e0, e1]
      rw [Bool.eq_iff_iff]
      simp only [Bool.and_false, Bool.false_and, Bool.false_or, Bool.and_eq_true, decide_eq_true_eq, Bool.not_eq_true', Bool.and_eq_false_iff, decide_eq_false_iff_not]
      constructor
      · intro h; cases h
      · intro h; omega

/-- What is not in the ranges rs: a set. -/
def IsNot (rs out : List (Int × Int)) : Prop := Norm out ∧ ∀ r, mem out r = (inAll r && !has rs r)

theorem NotInv.fin {rs l : List (Int × Int)} {next : Int} {ns : List (Int × Int)} (h : NotInv l l.length next ns) (hl : IsOf rs l) :
    (next ≤ 1114111 → IsNot rs (ns ++ [(next, 1114111)])) ∧ (¬ next ≤ 1114111 → IsNot rs ns) := by
  have ht : l.take l.length = l := List.take_length
  have hh := h.has
  have hd := h.done
  rw [ht] at hd
  simp only [ht] at hh
  have hm : ∀ r, next ≤ r → mem l r = false := by
    intro r hn
    cases hq : mem l r
    · rfl
    · have := hd r hq; omega
  constructor
  · intro hle
    refine ⟨norm_append ns _ h.nrm h.n0 (by simp only; omega) (by simp only; omega) h.gap, fun r => ?_⟩
    rw [mem_append, hh, mem_one, ← hl.2]
    unfold inAll
    have n0 := h.n0
    by_cases a : r < next
    · have e1 : decide (next ≤ r) = false := by simp; omega
      have e2 : decide (r ≤ 1114111) = true := by simp; omega
      have e3 : decide (r < next) = true := by simp; omega
      rw [e1, e2, e3]; simp
    · have e0 := hm r (by omega)
      have e1 : decide (r < next) = false := by simp; omega
      have e2 : decide (next ≤ r) = true := by simp; omega
      have e3 : decide (0 ≤ r) = true := by simp; omega
      rw [e0, e1, e2, e3]; simp
  · intro hgt
    refine ⟨h.nrm, fun r => ?_⟩
    rw [hh, ← hl.2]
    unfold inAll
    have n1 := h.n1
    have : decide (r < next) = decide (r ≤ 1114111) := by rw [decide_eq_decide]; omega
    rw [this]
end Go.Proofs.YtpcbfmbpbegjgaaGreat
end
section
namespace Go.Proofs.YtpcbfmbpbegjgaaGreat
open Go.RowKit
set_option linter.unusedVariables false
set_option linter.unusedSimpArgs false
set_option maxRecDepth 100000

/-- At the loop's head: the row, the next number, the counter. -/
def NotR (w1 : World) (out : List (Int × Int)) (v nx i : Value) (wr : World) : Prop :=
  ∃ (k : Nat) (next : Int) (ns : List (Int × Int)), i = .int .i64 k ∧ nx = .int .i64 next ∧ k ≤ out.length ∧ NotInv out k next ns ∧ ROwn w1 wr v ns

set_option maxHeartbeats 2000000 in
theorem not_any (l : List (Int × Int)) (v : Value) (w : World) (h : RSl w v l) (hl : l.length ≤ 100000) :
    Calls Tryz.prog 114 #[v] w fun e w' => ∃ u out, e = .returned u ∧ IsNot l out ∧ ROwn w w' u out ∧ out.length ≤ l.length + 1 := by
  obtain ⟨i0, hi, hz0, hz1, hz2⟩ := info_parts info_range
  go_enter Tryz.func114, Tryz.ntmps114
  go_wp2_with fail
  refine (of_walk l v _ h hl).mono ?_
  rintro e w1 ⟨u, out, rfl, hof, hown, hlo⟩
  have hS := hown.read (by omega) (norm64 hof.1)
  obtain ⟨a, cap, rfl, hl1, hcl⟩ := hS.cells
  have Hc := Lib.hid hcl
  clear hcl hS
  have hkw := hown.2
  have hw1 := hkw.size
  clear hown
  go_wp2_with fail
  go_loopw [3, 4, 10] (fun v nx i wr => NotR w1 out v nx i wr) (fun _ _ i _ => out.length - (intOf i).toNat)
  case atStart => exact ⟨0, 0, [], rfl, rfl, Nat.zero_le _, NotInv.start out hof.1, World.ownsRow_nil _ _ _ _, Keeps.refl _ _⟩
  case round =>
    obtain ⟨k, next, ns, rfl, rfl, hk, hinv, hown, hkl⟩ := hrel
    have hn0 := hinv.n0
    have hn1 := hinv.n1
    have hnl := hinv.len
    by_cases hlt : k < out.length
    · obtain ⟨b, off, rfl, hcc⟩ := Hc.out (by omega)
      obtain ⟨p, hp⟩ : ∃ p, out[k]? = some p := ⟨_, List.getElem?_eq_getElem hlt⟩
      obtain ⟨c0, c1, _, _⟩ := hcc k p hp
      have d0 := hkl.cell c0 id
      have d1 := hkl.cell c1 id
      have hpr := hof.1.rng p (List.mem_of_getElem? hp)
      obtain ⟨st1, st2⟩ := hinv.step hof.1 hp
      have St1 := Lib.hid st1
      have St2 := Lib.hid st2
      obtain ⟨p0, p1, p2⟩ := hpr
      clear hcc c0 c1 hp st1 st2
      obtain ⟨va, vc, rfl⟩ := ownsRow_slice hown
      have hsz := hkl.size
      by_cases hj : next < p.1
      · go_wp2_with (at_builtin; refine wpList_append_own _ rfl (.tmp 18) (.tmp 24) 24 rfl w1.heap.size 87 i0 _ 2 16 Tryz.underlying24 hi hz0 hz1 hz2 rfl (by decide) _ _ _ rfl (ownsRow_alloc (ownsRow_alloc hown _) _) ⟨wr.heap.size + 1, 0, none⟩ 1 1 [.int .i64 next, .int .i64 (p.1 - 1)] rfl rfl ?c1 ?c2 ?c3 ?c4 ?c5 ?_)
        case c2 => exact ⟨rfl, rfl⟩
        case c3 => unfold maxLen; omega
        case c4 => omega
        case c5 => omega
        intro v' w2 hown' hgrow _
        have hO : ROwn w1 w2 v' (ns ++ [(next, p.1 - 1)]) := by
          refine ⟨?_, ((hkl.alloc _).alloc _).grown hgrow (fun b hb => Or.inr (ownBlock_base hown b hb))⟩
          rw [cellsOf_append]
          simpa [cellsOf, encR, List.range_succ] using hown'
        have hfr : ∀ (j : Nat) (hj : j < w2.heap.size) x, (⟨wr.heap.size, x, none⟩ : Addr) = ⟨wr.heap.size, x, none⟩ := fun _ _ _ => rfl
        have hb6 : w2.heap[wr.heap.size]? = some (.cells #[.int .i64 p.1, .int .i64 p.2] 87 (0, 0)) := by
          rw [hgrow.block _ (by simp; omega) (fun e => by have := own_lt hown _ e.symm; omega), Below.heap_alloc _ _ _ (by simp)]
          show (wr.heap.push _)[_]? = _; simp
        have e0 : w2.cell? ⟨wr.heap.size, 0, none⟩ = some (.int .i64 p.1) := by rw [cell_block hb6]; rfl
        have e1 : w2.cell? ⟨wr.heap.size, 1, none⟩ = some (.int .i64 p.2) := by rw [cell_block hb6]; rfl
        clear hown hown' hgrow hkl d0 d1 hb6
        go_wp2_with fail
        go_roundw
        case rel => exact ⟨k + 1, p.2 + 1, _, by go_num, rfl, by omega, St1.out hj, hO⟩
        case measure => simp [intOf]; omega
      · go_wp2_with fail
        go_roundw
        case rel => exact ⟨k + 1, p.2 + 1, _, by go_num, rfl, by omega, St2.out hj, ownsRow_alloc hown _, hkl.alloc _⟩
        case measure => simp [intOf]; omega
    · obtain rfl : out.length = k := by omega
      obtain ⟨fi1, fi2⟩ := hinv.fin hof
      have Fi1 := Lib.hid fi1
      have Fi2 := Lib.hid fi2
      clear fi1 fi2
      have hsz := hkl.size
      by_cases hj : next ≤ 1114111
      · obtain ⟨va, vc, rfl⟩ := ownsRow_slice hown
        go_wp2_with (at_builtin; refine wpList_append_own _ rfl (.tmp 32) (.tmp 35) 24 rfl w1.heap.size 87 i0 _ 2 16 Tryz.underlying24 hi hz0 hz1 hz2 rfl (by decide) _ _ _ rfl (ownsRow_alloc hown _) ⟨wr.heap.size, 0, none⟩ 1 1 [.int .i64 next, .int .i64 1114111] rfl rfl ?d1 ?d2 ?d3 ?d4 ?d5 ?_)
        case d2 => exact ⟨rfl, rfl⟩
        case d3 => unfold maxLen; omega
        case d4 => omega
        case d5 => omega
        intro v' w2 hown' hgrow _
        have hO : ROwn w1 w2 v' (ns ++ [(next, 1114111)]) := by
          refine ⟨?_, (hkl.alloc _).grown hgrow (fun b hb => Or.inr (ownBlock_base hown b hb))⟩
          rw [cellsOf_append]
          simpa [cellsOf, encR, List.range_succ] using hown'
        clear hown hown' hgrow hkl
        go_wp2_with fail
        go_ret
        exact ⟨_, ns ++ [(next, 1114111)], rfl, Fi1.out hj, ⟨ownsRow_base hO.1 hw1, hkw.trans hO.2⟩, by simp; omega⟩
      · go_wp2_with fail
        go_ret
        first
          | exact ⟨_, ns, rfl, Fi2.out hj, ⟨ownsRow_base hown hw1, hkw.trans hkl⟩, by omega⟩
          | exact ⟨_, rfl, ns, Fi2.out hj, ⟨ownsRow_base hown hw1, hkw.trans hkl⟩, by omega⟩
end Go.Proofs.YtpcbfmbpbegjgaaGreat
end
section
namespace Go.Proofs.YtpcbfmbpbegjgaaGreat
open Go.RowKit
set_option linter.unusedVariables false
set_option linter.unusedSimpArgs false
set_option maxRecDepth 100000

theorem cell_new (w : World) (cs : Array Value) (T : TypeId) (o : Nat) : (w.alloc (.cells cs T)).cell? ⟨w.heap.size, o, none⟩ = cs[o]? :=
  cell_block (cs := cs) (T := T) (fz := (0, 0)) (by show (w.heap.push _)[_]? = _; simp) o
def cat2 (xs ys : List (Int × Int)) (k : Nat) : List (Int × Int) := (if 1 ≤ k then xs else []) ++ (if 2 ≤ k then ys else [])
theorem cat2_0 (xs ys : List (Int × Int)) : cat2 xs ys 0 = [] := rfl
theorem cat2_1 (xs ys : List (Int × Int)) : cat2 xs ys 1 = xs := by simp [cat2]
theorem cat2_2 (xs ys : List (Int × Int)) : cat2 xs ys 2 = xs ++ ys := by simp [cat2]
theorem encR_one (l : List (Int × Int)) : ∀ u ∈ cellsOf 2 encR l, u.oneCell' = true := by
  intro u hu
  unfold cellsOf at hu
  rw [List.mem_flatMap] at hu
  obtain ⟨x, _, hx⟩ := hu
  rw [encR_cells] at hx
  simp at hx
  rcases hx with rfl | rfl <;> rfl

def Cat1 (xs ys : List (Int × Int)) (sv kv : Value) : Prop := ∃ k : Nat, kv = .int .i64 k ∧ k ≤ 2 ∧ sv = .int .i64 (cat2 xs ys k).length
def Cat2 (w : World) (xs ys : List (Int × Int)) (u kv : Value) (wr : World) : Prop := ∃ k : Nat, kv = .int .i64 k ∧ k ≤ 2 ∧ ROwn w wr u (cat2 xs ys k)

/-- The two together: a set. -/
def IsOr (xs ys out : List (Int × Int)) : Prop := Norm out ∧ ∀ r, mem out r = (has xs r || has ys r)
def IsAnd (xs ys out : List (Int × Int)) : Prop := Norm out ∧ ∀ r, mem out r = (has xs r && has ys r)
theorem in64_append {xs ys : List (Int × Int)} (hx : ∀ p ∈ xs, in64 p.1 ∧ in64 p.2) (hy : ∀ p ∈ ys, in64 p.1 ∧ in64 p.2) : ∀ p ∈ xs ++ ys, in64 p.1 ∧ in64 p.2 := by
  intro p hp
  rcases List.mem_append.1 hp with h | h
  · exact hx p h
  · exact hy p h

end Go.Proofs.YtpcbfmbpbegjgaaGreat
end
section
namespace Go.Proofs.YtpcbfmbpbegjgaaGreat
open Go.RowKit
set_option linter.unusedVariables false
set_option linter.unusedSimpArgs false
set_option maxRecDepth 100000

theorem norm_len_take (l : List (Int × Int)) (h : Norm l) (i : Nat) : Norm (l.take i) := by
  induction l generalizing i with
  | nil => simpa using h
  | cons q l ih =>
    cases i with
    | zero => trivial
    | succ j => exact ⟨h.1, h.2.1, h.2.2.1, fun x hx => h.2.2.2.1 x (List.mem_of_mem_take hx), ih h.tail j⟩

theorem only_any (l : List (Int × Int)) (v : Value) (w : World) (h : RSl w v l) (hl : l.length ≤ 100000) :
    Calls Tryz.prog 48 #[v] w fun e w' => ∃ (out : List (Int × Int)) (x : Int) (ok : Bool), e = .returned (.tuple #[.int .i64 x, .bool ok]) ∧ IsOf l out ∧ (ok = true → out = [(x, x)]) ∧ (ok = false → x = 0 ∧ ∀ y, out ≠ [(y, y)]) ∧ Keeps (fun _ => False) w w' := by
  go_enter Tryz.func48, Tryz.ntmps48
  go_wp2_with fail
  refine (of_walk l v _ h hl).mono ?_
  rintro e w1 ⟨u, out, rfl, hof, hown, hlo⟩
  have hS := hown.read (by omega) (norm64 hof.1)
  obtain ⟨a, cap, rfl, hl1, hcl⟩ := hS.cells
  clear hS
  have hkw := hown.2
  clear hown
  by_cases h1 : out.length = 1
  · obtain ⟨p, rfl⟩ : ∃ p, out = [p] := List.length_eq_one_iff.1 h1
    obtain ⟨b, off, rfl, hcc⟩ := hcl (by simp)
    obtain ⟨c0, c1, _, _⟩ := hcc 0 p rfl
    clear hcc hcl h1
    simp only [List.length_cons, List.length_nil, Nat.zero_add, Nat.zero_mul, Nat.add_zero] at *
    by_cases hpq : p.1 = p.2
    · have hd : (p.1 != p.2) = false := by simp [hpq]
      have Hpq := Lib.hid hpq
      clear hpq
      go_wp2_with fail
      go_quiet (fail)
      go_wp2_with fail
      go_ret2
      exact ⟨[p], p.1, true, rfl, hof, fun _ => by rw [show p = (p.1, p.1) from Prod.ext rfl Hpq.out.symm], (fun h => by cases h), hkw.drawN _⟩
    · have hd : (p.1 != p.2) = true := by simp [hpq]
      have Hpq := Lib.hid hpq
      clear hpq
      go_wp2_with fail
      go_quiet (fail)
      go_wp2_with fail
      go_ret2
      exact ⟨[p], 0, false, rfl, hof, (fun h => by cases h), fun _ => ⟨rfl, fun y e => Hpq.out (by have := List.cons.inj e; rw [this.1])⟩, hkw.drawN _⟩
  · have hd : ((out.length : Int) != 1) = true := by simp; omega
    have Hn := Lib.hid h1
    clear h1 hcl
    go_wp2_with fail
    go_quiet (fail)
    go_wp2_with fail
    go_ret2
    exact ⟨out, 0, false, rfl, hof, (fun h => by cases h), fun _ => ⟨rfl, fun y e => Hn.out (by rw [e]; rfl)⟩, hkw.drawN _⟩
end Go.Proofs.YtpcbfmbpbegjgaaGreat
end
