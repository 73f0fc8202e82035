/-
  The walk of reedbedref08.Ends: some numbers, all within the set's bounds.
-/
import Derived.Test.YtcgieejgmcgicaaGreatDoorSetRef
import Derived.Deep.LoopGhost
import Derived.RegionTactic
namespace Go.Proofs.YtcgieejgmcgicaaGreatDoor
open Go.RowKit
set_option linter.unusedVariables false
set_option linter.unusedSimpArgs false
set_option maxRecDepth 100000

theorem info_int : (Tryz.prog.info? 3).map (fun i => (i.zero, i.size, i.bytes)) = some (some (.int .i64 0), 1, 8) := by kernel_rfl

/-- An owned row of three or more is not the block of two. -/
theorem own_ne {w : World} {base : Nat} {e : TypeId} {v : Value} {n : Nat} {xs : List Value} (h : w.ownsRow base e 1 v n xs) (h3 : 3 ≤ n) {b : Nat} {cs : Array Value} {T : TypeId} (hb : w.heap[b]? = some (.cells cs T (0, 0))) (hcs : cs.size = 2) : ∀ g, v.ownBlock = some g → g ≠ b := by
  rintro g hg rfl
  rcases h.2 with ⟨rfl, _⟩ | ⟨g', cap, cur, rfl, _, hh, hn, _, hsz, _⟩
  · simp [Value.ownBlock] at hg
  · simp [Value.ownBlock] at hg
    subst hg
    rw [hb] at hh
    simp at hh
    obtain ⟨⟨rfl, _⟩, _⟩ := hh
    omega

def OutR (w0 wr : World) (u : Value) (es : List Int) (bound : Nat) : Prop :=
  wr.ownsRow w0.heap.size 3 1 u es.length (es.map (Value.int .i64)) ∧ es.length ≤ bound ∧ 2 ≤ es.length ∧ (∀ x ∈ es, 0 ≤ x ∧ x ≤ 1114111) ∧ Keeps (fun _ => False) w0 wr

theorem own_lt {w : World} {base : Nat} {e : TypeId} {size : Nat} {v : Value} {n : Nat} {xs : List Value} (h : w.ownsRow base e size v n xs) : ∀ g, v.ownBlock = some g → g < w.heap.size := by
  rintro g hg
  rcases h.2 with ⟨rfl, _⟩ | ⟨g', cap, cur, rfl, _, hh, _⟩
  · simp [Value.ownBlock] at hg
  · simp [Value.ownBlock] at hg; subst hg; exact (Array.getElem?_eq_some_iff.1 hh).1

theorem ownsRow_keeps {S : Nat → Prop} {w w' : World} {base : Nat} {e : TypeId} {size : Nat} {v : Value} {n : Nat} {xs : List Value} (h : w.ownsRow base e size v n xs) (K : Keeps S w w') (hs : ∀ b, v.ownBlock = some b → ¬ S b) : w'.ownsRow base e size v n xs := by
  refine ⟨h.1, ?_⟩
  rcases h.2 with h0 | ⟨g, cap, cur, rfl, hg, hh, hr⟩
  · exact Or.inl h0
  · exact Or.inr ⟨g, cap, cur, rfl, hg, K.heap hh (hs g rfl), hr⟩
theorem info_range : (Tryz.prog.info? 323).map (fun i => (i.zero, i.size, i.bytes)) = some (some (.agg #[.int .i64 0, .int .i64 0]), 2, 16) := by kernel_rfl
/-- An owned row of ranges, all else as it was. -/
def ROwn (w0 w : World) (v : Value) (l : List (Int × Int)) : Prop := w.ownsRow w0.heap.size 323 2 v l.length (cellsOf 2 encR l) ∧ Keeps (fun _ => False) w0 w

theorem encR_cells (x : Int × Int) : (List.range 2).map (encR x) = [.int .i64 x.1, .int .i64 x.2] := rfl

theorem cells_new_at (w : World) (l : List Value) (T : TypeId) (n : Nat) (hn : w.heap.size = n) : ∀ (j : Nat) (u : Value), l[j]? = some u → (w.alloc (.cells l.toArray T)).cell? ((⟨n, 0, none⟩ : Addr).add j) = some u := by
  subst hn; exact cells_new w l T
theorem ownsRow_some {w : World} {base : Nat} {e : TypeId} {size : Nat} {v : Value} {n : Nat} {xs : List Value} (h : w.ownsRow base e size v n xs) (hn : 0 < n) : ∃ g cap, v = .slice (some ⟨g, 0, none⟩) n cap ∧ base ≤ g ∧ g < w.heap.size := by
  rcases h.2 with ⟨_, rfl⟩ | ⟨g, cap, cur, rfl, hg, hh, _⟩
  · omega
  · exact ⟨g, cap, rfl, hg, (Array.getElem?_eq_some_iff.1 hh).1⟩

theorem set_last (m : List (Int × Int)) (q : Int × Int) (z : Int) : (cellsOf 2 encR (m ++ [q])).set (m.length * 2 + 1) (.int .i64 z) = cellsOf 2 encR (m ++ [(q.1, z)]) := by
  rw [cellsOf_append, cellsOf_append, List.set_append_right _ _ (by rw [cellsOf_length]; omega), cellsOf_length]
  congr 1
  rw [show m.length * 2 + 1 - m.length * 2 = 1 by omega]
  rfl
/-- At the middle loop's head. -/
def MidR (w : World) (i : Nat) (p : Int × Int) (lb : Nat) (u kv : Value) (wk : World) : Prop :=
  ∃ (k : Nat) (es : List Int), kv = .int .i64 k ∧ k ≤ 2 ∧ OutR w wk u es (2 + 6 * i + 3 * k) ∧ wk.heap[lb]? = some (.cells #[.int .i64 p.1, .int .i64 p.2] 3 (0, 0)) ∧ ∀ g, u.ownBlock = some g → g ≠ lb
/-- At the inner loop's head. -/
def InR (w : World) (i k : Nat) (p : Int × Int) (lb : Nat) (u dv : Value) (wk : World) : Prop :=
  ∃ (d : Nat) (es : List Int), dv = .int .i64 ((d : Int) - 1) ∧ d ≤ 3 ∧ OutR w wk u es (2 + 6 * i + 3 * k + d) ∧ wk.heap[lb]? = some (.cells #[.int .i64 p.1, .int .i64 p.2] 3 (0, 0)) ∧ ∀ g, u.ownBlock = some g → g ≠ lb

set_option maxHeartbeats 2000000 in
theorem refEnds_any (l : List (Int × Int)) (v : Value) (w : World) (h : RSl w v l) (hlen : l.length ≤ 20000) :
    Calls Tryz.prog 258 #[v] w fun e w' => ∃ u, ∃ es : List Int, e = .returned u ∧ OutR w w' u es (2 + 6 * l.length) := by
  obtain ⟨a, cap, rfl, hl, hc⟩ := h.cells
  have Hc := Lib.hid hc
  clear hc h
  obtain ⟨i0, hi, hz0, hz1, hz2⟩ := info_parts info_int
  go_enter Tryz.func258, Tryz.ntmps258
  go_wp2_with fail
  go_loopw [3, 4] (fun u iv wr => ∃ (i : Nat) (es : List Int), iv = .int .i64 i ∧ i ≤ l.length ∧ OutR w wr u es (2 + 6 * i)) (fun _ iv _ => l.length - (intOf iv).toNat)
  case atStart =>
    refine ⟨0, [0, 1114111], rfl, Nat.zero_le _, ⟨rfl, ?_⟩, by simp, by simp, by simp, (Keeps.refl _ _).alloc _⟩
    exact Or.inr ⟨w.heap.size, 2, #[.int .i64 0, .int .i64 1114111], rfl, Nat.le_refl _, by show (w.heap.push _)[_]? = _; simp, by simp, by unfold maxLen; simp, by simp, rfl⟩
  case round =>
    obtain ⟨i, es, rfl, hil, hO⟩ := hrel
    by_cases hlt : i < l.length
    · obtain ⟨b, off, rfl, hcc⟩ := Hc.out (by omega)
      obtain ⟨p, hp⟩ : ∃ p, l[i]? = some p := ⟨_, List.getElem?_eq_getElem hlt⟩
      obtain ⟨c0, c1, ⟨ip1, ip2⟩, ⟨ip3, ip4⟩⟩ := hcc i p hp
      clear hcc hp
      have d0 := hO.2.2.2.2.cell c0 id
      have d1 := hO.2.2.2.2.cell c1 id
      clear c0 c1
      go_wp2_with fail
      go_region
      all_goals go_wp2_with fail
      have hlb : (wr.drew.alloc (.cells #[.int .i64 p.1, .int .i64 p.2] 3)).heap[wr.heap.size]? = some (.cells #[.int .i64 p.1, .int .i64 p.2] 3 (0, 0)) := by
        show (wr.heap.push _)[_]? = _; simp
      have hbase : w.heap.size ≤ wr.heap.size := hO.2.2.2.2.size
      obtain ⟨o1, o2, o3, o4, o5⟩ := hO
      have hO1 : OutR w (wr.drew.alloc (.cells #[.int .i64 p.1, .int .i64 p.2] 3)) u3 es (2 + 6 * i) := ⟨ownsRow_alloc o1 _, o2, o3, o4, (o5.drew).alloc _⟩
      have hne : ∀ g, u3.ownBlock = some g → g ≠ wr.heap.size := fun g hg => Nat.ne_of_lt (own_lt o1 g hg)
      clear o1 o2 o3 o4 o5 d0 d1
      have ew : (wr.alloc (.cells #[.int .i64 p.1, .int .i64 p.2] 3)).drew = wr.drew.alloc (.cells #[.int .i64 p.1, .int .i64 p.2] 3) := rfl
      rw [← ew] at hO1 hlb
      clear ew
      generalize (wr.alloc (.cells #[.int .i64 p.1, .int .i64 p.2] 3)).drew = w1 at *
      generalize wr.heap.size = lb at *
      go_loopw [3, 6] (fun u kv wk => MidR w i p lb u kv wk) (fun _ kv _ => 2 - (intOf kv).toNat)
      case atStart => exact ⟨0, es, rfl, by omega, hO1, hlb, hne⟩
      case round =>
        clear hO1 hlb hne
        obtain ⟨k, es, rfl, hk2, hO, hlb, hne⟩ := hrel
        by_cases hk : k < 2
        · have hkd : decide ((k : Int) < 2) = true := by simp; omega
          go_wp2_with fail
          go_loopw [3, 7] (fun u dv wk => InR w i k p lb u dv wk) (fun _ dv _ => (2 - intOf dv).toNat)
          case atStart => exact ⟨0, es, rfl, by omega, hO, hlb, hne⟩
          case round =>
            clear hO hlb hne
            obtain ⟨d, es, rfl, hd3, hO, hlb, hne⟩ := hrel
            have Hne := Lib.hid hne
            clear hne
            by_cases hd : d < 3
            · obtain ⟨x, hx, hx0, hx1⟩ : ∃ x : Int, wr.cell? ⟨lb, k, none⟩ = some (.int .i64 x) ∧ -9223372036854775808 ≤ x ∧ x ≤ 9223372036854775807 := by
                have : k = 0 ∨ k = 1 := by omega
                rcases this with rfl | rfl
                · exact ⟨p.1, by rw [cell_block hlb]; rfl, ip1, ip2⟩
                · exact ⟨p.2, by rw [cell_block hlb]; rfl, ip3, ip4⟩
              obtain ⟨o1, o2, o3, o4, o5⟩ := hO
              have hsz := o5.size
              by_cases x1 : x < -2
              · go_wp2_with fail
                go_roundw
                case rel => exact ⟨d + 1, es, by go_num, by omega, ⟨o1, by omega, o3, o4, o5⟩, hlb, Hne.out⟩
                case measure => simp [intOf]; omega
              by_cases x2 : 1114113 < x
              · go_wp2_with fail
                go_roundw
                case rel => exact ⟨d + 1, es, by go_num, by omega, ⟨o1, by omega, o3, o4, o5⟩, hlb, Hne.out⟩
                case measure => simp [intOf]; omega
              by_cases x3 : x + ((d : Int) - 1) < 0
              · go_wp2_with fail
                go_roundw
                case rel => exact ⟨d + 1, es, by go_num, by omega, ⟨o1, by omega, o3, o4, o5⟩, hlb, Hne.out⟩
                case measure => simp [intOf]; omega
              by_cases x4 : 1114111 < x + ((d : Int) - 1)
              · go_wp2_with fail
                go_roundw
                case rel => exact ⟨d + 1, es, by go_num, by omega, ⟨o1, by omega, o3, o4, o5⟩, hlb, Hne.out⟩
                case measure => simp [intOf]; omega
              go_wp2_with (at_builtin; refine wpList_append_own _ rfl (.tmp 53) (.tmp 57) 23 rfl w.heap.size 3 i0 _ 1 8 Tryz.underlying23 hi hz0 hz1 hz2 rfl (by decide) _ _ _ rfl (ownsRow_alloc o1 _) ⟨wr.heap.size, 0, none⟩ 1 1 [.int .i64 (x + ((d : Int) - 1))] rfl rfl (by exact cells_new _ [_] _) (by intro u hu; simp at hu; subst hu; rfl) ?c3 ?c4 ?c5 ?_)
              case c3 => unfold maxLen; omega
              case c4 => omega
              case c5 => first | omega | (simp; omega)
              intro v' w2 hown' hgrow _
              have hown2 : w2.ownsRow w.heap.size 3 1 v' (es ++ [x + ((d : Int) - 1)]).length ((es ++ [x + ((d : Int) - 1)]).map (Value.int .i64)) := by simpa using hown'
              have hlb2 : w2.heap[lb]? = some (.cells #[.int .i64 p.1, .int .i64 p.2] 3 (0, 0)) := by
                rw [hgrow.block lb (by simp; exact Nat.lt_succ_of_lt (Array.getElem?_eq_some_iff.1 hlb).1) (fun e => Hne.out lb e.symm rfl), Below.heap_alloc _ _ _ (Array.getElem?_eq_some_iff.1 hlb).1]
                exact hlb
              have Hne2 := Lib.hid (own_ne hown2 (by simp; omega) hlb2 rfl)
              have hk2 : Keeps (fun _ => False) w w2 := (o5.alloc _).grown hgrow (fun b hb => Or.inr (ownBlock_base o1 b hb))
              have hO2 : OutR w w2 v' (es ++ [x + ((d : Int) - 1)]) (2 + 6 * i + 3 * k + (d + 1)) := ⟨hown2, by simp; omega, by simp; omega, fun y hy => by
                rcases List.mem_append.1 hy with hy | hy
                · exact o4 y hy
                · simp at hy; omega, hk2⟩
              clear hown2 hown' hgrow hk2 o1 o2 o3 o4 o5
              go_wp2_with fail
              go_roundw
              case rel => first | exact ⟨d + 1, _, by go_num, by omega, hO2, hlb2, Hne2.out⟩ | ((repeat apply Exists.intro); exact ⟨⟨d + 1, _, by go_num, by omega, hO2, hlb2, Hne2.out⟩, rfl⟩)
              case measure => simp [intOf]; omega
            · obtain rfl : d = 3 := by omega
              go_wp2_with fail
              go_roundw
              case rel => exact ⟨k + 1, es, by go_num, by omega, ⟨hO.1, by have := hO.2.1; omega, hO.2.2⟩, hlb, Hne.out⟩
              case measure => simp [intOf]; omega
        · obtain rfl : k = 2 := by omega
          go_wp2_with fail
          go_roundw
          case rel => exact ⟨i + 1, es, by go_num, by omega, ⟨hO.1, by have := hO.2.1; omega, hO.2.2⟩⟩
          case measure => simp [intOf]; omega
    · go_wp2_with fail
      go_ret
      obtain rfl : l.length = i := by omega
      exact ⟨_, es, rfl, hO⟩
end Go.Proofs.YtcgieejgmcgicaaGreatDoor
