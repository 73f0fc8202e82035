/-
  Several texts in one: How set.Of works, in plain words: clamp, sort, merge. The walk of reedbedref08.Ends: some numbers, all within the set's bounds. The walk of set.Of. The walk of slices.Equal on ranges. The walks of set.Right and set.Has, and of what they call of slices. set.Not in plain words. The walk of set.Not. The walks of slices.Grow, slices.Concat (of two), set.Or, set.And.
-/
import Derived.Test.YtjahiihmoglpfaaGreatDoorMg3
import Derived.Deep.LoopGhost
import Derived.RegionTactic
import Derived.Test.YtjahiihmoglpfaaGreatDoorMg4
import Derived.Laws.AppendOwnNone
namespace Go.Proofs.YtjahiihmoglpfaaGreatDoor
open Go.RowKit
set_option linter.unusedVariables false
set_option linter.unusedSimpArgs false
set_option maxRecDepth 100000
def xa5 (p : Int × Int) : Int × Int := (max p.1 0, min p.2 1114111)
def xcr (l : List (Int × Int)) : List (Int × Int) := (l.map xa5).filter fun p => decide (p.1 ≤ p.2)
theorem xhI (l : List (Int × Int)) (p : Int × Int) : xcr (l ++ [p]) = xcr l ++ (if (xa5 p).1 ≤ (xa5 p).2 then [xa5 p] else []) := by
 unfold xcr
 rw [List.map_append, List.filter_append]
 congr 1
 by_cases h : (xa5 p).1 ≤ (xa5 p).2 <;> simp [h]
theorem xdl (l : List (Int × Int)) : (xcr l).length ≤ l.length := by
 unfold xcr; have := List.length_filter_le (fun p => decide (p.1 ≤ p.2)) (l.map xa5); simpa using this
theorem xeA (l : List (Int × Int)) : ∀ p ∈ xcr l, 0 ≤ p.1 ∧ p.1 ≤ p.2 ∧ p.2 ≤ 1114111 := by
 intro p hp
 have h := List.mem_filter.1 hp
 obtain ⟨q, hq, rfl⟩ := List.mem_map.1 h.1
 have := of_decide_eq_true h.2
 refine ⟨?_, this, ?_⟩ <;> unfold xa5 <;> simp only <;> omega
theorem xjl (l : List (Int × Int)) (r : Int) : mem (xcr l) r = has l r := by
 rw [Bool.eq_iff_iff]
 unfold has
 rw [mem_iff, Bool.and_eq_true, mem_iff]
 constructor
 · rintro ⟨p, hp, h1, h2⟩
   have h := List.mem_filter.1 hp
   obtain ⟨q, hq, rfl⟩ := List.mem_map.1 h.1
   unfold xa5 at h1 h2
   simp only at h1 h2
   exact ⟨⟨q, hq, by omega, by omega⟩, by simp [xbH]; omega⟩
 rintro ⟨⟨q, hq, h1, h2⟩, h3⟩
 simp [xbH] at h3
 refine ⟨xa5 q, List.mem_filter.2 ⟨List.mem_map.2 ⟨q, hq, rfl⟩, ?_⟩, ?_, ?_⟩ <;> unfold xa5 <;> simp only
 · rw [decide_eq_true_eq]; omega
 · omega
 omega
def xcm (out : List (Int × Int)) (x : Int × Int) : List (Int × Int) :=
 match out.getLast? with
 | none => out ++ [x]
 | some q => if x.1 ≤ q.2 + 1 then out.dropLast ++ [(q.1, max q.2 x.2)] else out ++ [x]
theorem xel (x : Int × Int) : xcm [] x = [x] := rfl
theorem xdF (l : List (Int × Int)) (q x : Int × Int) (h : x.1 ≤ q.2 + 1) : xcm (l ++ [q]) x = l ++ [(q.1, max q.2 x.2)] := by simp [xcm, h]
theorem xdE (l : List (Int × Int)) (q x : Int × Int) (h : ¬ x.1 ≤ q.2 + 1) : xcm (l ++ [q]) x = l ++ [q] ++ [x] := by simp [xcm, h]
theorem xgs (l : List (Int × Int)) (x : Int × Int) : (xcm l x).length ≤ l.length + 1 := by
 rcases List.eq_nil_or_concat l with rfl | ⟨m, q, rfl⟩
 · simp [xel]
 rw [List.concat_eq_append]
 by_cases h : x.1 ≤ q.2 + 1
 · rw [xdF m q x h]; simp
 rw [xdE m q x h]; simp
def xbC (l : List (Int × Int)) : List (Int × Int) := l.foldl xcm []
theorem xhp (l : List (Int × Int)) (x : Int × Int) : xbC (l ++ [x]) = xcm (xbC l) x := by simp [xbC]
theorem xda (l : List (Int × Int)) : (xbC l).length ≤ l.length := by
 have key : ∀ (m out : List (Int × Int)), (m.foldl xcm out).length ≤ out.length + m.length := by
  intro m
  induction m with
  | nil => intro out; simp
  | cons x m ih => intro out; have h1 := ih (xcm out x); have h2 := xgs out x; simp only [List.foldl_cons, List.length_cons]; omega
 simpa [xbC] using key l []
theorem xlI (out : List (Int × Int)) (x : Int × Int) (h : Norm out) (hx : 0 ≤ x.1 ∧ x.1 ≤ x.2 ∧ x.2 ≤ 1114111) (hle : ∀ p ∈ out, p.1 ≤ x.1) :
 Norm (xcm out x) ∧ (∀ r, mem (xcm out x) r = (mem out r || (decide (x.1 ≤ r) && decide (r ≤ x.2)))) ∧ ∀ p ∈ xcm out x, p.1 ≤ x.1 := by
 rcases List.eq_nil_or_concat out with rfl | ⟨m, q, rfl⟩
 · rw [xel]
   exact ⟨⟨hx.1, hx.2.1, hx.2.2, by simp, trivial⟩, fun r => by rw [xby, xfv, Bool.false_or], by simp⟩
 rw [List.concat_eq_append] at h hle ⊢
 obtain ⟨hm, q0, q1, q2, q3⟩ := xgo m q h
 have hq := hle q (by simp)
 by_cases hj : x.1 ≤ q.2 + 1
 · rw [xdF m q x hj]
   refine ⟨xb4 m _ hm q0 (by simp only; omega) (by simp only; omega) q3, fun r => ?_, ?_⟩
   · rw [mem_append, mem_append, xby, xby, Bool.or_assoc]
     congr 1
     rw [Bool.eq_iff_iff]; simp only [Bool.and_eq_true, Bool.or_eq_true, decide_eq_true_eq]; omega
   intro p hp
   rcases List.mem_append.1 hp with hp | hp
   · exact hle p (List.mem_append_left _ hp)
   simp at hp; subst hp; exact hq
 rw [xdE m q x hj]
 refine ⟨xb4 (m ++ [q]) x h hx.1 hx.2.1 hx.2.2 ?_, fun r => by rw [mem_append (m ++ [q]), xby], ?_⟩
 · intro p hp
   rcases List.mem_append.1 hp with hp | hp
   · have := q3 p hp; omega
   simp at hp; subst hp; omega
 intro p hp
 rcases List.mem_append.1 hp with hp | hp
 · exact hle p hp
 simp at hp; subst hp; exact Int.le_refl _
theorem xgw (l : List (Int × Int)) (hg : ∀ p ∈ l, 0 ≤ p.1 ∧ p.1 ≤ p.2 ∧ p.2 ≤ 1114111) (hs : l.Pairwise (fun a b => a.1 ≤ b.1)) :
 Norm (xbC l) ∧ ∀ r, mem (xbC l) r = mem l r := by
 have key : ∀ (m out done : List (Int × Int)), Norm out → (∀ r, mem out r = mem done r) → (∀ p ∈ out, ∀ x ∈ m, p.1 ≤ x.1) → (∀ p ∈ m, 0 ≤ p.1 ∧ p.1 ≤ p.2 ∧ p.2 ≤ 1114111) → m.Pairwise (fun a b => a.1 ≤ b.1) →
  Norm (m.foldl xcm out) ∧ ∀ r, mem (m.foldl xcm out) r = mem (done ++ m) r := by
  intro m
  induction m with
  | nil => intro out done hn hm _ _ _; exact ⟨hn, fun r => by simpa using hm r⟩
  | cons x m ih =>
   intro out done hn hm hle hgo hpw
   obtain ⟨a, b, c⟩ := xlI out x hn (hgo x List.mem_cons_self) (fun p hp => hle p hp x List.mem_cons_self)
   have hpw' := List.pairwise_cons.1 hpw
   have := ih (xcm out x) (done ++ [x]) a (fun r => by rw [b, mem_append, xby, hm]) (fun p hp y hy => Int.le_trans (c p hp) (hpw'.1 y hy)) (fun p hp => hgo p (List.mem_cons_of_mem _ hp)) hpw'.2
   refine ⟨this.1, fun r => ?_⟩
   have h2 := this.2 r
   simp only [List.foldl_cons]
   rw [h2]; simp
 have := key l [] [] trivial (fun _ => rfl) (by simp) hg hs
 exact ⟨this.1, fun r => by have := this.2 r; simpa [xbC] using this⟩
theorem xlK {a b : List (Int × Int)} (h : a.Perm b) (r : Int) : mem a r = mem b r := by
 rw [Bool.eq_iff_iff, mem_iff, mem_iff]
 exact ⟨fun ⟨p, hp, hr⟩ => ⟨p, h.mem_iff.1 hp, hr⟩, fun ⟨p, hp, hr⟩ => ⟨p, h.mem_iff.2 hp, hr⟩⟩
theorem of_ok (rs l : List (Int × Int)) (hp : l.Perm (xcr rs)) (hs : l.Pairwise (fun a b => a.1 ≤ b.1)) : IsOf rs (xbC l) := by
 have h := xgw l (fun p hp' => xeA rs p (hp.mem_iff.1 hp')) hs
 exact ⟨h.1, fun r => by rw [h.2, xlK hp, xjl]⟩
theorem xdX : (Tryz.prog.info? 3).map (fun i => (i.zero, i.size, i.bytes)) = some (some (.int .i64 0), 1, 8) := by kernel_rfl
theorem own_ne {w : World} {base : Nat} {e : TypeId} {v : Value} {n : Nat} {xs : List Value} (h : w.ownsRow base e 1 v n xs) (h3 : 3 ≤ n) {b : Nat} {cs : Array Value} {T : TypeId} (hb : w.heap[b]? = some (.cells cs T (0, 0))) (hcs : cs.size = 2) : ∀ g, v.ownBlock = some g → g ≠ b := by
 rintro g hg rfl
 rcases h.2 with ⟨rfl, _⟩ | ⟨g', cap, cur, rfl, _, hh, hn, _, hsz, _⟩
 · simp [Value.ownBlock] at hg
 simp [Value.ownBlock] at hg
 subst hg
 rw [hb] at hh
 simp at hh
 obtain ⟨⟨rfl, _⟩, _⟩ := hh
 omega
def OutR (w0 wr : World) (u : Value) (es : List Int) (bound : Nat) : Prop :=
 wr.ownsRow w0.heap.size 3 1 u es.length (es.map (Value.int .i64)) ∧ es.length ≤ bound ∧ 2 ≤ es.length ∧ (∀ x ∈ es, 0 ≤ x ∧ x ≤ 1114111) ∧ xaa (fun _ => False) w0 wr
theorem xax {w : World} {base : Nat} {e : TypeId} {size : Nat} {v : Value} {n : Nat} {xs : List Value} (h : w.ownsRow base e size v n xs) : ∀ g, v.ownBlock = some g → g < w.heap.size := by
 rintro g hg
 rcases h.2 with ⟨rfl, _⟩ | ⟨g', cap, cur, rfl, _, hh, _⟩
 · simp [Value.ownBlock] at hg
 simp [Value.ownBlock] at hg; subst hg; exact (Array.getElem?_eq_some_iff.1 hh).1
theorem xae {S : Nat → Prop} {w w' : World} {base : Nat} {e : TypeId} {size : Nat} {v : Value} {n : Nat} {xs : List Value} (h : w.ownsRow base e size v n xs) (K : xaa S w w') (hs : ∀ b, v.ownBlock = some b → ¬ S b) : w'.ownsRow base e size v n xs := by
 refine ⟨h.1, ?_⟩
 rcases h.2 with h0 | ⟨g, cap, cur, rfl, hg, hh, hr⟩
 · exact Or.inl h0
 exact Or.inr ⟨g, cap, cur, rfl, hg, K.heap hh (hs g rfl), hr⟩
theorem xaJ : (Tryz.prog.info? 164).map (fun i => (i.zero, i.size, i.bytes)) = some (some (.agg #[.int .i64 0, .int .i64 0]), 2, 16) := by kernel_rfl
def ROwn (w0 w : World) (v : Value) (l : List (Int × Int)) : Prop := w.ownsRow w0.heap.size 164 2 v l.length (cellsOf 2 encR l) ∧ xaa (fun _ => False) w0 w
theorem xja (x : Int × Int) : (List.range 2).map (encR x) = [.int .i64 x.1, .int .i64 x.2] := rfl
theorem xcs (w : World) (l : List Value) (T : TypeId) (n : Nat) (hn : w.heap.size = n) : ∀ (j : Nat) (u : Value), l[j]? = some u → (w.alloc (.cells l.toArray T)).cell? ((⟨n, 0, none⟩ : Addr).add j) = some u := by
 subst hn; exact xak w l T
theorem xbx {w : World} {base : Nat} {e : TypeId} {size : Nat} {v : Value} {n : Nat} {xs : List Value} (h : w.ownsRow base e size v n xs) (hn : 0 < n) : ∃ g cap, v = .slice (some ⟨g, 0, none⟩) n cap ∧ base ≤ g ∧ g < w.heap.size := by
 rcases h.2 with ⟨_, rfl⟩ | ⟨g, cap, cur, rfl, hg, hh, _⟩
 · omega
 exact ⟨g, cap, rfl, hg, (Array.getElem?_eq_some_iff.1 hh).1⟩
theorem xhT (m : List (Int × Int)) (q : Int × Int) (z : Int) : (cellsOf 2 encR (m ++ [q])).set (m.length * 2 + 1) (.int .i64 z) = cellsOf 2 encR (m ++ [(q.1, z)]) := by
 rw [xai, xai, List.set_append_right _ _ (by rw [xah]; omega), xah]
 congr 1
 rw [show m.length * 2 + 1 - m.length * 2 = 1 by omega]
 rfl
def MidR (w : World) (i : Nat) (p : Int × Int) (lb : Nat) (u kv : Value) (wk : World) : Prop :=
 ∃ (k : Nat) (es : List Int), kv = .int .i64 k ∧ k ≤ 2 ∧ OutR w wk u es (2 + 6 * i + 3 * k) ∧ wk.heap[lb]? = some (.cells #[.int .i64 p.1, .int .i64 p.2] 3 (0, 0)) ∧ ∀ g, u.ownBlock = some g → g ≠ lb
def InR (w : World) (i k : Nat) (p : Int × Int) (lb : Nat) (u dv : Value) (wk : World) : Prop :=
 ∃ (d : Nat) (es : List Int), dv = .int .i64 ((d : Int) - 1) ∧ d ≤ 3 ∧ OutR w wk u es (2 + 6 * i + 3 * k + d) ∧ wk.heap[lb]? = some (.cells #[.int .i64 p.1, .int .i64 p.2] 3 (0, 0)) ∧ ∀ g, u.ownBlock = some g → g ≠ lb
set_option maxHeartbeats 2000000 in
theorem xhe (l : List (Int × Int)) (v : Value) (w : World) (h : RSl w v l) (hlen : l.length ≤ 20000) :
 Calls Tryz.prog 163 #[v] w fun e w' => ∃ u, ∃ es : List Int, e = .returned u ∧ OutR w w' u es (2 + 6 * l.length) := by
 obtain ⟨a, cap, rfl, hl, hc⟩ := h.cells
 have Hc := xmA hc
 clear hc h
 obtain ⟨i0, hi, hz0, hz1, hz2⟩ := info_parts xdX
 go_enter Tryz.func163, Tryz.ntmps163
 go_wp2_with fail
 go_loopw [3, 4] (fun u iv wr => ∃ (i : Nat) (es : List Int), iv = .int .i64 i ∧ i ≤ l.length ∧ OutR w wr u es (2 + 6 * i)) (fun _ iv _ => l.length - (intOf iv).toNat)
 case atStart =>
  refine ⟨0, [0, 1114111], rfl, Nat.zero_le _, ⟨rfl, ?_⟩, by simp, by simp, by simp, (xaa.refl _ _).alloc _⟩
  exact Or.inr ⟨w.heap.size, 2, #[.int .i64 0, .int .i64 1114111], rfl, Nat.le_refl _, by show (w.heap.push _)[_]? = _; simp, by simp, by unfold maxLen; simp, by simp, rfl⟩
 case round =>
  obtain ⟨i, es, rfl, hil, hO⟩ := hrel
  by_cases hlt : i < l.length
  · obtain ⟨b, off, rfl, hcc⟩ := Hc.out (by omega)
    obtain ⟨p, hp⟩ : ∃ p, l[i]? = some p := ⟨_, List.getElem?_eq_getElem hlt⟩
    obtain ⟨c0, c1, ⟨ip1, ip2⟩, ⟨ip3, ip4⟩⟩ := hcc i p hp
    clear hcc hp
    have d0 := hO.2.2.2.2.cell c0 id
    have d1 := hO.2.2.2.2.cell c1 id
    clear c0 c1
    go_wp2_with fail
    go_region
    all_goals go_wp2_with fail
    have hlb : (wr.drew.alloc (.cells #[.int .i64 p.1, .int .i64 p.2] 3)).heap[wr.heap.size]? = some (.cells #[.int .i64 p.1, .int .i64 p.2] 3 (0, 0)) := by
     show (wr.heap.push _)[_]? = _; simp
    have hbase : w.heap.size ≤ wr.heap.size := hO.2.2.2.2.size
    obtain ⟨o1, o2, o3, o4, o5⟩ := hO
    have hO1 : OutR w (wr.drew.alloc (.cells #[.int .i64 p.1, .int .i64 p.2] 3)) u3 es (2 + 6 * i) := ⟨xac o1 _, o2, o3, o4, (o5.drew).alloc _⟩
    have hne : ∀ g, u3.ownBlock = some g → g ≠ wr.heap.size := fun g hg => Nat.ne_of_lt (xax o1 g hg)
    clear o1 o2 o3 o4 o5 d0 d1
    have ew : (wr.alloc (.cells #[.int .i64 p.1, .int .i64 p.2] 3)).drew = wr.drew.alloc (.cells #[.int .i64 p.1, .int .i64 p.2] 3) := rfl
    rw [← ew] at hO1 hlb
    clear ew
    generalize (wr.alloc (.cells #[.int .i64 p.1, .int .i64 p.2] 3)).drew = w1 at *
    generalize wr.heap.size = lb at *
    go_loopw [3, 6] (fun u kv wk => MidR w i p lb u kv wk) (fun _ kv _ => 2 - (intOf kv).toNat)
    case atStart => exact ⟨0, es, rfl, by omega, hO1, hlb, hne⟩
    case round =>
     clear hO1 hlb hne
     obtain ⟨k, es, rfl, hk2, hO, hlb, hne⟩ := hrel
     by_cases hk : k < 2
     · have hkd : decide ((k : Int) < 2) = true := by simp; omega
       go_wp2_with fail
       go_loopw [3, 7] (fun u dv wk => InR w i k p lb u dv wk) (fun _ dv _ => (2 - intOf dv).toNat)
       case atStart => exact ⟨0, es, rfl, by omega, hO, hlb, hne⟩
       case round =>
        clear hO hlb hne
        obtain ⟨d, es, rfl, hd3, hO, hlb, hne⟩ := hrel
        have Hne := xmA hne
        clear hne
        by_cases hd : d < 3
        · obtain ⟨x, hx, hx0, hx1⟩ : ∃ x : Int, wr.cell? ⟨lb, k, none⟩ = some (.int .i64 x) ∧ -9223372036854775808 ≤ x ∧ x ≤ 9223372036854775807 := by
           have : k = 0 ∨ k = 1 := by omega
           rcases this with rfl | rfl
           · exact ⟨p.1, by rw [xaX hlb]; rfl, ip1, ip2⟩
           exact ⟨p.2, by rw [xaX hlb]; rfl, ip3, ip4⟩
          obtain ⟨o1, o2, o3, o4, o5⟩ := hO
          have hsz := o5.size
          by_cases x1 : x < -2
          · go_wp2_with fail
            go_roundw
            case rel => exact ⟨d + 1, es, by go_num, by omega, ⟨o1, by omega, o3, o4, o5⟩, hlb, Hne.out⟩
            case measure => simp [intOf]; omega
          by_cases x2 : 1114113 < x
          · go_wp2_with fail
            go_roundw
            case rel => exact ⟨d + 1, es, by go_num, by omega, ⟨o1, by omega, o3, o4, o5⟩, hlb, Hne.out⟩
            case measure => simp [intOf]; omega
          by_cases x3 : x + ((d : Int) - 1) < 0
          · go_wp2_with fail
            go_roundw
            case rel => exact ⟨d + 1, es, by go_num, by omega, ⟨o1, by omega, o3, o4, o5⟩, hlb, Hne.out⟩
            case measure => simp [intOf]; omega
          by_cases x4 : 1114111 < x + ((d : Int) - 1)
          · go_wp2_with fail
            go_roundw
            case rel => exact ⟨d + 1, es, by go_num, by omega, ⟨o1, by omega, o3, o4, o5⟩, hlb, Hne.out⟩
            case measure => simp [intOf]; omega
          go_wp2_with (at_builtin; refine wpList_append_own _ rfl (.tmp 53) (.tmp 57) 23 rfl w.heap.size 3 i0 _ 1 8 Tryz.underlying23 hi hz0 hz1 hz2 rfl (by decide) _ _ _ rfl (xac o1 _) ⟨wr.heap.size, 0, none⟩ 1 1 [.int .i64 (x + ((d : Int) - 1))] rfl rfl (by exact xak _ [_] _) (by intro u hu; simp at hu; subst hu; rfl) ?c3 ?c4 ?c5 ?_)
          case c3 => unfold maxLen; omega
          case c4 => omega
          case c5 => first | omega | (simp; omega)
          intro v' w2 hown' hgrow _
          have hown2 : w2.ownsRow w.heap.size 3 1 v' (es ++ [x + ((d : Int) - 1)]).length ((es ++ [x + ((d : Int) - 1)]).map (Value.int .i64)) := by simpa using hown'
          have hlb2 : w2.heap[lb]? = some (.cells #[.int .i64 p.1, .int .i64 p.2] 3 (0, 0)) := by
           rw [hgrow.block lb (by simp; exact Nat.lt_succ_of_lt (Array.getElem?_eq_some_iff.1 hlb).1) (fun e => Hne.out lb e.symm rfl), Below.heap_alloc _ _ _ (Array.getElem?_eq_some_iff.1 hlb).1]
           exact hlb
          have Hne2 := xmA (own_ne hown2 (by simp; omega) hlb2 rfl)
          have hk2 : xaa (fun _ => False) w w2 := (o5.alloc _).grown hgrow (fun b hb => Or.inr (xab o1 b hb))
          have hO2 : OutR w w2 v' (es ++ [x + ((d : Int) - 1)]) (2 + 6 * i + 3 * k + (d + 1)) := ⟨hown2, by simp; omega, by simp; omega, fun y hy => by
           rcases List.mem_append.1 hy with hy | hy
           · exact o4 y hy
           simp at hy; omega, hk2⟩
          clear hown2 hown' hgrow hk2 o1 o2 o3 o4 o5
          go_wp2_with fail
          go_roundw
          case rel => first | exact ⟨d + 1, _, by go_num, by omega, hO2, hlb2, Hne2.out⟩ | ((repeat apply Exists.intro); exact ⟨⟨d + 1, _, by go_num, by omega, hO2, hlb2, Hne2.out⟩, rfl⟩)
          case measure => simp [intOf]; omega
        obtain rfl : d = 3 := by omega
        go_wp2_with fail
        go_roundw
        case rel => exact ⟨k + 1, es, by go_num, by omega, ⟨hO.1, by have := hO.2.1; omega, hO.2.2⟩, hlb, Hne.out⟩
        case measure => simp [intOf]; omega
     obtain rfl : k = 2 := by omega
     go_wp2_with fail
     go_roundw
     case rel => exact ⟨i + 1, es, by go_num, by omega, ⟨hO.1, by have := hO.2.1; omega, hO.2.2⟩⟩
     case measure => simp [intOf]; omega
  go_wp2_with fail
  go_ret
  obtain rfl : l.length = i := by omega
  exact ⟨_, es, rfl, hO⟩
def Of2 (w0 : World) (l : List (Int × Int)) (v i : Value) (wr : World) : Prop := ∃ k : Nat, i = .int .i64 k ∧ k ≤ l.length ∧ ROwn w0 wr v (xbC (l.take k))
theorem xag {w : World} {base base' : Nat} {e : TypeId} {size : Nat} {v : Value} {n : Nat} {xs : List Value} (h : w.ownsRow base' e size v n xs) (hb : base ≤ base') : w.ownsRow base e size v n xs := by
 obtain ⟨h1, h2⟩ := h
 refine ⟨h1, ?_⟩
 rcases h2 with h2 | ⟨g, cap, cur, hv, hg, r⟩
 · exact Or.inl h2
 exact Or.inr ⟨g, cap, cur, hv, by omega, r⟩
def Of1 (w0 : World) (rs : List (Int × Int)) (v i : Value) (wr : World) : Prop := ∃ k : Nat, i = .int .i64 k ∧ k ≤ rs.length ∧ ROwn w0 wr v (xcr (rs.take k))
set_option maxHeartbeats 2000000 in
theorem xcP (rs : List (Int × Int)) (v : Value) (w : World) (h : RSl w v rs) (hlen : rs.length ≤ 100000) :
 Calls Tryz.prog 108 #[v] w fun e w' => ∃ u out, e = .returned u ∧ IsOf rs out ∧ ROwn w w' u out ∧ out.length ≤ rs.length := by
 obtain ⟨a, cap, rfl, hl, hc⟩ := h.cells
 have Hc := xmA hc
 clear hc h
 obtain ⟨i0, hi, hz0, hz1, hz2⟩ := info_parts xaJ
 go_enter Tryz.func108, Tryz.ntmps108
 go_wp2_with fail
 go_loopw [3, 12] (fun v i wr => Of1 w rs v i wr) (fun _ i _ => rs.length - (intOf i).toNat)
 case atStart => exact ⟨0, rfl, Nat.zero_le _, World.ownsRow_nil _ _ _ _, xaa.refl _ _⟩
 case round =>
  obtain ⟨k, rfl, hk, hown, hkw⟩ := hrel
  by_cases hlt : k < rs.length
  · obtain ⟨b, off, rfl, hcc⟩ := Hc.out (by omega)
    obtain ⟨p, hp⟩ : ∃ p, rs[k]? = some p := ⟨_, List.getElem?_eq_getElem hlt⟩
    obtain ⟨c0, c1, _, _⟩ := hcc k p hp
    clear hcc
    have d0 := hkw.cell c0 id
    have d1 := hkw.cell c1 id
    have hsn := xch hp
    have hcl := xhI (rs.take k) p
    rw [← hsn] at hcl
    have hll := xdl (rs.take k)
    rw [List.length_take] at hll
    have Hcl := xmA hcl
    clear c0 c1 hcl hsn hp
    have hsz := hkw.size
    by_cases hin : max p.1 0 ≤ min p.2 1114111
    · go_wp2_with (at_builtin; refine wpList_append_own _ rfl (.tmp 29) (.tmp 31) 49 rfl w.heap.size 164 i0 _ 2 16 Tryz.underlying49 hi hz0 hz1 hz2 rfl (by decide) _ _ _ rfl (xac (xac hown _) _) ⟨wr.heap.size + 1, 0, none⟩ 1 1 [.int .i64 (max p.1 0), .int .i64 (min p.2 1114111)] rfl rfl ?c1 ?c2 ?c3 ?c4 ?c5 ?_)
      case c1 => exact xcs _ [_, _] _ _ (by simp)
      case c2 => intro u hu; simp at hu; rcases hu with rfl | rfl <;> rfl
      case c3 => unfold maxLen; omega
      case c4 => omega
      case c5 => simp; omega
      intro v' w1 hown' hgrow _
      have hcl := Hcl.out
      rw [if_pos (by unfold xa5; exact hin)] at hcl
      have hO : ROwn w w1 v' (xcr (rs.take (k + 1))) := by
       refine ⟨?_, ((hkw.alloc _).alloc _).grown hgrow (fun b hb => Or.inr (xab hown b hb))⟩
       rw [hcl, xai]
       simpa [cellsOf, encR, xa5, List.range_succ] using hown'
      clear hown hown' hgrow hcl hkw d0 d1
      go_wp2_with fail
      go_roundw
      case rel => exact ⟨k + 1, by go_num, by omega, hO⟩
      case measure => simp [intOf]; omega
    go_wp2_with fail
    go_roundw
    case rel =>
     refine ⟨k + 1, by go_num, by omega, ?_, hkw.alloc _⟩
     have hcl := Hcl.out
     rw [if_neg (by unfold xa5; exact hin), List.append_nil] at hcl
     rw [hcl]; exact xac hown _
    case measure => simp [intOf]; omega
  obtain rfl : rs.length = k := by omega
  rw [List.take_length] at hown
  have hll := xdl rs
  have hsz := hkw.size
  go_wp2_with fail
  refine (xle (xcr rs) _ _ _ hown (by omega)).mono ?_
  rintro e w1 ⟨rfl, l, hperm, hsort, hS, hk1⟩
  have hkw1 : xaa (fun _ => False) w w1 := hkw.trans2 hk1 (fun j hj hb => by have := xab hown j hb; omega)
  have hfin := of_ok rs l hperm hsort
  have hlc : l.length ≤ rs.length := by rw [hperm.length_eq]; exact hll
  have HF := xmA hfin
  have HG := xmA (show ∀ p ∈ l, 0 ≤ p.1 ∧ p.1 ≤ p.2 ∧ p.2 ≤ 1114111 from fun p hp => xeA rs p (hperm.mem_iff.1 hp))
  have HS := xmA hsort
  clear hfin hperm hsort hk1 hown hkw hll hsz
  obtain ⟨al, lc, rfl, hl1, hl2, hcl⟩ := hS
  have Hcl := xmA hcl
  clear hcl
  go_wp2_with fail
  go_loopw [6, 38] (fun v i wr => Of2 w1 l v i wr) (fun _ i _ => l.length - (intOf i).toNat)
  case atStart => exact ⟨0, rfl, Nat.zero_le _, World.ownsRow_nil _ _ _ _, xaa.refl _ _⟩
  case round =>
   obtain ⟨k, rfl, hk, hown, hkl⟩ := hrel
   by_cases hlt : k < l.length
   · obtain ⟨b, off, rfl, hcc⟩ := Hcl.out (by omega)
     obtain ⟨p, hp⟩ : ∃ p, l[k]? = some p := ⟨_, List.getElem?_eq_getElem hlt⟩
     have c0 : w1.cell? ⟨b, off + k * 2, none⟩ = some (.int .i64 p.1) := hcc k p hp 0 (by omega)
     have c1 : w1.cell? ⟨b, off + k * 2 + 1, none⟩ = some (.int .i64 p.2) := hcc k p hp 1 (by omega)
     obtain ⟨gp0, gp1, gp2⟩ := HG.out p (List.mem_of_getElem? hp)
     have d0 := hkl.cell c0 id
     have d1 := hkl.cell c1 id
     have hml := xda (l.take k)
     rw [List.length_take] at hml
     have hms : xbC (l.take (k + 1)) = xcm (xbC (l.take k)) p := by rw [xch hp, xhp]
     have hnorm := (xgw (l.take k) (fun q hq => HG.out q (List.mem_of_mem_take hq)) (HS.out.sublist (List.take_sublist _ _))).1
     have Hms := xmA hms
     clear hcc c0 c1 hms hp
     have hsz := hkl.size
     generalize hout : xbC (l.take k) = out at *
     have Hout := xmA hout
     clear hout
     rcases List.eq_nil_or_concat out with rfl | ⟨m, q, rfl⟩
     · obtain ⟨va, vc, rfl⟩ := xad hown
       simp only [List.length_nil] at hown
       go_wp2_with fail
       go_quiet (fail)
       go_wp2_with (at_builtin; refine wpList_append_own _ rfl (.tmp 72) (.tmp 74) 49 rfl w1.heap.size 164 i0 _ 2 16 Tryz.underlying49 hi hz0 hz1 hz2 rfl (by decide) _ _ _ rfl (xac (xa0 (xac hown _) _) _) ⟨wr.heap.size + 1, 0, none⟩ 1 1 [.int .i64 p.1, .int .i64 p.2] rfl rfl ?c1 ?c2 ?c3 ?c4 ?c5 ?_)
       case c1 => exact xcs _ [_, _] _ _ (by simp)
       case c2 => intro u hu; simp at hu; rcases hu with rfl | rfl <;> rfl
       case c3 => unfold maxLen; simp at hml; omega
       case c4 => simp at hml; omega
       case c5 => simp; omega
       intro v' w2 hown' hgrow _
       have hO : ROwn w1 w2 v' (xbC (l.take (k + 1))) := by
        refine ⟨?_, (((hkl.alloc _).drawN _).alloc _).grown hgrow (fun b hb => Or.inr (xab hown b hb))⟩
        rw [Hms.out, xel]
        simpa [cellsOf, encR, List.range_succ] using hown'
       clear hown hown' hgrow hkl d0 d1
       go_wp2_with fail
       go_roundw
       case rel => exact ⟨k + 1, by go_num, by omega, hO⟩
       case measure => simp [intOf]; omega
     rw [List.concat_eq_append] at *
     obtain ⟨g, gc, rfl, hg1, hg2⟩ := xbx hown (by simp)
     have hcg : wr.cell? ⟨g, m.length * 2 + 1, none⟩ = some (.int .i64 q.2) := by
      rw [hown.cellAt _ (by simp; omega)]
      exact xaz 2 encR (m ++ [q]) m.length q (by simp) 1 (by omega)
     have hcg1 : ∀ o, (wr.alloc o).cell? ⟨g, m.length * 2 + 1, none⟩ = some (.int .i64 q.2) := xaj hcg
     have hfg : ∀ o x, (wr.alloc o).frozen? ⟨g, x, none⟩ = false := fun o x => xat (hown.frozenAt x) hg2 o
     obtain ⟨hnm, q0, q1, q2, q3⟩ := xgo m q hnorm
     simp only [List.length_append, List.length_cons, List.length_nil, Nat.zero_add] at hown ⊢
     have hw1 : IntKind.i64.wrap ((m.length : Int) + 1 - 1) = (m.length : Int) := by rw [show (m.length : Int) + 1 - 1 = (m.length : Int) by omega]; exact IntWalk.i64_in _ (by simp at hml; omega)
     have hw2 : IntKind.i64.wrap (m.length : Int) = (m.length : Int) := IntWalk.i64_in _ (by simp at hml; omega)
     have hw3 : IntKind.i64.wrap (q.2 + 1) = q.2 + 1 := IntWalk.i64_in _ (by omega)
     have hix : (m.length : Int) < (m.length : Int) + 1 := by omega
     have hix2 : ((m.length : Int)).toNat = m.length := by simp
     by_cases hj : p.1 ≤ q.2 + 1
     · go_wp2_with fail
       go_quiet (fail)
       go_wp2_with fail
       go_region
       all_goals go_wp2_with fail
       go_roundw
       case rel =>
        refine ⟨k + 1, by go_num, by omega, ?_, ((hkl.alloc _).drawN _).setNew hg1 _⟩
        rw [Hms.out, xdF m q p hj, ← xhT m q (max q.2 p.2)]
        have h5 := (World.ownsRow.stored (xa0 (xac hown (.cells #[.int .i64 p.1, .int .i64 p.2] 164)) (nq + 1)) (m.length * 2 + 1) (.int .i64 (max q.2 p.2))).1
        simpa using h5
       case measure => simp [intOf]; omega
     have hd : decide (p.1 ≤ q.2 + 1) = false := by simp; omega
     go_wp2_with fail
     go_quiet (fail)
     go_wp2_with (at_builtin; refine wpList_append_own _ rfl (.tmp 72) (.tmp 74) 49 rfl w1.heap.size 164 i0 _ 2 16 Tryz.underlying49 hi hz0 hz1 hz2 rfl (by decide) _ _ _ rfl (xac (xa0 (xac hown _) _) _) ⟨wr.heap.size + 1, 0, none⟩ 1 1 [.int .i64 p.1, .int .i64 p.2] rfl rfl ?e1 ?e2 ?e3 ?e4 ?e5 ?_)
     case e1 => exact xcs _ [_, _] _ _ (by simp)
     case e2 => intro u hu; simp at hu; rcases hu with rfl | rfl <;> rfl
     case e3 => unfold maxLen; simp at hml; omega
     case e4 => simp at hml; omega
     case e5 => simp; omega
     intro v' w2 hown' hgrow _
     have hO : ROwn w1 w2 v' (xbC (l.take (k + 1))) := by
      refine ⟨?_, (((hkl.alloc _).drawN _).alloc _).grown hgrow (fun b hb => Or.inr (xab hown b hb))⟩
      rw [Hms.out, xdE m q p (by omega)]
      simpa [cellsOf, encR, List.range_succ] using hown'
     clear hown hown' hgrow hkl d0 d1
     go_wp2_with fail
     go_roundw
     case rel => exact ⟨k + 1, by go_num, by omega, hO⟩
     case measure => simp [intOf]; omega
   obtain rfl : l.length = k := by omega
   rw [List.take_length] at hown
   go_wp2_with fail
   go_ret
   refine ⟨_, xbC l, rfl, HF.out, ⟨xag hown hkw1.size, hkw1.trans hkl⟩, Nat.le_trans (xda l) hlc⟩

theorem ROwn.read {w0 w : World} {v : Value} {l : List (Int × Int)} (h : ROwn w0 w v l) (hl : l.length ≤ 4611686018427387904) (hr : ∀ p ∈ l, in64 p.1 ∧ in64 p.2) : RSl w v l := ⟨SlOf.ofOwn h.1 hl, hr⟩
theorem xh9 {l : List (Int × Int)} (h : Norm l) : ∀ p ∈ l, in64 p.1 ∧ in64 p.2 := fun p hp => by have := h.rng p hp; unfold in64; omega
theorem RSl.keep {w w' : World} {v : Value} {l : List (Int × Int)} (h : RSl w v l) (K : xaa (fun _ => False) w w') : RSl w' v l := ⟨h.1.keep K, h.2⟩
theorem xi7 (p : Int × Int) (r : Int) (c : Nat) (w : World) (hc : w.cell? ⟨c, 0, none⟩ = some (.int .i64 r)) :
 Calls Tryz.prog 187 #[.agg #[.int .i64 p.1, .int .i64 p.2], .pointer (some ⟨c, 0, none⟩)] w fun e w' => e = .returned (.bool (decide (p.1 ≤ r) && decide (r ≤ p.2))) ∧ xaa (fun _ => False) w w' := by
 have hc1 : ∀ o, (w.alloc o).cell? ⟨c, 0, none⟩ = some (.int .i64 r) := xaj hc
 by_cases h1 : p.1 ≤ r
 · have HV := xmA (show (decide (p.1 ≤ r) && decide (r ≤ p.2)) = decide (r ≤ p.2) by simp [h1])
   go_enter Tryz.func187, Tryz.ntmps187
   go_wp2_with fail
   go_ret
   exact ⟨by first | (rw [HV.out]; rfl) | rfl, (xaa.refl _ _).alloc _⟩
 have HV := xmA (show (decide (p.1 ≤ r) && decide (r ≤ p.2)) = false by simp [h1])
 have hd : decide (p.1 ≤ r) = false := by simpa using h1
 go_enter Tryz.func187, Tryz.ntmps187
 go_wp2_with fail
 go_ret
 exact ⟨by first | (rw [HV.out]; rfl) | rfl, (xaa.refl _ _).alloc _⟩
theorem xfB (l : List (Int × Int)) (v : Value) (r : Int) (c : Nat) (w : World) (h : RSl w v l) (hc : w.cell? ⟨c, 0, none⟩ = some (.int .i64 r)) :
 Calls Tryz.prog 219 #[v, .func (.func 187) #[] #[.pointer (some ⟨c, 0, none⟩)]] w
  fun e w' => ∃ x : Int, e = .returned (.int .i64 x) ∧ (0 ≤ x ↔ mem l r = true) ∧ xaa (fun _ => False) w w' := by
 obtain ⟨a, cap, rfl, hl, hcl⟩ := h.cells
 have Hc := xmA hcl
 clear hcl h
 go_enter Tryz.func219, Tryz.ntmps219
 go_wp2_with fail
 go_loopw [8] (fun iv wr => ∃ i : Nat, iv = .int .i64 i ∧ i ≤ l.length ∧ mem (l.take i) r = false ∧ xaa (fun _ => False) w wr) (fun iv _ => l.length - (intOf iv).toNat)
 case atStart => exact ⟨0, rfl, Nat.zero_le _, rfl, xaa.refl _ _⟩
 case round =>
  obtain ⟨i, rfl, hi, hno, hkw⟩ := hrel
  have Hno := xmA hno
  clear hno
  by_cases hil : i < l.length
  · obtain ⟨b, off, rfl, hcc⟩ := Hc.out (by omega)
    obtain ⟨p, hp⟩ : ∃ p, l[i]? = some p := ⟨_, List.getElem?_eq_getElem hil⟩
    obtain ⟨c0, c1, _, _⟩ := hcc i p hp
    have d0 := hkw.cell c0 id
    have d1 := hkw.cell c1 id
    have hcr := hkw.cell hc id
    clear hcc c0 c1
    have hsn := xch hp
    have Hp := xmA hp
    have Hsn := xmA hsn
    clear hp hsn
    go_wp2_with fail
    refine (xi7 p r c _ hcr).mono ?_
    rintro e w1 ⟨rfl, hk1⟩
    have hkw1 := hkw.trans hk1
    cases hb : (decide (p.1 ≤ r) && decide (r ≤ p.2))
    · have hgo : mem (l.take (i + 1)) r = false := by rw [Hsn.out, mem_append, xby, hb, Hno.out]; rfl
      clear hb
      go_wp2_with fail
      go_roundw
      case rel => exact ⟨i + 1, by go_num, by omega, hgo, hkw1⟩
      case measure => simp [intOf]; omega
    have hyes : mem l r = true := by
     rw [mem_iff]
     rw [Bool.and_eq_true, decide_eq_true_eq, decide_eq_true_eq] at hb
     exact ⟨p, List.mem_of_getElem? Hp.out, hb.1, hb.2⟩
    have Hy := xmA hyes
    clear hb hyes
    go_wp2_with fail
    go_ret
    exact ⟨i, rfl, by rw [Hy.out]; simp, hkw1⟩
  go_wp2_with fail
  go_ret
  have h0 := Hno.out
  rw [List.take_of_length_le (by omega)] at h0
  exact ⟨-1, rfl, by rw [h0]; simp, hkw⟩
theorem xdQ (l : List (Int × Int)) (v : Value) (r : Int) (c : Nat) (w : World) (h : RSl w v l) (hc : w.cell? ⟨c, 0, none⟩ = some (.int .i64 r)) :
 Calls Tryz.prog 186 #[v, .func (.func 187) #[] #[.pointer (some ⟨c, 0, none⟩)]] w
  fun e w' => e = .returned (.bool (mem l r)) ∧ xaa (fun _ => False) w w' := by
 go_enter Tryz.func186, Tryz.ntmps186
 go_wp2_with fail
 refine (xfB l v r c _ h hc).mono ?_
 rintro e w1 ⟨x, rfl, hx, hk⟩
 have HX := xmA (show mem l r = decide (0 ≤ x) by rw [Bool.eq_iff_iff, decide_eq_true_eq, hx])
 clear hx
 go_wp2_with fail
 go_ret
 exact ⟨by rw [HX.out]; rfl, hk⟩
theorem xhx (l : List (Int × Int)) (v : Value) (r : Int) (w : World) (h : RSl w v l) :
 Calls Tryz.prog 160 #[v, .int .i64 r] w fun e w' => e = .returned (.bool (has l r)) ∧ xaa (fun _ => False) w w' := by
 by_cases h0 : 0 ≤ r
 · by_cases h1 : r ≤ 1114111
   · have HV := xmA (show has l r = mem l r by unfold has; simp [xbH, h0, h1])
     go_enter Tryz.func160, Tryz.ntmps160
     go_wp2_with fail
     refine (xdQ l v r w.heap.size _ ?_ ?_).mono ?_
     · exact h.keep ((xaa.refl _ _).alloc _)
     · rw [xaX (cs := #[.int .i64 r]) (T := 3) (fz := (0, 0)) (by show (w.heap.push _)[_]? = _; simp)]; rfl
     rintro e w1 ⟨rfl, hk⟩
     go_wp2_with fail
     go_ret
     exact ⟨by rw [HV.out]; rfl, ((xaa.refl _ _).alloc _).trans hk⟩
   have HV := xmA (show has l r = false by unfold has; simp [xbH]; intro _ _; omega)
   have hd : decide (r ≤ 1114111) = false := by simpa using h1
   go_enter Tryz.func160, Tryz.ntmps160
   go_wp2_with fail
   go_ret
   exact ⟨by first | (rw [HV.out]; rfl) | rfl, (xaa.refl _ _).alloc _⟩
 have HV := xmA (show has l r = false by unfold has; simp [xbH]; intro _ _; omega)
 have hd : decide (0 ≤ r) = false := by simpa using h0
 go_enter Tryz.func160, Tryz.ntmps160
 go_wp2_with fail
 go_ret
 exact ⟨by first | (rw [HV.out]; rfl) | rfl, (xaa.refl _ _).alloc _⟩
structure xcG (l : List (Int × Int)) (i : Nat) (next : Int) (ns : List (Int × Int)) : Prop where
 nrm : Norm ns
 n0 : 0 ≤ next
 n1 : next ≤ 1114112
 gap : ∀ q ∈ ns, q.2 + 2 ≤ next
 has : ∀ r, mem ns r = (decide (0 ≤ r) && decide (r < next) && !mem (l.take i) r)
 rest : ∀ p ∈ l.drop i, next ≤ p.1
 done : ∀ r, mem (l.take i) r = true → r < next
 len : ns.length ≤ i
theorem xcG.start (l : List (Int × Int)) (h : Norm l) : xcG l 0 0 [] :=
 ⟨trivial, by omega, by omega, by simp, fun r => by
  rw [xfv]; symm
  have : (decide (0 ≤ r) && decide (r < 0)) = false := by
   rw [Bool.and_eq_false_iff, decide_eq_false_iff_not, decide_eq_false_iff_not]; omega
  rw [this]; rfl,
  fun p hp => (h.rng p (by simpa using hp)).1, fun r hr => by simp [mem] at hr, Nat.le_refl _⟩
theorem xgp (l : List (Int × Int)) (h : Norm l) (i : Nat) (p : Int × Int) (hp : l[i]? = some p) : ∀ q ∈ l.drop (i + 1), p.2 + 2 ≤ q.1 := by
 induction l generalizing i with
 | nil => simp at hp
 | cons x l ih =>
  cases i with
  | zero => simp at hp; subst hp; simpa using h.2.2.2.1
  | succ j => simpa using ih h.tail j (by simpa using hp)
theorem xcG.step {l : List (Int × Int)} {i : Nat} {next : Int} {ns : List (Int × Int)} {p : Int × Int} (h : xcG l i next ns) (hl : Norm l) (hp : l[i]? = some p) :
 (next < p.1 → xcG l (i + 1) (p.2 + 1) (ns ++ [(next, p.1 - 1)])) ∧ (¬ next < p.1 → xcG l (i + 1) (p.2 + 1) ns) := by
 have hr := hl.rng p (List.mem_of_getElem? hp)
 have n0 := h.n0
 have hd : l.drop i = p :: l.drop (i + 1) := by
  have hi := (List.getElem?_eq_some_iff.1 hp)
  obtain ⟨hi, e⟩ := hi
  rw [List.drop_eq_getElem_cons hi, e]
 have hle := h.rest p (by rw [hd]; simp)
 have hsn : l.take (i + 1) = l.take i ++ [p] := by rw [List.take_add_one, hp]; rfl
 have hrest : ∀ q ∈ l.drop (i + 1), p.2 + 1 ≤ q.1 := fun q hq => by have := xgp l hl i p hp q hq; omega
 have hdone : ∀ r, mem (l.take (i + 1)) r = true → r < p.2 + 1 := by
  intro r hr'
  rw [hsn, mem_append, xby, Bool.or_eq_true, Bool.and_eq_true, decide_eq_true_eq, decide_eq_true_eq] at hr'
  rcases hr' with h1 | h1
  · have := h.done r h1; omega
  omega
 have hm : ∀ r, next ≤ r → mem (l.take i) r = false := by
  intro r hn
  cases hq : mem (l.take i) r
  · rfl
  have := h.done r hq; omega
 constructor
 · intro hlt
   refine ⟨xb4 ns _ h.nrm h.n0 (by simp only; omega) (by simp only; omega) h.gap, by omega, by omega, ?_, ?_, hrest, hdone, by simp; exact h.len⟩
   · intro q hq
     rcases List.mem_append.1 hq with hq | hq
     · have := h.gap q hq; omega
     simp at hq; subst hq; simp only; omega
   intro r
   rw [mem_append, h.has, hsn, mem_append, xby, xby]
   by_cases a : r < next
   · have e1 : decide (next ≤ r) = false := by simp; omega
     have e2 : decide (p.1 ≤ r) = false := by simp; omega
     have e3 : decide (r < p.2 + 1) = decide (r < next) := by rw [decide_eq_decide]; omega
     rw [e1, e2, e3]; simp
   have e0 := hm r (by omega)
   have e1 : decide (r < next) = false := by simp; omega
   rw [e0, e1]
   rw [Bool.eq_iff_iff]
   simp only [Bool.and_false, Bool.false_and, Bool.false_or, Bool.and_eq_true, decide_eq_true_eq, Bool.not_eq_true', Bool.and_eq_false_iff, decide_eq_false_iff_not]
   omega
 intro hge
 have he : next = p.1 := by omega
 refine ⟨h.nrm, by omega, by omega, fun q hq => by have := h.gap q hq; omega, ?_, hrest, hdone, by have := h.len; omega⟩
 intro r
 rw [h.has, hsn, mem_append, xby]
 by_cases a : r < next
 · have e2 : decide (p.1 ≤ r) = false := by simp; omega
   have e3 : decide (r < p.2 + 1) = decide (r < next) := by rw [decide_eq_decide]; omega
   rw [e2, e3]; simp
 have e0 := hm r (by omega)
 have e1 : decide (r < next) = false := by simp; omega
 rw [e0, e1]
 rw [Bool.eq_iff_iff]
 simp only [Bool.and_false, Bool.false_and, Bool.false_or, Bool.and_eq_true, decide_eq_true_eq, Bool.not_eq_true', Bool.and_eq_false_iff, decide_eq_false_iff_not]
 constructor
 · intro h; cases h
 intro h; omega
def xeG (rs out : List (Int × Int)) : Prop := Norm out ∧ ∀ r, mem out r = (xbH r && !has rs r)
theorem xcG.fin {rs l : List (Int × Int)} {next : Int} {ns : List (Int × Int)} (h : xcG l l.length next ns) (hl : IsOf rs l) :
 (next ≤ 1114111 → xeG rs (ns ++ [(next, 1114111)])) ∧ (¬ next ≤ 1114111 → xeG rs ns) := by
 have ht : l.take l.length = l := List.take_length
 have hh := h.has
 have hd := h.done
 rw [ht] at hd
 simp only [ht] at hh
 have hm : ∀ r, next ≤ r → mem l r = false := by
  intro r hn
  cases hq : mem l r
  · rfl
  have := hd r hq; omega
 constructor
 · intro hle
   refine ⟨xb4 ns _ h.nrm h.n0 (by simp only; omega) (by simp only; omega) h.gap, fun r => ?_⟩
   rw [mem_append, hh, xby, ← hl.2]
   unfold xbH
   have n0 := h.n0
   by_cases a : r < next
   · have e1 : decide (next ≤ r) = false := by simp; omega
     have e2 : decide (r ≤ 1114111) = true := by simp; omega
     have e3 : decide (r < next) = true := by simp; omega
     rw [e1, e2, e3]; simp
   have e0 := hm r (by omega)
   have e1 : decide (r < next) = false := by simp; omega
   have e2 : decide (next ≤ r) = true := by simp; omega
   have e3 : decide (0 ≤ r) = true := by simp; omega
   rw [e0, e1, e2, e3]; simp
 intro hgt
 refine ⟨h.nrm, fun r => ?_⟩
 rw [hh, ← hl.2]
 unfold xbH
 have n1 := h.n1
 have : decide (r < next) = decide (r ≤ 1114111) := by rw [decide_eq_decide]; omega
 rw [this]
def NotR (w1 : World) (out : List (Int × Int)) (v nx i : Value) (wr : World) : Prop :=
 ∃ (k : Nat) (next : Int) (ns : List (Int × Int)), i = .int .i64 k ∧ nx = .int .i64 next ∧ k ≤ out.length ∧ xcG out k next ns ∧ ROwn w1 wr v ns
set_option maxHeartbeats 2000000 in
theorem xdC (l : List (Int × Int)) (v : Value) (w : World) (h : RSl w v l) (hl : l.length ≤ 100000) :
 Calls Tryz.prog 198 #[v] w fun e w' => ∃ u out, e = .returned u ∧ xeG l out ∧ ROwn w w' u out ∧ out.length ≤ l.length + 1 := by
 obtain ⟨i0, hi, hz0, hz1, hz2⟩ := info_parts xaJ
 go_enter Tryz.func198, Tryz.ntmps198
 go_wp2_with fail
 refine (xcP l v _ h hl).mono ?_
 rintro e w1 ⟨u, out, rfl, hof, hown, hlo⟩
 have hS := hown.read (by omega) (xh9 hof.1)
 obtain ⟨a, cap, rfl, hl1, hcl⟩ := hS.cells
 have Hc := xmA hcl
 clear hcl hS
 have hkw := hown.2
 have hw1 := hkw.size
 clear hown
 go_wp2_with fail
 go_loopw [3, 4, 10] (fun v nx i wr => NotR w1 out v nx i wr) (fun _ _ i _ => out.length - (intOf i).toNat)
 case atStart => exact ⟨0, 0, [], rfl, rfl, Nat.zero_le _, xcG.start out hof.1, World.ownsRow_nil _ _ _ _, xaa.refl _ _⟩
 case round =>
  obtain ⟨k, next, ns, rfl, rfl, hk, hinv, hown, hkl⟩ := hrel
  have hn0 := hinv.n0
  have hn1 := hinv.n1
  have hnl := hinv.len
  by_cases hlt : k < out.length
  · obtain ⟨b, off, rfl, hcc⟩ := Hc.out (by omega)
    obtain ⟨p, hp⟩ : ∃ p, out[k]? = some p := ⟨_, List.getElem?_eq_getElem hlt⟩
    obtain ⟨c0, c1, _, _⟩ := hcc k p hp
    have d0 := hkl.cell c0 id
    have d1 := hkl.cell c1 id
    have hpr := hof.1.rng p (List.mem_of_getElem? hp)
    obtain ⟨st1, st2⟩ := hinv.step hof.1 hp
    have St1 := xmA st1
    have St2 := xmA st2
    obtain ⟨p0, p1, p2⟩ := hpr
    clear hcc c0 c1 hp st1 st2
    obtain ⟨va, vc, rfl⟩ := xad hown
    have hsz := hkl.size
    by_cases hj : next < p.1
    · go_wp2_with (at_builtin; refine wpList_append_own _ rfl (.tmp 18) (.tmp 24) 49 rfl w1.heap.size 164 i0 _ 2 16 Tryz.underlying49 hi hz0 hz1 hz2 rfl (by decide) _ _ _ rfl (xac (xac hown _) _) ⟨wr.heap.size + 1, 0, none⟩ 1 1 [.int .i64 next, .int .i64 (p.1 - 1)] rfl rfl ?c1 ?c2 ?c3 ?c4 ?c5 ?_)
      case c2 => exact ⟨rfl, rfl⟩
      case c3 => unfold maxLen; omega
      case c4 => omega
      case c5 => omega
      intro v' w2 hown' hgrow _
      have hO : ROwn w1 w2 v' (ns ++ [(next, p.1 - 1)]) := by
       refine ⟨?_, ((hkl.alloc _).alloc _).grown hgrow (fun b hb => Or.inr (xab hown b hb))⟩
       rw [xai]
       simpa [cellsOf, encR, List.range_succ] using hown'
      have hfr : ∀ (j : Nat) (hj : j < w2.heap.size) x, (⟨wr.heap.size, x, none⟩ : Addr) = ⟨wr.heap.size, x, none⟩ := fun _ _ _ => rfl
      have hb6 : w2.heap[wr.heap.size]? = some (.cells #[.int .i64 p.1, .int .i64 p.2] 164 (0, 0)) := by
       rw [hgrow.block _ (by simp; omega) (fun e => by have := xax hown _ e.symm; omega), Below.heap_alloc _ _ _ (by simp)]
       show (wr.heap.push _)[_]? = _; simp
      have e0 : w2.cell? ⟨wr.heap.size, 0, none⟩ = some (.int .i64 p.1) := by rw [xaX hb6]; rfl
      have e1 : w2.cell? ⟨wr.heap.size, 1, none⟩ = some (.int .i64 p.2) := by rw [xaX hb6]; rfl
      clear hown hown' hgrow hkl d0 d1 hb6
      go_wp2_with fail
      go_roundw
      case rel => exact ⟨k + 1, p.2 + 1, _, by go_num, rfl, by omega, St1.out hj, hO⟩
      case measure => simp [intOf]; omega
    go_wp2_with fail
    go_roundw
    case rel => exact ⟨k + 1, p.2 + 1, _, by go_num, rfl, by omega, St2.out hj, xac hown _, hkl.alloc _⟩
    case measure => simp [intOf]; omega
  obtain rfl : out.length = k := by omega
  obtain ⟨fi1, fi2⟩ := hinv.fin hof
  have Fi1 := xmA fi1
  have Fi2 := xmA fi2
  clear fi1 fi2
  have hsz := hkl.size
  by_cases hj : next ≤ 1114111
  · obtain ⟨va, vc, rfl⟩ := xad hown
    go_wp2_with (at_builtin; refine wpList_append_own _ rfl (.tmp 32) (.tmp 35) 49 rfl w1.heap.size 164 i0 _ 2 16 Tryz.underlying49 hi hz0 hz1 hz2 rfl (by decide) _ _ _ rfl (xac hown _) ⟨wr.heap.size, 0, none⟩ 1 1 [.int .i64 next, .int .i64 1114111] rfl rfl ?d1 ?d2 ?d3 ?d4 ?d5 ?_)
    case d2 => exact ⟨rfl, rfl⟩
    case d3 => unfold maxLen; omega
    case d4 => omega
    case d5 => omega
    intro v' w2 hown' hgrow _
    have hO : ROwn w1 w2 v' (ns ++ [(next, 1114111)]) := by
     refine ⟨?_, (hkl.alloc _).grown hgrow (fun b hb => Or.inr (xab hown b hb))⟩
     rw [xai]
     simpa [cellsOf, encR, List.range_succ] using hown'
    clear hown hown' hgrow hkl
    go_wp2_with fail
    go_ret
    exact ⟨_, ns ++ [(next, 1114111)], rfl, Fi1.out hj, ⟨xag hO.1 hw1, hkw.trans hO.2⟩, by simp; omega⟩
  go_wp2_with fail
  go_ret
  first
   | exact ⟨_, ns, rfl, Fi2.out hj, ⟨xag hown hw1, hkw.trans hkl⟩, by omega⟩
   | exact ⟨_, rfl, ns, Fi2.out hj, ⟨xag hown hw1, hkw.trans hkl⟩, by omega⟩
theorem xl2 (l : List (Int × Int)) : ∀ u ∈ cellsOf 2 encR l, u.oneCell' = true := by
 intro u hu
 unfold cellsOf at hu
 rw [List.mem_flatMap] at hu
 obtain ⟨x, _, hx⟩ := hu
 rw [xja] at hx
 simp at hx
 rcases hx with rfl | rfl <;> rfl
end Go.Proofs.YtjahiihmoglpfaaGreatDoor
