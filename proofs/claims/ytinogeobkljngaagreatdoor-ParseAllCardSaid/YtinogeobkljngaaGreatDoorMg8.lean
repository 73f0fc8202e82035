/-
  Several texts in one: set.Not in plain words. The walk of set.Not. The walks of slices.Grow, slices.Concat (of two), set.Or, set.And. The walks of set.Count, Only, Not. For the laws on sets: the law's own awake, ranges that are new, ranges that came in. The named sets: plain words and the walk of the document's own 'Named'.
-/
import Derived.Test.YtinogeobkljngaaGreatDoorMg6
import Derived.Test.YtinogeobkljngaaGreatDoorMg7
import Derived.Laws.AppendOwnNone
import Derived.Deep.SlicePairs
import Derived.ChangeArms
import Derived.Deep.RegionHeld3
import Derived.Deep.Cut
import Derived.Deep.CutRange
section
namespace Go.Proofs.YtinogeobkljngaaGreatDoor
set_option linter.unusedVariables false
set_option linter.unusedSimpArgs false

structure NotInv (l : List (Int × Int)) (i : Nat) (next : Int) (ns : List (Int × Int)) : Prop where
  nrm : Norm ns
  n0 : 0 ≤ next
  n1 : next ≤ 1114112
  gap : ∀ q ∈ ns, q.2 + 2 ≤ next
  has : ∀ r, mem ns r = (decide (0 ≤ r) && decide (r < next) && !mem (l.take i) r)
  rest : ∀ p ∈ l.drop i, next ≤ p.1
  done : ∀ r, mem (l.take i) r = true → r < next
  len : ns.length ≤ i

theorem NotInv.start (l : List (Int × Int)) (h : Norm l) : NotInv l 0 0 [] :=
  ⟨trivial, by omega, by omega, by simp, fun r => by
    rw [mem_nil]; symm
    have : (decide (0 ≤ r) && decide (r < 0)) = false := by
      rw [Bool.and_eq_false_iff, decide_eq_false_iff_not, decide_eq_false_iff_not]; omega
    rw [this]; rfl,
   fun p hp => (h.rng p (by simpa using hp)).1, fun r hr => by simp [mem] at hr, Nat.le_refl _⟩

theorem norm_drop (l : List (Int × Int)) (h : Norm l) (i : Nat) (p : Int × Int) (hp : l[i]? = some p) : ∀ q ∈ l.drop (i + 1), p.2 + 2 ≤ q.1 := by
  induction l generalizing i with
  | nil => simp at hp
  | cons x l ih =>
    cases i with
    | zero => simp at hp; subst hp; simpa using h.2.2.2.1
    | succ j => simpa using ih h.tail j (by simpa using hp)

theorem NotInv.step {l : List (Int × Int)} {i : Nat} {next : Int} {ns : List (Int × Int)} {p : Int × Int} (h : NotInv l i next ns) (hl : Norm l) (hp : l[i]? = some p) :
    (next < p.1 → NotInv l (i + 1) (p.2 + 1) (ns ++ [(next, p.1 - 1)])) ∧ (¬ next < p.1 → NotInv l (i + 1) (p.2 + 1) ns) := by
  have hr := hl.rng p (List.mem_of_getElem? hp)
  have n0 := h.n0
  have hd : l.drop i = p :: l.drop (i + 1) := by
    have hi := (List.getElem?_eq_some_iff.1 hp)
    obtain ⟨hi, e⟩ := hi
    rw [List.drop_eq_getElem_cons hi, e]
  have hle := h.rest p (by rw [hd]; simp)
  have hsn : l.take (i + 1) = l.take i ++ [p] := by rw [List.take_add_one, hp]; rfl
  have hrest : ∀ q ∈ l.drop (i + 1), p.2 + 1 ≤ q.1 := fun q hq => by have := norm_drop l hl i p hp q hq; omega
  have hdone : ∀ r, mem (l.take (i + 1)) r = true → r < p.2 + 1 := by
    intro r hr'
    rw [hsn, mem_append, mem_one, Bool.or_eq_true, Bool.and_eq_true, decide_eq_true_eq, decide_eq_true_eq] at hr'
    rcases hr' with h1 | h1
    · have := h.done r h1; omega
    · omega
  have hm : ∀ r, next ≤ r → mem (l.take i) r = false := by
    intro r hn
    cases hq : mem (l.take i) r
    · rfl
    · have := h.done r hq; omega
  constructor
  · intro hlt
    refine ⟨norm_append ns _ h.nrm h.n0 (by simp only; omega) (by simp only; omega) h.gap, by omega, by omega, ?_, ?_, hrest, hdone, by simp; exact h.len⟩
    · intro q hq
      rcases List.mem_append.1 hq with hq | hq
      · have := h.gap q hq; omega
      · simp at hq; subst hq; simp only; omega
    · intro r
      rw [mem_append, h.has, hsn, mem_append, mem_one, mem_one]
      by_cases a : r < next
      · have e1 : decide (next ≤ r) = false := by simp; omega
        have e2 : decide (p.1 ≤ r) = false := by simp; omega
        have e3 : decide (r < p.2 + 1) = decide (r < next) := by rw [decide_eq_decide]; omega
        rw [e1, e2, e3]; simp
      · have e0 := hm r (by omega)
        have e1 : decide (r < next) = false := by simp; omega
        rw [e0, e1]
        rw [Bool.eq_iff_iff]
        simp only [Bool.and_false, Bool.false_and, Bool.false_or, Bool.and_eq_true, decide_eq_true_eq, Bool.not_eq_true', Bool.and_eq_false_iff, decide_eq_false_iff_not]
        omega
  · intro hge
    have he : next = p.1 := by omega
    refine ⟨h.nrm, by omega, by omega, fun q hq => by have := h.gap q hq; omega, ?_, hrest, hdone, by have := h.len; omega⟩
    intro r
    rw [h.has, hsn, mem_append, mem_one]
    by_cases a : r < next
    · have e2 : decide (p.1 ≤ r) = false := by simp; omega
      have e3 : decide (r < p.2 + 1) = decide (r < next) := by rw [decide_eq_decide]; omega
      rw [e2, e3]; simp
    · have e0 := hm r (by omega)
      have e1 : decide (r < next) = false := by simp; omega
      rw [e0, e1]
      rw [Bool.eq_iff_iff]
      simp only [Bool.and_false, Bool.false_and, Bool.false_or, Bool.and_eq_true, decide_eq_true_eq, Bool.not_eq_true', Bool.and_eq_false_iff, decide_eq_false_iff_not]
      constructor
      · intro h; cases h
      · intro h; omega

/-- What is not in the ranges rs: a set. -/
def IsNot (rs out : List (Int × Int)) : Prop := Norm out ∧ ∀ r, mem out r = (inAll r && !has rs r)

theorem NotInv.fin {rs l : List (Int × Int)} {next : Int} {ns : List (Int × Int)} (h : NotInv l l.length next ns) (hl : IsOf rs l) :
    (next ≤ 1114111 → IsNot rs (ns ++ [(next, 1114111)])) ∧ (¬ next ≤ 1114111 → IsNot rs ns) := by
  have ht : l.take l.length = l := List.take_length
  have hh := h.has
  have hd := h.done
  rw [ht] at hd
  simp only [ht] at hh
  have hm : ∀ r, next ≤ r → mem l r = false := by
    intro r hn
    cases hq : mem l r
    · rfl
    · have := hd r hq; omega
  constructor
  · intro hle
    refine ⟨norm_append ns _ h.nrm h.n0 (by simp only; omega) (by simp only; omega) h.gap, fun r => ?_⟩
    rw [mem_append, hh, mem_one, ← hl.2]
    unfold inAll
    have n0 := h.n0
    by_cases a : r < next
    · have e1 : decide (next ≤ r) = false := by simp; omega
      have e2 : decide (r ≤ 1114111) = true := by simp; omega
      have e3 : decide (r < next) = true := by simp; omega
      rw [e1, e2, e3]; simp
    · have e0 := hm r (by omega)
      have e1 : decide (r < next) = false := by simp; omega
      have e2 : decide (next ≤ r) = true := by simp; omega
      have e3 : decide (0 ≤ r) = true := by simp; omega
      rw [e0, e1, e2, e3]; simp
  · intro hgt
    refine ⟨h.nrm, fun r => ?_⟩
    rw [hh, ← hl.2]
    unfold inAll
    have n1 := h.n1
    have : decide (r < next) = decide (r ≤ 1114111) := by rw [decide_eq_decide]; omega
    rw [this]
end Go.Proofs.YtinogeobkljngaaGreatDoor
end
section
namespace Go.Proofs.YtinogeobkljngaaGreatDoor
open Go.RowKit
set_option linter.unusedVariables false
set_option linter.unusedSimpArgs false
set_option maxRecDepth 100000

/-- At the loop's head: the row, the next number, the counter. -/
def NotR (w1 : World) (out : List (Int × Int)) (v nx i : Value) (wr : World) : Prop :=
  ∃ (k : Nat) (next : Int) (ns : List (Int × Int)), i = .int .i64 k ∧ nx = .int .i64 next ∧ k ≤ out.length ∧ NotInv out k next ns ∧ ROwn w1 wr v ns

set_option maxHeartbeats 2000000 in
theorem not_any (l : List (Int × Int)) (v : Value) (w : World) (h : RSl w v l) (hl : l.length ≤ 100000) :
    Calls Tryz.prog 62 #[v] w fun e w' => ∃ u out, e = .returned u ∧ IsNot l out ∧ ROwn w w' u out ∧ out.length ≤ l.length + 1 := by
  obtain ⟨i0, hi, hz0, hz1, hz2⟩ := info_parts info_range
  go_enter Tryz.func62, Tryz.ntmps62
  go_wp2_with fail
  refine (of_walk l v _ h hl).mono ?_
  rintro e w1 ⟨u, out, rfl, hof, hown, hlo⟩
  have hS := hown.read (by omega) (norm64 hof.1)
  obtain ⟨a, cap, rfl, hl1, hcl⟩ := hS.cells
  have Hc := Lib.hid hcl
  clear hcl hS
  have hkw := hown.2
  have hw1 := hkw.size
  clear hown
  go_wp2_with fail
  go_loopw [3, 4, 10] (fun v nx i wr => NotR w1 out v nx i wr) (fun _ _ i _ => out.length - (intOf i).toNat)
  case atStart => exact ⟨0, 0, [], rfl, rfl, Nat.zero_le _, NotInv.start out hof.1, World.ownsRow_nil _ _ _ _, Keeps.refl _ _⟩
  case round =>
    obtain ⟨k, next, ns, rfl, rfl, hk, hinv, hown, hkl⟩ := hrel
    have hn0 := hinv.n0
    have hn1 := hinv.n1
    have hnl := hinv.len
    by_cases hlt : k < out.length
    · obtain ⟨b, off, rfl, hcc⟩ := Hc.out (by omega)
      obtain ⟨p, hp⟩ : ∃ p, out[k]? = some p := ⟨_, List.getElem?_eq_getElem hlt⟩
      obtain ⟨c0, c1, _, _⟩ := hcc k p hp
      have d0 := hkl.cell c0 id
      have d1 := hkl.cell c1 id
      have hpr := hof.1.rng p (List.mem_of_getElem? hp)
      obtain ⟨st1, st2⟩ := hinv.step hof.1 hp
      have St1 := Lib.hid st1
      have St2 := Lib.hid st2
      obtain ⟨p0, p1, p2⟩ := hpr
      clear hcc c0 c1 hp st1 st2
      obtain ⟨va, vc, rfl⟩ := ownsRow_slice hown
      have hsz := hkl.size
      by_cases hj : next < p.1
      · go_wp2_with (at_builtin; refine wpList_append_own _ rfl (.tmp 18) (.tmp 24) 23 rfl w1.heap.size 61 i0 _ 2 16 Tryz.underlying23 hi hz0 hz1 hz2 rfl (by decide) _ _ _ rfl (ownsRow_alloc (ownsRow_alloc hown _) _) ⟨wr.heap.size + 1, 0, none⟩ 1 1 [.int .i64 next, .int .i64 (p.1 - 1)] rfl rfl ?c1 ?c2 ?c3 ?c4 ?c5 ?_)
        case c2 => exact ⟨rfl, rfl⟩
        case c3 => unfold maxLen; omega
        case c4 => omega
        case c5 => omega
        intro v' w2 hown' hgrow _
        have hO : ROwn w1 w2 v' (ns ++ [(next, p.1 - 1)]) := by
          refine ⟨?_, ((hkl.alloc _).alloc _).grown hgrow (fun b hb => Or.inr (ownBlock_base hown b hb))⟩
          rw [cellsOf_append]
          simpa [cellsOf, encR, List.range_succ] using hown'
        have hfr : ∀ (j : Nat) (hj : j < w2.heap.size) x, (⟨wr.heap.size, x, none⟩ : Addr) = ⟨wr.heap.size, x, none⟩ := fun _ _ _ => rfl
        have hb6 : w2.heap[wr.heap.size]? = some (.cells #[.int .i64 p.1, .int .i64 p.2] 61 (0, 0)) := by
          rw [hgrow.block _ (by simp; omega) (fun e => by have := own_lt hown _ e.symm; omega), Below.heap_alloc _ _ _ (by simp)]
          show (wr.heap.push _)[_]? = _; simp
        have e0 : w2.cell? ⟨wr.heap.size, 0, none⟩ = some (.int .i64 p.1) := by rw [cell_block hb6]; rfl
        have e1 : w2.cell? ⟨wr.heap.size, 1, none⟩ = some (.int .i64 p.2) := by rw [cell_block hb6]; rfl
        clear hown hown' hgrow hkl d0 d1 hb6
        go_wp2_with fail
        go_roundw
        case rel => exact ⟨k + 1, p.2 + 1, _, by go_num, rfl, by omega, St1.out hj, hO⟩
        case measure => simp [intOf]; omega
      · go_wp2_with fail
        go_roundw
        case rel => exact ⟨k + 1, p.2 + 1, _, by go_num, rfl, by omega, St2.out hj, ownsRow_alloc hown _, hkl.alloc _⟩
        case measure => simp [intOf]; omega
    · obtain rfl : out.length = k := by omega
      obtain ⟨fi1, fi2⟩ := hinv.fin hof
      have Fi1 := Lib.hid fi1
      have Fi2 := Lib.hid fi2
      clear fi1 fi2
      have hsz := hkl.size
      by_cases hj : next ≤ 1114111
      · obtain ⟨va, vc, rfl⟩ := ownsRow_slice hown
        go_wp2_with (at_builtin; refine wpList_append_own _ rfl (.tmp 32) (.tmp 35) 23 rfl w1.heap.size 61 i0 _ 2 16 Tryz.underlying23 hi hz0 hz1 hz2 rfl (by decide) _ _ _ rfl (ownsRow_alloc hown _) ⟨wr.heap.size, 0, none⟩ 1 1 [.int .i64 next, .int .i64 1114111] rfl rfl ?d1 ?d2 ?d3 ?d4 ?d5 ?_)
        case d2 => exact ⟨rfl, rfl⟩
        case d3 => unfold maxLen; omega
        case d4 => omega
        case d5 => omega
        intro v' w2 hown' hgrow _
        have hO : ROwn w1 w2 v' (ns ++ [(next, 1114111)]) := by
          refine ⟨?_, (hkl.alloc _).grown hgrow (fun b hb => Or.inr (ownBlock_base hown b hb))⟩
          rw [cellsOf_append]
          simpa [cellsOf, encR, List.range_succ] using hown'
        clear hown hown' hgrow hkl
        go_wp2_with fail
        go_ret
        exact ⟨_, ns ++ [(next, 1114111)], rfl, Fi1.out hj, ⟨ownsRow_base hO.1 hw1, hkw.trans hO.2⟩, by simp; omega⟩
      · go_wp2_with fail
        go_ret
        first
          | exact ⟨_, ns, rfl, Fi2.out hj, ⟨ownsRow_base hown hw1, hkw.trans hkl⟩, by omega⟩
          | exact ⟨_, rfl, ns, Fi2.out hj, ⟨ownsRow_base hown hw1, hkw.trans hkl⟩, by omega⟩
end Go.Proofs.YtinogeobkljngaaGreatDoor
end
section
namespace Go.Proofs.YtinogeobkljngaaGreatDoor
open Go.RowKit
set_option linter.unusedVariables false
set_option linter.unusedSimpArgs false
set_option maxRecDepth 100000

theorem cell_new (w : World) (cs : Array Value) (T : TypeId) (o : Nat) : (w.alloc (.cells cs T)).cell? ⟨w.heap.size, o, none⟩ = cs[o]? :=
  cell_block (cs := cs) (T := T) (fz := (0, 0)) (by show (w.heap.push _)[_]? = _; simp) o
def cat2 (xs ys : List (Int × Int)) (k : Nat) : List (Int × Int) := (if 1 ≤ k then xs else []) ++ (if 2 ≤ k then ys else [])
theorem cat2_0 (xs ys : List (Int × Int)) : cat2 xs ys 0 = [] := rfl
theorem cat2_1 (xs ys : List (Int × Int)) : cat2 xs ys 1 = xs := by simp [cat2]
theorem cat2_2 (xs ys : List (Int × Int)) : cat2 xs ys 2 = xs ++ ys := by simp [cat2]
theorem encR_one (l : List (Int × Int)) : ∀ u ∈ cellsOf 2 encR l, u.oneCell' = true := by
  intro u hu
  unfold cellsOf at hu
  rw [List.mem_flatMap] at hu
  obtain ⟨x, _, hx⟩ := hu
  rw [encR_cells] at hx
  simp at hx
  rcases hx with rfl | rfl <;> rfl

def Cat1 (xs ys : List (Int × Int)) (sv kv : Value) : Prop := ∃ k : Nat, kv = .int .i64 k ∧ k ≤ 2 ∧ sv = .int .i64 (cat2 xs ys k).length
def Cat2 (w : World) (xs ys : List (Int × Int)) (u kv : Value) (wr : World) : Prop := ∃ k : Nat, kv = .int .i64 k ∧ k ≤ 2 ∧ ROwn w wr u (cat2 xs ys k)

/-- The two together: a set. -/
def IsOr (xs ys out : List (Int × Int)) : Prop := Norm out ∧ ∀ r, mem out r = (has xs r || has ys r)
def IsAnd (xs ys out : List (Int × Int)) : Prop := Norm out ∧ ∀ r, mem out r = (has xs r && has ys r)
theorem in64_append {xs ys : List (Int × Int)} (hx : ∀ p ∈ xs, in64 p.1 ∧ in64 p.2) (hy : ∀ p ∈ ys, in64 p.1 ∧ in64 p.2) : ∀ p ∈ xs ++ ys, in64 p.1 ∧ in64 p.2 := by
  intro p hp
  rcases List.mem_append.1 hp with h | h
  · exact hx p h
  · exact hy p h

end Go.Proofs.YtinogeobkljngaaGreatDoor
end
section
namespace Go.Proofs.YtinogeobkljngaaGreatDoor
open Go.RowKit
set_option linter.unusedVariables false
set_option linter.unusedSimpArgs false
set_option maxRecDepth 100000

theorem norm_len_take (l : List (Int × Int)) (h : Norm l) (i : Nat) : Norm (l.take i) := by
  induction l generalizing i with
  | nil => simpa using h
  | cons q l ih =>
    cases i with
    | zero => trivial
    | succ j => exact ⟨h.1, h.2.1, h.2.2.1, fun x hx => h.2.2.2.1 x (List.mem_of_mem_take hx), ih h.tail j⟩

end Go.Proofs.YtinogeobkljngaaGreatDoor
end
section
namespace Go.Proofs.YtinogeobkljngaaGreatDoor
open Go.RowKit
set_option linter.unusedVariables false
set_option linter.unusedSimpArgs false
set_option maxRecDepth 100000

theorem rsl_new (w : World) (l : List (Int × Int)) (n : Nat) (hn : l.length = n) (T : TypeId) (hl : l.length ≤ 1000) (h : ∀ p ∈ l, in64 p.1 ∧ in64 p.2) : RSl (w.alloc (.cells (cellsOf 2 encR l).toArray T)) (.slice (some ⟨w.heap.size, 0, none⟩) n n) l := by
  subst hn
  refine ⟨⟨_, _, rfl, ⟨Nat.le_refl _, (fun h => by cases h)⟩, by omega, fun h0 => ⟨_, 0, rfl, fun i x hx j hj => ?_⟩⟩, h⟩
  rw [cell_new]
  have := cellsOf_get 2 encR l i x hx j hj
  simpa using this

theorem wpList_append_rsl {w : World} {ops : Array Oper} {rest : List Oper} {o : Oper} {a : Act} {Q : Exit → Act → World → Prop} (hgd : o.guard = none) (s x : Operand)
    (ho : o.op = .call { callee := .builtin .append, args := #[s, x], argTypes := #[23, 23] })
    (base : Nat) (v : Value) (n : Nat) (xs : List Value) (hs : a.eval s = v) (hown : w.ownsRow base 61 2 v n xs)
    (xv : Value) (l : List (Int × Int)) (hx : a.eval x = xv) (hr : RSl w xv l) (h63 : n + l.length ≤ 1000000) (hbase : base ≤ w.heap.size)
    (h : ∀ v' w', w'.ownsRow base 61 2 v' (n + l.length) (xs ++ cellsOf 2 encR l) → w.grownBy w' v.ownBlock → wpList Tryz.prog ops Q rest (a.put o.dst v') w') : wpList Tryz.prog ops Q (o :: rest) a w := by
  obtain ⟨i0, hi, hz0, hz1, hz2⟩ := info_parts info_range
  rcases hr.1.news (by omega) with ⟨rfl, rfl⟩ | ⟨ad, c, rfl, hnews⟩
  · refine wpList_append_own_none hgd s x 23 ho base 61 i0 2 Tryz.underlying23 hi v n xs hs hown hx (hs ▸ h v w ?_ ?_)
    · simpa [cellsOf] using hown
    · exact ⟨rfl, rfl, rfl, Nat.le_refl _, fun _ _ _ => rfl⟩
  · exact wpList_append_own _ hgd s x 23 ho base 61 i0 _ 2 16 Tryz.underlying23 hi hz0 hz1 hz2 rfl (by decide) v n xs hs hown ad _ c _ hx (cellsOf_length _ _ _) hnews (encR_one _) (by unfold maxLen; omega) (by omega) hbase
      (fun v' w' h1 h2 _ => h v' w' h1 h2)

theorem rsl_open {H : Type} {enc : TypeId × Value → H} {w : World} {base : Nat} {spare : Nat → Bool} {held : Bool} {a : Option Addr} {len cap : Nat} {x : DataW H × List MemPlace} (hl : len ≤ 100)
    (h : ∃ fuel, DataW.trod enc Tryz.prog w base spare held fuel 23 (Value.slice a len cap).cells.toList = some x) : ∃ l : List (Int × Int), l.length = len ∧ RSl w (.slice a len cap) l := by
  obtain ⟨fuel, hf⟩ := h
  rcases Deep.open_slice_pairs Tryz.underlying23 Tryz.underlying61 (by kernel_rfl) rfl rfl (by kernel_rfl) (by kernel_rfl) hf with ⟨hcs, _⟩ | ⟨a', len', cap', m, n, V0, V1, D0, D1, P0, P1, hcs, _, hlc, hcm, hm, _, hx⟩
  · simp [Value.cells] at hcs
    obtain ⟨rfl, rfl, rfl⟩ := hcs
    exact ⟨[], rfl, SlOf.nil _ _ _, by simp⟩
  · simp [Value.cells] at hcs
    obtain ⟨rfl, rfl, rfl⟩ := hcs
    have hlm : len ≤ m := by rw [hm]; split <;> omega
    have hv : ∀ i, i < len → ∃ x y : Int, V0 i = .int .i64 x ∧ V1 i = .int .i64 y ∧ in64 x ∧ in64 y := by
      intro i hi
      obtain ⟨_, _, h0, h1⟩ := hx i (by omega)
      obtain ⟨x, e0, _, w0⟩ := DataW.trod_int Tryz.underlying3 h0
      obtain ⟨y, e1, _, w1⟩ := DataW.trod_int Tryz.underlying3 h1
      simp [Lit.wf, IntKind.min, IntKind.max, IntKind.signed, IntKind.bits] at w0 w1
      simp at e0 e1
      exact ⟨x, y, e0, e1, by unfold in64; omega, by unfold in64; omega⟩
    have hsp : len ≠ 0 → a'.spot = none := by
      intro hne
      have h1 := (hx 0 (by omega)).1
      simpa [Addr.add] using World.cell?_spot h1
    refine ⟨(List.range len).map fun i => (intOf (V0 i), intOf (V1 i)), by simp, ⟨some a', cap, by simp, ⟨by simpa using hlc, (fun h => by cases h)⟩, by simp; omega, fun h0 => ?_⟩, ?_⟩
    · obtain ⟨b, off, spot⟩ := a'
      simp at h0
      have := hsp (by omega)
      simp at this
      subst this
      refine ⟨b, off, rfl, fun i p hp j hj => ?_⟩
      have hi : i < len := by
        rcases Nat.lt_or_ge i len with h | h
        · exact h
        · rw [List.getElem?_eq_none (by simpa using h)] at hp; cases hp
      simp [hi] at hp
      subst hp
      obtain ⟨x, y, e0, e1, _, _⟩ := hv i hi
      obtain ⟨c0, c1, _, _⟩ := hx i (by omega)
      have hadd : ∀ k, (⟨b, off, none⟩ : Addr).add k = ⟨b, off + k, none⟩ := by intro k; unfold Addr.add; split <;> simp_all
      rw [hadd] at c0 c1
      have : j = 0 ∨ j = 1 := by omega
      rcases this with rfl | rfl
      · rw [Nat.add_zero, c0, e0]; rfl
      · rw [Nat.add_assoc, c1, e1]; rfl
    · intro p hp
      obtain ⟨i, hi, rfl⟩ := List.mem_map.1 hp
      obtain ⟨x, y, e0, e1, a0, a1⟩ := hv i (by simpa using hi)
      simp only [e0, e1]
      exact ⟨a0, a1⟩
end Go.Proofs.YtinogeobkljngaaGreatDoor
end
section
namespace Go.Proofs.YtinogeobkljngaaGreatDoor
open Go.RowKit
set_option linter.unusedVariables false
set_option linter.unusedSimpArgs false
set_option maxRecDepth 100000

def digB (r : Int) : Bool := decide (48 ≤ r) && decide (r ≤ 57)
def wrdB (r : Int) : Bool := digB r || (decide (65 ≤ r) && decide (r ≤ 90)) || (decide (97 ≤ r) && decide (r ≤ 122)) || decide (r = 95)
def spcB (r : Int) : Bool := decide (r = 32) || (decide (9 ≤ r) && decide (r ≤ 13))
/-- What a name says of a number, and whether it is a name. -/
def namB (c r : Int) : Bool :=
  if c = 100 then digB r else if c = 119 then wrdB r else if c = 115 then spcB r else if c = 68 then !digB r else if c = 87 then !wrdB r else if c = 83 then !spcB r else false
def okN (c : Int) : Bool := decide (c = 100) || decide (c = 119) || decide (c = 115) || decide (c = 68) || decide (c = 87) || decide (c = 83)

structure FinN (r : Int) (d w s : Bool) : Prop where
  a1 : namB 100 r = d ∧ okN 100 = true
  a2 : namB 119 r = w ∧ okN 119 = true
  a3 : namB 115 r = s ∧ okN 115 = true
  a4 : namB 68 r = !d ∧ okN 68 = true
  a5 : namB 87 r = !w ∧ okN 87 = true
  a6 : namB 83 r = !s ∧ okN 83 = true
  a7 : ∀ c : Int, c ≠ 100 → c ≠ 119 → c ≠ 115 → c ≠ 68 → c ≠ 87 → c ≠ 83 → namB c r = false ∧ okN c = false
theorem fin_named (r : Int) {d w s : Bool} (hd : digB r = d) (hw : wrdB r = w) (hs : spcB r = s) : FinN r d w s := by
  subst hd hw hs
  exact ⟨⟨rfl, rfl⟩, ⟨rfl, rfl⟩, ⟨rfl, rfl⟩, ⟨rfl, rfl⟩, ⟨rfl, rfl⟩, ⟨rfl, rfl⟩, fun c h1 h2 h3 h4 h5 h6 => ⟨by simp [namB, h1, h2, h3, h4, h5, h6], by simp [okN, h1, h2, h3, h4, h5, h6]⟩⟩
end Go.Proofs.YtinogeobkljngaaGreatDoor
end
