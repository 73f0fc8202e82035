/-
  Several texts in one: set.Not in plain words. The walk of set.Not. The walks of slices.Grow, slices.Concat (of two), set.Or, set.And. The walks of set.Count, Only, Not. For the laws on sets: the law's own awake, ranges that are new, ranges that came in. The named sets: plain words and the walk of the document's own 'Named'. The walk of set.Named. parse.among, parse.one.
-/
import Derived.Test.YtbifklibdkjbeaaGreatDoorMg5
import Derived.Laws.AppendOwnNone
import Derived.Deep.SlicePairs
import Derived.ChangeArms
import Derived.Deep.RegionHeld3
import Derived.Deep.Cut
import Derived.Deep.CutRange
import Derived.Test.YtbifklibdkjbeaaGreatDoorShelf
import Derived.Lib.Bytealg
namespace Go.Proofs.YtbifklibdkjbeaaGreatDoor
open Go.RowKit
set_option linter.unusedVariables false
set_option linter.unusedSimpArgs false
set_option maxRecDepth 100000
set_option maxHeartbeats 2000000
structure xcU (l : List (Int × Int)) (i : Nat) (next : Int) (ns : List (Int × Int)) : Prop where
 nrm : Norm ns
 n0 : 0 ≤ next
 n1 : next ≤ 1114112
 gap : ∀ q ∈ ns, q.2 + 2 ≤ next
 has : ∀ r, mem ns r = (decide (0 ≤ r) && decide (r < next) && !mem (l.take i) r)
 rest : ∀ p ∈ l.drop i, next ≤ p.1
 done : ∀ r, mem (l.take i) r = true → r < next
 len : ns.length ≤ i
theorem xcU.start (l : List (Int × Int)) (h : Norm l) : xcU l 0 0 [] :=
 ⟨trivial, by omega, by omega, by simp, fun r => by
  rw [xdI]; symm
  have : (decide (0 ≤ r) && decide (r < 0)) = false := by
   rw [Bool.and_eq_false_iff, decide_eq_false_iff_not, decide_eq_false_iff_not]; omega
  rw [this]; rfl,
  fun p hp => (h.rng p (by simpa using hp)).1, fun r hr => by simp [mem] at hr, Nat.le_refl _⟩
theorem xgN (l : List (Int × Int)) (h : Norm l) (i : Nat) (p : Int × Int) (hp : l[i]? = some p) : ∀ q ∈ l.drop (i + 1), p.2 + 2 ≤ q.1 := by
 induction l generalizing i with
 | nil => simp at hp
 | cons x l ih =>
  cases i with
  | zero => simp at hp; subst hp; simpa using h.2.2.2.1
  | succ j => simpa using ih h.tail j (by simpa using hp)
theorem xcU.step {l : List (Int × Int)} {i : Nat} {next : Int} {ns : List (Int × Int)} {p : Int × Int} (h : xcU l i next ns) (hl : Norm l) (hp : l[i]? = some p) :
 (next < p.1 → xcU l (i + 1) (p.2 + 1) (ns ++ [(next, p.1 - 1)])) ∧ (¬ next < p.1 → xcU l (i + 1) (p.2 + 1) ns) := by
 have hr := hl.rng p (List.mem_of_getElem? hp)
 have n0 := h.n0
 have hd : l.drop i = p :: l.drop (i + 1) := by
  have hi := (List.getElem?_eq_some_iff.1 hp)
  obtain ⟨hi, e⟩ := hi
  rw [List.drop_eq_getElem_cons hi, e]
 have hle := h.rest p (by rw [hd]; simp)
 have hsn : l.take (i + 1) = l.take i ++ [p] := by rw [List.take_add_one, hp]; rfl
 have hrest : ∀ q ∈ l.drop (i + 1), p.2 + 1 ≤ q.1 := fun q hq => by have := xgN l hl i p hp q hq; omega
 have hdone : ∀ r, mem (l.take (i + 1)) r = true → r < p.2 + 1 := by
  intro r hr'
  rw [hsn, mem_append, xbv, Bool.or_eq_true, Bool.and_eq_true, decide_eq_true_eq, decide_eq_true_eq] at hr'
  rcases hr' with h1 | h1
  · have := h.done r h1; omega
  omega
 have hm : ∀ r, next ≤ r → mem (l.take i) r = false := by
  intro r hn
  cases hq : mem (l.take i) r
  · rfl
  have := h.done r hq; omega
 constructor
 · intro hlt
   refine ⟨xbu ns _ h.nrm h.n0 (by simp only; omega) (by simp only; omega) h.gap, by omega, by omega, ?_, ?_, hrest, hdone, by simp; exact h.len⟩
   · intro q hq
     rcases List.mem_append.1 hq with hq | hq
     · have := h.gap q hq; omega
     simp at hq; subst hq; simp only; omega
   intro r
   rw [mem_append, h.has, hsn, mem_append, xbv, xbv]
   by_cases a : r < next
   · have e1 : decide (next ≤ r) = false := by simp; omega
     have e2 : decide (p.1 ≤ r) = false := by simp; omega
     have e3 : decide (r < p.2 + 1) = decide (r < next) := by rw [decide_eq_decide]; omega
     rw [e1, e2, e3]; simp
   have e0 := hm r (by omega)
   have e1 : decide (r < next) = false := by simp; omega
   rw [e0, e1]
   rw [Bool.eq_iff_iff]
   simp only [Bool.and_false, Bool.false_and, Bool.false_or, Bool.and_eq_true, decide_eq_true_eq, Bool.not_eq_true', Bool.and_eq_false_iff, decide_eq_false_iff_not]
   omega
 intro hge
 have he : next = p.1 := by omega
 refine ⟨h.nrm, by omega, by omega, fun q hq => by have := h.gap q hq; omega, ?_, hrest, hdone, by have := h.len; omega⟩
 intro r
 rw [h.has, hsn, mem_append, xbv]
 by_cases a : r < next
 · have e2 : decide (p.1 ≤ r) = false := by simp; omega
   have e3 : decide (r < p.2 + 1) = decide (r < next) := by rw [decide_eq_decide]; omega
   rw [e2, e3]; simp
 have e0 := hm r (by omega)
 have e1 : decide (r < next) = false := by simp; omega
 rw [e0, e1]
 rw [Bool.eq_iff_iff]
 simp only [Bool.and_false, Bool.false_and, Bool.false_or, Bool.and_eq_true, decide_eq_true_eq, Bool.not_eq_true', Bool.and_eq_false_iff, decide_eq_false_iff_not]
 constructor
 · intro h; cases h
 intro h; omega
def xe5 (rs out : List (Int × Int)) : Prop := Norm out ∧ ∀ r, mem out r = (xa1 r && !has rs r)
theorem xcU.fin {rs l : List (Int × Int)} {next : Int} {ns : List (Int × Int)} (h : xcU l l.length next ns) (hl : IsOf rs l) :
 (next ≤ 1114111 → xe5 rs (ns ++ [(next, 1114111)])) ∧ (¬ next ≤ 1114111 → xe5 rs ns) := by
 have ht : l.take l.length = l := List.take_length
 have hh := h.has
 have hd := h.done
 rw [ht] at hd
 simp only [ht] at hh
 have hm : ∀ r, next ≤ r → mem l r = false := by
  intro r hn
  cases hq : mem l r
  · rfl
  have := hd r hq; omega
 constructor
 · intro hle
   refine ⟨xbu ns _ h.nrm h.n0 (by simp only; omega) (by simp only; omega) h.gap, fun r => ?_⟩
   rw [mem_append, hh, xbv, ← hl.2]
   unfold xa1
   have n0 := h.n0
   by_cases a : r < next
   · have e1 : decide (next ≤ r) = false := by simp; omega
     have e2 : decide (r ≤ 1114111) = true := by simp; omega
     have e3 : decide (r < next) = true := by simp; omega
     rw [e1, e2, e3]; simp
   have e0 := hm r (by omega)
   have e1 : decide (r < next) = false := by simp; omega
   have e2 : decide (next ≤ r) = true := by simp; omega
   have e3 : decide (0 ≤ r) = true := by simp; omega
   rw [e0, e1, e2, e3]; simp
 intro hgt
 refine ⟨h.nrm, fun r => ?_⟩
 rw [hh, ← hl.2]
 unfold xa1
 have n1 := h.n1
 have : decide (r < next) = decide (r ≤ 1114111) := by rw [decide_eq_decide]; omega
 rw [this]
def NotR (w1 : World) (out : List (Int × Int)) (v nx i : Value) (wr : World) : Prop :=
 ∃ (k : Nat) (next : Int) (ns : List (Int × Int)), i = .int .i64 k ∧ nx = .int .i64 next ∧ k ≤ out.length ∧ xcU out k next ns ∧ ROwn w1 wr v ns
theorem xdF (l : List (Int × Int)) (v : Value) (w : World) (h : RSl w v l) (hl : l.length ≤ 100000) :
 Calls Tryz.prog 234 #[v] w fun e w' => ∃ u out, e = .returned u ∧ xe5 l out ∧ ROwn w w' u out ∧ out.length ≤ l.length + 1 := by
 obtain ⟨i0, hi, hz0, hz1, hz2⟩ := info_parts xaO
 go_enter Tryz.func234, Tryz.ntmps234
 go_wp2_with fail
 refine (xcY l v _ h hl).mono ?_
 rintro e w1 ⟨u, out, rfl, hof, hown, hlo⟩
 have hS := hown.read (by omega) (xiN hof.1)
 obtain ⟨a, cap, rfl, hl1, hcl⟩ := hS.cells
 have Hc := xoo hcl
 clear hcl hS
 have hkw := hown.2
 have hw1 := hkw.size
 clear hown
 go_wp2_with fail
 go_loopw [3, 4, 10] (fun v nx i wr => NotR w1 out v nx i wr) (fun _ _ i _ => out.length - (intOf i).toNat)
 case atStart => exact ⟨0, 0, [], rfl, rfl, Nat.zero_le _, xcU.start out hof.1, World.ownsRow_nil _ _ _ _, xa.refl _ _⟩
 case round =>
  obtain ⟨k, next, ns, rfl, rfl, hk, hinv, hown, hkl⟩ := hrel
  have hn0 := hinv.n0
  have hn1 := hinv.n1
  have hnl := hinv.len
  by_cases hlt : k < out.length
  · obtain ⟨b, off, rfl, hcc⟩ := Hc.out (by omega)
    obtain ⟨p, hp⟩ : ∃ p, out[k]? = some p := ⟨_, List.getElem?_eq_getElem hlt⟩
    obtain ⟨c0, c1, _, _⟩ := hcc k p hp
    have d0 := hkl.cell c0 id
    have d1 := hkl.cell c1 id
    have hpr := hof.1.rng p (List.mem_of_getElem? hp)
    obtain ⟨st1, st2⟩ := hinv.step hof.1 hp
    have St1 := xoo st1
    have St2 := xoo st2
    obtain ⟨p0, p1, p2⟩ := hpr
    clear hcc c0 c1 hp st1 st2
    obtain ⟨va, vc, rfl⟩ := xac hown
    have hsz := hkl.size
    by_cases hj : next < p.1
    · go_wp2_with (at_builtin; refine wpList_append_own _ rfl (.tmp 18) (.tmp 24) 151 rfl w1.heap.size 287 i0 _ 2 16 Tryz.underlying151 hi hz0 hz1 hz2 rfl (by decide) _ _ _ rfl (xab (xab hown _) _) ⟨wr.heap.size + 1, 0, none⟩ 1 1 [.int .i64 next, .int .i64 (p.1 - 1)] rfl rfl ?c1 ?c2 ?c3 ?c4 ?c5 ?_)
      case c2 => exact ⟨rfl, rfl⟩
      case c3 => unfold maxLen; omega
      case c4 => omega
      case c5 => omega
      intro v' w2 hown' hgrow _
      have hO : ROwn w1 w2 v' (ns ++ [(next, p.1 - 1)]) := by
       refine ⟨?_, ((hkl.alloc _).alloc _).grown hgrow (fun b hb => Or.inr (xaa hown b hb))⟩
       rw [xag]
       simpa [cellsOf, encR, List.range_succ] using hown'
      have hfr : ∀ (j : Nat) (hj : j < w2.heap.size) x, (⟨wr.heap.size, x, none⟩ : Addr) = ⟨wr.heap.size, x, none⟩ := fun _ _ _ => rfl
      have hb6 : w2.heap[wr.heap.size]? = some (.cells #[.int .i64 p.1, .int .i64 p.2] 287 (0, 0)) := by
       rw [hgrow.block _ (by simp; omega) (fun e => by have := xaM hown _ e.symm; omega), Below.heap_alloc _ _ _ (by simp)]
       show (wr.heap.push _)[_]? = _; simp
      have e0 : w2.cell? ⟨wr.heap.size, 0, none⟩ = some (.int .i64 p.1) := by rw [xa8 hb6]; rfl
      have e1 : w2.cell? ⟨wr.heap.size, 1, none⟩ = some (.int .i64 p.2) := by rw [xa8 hb6]; rfl
      clear hown hown' hgrow hkl d0 d1 hb6
      go_wp2_with fail
      go_roundw
      case rel => exact ⟨k + 1, p.2 + 1, _, by go_num, rfl, by omega, St1.out hj, hO⟩
      case measure => simp [intOf]; omega
    go_wp2_with fail
    go_roundw
    case rel => exact ⟨k + 1, p.2 + 1, _, by go_num, rfl, by omega, St2.out hj, xab hown _, hkl.alloc _⟩
    case measure => simp [intOf]; omega
  obtain rfl : out.length = k := by omega
  obtain ⟨fi1, fi2⟩ := hinv.fin hof
  have Fi1 := xoo fi1
  have Fi2 := xoo fi2
  clear fi1 fi2
  have hsz := hkl.size
  by_cases hj : next ≤ 1114111
  · obtain ⟨va, vc, rfl⟩ := xac hown
    go_wp2_with (at_builtin; refine wpList_append_own _ rfl (.tmp 32) (.tmp 35) 151 rfl w1.heap.size 287 i0 _ 2 16 Tryz.underlying151 hi hz0 hz1 hz2 rfl (by decide) _ _ _ rfl (xab hown _) ⟨wr.heap.size, 0, none⟩ 1 1 [.int .i64 next, .int .i64 1114111] rfl rfl ?d1 ?d2 ?d3 ?d4 ?d5 ?_)
    case d2 => exact ⟨rfl, rfl⟩
    case d3 => unfold maxLen; omega
    case d4 => omega
    case d5 => omega
    intro v' w2 hown' hgrow _
    have hO : ROwn w1 w2 v' (ns ++ [(next, 1114111)]) := by
     refine ⟨?_, (hkl.alloc _).grown hgrow (fun b hb => Or.inr (xaa hown b hb))⟩
     rw [xag]
     simpa [cellsOf, encR, List.range_succ] using hown'
    clear hown hown' hgrow hkl
    go_wp2_with fail
    go_ret
    exact ⟨_, ns ++ [(next, 1114111)], rfl, Fi1.out hj, ⟨xai hO.1 hw1, hkw.trans hO.2⟩, by simp; omega⟩
  go_wp2_with fail
  go_ret
  first
   | exact ⟨_, ns, rfl, Fi2.out hj, ⟨xai hown hw1, hkw.trans hkl⟩, by omega⟩
   | exact ⟨_, rfl, ns, Fi2.out hj, ⟨xai hown hw1, hkw.trans hkl⟩, by omega⟩

theorem xiF (l : List (Int × Int)) (v : Value) (w : World) (h : RSl w v l) (hl : l.length ≤ 100000) :
 Calls Tryz.prog 131 #[v] w fun e w' => ∃ (out : List (Int × Int)) (x : Int) (ok : Bool), e = .returned (.tuple #[.int .i64 x, .bool ok]) ∧ IsOf l out ∧ (ok = true → out = [(x, x)]) ∧ (ok = false → x = 0 ∧ ∀ y, out ≠ [(y, y)]) ∧ xa (fun _ => False) w w' := by
 go_enter Tryz.func131, Tryz.ntmps131
 go_wp2_with fail
 refine (xcY l v _ h hl).mono ?_
 rintro e w1 ⟨u, out, rfl, hof, hown, hlo⟩
 have hS := hown.read (by omega) (xiN hof.1)
 obtain ⟨a, cap, rfl, hl1, hcl⟩ := hS.cells
 clear hS
 have hkw := hown.2
 clear hown
 by_cases h1 : out.length = 1
 · obtain ⟨p, rfl⟩ : ∃ p, out = [p] := List.length_eq_one_iff.1 h1
   obtain ⟨b, off, rfl, hcc⟩ := hcl (by simp)
   obtain ⟨c0, c1, _, _⟩ := hcc 0 p rfl
   clear hcc hcl h1
   simp only [List.length_cons, List.length_nil, Nat.zero_add, Nat.zero_mul, Nat.add_zero] at *
   by_cases hpq : p.1 = p.2
   · have hd : (p.1 != p.2) = false := by simp [hpq]
     have Hpq := xoo hpq
     clear hpq
     go_wp2_with fail
     go_quiet (fail)
     go_wp2_with fail
     go_ret2
     exact ⟨[p], p.1, true, rfl, hof, fun _ => by rw [show p = (p.1, p.1) from Prod.ext rfl Hpq.out.symm], (fun h => by cases h), hkw.drawN _⟩
   have hd : (p.1 != p.2) = true := by simp [hpq]
   have Hpq := xoo hpq
   clear hpq
   go_wp2_with fail
   go_quiet (fail)
   go_wp2_with fail
   go_ret2
   exact ⟨[p], 0, false, rfl, hof, (fun h => by cases h), fun _ => ⟨rfl, fun y e => Hpq.out (by have := List.cons.inj e; rw [this.1])⟩, hkw.drawN _⟩
 have hd : ((out.length : Int) != 1) = true := by simp; omega
 have Hn := xoo h1
 clear h1 hcl
 go_wp2_with fail
 go_quiet (fail)
 go_wp2_with fail
 go_ret2
 exact ⟨out, 0, false, rfl, hof, (fun h => by cases h), fun _ => ⟨rfl, fun y e => Hn.out (by rw [e]; rfl)⟩, hkw.drawN _⟩


theorem xgB (w : World) :
 Calls Tryz.prog 253 #[.int .u8 119] w fun e w' => ∃ u out, e = .returned (.tuple #[u, .bool true]) ∧ IsOf [(65, 90), (97, 122), (95, 95), (48, 57)] out ∧ ROwn w w' u out ∧ out.length ≤ 5 := by
 obtain ⟨i0, hi, hz0, hz1, hz2⟩ := info_parts xaO
 have hb : bits BinOp.or IntKind.u8 119 32 = 119 := by kernel_rfl
 go_enter Tryz.func253, Tryz.ntmps253
 go_wp2_with (at_builtin; refine wpList_append_own _ rfl (.tmp 13) (.tmp 17) 151 rfl w.heap.size 287 i0 _ 2 16 Tryz.underlying151 hi hz0 hz1 hz2 rfl (by decide) (.slice none 0 0) 0 [] rfl (World.ownsRow_nil _ _ _ _) ⟨w.heap.size, 0, none⟩ 3 3 [.int .i64 65, .int .i64 90, .int .i64 97, .int .i64 122, .int .i64 95, .int .i64 95] rfl rfl (by exact xan _ [_, _, _, _, _, _] _) ?c2 ?c3 ?c4 ?c5 ?_)
 case c2 => first | (intro u hu; simp at hu; rcases hu with rfl | rfl | rfl | rfl | rfl | rfl <;> rfl) | exact ⟨rfl, rfl, rfl, rfl, rfl, rfl⟩
 case c3 => unfold maxLen; omega
 case c4 => omega
 case c5 => simp
 intro v' w2 hown' hgrow' _
 have hk : xa (fun _ => False) w w2 := ((xa.refl _ _).alloc _).grown hgrow' (fun b hb => by cases hb)
 have ho3 : w2.ownsRow w.heap.size 287 2 v' 3 (cellsOf 2 encR [(65, 90), (97, 122), (95, 95)]) := by simpa [cellsOf, encR, List.range_succ] using hown'
 have hsz := hk.size
 obtain ⟨va, vc, rfl⟩ := xac ho3
 clear hown' hgrow'
 go_wp2_with (at_builtin; refine wpList_append_own _ rfl (.tmp 19) (.tmp 21) 151 rfl w.heap.size 287 i0 _ 2 16 Tryz.underlying151 hi hz0 hz1 hz2 rfl (by decide) _ 3 _ rfl (xab ho3 _) ⟨w2.heap.size, 0, none⟩ 1 1 [.int .i64 48, .int .i64 57] rfl rfl (by exact xan _ [_, _] _) ?d2 ?d3 ?d4 ?d5 ?_)
 case d2 => first | (intro u hu; simp at hu; rcases hu with rfl | rfl <;> rfl) | exact ⟨rfl, rfl⟩
 case d3 => unfold maxLen; omega
 case d4 => omega
 case d5 => simp; omega
 intro v'' w2' hown'' hgrow'' _
 have hr : RSl w2' v'' [(65, 90), (97, 122), (95, 95), (48, 57)] := ⟨SlOf.ofOwn (by simpa [cellsOf, encR, List.range_succ] using hown'') (by simp), by simp [in64]⟩
 have hk : xa (fun _ => False) w w2' := (hk.alloc _).grown hgrow'' (fun b hb => Or.inr (xaa ho3 b hb))
 clear hown'' hgrow'' ho3
 go_wp2_with fail
 refine (xcY [(65, 90), (97, 122), (95, 95), (48, 57)] _ _ hr (by simp)).mono ?_
 rintro e w3 ⟨u, out, rfl, hof, hown, hlo⟩
 simp only [List.length_cons, List.length_nil] at hlo
 go_wp2_with fail
 go_ret2
 exact ⟨u, out, rfl, hof, ⟨xai hown.1 hk.size, hk.trans hown.2⟩, by omega⟩
theorem xgD (w : World) :
 Calls Tryz.prog 253 #[.int .u8 100] w fun e w' => ∃ u out, e = .returned (.tuple #[u, .bool true]) ∧ IsOf [(48, 57)] out ∧ ROwn w w' u out ∧ out.length ≤ 5 := by
 obtain ⟨i0, hi, hz0, hz1, hz2⟩ := info_parts xaO
 have hb : bits BinOp.or IntKind.u8 100 32 = 100 := by kernel_rfl
 go_enter Tryz.func253, Tryz.ntmps253
 go_wp2_with (at_builtin; refine wpList_append_own _ rfl (.tmp 19) (.tmp 21) 151 rfl w.heap.size 287 i0 _ 2 16 Tryz.underlying151 hi hz0 hz1 hz2 rfl (by decide) (.slice none 0 0) 0 [] rfl (World.ownsRow_nil _ _ _ _) ⟨w.heap.size, 0, none⟩ 1 1 [.int .i64 48, .int .i64 57] rfl rfl (by exact xan _ [_, _] _) ?c2 ?c3 ?c4 ?c5 ?_)
 case c2 => first | (intro u hu; simp at hu; rcases hu with rfl | rfl <;> rfl) | exact ⟨rfl, rfl⟩
 case c3 => unfold maxLen; omega
 case c4 => omega
 case c5 => simp
 intro v' w2 hown' hgrow' _
 have hr : RSl w2 v' [(48, 57)] := ⟨SlOf.ofOwn (by simpa [cellsOf, encR, List.range_succ] using hown') (by simp), by simp [in64]⟩
 have hk : xa (fun _ => False) w w2 := ((xa.refl _ _).alloc _).grown hgrow' (fun b hb => by cases hb)
 clear hown' hgrow'
 go_wp2_with fail
 refine (xcY [(48, 57)] _ _ hr (by simp)).mono ?_
 rintro e w3 ⟨u, out, rfl, hof, hown, hlo⟩
 simp only [List.length_cons, List.length_nil] at hlo
 go_wp2_with fail
 go_ret2
 exact ⟨u, out, rfl, hof, ⟨xai hown.1 hk.size, hk.trans hown.2⟩, by omega⟩
theorem xgC (w : World) :
 Calls Tryz.prog 253 #[.int .u8 115] w fun e w' => ∃ u out, e = .returned (.tuple #[u, .bool true]) ∧ IsOf [(9, 13), (32, 32)] out ∧ ROwn w w' u out ∧ out.length ≤ 5 := by
 obtain ⟨i0, hi, hz0, hz1, hz2⟩ := info_parts xaO
 have hb : bits BinOp.or IntKind.u8 115 32 = 115 := by kernel_rfl
 go_enter Tryz.func253, Tryz.ntmps253
 go_wp2_with (at_builtin; refine wpList_append_own _ rfl (.tmp 23) (.tmp 26) 151 rfl w.heap.size 287 i0 _ 2 16 Tryz.underlying151 hi hz0 hz1 hz2 rfl (by decide) (.slice none 0 0) 0 [] rfl (World.ownsRow_nil _ _ _ _) ⟨w.heap.size, 0, none⟩ 2 2 [.int .i64 9, .int .i64 13, .int .i64 32, .int .i64 32] rfl rfl (by exact xan _ [_, _, _, _] _) ?c2 ?c3 ?c4 ?c5 ?_)
 case c2 => first | (intro u hu; simp at hu; rcases hu with rfl | rfl | rfl | rfl <;> rfl) | exact ⟨rfl, rfl, rfl, rfl⟩
 case c3 => unfold maxLen; omega
 case c4 => omega
 case c5 => simp
 intro v' w2 hown' hgrow' _
 have hr : RSl w2 v' [(9, 13), (32, 32)] := ⟨SlOf.ofOwn (by simpa [cellsOf, encR, List.range_succ] using hown') (by simp), by simp [in64]⟩
 have hk : xa (fun _ => False) w w2 := ((xa.refl _ _).alloc _).grown hgrow' (fun b hb => by cases hb)
 clear hown' hgrow'
 go_wp2_with fail
 refine (xcY [(9, 13), (32, 32)] _ _ hr (by simp)).mono ?_
 rintro e w3 ⟨u, out, rfl, hof, hown, hlo⟩
 simp only [List.length_cons, List.length_nil] at hlo
 go_wp2_with fail
 go_ret2
 exact ⟨u, out, rfl, hof, ⟨xai hown.1 hk.size, hk.trans hown.2⟩, by omega⟩
theorem xhz (w : World) :
 Calls Tryz.prog 253 #[.int .u8 87] w fun e w' => ∃ u out, e = .returned (.tuple #[u, .bool true]) ∧ xe5 [(65, 90), (97, 122), (95, 95), (48, 57)] out ∧ ROwn w w' u out ∧ out.length ≤ 5 := by
 obtain ⟨i0, hi, hz0, hz1, hz2⟩ := info_parts xaO
 have hb : bits BinOp.or IntKind.u8 87 32 = 119 := by kernel_rfl
 go_enter Tryz.func253, Tryz.ntmps253
 go_wp2_with (at_builtin; refine wpList_append_own _ rfl (.tmp 13) (.tmp 17) 151 rfl w.heap.size 287 i0 _ 2 16 Tryz.underlying151 hi hz0 hz1 hz2 rfl (by decide) (.slice none 0 0) 0 [] rfl (World.ownsRow_nil _ _ _ _) ⟨w.heap.size, 0, none⟩ 3 3 [.int .i64 65, .int .i64 90, .int .i64 97, .int .i64 122, .int .i64 95, .int .i64 95] rfl rfl (by exact xan _ [_, _, _, _, _, _] _) ?c2 ?c3 ?c4 ?c5 ?_)
 case c2 => first | (intro u hu; simp at hu; rcases hu with rfl | rfl | rfl | rfl | rfl | rfl <;> rfl) | exact ⟨rfl, rfl, rfl, rfl, rfl, rfl⟩
 case c3 => unfold maxLen; omega
 case c4 => omega
 case c5 => simp
 intro v' w2 hown' hgrow' _
 have hk : xa (fun _ => False) w w2 := ((xa.refl _ _).alloc _).grown hgrow' (fun b hb => by cases hb)
 have ho3 : w2.ownsRow w.heap.size 287 2 v' 3 (cellsOf 2 encR [(65, 90), (97, 122), (95, 95)]) := by simpa [cellsOf, encR, List.range_succ] using hown'
 have hsz := hk.size
 obtain ⟨va, vc, rfl⟩ := xac ho3
 clear hown' hgrow'
 go_wp2_with (at_builtin; refine wpList_append_own _ rfl (.tmp 19) (.tmp 21) 151 rfl w.heap.size 287 i0 _ 2 16 Tryz.underlying151 hi hz0 hz1 hz2 rfl (by decide) _ 3 _ rfl (xab ho3 _) ⟨w2.heap.size, 0, none⟩ 1 1 [.int .i64 48, .int .i64 57] rfl rfl (by exact xan _ [_, _] _) ?d2 ?d3 ?d4 ?d5 ?_)
 case d2 => first | (intro u hu; simp at hu; rcases hu with rfl | rfl <;> rfl) | exact ⟨rfl, rfl⟩
 case d3 => unfold maxLen; omega
 case d4 => omega
 case d5 => simp; omega
 intro v'' w2' hown'' hgrow'' _
 have hr : RSl w2' v'' [(65, 90), (97, 122), (95, 95), (48, 57)] := ⟨SlOf.ofOwn (by simpa [cellsOf, encR, List.range_succ] using hown'') (by simp), by simp [in64]⟩
 have hk : xa (fun _ => False) w w2' := (hk.alloc _).grown hgrow'' (fun b hb => Or.inr (xaa ho3 b hb))
 clear hown'' hgrow'' ho3
 go_wp2_with fail
 refine (xdF [(65, 90), (97, 122), (95, 95), (48, 57)] _ _ hr (by simp)).mono ?_
 rintro e w3 ⟨u, out, rfl, hof, hown, hlo⟩
 simp only [List.length_cons, List.length_nil] at hlo
 go_wp2_with fail
 go_ret2
 exact ⟨u, out, rfl, hof, ⟨xai hown.1 hk.size, hk.trans hown.2⟩, by omega⟩
theorem xhB (w : World) :
 Calls Tryz.prog 253 #[.int .u8 68] w fun e w' => ∃ u out, e = .returned (.tuple #[u, .bool true]) ∧ xe5 [(48, 57)] out ∧ ROwn w w' u out ∧ out.length ≤ 5 := by
 obtain ⟨i0, hi, hz0, hz1, hz2⟩ := info_parts xaO
 have hb : bits BinOp.or IntKind.u8 68 32 = 100 := by kernel_rfl
 go_enter Tryz.func253, Tryz.ntmps253
 go_wp2_with (at_builtin; refine wpList_append_own _ rfl (.tmp 19) (.tmp 21) 151 rfl w.heap.size 287 i0 _ 2 16 Tryz.underlying151 hi hz0 hz1 hz2 rfl (by decide) (.slice none 0 0) 0 [] rfl (World.ownsRow_nil _ _ _ _) ⟨w.heap.size, 0, none⟩ 1 1 [.int .i64 48, .int .i64 57] rfl rfl (by exact xan _ [_, _] _) ?c2 ?c3 ?c4 ?c5 ?_)
 case c2 => first | (intro u hu; simp at hu; rcases hu with rfl | rfl <;> rfl) | exact ⟨rfl, rfl⟩
 case c3 => unfold maxLen; omega
 case c4 => omega
 case c5 => simp
 intro v' w2 hown' hgrow' _
 have hr : RSl w2 v' [(48, 57)] := ⟨SlOf.ofOwn (by simpa [cellsOf, encR, List.range_succ] using hown') (by simp), by simp [in64]⟩
 have hk : xa (fun _ => False) w w2 := ((xa.refl _ _).alloc _).grown hgrow' (fun b hb => by cases hb)
 clear hown' hgrow'
 go_wp2_with fail
 refine (xdF [(48, 57)] _ _ hr (by simp)).mono ?_
 rintro e w3 ⟨u, out, rfl, hof, hown, hlo⟩
 simp only [List.length_cons, List.length_nil] at hlo
 go_wp2_with fail
 go_ret2
 exact ⟨u, out, rfl, hof, ⟨xai hown.1 hk.size, hk.trans hown.2⟩, by omega⟩
theorem xhA (w : World) :
 Calls Tryz.prog 253 #[.int .u8 83] w fun e w' => ∃ u out, e = .returned (.tuple #[u, .bool true]) ∧ xe5 [(9, 13), (32, 32)] out ∧ ROwn w w' u out ∧ out.length ≤ 5 := by
 obtain ⟨i0, hi, hz0, hz1, hz2⟩ := info_parts xaO
 have hb : bits BinOp.or IntKind.u8 83 32 = 115 := by kernel_rfl
 go_enter Tryz.func253, Tryz.ntmps253
 go_wp2_with (at_builtin; refine wpList_append_own _ rfl (.tmp 23) (.tmp 26) 151 rfl w.heap.size 287 i0 _ 2 16 Tryz.underlying151 hi hz0 hz1 hz2 rfl (by decide) (.slice none 0 0) 0 [] rfl (World.ownsRow_nil _ _ _ _) ⟨w.heap.size, 0, none⟩ 2 2 [.int .i64 9, .int .i64 13, .int .i64 32, .int .i64 32] rfl rfl (by exact xan _ [_, _, _, _] _) ?c2 ?c3 ?c4 ?c5 ?_)
 case c2 => first | (intro u hu; simp at hu; rcases hu with rfl | rfl | rfl | rfl <;> rfl) | exact ⟨rfl, rfl, rfl, rfl⟩
 case c3 => unfold maxLen; omega
 case c4 => omega
 case c5 => simp
 intro v' w2 hown' hgrow' _
 have hr : RSl w2 v' [(9, 13), (32, 32)] := ⟨SlOf.ofOwn (by simpa [cellsOf, encR, List.range_succ] using hown') (by simp), by simp [in64]⟩
 have hk : xa (fun _ => False) w w2 := ((xa.refl _ _).alloc _).grown hgrow' (fun b hb => by cases hb)
 clear hown' hgrow'
 go_wp2_with fail
 refine (xdF [(9, 13), (32, 32)] _ _ hr (by simp)).mono ?_
 rintro e w3 ⟨u, out, rfl, hof, hown, hlo⟩
 simp only [List.length_cons, List.length_nil] at hlo
 go_wp2_with fail
 go_ret2
 exact ⟨u, out, rfl, hof, ⟨xai hown.1 hk.size, hk.trans hown.2⟩, by omega⟩
def amg (al : List UInt8) (r : Int) : Bool := decide (0 ≤ r) && decide (r < 128) && decide (0 ≤ Lib.indexByte al r.toNat.toUInt8)
theorem xcF (al : ByteArray) (r : Int) (w : World) : Calls Tryz.prog 238 #[.string al, .int .i64 r] w fun e w' => e = .returned (.bool (amg al.data.toList r)) ∧ w = w' := by
 by_cases h0 : 0 ≤ r
 · have g0 : decide (0 ≤ r) = true := by simpa using h0
   by_cases h1 : r < 128
   · have g1 : decide (r < 128) = true := by simpa using h1
     have HI := xoo (fun W => Tryz.strings_IndexByte al r W)
     by_cases h2 : 0 ≤ Lib.indexByte al.data.toList r.toNat.toUInt8
     · have e : amg al.data.toList r = true := by simp [amg, h0, h1, h2]
       rw [e]
       generalize Lib.indexByte al.data.toList r.toNat.toUInt8 = q at *
       go_enter Tryz.func238, Tryz.ntmps238
       go_wp2_with fail
       refine (HI.out _).mono ?_
       rintro e w1 ⟨rfl, rfl⟩
       go_wp2_with fail
       go_ret
       exact ⟨rfl, rfl⟩
     have e : amg al.data.toList r = false := by simp [amg, h2]
     have g2 : decide (0 ≤ Lib.indexByte al.data.toList r.toNat.toUInt8) = false := by simpa using h2
     rw [e]
     generalize Lib.indexByte al.data.toList r.toNat.toUInt8 = q at *
     go_enter Tryz.func238, Tryz.ntmps238
     go_wp2_with fail
     refine (HI.out _).mono ?_
     rintro e w1 ⟨rfl, rfl⟩
     go_wp2_with fail
     go_ret
     exact ⟨rfl, rfl⟩
   have e : amg al.data.toList r = false := by simp [amg, h1]
   have g1 : decide (r < 128) = false := by simpa using h1
   rw [e]
   go_enter Tryz.func238, Tryz.ntmps238
   go_wp2_with fail
   go_ret
   exact ⟨rfl, rfl⟩
 have e : amg al.data.toList r = false := by simp [amg, h0]
 have g0 : decide (0 ≤ r) = false := by simpa using h0
 rw [e]
 go_enter Tryz.func238, Tryz.ntmps238
 go_wp2_with fail
 go_ret
 exact ⟨rfl, rfl⟩
theorem one_any (r : Int) (w : World) : Calls Tryz.prog 235 #[.int .i64 r] w fun e w' => e = .returned (.slice (some ⟨w.heap.size, 0, none⟩) 1 1) ∧ ROwn w w' (.slice (some ⟨w.heap.size, 0, none⟩) 1 1) [(r, r)] := by
 go_enter Tryz.func235, Tryz.ntmps235
 go_wp2_with fail
 go_ret
 refine ⟨rfl, ⟨rfl, Or.inr ⟨w.heap.size, 1, _, rfl, Nat.le_refl _, heap_alloc_new w _, Nat.le_refl _, by unfold maxLen; decide, rfl, rfl⟩⟩, (xa.refl _ _).alloc _⟩
end Go.Proofs.YtbifklibdkjbeaaGreatDoor
