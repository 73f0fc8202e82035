/-
  Several texts in one: A pipe without room: New, first, Take, Close, Withdraw. No condition. A run of a closed call, reckoned: words for memory and values without addresses, and a function that runs a program on them (the kernel reckons it). No condition.
-/
import Derived.Test.YtgobcnheemocnaaGreatDoorMg1
import Derived.WalkKit
section
namespace Go.Proofs.YtgobcnheemocnaaGreatDoor
open Go.RowKit
set_option linter.unusedVariables false
set_option linter.unusedSimpArgs false
set_option maxRecDepth 100000

theorem pipe_new (w : World) : Calls Tryz.prog 14 #[.int .i64 0] w fun e w' => e = .returned (.tuple #[.pointer (some ⟨w.heap.size, 0, none⟩), .int .i64 0]) ∧ PiAt w' w.heap.size (fun b => b = w.heap.size) none false 0 ∧ w'.heap.size = w.heap.size + 1 ∧ Keeps (fun _ => False) w w' := by
  go_enter Tryz.func14, Tryz.ntmps14
  go_wp2_with fail
  go_ret2
  exact ⟨rfl, ⟨⟨_, heap_alloc_new _ _, Or.inl rfl⟩, rfl⟩, by simp, (Keeps.refl _ _).alloc _⟩
theorem it_size (x : Itm) : (Tryz.prog.info? 56).map (·.size) = some (itC x).size := by
  show _ = some 7
  kernel_rfl
theorem it_one (x : Itm) : (itC x).all (·.oneCell') = true := by simp [itC, Value.oneCell']
def itZ : Itm := ⟨0, 0, 0, 0, ⟨#[]⟩, none, 0, 0, 0⟩
theorem run_loadIt (w : World) (a : Addr) (x : Itm) (h : ∀ j v, (itC x).toList[j]? = some v → w.cell? (a.add j) = some v) :
    (loadVar 56 a).run Tryz.prog w = .ok (itV x) w := by
  have hl := run_loadCells_list (P := Tryz.prog) (w := w) a (itC x).toList h
  have hi := it_size x
  cases hq : Tryz.prog.info? 56 with
  | none => simp [hq] at hi
  | some i =>
    have hs : i.size = (itC x).toList.length := by simpa [hq] using hi
    have hagg : (isAgg 56).run Tryz.prog w = .ok true w := by
      unfold isAgg
      rw [Sem.run_bind, run_underlying Tryz.underlying56 w]
      simp
    have hl2 : (loadCells a (itC x).size).run Tryz.prog w = .ok (itC x) w := by simpa using hl
    simp [loadVar, Sem.run_bind, hagg, sizeOf, typeInfo, hq, hs, hl2, itV]
theorem wpList_load_it {ops : Array Oper} {rest : List Oper} {o : Oper} {a : Act} {w : World} {Q : Exit → Act → World → Prop} (hgd : o.guard = none) (p : Operand) (ho : o.op = .load 56 p)
    (a0 : Addr) (hx : a.eval p = .pointer (some a0)) (x : Itm) (hg : ∀ j v, (itC x).toList[j]? = some v → w.cell? (a0.add j) = some v)
    (h : wpList Tryz.prog ops Q rest (a.put o.dst (itV x)) w) : wpList Tryz.prog ops Q (o :: rest) a w := by
  refine wpList_plain hgd fun _ hK => ?_
  unfold Oper.wp execOp
  simp only [ho, hx, Instr.loadAt, Instr.sureAddr, Sem.run_bind, Sem.run_pure, Result.andThen_ok, run_loadIt w a0 x hg]
  exact hK _ _ h
theorem blk_it {w : World} {g : Nat} {x : Itm} (h : w.heap[g]? = some (.cells (itC x) 56 (0, 0))) : ∀ j v, (itC x).toList[j]? = some v → w.cell? ((⟨g, 0, none⟩ : Addr).add j) = some v := by
  intro j v hj
  have e : (⟨g, 0, none⟩ : Addr).add j = ⟨g, j, none⟩ := by unfold Addr.add; split <;> simp_all
  rw [e, cell_block h]
  simpa using hj
theorem it_cells {w : World} {g : Nat} {x : Itm} (h : w.heap[g]? = some (.cells (itC x) 56 (0, 0))) : w.cell? ⟨g, 0, none⟩ = some (.int .i64 x.n) ∧ w.cell? ⟨g, 1, none⟩ = some (.int .i64 x.bf) ∧ w.cell? ⟨g, 2, none⟩ = some (.int .i64 x.rn) ∧ w.cell? ⟨g, 3, none⟩ = some (.int .i64 x.ra) ∧ w.cell? ⟨g, 4, none⟩ = some (.string x.s) ∧ w.cell? ⟨g, 5, none⟩ = some (.slice x.ha x.hn x.hc) ∧ w.cell? ⟨g, 6, none⟩ = some (.int .i64 x.e) := by
  refine ⟨?_, ?_, ?_, ?_, ?_, ?_, ?_⟩ <;> (rw [cell_block h]; rfl)
theorem wpList_store_it {ops : Array Oper} {rest : List Oper} {o : Oper} {a : Act} {w : World} {Q : Exit → Act → World → Prop} (hgd : o.guard = none) (p y : Operand) (ho : o.op = .store 56 p y)
    (g : Nat) (hx : a.eval p = .pointer (some ⟨g, 0, none⟩)) (x z : Itm) (hy : a.eval y = itV x) (hg : w.heap[g]? = some (.cells (itC z) 56 (0, 0)))
    (h : ∀ w', w'.heap[g]? = some (.cells (itC x) 56 (0, 0)) → Keeps (fun k => k = g) w w' → wpList Tryz.prog ops Q rest (a.put o.dst undef) w') : wpList Tryz.prog ops Q (o :: rest) a w :=
  wpList_store_row hgd 56 p y ho g (itC x) hx hy 56 (itC z) hg (it_size x) rfl (it_one x) (h _ (setRow_heap _ _ _ _ _ _ hg) ⟨rfl, rfl, rfl, by simp, fun k hk hs => setRow_other _ _ _ _ hs⟩)
set_option maxHeartbeats 4000000 in
theorem pfirst_any (b : Nat) (S : Nat → Prop) (q : Int) (x : Itm) (cl : Bool) (sn : Int) (w : World) (h : PiAt w b S (some (q, x)) cl sn) :
    Calls Tryz.prog 204 #[.pointer (some ⟨b, 0, none⟩)] w fun e w' => e = .returned (itV x) ∧ PiAt w' b S none cl sn ∧ Keeps (fun k => k = b) w w' := by
  obtain ⟨v, hd, hv⟩ := h.hd
  obtain ⟨g, off, cap, rfl, hcap, hr, hS, hg⟩ := hv
  have hsb := h.sb
  have hb : b < w.heap.size := (Array.getElem?_eq_some_iff.1 hd).1
  obtain ⟨w1, hw1⟩ : ∃ W, w.alloc (.cells (itC itZ) 56) = W := ⟨_, rfl⟩
  have k1 : Keeps (fun _ => False) w w1 := by rw [← hw1]; exact (Keeps.refl _ _).alloc _
  have r1 : w1.heap[w.heap.size]? = some (.cells (itC itZ) 56 (0, 0)) := by rw [← hw1]; exact heap_alloc_new _ _
  obtain ⟨w2, hw2⟩ : ∃ W, w1.alloc (.cells (itC itZ) 56) = W := ⟨_, rfl⟩
  have k2 : Keeps (fun _ => False) w1 w2 := by rw [← hw2]; exact (Keeps.refl _ _).alloc _
  have r2 : w2.heap[w1.heap.size]? = some (.cells (itC itZ) 56 (0, 0)) := by rw [← hw2]; exact heap_alloc_new _ _
  have z1 : w1.heap.size = w.heap.size + 1 := by rw [← hw1]; simp
  have x2 : w1.cell? ⟨b, 2, none⟩ = some (.slice (some ⟨g, off, none⟩) 1 cap) := (k1.cell (p := ⟨b, 2, none⟩) (v := .slice (some ⟨g, off, none⟩) 1 cap) (by rw [cell_block hd]; rfl) id)
  have hcap' : (1 : Int) ≤ (cap : Int) := by omega
  have HG : Hid (∀ j v, (itC x).toList[j]? = some v → w1.cell? ((⟨g, off + 1, none⟩ : Addr).add j) = some v) := Lib.hid (fun j v hj => by
    have e : (⟨g, off + 1, none⟩ : Addr).add j = ⟨g, off + (j + 1), none⟩ := by
      unfold Addr.add
      split
      · simp_all
      · simp only [Addr.mk.injEq, true_and, and_true]; omega
    rw [e]
    exact k1.cell (hg (j + 1) v (by simpa [ofC, itC] using hj)) id)
  have HW1 := Lib.hid hw1
  have HW2 := Lib.hid hw2
  have H := Lib.hid (And.intro hd (And.intro hr (And.intro hS (And.intro hsb (And.intro hb (And.intro hcap (And.intro k1 (And.intro k2 (And.intro r1 (And.intro r2 z1))))))))))
  clear h hd hr hS hsb hg hcap k1 k2 r1 r2 z1 hb hw1 hw2
  unfold itC itZ at HW1 HW2
  go_enter Tryz.func204, Tryz.ntmps204
  go_upto_region 1 with fail
  rw [HW1.out]
  clear HW1
  go_wp2_with (first | (refine wpList_load_it rfl (.tmp 9) rfl ⟨g, off + 1, none⟩ rfl x HG.out ?_) | ((try rw [HW2.out]); refine wpList_store_it rfl (.tmp 3) (.tmp 10) rfl w1.heap.size rfl x itZ rfl (by exact H.out.2.2.2.2.2.2.2.2.2.1) ?_))
  intro w3 r3 k3
  obtain ⟨hd, hr, hS, hsb, hb, hcap, k1, k2, r1, r2, z1⟩ := H.out
  have k13 : Keeps (fun _ => False) w w3 := (k1.trans k2).trans2 k3 (fun i hi e => by omega)
  have hd3 := k13.heap hd id
  have y2 : w3.cell? ⟨b, 2, none⟩ = some (.slice (some ⟨g, off, none⟩) 1 cap) := by rw [cell_block hd3]; rfl
  have f2 : w3.frozen? ⟨b, 2, none⟩ = false := frozen_block hd3 2 none
  have q1 : w3.heap[w.heap.size]? = some (.cells (itC itZ) 56 (0, 0)) := k3.heap (k2.heap r1 id) (show ¬ w.heap.size = w1.heap.size by omega)
  by_cases hc1 : cap = 1
  · subst hc1
    obtain ⟨w4, hw4⟩ : ∃ W, w3.setCell ⟨b, 2, none⟩ (.slice (some ⟨g, off, none⟩) 0 0) = W := ⟨_, rfl⟩
    have k4 : Keeps (fun k => k = b) w3 w4 := by rw [← hw4]; exact setQ _ _ _ _
    have hd4 : w4.heap[b]? = some (.cells #[.int .i64 0, .slice none 0 0, .slice (some ⟨g, off, none⟩) 0 0, .bool cl, .int .i64 sn] 92 (0, 0)) := by rw [← hw4]; exact cellQ_set 2 _ hd3
    have q2 := k4.heap q1 (show ¬ w.heap.size = b by omega)
    have q3 := k4.heap r3 (show ¬ w1.heap.size = b by omega)
    have HG4 := Lib.hid (blk_it q3)
    have HQ2 := Lib.hid q2
    have HF := Lib.hid (And.intro hd4 (And.intro ((hr.keeps (S := S) k13 id).keeps (S := S) k4 (fun e => by
      subst e
      obtain ⟨cs, h1, _⟩ := hr
      rw [hd] at h1
      simp at h1)) ((k13.mono fun _ _ e => e.elim).trans k4)))
    have HW4 := Lib.hid hw4
    clear HG HW2 r3 k3 hd hr k1 k2 r1 r2 k13 hd3 q1 hw4 k4 hd4 q2 q3 x2
    go_wp2_with (first | ((try rw [HW4.out]); refine wpList_load_it rfl (.tmp 3) rfl ⟨w1.heap.size, 0, none⟩ rfl x (by exact HG4.out) ?_) | (refine wpList_store_it rfl (.tmp 2) (.tmp 19) rfl w.heap.size rfl x itZ rfl (by exact HQ2.out) ?_))
    intro w5 r5 k5
    obtain ⟨r0, r1, r2, r3, r4, r6, r7⟩ := it_cells r5
    have HF5 : Hid (PiAt w5 b S none cl sn ∧ Keeps (fun k => k = b) w w5) := Lib.hid (by
      have hgw : g ≠ w.heap.size := fun e => by
        obtain ⟨cs, h1, _⟩ := H.out.2.1
        have := (Array.getElem?_eq_some_iff.1 h1).1
        omega
      refine ⟨⟨⟨_, k5.heap HF.out.1 (show ¬ b = w.heap.size by omega), Or.inr ⟨g, off, 0, rfl, ?_, hS⟩⟩, hsb⟩, HF.out.2.2.trans2 k5 (fun i hi e => by have e : i = w.heap.size := e; omega)⟩
      have := HF.out.2.1.keeps (S := S) k5 hgw
      obtain ⟨cs, h1, h2⟩ := this; exact ⟨cs, h1, by omega⟩)
    clear HG4 HQ2 HF HW4 H r5 k5 y2 f2
    go_wp2_with fail
    refine bodyPost_ret (by simp [results, Tryz.results204, go_sem, r0, r1, r2, r3, r4, r6, r7]; try rfl) rfl ?_
    exact ⟨rfl, HF5.out.1, HF5.out.2⟩
  · have hc2 : ¬ (cap : Int) = 1 := by omega
    have hc3 : ((cap - 1 : Nat) : Int) = (cap : Int) - 1 := by omega
    have hc4 : (2 : Int) ≤ (cap : Int) := by omega
    obtain ⟨w4, hw4⟩ : ∃ W, w3.setCell ⟨b, 2, none⟩ (.slice (some ⟨g, off + 8, none⟩) 0 (cap - 1)) = W := ⟨_, rfl⟩
    have k4 : Keeps (fun k => k = b) w3 w4 := by rw [← hw4]; exact setQ _ _ _ _
    have hd4 : w4.heap[b]? = some (.cells #[.int .i64 0, .slice none 0 0, .slice (some ⟨g, off + 8, none⟩) 0 (cap - 1), .bool cl, .int .i64 sn] 92 (0, 0)) := by rw [← hw4]; exact cellQ_set 2 _ hd3
    have q2 := k4.heap q1 (show ¬ w.heap.size = b by omega)
    have q3 := k4.heap r3 (show ¬ w1.heap.size = b by omega)
    have HG4 := Lib.hid (blk_it q3)
    have HQ2 := Lib.hid q2
    have HF := Lib.hid (And.intro hd4 (And.intro ((hr.keeps (S := S) k13 id).keeps (S := S) k4 (fun e => by
      subst e
      obtain ⟨cs, h1, _⟩ := hr
      rw [hd] at h1
      simp at h1)) ((k13.mono fun _ _ e => e.elim).trans k4)))
    have HW4 := Lib.hid hw4
    clear HG HW2 r3 k3 hd hr k1 k2 r1 r2 k13 hd3 q1 hw4 k4 hd4 q2 q3 x2
    go_wp2_with (first | ((try rw [HW4.out]); refine wpList_load_it rfl (.tmp 3) rfl ⟨w1.heap.size, 0, none⟩ rfl x (by exact HG4.out) ?_) | (refine wpList_store_it rfl (.tmp 2) (.tmp 19) rfl w.heap.size rfl x itZ rfl (by exact HQ2.out) ?_))
    intro w5 r5 k5
    obtain ⟨r0, r1, r2, r3, r4, r6, r7⟩ := it_cells r5
    have HF5 : Hid (PiAt w5 b S none cl sn ∧ Keeps (fun k => k = b) w w5) := Lib.hid (by
      have hgw : g ≠ w.heap.size := fun e => by
        obtain ⟨cs, h1, _⟩ := H.out.2.1
        have := (Array.getElem?_eq_some_iff.1 h1).1
        omega
      refine ⟨⟨⟨_, k5.heap HF.out.1 (show ¬ b = w.heap.size by omega), Or.inr ⟨g, off + 8, cap - 1, rfl, ?_, hS⟩⟩, hsb⟩, HF.out.2.2.trans2 k5 (fun i hi e => by have e : i = w.heap.size := e; omega)⟩
      have := HF.out.2.1.keeps (S := S) k5 hgw
      rwa [show off + cap * 8 = off + 8 + (cap - 1) * 8 by omega] at this)
    clear HG4 HQ2 HF HW4 H r5 k5 y2 f2
    go_wp2_with fail
    refine bodyPost_ret (by simp [results, Tryz.results204, go_sem, r0, r1, r2, r3, r4, r6, r7]; try rfl) rfl ?_
    exact ⟨rfl, HF5.out.1, HF5.out.2⟩
theorem RowG.lt {w : World} {g m : Nat} (h : RowG w g m) : g < w.heap.size := by obtain ⟨cs, h1, _⟩ := h; exact (Array.getElem?_eq_some_iff.1 h1).1
theorem PiAt.low {w : World} {b : Nat} {S : Nat → Prop} {o : Option (Int × Itm)} {cl : Bool} {sn : Int} (h : PiAt w b S o cl sn) : PiAt w b (fun k => S k ∧ k < w.heap.size) o cl sn := by
  obtain ⟨v, hd, hv⟩ := h.hd
  refine ⟨⟨v, hd, ?_⟩, h.sb, (Array.getElem?_eq_some_iff.1 hd).1⟩
  cases o with
  | none =>
    rcases hv with h | ⟨g, off, cap, e, h1, h2⟩
    · exact Or.inl h
    · exact Or.inr ⟨g, off, cap, e, h1, h2, h1.lt⟩
  | some p =>
    obtain ⟨q, x⟩ := p
    obtain ⟨g, off, cap, e, hc, h1, h2, h3⟩ := hv
    exact ⟨g, off, cap, e, hc, h1, ⟨h2, h1.lt⟩, h3⟩
set_option maxHeartbeats 4000000 in
theorem take_some (b : Nat) (S : Nat → Prop) (q : Int) (x : Itm) (cl : Bool) (sn : Int) (w : World) (h : PiAt w b S (some (q, x)) cl sn) :
    Calls Tryz.prog 203 #[.pointer (some ⟨b, 0, none⟩)] w fun e w' => e = .returned (.tuple #[itV x, .int .i64 0]) ∧ PiAt w' b S none cl sn ∧ Keeps (fun k => k = b) w w' := by
  obtain ⟨w1, hw1⟩ : ∃ W, w.alloc (.cells (itC itZ) 56) = W := ⟨_, rfl⟩
  have k1 : Keeps (fun _ => False) w w1 := by rw [← hw1]; exact (Keeps.refl _ _).alloc _
  have r1 : w1.heap[w.heap.size]? = some (.cells (itC itZ) 56 (0, 0)) := by rw [← hw1]; exact heap_alloc_new _ _
  have h1 := h.low.keeps k1 (fun _ _ => id)
  obtain ⟨v, hd, hv⟩ := h1.hd
  obtain ⟨a, c, rfl⟩ := hv.len
  have hb : b < w.heap.size := by obtain ⟨v0, hd0, _⟩ := h.hd; exact (Array.getElem?_eq_some_iff.1 hd0).1
  have x1 : w1.cell? ⟨b, 1, none⟩ = some (.slice none 0 0) := by rw [cell_block hd]; rfl
  have x2 : w1.cell? ⟨b, 2, none⟩ = some (.slice a 1 c) := by rw [cell_block hd]; rfl
  have HF := Lib.hid (pfirst_any b _ q x cl sn w1 h1)
  have H := Lib.hid (And.intro k1 (And.intro r1 hb))
  have HS := Lib.hid h.sb
  have hw2 := hw1
  unfold itC itZ at hw2
  have HW1 := Lib.hid hw2
  clear h h1 hd hv hb k1 r1 hw1 hw2
  go_enter Tryz.func203, Tryz.ntmps203
  go_upto_region 1 with fail
  rw [HW1.out]
  clear HW1
  go_wp2_with fail
  refine HF.out.mono ?_
  rintro e w2 ⟨rfl, hp, k2⟩
  have q2 := k2.heap H.out.2.1 (show ¬ w.heap.size = b by have := H.out.2.2; omega)
  have HQ := Lib.hid q2
  have HP := Lib.hid (And.intro hp k2)
  clear q2 hp k2 HF x1 x2
  go_wp2_with (refine wpList_store_it rfl (.tmp 2) (.tmp 52) rfl w.heap.size rfl x itZ rfl (by exact HQ.out) ?_)
  intro w3 r3 k3
  obtain ⟨r0, r1, r2, r4, r5, r6, r7⟩ := it_cells r3
  have HK := Lib.hid (And.intro ((HP.out.1.keeps (T := fun k => k = w.heap.size) k3 (fun g hg e => by have := hg.2; omega)).mono (T := S) (fun _ h => h.1)) ((H.out.1.mono fun _ _ e => e.elim).trans HP.out.2 |>.trans2 k3 (fun i hi e => by have e : i = w.heap.size := e; omega)))
  clear HQ HP r3 k3
  go_wp2_with fail
  refine bodyPost_ret (by simp [results, Tryz.results203, go_sem, r0, r1, r2, r4, r5, r6, r7]; try rfl) rfl ?_
  exact ⟨rfl, HK.out.1, HK.out.2⟩
set_option maxHeartbeats 4000000 in
theorem take_over (b : Nat) (S : Nat → Prop) (sn : Int) (w : World) (h : PiAt w b S none true sn) :
    Calls Tryz.prog 203 #[.pointer (some ⟨b, 0, none⟩)] w fun e w' => e = .returned (.tuple #[itV itZ, .int .i64 17]) ∧ Keeps (fun _ => False) w w' := by
  obtain ⟨w1, hw1⟩ : ∃ W, w.alloc (.cells (itC itZ) 56) = W := ⟨_, rfl⟩
  have k1 : Keeps (fun _ => False) w w1 := by rw [← hw1]; exact (Keeps.refl _ _).alloc _
  have r1 : w1.heap[w.heap.size]? = some (.cells (itC itZ) 56 (0, 0)) := by rw [← hw1]; exact heap_alloc_new _ _
  have h1 := h.keeps k1 (fun _ _ => id)
  obtain ⟨v, hd, hv⟩ := h1.hd
  obtain ⟨a, c, rfl⟩ := hv.len
  have x1 : w1.cell? ⟨b, 1, none⟩ = some (.slice none 0 0) := by rw [cell_block hd]; rfl
  have x2 : w1.cell? ⟨b, 2, none⟩ = some (.slice a 0 c) := by rw [cell_block hd]; rfl
  have x3 : w1.cell? ⟨b, 3, none⟩ = some (.bool true) := by rw [cell_block hd]; rfl
  have H := Lib.hid (And.intro k1 r1)
  have hw2 := hw1
  unfold itC itZ at hw2
  have HW1 := Lib.hid hw2
  clear h h1 hd hv k1 r1 hw1 hw2
  go_enter Tryz.func203, Tryz.ntmps203
  go_upto_region 1 with fail
  rw [HW1.out]
  clear HW1
  go_wp2_with (refine wpList_store_it rfl (.tmp 2) (.tmp 58) rfl w.heap.size rfl itZ itZ rfl (by exact H.out.2) ?_)
  intro w3 r3 k3
  obtain ⟨r0, r1, r2, r4, r5, r6, r7⟩ := it_cells r3
  have HK := Lib.hid (H.out.1.trans2 k3 (fun i hi e => by have e : i = w.heap.size := e; omega))
  clear r3 k3
  go_wp2_with fail
  refine bodyPost_ret (by simp [results, Tryz.results203, go_sem, r0, r1, r2, r4, r5, r6, r7]; try rfl) rfl ?_
  exact ⟨rfl, HK.out⟩
theorem pclose_any (b : Nat) (S : Nat → Prop) (sn : Int) (w : World) (h : PiAt w b S none false sn) :
    Calls Tryz.prog 214 #[.pointer (some ⟨b, 0, none⟩)] w fun e w' => e = .returned (.int .i64 0) ∧ PiAt w' b S none true sn ∧ Keeps (fun k => k = b) w w' := by
  obtain ⟨v, hd, hv⟩ := h.hd
  obtain ⟨a, c, rfl⟩ := hv.len
  have x2 : w.cell? ⟨b, 2, none⟩ = some (.slice a 0 c) := by rw [cell_block hd]; rfl
  have x3 : w.cell? ⟨b, 3, none⟩ = some (.bool false) := by rw [cell_block hd]; rfl
  have f3 : w.frozen? ⟨b, 3, none⟩ = false := frozen_block hd 3 none
  have HF := Lib.hid (And.intro (cellQ_set 3 (.bool true) hd) (hv.setb hd 3 (.bool true)))
  have HS := Lib.hid h.sb
  clear h hd hv
  go_enter Tryz.func214, Tryz.ntmps214
  go_wp2_with fail
  go_ret
  exact ⟨rfl, ⟨⟨_, HF.out.1, HF.out.2⟩, HS.out⟩, setQ _ _ _ _⟩
theorem withdraw_none (q : Int) (b : Nat) (S : Nat → Prop) (cl : Bool) (sn : Int) (w : World) (h : PiAt w b S none cl sn) :
    Calls Tryz.prog 212 #[.pointer (some ⟨b, 0, none⟩), .int .i64 q] w fun e w' => e = .returned (.bool false) ∧ Keeps (fun _ => False) w w' := by
  have HC := Lib.hid (at_any q b S none cl sn w h (fun p hp => by cases hp))
  clear h
  go_enter Tryz.func212, Tryz.ntmps212
  go_wp2_with fail
  refine HC.out.mono ?_
  rintro e w' ⟨rfl, k⟩
  simp only [offN]
  go_wp2_with fail
  go_ret
  exact ⟨rfl, k⟩
end Go.Proofs.YtgobcnheemocnaaGreatDoor
end
section
namespace Go.Proofs.YtgobcnheemocnaaGreatDoor
open Go
set_option linter.unusedSimpArgs false
set_option linter.unusedVariables false
noncomputable section

/-- A tree of numbered places. -/
inductive Tr (α : Type) where
  | nil : Tr α
  | node (l : Tr α) (v : Option α) (r : Tr α) : Tr α
def Tr.get {α : Type} : Tr α → Nat → Option α
  | .nil, _ => none
  | .node l v r, i =>
    match i with
    | 0 => v
    | k + 1 => bif Nat.beq (k % 2) 0 then l.get (k / 2) else r.get (k / 2)
def Tr.set {α : Type} : Nat → Tr α → Nat → Option α → Tr α
  | 0, t, _, _ => t
  | f + 1, .nil, i, o =>
    match i with
    | 0 => .node .nil o .nil
    | k + 1 => bif Nat.beq (k % 2) 0 then .node (Tr.set f .nil (k / 2) o) none .nil else .node .nil none (Tr.set f .nil (k / 2) o)
  | f + 1, .node l v r, i, o =>
    match i with
    | 0 => .node l o r
    | k + 1 => bif Nat.beq (k % 2) 0 then .node (Tr.set f l (k / 2) o) v r else .node l v (Tr.set f r (k / 2) o)
/-- The same, by the recursor alone: it costs the kernel less. -/
def Tr.getR {α : Type} (t : Tr α) : Nat → Option α := @Tr.rec α (fun _ => Nat → Option α) (fun _ => none) (fun l v r gl gr i => @Nat.rec (fun _ => Option α) v (fun k _ => @Bool.rec (fun _ => Option α) (gr (Nat.div k 2)) (gl (Nat.div k 2)) (Nat.beq (Nat.mod k 2) 0)) i) t
def Tr.setR {α : Type} (f : Nat) : Tr α → Nat → Option α → Tr α := @Nat.rec (fun _ => Tr α → Nat → Option α → Tr α) (fun t _ _ => t) (fun f ih t i o => @Tr.rec α (fun _ => Tr α) (@Nat.rec (fun _ => Tr α) (.node .nil o .nil) (fun k _ => @Bool.rec (fun _ => Tr α) (.node .nil none (ih .nil (Nat.div k 2) o)) (.node (ih .nil (Nat.div k 2) o) none .nil) (Nat.beq (Nat.mod k 2) 0)) i) (fun l v r _ _ => @Nat.rec (fun _ => Tr α) (.node l o r) (fun k _ => @Bool.rec (fun _ => Tr α) (.node l v (ih r (Nat.div k 2) o)) (.node (ih l (Nat.div k 2) o) v r) (Nat.beq (Nat.mod k 2) 0)) i) t) f
theorem Tr.getR_eq {α : Type} : ∀ (t : Tr α) (i : Nat), t.getR i = t.get i
  | .nil, i => rfl
  | .node l v r, 0 => rfl
  | .node l v r, k + 1 => by
    have h1 := Tr.getR_eq l (k / 2)
    have h2 := Tr.getR_eq r (k / 2)
    show @Bool.rec (fun _ => Option α) (r.getR (k / 2)) (l.getR (k / 2)) (Nat.beq (k % 2) 0) = bif Nat.beq (k % 2) 0 then l.get (k / 2) else r.get (k / 2)
    rw [h1, h2]
    cases Nat.beq (k % 2) 0 <;> rfl
theorem Tr.setR_eq {α : Type} (o : Option α) : ∀ (f : Nat) (t : Tr α) (i : Nat), Tr.setR f t i o = Tr.set f t i o
  | 0, t, i => rfl
  | f + 1, .nil, 0 => rfl
  | f + 1, .node l v r, 0 => rfl
  | f + 1, .nil, k + 1 => by
    have h1 := Tr.setR_eq o f .nil (k / 2)
    show @Bool.rec (fun _ => Tr α) (.node .nil none (Tr.setR f .nil (k / 2) o)) (.node (Tr.setR f .nil (k / 2) o) none .nil) (Nat.beq (k % 2) 0) = bif Nat.beq (k % 2) 0 then .node (Tr.set f .nil (k / 2) o) none .nil else .node .nil none (Tr.set f .nil (k / 2) o)
    rw [h1]
    cases Nat.beq (k % 2) 0 <;> rfl
  | f + 1, .node l v r, k + 1 => by
    have h1 := Tr.setR_eq o f l (k / 2)
    have h2 := Tr.setR_eq o f r (k / 2)
    show @Bool.rec (fun _ => Tr α) (.node l v (Tr.setR f r (k / 2) o)) (.node (Tr.setR f l (k / 2) o) v r) (Nat.beq (k % 2) 0) = bif Nat.beq (k % 2) 0 then .node (Tr.set f l (k / 2) o) v r else .node l v (Tr.set f r (k / 2) o)
    rw [h1, h2]
    cases Nat.beq (k % 2) 0 <;> rfl
def Tr.put {α : Type} (t : Tr α) (i : Nat) (o : Option α) : Tr α := Tr.setR (i + 1) t i o

theorem Tr.get_set {α : Type} (o : Option α) : ∀ (f : Nat) (t : Tr α) (i j : Nat), i < f → (Tr.set f t i o).get j = if j = i then o else t.get j := by
  have half : ∀ k m : Nat, k % 2 = m % 2 → (k / 2 = m / 2 ↔ k = m) := by omega
  have odd : ∀ k : Nat, ¬ k % 2 = 0 → Nat.beq (k % 2) 0 = false := fun k h => by have : k % 2 = 1 := (by omega); rw [this]; rfl
  intro f
  induction f with
  | zero => intro t i j h; omega
  | succ f ih =>
    intro t i j h
    cases t with
    | nil =>
      cases i with
      | zero => cases j <;> simp [Tr.set, Tr.get]
      | succ k =>
        simp only [Tr.set]
        by_cases hk : k % 2 = 0
        · simp only [hk, Nat.beq_refl, cond_true]
          cases j with
          | zero => simp [Tr.get]
          | succ m =>
            simp only [Tr.get]
            by_cases hm : m % 2 = 0
            · simp only [hm, Nat.beq_refl, cond_true]
              rw [ih _ _ _ (by omega)]
              have := half m k (by omega)
              simp [Tr.get, this]
            · have := odd m hm
              simp only [this, cond_false, Tr.get]
              have : m ≠ k := (by intro e; subst e; omega)
              simp [this]
        · have := odd k hk
          simp only [this, cond_false]
          cases j with
          | zero => simp [Tr.get]
          | succ m =>
            simp only [Tr.get]
            by_cases hm : m % 2 = 0
            · simp only [hm, Nat.beq_refl, cond_true]
              have : m ≠ k := (by intro e; subst e; omega)
              simp [Tr.get, this]
            · have := odd m hm
              simp only [this, cond_false]
              rw [ih _ _ _ (by omega)]
              have := half m k (by omega)
              simp [Tr.get, this]
    | node l v r =>
      cases i with
      | zero => cases j <;> simp [Tr.set, Tr.get]
      | succ k =>
        simp only [Tr.set]
        by_cases hk : k % 2 = 0
        · simp only [hk, Nat.beq_refl, cond_true]
          cases j with
          | zero => simp [Tr.get]
          | succ m =>
            simp only [Tr.get]
            by_cases hm : m % 2 = 0
            · simp only [hm, Nat.beq_refl, cond_true]
              rw [ih _ _ _ (by omega)]
              have := half m k (by omega)
              simp [this]
            · have := odd m hm
              simp only [this, cond_false]
              have : m ≠ k := by intro e; omega
              simp [this]
        · have := odd k hk
          simp only [this, cond_false]
          cases j with
          | zero => simp [Tr.get]
          | succ m =>
            simp only [Tr.get]
            by_cases hm : m % 2 = 0
            · simp only [hm, Nat.beq_refl, cond_true]
              have : m ≠ k := by intro e; omega
              simp [this]
            · have := odd m hm
              simp only [this, cond_false]
              rw [ih _ _ _ (by omega)]
              have := half m k (by omega)
              simp [this]
theorem Tr.get_put {α : Type} (t : Tr α) (i : Nat) (o : Option α) (j : Nat) : (t.put i o).get j = if j = i then o else t.get j := by unfold Tr.put; rw [Tr.setR_eq]; exact Tr.get_set o _ _ _ _ (Nat.lt_succ_self i)

/-- What one cell holds: a value without own addresses; an address by a number of its own; a slice of a row (its capacity known, or at least so great); an interface; a function. -/
inductive AC where
  | lit (v : Value)
  | ptr (id off : Nat)
  | sl (id off len cap es : Nat) (ex : Bool)
  | ifc (t : TypeId) (c : AC)
  | fn (f : Fn)
  | cap (r c : AC)
  | fst (r c : AC)
inductive AV where
  | c (x : AC)
  | agg (xs : List AC)
inductive AR where
  | one (x : AV)
  | tup (xs : List AV)
  | any

def AV.cells : AV → List AC
  | .c x => [x]
  | .agg xs => xs
def litAll : List Value → Option (List AC)
  | [] => some []
  | v :: l => match v with
    | .agg _ | .tuple _ => none
    | v => (litAll l).map (.lit v :: ·)
def AV.of? : Value → Option AV
  | .agg cs => (litAll cs.toList).map .agg
  | .tuple _ => none
  | v => some (.c (.lit v))
def ofAll : List Value → Option (List AV)
  | [] => some []
  | v :: l => match AV.of? v with
    | some x => (ofAll l).map (x :: ·)
    | none => none
def AR.of? : Value → Option AR
  | .tuple vs => (ofAll vs.toList).map .tup
  | v => (AV.of? v).map .one
/-- A value that holds no own address, as it is. -/
def AC.val? : AC → Option Value
  | .lit v => some v
  | .ifc t c => c.val?.map (.iface t ·)
  | .fn f => some (.func f #[] #[])
  | _ => none
def valAll : List AC → Option (List Value)
  | [] => some []
  | x :: l => match x.val? with
    | some v => (valAll l).map (v :: ·)
    | none => none
def AV.val? : AV → Option Value
  | .c x => x.val?
  | .agg xs => (valAll xs).map fun l => .agg l.toArray
def AR.val? : AR → Option Value
  | .one x => x.val?
  | .tup [] => some undef
  | _ => none

/-- A block: what is known of its cells; 'whole': these are all. -/
structure Blk where
  cells : List AC
  elem : TypeId
  whole : Bool
structure AH where
  heap : Tr Blk
  next : Nat
def AH.get (H : AH) (id : Nat) : Option Blk := H.heap.getR id
def AH.new (H : AH) (b : Blk) : AH := @AH.rec (fun _ => AH) (fun h n => ⟨h.put n (some b), n + 1⟩) H
def AH.set (H : AH) (id : Nat) (b : Option Blk) : AH := @AH.rec (fun _ => AH) (fun h n => ⟨h.put id b, n⟩) H
theorem AH.set_next (H : AH) (id : Nat) (b : Option Blk) : (H.set id b).next = H.next := rfl
def AH.empty : AH := ⟨.nil, 0⟩
/-- One cell of a row; a row with one cell changed: by the recursor alone. -/
def nthR (l : List AC) : Nat → Option AC := @List.rec AC (fun _ => Nat → Option AC) (fun _ => none) (fun h _ ih i => @Nat.rec (fun _ => Option AC) (some h) (fun k _ => ih k) i) l
theorem nthR_eq : ∀ (l : List AC) (i : Nat), nthR l i = l[i]?
  | [], i => by simp; rfl
  | h :: t, 0 => rfl
  | h :: t, k + 1 => by
    have h1 := nthR_eq t k
    show nthR t k = _
    rw [h1]; simp
def putR (v : AC) (k : Nat) : List AC → List AC := @Nat.rec (fun _ => List AC → List AC) (fun l => @List.rec AC (fun _ => List AC) [v] (fun _ t _ => v :: t) l) (fun _ ih l => @List.rec AC (fun _ => List AC) [v] (fun h t _ => h :: ih t) l) k
theorem putR_eq (v : AC) : ∀ (k : Nat) (l : List AC), putR v k l = l.take k ++ (v :: l.drop (k + 1))
  | 0, [] => rfl
  | 0, _ :: _ => rfl
  | k + 1, [] => rfl
  | k + 1, h :: t => by
    have h1 := putR_eq v k t
    show h :: putR v k t = _
    rw [h1]; rfl
def splice (l : List AC) (off : Nat) (vs : List AC) : List AC := match vs with
  | [v] => putR v off l
  | vs => l.take off ++ (vs ++ l.drop (off + vs.length))
theorem splice_eq (l : List AC) (off : Nat) (vs : List AC) : splice l off vs = l.take off ++ (vs ++ l.drop (off + vs.length)) := by
  unfold splice
  split
  · rw [putR_eq]; rfl
  · rfl

/-- What was put into slots of late, the latest first. -/
inductive Log where
  | nil
  | cons (k : Nat) (r : AR) (l : Log)
def Log.find (l : Log) (t : Nat) (d : AR) : AR := @Log.rec (fun _ => AR) d (fun k r _ ih => @Bool.rec (fun _ => AR) ih r (Nat.beq k t)) l
def bitOf (m t : Nat) : Bool := Nat.beq (Nat.land (Nat.shiftRight m t) 1) 1
def Log.into (m : Nat) (l : Log) (b : Tr AR) : Tr AR := @Log.rec (fun _ => Tr AR) b (fun k r _ ih => @Bool.rec (fun _ => Tr AR) ih (ih.put k (some r)) (bitOf m k)) l
/-- A frame: the slots put of late; those put ahead of them, as far as they are among 'mask'; nothing is known of the others. -/
structure Fr where
  log : Log
  base : Tr AR
  mask : Nat
  size : Nat
def orAny : Option AR → AR
  | some r => r
  | none => .any
def lowC (base : Tr AR) (mask t : Nat) : AR := bif bitOf mask t then orAny (base.getR t) else .any
def Fr.get (fr : Fr) (t : Nat) : AR := @Fr.rec (fun _ => AR) (fun log base mask _ => log.find t (lowC base mask t)) fr
def putC (d : Tmp) (r : AR) (fr : Fr) : Option Fr := @Fr.rec (fun _ => Option Fr) (fun log base mask size => bif Nat.ble (Nat.succ d) size then some ⟨.cons d r log, base, mask, size⟩ else none) fr
def Fr.put (fr : Fr) (d : Option Tmp) (r : AR) : Option Fr :=
  match d with
  | none => some fr
  | some d => putC d r fr
theorem Fr.put_def (fr : Fr) (d : Option Tmp) (r : AR) : fr.put d r = match d with
  | none => some fr
  | some d => bif Nat.blt d fr.size then some ⟨.cons d r fr.log, fr.base, fr.mask, fr.size⟩ else none := by cases d <;> rfl
def Fr.flush (fr : Fr) : Fr := @Fr.rec (fun _ => Fr) (fun log base mask size => ⟨.nil, log.into mask base, mask, size⟩) fr
theorem Log.find_cons (k : Nat) (r : AR) (l : Log) (t : Nat) (d : AR) : (Log.cons k r l).find t d = if t = k then r else l.find t d := by
  show @Bool.rec (fun _ => AR) (l.find t d) r (Nat.beq k t) = _
  by_cases h : t = k
  · subst h; rw [Nat.beq_refl, if_pos rfl]
  · have : Nat.beq k t = false := by
      cases hb : Nat.beq k t with
      | false => rfl
      | true => exact absurd (Nat.eq_of_beq_eq_true hb).symm h
    rw [this, if_neg h]
theorem Fr.get_put (fr : Fr) (d : Nat) (r : AR) (t : Nat) : (⟨.cons d r fr.log, fr.base, fr.mask, fr.size⟩ : Fr).get t = if t = d then r else fr.get t := Log.find_cons _ _ _ _ _
theorem Log.into_get (m : Nat) (b : Tr AR) (t : Nat) (h : bitOf m t = true) : ∀ l : Log, orAny ((Log.into m l b).getR t) = l.find t (orAny (b.getR t))
  | .nil => rfl
  | .cons k r l => by
    have ih := Log.into_get m b t h l
    rw [Log.find_cons]
    show orAny ((@Bool.rec (fun _ => Tr AR) (l.into m b) ((l.into m b).put k (some r)) (bitOf m k)).getR t) = _
    by_cases ht : t = k
    · subst ht
      rw [h, if_pos rfl]
      show orAny (((l.into m b).put t (some r)).getR t) = r
      rw [Tr.getR_eq, Tr.get_put, if_pos rfl]; rfl
    · rw [if_neg ht]
      cases hk : bitOf m k with
      | false => exact ih
      | true =>
        show orAny (((l.into m b).put k (some r)).getR t) = _
        rw [Tr.getR_eq, Tr.get_put, if_neg ht, ← Tr.getR_eq]; exact ih
theorem Fr.get_flush (fr : Fr) (t : Nat) : fr.flush.get t = fr.get t ∨ fr.flush.get t = .any := by
  show (bif bitOf fr.mask t then orAny ((fr.log.into fr.mask fr.base).getR t) else .any) = _ ∨ (bif bitOf fr.mask t then orAny ((fr.log.into fr.mask fr.base).getR t) else .any) = _
  cases h : bitOf fr.mask t with
  | false => exact .inr rfl
  | true =>
    refine .inl ?_
    rw [cond_true, Log.into_get _ _ _ h]
    show _ = fr.log.find t (bif bitOf fr.mask t then orAny (fr.base.getR t) else .any)
    rw [h]; rfl

/-- A step of the model that only looks at the program. -/
def qrun {α : Type} (P : Program) : Sem α → Option α
  | .pure a => some a
  | .program k => qrun P (k P)
  | .mark _ k => qrun P k
  | _ => none
theorem qrun_run {α : Type} (P : Program) (s : Sem α) (a : α) (h : qrun P s = some a) (w : World) : s.run P w = .ok a w := by
  induction s with
  | pure b => simp only [qrun, Option.some.injEq] at h; subst h; rfl
  | program k ih => exact ih P h
  | mark m k ih => exact ih h
  | _ => simp [qrun] at h

abbrev Ev := Operand → AR
def Fr.ev (fr : Fr) : Ev
  | .tmp t => fr.get t
  | .const v => (AR.of? v).getD .any
  | .global g => .one (.c (.lit (.pointer (some ⟨g, 0, none⟩))))
  | .func f => .one (.c (.fn (.func f)))

def szOf (P : Program) (t : TypeId) : Option Nat := (P.info? t).map (·.size)
def aggOf (P : Program) (t : TypeId) : Option Bool :=
  match P.underlying t with
  | some (.struct _) | some (.array _ _) => some true
  | some _ => some false
  | none => none
def zeroCells? (P : Program) (t : TypeId) : Option (List AC) :=
  match (P.info? t).bind (·.zero) with
  | some z => (AV.of? z).map AV.cells
  | none => none

/-- Operands without own addresses: the model's own step. -/
def scalOK (ev : Ev) : List Operand → Bool
  | [] => true
  | x :: l => (ev x).val?.isSome && scalOK ev l
def notSel (o : Oper) : Bool := match o.op with
  | .select .. => false
  | _ => true
def scal (P : Program) (ev : Ev) (o : Oper) : Option AR :=
  bif notSel o && scalOK ev o.op.operands.toList then
    match qrun P (execOp (fun x => ((ev x).val?).getD undef) o) with
    | some (.value v) => AR.of? v
    | _ => none
  else none

def intArg : AR → Option Int
  | .one (.c (.lit (.int _ n))) => some n
  | _ => none
def fieldOf (P : Program) (s : TypeId) (f : Nat) : Option (Nat × TypeId × Nat) :=
  match P.underlying s with
  | some (.struct fields) => match fields[f]? with
    | some x => (szOf P x.type).map fun n => (x.offset, x.type, n)
    | none => none
  | _ => none
def cut (l : List AC) (off n : Nat) : Option (List AC) :=
  let cs := (l.drop off).take n
  bif Nat.beq cs.length n then some cs else none
/-- A part of an aggregate, of a type. -/
def partOf (P : Program) (t : TypeId) (cs : List AC) (off : Nat) : Option AV :=
  match aggOf P t, szOf P t with
  | some true, some n => (cut cs off n).map .agg
  | some false, some _ => (nthR cs off).map .c
  | _, _ => none
def capFn (f : Fn) : List AR → Option AC
  | [] => some (.fn f)
  | .one (.c x) :: l => (capFn f l).map fun r => .cap r x
  | _ :: _ => none
def fstFn (f : Fn) : List AR → Option AC
  | [] => some (.fn f)
  | .one (.c x) :: l => (fstFn f l).map fun r => .fst r x
  | _ :: _ => none
/-- A function: its name, what goes ahead of its arguments, what it holds (both from behind). -/
def AC.fn? : AC → Option (Fn × List AC × List AC)
  | .fn f => some (f, [], [])
  | .cap r x => r.fn?.map fun (f, a, l) => (f, a, x :: l)
  | .fst r x => r.fn?.map fun (f, a, l) => (f, x :: a, l)
  | _ => none
/-- The bounds of s[l:h:m], where they are numbers. -/
def bound (x : Option AR) : Option (Option Int) :=
  match x with
  | none => some none
  | some r => (intArg r).map some

/-- Parts put into their places. -/
def fillA (place : Nat → Option (Nat × Nat)) (cells : List AC) : List (Nat × List AC) → Option (List AC)
  | [] => some cells
  | (i, v) :: rest => match place i with
    | none => none
    | some (off, size) => bif Nat.beq v.length size && Nat.ble (off + v.length) cells.length then fillA place (splice cells off v) rest else none
def partsA (ev : Ev) : List (Nat × Operand) → Option (List (Nat × List AC))
  | [] => some []
  | (i, x) :: l => match ev x, partsA ev l with
    | .one a, some r => some ((i, a.cells) :: r)
    | _, _ => none
def placesOf (P : Program) (t : TypeId) : Option (Nat → Option (Nat × Nat)) :=
  match P.underlying t with
  | some (.struct fields) => (fields.toList.mapM (fun f => (P.info? f.type).map fun i => (f.offset, i.size))).map fun pl => (pl[·]?)
  | some (.array _ e) => (szOf P e).map fun s => fun i => some (i * s, s)
  | _ => none

/-- Is a thing nil, or the same place? -/
def nilCmp (P : Program) (t : TypeId) (x y : AR) : Option Bool :=
  match P.underlying t, x, y with
  | some (.pointer _), .one (.c (.ptr _ _)), .one (.c (.lit (.pointer none))) => some false
  | some (.pointer _), .one (.c (.lit (.pointer none))), .one (.c (.ptr _ _)) => some false
  | some (.pointer e), .one (.c (.ptr i o)), .one (.c (.ptr j p)) => match szOf P e with
    | some (_ + 1) => bif Nat.beq i j then some (Nat.beq o p) else none
    | _ => none
  | some (.slice _), .one (.c (.sl ..)), .one (.c (.lit (.slice none _ _))) => some false
  | some (.slice _), .one (.c (.lit (.slice none _ _))), .one (.c (.sl ..)) => some false
  | some (.interface _), .one (.c (.ifc _ _)), .one (.c (.lit .nilIface)) => some false
  | some (.interface _), .one (.c (.lit .nilIface)), .one (.c (.ifc _ _)) => some false
  | some (.func _ _ _), .one (.c (.cap _ _)), .one (.c (.lit .nilFunc)) => some false
  | some (.func _ _ _), .one (.c (.fst _ _)), .one (.c (.lit .nilFunc)) => some false
  | _, _, _ => none

def noEsc (fn : Func) : Bool := fn.body.isNone && (fn.name == "internal/abi.NoEscape" && fn.origin == "")
/-- Operations that look at no memory. -/
def pureA (P : Program) (ev : Ev) (o : Oper) : Option AR :=
  match o.op with
  | .move x | .assign x => some (ev x)
  | .pick c a b => match ev c with
    | .one (.c (.lit (.bool t))) => some (bif t then ev a else ev b)
    | _ => none
  | .nilCheck x => match ev x with
    | .one (.c (.ptr id off)) => some (.one (.c (.ptr id off)))
    | .one (.c (.cap r c)) => match (AC.cap r c).fn? with
      | some (.func _, _) => some (.one (.c (.cap r c)))
      | _ => none
    | .one (.c (.fn (.func f))) => some (.one (.c (.fn (.func f))))
    | .one (.c (.fst r c)) => match (AC.fst r c).fn? with
      | some (.func _, _) => some (.one (.c (.fst r c)))
      | _ => none
    | .one (.c (.ifc t c)) => some (.one (.c (.ifc t c)))
    | _ => none
  | .binOp op t x y _ => match scal P ev o with
    | some r => some r
    | none =>
      match op, nilCmp P t (ev x) (ev y) with
      | .eql, some b => some (.one (.c (.lit (.bool b))))
      | .neq, some b => some (.one (.c (.lit (.bool !b))))
      | _, _ => none
  | .makeInterface t x => match scal P ev o with
    | some r => some r
    | none => match P.underlying t, ev x with
      | some (.interface _), _ => none
      | some _, .one (.c c) => some (.one (.c (.ifc t c)))
      | _, _ => none
  | .makeFunc f first captured =>
    match first.toList with
    | [] => (capFn f (captured.toList.map ev).reverse).map fun c => .one (.c c)
    | l => match captured.toList with
      | [] => (fstFn f (l.map ev).reverse).map fun c => .one (.c c)
      | _ => none
  | .fieldAddr s x f => match fieldOf P s f, ev x with
    | some (off, _, n + 1), .one (.c (.ptr id o)) => some (.one (.c (.ptr id (o + off))))
    | _, _ => none
  | .field t x f => match P.underlying t, ev x with
    | some (.struct fields), .one (.agg cs) => match fields[f]? with
      | some x => (partOf P x.type cs x.offset).map .one
      | none => none
    | _, _ => none
  | .indexAddr t x i => match intArg (ev i) with
    | some (.ofNat k) => match P.underlying t, ev x with
      | some (.array n e), .one (.c (.ptr id off)) => match szOf P e with
        | some s => bif Nat.blt k n then some (.one (.c (.ptr id (off + k * s)))) else none
        | none => none
      | some (.slice e), .one (.c (.sl id off len _ es _)) => match szOf P e with
        | some s => bif Nat.blt k len && Nat.beq s es then some (.one (.c (.ptr id (off + k * s)))) else none
        | none => none
      | _, _ => none
    | _ => none
  | .index t x i => match scal P ev o with
    | some r => some r
    | none => match intArg (ev i), P.underlying t, ev x with
      | some (.ofNat k), some (.array n e), .one (.agg cs) => match szOf P e with
        | some s => bif Nat.blt k n then (partOf P e cs (k * s)).map .one else none
        | none => none
      | _, _, _ => none
  | .slice t x lo hi mx => match scal P ev o with
    | some r => some r
    | none => match P.underlying t, ev x, bound (lo.map ev), bound (hi.map ev), bound (mx.map ev) with
      | some (.slice e), .one (.c (.sl id off len cap es ex)), some lo, some hi, some mx => match szOf P e with
        | some s => bif Nat.beq s es then
            let h := hi.getD len
            let l := lo.getD 0
            let m := mx.getD cap
            bif (decide (0 ≤ l) && (decide (l ≤ h) && (decide (h ≤ m) && decide (m ≤ cap)))) && (hi.isSome || !mx.isSome) then
              some (.one (.c (.sl id (off + l.toNat * s) (h - l).toNat (m - l).toNat s (mx.isSome || ex))))
            else none
          else none
        | none => none
      | some (.array n e), .one (.c (.ptr id off)), some lo, some hi, some mx => match szOf P e with
        | some s =>
          let h := hi.getD n
          let l := lo.getD 0
          let m := mx.getD n
          bif (decide (0 ≤ l) && (decide (l ≤ h) && (decide (h ≤ m) && decide (m ≤ n)))) && (hi.isSome || !mx.isSome) then
            some (.one (.c (.sl id (off + l.toNat * s) (h - l).toNat (m - l).toNat s true)))
          else none
        | none => none
      | _, _, _, _, _ => none
  | .typeAssert x xt t ok => match scal P ev o with
    | some r => some r
    | none => match P.underlying t, ev x with
      | some (.interface want), .one (.c (.ifc u c)) => match P.info? u with
        | some i => match Instr.missingMethod want i.methods with
          | none => some (bif ok then .tup [.c (.ifc u c), .c (.lit (.bool true))] else .one (.c (.ifc u c)))
          | some _ => none
        | none => none
      | some _, .one (.c (.ifc u c)) => bif Nat.beq u t then some (bif ok then .tup [.c c, .c (.lit (.bool true))] else .one (.c c)) else none
      | _, _ => none
  | .extract x i => match ev x with
    | .tup vs => (vs[i]?).map .one
    | _ => none
  | .call { callee := .builtin .len, args, argTypes } => match scal P ev o with
    | some r => some r
    | none => match argTypes[0]?, args[0]? with
      | some t, some x => match P.underlying t, ev x with
        | some (.slice _), .one (.c (.sl _ _ len _ _ _)) => some (.one (.c (.lit (.int .i64 len))))
        | some (.array n _), _ => some (.one (.c (.lit (.int .i64 n))))
        | some (.pointer a), .one (.c (.ptr _ _)) => match P.underlying a with
          | some (.array n _) => some (.one (.c (.lit (.int .i64 n))))
          | _ => none
        | _, _ => none
      | _, _ => none
  | .convert s d x => match scal P ev o with
    | some r => some r
    | none => none
  | .build t parts => match scal P ev o with
    | some r => some r
    | none => match zeroCells? P t, placesOf P t, partsA ev parts.toList with
      | some z, some pl, some ps => (fillA pl z ps).map fun l => .one (.agg l)
      | _, _, _ => none
  | .call { callee := .builtin _, .. } | .unOp .. => scal P ev o
  | .call { callee := .value f, args, .. } => match ev f, args.toList with
    | .one (.c (.fn (.func g))), [x] => match P.funcs[g]? with
      | some fn => bif noEsc fn then (match ev x with
        | .one (.c (.ptr id o)) => some (.one (.c (.ptr id o)))
        | _ => none) else none
      | none => none
    | _, _ => none
  | _ => none
end
end Go.Proofs.YtgobcnheemocnaaGreatDoor
end
