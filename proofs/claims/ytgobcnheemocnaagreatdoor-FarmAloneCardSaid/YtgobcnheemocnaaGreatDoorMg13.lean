/-
  Several texts in one: A farm's guarded look: the closure where nothing panics; the whole. No condition but that the engine answers. The loom at three tasks: Over. No condition. The loom at three tasks: Ready. No condition. (printed by mk_fbd.py) The loom at three tasks: Step. No condition.
-/
import Derived.Test.YtgobcnheemocnaaGreatDoorMg12
import Derived.Deep.DeepCutAuto
import Derived.Deep.CutRange
import Derived.Deep.CutBlock
section
namespace Go.Proofs.YtgobcnheemocnaaGreatDoor
open Go.RowKit
set_option linter.unusedVariables false
set_option linter.unusedSimpArgs false
set_option maxRecDepth 100000

section
variable {w : World} {wb pb ob fb xb ab : Nat} {nm : ByteArray} {who : Int} {ov : Bool} {st : Int} {x : Itm} {al : Value} {op mo lo le : Int} {Sp : Nat → Prop}
/-- The closure of guarded, where the frame returns. -/
theorem guard_idle (p1 p2 p0 : Nat) (w : World) (h0 : w.cell? ⟨p0, 0, none⟩ = some (.pointer (some ⟨fb, 0, none⟩))) (hf : FmAt w fb pb xb ab al 1 mo lo le) :
    CallsD Tryz.prog 232 #[.pointer (some ⟨p0, 0, none⟩), .pointer (some ⟨p1, 0, none⟩), .pointer (some ⟨p2, 0, none⟩)] .returning w fun e u' w' => e = .returned (.tuple #[]) ∧ u' = .returning ∧ w' = w.setCell ⟨fb, 4, none⟩ (.int .i64 0) := by
  obtain ⟨_, _, _, c4, _, _, _, cf⟩ := hf.c
  have f4 := cf 4
  refine callsD_of_wpS Tryz.func232 rfl fun c₀ cs hu => ?_
  simp only [Tryz.ntmps232, List.size_toArray, List.length_cons, List.length_nil, Nat.reduceAdd, Nat.reduceSub, Array.replicate_succ, Array.replicate_zero, List.push_toArray, List.append_toArray, List.nil_append, List.cons_append]
  apply wpS_seq
  refine wpS_of_wp ?_
  go_wp2_with fail
  simp only [Exit.thenS]
  apply wpS_seq
  apply wpS_region
  have hta : ∀ W : World, (Instr.typeAssert .nilIface 20 318 true).run Tryz.prog W = .ok (.tuple #[.int .i64 0, .bool false]) W := fun W => by
    simp [Instr.typeAssert, run_underlying Tryz.underlying318, Tryz.zeroValue318]
  simp [wpOpsS, go_sem, recoverD, hu, Exit.thenS, hta]
  apply wpS_seq
  refine wpS_of_wp ?_
  go_wp2_with fail
  simp only [Exit.thenS]
  refine wpS_cond (t := false) (by simp [Act.eval]) ?_
  simp only [Bool.false_eq_true, if_false]
  refine wpS_of_wp (wp_skip ?_)
  cases c₀
  simp_all [bodyPostS, results, Tryz.results232]
set_option maxHeartbeats 4000000 in
theorem guarded_any (hf : FmAt w fb pb xb ab al 1 mo lo le) (hpl : PlF w pb Sp) (hx : 0 ≤ x.rn) (hs : x.s.size ≤ 30) (HA : Answers w xb) :
    Calls Tryz.prog 228 #[.pointer (some ⟨fb, 0, none⟩), rcV x] w fun e w' => (∃ a n c, e = .returned (.tuple #[.slice a n c, .bool true])) ∧ FmAt w' fb pb xb ab al 0 mo lo le ∧ Keeps (fun k => k = fb) w w' := by
  have hmf : ∀ (fn : Fn) (first cap : Array Value) (w : World), (Instr.makeFunc fn first cap).run Tryz.prog w = .ok (.func fn first cap) w := fun _ _ _ _ => rfl
  obtain ⟨w1, hw1⟩ : ∃ W, w.alloc (.cells #[.pointer (some ⟨fb, 0, none⟩)] 43) = W := ⟨_, rfl⟩
  obtain ⟨w2, hw2⟩ : ∃ W, w1.alloc (.cells #[.int .i64 x.rn, .int .i64 x.ra, .string x.s] 52) = W := ⟨_, rfl⟩
  obtain ⟨w3, hw3⟩ : ∃ W, w2.alloc (.cells #[.slice none 0 0] 53) = W := ⟨_, rfl⟩
  obtain ⟨w4, hw4⟩ : ∃ W, w3.alloc (.cells #[.bool false] 4) = W := ⟨_, rfl⟩
  have k1 : Keeps (fun _ => False) w w1 := by rw [← hw1]; exact (Keeps.refl _ _).alloc _
  have k2 : Keeps (fun _ => False) w1 w2 := by rw [← hw2]; exact (Keeps.refl _ _).alloc _
  have k3 : Keeps (fun _ => False) w2 w3 := by rw [← hw3]; exact (Keeps.refl _ _).alloc _
  have k4 : Keeps (fun _ => False) w3 w4 := by rw [← hw4]; exact (Keeps.refl _ _).alloc _
  have z1 : w1.heap.size = w.heap.size + 1 := by rw [← hw1]; simp
  have z2 : w2.heap.size = w.heap.size + 2 := by rw [← hw2]; simp; omega
  have z3 : w3.heap.size = w.heap.size + 3 := by rw [← hw3]; simp; omega
  have b0 : w4.heap[w.heap.size]? = some (.cells #[.pointer (some ⟨fb, 0, none⟩)] 43 (0, 0)) := ((k2.trans k3).trans k4).heap (by rw [← hw1]; exact heap_alloc_new _ _) id
  have b1 : w4.heap[w.heap.size + 1]? = some (.cells #[.int .i64 x.rn, .int .i64 x.ra, .string x.s] 52 (0, 0)) := (k3.trans k4).heap (by rw [← hw2, ← z1]; exact heap_alloc_new _ _) id
  have b2 : w4.heap[w.heap.size + 2]? = some (.cells #[.slice none 0 0] 53 (0, 0)) := k4.heap (by rw [← hw3, ← z2]; exact heap_alloc_new _ _) id
  have b3 : w4.heap[w.heap.size + 3]? = some (.cells #[.bool false] 4 (0, 0)) := by rw [← hw4, ← z3]; exact heap_alloc_new _ _
  have k := ((k1.trans k2).trans k3).trans k4
  have y0 : w4.cell? ⟨w.heap.size, 0, none⟩ = some (.pointer (some ⟨fb, 0, none⟩)) := by rw [cell_block b0]; rfl
  have y1 : w4.cell? ⟨w.heap.size + 1, 0, none⟩ = some (.int .i64 x.rn) := by rw [cell_block b1]; rfl
  have y2 : w4.cell? ⟨w.heap.size + 1, 1, none⟩ = some (.int .i64 x.ra) := by rw [cell_block b1]; rfl
  have y3 : w4.cell? ⟨w.heap.size + 1, 2, none⟩ = some (.string x.s) := by rw [cell_block b1]; rfl
  have HLk := Lib.hid (look_any (k.heap hf id) (hpl.keeps k (fun _ _ => id)) hx hs (fun W s h hk => HA W s h (k.trans hk)))
  have hlt : fb < w.heap.size := (Array.getElem?_eq_some_iff.1 hf).1
  have H := Lib.hid (And.intro (k.heap hf id) (And.intro k (And.intro b0 (And.intro b2 (And.intro b3 hlt)))))
  have e4 : (((w.alloc (.cells #[.pointer (some ⟨fb, 0, none⟩)] 43)).alloc (.cells #[.int .i64 x.rn, .int .i64 x.ra, .string x.s] 52)).alloc (.cells #[.slice none 0 0] 53)).alloc (.cells #[.bool false] 4) = w4 := by rw [hw1, hw2, hw3, hw4]
  have HW4 := Lib.hid e4
  clear hf hpl HA hw1 hw2 hw3 hw4 k1 k2 k3 k4 k b0 b1 b2 b3 z1 z2 z3 hlt hx hs e4
  unfold rcV at HLk ⊢
  go_enter_defers Tryz.func228, Tryz.ntmps228
  go_upto_region 1 with fail
  rw [HW4.out]
  clear HW4
  go_wp2_with fail
  refine HLk.out.mono ?_
  rintro e w5 ⟨⟨a, n, c, rfl⟩, k5⟩
  have q2 := k5.heap H.out.2.2.2.1 id
  have q3 := k5.heap H.out.2.2.2.2.1 id
  have q0 := k5.heap H.out.2.2.1 id
  have hlt := H.out.2.2.2.2.2
  have c2 : w5.cell? ⟨w.heap.size + 1 + 1, 0, none⟩ = some (.slice none 0 0) := by rw [cell_block q2]; rfl
  have f2 : w5.frozen? ⟨w.heap.size + 1 + 1, 0, none⟩ = false := frozen_block q2 0 none
  have c3 : (w5.setCell ⟨w.heap.size + 1 + 1, 0, none⟩ (.slice a n c)).cell? ⟨w.heap.size + 1 + 1 + 1, 0, none⟩ = some (.bool false) := by rw [cell_set_other (by simp)]; rw [cell_block q3]; rfl
  have f3 : w5.frozen? ⟨w.heap.size + 1 + 1 + 1, 0, none⟩ = false := frozen_block q3 0 none
  obtain ⟨w6, hw6⟩ : ∃ W, (w5.setCell ⟨w.heap.size + 1 + 1, 0, none⟩ (.slice a n c)).setCell ⟨w.heap.size + 1 + 1 + 1, 0, none⟩ (.bool true) = W := ⟨_, rfl⟩
  have g6 : FmAt w6 fb pb xb ab al 1 mo lo le := by
    rw [← hw6]
    exact (setQ _ _ 0 _).heap ((setQ w5 (w.heap.size + 1 + 1) 0 (.slice a n c)).heap (k5.heap H.out.1 id) (show ¬ fb = w.heap.size + 1 + 1 by omega)) (show ¬ fb = w.heap.size + 1 + 1 + 1 by omega)
  have x0 : w6.cell? ⟨w.heap.size, 0, none⟩ = some (.pointer (some ⟨fb, 0, none⟩)) := by rw [← hw6, cell_set_other (by simp), cell_set_other (by simp), cell_block q0]; rfl
  have x2 : w6.cell? ⟨w.heap.size + 1 + 1, 0, none⟩ = some (.slice a n c) := by rw [← hw6, cell_set_other (by simp)]; exact cell_set_same c2
  have x3 : w6.cell? ⟨w.heap.size + 1 + 1 + 1, 0, none⟩ = some (.bool true) := by rw [← hw6]; exact cell_set_same c3
  have hK : Keeps (fun _ => False) w w6 := by
    have e1 := H.out.2.1.trans k5
    rw [← hw6]
    exact (e1.setCell (p := ⟨w.heap.size + 1 + 1, 0, none⟩) (Or.inr (by show w.heap.size ≤ w.heap.size + 1 + 1; omega)) _).setCell (p := ⟨w.heap.size + 1 + 1 + 1, 0, none⟩) (Or.inr (by show w.heap.size ≤ w.heap.size + 1 + 1 + 1; omega)) _
  have HG := Lib.hid (guard_idle (w.heap.size + 1 + 1) (w.heap.size + 1 + 1 + 1) w.heap.size w6 x0 g6)
  have g7 : FmAt (w6.setCell ⟨fb, 4, none⟩ (.int .i64 0)) fb pb xb ab al 0 mo lo le := cellQ_set 4 (.int .i64 0) g6
  have x2' : (w6.setCell ⟨fb, 4, none⟩ (.int .i64 0)).cell? ⟨w.heap.size + 1 + 1, 0, none⟩ = some (.slice a n c) := by rw [cell_set_other (by simp only [ne_eq, Addr.mk.injEq]; omega)]; exact x2
  have x3' : (w6.setCell ⟨fb, 4, none⟩ (.int .i64 0)).cell? ⟨w.heap.size + 1 + 1 + 1, 0, none⟩ = some (.bool true) := by rw [cell_set_other (by simp only [ne_eq, Addr.mk.injEq]; omega)]; exact x3
  have HF := Lib.hid (And.intro g7 ((hK.mono (T := fun k => k = fb) fun _ _ e => e.elim).trans (setQ w6 fb 4 (.int .i64 0))))
  have HW6 := Lib.hid hw6
  clear q0 q2 q3 g6 x0 x2 x3 hK g7 hw6 k5 HLk H y0 y1 y2 y3 hlt
  go_wp2_with fail
  rw [HW6.out]
  refine leaves_cons (f := 232) (args := #[.pointer (some ⟨w.heap.size, 0, none⟩), .pointer (some ⟨w.heap.size + 1 + 1, 0, none⟩), .pointer (some ⟨w.heap.size + 1 + 1 + 1, 0, none⟩)]) (by simp) (by simp [go_sem]) ?_
  refine HG.out.mono ?_
  rintro e u' w'' ⟨rfl, rfl, rfl⟩
  simp [Leaves, settle, results, Tryz.results228, go_sem, x2', x3']
  exact HF.out
set_option maxHeartbeats 4000000 in
theorem wstep_look {S : Nat → Prop} {sn : Int} (h : WkAt w wb pb ob fb nm who ov 2 x) (hf : FmAt w fb pb xb ab al 1 mo lo le) (hpl : PlF w pb Sp) (hp : PiAt w ob S none false sn) (hx : 0 ≤ x.rn) (hs : x.s.size ≤ 30) (HA : Answers w xb)
    (n1 : ¬ S wb) (n2 : ¬ S fb) (n3 : wb ≠ fb) (n4 : ∀ b, Sp b → b ≠ fb ∧ b ≠ wb) (h0 : 0 ≤ sn) (h1 : sn ≤ 1000000) :
    Calls Tryz.prog 226 #[.pointer (some ⟨wb, 0, none⟩)] w fun e w' => e = .returned (.tuple #[]) ∧ ∃ y : Itm, y.n = x.n ∧ WkAt w' wb pb ob fb nm who ov 3 itZ ∧ FmAt w' fb pb xb ab al 0 mo lo le ∧ PiAt w' ob (GrP S w w') (some (who, y)) false (sn + 1) ∧ Keeps (fun k => k = wb ∨ k = fb ∨ S k) w w' := by
  obtain ⟨_, _, _, _, c5, c6, cf⟩ := h.c
  obtain ⟨d0, _⟩ := hf.c
  obtain ⟨_, _, i2, i3, i4, _⟩ := h.item
  have HSt := Lib.hid (fstopped_any pb Sp w hpl)
  have HG := Lib.hid (guarded_any (w := w.drew) (x := x) (by exact hf) (hpl.keeps (Keeps.refl (fun _ => False) w).drew (fun _ _ => id)) hx hs (fun W s hs hk => HA W s hs ((Keeps.refl _ _).drew.trans hk)))
  have H := Lib.hid (And.intro h hp)
  clear h hf hpl hp HA hx hs cf
  unfold rcV at HG
  go_enter Tryz.func226, Tryz.ntmps226
  go_wp2_with fail
  refine HSt.out.mono ?_
  rintro e w' ⟨rfl, rfl⟩
  go_wp2_with fail
  go_region_law (first | (go_simp; go_at_call 228; refine HG.out.mono ?_; rintro e w2 ⟨⟨a, n, c, rfl⟩, g2, k2⟩))
  all_goals
    have h3 : WkAt w2 wb pb ob fb nm who ov 2 x := k2.heap (show w'.drew.heap[wb]? = _ from H.out.1) n3
    have f12 : w2.frozen? ⟨wb, 12, none⟩ = false := frozen_block h3 12 none
    have c12 := h3.item.2.2.2.2.2.1
    have h4 : WkAt (w2.setCell ⟨wb, 12, none⟩ (.slice a n c)) wb pb ob fb nm who ov 2 { x with ha := a, hn := n, hc := c } := cellQ_set 12 (.slice a n c) h3
    have k4 : Keeps (fun k => k = wb ∨ k = fb) w' (w2.setCell ⟨wb, 12, none⟩ (.slice a n c)) := ((Keeps.refl (fun k => k = wb ∨ k = fb) w').drew.trans (k2.mono fun _ _ e => Or.inr e)).trans ((setQ w2 wb 12 (.slice a n c)).mono fun _ _ e => Or.inl e)
    have hp4 := H.out.2.keeps k4 (fun b hb e => e.elim (fun e => n1 (e ▸ hb)) (fun e => n2 (e ▸ hb)))
    have g4 : FmAt (w2.setCell ⟨wb, 12, none⟩ (.slice a n c)) fb pb xb ab al 0 mo lo le := (setQ w2 wb 12 (.slice a n c)).heap g2 (fun e => n3 e.symm)
    have HSd := Lib.hid (wsend_any h4 hp4 n1 h0 h1)
    have H4 := Lib.hid (And.intro g4 k4)
    clear h3 h4 k4 hp4 g4 g2 k2 HG HSt c5 c6 d0 i2 i3 i4
    go_wp2_with fail
    refine HSd.out.mono ?_
    rintro e w5 ⟨rfl, h5, hp5, k5⟩
    have H5 := Lib.hid (And.intro h5 (And.intro (show FmAt w5 fb pb xb ab al 0 mo lo le from k5.heap H4.out.1 (fun e => e.elim (fun e => n3 e.symm) n2)) (And.intro (hp5.mono (T := GrP S w' w5) (fun b hb => hb.elim Or.inl (fun e => Or.inr ⟨Nat.le_trans H4.out.2.size e.1, e.2⟩))) ((H4.out.2.mono (T := fun k => k = wb ∨ k = fb ∨ S k) fun _ _ e => e.elim Or.inl (fun e => Or.inr (Or.inl e))).trans (k5.mono fun _ _ e => e.elim Or.inl (fun e => Or.inr (Or.inr e)))))))
    clear h5 hp5 k5 H4 HSd
    go_wp2_with fail
    go_end0
    exact ⟨rfl, { x with ha := a, hn := n, hc := c }, rfl, H5.out⟩
end
end Go.Proofs.YtgobcnheemocnaaGreatDoor
end
section
namespace Go.Proofs.YtgobcnheemocnaaGreatDoor
open Go.RowKit
set_option linter.unusedVariables false
set_option linter.unusedSimpArgs false
set_option maxRecDepth 100000

def gvV (gb : Nat) : Value := .iface 64 (.pointer (some ⟨gb, 0, none⟩))
def wvV (wb : Nat) : Value := .iface 100 (.pointer (some ⟨wb, 0, none⟩))
def tvV (tb : Nat) : Value := .iface 45 (.pointer (some ⟨tb, 0, none⟩))
/-- A method asked: it reads alone, and says b. -/
def Says (f : FuncId) (p : Nat) (b : Bool) (w : World) : Prop := ∀ W, Keeps (fun _ => False) w W → Calls Tryz.prog f #[.pointer (some ⟨p, 0, none⟩)] W fun e w' => e = .returned (.bool b) ∧ Keeps (fun _ => False) W w'
theorem over1_g (gb : Nat) (b : Bool) (w : World) (h : Says 207 gb b w) : Calls Tryz.prog 41 #[gvV gb] w fun e w' => e = .returned (.bool !b) ∧ Keeps (fun _ => False) w w' := by
  have HC := Lib.hid (h w (Keeps.refl _ _))
  clear h
  unfold gvV
  go_enter Tryz.func41, Tryz.ntmps41
  go_wp2_with fail
  refine HC.out.mono ?_
  rintro e w' ⟨rfl, k⟩
  go_wp2_with fail
  go_ret
  exact ⟨rfl, k⟩
theorem over1_t (gb : Nat) (b : Bool) (w : World) (h : Says 200 gb b w) : Calls Tryz.prog 41 #[tvV gb] w fun e w' => e = .returned (.bool !b) ∧ Keeps (fun _ => False) w w' := by
  have HC := Lib.hid (h w (Keeps.refl _ _))
  clear h
  unfold tvV
  go_enter Tryz.func41, Tryz.ntmps41
  go_wp2_with fail
  refine HC.out.mono ?_
  rintro e w' ⟨rfl, k⟩
  go_wp2_with fail
  go_ret
  exact ⟨rfl, k⟩
theorem over1_w (gb : Nat) (b : Bool) (w : World) (h : Says 224 gb b w) : Calls Tryz.prog 41 #[wvV gb] w fun e w' => e = .returned (.bool !b) ∧ Keeps (fun _ => False) w w' := by
  have HC := Lib.hid (h w (Keeps.refl _ _))
  clear h
  unfold wvV
  go_enter Tryz.func41, Tryz.ntmps41
  go_wp2_with fail
  refine HC.out.mono ?_
  rintro e w' ⟨rfl, k⟩
  go_wp2_with fail
  go_ret
  exact ⟨rfl, k⟩
/-- A function at a task: it reads alone, and says b. -/
def SaysT (v : Value) (b : Bool) (w : World) : Prop := ∀ W, Keeps (fun _ => False) w W → Calls Tryz.prog 41 #[v] W fun e w' => e = .returned (.bool b) ∧ Keeps (fun _ => False) W w'
def idx3 (x0 x1 x2 : Bool) : Int := if x0 then 0 else if x1 then 1 else if x2 then 2 else -1
set_option maxHeartbeats 4000000 in
theorem idxT_any (r c : Nat) (v0 v1 v2 : Value) (x0 x1 x2 : Bool) (w : World) (hc : 3 ≤ c) (r0 : w.cell? ⟨r, 0, none⟩ = some v0) (r1 : w.cell? ⟨r, 1, none⟩ = some v1) (r2 : w.cell? ⟨r, 2, none⟩ = some v2) (h0 : SaysT v0 x0 w) (h1 : SaysT v1 x1 w) (h2 : SaysT v2 x2 w) :
    Calls Tryz.prog 51 #[.slice (some ⟨r, 0, none⟩) 3 c, .func (.func 41) #[] #[]] w fun e w' => e = .returned (.int .i64 (idx3 x0 x1 x2)) ∧ Keeps (fun _ => False) w w' := by
  have H0 := Lib.hid h0
  have H1 := Lib.hid h1
  have H2 := Lib.hid h2
  have HR := Lib.hid (And.intro r1 r2)
  clear h0 h1 h2 r1 r2
  go_enter Tryz.func51, Tryz.ntmps51
  go_wp2_with fail
  refine wp_loop_rounds 4 ?_
  rw [rounds_succ]
  go_wp2_with fail
  refine (H0.out w (Keeps.refl _ _)).mono ?_
  rintro e wa ⟨rfl, ka⟩
  cases x0
  · have r1 := ka.cell HR.out.1 id
    go_wp2_with fail
    rw [rounds_succ]
    go_wp2_with fail
    refine (H1.out wa ka).mono ?_
    rintro e wb ⟨rfl, kb⟩
    have kc := ka.trans kb
    clear r1
    cases x1
    · have r2 := kc.cell HR.out.2 id
      go_wp2_with fail
      rw [rounds_succ]
      go_wp2_with fail
      refine (H2.out wb kc).mono ?_
      rintro e wd ⟨rfl, kd⟩
      have ke := kc.trans kd
      clear r2
      cases x2
      · go_wp2_with fail
        rw [rounds_succ]
        go_wp2_with fail
        go_ret
        exact ⟨rfl, ke⟩
      · go_wp2_with fail
        go_ret
        exact ⟨rfl, ke⟩
    · go_wp2_with fail
      go_ret
      exact ⟨rfl, kc⟩
  · go_wp2_with fail
    go_ret
    exact ⟨rfl, ka⟩
/-- Two cells' block, thawed. -/
def Thw (fz : Nat × Nat) : Prop := fz.1 = fz.2 ∨ 2 ≤ fz.1
theorem frozen_thw {w : World} {b : Nat} {cs : Array Value} {T : TypeId} {fz : Nat × Nat} (h : w.heap[b]? = some (.cells cs T fz)) (hz : Thw fz) (o : Nat) (ho : o < 2) : w.frozen? ⟨b, o, none⟩ = false := by
  obtain ⟨lo, hi⟩ := fz
  unfold Thw at hz
  simp only at hz
  simp only [World.frozen?, h]
  rw [Bool.and_eq_false_iff]
  simp only [decide_eq_false_iff_not]
  omega
theorem cellQ_setF {w : World} {b : Nat} {cs : Array Value} {t : TypeId} {fz : Nat × Nat} (i : Nat) (v : Value) (h : w.heap[b]? = some (.cells cs t fz)) : (w.setCell ⟨b, i, none⟩ v).heap[b]? = some (.cells (cs.setIfInBounds i v) t fz) := by
  simp [World.setCell, Array.getElem?_modify, h]
/-- The loom, with its three tasks; n turns are told. -/
structure LoAt (w : World) (lb gb wb tb : Nat) (S : Nat → Prop) (n : Nat) : Prop where
  hd : ∃ r c uv us fz, Thw fz ∧ w.heap[lb]? = some (.cells #[.slice (some ⟨r, 0, none⟩) 3 c, uv] 97 fz) ∧ 3 ≤ c ∧ w.cell? ⟨r, 0, none⟩ = some (gvV gb) ∧ w.cell? ⟨r, 1, none⟩ = some (wvV wb) ∧ w.cell? ⟨r, 2, none⟩ = some (tvV tb) ∧ S r ∧ r ≠ lb ∧ w.ownsRow 0 3 1 uv n us ∧ (∀ g, uv.ownBlock = some g → S g ∧ g ≠ lb ∧ g ≠ r)
  sb : S lb
theorem LoAt.keeps {S T : Nat → Prop} {w w' : World} {lb gb wb tb : Nat} {n : Nat} (h : LoAt w lb gb wb tb S n) (K : Keeps T w w') (hs : ∀ b, S b → ¬ T b) : LoAt w' lb gb wb tb S n := by
  obtain ⟨r, c, uv, us, fz, hfz, h1, hc, h2, h3, h4, hr, hn, h5, h6⟩ := h.hd
  refine ⟨⟨r, c, uv, us, fz, hfz, K.heap h1 (hs _ h.sb), hc, K.cell h2 (hs _ hr), K.cell h3 (hs _ hr), K.cell h4 (hs _ hr), hr, hn, ⟨h5.1, ?_⟩, h6⟩, h.sb⟩
  rcases h5.2 with h0 | ⟨g, cap, cur, rfl, hg, hh, hq⟩
  · exact Or.inl h0
  · exact Or.inr ⟨g, cap, cur, rfl, hg, K.heap hh (hs _ (h6 g rfl).1), hq⟩
theorem LoAt.mono {S T : Nat → Prop} {w : World} {lb gb wb tb : Nat} {n : Nat} (h : LoAt w lb gb wb tb S n) (hs : ∀ b, S b → T b) : LoAt w lb gb wb tb T n := by
  obtain ⟨r, c, uv, us, fz, hfz, h1, hc, h2, h3, h4, hr, hn, h5, h6⟩ := h.hd
  exact ⟨⟨r, c, uv, us, fz, hfz, h1, hc, h2, h3, h4, hs _ hr, hn, h5, fun g hg => ⟨hs _ (h6 g hg).1, (h6 g hg).2⟩⟩, hs _ h.sb⟩
theorem LoAt.low {w : World} {lb gb wb tb : Nat} {S : Nat → Prop} {n : Nat} (h : LoAt w lb gb wb tb S n) : LoAt w lb gb wb tb (fun k => S k ∧ k < w.heap.size) n := by
  obtain ⟨r, c, uv, us, fz, hfz, h1, hc, h2, h3, h4, hr, hn, h5, h6⟩ := h.hd
  refine ⟨⟨r, c, uv, us, fz, hfz, h1, hc, h2, h3, h4, ⟨hr, lt_of_cell h2⟩, hn, h5, fun g hg => ⟨⟨(h6 g hg).1, ?_⟩, (h6 g hg).2⟩⟩, h.sb, (Array.getElem?_eq_some_iff.1 h1).1⟩
  rcases h5.2 with ⟨e, _⟩ | ⟨g', cap, cur, rfl, _, hg', _⟩
  · rw [e] at hg; cases hg
  · obtain rfl : g' = g := Option.some.inj hg
    exact (Array.getElem?_eq_some_iff.1 hg').1
section
variable {w : World} {lb gb wb tb : Nat} {S : Nat → Prop} {n : Nat}
theorem Says.keeps {f : FuncId} {p : Nat} {b : Bool} {w w' : World} (h : Says f p b w) (k : Keeps (fun _ => False) w w') : Says f p b w' := fun W kW => h W (k.trans kW)
theorem lover_any {x0 x1 x2 : Bool} (h : LoAt w lb gb wb tb S n) (h0 : Says 207 gb x0 w) (h1 : Says 224 wb x1 w) (h2 : Says 200 tb x2 w) :
    Calls Tryz.prog 19 #[.pointer (some ⟨lb, 0, none⟩)] w fun e w' => e = .returned (.bool (x0 && x1 && x2)) ∧ Keeps (fun _ => False) w w' := by
  obtain ⟨r, c, uv, us, fz, hfz, hd, hc, r0, r1, r2, _⟩ := h.hd
  have l0 : w.cell? ⟨lb, 0, none⟩ = some (.slice (some ⟨r, 0, none⟩) 3 c) := by rw [cell_block hd]; rfl
  have HC := Lib.hid (idxT_any r c (gvV gb) (wvV wb) (tvV tb) (!x0) (!x1) (!x2) w hc r0 r1 r2 (fun W k => over1_g gb x0 W (h0.keeps k)) (fun W k => over1_w wb x1 W (h1.keeps k)) (fun W k => over1_t tb x2 W (h2.keeps k)))
  have HD : Hid (Calls Tryz.prog 40 #[.slice (some ⟨r, 0, none⟩) 3 c, .func (.func 41) #[] #[]] w fun e w' => e = .returned (.bool (!(x0 && x1 && x2))) ∧ Keeps (fun _ => False) w w') := Lib.hid (by
    clear h h0 h1 h2 hd r0 r1 r2 l0
    go_enter Tryz.func40, Tryz.ntmps40
    go_wp2_with fail
    refine HC.out.mono ?_
    rintro e w' ⟨rfl, k⟩
    go_wp2_with fail
    go_ret
    exact ⟨by cases x0 <;> cases x1 <;> cases x2 <;> rfl, k⟩)
  clear h h0 h1 h2 hd r0 r1 r2 HC
  go_enter Tryz.func19, Tryz.ntmps19
  go_wp2_with fail
  refine HD.out.mono ?_
  rintro e w' ⟨rfl, k⟩
  go_wp2_with fail
  go_ret
  exact ⟨by cases x0 <;> cases x1 <;> cases x2 <;> rfl, k⟩
end
end Go.Proofs.YtgobcnheemocnaaGreatDoor
end
section
namespace Go.Proofs.YtgobcnheemocnaaGreatDoor
open Go.RowKit
set_option linter.unusedVariables false
set_option linter.unusedSimpArgs false
set_option maxRecDepth 100000

theorem info_intL : (Tryz.prog.info? 3).map (fun i => (i.zero, i.size, i.bytes)) = some (some (.int .i64 0), 1, 8) := by kernel_rfl
theorem wpList_one_intF {w : World} {ops : Array Oper} {rest : List Oper} {o : Oper} {a : Act} {Q : Exit → Act → World → Prop} (hgd : o.guard = none) (s x : Operand)
    (ho : o.op = .call { callee := .builtin .append, args := #[s, x], argTypes := #[23, 23] })
    (W0 : World) (v : Value) (xs : List Value) (V : Int) (hs : a.eval s = v) (hown : w.ownsRow W0.heap.size 3 1 v xs.length xs)
    (hx : a.eval x = .slice (some ⟨w.heap.size, 0, none⟩) 1 1) (hl : xs.length ≤ 100000) (hk : Keeps (fun _ => False) W0 w)
    (h : ∀ v' w', w'.ownsRow W0.heap.size 3 1 v' (xs ++ [Value.int .i64 V]).length (xs ++ [.int .i64 V]) → Keeps (fun _ => False) W0 w' → wpList Tryz.prog ops Q rest (a.put o.dst v') w') :
    wpList Tryz.prog ops Q (o :: rest) a (w.alloc (.cells #[.int .i64 V] 3)) := by
  obtain ⟨i0, hi, hz0, hz1, hz2⟩ := info_parts info_intL
  have hsz := hk.size
  refine wpList_append_own _ hgd s x 23 ho W0.heap.size 3 i0 _ 1 8 Tryz.underlying23 hi hz0 hz1 hz2 rfl (by decide) v _ xs hs (ownsRow_alloc hown _) ⟨w.heap.size, 0, none⟩ 1 1 [.int .i64 V] hx rfl (cells_new w [Value.int .i64 V] _) (by intro u hu; simp at hu; subst hu; rfl) (by unfold maxLen; omega) (by omega) (by simp; omega) (fun v' w' h1 h2 _ => h v' w' (by simpa using h1) ?_)
  exact (hk.alloc (.cells #[.int .i64 V] 3)).trans2 ((Keeps.refl (fun b => W0.heap.size ≤ b) _).grown h2 (fun b hb => Or.inl (ownBlock_base hown b hb))) (fun i hi e => by omega)
/-- A row of numbers, one's own; all else as it was. -/
def RoI (W0 : World) (l : List Value) (v : Value) (w : World) : Prop := w.ownsRow W0.heap.size 3 1 v l.length l ∧ Keeps (fun _ => False) W0 w
theorem RoI.keeps {W0 w w' : World} {l : List Value} {v : Value} (h : RoI W0 l v w) (k : Keeps (fun _ => False) w w') : RoI W0 l v w' := by
  refine ⟨⟨h.1.1, ?_⟩, h.2.trans k⟩
  rcases h.1.2 with h0 | ⟨g, cap, cur, rfl, hg, hh, hq⟩
  · exact Or.inl h0
  · exact Or.inr ⟨g, cap, cur, rfl, hg, k.heap hh id, hq⟩
def rdy1 (d : Bool) (l : List Value) (i : Int) : List Value := if d then l ++ [.int .i64 i] else l
theorem rdy1_len (d : Bool) (l : List Value) (i : Int) : (rdy1 d l i).length ≤ l.length + 1 := by cases d <;> simp [rdy1]
section
variable {w : World} {lb gb wb tb : Nat} {S : Nat → Prop} {n : Nat}
set_option maxHeartbeats 8000000 in
theorem lready_any {o0 o1 o2 r0 r1 r2 : Bool} (h : LoAt w lb gb wb tb S n) (h0 : Says 207 gb o0 w) (h1 : Says 224 wb o1 w) (h2 : Says 200 tb o2 w)
    (g0 : Says 208 gb r0 w) (g1 : Says 225 wb r1 w) (g2 : Says 201 tb r2 w) :
    Calls Tryz.prog 39 #[.pointer (some ⟨lb, 0, none⟩)] w fun e w' => ∃ v, e = .returned v ∧ RoI w (rdy1 (!o2 && r2) (rdy1 (!o1 && r1) (rdy1 (!o0 && r0) [] 0) 1) 2) v w' := by
  obtain ⟨r, c, uv, us, fz, hfz, hd, hc, k0, k1, k2, _⟩ := h.hd
  have l0 : w.cell? ⟨lb, 0, none⟩ = some (.slice (some ⟨r, 0, none⟩) 3 c) := by rw [cell_block hd]; rfl
  unfold gvV at k0
  unfold wvV at k1
  unfold tvV at k2
  have HK0 := Lib.hid k0
  have HK1 := Lib.hid k1
  have HK2 := Lib.hid k2
  have HO0 := Lib.hid h0
  have HO1 := Lib.hid h1
  have HO2 := Lib.hid h2
  have HR0 := Lib.hid g0
  have HR1 := Lib.hid g1
  have HR2 := Lib.hid g2
  have hB : RoI w [] (.slice none 0 0) w := ⟨World.ownsRow_nil _ _ _ _, Keeps.refl _ _⟩
  have HB0 := Lib.hid hB
  clear h h0 h1 h2 g0 g1 g2 hd k0 k1 k2 hB
  go_enter Tryz.func39, Tryz.ntmps39
  go_wp2_with fail
  refine wp_loop_rounds 4 ?_
  rw [rounds_succ]
  obtain ⟨l1, hl1⟩ : ∃ l, rdy1 (!o0 && r0) [] 0 = l := ⟨_, rfl⟩
  have HL1 := Lib.hid hl1
  clear hl1
  have q0 := HB0.out.2.cell HK0.out id
  go_upto_block 1 with fail
  go_cut [3, 4, 5] from 13 to 26 (fun v _ _ wx => RoI w l1 v wx)
  case first =>
    go_upto_region 5 with fail
    go_cut [22] from 16 to 22 (fun u wx => u = .bool (!o0 && r0) ∧ Keeps (fun _ => False) w wx)
    case first =>
      go_wp2_with fail
      refine (HO0.out w HB0.out.2).mono ?_
      rintro e wa ⟨rfl, ka⟩
      cases o0
      · go_wp2_with fail
        refine (HR0.out wa (HB0.out.2.trans ka)).mono ?_
        rintro e wc ⟨rfl, kc⟩
        go_wp2_with fail
        go_meet
        exact ⟨rfl, ka.trans kc⟩
      · go_wp2_with fail
        go_meet
        exact ⟨rfl, ka⟩
    case rest =>
    obtain ⟨rfl, kx⟩ := hcut
    rename_i wx
    have HX := Lib.hid (HB0.out.keeps kx)
    clear q0 kx
    have HE := HL1.out
    generalize (!o0 && r0) = d at HE ⊢
    have HE2 := Lib.hid HE
    clear HE
    cases d
    · go_wp2_with fail
      go_meet
      rw [← HE2.out]; exact HX.out
    · go_wp2_with (refine wpList_one_intF rfl (.tmp 23) (.tmp 25) rfl w _ [] 0 rfl HX.out.1 rfl (by decide) HX.out.2 ?_; intro v2 w2 y1 y2)
      go_meet
      rw [← HE2.out]; exact ⟨y1, y2⟩
  case rest =>
  revert hcut wc u3
  intro wy1 v1 hcut
  have HB1 : Hid (RoI w l1 v1 wy1) := Lib.hid hcut
  clear hcut q0
  go_wp2_with fail
  rw [rounds_succ]
  obtain ⟨l2, hl2⟩ : ∃ l, rdy1 (!o1 && r1) l1 1 = l := ⟨_, rfl⟩
  have HL2 := Lib.hid hl2
  clear hl2
  have q1 := HB1.out.2.cell HK1.out id
  go_upto_block 1 with fail
  go_cut [3, 4, 5] from 13 to 26 (fun v _ _ wx => RoI w l2 v wx)
  case first =>
    go_upto_region 5 with fail
    go_cut [22] from 16 to 22 (fun u wx => u = .bool (!o1 && r1) ∧ Keeps (fun _ => False) wy1 wx)
    case first =>
      go_wp2_with fail
      refine (HO1.out wy1 HB1.out.2).mono ?_
      rintro e wa ⟨rfl, ka⟩
      cases o1
      · go_wp2_with fail
        refine (HR1.out wa (HB1.out.2.trans ka)).mono ?_
        rintro e wc ⟨rfl, kc⟩
        go_wp2_with fail
        go_meet
        exact ⟨rfl, ka.trans kc⟩
      · go_wp2_with fail
        go_meet
        exact ⟨rfl, ka⟩
    case rest =>
    obtain ⟨rfl, kx⟩ := hcut
    rename_i wx
    have HX := Lib.hid (HB1.out.keeps kx)
    clear q1 kx
    have HE := HL2.out
    generalize (!o1 && r1) = d at HE ⊢
    have HE2 := Lib.hid HE
    clear HE
    cases d
    · go_wp2_with fail
      go_meet
      rw [← HE2.out]; exact HX.out
    · go_wp2_with (refine wpList_one_intF rfl (.tmp 23) (.tmp 25) rfl w _ l1 1 rfl HX.out.1 rfl (by rw [← HL1.out]; exact Nat.le_trans (rdy1_len _ _ _) (by decide)) HX.out.2 ?_; intro v2 w2 y1 y2)
      go_meet
      rw [← HE2.out]; exact ⟨y1, y2⟩
  case rest =>
  revert hcut wc u3
  intro wy2 v2 hcut
  have HB2 : Hid (RoI w l2 v2 wy2) := Lib.hid hcut
  clear hcut q1
  go_wp2_with fail
  rw [rounds_succ]
  obtain ⟨l3, hl3⟩ : ∃ l, rdy1 (!o2 && r2) l2 2 = l := ⟨_, rfl⟩
  have HL3 := Lib.hid hl3
  clear hl3
  have q2 := HB2.out.2.cell HK2.out id
  go_upto_block 1 with fail
  go_cut [3, 4, 5] from 13 to 26 (fun v _ _ wx => RoI w l3 v wx)
  case first =>
    go_upto_region 5 with fail
    go_cut [22] from 16 to 22 (fun u wx => u = .bool (!o2 && r2) ∧ Keeps (fun _ => False) wy2 wx)
    case first =>
      go_wp2_with fail
      refine (HO2.out wy2 HB2.out.2).mono ?_
      rintro e wa ⟨rfl, ka⟩
      cases o2
      · go_wp2_with fail
        refine (HR2.out wa (HB2.out.2.trans ka)).mono ?_
        rintro e wc ⟨rfl, kc⟩
        go_wp2_with fail
        go_meet
        exact ⟨rfl, ka.trans kc⟩
      · go_wp2_with fail
        go_meet
        exact ⟨rfl, ka⟩
    case rest =>
    obtain ⟨rfl, kx⟩ := hcut
    rename_i wx
    have HX := Lib.hid (HB2.out.keeps kx)
    clear q2 kx
    have HE := HL3.out
    generalize (!o2 && r2) = d at HE ⊢
    have HE2 := Lib.hid HE
    clear HE
    cases d
    · go_wp2_with fail
      go_meet
      rw [← HE2.out]; exact HX.out
    · go_wp2_with (refine wpList_one_intF rfl (.tmp 23) (.tmp 25) rfl w _ l2 2 rfl HX.out.1 rfl (by rw [← HL2.out]; refine Nat.le_trans (rdy1_len _ _ _) ?_; rw [← HL1.out]; exact Nat.le_trans (Nat.succ_le_succ (rdy1_len _ _ _)) (by decide)) HX.out.2 ?_; intro v2 w2 y1 y2)
      go_meet
      rw [← HE2.out]; exact ⟨y1, y2⟩
  case rest =>
  revert hcut wc u3
  intro wy3 v3 hcut
  have HB3 : Hid (RoI w l3 v3 wy3) := Lib.hid hcut
  clear hcut q2
  go_wp2_with fail
  rw [rounds_succ]
  go_wp2_with fail
  go_ret
  refine ⟨_, rfl, ?_⟩
  rw [HL1.out, HL2.out, HL3.out]
  exact HB3.out
end
end Go.Proofs.YtgobcnheemocnaaGreatDoor
end
section
namespace Go.Proofs.YtgobcnheemocnaaGreatDoor
open Go.RowKit
set_option linter.unusedVariables false
set_option linter.unusedSimpArgs false
set_option maxRecDepth 100000

theorem run_turn (w : World) (v : Value) (n : Nat) (us : List Value) (q : Int) (ty : TypeId) (hown : w.ownsRow 0 3 1 v n us) (hn : n ≤ 200000) (A : Nat) (hA : ∀ (j : Nat) (u : Value), [Value.int .i64 q][j]? = some u → w.cell? ((⟨A, 0, none⟩ : Addr).add j) = some u) :
    ∃ v' w', (Builtin.append_ #[23, 23] ty #[v, .slice (some ⟨A, 0, none⟩) 1 1]).run Tryz.prog w = .ok v' w' ∧ w'.ownsRow 0 3 1 v' (n + 1) (us ++ [.int .i64 q]) ∧ (∀ b, v'.ownBlock = some b → v.ownBlock = some b ∨ w.heap.size ≤ b ∧ b < w'.heap.size) ∧ Keeps (fun k => v.ownBlock = some k) w w' := by
  obtain ⟨i0, hi, hz0, hz1, hz2⟩ := info_parts info_intL
  have hone : ∀ u ∈ [Value.int .i64 q], u.oneCell' = true := by intro u hu; simp at hu; subst hu; rfl
  obtain ⟨v', w', hr, h2, h3, _⟩ := run_append_own (P := Tryz.prog) w 0 23 ty 3 i0 _ 1 8 Tryz.underlying23 hi hz0 hz1 hz2 rfl (by decide) v n us hown ⟨A, 0, none⟩ 1 1 [.int .i64 q] rfl hA hone (by unfold maxLen; omega) (by omega) (Nat.zero_le _)
  refine ⟨v', w', hr, h2, fun b hb => ?_, (Keeps.refl _ _).grown h3 fun k hk => Or.inl hk⟩
  have hlt : b < w'.heap.size := by
    rcases h2.2 with ⟨e, _⟩ | ⟨g, cap, cur, rfl, _, hg, _⟩
    · rw [e] at hb; cases hb
    · obtain rfl : g = b := Option.some.inj hb
      exact (Array.getElem?_eq_some_iff.1 hg).1
  have hl := hown.1
  rcases hown.2 with ⟨e, h0⟩ | ⟨g, cap, cur, e, hbg, hg, hnc, hcm, hcs, htake⟩
  · subst e
    subst h0
    have hown1 : w.ownsRow w.heap.size 3 1 (.slice none 0 0) 0 us := ⟨hl, Or.inl ⟨rfl, rfl⟩⟩
    obtain ⟨v2, w2, hr2, h5, _, _⟩ := run_append_own (P := Tryz.prog) w w.heap.size 23 ty 3 i0 _ 1 8 Tryz.underlying23 hi hz0 hz1 hz2 rfl (by decide) (.slice none 0 0) 0 us hown1 ⟨A, 0, none⟩ 1 1 [.int .i64 q] rfl hA hone (by unfold maxLen; omega) (by omega) (Nat.le_refl _)
    rw [hr] at hr2
    cases hr2
    exact Or.inr ⟨ownBlock_base h5 b hb, hlt⟩
  · subst e
    by_cases hroom : n + 1 ≤ cap
    · have hfit : n * i0.size + [Value.int .i64 q].length ≤ cur.size := by rw [hcs, hz1]; simp; omega
      have hr2 := run_append_room (P := Tryz.prog) w 23 ty 3 i0 Tryz.underlying23 hi g n cap cur hg ⟨A, 0, none⟩ 1 1 [.int .i64 q] (by rw [hz1]; rfl) hA hone hroom hfit
      rw [hr] at hr2
      cases hr2
      exact Or.inl hb
    · have hr2 := run_append_grow (P := Tryz.prog) w 23 ty 3 i0 _ Tryz.underlying23 hi hz0 ⟨g, 0, none⟩ n cap us (by rw [hz1]; exact hl) (hown.cells (g := g) rfl) ⟨A, 0, none⟩ 1 1 [.int .i64 q] (by rw [hz1]; rfl) hA (by omega) (by omega) (by rw [hz2]; exact growslice_fits (by omega) (by omega))
      rw [hr] at hr2
      cases hr2
      have : w.heap.size = b := by simpa [Value.ownBlock] using hb
      exact Or.inr ⟨by omega, hlt⟩
theorem wpList_turn {w : World} {ops : Array Oper} {rest : List Oper} {o : Oper} {a : Act} {Q : Exit → Act → World → Prop} (hgd : o.guard = none) (s x : Operand)
    (ho : o.op = .call { callee := .builtin .append, args := #[s, x], argTypes := #[23, 23] }) (v : Value) (n : Nat) (us : List Value) (q : Int) (hs : a.eval s = v) (hown : w.ownsRow 0 3 1 v n us) (hn : n ≤ 200000)
    (hx : a.eval x = .slice (some ⟨w.heap.size, 0, none⟩) 1 1)
    (h : ∀ v' w', w'.ownsRow 0 3 1 v' (n + 1) (us ++ [.int .i64 q]) → (∀ b, v'.ownBlock = some b → v.ownBlock = some b ∨ w.heap.size ≤ b ∧ b < w'.heap.size) → Keeps (fun k => v.ownBlock = some k) w w' → wpList Tryz.prog ops Q rest (a.put o.dst v') w') :
    wpList Tryz.prog ops Q (o :: rest) a (w.alloc (.cells #[.int .i64 q] 3)) := by
  obtain ⟨v', w', hr, h1, h2, h3⟩ := run_turn (w.alloc (.cells #[.int .i64 q] 3)) v n us q o.type (ownsRow_alloc hown _) hn w.heap.size (cells_new w [Value.int .i64 q] _)
  refine wpList_plain hgd fun _ hK => ?_
  unfold Oper.wp execOp
  simp only [ho, resolve, invoke, builtin, Sem.run_bind, Sem.run_pure, Result.andThen_ok, List.map_toArray, List.map_cons, List.map_nil, hs, hx, hr]
  refine hK _ _ (h v' w' h1 (fun b hb => ?_) (((Keeps.refl (fun k => v.ownBlock = some k) w).alloc _).trans h3))
  rcases h2 b hb with e | ⟨e1, e2⟩
  · exact Or.inl e
  · exact Or.inr ⟨by simp at e1; omega, e2⟩
def rdyL (d0 d1 d2 : Bool) : List Value := rdy1 d2 (rdy1 d1 (rdy1 d0 [] 0) 1) 2
theorem rdyL_get (d0 d1 d2 : Bool) (k : Nat) (h : k < (rdyL d0 d1 d2).length) : ∃ q : Int, (rdyL d0 d1 d2)[k]? = some (.int .i64 q) ∧ ((q = 0 ∧ d0 = true) ∨ (q = 1 ∧ d1 = true) ∨ (q = 2 ∧ d2 = true)) := by
  have : k < 3 := Nat.lt_of_lt_of_le h (by cases d0 <;> cases d1 <;> cases d2 <;> decide)
  obtain rfl | rfl | rfl : k = 0 ∨ k = 1 ∨ k = 2 := by omega
  all_goals
    cases d0 <;> cases d1 <;> cases d2 <;> first | exact absurd h (by decide) | exact ⟨0, rfl, by simp⟩ | exact ⟨1, rfl, by simp⟩ | exact ⟨2, rfl, by simp⟩
theorem pick_in (p : Int) (n : Nat) (h : 0 < n) : ∃ k : Nat, k < n ∧ (p.tmod n + n).tmod n = (k : Int) ∧ -(n : Int) < p.tmod n ∧ p.tmod n < n := by
  have hn : (0 : Int) < n := by omega
  have h1 := Int.tmod_lt_of_pos p hn
  have h2 : -(n : Int) < p.tmod n := by
    have := Int.tmod_lt_of_pos (-p) hn
    rw [Int.neg_tmod] at this
    omega
  have h3 : 0 ≤ (p.tmod n + n).tmod n := Int.tmod_nonneg _ (by omega)
  have h4 := Int.tmod_lt_of_pos (p.tmod n + n) hn
  exact ⟨((p.tmod n + n).tmod n).toNat, by omega, by omega, h2, h1⟩
section
variable {w : World} {lb gb wb tb : Nat} {S : Nat → Prop} {n : Nat}
set_option maxHeartbeats 4000000 in
theorem lstep_none {o0 o1 o2 r0 r1 r2 : Bool} (p : Int) (h : LoAt w lb gb wb tb S n) (h0 : Says 207 gb o0 w) (h1 : Says 224 wb o1 w) (h2 : Says 200 tb o2 w)
    (g0 : Says 208 gb r0 w) (g1 : Says 225 wb r1 w) (g2 : Says 201 tb r2 w) (hd : rdyL (!o0 && r0) (!o1 && r1) (!o2 && r2) = []) :
    Calls Tryz.prog 18 #[.pointer (some ⟨lb, 0, none⟩), .int .i64 p] w fun e w' => e = .returned (.tuple #[.int .i64 0, .bool false]) ∧ Keeps (fun _ => False) w w' := by
  have HC := Lib.hid (lready_any h h0 h1 h2 g0 g1 g2)
  have HD := Lib.hid hd
  clear h h0 h1 h2 g0 g1 g2 hd
  go_enter Tryz.func18, Tryz.ntmps18
  go_wp2_with fail
  refine HC.out.mono ?_
  rintro e w' ⟨v, rfl, hv⟩
  have hv2 : RoI w [] v w' := by rw [← HD.out]; exact hv
  obtain ⟨a, c, rfl⟩ := ownsRow_slice hv2.1
  have HV := Lib.hid hv2
  clear hv hv2
  simp only [List.length_nil]
  go_wp2_with fail
  go_ret2
  exact ⟨rfl, HV.out.2⟩
set_option maxHeartbeats 8000000 in
theorem lstep_some {o0 o1 o2 r0 r1 r2 : Bool} {P0 P1 P2 : World → World → Prop} (p : Int) (hp1 : -9223372036854775808 ≤ p) (hp2 : p ≤ 9223372036854775807) (h : LoAt w lb gb wb tb S n) (hn : n ≤ 200000) (h0 : Says 207 gb o0 w) (h1 : Says 224 wb o1 w) (h2 : Says 200 tb o2 w)
    (g0 : Says 208 gb r0 w) (g1 : Says 225 wb r1 w) (g2 : Says 201 tb r2 w) (hd : 0 < (rdyL (!o0 && r0) (!o1 && r1) (!o2 && r2)).length)
    (s0 : (!o0 && r0) = true → ∀ W, Keeps S w W → Calls Tryz.prog 209 #[.pointer (some ⟨gb, 0, none⟩)] W fun e w' => e = .returned (.tuple #[]) ∧ P0 W w')
    (s1 : (!o1 && r1) = true → ∀ W, Keeps S w W → Calls Tryz.prog 226 #[.pointer (some ⟨wb, 0, none⟩)] W fun e w' => e = .returned (.tuple #[]) ∧ P1 W w')
    (s2 : (!o2 && r2) = true → ∀ W, Keeps S w W → Calls Tryz.prog 202 #[.pointer (some ⟨tb, 0, none⟩)] W fun e w' => e = .returned (.tuple #[]) ∧ P2 W w') :
    Calls Tryz.prog 18 #[.pointer (some ⟨lb, 0, none⟩), .int .i64 p] w fun e w' => ∃ (q : Int) (W : World), e = .returned (.tuple #[.int .i64 q, .bool true]) ∧ Keeps S w W ∧ LoAt W lb gb wb tb (GrP S w W) (n + 1) ∧ (((!o0 && r0) = true ∧ P0 W w') ∨ ((!o1 && r1) = true ∧ P1 W w') ∨ ((!o2 && r2) = true ∧ P2 W w')) := by
  have HC := Lib.hid (lready_any h h0 h1 h2 g0 g1 g2)
  have HL := Lib.hid h.low
  generalize (!o0 && r0) = d0 at *
  generalize (!o1 && r1) = d1 at *
  generalize (!o2 && r2) = d2 at *
  obtain ⟨R, hR⟩ : ∃ R, rdyL d0 d1 d2 = R := ⟨_, rfl⟩
  have HR := Lib.hid hR
  obtain ⟨k, hk, hpk, hb1, hb2⟩ := pick_in p R.length (by rw [← hR]; exact hd)
  obtain ⟨q, hq, hqd⟩ := rdyL_get d0 d1 d2 k (by rw [hR]; exact hk)
  rw [hR] at hq
  have hR3 : R.length ≤ 3 := by rw [← hR]; cases d0 <;> cases d1 <;> cases d2 <;> decide
  have hR0 : 0 < R.length := by omega
  have hR0' : ((R.length : Int) == 0) = false := beq_eq_false_iff_ne.2 (by omega)
  have hR1 : ¬ ((R.length : Int) = 0) := by omega
  have HS0 := Lib.hid s0
  have HS1 := Lib.hid s1
  have HS2 := Lib.hid s2
  have HQ := Lib.hid hq
  have HQD := Lib.hid hqd
  clear h h0 h1 h2 g0 g1 g2 s0 s1 s2 hR hq hqd hd
  go_enter Tryz.func18, Tryz.ntmps18
  go_wp2_with fail
  refine HC.out.mono ?_
  rintro e w1 ⟨v, rfl, hv⟩
  have hv2 : RoI w R v w1 := by rw [← HR.out]; exact hv
  obtain ⟨g, c, rfl, hg⟩ : ∃ g c, v = .slice (some ⟨g, 0, none⟩) R.length c ∧ R.length ≤ c := by
    rcases hv2.1.2 with ⟨_, e⟩ | ⟨g, c, cur, e, _, _, hc, _⟩
    · omega
    · exact ⟨g, c, e, hc⟩
  have ck : w1.cell? ⟨g, k, none⟩ = some (.int .i64 q) := by
    have := hv2.1.cells (g := g) rfl k _ HQ.out
    have e : (⟨g, 0, none⟩ : Addr).add k = ⟨g, k, none⟩ := by unfold Addr.add; split <;> simp_all
    rwa [e] at this
  have L1 := HL.out.keeps hv2.2 (fun _ _ => id)
  obtain ⟨r, rc, uv, us, fz, hfz, hd, hrc, t0, t1, t2, hr, hrl, hown, hu⟩ := L1.hd
  have l0 : w1.cell? ⟨lb, 0, none⟩ = some (.slice (some ⟨r, 0, none⟩) 3 rc) := by rw [cell_block hd]; rfl
  have l1 : w1.cell? ⟨lb, 1, none⟩ = some uv := by rw [cell_block hd]; rfl
  have HV := Lib.hid hv2.2
  have HU := Lib.hid hown
  have HN := Lib.hid hn
  have HZ := Lib.hid hfz
  have H1 := Lib.hid (And.intro hd (And.intro t0 (And.intro t1 (And.intro t2 (And.intro hr (And.intro hrl (And.intro hu L1.sb)))))))
  clear hv hv2 HC L1 hd t0 t1 t2 hr hrl hown hu hn hfz
  go_wp2_with (refine wpList_turn rfl (.tmp 29) (.tmp 31) rfl uv n us q rfl HU.out HN.out rfl ?_)
  intro v' w2 ho hf hk2
  obtain ⟨hd, t0, t1, t2, hr, hrl, hu, hsb⟩ := H1.out
  have hd2 := hk2.heap hd (fun e => (hu _ e).2.1 rfl)
  have u0 := hk2.cell t0 (fun e => (hu _ e).2.2 rfl)
  have u1 := hk2.cell t1 (fun e => (hu _ e).2.2 rfl)
  have u2 := hk2.cell t2 (fun e => (hu _ e).2.2 rfl)
  have f1 : w2.frozen? ⟨lb, 1, none⟩ = false := frozen_thw hd2 HZ.out 1 (by decide)
  have x1 : w2.cell? ⟨lb, 1, none⟩ = some uv := by rw [cell_block hd2]; rfl
  obtain ⟨va, vc, rfl⟩ := ownsRow_slice ho
  obtain ⟨w3, hw3⟩ : ∃ W, w2.setCell ⟨lb, 1, none⟩ (.slice va (n + 1) vc) = W := ⟨_, rfl⟩
  have k3 : Keeps (fun k => k = lb) w2 w3 := by rw [← hw3]; exact setQ _ _ _ _
  have hd3 : w3.heap[lb]? = some (.cells #[.slice (some ⟨r, 0, none⟩) 3 rc, .slice va (n + 1) vc] 97 fz) := by rw [← hw3]; exact cellQ_setF 1 _ hd2
  have y0 := k3.cell u0 hrl
  have y1 := k3.cell u1 hrl
  have y2 := k3.cell u2 hrl
  have z0 : w3.cell? ⟨lb, 0, none⟩ = some (.slice (some ⟨r, 0, none⟩) 3 rc) := by rw [cell_block hd3]; rfl
  have zz := HV.out.size
  have K3 : Keeps S w w3 := (HV.out.mono fun _ _ e => e.elim).trans ((hk2.mono (T := S) fun k _ e => (hu k e).1.1).trans (k3.mono fun k _ e => by rw [e]; exact hsb.1))
  have hrlt : r < w.heap.size := hr.2
  have hlb : lb < w.heap.size := hsb.2
  have hfr : ∀ b, va.map (·.block) = some b → GrP S w w3 b ∧ b ≠ lb ∧ b ≠ r := by
    intro b hb
    have hb2 : (Value.slice va (n + 1) vc).ownBlock = some b := by cases va with | none => simp at hb | some a => simpa [Value.ownBlock] using hb
    rcases hf b hb2 with e | ⟨e1, e2⟩
    · exact ⟨Or.inl (hu b e).1.1, (hu b e).2⟩
    · have := k3.size
      exact ⟨Or.inr ⟨by omega, by omega⟩, by omega, by omega⟩
  have HLo : Hid (LoAt w3 lb gb wb tb (GrP S w w3) (n + 1)) := Lib.hid ⟨⟨r, rc, _, us ++ [.int .i64 q], fz, HZ.out, hd3, hrc, y0, y1, y2, Or.inl hr.1, hrl, ⟨ho.1, by
    rcases ho.2 with h0 | ⟨g2, cap, cur, e, hg2, hh, hq⟩
    · exact Or.inl h0
    · refine Or.inr ⟨g2, cap, cur, e, hg2, k3.heap hh (fun e2 => ?_), hq⟩
      injection e with e _ _
      subst e
      exact (hfr g2 rfl).2.1 e2⟩, fun b hb => hfr b (by cases va with | none => simp [Value.ownBlock] at hb | some a => simpa [Value.ownBlock] using hb)⟩, Or.inl hsb.1⟩
  have HW3 := Lib.hid hw3
  have HK3 := Lib.hid K3
  have HY := Lib.hid (And.intro y0 (And.intro y1 y2))
  clear hd hd2 hd3 t0 t1 t2 hr hrl hu hsb u0 u1 u2 k3 K3 hw3 ho hf hk2 hfr y0 y1 y2 hrlt hlb H1 HU l0 l1
  go_upto_region 7 with fail
  rw [HW3.out]
  clear HW3 x1 f1
  rcases HQD.out with ⟨rfl, hdd⟩ | ⟨rfl, hdd⟩ | ⟨rfl, hdd⟩
  · have y0 := HY.out.1
    have HC := Lib.hid (HS0.out hdd w3 HK3.out)
    unfold gvV at y0
    clear HS0 HS1 HS2 HY
    go_wp2_with fail
    refine HC.out.mono ?_
    rintro e w4 ⟨rfl, hP⟩
    go_wp2_with fail
    go_ret2
    exact ⟨_, w3, rfl, HK3.out, HLo.out, Or.inl ⟨hdd, hP⟩⟩
  · have y0 := HY.out.2.1
    have HC := Lib.hid (HS1.out hdd w3 HK3.out)
    unfold wvV at y0
    clear HS0 HS1 HS2 HY
    go_wp2_with fail
    refine HC.out.mono ?_
    rintro e w4 ⟨rfl, hP⟩
    go_wp2_with fail
    go_ret2
    exact ⟨_, w3, rfl, HK3.out, HLo.out, Or.inr (Or.inl ⟨hdd, hP⟩)⟩
  · have y0 := HY.out.2.2
    have HC := Lib.hid (HS2.out hdd w3 HK3.out)
    unfold tvV at y0
    clear HS0 HS1 HS2 HY
    go_wp2_with fail
    refine HC.out.mono ?_
    rintro e w4 ⟨rfl, hP⟩
    go_wp2_with fail
    go_ret2
    exact ⟨_, w3, rfl, HK3.out, HLo.out, Or.inr (Or.inr ⟨hdd, hP⟩)⟩
end
end Go.Proofs.YtgobcnheemocnaaGreatDoor
end
