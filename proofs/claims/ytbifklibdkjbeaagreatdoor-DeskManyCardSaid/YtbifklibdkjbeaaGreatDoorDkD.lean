/-
  The walks of desk.with: a step, a finish, a drop. No condition.
-/
import Derived.Test.YtbifklibdkjbeaaGreatDoorDkC
namespace Go.Proofs.YtbifklibdkjbeaaGreatDoor
open Go.RowKit Go.WideMaps Go.Maps
set_option linter.unusedVariables false
set_option linter.unusedSimpArgs false
set_option maxRecDepth 100000

/-- A deed's cells: kind, run, job; nothing else. -/
def dCs (kd rn : Int) (J : JV) : Array Value := #[.int .i64 kd, .int .i64 rn, .int .i64 0, .string ⟨#[]⟩, .slice none 0 0, .slice J.da J.dn J.dc, .slice J.sa J.sn J.sc, .int .i64 J.fl, .int .i64 J.cd, .int .i64 J.mo, .string ⟨J.pt.toArray⟩, .int .i64 J.ev, .int .i64 J.bd, .int .i64 J.te, .int .i64 J.be, .int .i64 J.af, .int .i64 J.rf, .int .i64 J.bu, .int .i64 J.ch, .int .i64 J.ro, .int .i64 J.wo, .int .i64 J.rg]
theorem dCs_size (kd rn : Int) (J : JV) : (Tryz.prog.info? 70).map (·.size) = some (dCs kd rn J).size := by
  show _ = some 22
  kernel_rfl
def ocZ : Array Value := #[.int .i64 0, .int .i64 0, .int .i64 0, .string ⟨#[]⟩]
theorem oc_run {w : World} {b : Nat} {e n m : Value} {s : Value} (h : w.heap[b]? = some (.cells #[e, n, m, s] 72 (0, 0))) :
    w.cell? ⟨b, 0, none⟩ = some e ∧ w.cell? ⟨b, 1, none⟩ = some n ∧ w.cell? ⟨b, 2, none⟩ = some m ∧ w.cell? ⟨b, 3, none⟩ = some s ∧ ∀ o, w.frozen? ⟨b, o, none⟩ = false :=
  ⟨by rw [cell_block h]; rfl, by rw [cell_block h]; rfl, by rw [cell_block h]; rfl, by rw [cell_block h]; rfl, fun o => frozen_block h o none⟩
theorem three_news (w : World) (D E F : Obj) : ((((w.alloc D).alloc E).alloc F).heap[w.heap.size]? = (w.alloc D).heap[w.heap.size]?) ∧ ((((w.alloc D).alloc E).alloc F).heap[w.heap.size + 1]? = ((w.alloc D).alloc E).heap[w.heap.size + 1]?) := by
  constructor
  · rw [Below.heap_alloc _ _ _ (by simp; omega), Below.heap_alloc _ _ _ (by simp)]
  · rw [Below.heap_alloc _ _ _ (by simp)]
theorem with_end {w wa w2 w3 w4 w5 w6 : World} {S : Nat → Prop} {R : RSt} {rp : Value} {o : Value} (hS : ∀ b, S b → b < w.heap.size) (h0 : Keeps (fun _ => False) w wa) (h2 : Keeps S wa w2) (h3 : Keeps (fun b => b = w.heap.size + 2) w2 w3) (h4 : Keeps (Gr S wa w2) w3 w4)
    (h5 : Keeps (fun b => b = w.heap.size + 2) w4 w5) (h6 : Keeps (fun b => b = w.heap.size + 1) w5 w6) (hX : ∀ b, Gr S wa w2 b → b ≠ w.heap.size + 1 ∧ b ≠ w.heap.size + 2 ∧ (S b ∨ (w.heap.size ≤ b ∧ b < w2.heap.size))) (hr : RunS R w4 rp (Gr (Gr S wa w2) w3 w4)) (ha : wa.heap.size = w.heap.size + 3 := by simp) :
    Ending.returned o = .returned o ∧ RunS R w6 rp (Gr S w w6) ∧ Keeps S w w6 := by
  have s0 := h0.size
  have s2 := h2.size
  have s3 := h3.size
  have s4 := h4.size
  have s5 := h5.size
  have s6 := h6.size
  have hb : ∀ b, Gr (Gr S wa w2) w3 w4 b → b ≠ w.heap.size + 1 ∧ b ≠ w.heap.size + 2 ∧ Gr S w w6 b := by
    intro b hb
    rcases hb with hb | hb
    · obtain ⟨x1, x2, x3⟩ := hX b hb
      refine ⟨x1, x2, ?_⟩
      rcases x3 with x3 | x3
      · exact Or.inl x3
      · exact Or.inr ⟨x3.1, by omega⟩
    · exact ⟨by omega, by omega, Or.inr ⟨by omega, by omega⟩⟩
  refine ⟨rfl, ((hr.keeps h5 (fun b hb' => (hb b hb').2.1)).keeps h6 (fun b hb' => (hb b hb').1)).mono (fun b hb' => (hb b hb').2.2), ?_⟩
  refine ((((((h0.mono (T := S) (fun _ _ h => h.elim)).trans2 h2 (fun i hi h => h)).trans2 h3 (fun i hi e => by omega)).trans2 h4 (fun i hi h => ?_)).trans2 h5 (fun i hi e => by omega)).trans2 h6 (fun i hi e => by omega))
  rcases (hX i h).2.2 with h | h
  · exact h
  · omega
set_option maxHeartbeats 4000000 in
theorem with_step (db : Nat) (rn : Int) (J : JV) (rp : Value) (S : Nat → Prop) (w : World) (hr : RunS rNew w rp S) (hS : ∀ b, S b → b < w.heap.size) :
    Calls Tryz.prog 47 #[.pointer (some ⟨db, 0, none⟩), rp, .agg (dCs 1 rn J)] w fun e w' => e = .returned (ocV 0 1 1) ∧ RunS rStep1 w' rp (Gr S w w') ∧ Keeps S w w' := by
  have HR := Lib.hid (fun W (K : Keeps (fun _ => False) w W) => hr.keeps K (fun _ _ => id))
  have HA := Lib.hid (fun W rp h => step_first W rp S h)
  have HB := Lib.hid (fun W rp S h => steps_first W rp S h)
  have HO := Lib.hid (fun W => desk_one true W)
  have HSS := Lib.hid hS
  have hD : (w.alloc (.cells (dCs 1 rn J) 70)).heap[w.heap.size]? = some (.cells (dCs 1 rn J) 70 (0, 0)) := heap_alloc_new w _
  have q0 : (dCs 1 rn J)[0]? = some (.int .i64 1) := rfl
  have q2 : (dCs 1 rn J)[2]? = some (.int .i64 0) := rfl
  generalize dCs 1 rn J = D at *
  have g0 : (((w.alloc (.cells D 70)).alloc (.cells #[.int .i64 0, .int .i64 0, .int .i64 0, .string ⟨#[]⟩] 72)).alloc (.cells #[.int .i64 0, .int .i64 0, .int .i64 0, .string ⟨#[]⟩] 72)).cell? ⟨w.heap.size, 0, none⟩ = some (.int .i64 1) := by
    rw [cell_block (((three_news w _ _ _).1).trans hD), q0]
  have g2 : (((w.alloc (.cells D 70)).alloc (.cells #[.int .i64 0, .int .i64 0, .int .i64 0, .string ⟨#[]⟩] 72)).alloc (.cells #[.int .i64 0, .int .i64 0, .int .i64 0, .string ⟨#[]⟩] 72)).cell? ⟨w.heap.size, 2, none⟩ = some (.int .i64 0) := by
    rw [cell_block (((three_news w _ _ _).1).trans hD), q2]
  have G1 : Hid ((((w.alloc (.cells D 70)).alloc (.cells #[.int .i64 0, .int .i64 0, .int .i64 0, .string ⟨#[]⟩] 72)).alloc (.cells #[.int .i64 0, .int .i64 0, .int .i64 0, .string ⟨#[]⟩] 72)).heap[w.heap.size + 1]? = some (.cells #[.int .i64 0, .int .i64 0, .int .i64 0, .string ⟨#[]⟩] 72 (0, 0))) := Lib.hid (by
    rw [(three_news w _ _ _).2]
    have := heap_alloc_new (w.alloc (.cells D 70)) (.cells #[.int .i64 0, .int .i64 0, .int .i64 0, .string ⟨#[]⟩] 72)
    rw [show (w.alloc (.cells D 70)).heap.size = w.heap.size + 1 by simp] at this
    exact this)
  have G2 : Hid ((((w.alloc (.cells D 70)).alloc (.cells #[.int .i64 0, .int .i64 0, .int .i64 0, .string ⟨#[]⟩] 72)).alloc (.cells #[.int .i64 0, .int .i64 0, .int .i64 0, .string ⟨#[]⟩] 72)).heap[w.heap.size + 2]? = some (.cells #[.int .i64 0, .int .i64 0, .int .i64 0, .string ⟨#[]⟩] 72 (0, 0))) := Lib.hid (by
    have := heap_alloc_new ((w.alloc (.cells D 70)).alloc (.cells #[.int .i64 0, .int .i64 0, .int .i64 0, .string ⟨#[]⟩] 72)) (.cells #[.int .i64 0, .int .i64 0, .int .i64 0, .string ⟨#[]⟩] 72)
    rw [show ((w.alloc (.cells D 70)).alloc (.cells #[.int .i64 0, .int .i64 0, .int .i64 0, .string ⟨#[]⟩] 72)).heap.size = w.heap.size + 2 by simp] at this
    exact this)
  have HK := Lib.hid (Keeps.alloc (Keeps.alloc (Keeps.alloc (Keeps.refl (fun _ => False) w) (.cells D 70)) (.cells #[.int .i64 0, .int .i64 0, .int .i64 0, .string ⟨#[]⟩] 72)) (.cells #[.int .i64 0, .int .i64 0, .int .i64 0, .string ⟨#[]⟩] 72))
  clear hr hS hD q0 q2
  generalize rNew = R0 at *
  generalize rStep = R1 at *
  generalize rStep1 = R2 at *
  go_enter Tryz.func47, Tryz.ntmps47
  go_wp2_with fail
  refine (HA.out _ rp (HR.out _ HK.out)).mono ?_
  rintro e w2 ⟨rfl, hr2, k2⟩
  have HR2 := Lib.hid hr2
  have K2 := Lib.hid k2
  have oa := k2.heap G1.out (fun h => by have := HSS.out _ h; omega)
  have ob := k2.heap G2.out (fun h => by have := HSS.out _ h; omega)
  have OA := Lib.hid oa
  have OB := Lib.hid ob
  clear hr2 k2 oa ob g0 g2 G1 G2
  go_wp2_with fail
  refine (HO.out _).mono ?_
  rintro e w3 ⟨rfl, rfl⟩
  obtain ⟨b0, b1, b2, b3, bf⟩ := oc_run OB.out
  have bf1 := bf 1
  go_upto_region 6 with fail
  have hX : ∀ b, Gr S (((w.alloc (.cells D 70)).alloc (.cells #[.int .i64 0, .int .i64 0, .int .i64 0, .string ⟨#[]⟩] 72)).alloc (.cells #[.int .i64 0, .int .i64 0, .int .i64 0, .string ⟨#[]⟩] 72)) w3 b → b ≠ w.heap.size + 1 ∧ b ≠ w.heap.size + 2 ∧ (S b ∨ (w.heap.size ≤ b ∧ b < w3.heap.size)) := by
    intro b hb
    rcases hb with hb | hb
    · have := HSS.out _ hb; exact ⟨by omega, by omega, Or.inl hb⟩
    · simp at hb; exact ⟨by omega, by omega, Or.inr ⟨by omega, hb.2⟩⟩
  have HX := Lib.hid hX
  have KA : Keeps (fun b => b = w.heap.size + 2) w3 (w3.setCell ⟨w.heap.size + 1 + 1, 1, none⟩ (.int .i64 1)) := (Keeps.refl (fun b => b = w.heap.size + 2) w3).set (p := ⟨w.heap.size + 1 + 1, 1, none⟩) rfl _
  have HR3 := HR2.out.keeps KA (fun b hb e => (hX b hb).2.1 e)
  have OB3 : Bk (w3.setCell ⟨w.heap.size + 1 + 1, 1, none⟩ (.int .i64 1)) (w.heap.size + 2) 72 [.int .i64 0, .int .i64 1, .int .i64 0, .string ⟨#[]⟩] := Bk.set (show Bk w3 (w.heap.size + 2) 72 [.int .i64 0, .int .i64 0, .int .i64 0, .string ⟨#[]⟩] from OB.out) 1 _
  have OA3 := KA.heap OA.out (by omega)
  have HKA := Lib.hid KA
  have HRR := Lib.hid HR3
  have HOA := Lib.hid OA3
  have HOB := Lib.hid OB3
  clear KA HR3 OB3 OA3 b0 b1 b2 b3 bf bf1 hX
  go_wp2_with fail
  refine (HB.out _ rp _ HRR.out).mono ?_
  rintro e w4 ⟨rfl, hr4, k4⟩
  have oa4 := k4.heap HOA.out (fun h => (HX.out _ h).1 rfl)
  have ob4 := k4.heap HOB.out (fun h => (HX.out _ h).2.1 rfl)
  have HR4 := Lib.hid hr4
  have K4 := Lib.hid k4
  have OA4 := Lib.hid oa4
  have OB4 := Lib.hid ob4
  obtain ⟨b0, b1, b2, b3, bf⟩ := oc_run OB4.out
  have bf2 := bf 2
  clear hr4 k4 oa4 ob4
  go_upto_region 21 with fail
  have KB : Keeps (fun b => b = w.heap.size + 2) w4 (w4.setCell ⟨w.heap.size + 1 + 1, 2, none⟩ (.int .i64 1)) := (Keeps.refl (fun b => b = w.heap.size + 2) w4).set (p := ⟨w.heap.size + 1 + 1, 2, none⟩) rfl _
  have ob5 : Bk (w4.setCell ⟨w.heap.size + 1 + 1, 2, none⟩ (.int .i64 1)) (w.heap.size + 2) 72 [.int .i64 0, .int .i64 1, .int .i64 1, .string ⟨#[]⟩] := Bk.set (show Bk w4 (w.heap.size + 2) 72 [.int .i64 0, .int .i64 1, .int .i64 0, .string ⟨#[]⟩] from OB4.out) 2 _
  have OB5 := Lib.hid ob5
  have OA5 := Lib.hid (KB.heap OA4.out (by omega))
  have HKB := Lib.hid KB
  clear KB ob5 b0 b1 b2 b3 bf bf2
  go_wp2_with (first
    | (refine wpList_load_row rfl 72 (.tmp 7) rfl (w.heap.size + 2) rfl 72 #[.int .i64 0, .int .i64 1, .int .i64 1, .string ⟨#[]⟩] (0, 0) _ OB5.out Tryz.underlying72 rfl oc_size ?_)
    | (refine wpList_store_row rfl 72 (.tmp 6) (.tmp 83) rfl (w.heap.size + 1) #[.int .i64 0, .int .i64 1, .int .i64 1, .string ⟨#[]⟩] rfl rfl 72 _ OA5.out oc_size rfl (oc_one _ _ _) ?_))
  refine bodyPost_ret (results_cell_row rfl _ _ (w.heap.size + 1) 72 #[.int .i64 0, .int .i64 1, .int .i64 1, .string ⟨#[]⟩] (0, 0) _ rfl (setRow_heap _ _ _ _ _ _ OA5.out) Tryz.underlying72 rfl oc_size) rfl ?_
  exact with_end HSS.out HK.out K2.out HKA.out K4.out HKB.out (keeps_row _ _ _) (fun b h => HX.out b h) HR4.out
end Go.Proofs.YtbifklibdkjbeaaGreatDoor
