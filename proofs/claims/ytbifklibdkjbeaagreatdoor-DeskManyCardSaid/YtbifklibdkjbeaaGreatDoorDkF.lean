/-
  The walks of desk.with: a finish, a drop. No condition.
-/
import Derived.Test.YtbifklibdkjbeaaGreatDoorDkD
namespace Go.Proofs.YtbifklibdkjbeaaGreatDoor
open Go.RowKit Go.WideMaps Go.Maps
set_option linter.unusedVariables false
set_option linter.unusedSimpArgs false
set_option maxRecDepth 100000

set_option maxHeartbeats 4000000 in
theorem with_finish (db : Nat) (rn : Int) (J : JV) (rp : Value) (S : Nat → Prop) (w : World) (hr : RunS rBusy w rp S) (hS : ∀ b, S b → b < w.heap.size) :
    Calls Tryz.prog 47 #[.pointer (some ⟨db, 0, none⟩), rp, .agg (dCs 2 rn J)] w fun e w' => ∃ n m, e = .returned (ocV 0 n m) ∧ RunS rFin1 w' rp (Gr S w w') ∧ Keeps S w w' := by
  have HR := Lib.hid (fun W (K : Keeps (fun _ => False) w W) => hr.keeps K (fun _ _ => id))
  have HA := Lib.hid (fun W rp h => finish_busy W rp S h)
  have HB := Lib.hid (fun W rp S h => steps_fin W rp S h)
  have HSS := Lib.hid hS
  have hD : (w.alloc (.cells (dCs 2 rn J) 70)).heap[w.heap.size]? = some (.cells (dCs 2 rn J) 70 (0, 0)) := heap_alloc_new w _
  have q0 : (dCs 2 rn J)[0]? = some (.int .i64 2) := rfl
  have q2 : (dCs 2 rn J)[4]? = some (.slice none 0 0) := rfl
  generalize dCs 2 rn J = D at *
  have g0 : (((w.alloc (.cells D 70)).alloc (.cells #[.int .i64 0, .int .i64 0, .int .i64 0, .string ⟨#[]⟩] 72)).alloc (.cells #[.int .i64 0, .int .i64 0, .int .i64 0, .string ⟨#[]⟩] 72)).cell? ⟨w.heap.size, 0, none⟩ = some (.int .i64 2) := by
    rw [cell_block (((three_news w _ _ _).1).trans hD), q0]
  have g2 : (((w.alloc (.cells D 70)).alloc (.cells #[.int .i64 0, .int .i64 0, .int .i64 0, .string ⟨#[]⟩] 72)).alloc (.cells #[.int .i64 0, .int .i64 0, .int .i64 0, .string ⟨#[]⟩] 72)).cell? ⟨w.heap.size, 4, none⟩ = some (.slice none 0 0) := by
    rw [cell_block (((three_news w _ _ _).1).trans hD), q2]
  have G1 : Hid ((((w.alloc (.cells D 70)).alloc (.cells #[.int .i64 0, .int .i64 0, .int .i64 0, .string ⟨#[]⟩] 72)).alloc (.cells #[.int .i64 0, .int .i64 0, .int .i64 0, .string ⟨#[]⟩] 72)).heap[w.heap.size + 1]? = some (.cells #[.int .i64 0, .int .i64 0, .int .i64 0, .string ⟨#[]⟩] 72 (0, 0))) := Lib.hid (by
    rw [(three_news w _ _ _).2]
    have := heap_alloc_new (w.alloc (.cells D 70)) (.cells #[.int .i64 0, .int .i64 0, .int .i64 0, .string ⟨#[]⟩] 72)
    rw [show (w.alloc (.cells D 70)).heap.size = w.heap.size + 1 by simp] at this
    exact this)
  have G2 : Hid ((((w.alloc (.cells D 70)).alloc (.cells #[.int .i64 0, .int .i64 0, .int .i64 0, .string ⟨#[]⟩] 72)).alloc (.cells #[.int .i64 0, .int .i64 0, .int .i64 0, .string ⟨#[]⟩] 72)).heap[w.heap.size + 2]? = some (.cells #[.int .i64 0, .int .i64 0, .int .i64 0, .string ⟨#[]⟩] 72 (0, 0))) := Lib.hid (by
    have := heap_alloc_new ((w.alloc (.cells D 70)).alloc (.cells #[.int .i64 0, .int .i64 0, .int .i64 0, .string ⟨#[]⟩] 72)) (.cells #[.int .i64 0, .int .i64 0, .int .i64 0, .string ⟨#[]⟩] 72)
    rw [show ((w.alloc (.cells D 70)).alloc (.cells #[.int .i64 0, .int .i64 0, .int .i64 0, .string ⟨#[]⟩] 72)).heap.size = w.heap.size + 2 by simp] at this
    exact this)
  have HK := Lib.hid (Keeps.alloc (Keeps.alloc (Keeps.alloc (Keeps.refl (fun _ => False) w) (.cells D 70)) (.cells #[.int .i64 0, .int .i64 0, .int .i64 0, .string ⟨#[]⟩] 72)) (.cells #[.int .i64 0, .int .i64 0, .int .i64 0, .string ⟨#[]⟩] 72))
  clear hr hS hD q0 q2
  generalize rBusy = R0 at *
  generalize rFin = R1 at *
  generalize rFin1 = R2 at *
  go_enter Tryz.func47, Tryz.ntmps47
  go_wp2_with fail
  refine (HA.out _ rp (HR.out _ HK.out)).mono ?_
  rintro e w2 ⟨⟨n, rfl⟩, hr2, k2⟩
  have HR2 := Lib.hid hr2
  have K2 := Lib.hid k2
  have oa := k2.heap G1.out (fun h => by have := HSS.out _ h; omega)
  have ob := k2.heap G2.out (fun h => by have := HSS.out _ h; omega)
  have OA := Lib.hid oa
  have OB := Lib.hid ob
  clear hr2 k2 oa ob g0 g2 G1 G2
  obtain ⟨b0, b1, b2, b3, bf⟩ := oc_run OB.out
  have bf1 := bf 1
  go_upto_region 9 with fail
  have hX : ∀ b, Gr S (((w.alloc (.cells D 70)).alloc (.cells #[.int .i64 0, .int .i64 0, .int .i64 0, .string ⟨#[]⟩] 72)).alloc (.cells #[.int .i64 0, .int .i64 0, .int .i64 0, .string ⟨#[]⟩] 72)) w2 b → b ≠ w.heap.size + 1 ∧ b ≠ w.heap.size + 2 ∧ (S b ∨ (w.heap.size ≤ b ∧ b < w2.heap.size)) := by
    intro b hb
    rcases hb with hb | hb
    · have := HSS.out _ hb; exact ⟨by omega, by omega, Or.inl hb⟩
    · simp at hb; exact ⟨by omega, by omega, Or.inr ⟨by omega, hb.2⟩⟩
  have HX := Lib.hid hX
  have KA : Keeps (fun b => b = w.heap.size + 2) w2 (w2.setCell ⟨w.heap.size + 1 + 1, 1, none⟩ (.int .i64 n)) := (Keeps.refl (fun b => b = w.heap.size + 2) w2).set (p := ⟨w.heap.size + 1 + 1, 1, none⟩) rfl _
  have HR3 := HR2.out.keeps KA (fun b hb e => (hX b hb).2.1 e)
  have OB3 : Bk (w2.setCell ⟨w.heap.size + 1 + 1, 1, none⟩ (.int .i64 n)) (w.heap.size + 2) 72 [.int .i64 0, .int .i64 n, .int .i64 0, .string ⟨#[]⟩] := Bk.set (show Bk w2 (w.heap.size + 2) 72 [.int .i64 0, .int .i64 0, .int .i64 0, .string ⟨#[]⟩] from OB.out) 1 _
  have OA3 := KA.heap OA.out (by omega)
  have HKA := Lib.hid KA
  have HRR := Lib.hid HR3
  have HOA := Lib.hid OA3
  have HOB := Lib.hid OB3
  clear KA HR3 OB3 OA3 b0 b1 b2 b3 bf bf1 hX
  go_wp2_with fail
  refine (HB.out _ rp _ HRR.out).mono ?_
  rintro e w4 ⟨⟨m, rfl⟩, hr4, k4⟩
  have oa4 := k4.heap HOA.out (fun h => (HX.out _ h).1 rfl)
  have ob4 := k4.heap HOB.out (fun h => (HX.out _ h).2.1 rfl)
  have HR4 := Lib.hid hr4
  have K4 := Lib.hid k4
  have OA4 := Lib.hid oa4
  have OB4 := Lib.hid ob4
  obtain ⟨b0, b1, b2, b3, bf⟩ := oc_run OB4.out
  have bf2 := bf 2
  clear hr4 k4 oa4 ob4
  go_upto_region 21 with fail
  have KB : Keeps (fun b => b = w.heap.size + 2) w4 (w4.setCell ⟨w.heap.size + 1 + 1, 2, none⟩ (.int .i64 m)) := (Keeps.refl (fun b => b = w.heap.size + 2) w4).set (p := ⟨w.heap.size + 1 + 1, 2, none⟩) rfl _
  have ob5 : Bk (w4.setCell ⟨w.heap.size + 1 + 1, 2, none⟩ (.int .i64 m)) (w.heap.size + 2) 72 [.int .i64 0, .int .i64 n, .int .i64 m, .string ⟨#[]⟩] := Bk.set (show Bk w4 (w.heap.size + 2) 72 [.int .i64 0, .int .i64 n, .int .i64 0, .string ⟨#[]⟩] from OB4.out) 2 _
  have OB5 := Lib.hid ob5
  have OA5 := Lib.hid (KB.heap OA4.out (by omega))
  have HKB := Lib.hid KB
  clear KB ob5 b0 b1 b2 b3 bf bf2
  go_wp2_with (first
    | (refine wpList_load_row rfl 72 (.tmp 7) rfl (w.heap.size + 2) rfl 72 #[.int .i64 0, .int .i64 n, .int .i64 m, .string ⟨#[]⟩] (0, 0) _ OB5.out Tryz.underlying72 rfl oc_size ?_)
    | (refine wpList_store_row rfl 72 (.tmp 6) (.tmp 83) rfl (w.heap.size + 1) #[.int .i64 0, .int .i64 n, .int .i64 m, .string ⟨#[]⟩] rfl rfl 72 _ OA5.out oc_size rfl (oc_one _ _ _) ?_))
  refine bodyPost_ret (results_cell_row rfl _ _ (w.heap.size + 1) 72 #[.int .i64 0, .int .i64 n, .int .i64 m, .string ⟨#[]⟩] (0, 0) _ rfl (setRow_heap _ _ _ _ _ _ OA5.out) Tryz.underlying72 rfl oc_size) rfl ?_
  refine ⟨n, m, ?_⟩
  exact with_end HSS.out HK.out K2.out HKA.out K4.out HKB.out (keeps_row _ _ _) (fun b h => HX.out b h) HR4.out
set_option maxHeartbeats 4000000 in
theorem with_drop (db : Nat) (rn : Int) (J : JV) (rp : Value) (w : World) (Q : Int → World → World → Prop)
    (hd : ∀ W, Keeps (fun _ => False) w W → W.heap.size = w.heap.size + 3 → Calls Tryz.prog 85 #[.pointer (some ⟨db, 0, none⟩), .int .i64 rn] W fun e w' => ∃ c, e = .returned (ocV c 0 0) ∧ Q c W w' ∧ w'.heap[w.heap.size + 1]? = W.heap[w.heap.size + 1]?) :
    Calls Tryz.prog 47 #[.pointer (some ⟨db, 0, none⟩), rp, .agg (dCs 8 rn J)] w fun e w' => ∃ c W w2, e = .returned (ocV c 0 0) ∧ Keeps (fun _ => False) w W ∧ W.heap.size = w.heap.size + 3 ∧ Q c W w2 ∧ Keeps (fun b => b = w.heap.size + 1) w2 w' := by
  have HD := Lib.hid hd
  have hD : (w.alloc (.cells (dCs 8 rn J) 70)).heap[w.heap.size]? = some (.cells (dCs 8 rn J) 70 (0, 0)) := heap_alloc_new w _
  have q0 : (dCs 8 rn J)[0]? = some (.int .i64 8) := rfl
  have q1 : (dCs 8 rn J)[1]? = some (.int .i64 rn) := rfl
  generalize dCs 8 rn J = D at *
  have g0 : (((w.alloc (.cells D 70)).alloc (.cells #[.int .i64 0, .int .i64 0, .int .i64 0, .string ⟨#[]⟩] 72)).alloc (.cells #[.int .i64 0, .int .i64 0, .int .i64 0, .string ⟨#[]⟩] 72)).cell? ⟨w.heap.size, 0, none⟩ = some (.int .i64 8) := by
    rw [cell_block (((three_news w _ _ _).1).trans hD), q0]
  have g1 : (((w.alloc (.cells D 70)).alloc (.cells #[.int .i64 0, .int .i64 0, .int .i64 0, .string ⟨#[]⟩] 72)).alloc (.cells #[.int .i64 0, .int .i64 0, .int .i64 0, .string ⟨#[]⟩] 72)).cell? ⟨w.heap.size, 1, none⟩ = some (.int .i64 rn) := by
    rw [cell_block (((three_news w _ _ _).1).trans hD), q1]
  have G1 : Hid ((((w.alloc (.cells D 70)).alloc (.cells #[.int .i64 0, .int .i64 0, .int .i64 0, .string ⟨#[]⟩] 72)).alloc (.cells #[.int .i64 0, .int .i64 0, .int .i64 0, .string ⟨#[]⟩] 72)).heap[w.heap.size + 1]? = some (.cells #[.int .i64 0, .int .i64 0, .int .i64 0, .string ⟨#[]⟩] 72 (0, 0))) := Lib.hid (by
    rw [(three_news w _ _ _).2]
    have := heap_alloc_new (w.alloc (.cells D 70)) (.cells #[.int .i64 0, .int .i64 0, .int .i64 0, .string ⟨#[]⟩] 72)
    rw [show (w.alloc (.cells D 70)).heap.size = w.heap.size + 1 by simp] at this
    exact this)
  have HK := Lib.hid (Keeps.alloc (Keeps.alloc (Keeps.alloc (Keeps.refl (fun _ => False) w) (.cells D 70)) (.cells #[.int .i64 0, .int .i64 0, .int .i64 0, .string ⟨#[]⟩] 72)) (.cells #[.int .i64 0, .int .i64 0, .int .i64 0, .string ⟨#[]⟩] 72))
  clear hd hD q0 q1
  go_enter Tryz.func47, Tryz.ntmps47
  go_wp2_with fail
  refine (HD.out _ HK.out (by simp)).mono ?_
  rintro e w2 ⟨c, rfl, hq, hb⟩
  have OA := Lib.hid (hb.trans G1.out)
  have HQ := Lib.hid hq
  clear hq hb g0 g1 G1
  unfold ocV
  go_wp2_with (refine wpList_store_row rfl 72 (.tmp 6) (.tmp 16) rfl (w.heap.size + 1) #[.int .i64 c, .int .i64 0, .int .i64 0, .string ⟨#[]⟩] rfl rfl 72 _ OA.out oc_size rfl (oc_one _ _ _) ?_)
  refine bodyPost_ret (results_cell_row rfl _ _ (w.heap.size + 1) 72 #[.int .i64 c, .int .i64 0, .int .i64 0, .string ⟨#[]⟩] (0, 0) _ rfl (setRow_heap _ _ _ _ _ _ OA.out) Tryz.underlying72 rfl oc_size) rfl ?_
  exact ⟨c, _, w2, rfl, HK.out, by simp, HQ.out, keeps_row _ _ _⟩
end Go.Proofs.YtbifklibdkjbeaaGreatDoor
