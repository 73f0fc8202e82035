/-
  The walks of desk.start at the least job, and of desk.drop. No condition.
-/
import Derived.Test.YtbifklibdkjbeaaGreatDoorDkA
import Derived.Deep.Cut
import Derived.Deep.CutBlock
import Derived.Deep.RegionHeld3
import Derived.BigRegion
namespace Go.Proofs.YtbifklibdkjbeaaGreatDoor
open Go.RowKit Go.WideMaps Go.Maps
set_option linter.unusedVariables false
set_option linter.unusedSimpArgs false
set_option maxRecDepth 100000

/-- An outcome without a text. -/
def ocV (e n m : Int) : Value := .agg #[.int .i64 e, .int .i64 n, .int .i64 m, .string ⟨#[]⟩]
theorem oc_size {a b c d : Value} : (Tryz.prog.info? 72).map (·.size) = some (#[a, b, c, d] : Array Value).size := by
  show _ = some 4
  kernel_rfl
theorem oc_one (e n m : Int) : (#[.int .i64 e, .int .i64 n, .int .i64 m, .string ⟨#[]⟩] : Array Value).all (·.oneCell') = true := by simp [Value.oneCell']
theorem keeps_row (w : World) (b : Nat) (cs : Array Value) : Keeps (fun x => x = b) w (w.setRow b cs) := ⟨rfl, rfl, rfl, by simp, fun k hk hs => setRow_other _ _ _ _ hs⟩
theorem oc_cells {w : World} {b : Nat} (h : w.heap[b]? = some (.cells #[.int .i64 0, .int .i64 0, .int .i64 0, .string ⟨#[]⟩] 72 (0, 0))) :
    w.cell? ⟨b, 0, none⟩ = some (.int .i64 0) ∧ w.cell? ⟨b, 1, none⟩ = some (.int .i64 0) ∧ w.cell? ⟨b, 2, none⟩ = some (.int .i64 0) ∧ w.cell? ⟨b, 3, none⟩ = some (.string ⟨#[]⟩) ∧ ∀ o, w.frozen? ⟨b, o, none⟩ = false :=
  ⟨by rw [cell_block h]; rfl, by rw [cell_block h]; rfl, by rw [cell_block h]; rfl, by rw [cell_block h]; rfl, fun o => frozen_block h o none⟩
theorem mp_put {w : World} {mb N : Nat} {ks : List Int} {m : Int → Value} {D : DataW Value} {h : Int} {rp : Value} (hown : w.ownsMap Tryz.prog 3 RV mb (N + 1) (D.put (hK h) (.held rp))) (hT : Tidy D) (hS : size D = ks.length) (hH : ∀ h, has D (hK h) = decide (h ∈ ks))
    (hat : ∀ h z, D.atKey (hK h) (.held z) = .held (if h ∈ ks then m h else z)) (hn : h ∉ ks) : MpAt w mb (ks ++ [h]) (fun x => if x = h then rp else m x) (N + 1) := by
  refine ⟨_, hown, hT.put (hK_key h) _, ?_, fun x => ?_, fun x z => ?_⟩
  · rw [size_put hT, hH h, decide_eq_false hn, hS]; simp
  · by_cases e : x = h
    · subst e; rw [has_put_same hT.isMap (hK_key x)]; simp
    · rw [has_put_other (hK_ne e), hH x]; simp [e]
  · by_cases e : x = h
    · subst e; rw [atKey_put_same hT.isMap (hK_key x)]; simp
    · rw [atKey_put_other (hK_ne e), hat x z]; simp [e]
theorem mp_del {w : World} {mb N : Nat} {ks : List Int} {m : Int → Value} {D : DataW Value} {h : Int} (hown : w.ownsMap Tryz.prog 3 RV mb N (D.del (hK h))) (hT : Tidy D) (hS : size D = ks.length) (hH : ∀ h, has D (hK h) = decide (h ∈ ks))
    (hat : ∀ h z, D.atKey (hK h) (.held z) = .held (if h ∈ ks then m h else z)) (hn : h ∈ ks) (hd : ks.Nodup) : MpAt w mb (ks.erase h) m N := by
  refine ⟨_, hown, hT.del _, ?_, fun x => ?_, fun x z => ?_⟩
  · have := size_del (k := hK h) hT
    rw [hH h, decide_eq_true hn, hS] at this
    rw [List.length_erase_of_mem hn]
    simp at this; omega
  · by_cases e : x = h
    · subst e; rw [has_del_same]; simp [hd.mem_erase_iff]
    · rw [has_del_other (hK_ne e), hH x]; simp [hd.mem_erase_iff, e]
  · by_cases e : x = h
    · subst e; rw [atKey_del_same]; simp [hd.mem_erase_iff]
    · rw [atKey_del_other (hK_ne e), hat x z]; simp [hd.mem_erase_iff, e]
set_option maxHeartbeats 4000000 in
theorem start_full (db mb N : Nat) (ks : List Int) (m : Int → Value) (j : JV) (w : World) (hd : DkS w db mb ks m N) (hk : 8 ≤ ks.length) (hk2 : ks.length ≤ 1000) :
    Calls Tryz.prog 46 #[.pointer (some ⟨db, 0, none⟩), jV j] w fun e w' => e = .returned (ocV 20 0 0) ∧ Keeps (fun _ => False) w w' := by
  obtain ⟨D, hown, hT, hS, hH, hat⟩ := hd.mp
  have c0 := hd.dk.c 0 rfl
  have HO := Lib.hid hown
  have HJ := Lib.hid (fun W => desk_just 20 W)
  have d0 := alloc_cell c0 (.cells (jCs j) 28)
  have d1 := alloc_cell d0 (.cells #[.int .i64 0, .int .i64 0, .int .i64 0, .string ⟨#[]⟩] 72)
  clear hown hat hH hT hd
  unfold jV
  go_enter Tryz.func46, Tryz.ntmps46
  go_wp2_with (first | (at_len; refine wpList_len_own _ rfl _ 100 rfl 3 104 Tryz.underlying100 RV mb N D rfl (by exact (HO.out.alloc _).alloc _) ?_) | fail)
  have HJ2 := HJ
  refine (HJ.out _).mono ?_
  rintro e w2 ⟨rfl, k2⟩
  have ob := k2.heap (heap_alloc_new (w.alloc (.cells (jCs j) 28)) (.cells #[.int .i64 0, .int .i64 0, .int .i64 0, .string ⟨#[]⟩] 72)) id
  rw [show (w.alloc (.cells (jCs j) 28)).heap.size = w.heap.size + 1 by simp] at ob
  obtain ⟨o0, o1, o2, o3, of⟩ := oc_cells ob
  have K0 : Keeps (fun _ => False) w ((w.alloc (.cells (jCs j) 28)).alloc (.cells #[.int .i64 0, .int .i64 0, .int .i64 0, .string ⟨#[]⟩] 72)) := by (repeat' (with_reducible first | exact Keeps.refl _ _ | assumption | refine Keeps.drawN ?_ _ | refine Keeps.drew ?_ | refine Keeps.setCell ?_ ?_ _ | refine Keeps.alloc ?_ _)) <;> (first | exact Or.inr (Nat.le_refl _) | exact Or.inl rfl | exact Or.inl (Or.inl rfl) | exact Or.inl (Or.inr rfl) | (right; simp; done) | (right; simp; omega))
  have K2 := K0.trans k2
  have OB := Lib.hid ob
  clear k2 ob K0
  go_wp2_with (refine wpList_store_row rfl 72 (.tmp 4) (.tmp 14) rfl (w.heap.size + 1) #[.int .i64 20, .int .i64 0, .int .i64 0, .string ⟨#[]⟩] rfl rfl 72 _ OB.out oc_size rfl (oc_one 20 0 0) ?_)
  refine bodyPost_ret (results_cell_row rfl _ _ (w.heap.size + 1) 72 #[.int .i64 20, .int .i64 0, .int .i64 0, .string ⟨#[]⟩] (0, 0) _ rfl (setRow_heap _ _ _ _ _ _ OB.out) Tryz.underlying72 rfl oc_size) rfl ?_
  exact ⟨rfl, K2.trans2 (T := fun b => b = w.heap.size + 1) (keeps_row _ _ _) (fun b hb e => by omega)⟩
set_option maxHeartbeats 8000000 in
theorem start_room (db mb N : Nat) (ks : List Int) (m : Int → Value) (w : World) (hd : DkS w db mb ks m N) (hk : ks.length < 8) (hN : N ≤ 100) (hn : ((N : Int) + 1) ∉ ks) :
    Calls Tryz.prog 46 #[.pointer (some ⟨db, 0, none⟩), jV leastJ] w fun e w' => ∃ rp, e = .returned (ocV 0 ((N : Int) + 1) 0) ∧ DkS w' db mb (ks ++ [(N : Int) + 1]) (fun x => if x = (N : Int) + 1 then rp else m x) (N + 1) ∧
      RunS rNew w' rp (fun b => w.heap.size ≤ b ∧ b < w'.heap.size) ∧ Keeps (fun b => b = db ∨ b = mb) w w' := by
  obtain ⟨D, hown, hT, hS, hH, hat⟩ := hd.mp
  have c0 := hd.dk.c 0 rfl
  have hlt := hd.dk.lt
  have hlm := hd.mp.lt
  have hne := hd.ne
  have HO := Lib.hid hown
  have HD := Lib.hid hd
  have HN : Hid (∀ W, Calls Tryz.prog 66 #[jV leastJ] W fun e w' => ∃ rp, e = .returned (.tuple #[rp, .int .i64 0]) ∧ RunS rNew w' rp (fun b => W.heap.size ≤ b ∧ b < w'.heap.size) ∧ Keeps (fun _ => False) W w') := Lib.hid (fun W => new_least W)
  generalize rNew = R0 at *
  have HP := Lib.hid (fun (W : World) (rp : Value) (h : W.ownsMap Tryz.prog 3 RV mb (N + 1) (D.put (hK ((N : Int) + 1)) (.held rp))) => mp_put h hT hS hH hat hn)
  have hkey := Lib.hid (key_int ((N : Int) + 1) (by omega) (by omega))
  have Hlt := Lib.hid hlt
  have Hlm := Lib.hid hlm
  have Hne := Lib.hid hne
  clear hlt hlm hne hn
  have d0 := alloc_cell c0 (.cells (jCs leastJ) 28)
  have d1 := alloc_cell d0 (.cells #[.int .i64 0, .int .i64 0, .int .i64 0, .string ⟨#[]⟩] 72)
  clear hown hat hH hT hd
  unfold jV at HN ⊢
  generalize leastJ = J at *
  have HL := Lib.hid (Keeps.heap (S := fun _ => False) ((Keeps.refl _ _).alloc (.cells #[.int .i64 0, .int .i64 0, .int .i64 0, .string ⟨#[]⟩] 72)) (heap_alloc_new w (.cells (jCs J) 28)) id)
  have hsz := job_size J
  go_enter Tryz.func46, Tryz.ntmps46
  have hk8 : decide ((8 : Int) ≤ (ks.length : Int)) = false := decide_eq_false (by omega)
  clear hk
  go_upto_region 1 with fail
  go_upto_region 3 with (at_len; refine wpList_len_own _ rfl _ 100 rfl 3 104 Tryz.underlying100 RV mb N D rfl (by exact (HO.out.alloc _).alloc _) ?_)
  go_wp2_with (refine wpList_load_row rfl 28 (.tmp 3) rfl w.heap.size rfl 28 (jCs J) (0, 0) _ HL.out Tryz.underlying28 rfl hsz ?_)
  refine (HN.out _).mono ?_
  rintro e w2 ⟨rp, rfl, hr, k2⟩
  have K0 : Keeps (fun _ => False) w ((w.alloc (.cells (jCs J) 28)).alloc (.cells #[.int .i64 0, .int .i64 0, .int .i64 0, .string ⟨#[]⟩] 72)) := by (repeat' (with_reducible first | exact Keeps.refl _ _ | assumption | refine Keeps.drawN ?_ _ | refine Keeps.drew ?_ | refine Keeps.setCell ?_ ?_ _ | refine Keeps.alloc ?_ _)) <;> (first | exact Or.inr (Nat.le_refl _) | exact Or.inl rfl | exact Or.inl (Or.inl rfl) | exact Or.inl (Or.inr rfl) | (right; simp; done) | (right; simp; omega))
  have K2 := K0.trans k2
  have hD2 := HD.out.keeps K2 id id
  have e0 := hD2.dk.c 0 rfl
  have e1 := hD2.dk.c 1 rfl
  have f1 := hD2.dk.f 1 none
  have hB2 := Lib.hid hD2.dk
  have O2 := Lib.hid (ownsMap_keeps HO.out K2 id)
  have ob := k2.heap (heap_alloc_new (w.alloc (.cells (jCs J) 28)) (.cells #[.int .i64 0, .int .i64 0, .int .i64 0, .string ⟨#[]⟩] 72)) id
  rw [show (w.alloc (.cells (jCs J) 28)).heap.size = w.heap.size + 1 by simp] at ob
  have OB := Lib.hid ob
  have HR := Lib.hid hr
  have HK2 := Lib.hid K2
  have hs2 := k2.size
  simp at hs2
  have HS2 := Lib.hid hs2
  clear hr k2 K0 K2 hD2 d0 d1 c0 ob hs2
  go_wp2_with (at_mapUpdate; refine wpList_mapUpdate_own _ rfl _ _ _ 100 rfl 3 104 key27 Tryz.underlying100 RV mb N D rfl ?o1 (by unfold maxLen; omega) _ _ _ rfl rfl hkey.out _ [] rfl ?_)
  case o1 => exact ownsMap_keeps O2.out ((Keeps.refl (fun b => b = db) _).set (p := ⟨db, 1, none⟩) rfl _) (fun e => Hne.out e.symm)
  intro w1 hown1 hgrow1
  have KM : Keeps (fun b => b = mb) (w2.setCell ⟨db, 1, none⟩ (.int .i64 ((N : Int) + 1 + 1))) w1 := (Keeps.refl _ _).grown hgrow1 (fun j hj => by cases hj; exact Or.inl rfl)
  have K3 : Keeps (fun b => b = db ∨ b = mb) w2 w1 := ((Keeps.refl (fun b => b = db ∨ b = mb) w2).set (p := ⟨db, 1, none⟩) (Or.inl rfl) _).grown hgrow1 (fun j hj => by cases hj; exact Or.inl (Or.inr rfl))
  have hB3 : Bk w1 db 102 [.map (some mb), .int .i64 (((N + 1 : Nat) : Int) + 1)] := KM.heap (hB2.out.set 1 _) Hne.out
  have HB3 := Lib.hid hB3
  have HK3 := Lib.hid K3
  have HW := Lib.hid hown1
  have OB3 := Lib.hid (K3.heap OB.out (by have := Hlt.out; have := Hlm.out; omega))
  clear KM K3 hB3 hown1 hgrow1 e0 e1 f1 OB
  go_wp2_with (refine wpList_store_row rfl 72 (.tmp 4) (.tmp 42) rfl (w.heap.size + 1) #[.int .i64 0, .int .i64 ((N : Int) + 1), .int .i64 0, .string ⟨#[]⟩] rfl rfl 72 _ OB3.out oc_size rfl (oc_one _ _ _) ?_)
  refine bodyPost_ret (results_cell_row rfl _ _ (w.heap.size + 1) 72 #[.int .i64 0, .int .i64 ((N : Int) + 1), .int .i64 0, .string ⟨#[]⟩] (0, 0) _ rfl (setRow_heap _ _ _ _ _ _ OB3.out) Tryz.underlying72 rfl oc_size) rfl ?_
  have K4 := keeps_row w1 (w.heap.size + 1) #[.int .i64 0, .int .i64 ((N : Int) + 1), .int .i64 0, .string ⟨#[]⟩]
  have hl := Hlt.out
  have hm := Hlm.out
  have h3 := HK3.out.size
  have h4 := K4.size
  have h2 := HS2.out
  refine ⟨rp, rfl, ⟨HB3.out.keeps K4 (by omega), (HP.out _ _ HW.out).keeps K4 (by omega), Hne.out⟩, ?_, ((HK2.out.mono (T := fun b => b = db ∨ b = mb) (fun _ _ h => h.elim)).trans2 HK3.out (fun i hi h => h)).trans2 K4 (fun i hi e => by omega)⟩
  refine (((HR.out.keeps HK3.out (fun b hb => ?_)).keeps K4 (fun b hb => ?_))).mono (fun b hb => ?_)
  · simp at hb; omega
  · simp at hb; omega
  · simp at hb; omega
end Go.Proofs.YtbifklibdkjbeaaGreatDoor
