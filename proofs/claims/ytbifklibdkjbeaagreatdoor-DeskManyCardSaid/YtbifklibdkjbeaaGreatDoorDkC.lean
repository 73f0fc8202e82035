/-
  The walks of desk.drop. No condition.
-/
import Derived.Test.YtbifklibdkjbeaaGreatDoorDkB
namespace Go.Proofs.YtbifklibdkjbeaaGreatDoor
open Go.RowKit Go.WideMaps Go.Maps Go.ChangeMaps Go.MapKept
set_option linter.unusedVariables false
set_option linter.unusedSimpArgs false
set_option maxRecDepth 100000

theorem keeps_turned {w w' : World} {b : Nat} (h : w.mapTurned w' b) : Keeps (fun x => x = b) w w' := by
  obtain ⟨es, clock, es', clock', hb, rfl⟩ := h
  exact ⟨rfl, rfl, rfl, by simp [setBlock], fun i _ hi => heap_setBlock_other hb _ (fun e => hi (by first | exact e | exact e.symm))⟩
set_option maxHeartbeats 4000000 in
theorem drop_busy (db mb N : Nat) (ks : List Int) (m : Int → Value) (k : Int) (S : Nat → Prop) (w : World) (hd : DkS w db mb ks m N) (hk : k ∈ ks) (h1 : -9223372036854775808 ≤ k) (h2 : k ≤ 9223372036854775807) (hr : RunS rNew w (m k) S) (hS : ∀ b, S b → b < w.heap.size) :
    Calls Tryz.prog 85 #[.pointer (some ⟨db, 0, none⟩), .int .i64 k] w fun e w' => e = .returned (ocV 18 0 0) ∧ RunS rBusy w' (m k) (Gr S w w') ∧ Keeps S w w' := by
  have hlook := hd.mp.keeps (S := fun _ => False) ((Keeps.refl _ w).alloc (.cells #[.int .i64 0, .int .i64 0, .int .i64 0, .string ⟨#[]⟩] 72)) id |>.look k h1 h2
  rw [if_pos hk] at hlook
  have c0 := hd.dk.c 0 rfl
  have d0 := alloc_cell c0 (.cells #[.int .i64 0, .int .i64 0, .int .i64 0, .string ⟨#[]⟩] 72)
  have HR := Lib.hid (hr.keeps (T := fun _ => False) ((Keeps.refl _ w).alloc (.cells #[.int .i64 0, .int .i64 0, .int .i64 0, .string ⟨#[]⟩] 72)) (fun _ _ => id))
  have HV := Lib.hid (fun W rp h => over_no W rp S h)
  have HJ := Lib.hid (fun W => desk_just 18 W)
  have HSS := Lib.hid hS
  clear hd hr hk c0 hS
  generalize m k = rp at *
  generalize rNew = R0 at *
  generalize rBusy = R1 at *
  go_enter Tryz.func85, Tryz.ntmps85
  go_wp2_with fail
  refine (HV.out _ rp HR.out).mono ?_
  rintro e w2 ⟨rfl, hr2, k2⟩
  have ob := k2.heap (heap_alloc_new w (.cells #[.int .i64 0, .int .i64 0, .int .i64 0, .string ⟨#[]⟩] 72)) (fun h => by have := HSS.out _ h; omega)
  have HR2 := Lib.hid hr2
  have K2 := Lib.hid k2
  have OB := Lib.hid ob
  clear hr2 k2 ob hlook d0
  go_wp2_with fail
  refine (HJ.out _).mono ?_
  rintro e w3 ⟨rfl, k3⟩
  have OB3 := Lib.hid (k3.heap OB.out id)
  have K3 := Lib.hid k3
  clear k3 OB
  go_wp2_with (refine wpList_store_row rfl 72 (.tmp 4) (.tmp 13) rfl w.heap.size #[.int .i64 18, .int .i64 0, .int .i64 0, .string ⟨#[]⟩] rfl rfl 72 _ OB3.out oc_size rfl (oc_one _ _ _) ?_)
  refine bodyPost_ret (results_cell_row rfl _ _ w.heap.size 72 #[.int .i64 18, .int .i64 0, .int .i64 0, .string ⟨#[]⟩] (0, 0) _ rfl (setRow_heap _ _ _ _ _ _ OB3.out) Tryz.underlying72 rfl oc_size) rfl ?_
  have K4 := keeps_row w3 w.heap.size #[.int .i64 18, .int .i64 0, .int .i64 0, .string ⟨#[]⟩]
  have q2 := K2.out.size
  have q3 := K3.out.size
  have q4 := K4.size
  simp at q2
  refine ⟨rfl, ((HR2.out.keeps K3.out (fun _ _ => id)).keeps K4 (fun b hb e => ?_)).mono (fun b hb => ?_), ?_⟩
  · rcases hb with hb | hb
    · have := HSS.out _ hb; omega
    · simp at hb; omega
  · rcases hb with hb | hb
    · exact Or.inl hb
    · simp at hb; right; omega
  · refine ((((Keeps.refl S w).alloc _).trans2 K2.out (fun i hi h => h)).trans2 K3.out (fun i hi h => h.elim)).trans2 K4 (fun i hi e => by omega)
set_option maxHeartbeats 4000000 in
theorem drop_done (db mb N : Nat) (ks : List Int) (m : Int → Value) (k : Int) (S : Nat → Prop) (w : World) (hd : DkS w db mb ks m N) (hn : ks.Nodup) (hk : k ∈ ks) (h1 : -9223372036854775808 ≤ k) (h2 : k ≤ 9223372036854775807) (hr : RunS rFin1 w (m k) S) (hS : ∀ b, S b → b < w.heap.size ∧ b ≠ db ∧ b ≠ mb) :
    Calls Tryz.prog 85 #[.pointer (some ⟨db, 0, none⟩), .int .i64 k] w fun e w' => e = .returned (ocV 0 0 0) ∧ DkS w' db mb (ks.erase k) m N ∧ Keeps (fun b => S b ∨ b = mb) w w' := by
  have hlook := hd.mp.keeps (S := fun _ => False) ((Keeps.refl _ w).alloc (.cells #[.int .i64 0, .int .i64 0, .int .i64 0, .string ⟨#[]⟩] 72)) id |>.look k h1 h2
  rw [if_pos hk] at hlook
  obtain ⟨D, hown, hT, hSz, hH, hat⟩ := hd.mp
  have HP := Lib.hid (fun (W : World) (h : W.ownsMap Tryz.prog 3 RV mb N (D.del (hK k))) => mp_del h hT hSz hH hat hk hn)
  have HO := Lib.hid hown
  have c0 := hd.dk.c 0 rfl
  have d0 := alloc_cell c0 (.cells #[.int .i64 0, .int .i64 0, .int .i64 0, .string ⟨#[]⟩] 72)
  have HR := Lib.hid (hr.keeps (T := fun _ => False) ((Keeps.refl _ w).alloc (.cells #[.int .i64 0, .int .i64 0, .int .i64 0, .string ⟨#[]⟩] 72)) (fun _ _ => id))
  have HV := Lib.hid (fun W rp h => over_yes W rp S h)
  have HSS := Lib.hid hS
  have HB := Lib.hid hd.dk
  have Hne := Lib.hid hd.ne
  have Hlt := Lib.hid hd.dk.lt
  have Hlm := Lib.hid hd.mp.lt
  have hkey := Lib.hid (key_int k h1 h2)
  clear hd hr hk c0 hS hown hT hSz hH hat hn
  generalize m k = rp at *
  generalize rFin1 = R0 at *
  generalize rOver = R1 at *
  go_enter Tryz.func85, Tryz.ntmps85
  go_wp2_with fail
  refine (HV.out _ rp HR.out).mono ?_
  rintro e w2 ⟨rfl, hr2, k2⟩
  have Kw := ((Keeps.refl (fun _ => False) w).alloc (.cells #[.int .i64 0, .int .i64 0, .int .i64 0, .string ⟨#[]⟩] 72))
  have ob := k2.heap (heap_alloc_new w (.cells #[.int .i64 0, .int .i64 0, .int .i64 0, .string ⟨#[]⟩] 72)) (fun h => by have := HSS.out _ h; omega)
  have HB2 := Lib.hid ((HB.out.keeps Kw id).keeps k2 (fun h => (HSS.out _ h).2.1 rfl))
  have O2 := Lib.hid (ownsMap_keeps (ownsMap_keeps HO.out Kw id) k2 (fun h => (HSS.out _ h).2.2 rfl))
  have e0 := HB2.out.c 0 rfl
  have K2 := Lib.hid k2
  have OB := Lib.hid ob
  clear hr2 k2 ob hlook d0 Kw
  go_wp2_with (at_delete; refine wpList_delete_own _ rfl _ _ 100 3 rfl 104 key27 Tryz.underlying100 RV mb N D rfl O2.out _ _ rfl hkey.out ?_)
  intro w3 hown3 hturn
  have K3 : Keeps (fun b => b = mb) w2 w3 := keeps_turned hturn
  have HO3 := Lib.hid hown3
  have HK3 := Lib.hid K3
  have HB3 := Lib.hid (HB2.out.keeps K3 Hne.out)
  have OB3 := Lib.hid (K3.heap OB.out (by have := Hlm.out; omega))
  clear K3 hown3 hturn e0 OB
  go_wp2_with (refine wpList_store_row rfl 72 (.tmp 4) (.tmp 19) rfl w.heap.size #[.int .i64 0, .int .i64 0, .int .i64 0, .string ⟨#[]⟩] rfl rfl 72 _ OB3.out oc_size rfl (oc_one _ _ _) ?_)
  refine bodyPost_ret (results_cell_row rfl _ _ w.heap.size 72 #[.int .i64 0, .int .i64 0, .int .i64 0, .string ⟨#[]⟩] (0, 0) _ rfl (setRow_heap _ _ _ _ _ _ OB3.out) Tryz.underlying72 rfl oc_size) rfl ?_
  have K4 := keeps_row w3 w.heap.size #[.int .i64 0, .int .i64 0, .int .i64 0, .string ⟨#[]⟩]
  have ql := Hlt.out
  have qm := Hlm.out
  refine ⟨rfl, ⟨HB3.out.keeps K4 (by omega), (HP.out _ HO3.out).keeps K4 (by omega), Hne.out⟩, ?_⟩
  exact ((((Keeps.refl (fun b => S b ∨ b = mb) w).alloc _).trans2 K2.out (fun i hi h => Or.inl h)).trans2 HK3.out (fun i hi h => Or.inr h)).trans2 K4 (fun i hi e => by omega)
end Go.Proofs.YtbifklibdkjbeaaGreatDoor
