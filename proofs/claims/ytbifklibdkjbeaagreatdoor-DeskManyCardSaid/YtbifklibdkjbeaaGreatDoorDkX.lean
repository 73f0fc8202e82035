/-
  DeskMany: the walk of the law, for whatever number came in. No condition.
-/
import Derived.Test.YtbifklibdkjbeaaGreatDoorDkW
import Derived.Test.YtbifklibdkjbeaaGreatDoorDkS
namespace Go.Proofs.YtbifklibdkjbeaaGreatDoor
open Go.RowKit
set_option linter.unusedVariables false
set_option linter.unusedSimpArgs false
set_option maxRecDepth 100000

def ksN (i : Nat) : List Int := (List.range i).map fun (j : Nat) => (j : Int) + 1
def sgN (k : Int) (i : Nat) : D27 := ⟨ksN i, i, if k ≤ (i : Int) then .new else .no⟩
theorem ksN_len (i : Nat) : (ksN i).length = i := by simp [ksN]
theorem ksN_mem (i : Nat) (x : Int) : x ∈ ksN i ↔ 1 ≤ x ∧ x ≤ i := by
  simp only [ksN, List.mem_map, List.mem_range]
  constructor
  · rintro ⟨j, hj, rfl⟩; omega
  · rintro ⟨h1, h2⟩; exact ⟨(x - 1).toNat, by omega, by omega⟩
def stsN (k : Int) (i : Nat) (j : Nat) : D27 := if j = 0 then sgN k i else sgN k (i + 1)
theorem stsN_next (k : Int) (i : Nat) (hi : i < 8) (hk : 1 ≤ k) (j : Nat) (d : Int × Int) (h : [((0 : Int), (0 : Int))][j]? = some d) : nxt k (stsN k i j) d = some (stsN k i (j + 1)) ∧ 0 ≤ d.2 ∧ d.2 ≤ 1000 ∧ 0 ≤ d.1 ∧ d.1 ≤ 8 := by
  rcases j with _ | j
  · simp at h; subst h
    refine ⟨?_, by decide, by decide, by decide, by decide⟩
    have h1 : ¬ ((i : Int) + 1 ∈ ksN i ∨ 90 < i) := by rw [ksN_mem]; omega
    have h2 : ksN i ++ [(i : Int) + 1] = ksN (i + 1) := by simp [ksN, List.range_succ]
    have h3 : (sgN k i).ks = ksN i := rfl
    have h4 : (sgN k i).N = i := rfl
    simp only [stsN, nxt, if_true, h3, h4, ksN_len, hi, if_neg h1, h2, sgN]
    simp only [Nat.add_eq_zero_iff, Nat.one_ne_zero, and_false, if_false]
    by_cases e : (i : Int) + 1 = k
    · rw [if_pos e, if_pos (by omega)]
    · rw [if_neg e]
      by_cases e2 : k ≤ (i : Int)
      · rw [if_pos e2, if_pos (by omega)]
      · rw [if_neg e2, if_neg (by omega)]
  · simp at h
def dsF (k : Int) : List (Int × Int) := [(0, 0), (8, k), (2, k), (8, k), (8, k), (0, 0)]
def stsF (k : Int) (j : Nat) : D27 :=
  if j ≤ 1 then ⟨[1, 2, 3, 4, 5, 6, 7, 8], 8, .new⟩ else if j = 2 then ⟨[1, 2, 3, 4, 5, 6, 7, 8], 8, .busy⟩ else if j = 3 then ⟨[1, 2, 3, 4, 5, 6, 7, 8], 8, .fin⟩
  else if j ≤ 5 then ⟨[1, 2, 3, 4, 5, 6, 7, 8].erase k, 8, .over⟩ else ⟨[1, 2, 3, 4, 5, 6, 7, 8].erase k ++ [9], 9, .over⟩
theorem stsF_next (k : Int) (h1 : 1 ≤ k) (h8 : k ≤ 8) (j : Nat) (d : Int × Int) (h : (dsF k)[j]? = some d) : nxt k (stsF k j) d = some (stsF k (j + 1)) ∧ 0 ≤ d.2 ∧ d.2 ≤ 1000 ∧ 0 ≤ d.1 ∧ d.1 ≤ 8 := by
  have hk : k = 1 ∨ k = 2 ∨ k = 3 ∨ k = 4 ∨ k = 5 ∨ k = 6 ∨ k = 7 ∨ k = 8 := by omega
  rcases hk with rfl | rfl | rfl | rfl | rfl | rfl | rfl | rfl <;>
    (rcases j with _ | _ | _ | _ | _ | _ | j <;> simp [dsF] at h <;> first | (subst h; exact ⟨by decide, by decide, by decide, by decide, by decide⟩) | skip)
theorem endF (k : Int) (h1 : 1 ≤ k) (h8 : k ≤ 8) : (stsF k 6).ks.length = 8 ∧ (stsF k 6).ks.Nodup := by
  have hk : k = 1 ∨ k = 2 ∨ k = 3 ∨ k = 4 ∨ k = 5 ∨ k = 6 ∨ k = 7 ∨ k = 8 := by omega
  rcases hk with rfl | rfl | rfl | rfl | rfl | rfl | rfl | rfl <;> decide
/-- What the six deeds come to. -/
theorem outF (k : Int) (h1 : 1 ≤ k) (h8 : k ≤ 8) (o0 o1 o2 o3 o4 o5 : Int × Int × Int) (h : ∀ j d o, (dsF k)[j]? = some d → [o0, o1, o2, o3, o4, o5][j]? = some o → okO (stsF k j) d o.1 o.2.1 o.2.2) :
    o0 = (20, 0, 0) ∧ o1 = (18, 0, 0) ∧ o2.1 = 0 ∧ o3 = (0, 0, 0) ∧ o4 = (19, 0, 0) ∧ o5 = (0, 9, 0) := by
  have k0 := h 0 _ _ rfl rfl
  have k1 := h 1 _ _ rfl rfl
  have k2 := h 2 _ _ rfl rfl
  have k3 := h 3 _ _ rfl rfl
  have k4 := h 4 _ _ rfl rfl
  have k5 := h 5 _ _ rfl rfl
  obtain ⟨a0, a1, a2⟩ := o0
  obtain ⟨b0, b1, b2⟩ := o1
  obtain ⟨c0, c1, c2⟩ := o2
  obtain ⟨d0, d1, d2⟩ := o3
  obtain ⟨e0, e1, e2⟩ := o4
  obtain ⟨f0, f1, f2⟩ := o5
  have hk : k = 1 ∨ k = 2 ∨ k = 3 ∨ k = 4 ∨ k = 5 ∨ k = 6 ∨ k = 7 ∨ k = 8 := by omega
  rcases hk with rfl | rfl | rfl | rfl | rfl | rfl | rfl | rfl <;>
    (simp [okO, stsF] at k0 k1 k2 k3 k4 k5; simp_all)
theorem dsF_cells (k : Int) : (dCs 0 0 leastJ ++ (dCs 8 k zeroJ ++ (dCs 2 k zeroJ ++ (dCs 8 k zeroJ ++ (dCs 8 k zeroJ ++ dCs 0 0 leastJ))))).toList = (dsF k).flatMap fun d => (dCs d.1 d.2 (jobOf d)).toList := by
  have e0 : jobOf ((0 : Int), (0 : Int)) = leastJ := rfl
  have e8 : jobOf ((8 : Int), k) = zeroJ := rfl
  have e2 : jobOf ((2 : Int), k) = zeroJ := rfl
  simp only [dsF, Array.toList_append, List.flatMap_cons, List.flatMap_nil, e0, e8, e2, List.append_nil]
theorem dsF_len (k : Int) : (dsF k).length = 6 := rfl
set_option maxHeartbeats 16000000 in
theorem many_any (a : Int) (ha0 : 0 ≤ a) (ha1 : a ≤ 255) (w : World) : Calls Tryz.prog 6 #[.int .u8 a] w fun e w' => e = .returned (.bool true) ∧ Keeps (fun _ => False) w w' := by
  have HA := Lib.hid (And.intro ha0 ha1)
  obtain ⟨deedI, deed_info, deed_zero, dsz, dby⟩ := info_parts info_deed
  go_enter Tryz.func6, Tryz.ntmps6
  go_wp2_with fail
  refine (awake27_any _).mono ?_
  rintro e wa ⟨rfl, K0⟩
  go_wp2_with fail
  refine (desk_new _).mono ?_
  rintro e w1 ⟨db, mb, rfl, hd, q1, q2, K1⟩
  have K01 := K0.trans K1
  have hq := K0.size
  have HQ : Hid (w.heap.size ≤ db ∧ w.heap.size ≤ mb) := Lib.hid ⟨by omega, by omega⟩
  have HK1 := Lib.hid K01
  obtain ⟨k, hkk⟩ : ∃ k : Int, 1 + a % 8 = k := ⟨_, rfl⟩
  have HKK := Lib.hid hkk
  have hk1 : 1 ≤ k := by omega
  have hk8 : k ≤ 8 := by omega
  have HKb := Lib.hid (And.intro hk1 hk8)
  have H0 : Hid (WS w1 db mb k (sgN k 0) (fun _ => .pointer none) (fun _ => False)) := Lib.hid ⟨hd, fun h => by simp [sgN, ksN] at h, fun b h => h.elim⟩
  clear hd q1 q2 K0 K1 K01 hq hkk hk1 hk8 ha0 ha1
  go_wp2_with fail
  go_loopw [4] (fun iv wr => ∃ i m S, iv = .int .i64 (((i : Nat) : Int) + 1) ∧ i ≤ 8 ∧ WS wr db mb k (sgN k i) m S ∧ (∀ b, S b → w.heap.size ≤ b) ∧ Keeps (fun _ => False) w wr) (fun iv _ => 9 - (intOf iv).toNat)
  case atStart => exact ⟨0, _, _, rfl, by omega, H0.out, fun b h => h.elim, HK1.out⟩
  case round =>
    obtain ⟨i, m, S, rfl, hi, hws, hf, hkp⟩ := hrel
    have HW := Lib.hid hws
    have HF := Lib.hid hf
    have HK := Lib.hid hkp
    clear hws hf hkp
    by_cases hlt : i < 8
    · go_wp2_with fail
      refine (least_any _).mono ?_
      rintro e w2 ⟨rfl, K2⟩
      have HK2 := Lib.hid K2
      clear K2
      go_wp2_with (first
        | (refine wpList_buildTo rfl 70 #[(5, .tmp 16)] rfl _ rfl (dCs 0 0 leastJ) (by kernel_rfl) ?_)
        | (refine wpList_buildSlice rfl 103 70 1 _ rfl (dCs 0 0 leastJ) deedI _ Tryz.underlying103 deed_info deed_zero (by rw [dsz]; decide) (by rw [dsz]; decide) (by rw [dsz]; kernel_rfl) ?_))
      have KA : Keeps (fun _ => False) wr (w2.alloc (.cells (dCs 0 0 leastJ) 70)) := HK2.out.alloc _
      have hWS := HW.out.keeps KA id id (fun _ _ => id)
      have hlt2 := hWS.dk.dk.lt
      have l1 := HW.out.dk.dk.lt
      have l2 := HW.out.dk.mp.lt
      have hA := HK2.out.size
      have hds : DsAt (w2.alloc (.cells (dCs 0 0 leastJ) 70)) w2.heap.size [(0, 0)] := dsAt_of (heap_alloc_new w2 _) rfl
      refine (do_any db mb k (stsN k i) [(0, 0)] m S w2.heap.size _ hWS hds ⟨by omega, by omega, fun e => by have := (HW.out.foot _ e).1; omega⟩ (by decide) (fun j d h => stsN_next k i hlt HKb.out.1 j d h)).mono ?_
      rintro e w3 ⟨u, os, m3, S3, rfl, hown, hlen, hok, hws3, hf3, hk3⟩
      obtain ⟨g, cap, rfl, hcap, hc⟩ := row_cells hown (by decide)
      match os, hlen with
      | [o0], _ =>
        have k0 := hok 0 _ _ rfl rfl
        obtain ⟨a0, a1, a2⟩ := o0
        have hl8 : (sgN k i).ks.length < 8 := by show (ksN i).length < 8; rw [ksN_len]; exact hlt
        have e0 : stsN k i 0 = sgN k i := rfl
        simp only [okO, if_true, e0, if_pos hl8] at k0
        obtain ⟨rfl, rfl, rfl⟩ := k0
        have z0 := hc 0 _ rfl
        have z1 := hc 1 _ rfl
        have z2 := hc 2 _ rfl
        have z3 := hc 3 _ rfl
        have hN : ((sgN k i).N : Int) = (i : Int) := rfl
        rw [hN] at z1
        have e1 : stsN k i 1 = sgN k (i + 1) := rfl
        have HW3 : Hid (WS w3 db mb k (sgN k (i + 1)) m3 S3) := Lib.hid (by rw [← e1]; exact hws3)
        have hsw := HK.out.size
        have KF : Keeps (fun _ => False) w w3 := ((HK.out.trans KA).trans2 hk3 (fun j hj e => by
          have := HQ.out
          rcases e with e | e | e
          · omega
          · omega
          · have := HF.out _ e; omega))
        have HF3 : Hid (∀ b, S3 b → w.heap.size ≤ b) := Lib.hid (fun b hb => by
          rcases hf3 b hb with h | h
          · exact HF.out b h
          · simp at h; omega)
        have HKF := Lib.hid KF
        have hcp : (1 : Int) ≤ (cap : Int) := by have : 1 ≤ cap := hcap; omega
        clear hok hown hc hws3 hf3 hk3 hA hWS hds l1 l2 KF hcap hlt2 KA hsw e0 e1 hN hl8
        go_wp2_with fail
        go_roundw
        case rel => exact ⟨i + 1, m3, S3, by go_num, by omega, HW3.out, HF3.out, HKF.out⟩
        case measure => (simp [intOf] <;> omega)
    · have hi8 : i = 8 := by omega
      subst hi8
      have hg8 : sgN k 8 = stsF k 0 := by
        have h := HKb.out.2
        simp [sgN, stsF, ksN, List.range_succ]
        omega
      have HW8 : Hid (WS wr db mb k (stsF k 0) m S) := Lib.hid (by rw [← hg8]; exact HW.out)
      clear hg8
      have ha0 := HA.out.1
      have ha1 := HA.out.2
      go_upto_region 11 with fail
      rw [HKK.out]
      clear ha0 ha1
      go_wp2_with fail
      refine (least_any _).mono ?_
      rintro e w2 ⟨rfl, K2⟩
      have HK2 := Lib.hid K2
      clear K2
      go_wp2_with (first
        | (refine wpList_buildTo rfl 70 #[(5, .tmp 36)] rfl _ rfl (dCs 0 0 leastJ) (by kernel_rfl) ?_)
        | (refine wpList_buildTo rfl 70 #[(0, .const (.int .i64 8)), (1, .tmp 38)] rfl _ rfl (dCs 8 k zeroJ) (by kernel_rfl) ?_)
        | (refine wpList_buildTo rfl 70 #[(0, .const (.int .i64 2)), (1, .tmp 40)] rfl _ rfl (dCs 2 k zeroJ) (by kernel_rfl) ?_)
        | (refine wpList_buildTo rfl 70 #[(0, .const (.int .i64 8)), (1, .tmp 42)] rfl _ rfl (dCs 8 k zeroJ) (by kernel_rfl) ?_)
        | (refine wpList_buildTo rfl 70 #[(0, .const (.int .i64 8)), (1, .tmp 44)] rfl _ rfl (dCs 8 k zeroJ) (by kernel_rfl) ?_))
      refine (least_any _).mono ?_
      rintro e w4 ⟨rfl, K4⟩
      have HK4 := Lib.hid K4
      clear K4
      go_wp2_with (first
        | (refine wpList_buildTo rfl 70 #[(5, .tmp 46)] rfl _ rfl (dCs 0 0 leastJ) (by kernel_rfl) ?_)
        | (refine wpList_buildSlice rfl 103 70 6 _ rfl (dCs 0 0 leastJ ++ dCs 8 k zeroJ ++ dCs 2 k zeroJ ++ dCs 8 k zeroJ ++ dCs 8 k zeroJ ++ dCs 0 0 leastJ) deedI _ Tryz.underlying103 deed_info deed_zero (by rw [dsz]; decide) (by rw [dsz]; decide) (by rw [dsz]; kernel_rfl) ?_))
      have KA : Keeps (fun _ => False) wr (w4.alloc (.cells (dCs 0 0 leastJ ++ (dCs 8 k zeroJ ++ (dCs 2 k zeroJ ++ (dCs 8 k zeroJ ++ (dCs 8 k zeroJ ++ dCs 0 0 leastJ))))) 70)) := (HK2.out.trans HK4.out).alloc _
      have hWS := HW8.out.keeps KA id id (fun _ _ => id)
      have l1 := HW8.out.dk.dk.lt
      have l2 := HW8.out.dk.mp.lt
      have hA := HK2.out.size
      have hB := HK4.out.size
      have hds : DsAt (w4.alloc (.cells (dCs 0 0 leastJ ++ (dCs 8 k zeroJ ++ (dCs 2 k zeroJ ++ (dCs 8 k zeroJ ++ (dCs 8 k zeroJ ++ dCs 0 0 leastJ))))) 70)) w4.heap.size (dsF k) := dsAt_of (heap_alloc_new w4 _) (dsF_cells k)
      refine (do_any db mb k (stsF k) (dsF k) m S w4.heap.size _ hWS hds ⟨by omega, by omega, fun e => by have := (HW8.out.foot _ e).1; omega⟩ (by rw [dsF_len]; decide) (fun j d h => stsF_next k HKb.out.1 HKb.out.2 j d h)).mono ?_
      rintro e w5 ⟨u, os, m5, S5, rfl, hown, hlen, hok, hws5, hf5, hk5⟩
      obtain ⟨g, cap, rfl, hcap, hc⟩ := row_cells hown (by rw [dsF_len]; decide)
      match os, hlen with
      | [o0, o1, o2, o3, o4, o5], _ =>
        obtain ⟨rfl, rfl, e2, rfl, rfl, rfl⟩ := outF k HKb.out.1 HKb.out.2 o0 o1 o2 o3 o4 o5 hok
        obtain ⟨c0, c1, c2⟩ := o2
        have e2 : c0 = 0 := e2
        subst e2
        have z0 := hc 0 _ rfl
        have z4 := hc 4 _ rfl
        have z8 := hc 8 _ rfl
        have z12 := hc 12 _ rfl
        have z13 := hc 13 _ rfl
        have z14 := hc 14 _ rfl
        have z15 := hc 15 _ rfl
        have z16 := hc 16 _ rfl
        have z20 := hc 20 _ rfl
        have z21 := hc 21 _ rfl
        have z22 := hc 22 _ rfl
        have z23 := hc 23 _ rfl
        have hend := endF k HKb.out.1 HKb.out.2
        have HRu := Lib.hid (desk_runs sort_is db mb _ _ m5 w5 hws5.dk hend.2 (by rw [show (dsF k).length = 6 from rfl, hend.1]; decide) (by rw [show (dsF k).length = 6 from rfl, hend.1]; decide))
        rw [show (dsF k).length = 6 from rfl, hend.1] at HRu
        have hsw := HK.out.size
        have KF : Keeps (fun _ => False) w w5 := ((HK.out.trans KA).trans2 hk5 (fun j hj e => by
          have := HQ.out
          rcases e with e | e | e
          · omega
          · omega
          · have := HF.out _ e; omega))
        have HKF := Lib.hid KF
        have hcp : (6 : Int) ≤ (cap : Int) := by have : 6 ≤ cap := hcap; omega
        have h6 : ((dsF k).length : Int) = 6 := rfl
        clear hok hown hc hws5 hf5 hk5 hA hB hWS hds l1 l2 KF hcap KA hsw hend
        rw [show (dsF k).length = 6 from rfl]
        clear h6
        go_wp2_with fail
        refine HRu.out.mono ?_
        rintro e w6 ⟨⟨x, y, rfl⟩, K6⟩
        have HK6 := Lib.hid K6
        clear K6
        go_wp2_with fail
        go_ret
        exact ⟨rfl, HKF.out.trans HK6.out⟩
end Go.Proofs.YtbifklibdkjbeaaGreatDoor
