/-
  LimitsTold: the document's Octets and Steps; the walk of the law. No condition.
-/
import Derived.Test.YtbifklibdkjbeaaGreatDoorMg1
namespace Go.Proofs.YtbifklibdkjbeaaGreatDoor
open Go.RowKit
set_option linter.unusedVariables false
set_option linter.unusedSimpArgs false
set_option maxRecDepth 100000
set_option maxHeartbeats 16000000
theorem xhC (j : JV) (q : Bool) (hR : xaW 21 j q) (hq : q = true → JOk j) (w : World) :
 Calls Tryz.prog 18 #[jV j] w fun e w' => e = .returned (.int .i64 (if q then octN j else 0)) ∧ xa (fun _ => False) w w' := by
 unfold xaW at hR
 have HR := xoo hR
 have HQ := xoo hq
 have hjb := xcT w j
 obtain ⟨w1, hw⟩ : ∃ W, w.alloc (.cells (jCs j) 28) = W := ⟨_, rfl⟩
 rw [hw] at hjb
 have hk1 : xa (fun _ => False) w w1 := by rw [← hw]; exact (xa.refl _ _).alloc _
 have hs1 : w.heap.size + 1 ≤ w1.heap.size := by rw [← hw]; simp
 have hw2 := hw
 unfold jCs at hw2
 have HW2 := xoo hw2
 have HJ := xoo hjb
 have HK1 := xoo hk1
 clear hw2 hw hjb hk1 hR hq
 have hLd := xaK j
 unfold jV jCs
 go_enter Tryz.func18, Tryz.ntmps18
 go_upto_region 1 with fail
 rw [HW2.out]
 clear HW2
 go_wp2_with (refine xap rfl 28 (.tmp 1) rfl w.heap.size rfl 28 (jCs j) (0, 0) _ HJ.out Tryz.underlying28 rfl hLd ?_)
 refine (HR.out _).mono ?_
 rintro e w2 ⟨rfl, k2⟩
 have HJ2 := xoo (HJ.out.keeps k2 id)
 have HK2 := xoo (HK1.out.trans k2)
 clear k2 HJ HK1 HR hLd
 cases q with
 | false =>
  go_wp2_with fail
  go_ret
  exact ⟨rfl, HK2.out⟩
 | true =>
  obtain ⟨b1, b2, ⟨b3, b4⟩, ⟨b5, b6⟩, ⟨b7, b8⟩, ⟨b9, b10⟩, ⟨b11, b12⟩, ⟨b13, b14⟩, ⟨b15, b16⟩, ⟨b17, b18⟩, ⟨b19, b20⟩, ⟨b21, b22⟩⟩ := HQ.out rfl
  obtain ⟨j0, j1, j2, j3, j4, j5, j6, j7, j8, j9, j10⟩ := HJ2.out.c
  obtain ⟨j11, j12, j13, j14, j15, j16⟩ := HJ2.out.d
  obtain ⟨m1, m2⟩ := xiO (a := j.bu) (b := j.ch) (A := 64) (B := 4096) (by omega) (by omega) (by omega) (by omega)
  obtain ⟨n1, n2⟩ := xiO (a := j.mo) (b := 2 * j.ro + 2 * j.wo + 1 + j.rg + j.be) (A := 4096) (B := 300) (by omega) (by omega) (by omega) (by omega)
  have e0 : (j.bu + 3) * j.ch = j.bu * j.ch + 3 * j.ch := by rw [Int.add_mul]
  have HE : Hid (octN j = j.bu * j.ch + 3 * j.ch + 2 * j.mo + 20 + j.mo * (2 * j.ro + 2 * j.wo + 1 + j.rg + j.be)) := xoo rfl
  clear HJ2
  generalize j.bu = bu at *
  generalize j.ch = ch at *
  generalize j.mo = mo at *
  generalize j.ro = ro at *
  generalize j.wo = wo at *
  generalize j.rg = rg at *
  generalize j.be = be at *
  obtain ⟨M, hM⟩ : ∃ M, bu * ch = M := ⟨_, rfl⟩
  obtain ⟨N, hN⟩ : ∃ N, mo * (2 * ro + 2 * wo + 1 + rg + be) = N := ⟨_, rfl⟩
  rw [hM] at m1 m2 e0
  rw [hN] at n1 n2
  rw [hM, hN] at HE
  have w0 : IntKind.i64.wrap (2 * ro) = 2 * ro := IntWalk.i64_in _ (by omega)
  have w1' : IntKind.i64.wrap (2 * wo) = 2 * wo := IntWalk.i64_in _ (by omega)
  have w2' : IntKind.i64.wrap (2 * ro + 2 * wo) = 2 * ro + 2 * wo := IntWalk.i64_in _ (by omega)
  have w3 : IntKind.i64.wrap (2 * ro + 2 * wo + 1) = 2 * ro + 2 * wo + 1 := IntWalk.i64_in _ (by omega)
  have w4 : IntKind.i64.wrap (2 * ro + 2 * wo + 1 + rg) = 2 * ro + 2 * wo + 1 + rg := IntWalk.i64_in _ (by omega)
  have w5 : IntKind.i64.wrap (2 * ro + 2 * wo + 1 + rg + be) = 2 * ro + 2 * wo + 1 + rg + be := IntWalk.i64_in _ (by omega)
  have w6 : IntKind.i64.wrap (bu + 3) = bu + 3 := IntWalk.i64_in _ (by omega)
  have w7 : IntKind.i64.wrap ((bu + 3) * ch) = M + 3 * ch := by rw [e0]; exact IntWalk.i64_in _ (by omega)
  have w8 : IntKind.i64.wrap (2 * mo) = 2 * mo := IntWalk.i64_in _ (by omega)
  have w9 : IntKind.i64.wrap (M + 3 * ch + 2 * mo) = M + 3 * ch + 2 * mo := IntWalk.i64_in _ (by omega)
  have w10 : IntKind.i64.wrap (M + 3 * ch + 2 * mo + 20) = M + 3 * ch + 2 * mo + 20 := IntWalk.i64_in _ (by omega)
  have w11 : IntKind.i64.wrap (mo * (2 * ro + 2 * wo + 1 + rg + be)) = N := by rw [hN]; exact IntWalk.i64_in _ (by omega)
  have w12 : IntKind.i64.wrap (M + 3 * ch + 2 * mo + 20 + N) = M + 3 * ch + 2 * mo + 20 + N := IntWalk.i64_in _ (by omega)
  have w13 : IntKind.i64.wrap (bu * ch) = M := by rw [hM]; exact IntWalk.i64_in _ (by omega)
  have w14 : IntKind.i64.wrap (3 * ch) = 3 * ch := IntWalk.i64_in _ (by omega)
  have w15 : IntKind.i64.wrap (M + 3 * ch) = M + 3 * ch := IntWalk.i64_in _ (by omega)
  clear hM hN e0
  go_wp2_with fail
  go_ret
  exact ⟨by rw [HE.out]; rfl, HK2.out⟩
theorem xjr (j : JV) (q : Bool) (hR : xaW 21 j q) (hq : q = true → JOk j) (w : World) :
 Calls Tryz.prog 20 #[jV j] w fun e w' => e = .returned (.int .i64 (if q then xhw j else 0)) ∧ xa (fun _ => False) w w' := by
 unfold xaW at hR
 have HR := xoo hR
 have HQ := xoo hq
 have hjb := xcT w j
 obtain ⟨w1, hw⟩ : ∃ W, w.alloc (.cells (jCs j) 28) = W := ⟨_, rfl⟩
 rw [hw] at hjb
 have hk1 : xa (fun _ => False) w w1 := by rw [← hw]; exact (xa.refl _ _).alloc _
 have hs1 : w.heap.size + 1 ≤ w1.heap.size := by rw [← hw]; simp
 have hw2 := hw
 unfold jCs at hw2
 have HW2 := xoo hw2
 have HJ := xoo hjb
 have HK1 := xoo hk1
 clear hw2 hw hjb hk1 hR hq
 have hLd := xaK j
 unfold jV jCs
 go_enter Tryz.func20, Tryz.ntmps20
 go_upto_region 1 with fail
 rw [HW2.out]
 clear HW2
 go_wp2_with (refine xap rfl 28 (.tmp 1) rfl w.heap.size rfl 28 (jCs j) (0, 0) _ HJ.out Tryz.underlying28 rfl hLd ?_)
 refine (HR.out _).mono ?_
 rintro e w2 ⟨rfl, k2⟩
 have HJ2 := xoo (HJ.out.keeps k2 id)
 have HK2 := xoo (HK1.out.trans k2)
 clear k2 HJ HK1 HR hLd
 cases q with
 | false =>
  go_wp2_with fail
  go_ret
  exact ⟨rfl, HK2.out⟩
 | true =>
  obtain ⟨b1, b2, ⟨b3, b4⟩, ⟨b5, b6⟩, ⟨b7, b8⟩, ⟨b9, b10⟩, ⟨b11, b12⟩, ⟨b13, b14⟩, ⟨b15, b16⟩, ⟨b17, b18⟩, ⟨b19, b20⟩, ⟨b21, b22⟩⟩ := HQ.out rfl
  obtain ⟨j0, j1, j2, j3, j4, j5, j6, j7, j8, j9, j10⟩ := HJ2.out.c
  obtain ⟨j11, j12, j13, j14, j15, j16⟩ := HJ2.out.d
  have HE : Hid (xhw j = 170 + 10 * j.wo + 40 * (j.dn : Int)) := xoo rfl
  clear HJ2
  generalize j.wo = wo at *
  generalize j.dn = dn at *
  have w0 : IntKind.i64.wrap (10 * wo) = 10 * wo := IntWalk.i64_in _ (by omega)
  have w1' : IntKind.i64.wrap (50 + 10 * wo) = 50 + 10 * wo := IntWalk.i64_in _ (by omega)
  have w2' : IntKind.i64.wrap ((dn : Int) + 3) = (dn : Int) + 3 := IntWalk.i64_in _ (by omega)
  have w3 : IntKind.i64.wrap (40 * ((dn : Int) + 3)) = 40 * ((dn : Int) + 3) := IntWalk.i64_in _ (by omega)
  have w4 : IntKind.i64.wrap (50 + 10 * wo + 40 * ((dn : Int) + 3)) = 50 + 10 * wo + 40 * ((dn : Int) + 3) := IntWalk.i64_in _ (by omega)
  have w5 : IntKind.i64.wrap (170 + 10 * wo) = 170 + 10 * wo := IntWalk.i64_in _ (by omega)
  have w6 : IntKind.i64.wrap (40 * (dn : Int)) = 40 * (dn : Int) := IntWalk.i64_in _ (by omega)
  have w7 : IntKind.i64.wrap (170 + 10 * wo + 40 * (dn : Int)) = 170 + 10 * wo + 40 * (dn : Int) := IntWalk.i64_in _ (by omega)
  go_wp2_with fail
  go_ret
  exact ⟨by rw [HE.out]; first | rfl | (show Ending.returned _ = _; congr 2; simp; omega), HK2.out⟩
theorem xil (j : JV) (q1 q2 : Bool) (o s : Int) (hA : xgt 15) (hL : xaW 40 j q1) (hS : q1 = true → xaW 41 j q2)
 (hO : q1 = true → (xdT 17 j o ∧ xdT 18 j o) ∧ (xdT 19 j s ∧ xdT 20 j s)) (w : World) :
 Calls Tryz.prog 4 #[jV j] w fun e w' => e = .returned (.bool true) ∧ xa (fun _ => False) w w' := by
 have HOk := xoo (fun W => xfv j q1 q2 hL hS W)
 unfold xgt at hA
 have HA := xoo hA
 have HO := xoo hO
 have hjb := xcT w j
 obtain ⟨w1, hw⟩ : ∃ W, w.alloc (.cells (jCs j) 28) = W := ⟨_, rfl⟩
 rw [hw] at hjb
 have hk1 : xa (fun _ => False) w w1 := by rw [← hw]; exact (xa.refl _ _).alloc _
 have hs1 : w.heap.size + 1 ≤ w1.heap.size := by rw [← hw]; simp
 have hw2 := hw
 unfold jCs at hw2
 have HW2 := xoo hw2
 have HJ := xoo hjb
 have HK1 := xoo hk1
 clear hw2 hw hjb hk1 hL hS hA hO
 have hLd := xaK j
 unfold jV jCs
 go_enter Tryz.func4, Tryz.ntmps4
 go_upto_region 1 with fail
 rw [HW2.out]
 clear HW2
 go_wp2_with fail
 refine (HA.out _).mono ?_
 rintro e w2 ⟨rfl, k2⟩
 have HJ2 := xoo (HJ.out.keeps k2 id)
 have HK2 := xoo (HK1.out.trans k2)
 clear k2 HJ HK1
 go_wp2_with (refine xap rfl 28 (.tmp 1) rfl w.heap.size rfl 28 (jCs j) (0, 0) _ HJ2.out Tryz.underlying28 rfl hLd ?_)
 refine (HOk.out _).mono ?_
 rintro e w3 ⟨rfl, k3⟩
 have HJ3 := xoo (HJ2.out.keeps k3 id)
 have HK3 := xoo (HK2.out.trans k3)
 clear k3 HJ2 HK2
 obtain ⟨ok, hok⟩ : ∃ ok, (q1 && q2) = ok := ⟨_, rfl⟩
 rw [hok]
 cases ok with
 | false =>
  clear hok
  go_wp2_with fail
  refine (HA.out _).mono ?_
  rintro e w4 ⟨rfl, k4⟩
  go_wp2_with fail
  go_ret
  exact ⟨rfl, HK3.out.trans k4⟩
 | true =>
  have hq1 : q1 = true := by cases q1; simp at hok; rfl
  obtain ⟨⟨o1, o2⟩, s1, s2⟩ := HO.out hq1
  unfold xdT jV at o1 o2 s1 s2
  have H1 := xoo o1
  have H2 := xoo o2
  have H3 := xoo s1
  have H4 := xoo s2
  clear hok HO HOk HA o1 o2 s1 s2
  go_upto_region 3 with fail
  go_cut [2] (fun v wx => v = .bool true ∧ xa (fun _ => False) w3 wx)
  case rest =>
   obtain ⟨rfl, kc⟩ := hcut
   go_wp2_with fail
   go_ret
   exact ⟨rfl, HK3.out.trans kc⟩
  obtain ⟨wd, hwd⟩ : ∃ W : World, { w3 with drawn := w3.drawn + 1 } = W := ⟨_, rfl⟩
  have hS : JbAt wd w.heap.size j ∧ xa (fun _ => False) w3 wd := by rw [← hwd]; exact ⟨HJ3.out, rfl, rfl, rfl, Nat.le_refl _, fun _ _ _ => rfl⟩
  refine wp_region_held (S := fun w' => JbAt w' w.heap.size j ∧ xa (fun _ => False) w3 w') (by kernel_rfl) ?_
  rw [hwd]
  refine wpAnyH_take (i := 0) (oi := ⟨some 11, .load 28 (.tmp 1), 28, "law.go:43", _, none⟩) (v := .agg (jCs j)) rfl (by kernel_rfl) (by kernel_rfl) (by kernel_rfl) (fun _ _ _ h => h) (Or.inl ⟨by rfl, fun w' hs => xaA 28 (.tmp 1) (by rfl) w.heap.size (by rfl) 28 (jCs j) (0, 0) _ hs.1 Tryz.underlying28 (by rfl) (xaK j)⟩) hS ?_
  simp only [Act.put, List.setIfInBounds_toArray, List.set_cons_zero, List.set_cons_succ]
  refine wpAnyH_take (i := 2) (oi := ⟨some 13, .load 28 (.tmp 1), 28, "law.go:43", _, none⟩) (v := .agg (jCs j)) rfl (by kernel_rfl) (by kernel_rfl) (by kernel_rfl) (fun _ _ _ h => h) (Or.inl ⟨by rfl, fun w' hs => xaA 28 (.tmp 1) (by rfl) w.heap.size (by rfl) 28 (jCs j) (0, 0) _ hs.1 Tryz.underlying28 (by rfl) (xaK j)⟩) hS ?_
  simp only [Act.put, List.setIfInBounds_toArray, List.set_cons_zero, List.set_cons_succ]
  refine wpAnyH_ready (rs := [1]) (by kernel_rfl) (by simp) (AllReadyH.cons (o := ⟨some 12, .call { callee := .value (.func 17), args := #[.tmp 11], argTypes := #[28] }, 3, "law.go:43", _, none⟩) rfl (fun K hK => ?_) AllReadyH.nil)
  refine xaP (by rfl) 17 #[.agg (jCs j)] (by go_simp) ?_
  refine (H1.out _).mono ?_
  rintro e we ⟨rfl, kwe⟩
  refine ⟨_, rfl, hK.out _ _ ⟨hS.1.keeps kwe id, hS.2.trans kwe⟩ (fun hS1 => ?_)⟩
  clear hK
  simp only [Act.put, List.setIfInBounds_toArray, List.set_cons_zero, List.set_cons_succ]
  refine wpAnyH_ready (rs := [3]) (by kernel_rfl) (by simp) (AllReadyH.cons (o := ⟨some 14, .call { callee := .value (.func 18), args := #[.tmp 13], argTypes := #[28] }, 3, "law.go:43", _, none⟩) rfl (fun K hK => ?_) AllReadyH.nil)
  refine xaP (by rfl) 18 #[.agg (jCs j)] (by go_simp) ?_
  refine (H2.out _).mono ?_
  rintro e wf ⟨rfl, kwf⟩
  refine ⟨_, rfl, hK.out _ _ ⟨hS1.1.keeps kwf id, hS1.2.trans kwf⟩ (fun hS2 => ?_)⟩
  clear hK
  simp only [Act.put, List.setIfInBounds_toArray, List.set_cons_zero, List.set_cons_succ]
  refine wpAnyH_take (i := 4) (oi := ⟨some 15, .binOp .eql 3 (.tmp 12) (.tmp 14) 3, 4, "law.go:43", _, none⟩) (v := .bool true) rfl (by kernel_rfl) (by kernel_rfl) (by kernel_rfl) (fun _ _ _ h => h) (Or.inl ⟨by rfl, fun w' hs => xcy (.tmp 12) (.tmp 14) (by rfl) o (by rfl) (by rfl)⟩) hS2 ?_
  simp only [Act.put, List.setIfInBounds_toArray, List.set_cons_zero, List.set_cons_succ]
  refine wpAnyH_take (i := 5) (oi := ⟨some 16, .move (.tmp 15), 4, "law.go:43", _, none⟩) (v := .bool true) rfl (by kernel_rfl) (by kernel_rfl) (by kernel_rfl) (fun _ _ _ h => h) (Or.inl ⟨by rfl, fun w' hs => by rfl⟩) hS2 ?_
  simp only [Act.put, List.setIfInBounds_toArray, List.set_cons_zero, List.set_cons_succ]
  refine wpAnyH_take (i := 6) (oi := ⟨some 17, .load 28 (.tmp 1), 28, "law.go:43", _, some (5, true)⟩) (v := .agg (jCs j)) rfl (by kernel_rfl) (by kernel_rfl) (by kernel_rfl) (fun _ _ _ h => h) (Or.inl ⟨by rfl, fun w' hs => xaA 28 (.tmp 1) (by rfl) w.heap.size (by rfl) 28 (jCs j) (0, 0) _ hs.1 Tryz.underlying28 (by rfl) (xaK j)⟩) hS2 ?_
  simp only [Act.put, List.setIfInBounds_toArray, List.set_cons_zero, List.set_cons_succ]
  refine wpAnyH_take (i := 8) (oi := ⟨some 19, .load 28 (.tmp 1), 28, "law.go:43", _, some (5, true)⟩) (v := .agg (jCs j)) rfl (by kernel_rfl) (by kernel_rfl) (by kernel_rfl) (fun _ _ _ h => h) (Or.inl ⟨by rfl, fun w' hs => xaA 28 (.tmp 1) (by rfl) w.heap.size (by rfl) 28 (jCs j) (0, 0) _ hs.1 Tryz.underlying28 (by rfl) (xaK j)⟩) hS2 ?_
  simp only [Act.put, List.setIfInBounds_toArray, List.set_cons_zero, List.set_cons_succ]
  refine wpAnyH_ready (rs := [7]) (by kernel_rfl) (by simp) (AllReadyH.cons (o := ⟨some 18, .call { callee := .value (.func 19), args := #[.tmp 17], argTypes := #[28] }, 3, "law.go:43", _, some (5, true)⟩) rfl (fun K hK => ?_) AllReadyH.nil)
  refine xaP (by rfl) 19 #[.agg (jCs j)] (by go_simp) ?_
  refine (H3.out _).mono ?_
  rintro e wg ⟨rfl, kwg⟩
  refine ⟨_, rfl, hK.out _ _ ⟨hS2.1.keeps kwg id, hS2.2.trans kwg⟩ (fun hS3 => ?_)⟩
  clear hK
  simp only [Act.put, List.setIfInBounds_toArray, List.set_cons_zero, List.set_cons_succ]
  refine wpAnyH_ready (rs := [9]) (by kernel_rfl) (by simp) (AllReadyH.cons (o := ⟨some 20, .call { callee := .value (.func 20), args := #[.tmp 19], argTypes := #[28] }, 3, "law.go:43", _, some (5, true)⟩) rfl (fun K hK => ?_) AllReadyH.nil)
  refine xaP (by rfl) 20 #[.agg (jCs j)] (by go_simp) ?_
  refine (H4.out _).mono ?_
  rintro e wh ⟨rfl, kwh⟩
  refine ⟨_, rfl, hK.out _ _ ⟨hS3.1.keeps kwh id, hS3.2.trans kwh⟩ (fun hS4 => ?_)⟩
  clear hK
  simp only [Act.put, List.setIfInBounds_toArray, List.set_cons_zero, List.set_cons_succ]
  refine wpAnyH_take (i := 10) (oi := ⟨some 21, .binOp .eql 3 (.tmp 18) (.tmp 20) 3, 4, "law.go:43", _, some (5, true)⟩) (v := .bool true) rfl (by kernel_rfl) (by kernel_rfl) (by kernel_rfl) (fun _ _ _ h => h) (Or.inl ⟨by rfl, fun w' hs => xcy (.tmp 18) (.tmp 20) (by rfl) s (by rfl) (by rfl)⟩) hS4 ?_
  simp only [Act.put, List.setIfInBounds_toArray, List.set_cons_zero, List.set_cons_succ]
  refine wpAnyH_take (i := 11) (oi := ⟨some 22, .pick (.tmp 16) (.tmp 21) (.const (.bool false)), 4, "law.go:43", _, none⟩) (v := .bool true) rfl (by kernel_rfl) (by kernel_rfl) (by kernel_rfl) (fun _ _ _ h => h) (Or.inl ⟨by rfl, fun w' hs => by rfl⟩) hS4 ?_
  simp only [Act.put, List.setIfInBounds_toArray, List.set_cons_zero, List.set_cons_succ]
  refine wpAnyH_take (i := 12) (oi := ⟨some 2, .assign (.tmp 22), 4, "law.go:43", _, none⟩) (v := .bool true) rfl (by kernel_rfl) (by kernel_rfl) (by kernel_rfl) (fun _ _ _ h => h) (Or.inl ⟨by rfl, fun w' hs => by rfl⟩) hS4 ?_
  simp only [Act.put, List.setIfInBounds_toArray, List.set_cons_zero, List.set_cons_succ]
  refine wpAnyH_done (by kernel_rfl) ?_ _
  go_wp2_with fail
  go_meet
  exact ⟨rfl, hS4.2⟩
end Go.Proofs.YtbifklibdkjbeaaGreatDoor
