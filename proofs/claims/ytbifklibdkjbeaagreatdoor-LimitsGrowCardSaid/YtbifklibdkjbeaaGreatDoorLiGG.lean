/-
  LimitsGrow: the law's walk, where it is known what Light, Short, Right, Octets, Steps say (printed by mk_grow.py).
-/
import Derived.Test.YtbifklibdkjbeaaGreatDoorMg1
import Derived.Test.YtbifklibdkjbeaaGreatDoorMg45
namespace Go.Proofs.YtbifklibdkjbeaaGreatDoor
open Go.RowKit
set_option linter.unusedVariables false
set_option linter.unusedSimpArgs false
set_option maxRecDepth 100000
set_option maxHeartbeats 40000000
theorem xd1 {o : Oper} {ρ : Operand → Value} {w : World} (x y : Operand) (ho : o.op = .binOp .geq 3 x y 3) (n m : Int) (hx : ρ x = .int .i64 n) (hy : ρ y = .int .i64 m) (h : m ≤ n) : (execOp ρ o).run Tryz.prog w = .ok (.value (.bool true)) w := by
 have e : decide (m ≤ n) = true := by simpa using h
 unfold execOp
 rw [ho]
 simp only [hx, hy]
 go_simp
theorem xg8 {o : Oper} {ρ : Operand → Value} {w : World} (x : Operand) (ho : o.op = .binOp .gtr 3 x (.const (.int .i64 0)) 3) (n : Int) (hx : ρ x = .int .i64 n) (hy : ρ (.const (.int .i64 0)) = .int .i64 0) (h : 0 < n) : (execOp ρ o).run Tryz.prog w = .ok (.value (.bool true)) w := by
 have e : decide (0 < n) = true := by simpa using h
 unfold execOp
 rw [ho]
 simp only [hx, hy]
 go_simp
def more (n k b : Int) : Int := min (n + k % 9) b
def xga (j : JV) (k0 k1 k2 k3 k4 : Int) : JV := { j with bu := more j.bu k0 64, wo := more j.wo k1 16, ro := more j.ro k2 64, rg := more j.rg k3 64, be := more j.be k4 16 }
theorem mod9 (k : Int) : 0 ≤ k % 9 ∧ k % 9 ≤ 8 := by omega
theorem xiZ (j X Y : JV) (k0 k1 k2 k3 k4 : Int) (q1 q2 q : Bool) (oX oJ sX sJ : Int) (hX : xga j k0 k1 k2 k3 k4 = X) (hY : { X with wo := j.wo } = Y)
 (b0 : 0 ≤ k0 ∧ k0 ≤ 255) (b1 : 0 ≤ k1 ∧ k1 ≤ 255) (b2 : 0 ≤ k2 ∧ k2 ≤ 255) (b3 : 0 ≤ k3 ∧ k3 ≤ 255) (b4 : 0 ≤ k4 ∧ k4 ≤ 255)
 (hA : xgt 15) (hL : xaW 40 j q1) (hS : q1 = true → xaW 41 j q2)
 (hR : q1 = true → xaW 21 j q)
 (hO : q1 = true → q = true → JOk j ∧ (xdT 17 X oX ∧ xdT 17 j oJ) ∧ (xdT 19 X sX ∧ xdT 19 j sJ ∧ xdT 19 Y sJ) ∧ oJ ≤ oX ∧ sJ ≤ sX ∧ 0 < oJ) (w : World) :
 Calls Tryz.prog 5 #[jV j, .agg #[.int .u8 k0, .int .u8 k1, .int .u8 k2, .int .u8 k3, .int .u8 k4]] w fun e w' => e = .returned (.bool true) ∧ xa (fun _ => False) w w' := by
 have HOk := xoo (fun W => xfv j q1 q2 hL hS W)
 unfold xgt at hA
 have HA := xoo hA
 have HO := xoo hO
 unfold xaW at hR
 have HR := xoo hR
 have HX := xoo hX
 have HY := xoo hY
 have hjb := xcT w j
 obtain ⟨w0, hw⟩ : ∃ W, w.alloc (.cells (jCs j) 28) = W := ⟨_, rfl⟩
 rw [hw] at hjb
 have hk0 : xa (fun _ => False) w w0 := by rw [← hw]; exact (xa.refl _ _).alloc _
 have hs0 : w0.heap.size = w.heap.size + 1 := by rw [← hw]; simp
 have hkb := heap_alloc_new w0 (.cells #[.int .u8 k0, .int .u8 k1, .int .u8 k2, .int .u8 k3, .int .u8 k4] 62)
 obtain ⟨w1, hw1⟩ : ∃ W, w0.alloc (.cells #[.int .u8 k0, .int .u8 k1, .int .u8 k2, .int .u8 k3, .int .u8 k4] 62) = W := ⟨_, rfl⟩
 rw [hw1, hs0] at hkb
 have hkx : xa (fun _ => False) w0 w1 := by rw [← hw1]; exact (xa.refl _ _).alloc _
 have HK1 := xoo (hk0.trans hkx)
 have HJ := xoo (hjb.keeps hkx id)
 have HB := xoo hkb
 have hs1 : w.heap.size + 2 ≤ w1.heap.size := by rw [← hw1]; simp; omega
 unfold jCs at hw
 rw [← hw] at hw1
 have HW2 := xoo hw1
 clear hw hw1 hjb hk0 hkx hkb hL hS hA hO hR hX hY hs0
 have hLd := xaK j
 unfold jV jCs
 go_enter Tryz.func5, Tryz.ntmps5
 go_upto_region 1 with fail
 rw [HW2.out]
 clear HW2
 go_wp2_with fail
 refine (HA.out _).mono ?_
 rintro e w2 ⟨rfl, k2'⟩
 have HJ2 := xoo (HJ.out.keeps k2' id)
 have HB2 := xoo (k2'.heap HB.out id)
 have HK2 := xoo (HK1.out.trans k2')
 clear k2' HJ HK1 HB
 go_wp2_with (refine xap rfl 28 (.tmp 2) rfl w.heap.size rfl 28 (jCs j) (0, 0) _ HJ2.out Tryz.underlying28 rfl hLd ?_)
 refine (HOk.out _).mono ?_
 rintro e w3 ⟨rfl, k3'⟩
 have HJ3 := xoo (HJ2.out.keeps k3' id)
 have HB3 := xoo (k3'.heap HB2.out id)
 have HK3 := xoo (HK2.out.trans k3')
 clear k3' HJ2 HK2 HB2
 obtain ⟨ok, hok⟩ : ∃ ok, (q1 && q2) = ok := ⟨_, rfl⟩
 rw [hok]
 cases ok with
 | false =>
  clear hok
  go_wp2_with fail
  refine (HA.out _).mono ?_
  rintro e w4 ⟨rfl, k4'⟩
  go_wp2_with fail
  go_ret
  exact ⟨rfl, HK3.out.trans k4'⟩
 | true =>
  have hq1 : q1 = true := by cases q1; simp at hok; rfl
  have hRj := HR.out hq1
  unfold jV at hRj
  have HRj := xoo hRj
  have HO2 := xoo (HO.out hq1)
  clear hok HO HOk hRj HR
  go_wp2_with (refine xap rfl 28 (.tmp 2) rfl w.heap.size rfl 28 (jCs j) (0, 0) _ HJ3.out Tryz.underlying28 rfl hLd ?_)
  refine (HRj.out _).mono ?_
  rintro e w4 ⟨rfl, k4'⟩
  have HJ4 := xoo (HJ3.out.keeps k4' id)
  have HB4 := xoo (k4'.heap HB3.out id)
  have HK4 := xoo (HK3.out.trans k4')
  clear k4' HJ3 HK3 HB3
  cases q with
  | false =>
   go_wp2_with fail
   refine (HA.out _).mono ?_
   rintro e w5 ⟨rfl, k5'⟩
   go_wp2_with fail
   go_ret
   exact ⟨rfl, HK4.out.trans k5'⟩
  | true =>
   obtain ⟨jok, ⟨h1, h2⟩, ⟨h3, h4, h5⟩, hle1, hle2, hpos⟩ := HO2.out rfl
   unfold xdT jV at h1 h2 h3 h4 h5
   have HOX := xoo h1
   have HOJ := xoo h2
   have HSX := xoo h3
   have HSJ := xoo h4
   have HSY := xoo h5
   obtain ⟨_, _, _, _, _, ⟨c1, c2⟩, _, ⟨c3, c4⟩, _, ⟨c5, c6⟩, ⟨c7, c8⟩, ⟨c9, c10⟩⟩ := jok
   clear h1 h2 h3 h4 h5 HO2 HRj HA hq1
   go_upto_region 3 with fail
   generalize Value.agg #[.slice j.da j.dn j.dc, .slice j.sa j.sn j.sc, .int .i64 j.fl, .int .i64 j.cd, .int .i64 j.mo, .string ⟨j.pt.toArray⟩, .int .i64 j.ev, .int .i64 j.bd, .int .i64 j.te, .int .i64 j.be, .int .i64 j.af, .int .i64 j.rf, .int .i64 j.bu, .int .i64 j.ch, .int .i64 j.ro, .int .i64 j.wo, .int .i64 j.rg] = z0
   go_upto_region 4 with (first | (refine xap rfl 28 (.tmp 2) rfl w.heap.size rfl 28 (jCs j) (0, 0) _ HJ4.out Tryz.underlying28 rfl hLd ?_) | (refine wpList_store_row rfl 28 (.tmp 5) (.tmp 20) rfl w4.heap.size (jCs j) rfl rfl 28 _ (heap_alloc_new _ _) hLd rfl (xiU j) ?_))
   obtain ⟨w5, hw5⟩ : ∃ W, (w4.alloc (.cells #[.slice none 0 0, .slice none 0 0, .int .i64 0, .int .i64 0, .int .i64 0, .string ⟨#[]⟩, .int .i64 0, .int .i64 0, .int .i64 0, .int .i64 0, .int .i64 0, .int .i64 0, .int .i64 0, .int .i64 0, .int .i64 0, .int .i64 0, .int .i64 0] 28)).setRow w4.heap.size (jCs j) = W := ⟨_, rfl⟩
   rw [hw5]
   obtain ⟨hx5, k5, hs5⟩ := xi6 w4 j w5 hw5
   have hlt4 : w.heap.size + 1 < w4.heap.size := by have := HK4.out.size; have := hs1; have := (Array.getElem?_eq_some_iff.1 HB4.out).1; omega
   obtain ⟨xb, hxb⟩ : ∃ b, b = w4.heap.size := ⟨_, rfl⟩
   rw [← hxb] at hx5 hw5 ⊢
   have HX5 := xoo hx5
   have HJ5 := xoo (HJ4.out.keeps k5 id)
   have HB5 := xoo (k5.heap HB4.out id)
   have HK5 := xoo (HK4.out.trans k5)
   have hne1 : ¬ w.heap.size = xb := by omega
   have hne2 : ¬ w.heap.size + 1 = xb := by omega
   have hxw : w.heap.size ≤ xb := by omega
   clear hw5 hx5 k5 hs5 HJ4 HB4 HK4 hxb
   generalize Value.agg (jCs j) = z1
   simp only [Act.put]
   obtain ⟨m0, hm0⟩ := mod9 k0
   go_upto_region 4 with fail
   go_cut [] (fun wd => wd = w5.setCell ⟨xb, 12, none⟩ (.int .i64 (more j.bu k0 64)))
   case first =>
    have y1 := HJ5.out.d.2.1
    have y2 : w5.cell? ⟨w.heap.size + 1, 0, none⟩ = some (.int .u8 k0) := by rw [Lib.cell_of_heap HB5.out]; rfl
    have y3 := Lib.cell_of_heap HX5.out 12
    have y4 : w5.frozen? ⟨xb, 12, none⟩ = false := Lib.frozen_of_heap HX5.out 12
    have HE : Hid (more j.bu k0 64 = min (j.bu + k0 % 9) 64) := xoo rfl
    have hwk : IntKind.i64.wrap k0 = k0 := IntWalk.i64_in _ (by omega)
    have hwr : IntKind.i64.wrap (k0 % 9) = k0 % 9 := IntWalk.i64_in _ (by omega)
    generalize j.bu = n at *
    have hwa : IntKind.i64.wrap (n + k0 % 9) = n + k0 % 9 := IntWalk.i64_in _ (by omega)
    go_wp2_with fail
    all_goals
     go_meet
     rw [HE.out]
     first | (rw [show min (n + k0 % 9) 64 = 64 by omega]) | (rw [show min (n + k0 % 9) 64 = n + k0 % 9 by omega])
   case rest =>
    obtain rfl := hcut
    obtain ⟨w6, hw6⟩ : ∃ W, w5.setCell ⟨xb, 12, none⟩ (.int .i64 (more j.bu k0 64)) = W := ⟨_, rfl⟩
    rw [hw6]
    have k6' : xa (fun b => b = xb) w5 w6 := by rw [← hw6]; exact (xa.refl (fun b => b = xb) _).set (p := ⟨xb, 12, none⟩) rfl _
    have hx6 : JbAt w6 xb { j with bu := more j.bu k0 64 } := by rw [← hw6]; exact xcQ 12 _ HX5.out
    have HX6 := xoo hx6
    have HJ6 := xoo (HJ5.out.keeps k6' hne1)
    have HB6 := xoo (k6'.heap HB5.out hne2)
    have HK6 := xoo (HK5.out.trans2 k6' (fun b hb e => by have e : b = xb := e; omega))
    clear hx6 hw6 k6' HX5 HJ5 HB5 HK5 m0 hm0
    obtain ⟨m1, hm1⟩ := mod9 k1
    go_upto_region 5 with fail
    go_cut [] (fun wd => wd = w6.setCell ⟨xb, 15, none⟩ (.int .i64 (more j.wo k1 16)))
    case first =>
     have y1 := HJ6.out.d.2.2.2.2.1
     have y2 : w6.cell? ⟨w.heap.size + 1, 1, none⟩ = some (.int .u8 k1) := by rw [Lib.cell_of_heap HB6.out]; rfl
     have y3 := Lib.cell_of_heap HX6.out 15
     have y4 : w6.frozen? ⟨xb, 15, none⟩ = false := Lib.frozen_of_heap HX6.out 15
     have HE : Hid (more j.wo k1 16 = min (j.wo + k1 % 9) 16) := xoo rfl
     have hwk : IntKind.i64.wrap k1 = k1 := IntWalk.i64_in _ (by omega)
     have hwr : IntKind.i64.wrap (k1 % 9) = k1 % 9 := IntWalk.i64_in _ (by omega)
     generalize j.wo = n at *
     have hwa : IntKind.i64.wrap (n + k1 % 9) = n + k1 % 9 := IntWalk.i64_in _ (by omega)
     go_wp2_with fail
     all_goals
      go_meet
      rw [HE.out]
      first | (rw [show min (n + k1 % 9) 16 = 16 by omega]) | (rw [show min (n + k1 % 9) 16 = n + k1 % 9 by omega])
    case rest =>
     obtain rfl := hcut
     obtain ⟨w7, hw7⟩ : ∃ W, w6.setCell ⟨xb, 15, none⟩ (.int .i64 (more j.wo k1 16)) = W := ⟨_, rfl⟩
     rw [hw7]
     have k7' : xa (fun b => b = xb) w6 w7 := by rw [← hw7]; exact (xa.refl (fun b => b = xb) _).set (p := ⟨xb, 15, none⟩) rfl _
     have hx7 : JbAt w7 xb { { j with bu := more j.bu k0 64 } with wo := more j.wo k1 16 } := by rw [← hw7]; exact xcQ 15 _ HX6.out
     have HX7 := xoo hx7
     have HJ7 := xoo (HJ6.out.keeps k7' hne1)
     have HB7 := xoo (k7'.heap HB6.out hne2)
     have HK7 := xoo (HK6.out.trans2 k7' (fun b hb e => by have e : b = xb := e; omega))
     clear hx7 hw7 k7' HX6 HJ6 HB6 HK6 m1 hm1
     obtain ⟨m2, hm2⟩ := mod9 k2
     go_upto_region 6 with fail
     go_cut [] (fun wd => wd = w7.setCell ⟨xb, 14, none⟩ (.int .i64 (more j.ro k2 64)))
     case first =>
      have y1 := HJ7.out.d.2.2.2.1
      have y2 : w7.cell? ⟨w.heap.size + 1, 2, none⟩ = some (.int .u8 k2) := by rw [Lib.cell_of_heap HB7.out]; rfl
      have y3 := Lib.cell_of_heap HX7.out 14
      have y4 : w7.frozen? ⟨xb, 14, none⟩ = false := Lib.frozen_of_heap HX7.out 14
      have HE : Hid (more j.ro k2 64 = min (j.ro + k2 % 9) 64) := xoo rfl
      have hwk : IntKind.i64.wrap k2 = k2 := IntWalk.i64_in _ (by omega)
      have hwr : IntKind.i64.wrap (k2 % 9) = k2 % 9 := IntWalk.i64_in _ (by omega)
      generalize j.ro = n at *
      have hwa : IntKind.i64.wrap (n + k2 % 9) = n + k2 % 9 := IntWalk.i64_in _ (by omega)
      go_wp2_with fail
      all_goals
       go_meet
       rw [HE.out]
       first | (rw [show min (n + k2 % 9) 64 = 64 by omega]) | (rw [show min (n + k2 % 9) 64 = n + k2 % 9 by omega])
     case rest =>
      obtain rfl := hcut
      obtain ⟨w8, hw8⟩ : ∃ W, w7.setCell ⟨xb, 14, none⟩ (.int .i64 (more j.ro k2 64)) = W := ⟨_, rfl⟩
      rw [hw8]
      have k8' : xa (fun b => b = xb) w7 w8 := by rw [← hw8]; exact (xa.refl (fun b => b = xb) _).set (p := ⟨xb, 14, none⟩) rfl _
      have hx8 : JbAt w8 xb { { { j with bu := more j.bu k0 64 } with wo := more j.wo k1 16 } with ro := more j.ro k2 64 } := by rw [← hw8]; exact xcQ 14 _ HX7.out
      have HX8 := xoo hx8
      have HJ8 := xoo (HJ7.out.keeps k8' hne1)
      have HB8 := xoo (k8'.heap HB7.out hne2)
      have HK8 := xoo (HK7.out.trans2 k8' (fun b hb e => by have e : b = xb := e; omega))
      clear hx8 hw8 k8' HX7 HJ7 HB7 HK7 m2 hm2
      obtain ⟨m3, hm3⟩ := mod9 k3
      go_upto_region 7 with fail
      go_cut [] (fun wd => wd = w8.setCell ⟨xb, 16, none⟩ (.int .i64 (more j.rg k3 64)))
      case first =>
       have y1 := HJ8.out.d.2.2.2.2.2
       have y2 : w8.cell? ⟨w.heap.size + 1, 3, none⟩ = some (.int .u8 k3) := by rw [Lib.cell_of_heap HB8.out]; rfl
       have y3 := Lib.cell_of_heap HX8.out 16
       have y4 : w8.frozen? ⟨xb, 16, none⟩ = false := Lib.frozen_of_heap HX8.out 16
       have HE : Hid (more j.rg k3 64 = min (j.rg + k3 % 9) 64) := xoo rfl
       have hwk : IntKind.i64.wrap k3 = k3 := IntWalk.i64_in _ (by omega)
       have hwr : IntKind.i64.wrap (k3 % 9) = k3 % 9 := IntWalk.i64_in _ (by omega)
       generalize j.rg = n at *
       have hwa : IntKind.i64.wrap (n + k3 % 9) = n + k3 % 9 := IntWalk.i64_in _ (by omega)
       go_wp2_with fail
       all_goals
        go_meet
        rw [HE.out]
        first | (rw [show min (n + k3 % 9) 64 = 64 by omega]) | (rw [show min (n + k3 % 9) 64 = n + k3 % 9 by omega])
      case rest =>
       obtain rfl := hcut
       obtain ⟨w9, hw9⟩ : ∃ W, w8.setCell ⟨xb, 16, none⟩ (.int .i64 (more j.rg k3 64)) = W := ⟨_, rfl⟩
       rw [hw9]
       have k9' : xa (fun b => b = xb) w8 w9 := by rw [← hw9]; exact (xa.refl (fun b => b = xb) _).set (p := ⟨xb, 16, none⟩) rfl _
       have hx9 : JbAt w9 xb { { { { j with bu := more j.bu k0 64 } with wo := more j.wo k1 16 } with ro := more j.ro k2 64 } with rg := more j.rg k3 64 } := by rw [← hw9]; exact xcQ 16 _ HX8.out
       have HX9 := xoo hx9
       have HJ9 := xoo (HJ8.out.keeps k9' hne1)
       have HB9 := xoo (k9'.heap HB8.out hne2)
       have HK9 := xoo (HK8.out.trans2 k9' (fun b hb e => by have e : b = xb := e; omega))
       clear hx9 hw9 k9' HX8 HJ8 HB8 HK8 m3 hm3
       obtain ⟨m4, hm4⟩ := mod9 k4
       go_upto_region 8 with fail
       go_cut [] (fun wd => wd = w9.setCell ⟨xb, 9, none⟩ (.int .i64 (more j.be k4 16)))
       case first =>
        have y1 := HJ9.out.c.2.2.2.2.2.2.2.2.2.1
        have y2 : w9.cell? ⟨w.heap.size + 1, 4, none⟩ = some (.int .u8 k4) := by rw [Lib.cell_of_heap HB9.out]; rfl
        have y3 := Lib.cell_of_heap HX9.out 9
        have y4 : w9.frozen? ⟨xb, 9, none⟩ = false := Lib.frozen_of_heap HX9.out 9
        have HE : Hid (more j.be k4 16 = min (j.be + k4 % 9) 16) := xoo rfl
        have hwk : IntKind.i64.wrap k4 = k4 := IntWalk.i64_in _ (by omega)
        have hwr : IntKind.i64.wrap (k4 % 9) = k4 % 9 := IntWalk.i64_in _ (by omega)
        generalize j.be = n at *
        have hwa : IntKind.i64.wrap (n + k4 % 9) = n + k4 % 9 := IntWalk.i64_in _ (by omega)
        go_wp2_with fail
        all_goals
         go_meet
         rw [HE.out]
         first | (rw [show min (n + k4 % 9) 16 = 16 by omega]) | (rw [show min (n + k4 % 9) 16 = n + k4 % 9 by omega])
       case rest =>
        obtain rfl := hcut
        obtain ⟨w10, hw10⟩ : ∃ W, w9.setCell ⟨xb, 9, none⟩ (.int .i64 (more j.be k4 16)) = W := ⟨_, rfl⟩
        rw [hw10]
        have k10' : xa (fun b => b = xb) w9 w10 := by rw [← hw10]; exact (xa.refl (fun b => b = xb) _).set (p := ⟨xb, 9, none⟩) rfl _
        have hx10 : JbAt w10 xb { { { { { j with bu := more j.bu k0 64 } with wo := more j.wo k1 16 } with ro := more j.ro k2 64 } with rg := more j.rg k3 64 } with be := more j.be k4 16 } := by rw [← hw10]; exact xcQ 9 _ HX9.out
        have HX10 := xoo hx10
        have HJ10 := xoo (HJ9.out.keeps k10' hne1)
        have HB10 := xoo (k10'.heap HB9.out hne2)
        have HK10 := xoo (HK9.out.trans2 k10' (fun b hb e => by have e : b = xb := e; omega))
        clear hx10 hw10 k10' HX9 HJ9 HB9 HK9 m4 hm4
        have hX : JbAt w10 xb X := by rw [← HX.out]; exact HX10.out
        have HX0 := xoo hX
        clear hX HX10
        have hLx := xaK X
        go_upto_region 10 with (first | (refine xap rfl 28 (.tmp 5) rfl xb rfl 28 (jCs X) (0, 0) _ HX0.out Tryz.underlying28 rfl hLx ?_) | (refine wpList_store_row rfl 28 (.tmp 6) (.tmp 66) rfl w10.heap.size (jCs X) rfl rfl 28 _ (heap_alloc_new _ _) hLx rfl (xiU X) ?_))
        obtain ⟨w11, hw11⟩ : ∃ W, (w10.alloc (.cells #[.slice none 0 0, .slice none 0 0, .int .i64 0, .int .i64 0, .int .i64 0, .string ⟨#[]⟩, .int .i64 0, .int .i64 0, .int .i64 0, .int .i64 0, .int .i64 0, .int .i64 0, .int .i64 0, .int .i64 0, .int .i64 0, .int .i64 0, .int .i64 0] 28)).setRow w10.heap.size (jCs X) = W := ⟨_, rfl⟩
        rw [hw11]
        obtain ⟨hy, ky, hsy⟩ := xi6 w10 X w11 hw11
        obtain ⟨yb, hyb⟩ : ∃ b, b = w10.heap.size := ⟨_, rfl⟩
        rw [← hyb] at hy hw11 ⊢
        have hlx := (Array.getElem?_eq_some_iff.1 HX0.out).1
        have hlj := (Array.getElem?_eq_some_iff.1 HJ10.out).1
        have HXm := xoo (HX0.out.keeps ky id)
        have HJm := xoo (HJ10.out.keeps ky id)
        have HKm := xoo (HK10.out.trans ky)
        have HYm := xoo hy
        have hne3 : ¬ w.heap.size = yb := by omega
        have hne4 : ¬ xb = yb := by omega
        have hyw : w.heap.size ≤ yb := by omega
        clear hy ky hsy hw11 HX0 HJ10 HK10 HB10 hlx hlj hyb
        generalize Value.agg (jCs X) = z2
        simp only [Act.put]
        go_cut [] (fun wd => wd = w11.setCell ⟨yb, 15, none⟩ (.int .i64 j.wo))
        case first =>
         have y1 := HJm.out.d.2.2.2.2.1
         have y3 := Lib.cell_of_heap HYm.out 15
         have y4 : w11.frozen? ⟨yb, 15, none⟩ = false := Lib.frozen_of_heap HYm.out 15
         generalize j.wo = n at *
         go_wp2_with fail
         go_meet
         rfl
        case rest =>
         obtain rfl := hcut
         obtain ⟨wz, hwz⟩ : ∃ W, w11.setCell ⟨yb, 15, none⟩ (.int .i64 j.wo) = W := ⟨_, rfl⟩
         rw [hwz]
         have kz : xa (fun b => b = yb) w11 wz := by rw [← hwz]; exact (xa.refl (fun b => b = yb) _).set (p := ⟨yb, 15, none⟩) rfl _
         have hyz : JbAt wz yb Y := by rw [← hwz, ← HY.out]; exact xcQ 15 _ HYm.out
         have HYz := xoo hyz
         have HXz := xoo (HXm.out.keeps kz hne4)
         have HJz := xoo (HJm.out.keeps kz hne3)
         have HKz := xoo (HKm.out.trans2 kz (fun b hb e => by have e : b = yb := e; omega))
         clear hyz hwz kz HYm HXm HJm HKm
         go_upto_region 11 with fail
         go_cut [4] (fun v wx => v = .bool true ∧ xa (fun _ => False) wz wx)
         case rest =>
          obtain ⟨rfl, kc⟩ := hcut
          go_wp2_with fail
          go_ret
          exact ⟨rfl, HKz.out.trans kc⟩
         obtain ⟨wd, hwd⟩ : ∃ W : World, { wz with drawn := wz.drawn + 1 } = W := ⟨_, rfl⟩
         have hS : JbAt wd w.heap.size j ∧ JbAt wd xb X ∧ JbAt wd yb Y ∧ xa (fun _ => False) wz wd := by rw [← hwd]; exact ⟨HJz.out, HXz.out, HYz.out, rfl, rfl, rfl, Nat.le_refl _, fun _ _ _ => rfl⟩
         refine wp_region_held (S := fun w' => JbAt w' w.heap.size j ∧ JbAt w' xb X ∧ JbAt w' yb Y ∧ xa (fun _ => False) wz w') (by kernel_rfl) ?_
         rw [hwd]
         refine wpAnyH_take (i := 0) (oi := ⟨some 70, .load 28 (.tmp 5), 28, "law.go:103", _, none⟩) (v := .agg (jCs X)) rfl (by kernel_rfl) (by kernel_rfl) (by kernel_rfl) (fun _ _ _ h => h) (Or.inl ⟨by rfl, fun w' hs => xaA 28 (.tmp 5) (by rfl) xb (by rfl) 28 (jCs X) (0, 0) _ hs.2.1 Tryz.underlying28 (by rfl) (xaK X)⟩) hS ?_
         simp only [Act.put, List.setIfInBounds_toArray, List.set_cons_zero, List.set_cons_succ]
         refine wpAnyH_take (i := 2) (oi := ⟨some 72, .load 28 (.tmp 2), 28, "law.go:103", _, none⟩) (v := .agg (jCs j)) rfl (by kernel_rfl) (by kernel_rfl) (by kernel_rfl) (fun _ _ _ h => h) (Or.inl ⟨by rfl, fun w' hs => xaA 28 (.tmp 2) (by rfl) w.heap.size (by rfl) 28 (jCs j) (0, 0) _ hs.1 Tryz.underlying28 (by rfl) (xaK j)⟩) hS ?_
         simp only [Act.put, List.setIfInBounds_toArray, List.set_cons_zero, List.set_cons_succ]
         refine wpAnyH_ready (rs := [1]) (by kernel_rfl) (by simp) (AllReadyH.cons (o := ⟨some 71, .call { callee := .value (.func 17), args := #[.tmp 70], argTypes := #[28] }, 3, "law.go:103", _, none⟩) rfl (fun K hK => ?_) AllReadyH.nil)
         refine xaP (by rfl) 17 #[.agg (jCs X)] (by go_simp) ?_
         refine (HOX.out _).mono ?_
         rintro e wa ⟨rfl, kwa⟩
         refine ⟨_, rfl, hK.out _ _ ⟨hS.1.keeps kwa id, hS.2.1.keeps kwa id, hS.2.2.1.keeps kwa id, hS.2.2.2.trans kwa⟩ (fun hS => ?_)⟩
         clear hK
         simp only [Act.put, List.setIfInBounds_toArray, List.set_cons_zero, List.set_cons_succ]
         refine wpAnyH_ready (rs := [3]) (by kernel_rfl) (by simp) (AllReadyH.cons (o := ⟨some 73, .call { callee := .value (.func 17), args := #[.tmp 72], argTypes := #[28] }, 3, "law.go:103", _, none⟩) rfl (fun K hK => ?_) AllReadyH.nil)
         refine xaP (by rfl) 17 #[.agg (jCs j)] (by go_simp) ?_
         refine (HOJ.out _).mono ?_
         rintro e wb ⟨rfl, kwb⟩
         refine ⟨_, rfl, hK.out _ _ ⟨hS.1.keeps kwb id, hS.2.1.keeps kwb id, hS.2.2.1.keeps kwb id, hS.2.2.2.trans kwb⟩ (fun hS => ?_)⟩
         clear hK
         simp only [Act.put, List.setIfInBounds_toArray, List.set_cons_zero, List.set_cons_succ]
         refine wpAnyH_take (i := 4) (oi := ⟨some 74, .binOp .geq 3 (.tmp 71) (.tmp 73) 3, 4, "law.go:103", _, none⟩) (v := .bool true) rfl (by kernel_rfl) (by kernel_rfl) (by kernel_rfl) (fun _ _ _ h => h) (Or.inl ⟨by rfl, fun w' hs => xd1 (.tmp 71) (.tmp 73) (by rfl) oX oJ (by rfl) (by rfl) hle1⟩) hS ?_
         simp only [Act.put, List.setIfInBounds_toArray, List.set_cons_zero, List.set_cons_succ]
         refine wpAnyH_take (i := 5) (oi := ⟨some 75, .move (.tmp 74), 4, "law.go:103", _, none⟩) (v := .bool true) rfl (by kernel_rfl) (by kernel_rfl) (by kernel_rfl) (fun _ _ _ h => h) (Or.inl ⟨by rfl, fun w' hs => by rfl⟩) hS ?_
         simp only [Act.put, List.setIfInBounds_toArray, List.set_cons_zero, List.set_cons_succ]
         refine wpAnyH_take (i := 6) (oi := ⟨some 76, .load 28 (.tmp 5), 28, "law.go:103", _, some (5, true)⟩) (v := .agg (jCs X)) rfl (by kernel_rfl) (by kernel_rfl) (by kernel_rfl) (fun _ _ _ h => h) (Or.inl ⟨by rfl, fun w' hs => xaA 28 (.tmp 5) (by rfl) xb (by rfl) 28 (jCs X) (0, 0) _ hs.2.1 Tryz.underlying28 (by rfl) (xaK X)⟩) hS ?_
         simp only [Act.put, List.setIfInBounds_toArray, List.set_cons_zero, List.set_cons_succ]
         refine wpAnyH_take (i := 8) (oi := ⟨some 78, .load 28 (.tmp 2), 28, "law.go:103", _, some (5, true)⟩) (v := .agg (jCs j)) rfl (by kernel_rfl) (by kernel_rfl) (by kernel_rfl) (fun _ _ _ h => h) (Or.inl ⟨by rfl, fun w' hs => xaA 28 (.tmp 2) (by rfl) w.heap.size (by rfl) 28 (jCs j) (0, 0) _ hs.1 Tryz.underlying28 (by rfl) (xaK j)⟩) hS ?_
         simp only [Act.put, List.setIfInBounds_toArray, List.set_cons_zero, List.set_cons_succ]
         refine wpAnyH_ready (rs := [7]) (by kernel_rfl) (by simp) (AllReadyH.cons (o := ⟨some 77, .call { callee := .value (.func 19), args := #[.tmp 76], argTypes := #[28] }, 3, "law.go:103", _, some (5, true)⟩) rfl (fun K hK => ?_) AllReadyH.nil)
         refine xaP (by rfl) 19 #[.agg (jCs X)] (by go_simp) ?_
         refine (HSX.out _).mono ?_
         rintro e wc1 ⟨rfl, kwc1⟩
         refine ⟨_, rfl, hK.out _ _ ⟨hS.1.keeps kwc1 id, hS.2.1.keeps kwc1 id, hS.2.2.1.keeps kwc1 id, hS.2.2.2.trans kwc1⟩ (fun hS => ?_)⟩
         clear hK
         simp only [Act.put, List.setIfInBounds_toArray, List.set_cons_zero, List.set_cons_succ]
         refine wpAnyH_ready (rs := [9]) (by kernel_rfl) (by simp) (AllReadyH.cons (o := ⟨some 79, .call { callee := .value (.func 19), args := #[.tmp 78], argTypes := #[28] }, 3, "law.go:103", _, some (5, true)⟩) rfl (fun K hK => ?_) AllReadyH.nil)
         refine xaP (by rfl) 19 #[.agg (jCs j)] (by go_simp) ?_
         refine (HSJ.out _).mono ?_
         rintro e wd1 ⟨rfl, kwd1⟩
         refine ⟨_, rfl, hK.out _ _ ⟨hS.1.keeps kwd1 id, hS.2.1.keeps kwd1 id, hS.2.2.1.keeps kwd1 id, hS.2.2.2.trans kwd1⟩ (fun hS => ?_)⟩
         clear hK
         simp only [Act.put, List.setIfInBounds_toArray, List.set_cons_zero, List.set_cons_succ]
         refine wpAnyH_take (i := 10) (oi := ⟨some 80, .binOp .geq 3 (.tmp 77) (.tmp 79) 3, 4, "law.go:103", _, some (5, true)⟩) (v := .bool true) rfl (by kernel_rfl) (by kernel_rfl) (by kernel_rfl) (fun _ _ _ h => h) (Or.inl ⟨by rfl, fun w' hs => xd1 (.tmp 77) (.tmp 79) (by rfl) sX sJ (by rfl) (by rfl) hle2⟩) hS ?_
         simp only [Act.put, List.setIfInBounds_toArray, List.set_cons_zero, List.set_cons_succ]
         refine wpAnyH_take (i := 11) (oi := ⟨some 81, .pick (.tmp 75) (.tmp 80) (.const (.bool false)), 4, "law.go:103", _, none⟩) (v := .bool true) rfl (by kernel_rfl) (by kernel_rfl) (by kernel_rfl) (fun _ _ _ h => h) (Or.inl ⟨by rfl, fun w' hs => by rfl⟩) hS ?_
         simp only [Act.put, List.setIfInBounds_toArray, List.set_cons_zero, List.set_cons_succ]
         refine wpAnyH_take (i := 12) (oi := ⟨some 82, .move (.tmp 81), 4, "law.go:103", _, none⟩) (v := .bool true) rfl (by kernel_rfl) (by kernel_rfl) (by kernel_rfl) (fun _ _ _ h => h) (Or.inl ⟨by rfl, fun w' hs => by rfl⟩) hS ?_
         simp only [Act.put, List.setIfInBounds_toArray, List.set_cons_zero, List.set_cons_succ]
         refine wpAnyH_take (i := 13) (oi := ⟨some 83, .load 28 (.tmp 6), 28, "law.go:103", _, some (12, true)⟩) (v := .agg (jCs Y)) rfl (by kernel_rfl) (by kernel_rfl) (by kernel_rfl) (fun _ _ _ h => h) (Or.inl ⟨by rfl, fun w' hs => xaA 28 (.tmp 6) (by rfl) yb (by rfl) 28 (jCs Y) (0, 0) _ hs.2.2.1 Tryz.underlying28 (by rfl) (xaK Y)⟩) hS ?_
         simp only [Act.put, List.setIfInBounds_toArray, List.set_cons_zero, List.set_cons_succ]
         refine wpAnyH_take (i := 15) (oi := ⟨some 85, .load 28 (.tmp 2), 28, "law.go:103", _, some (12, true)⟩) (v := .agg (jCs j)) rfl (by kernel_rfl) (by kernel_rfl) (by kernel_rfl) (fun _ _ _ h => h) (Or.inl ⟨by rfl, fun w' hs => xaA 28 (.tmp 2) (by rfl) w.heap.size (by rfl) 28 (jCs j) (0, 0) _ hs.1 Tryz.underlying28 (by rfl) (xaK j)⟩) hS ?_
         simp only [Act.put, List.setIfInBounds_toArray, List.set_cons_zero, List.set_cons_succ]
         refine wpAnyH_ready (rs := [14]) (by kernel_rfl) (by simp) (AllReadyH.cons (o := ⟨some 84, .call { callee := .value (.func 19), args := #[.tmp 83], argTypes := #[28] }, 3, "law.go:103", _, some (12, true)⟩) rfl (fun K hK => ?_) AllReadyH.nil)
         refine xaP (by rfl) 19 #[.agg (jCs Y)] (by go_simp) ?_
         refine (HSY.out _).mono ?_
         rintro e we1 ⟨rfl, kwe1⟩
         refine ⟨_, rfl, hK.out _ _ ⟨hS.1.keeps kwe1 id, hS.2.1.keeps kwe1 id, hS.2.2.1.keeps kwe1 id, hS.2.2.2.trans kwe1⟩ (fun hS => ?_)⟩
         clear hK
         simp only [Act.put, List.setIfInBounds_toArray, List.set_cons_zero, List.set_cons_succ]
         refine wpAnyH_ready (rs := [16]) (by kernel_rfl) (by simp) (AllReadyH.cons (o := ⟨some 86, .call { callee := .value (.func 19), args := #[.tmp 85], argTypes := #[28] }, 3, "law.go:103", _, some (12, true)⟩) rfl (fun K hK => ?_) AllReadyH.nil)
         refine xaP (by rfl) 19 #[.agg (jCs j)] (by go_simp) ?_
         refine (HSJ.out _).mono ?_
         rintro e wf1 ⟨rfl, kwf1⟩
         refine ⟨_, rfl, hK.out _ _ ⟨hS.1.keeps kwf1 id, hS.2.1.keeps kwf1 id, hS.2.2.1.keeps kwf1 id, hS.2.2.2.trans kwf1⟩ (fun hS => ?_)⟩
         clear hK
         simp only [Act.put, List.setIfInBounds_toArray, List.set_cons_zero, List.set_cons_succ]
         refine wpAnyH_take (i := 17) (oi := ⟨some 87, .binOp .eql 3 (.tmp 84) (.tmp 86) 3, 4, "law.go:103", _, some (12, true)⟩) (v := .bool true) rfl (by kernel_rfl) (by kernel_rfl) (by kernel_rfl) (fun _ _ _ h => h) (Or.inl ⟨by rfl, fun w' hs => xcy (.tmp 84) (.tmp 86) (by rfl) sJ (by rfl) (by rfl)⟩) hS ?_
         simp only [Act.put, List.setIfInBounds_toArray, List.set_cons_zero, List.set_cons_succ]
         refine wpAnyH_take (i := 18) (oi := ⟨some 88, .pick (.tmp 82) (.tmp 87) (.const (.bool false)), 4, "law.go:103", _, none⟩) (v := .bool true) rfl (by kernel_rfl) (by kernel_rfl) (by kernel_rfl) (fun _ _ _ h => h) (Or.inl ⟨by rfl, fun w' hs => by rfl⟩) hS ?_
         simp only [Act.put, List.setIfInBounds_toArray, List.set_cons_zero, List.set_cons_succ]
         refine wpAnyH_take (i := 19) (oi := ⟨some 89, .move (.tmp 88), 4, "law.go:103", _, none⟩) (v := .bool true) rfl (by kernel_rfl) (by kernel_rfl) (by kernel_rfl) (fun _ _ _ h => h) (Or.inl ⟨by rfl, fun w' hs => by rfl⟩) hS ?_
         simp only [Act.put, List.setIfInBounds_toArray, List.set_cons_zero, List.set_cons_succ]
         refine wpAnyH_take (i := 20) (oi := ⟨some 90, .load 28 (.tmp 2), 28, "law.go:103", _, some (19, true)⟩) (v := .agg (jCs j)) rfl (by kernel_rfl) (by kernel_rfl) (by kernel_rfl) (fun _ _ _ h => h) (Or.inl ⟨by rfl, fun w' hs => xaA 28 (.tmp 2) (by rfl) w.heap.size (by rfl) 28 (jCs j) (0, 0) _ hs.1 Tryz.underlying28 (by rfl) (xaK j)⟩) hS ?_
         simp only [Act.put, List.setIfInBounds_toArray, List.set_cons_zero, List.set_cons_succ]
         refine wpAnyH_ready (rs := [21]) (by kernel_rfl) (by simp) (AllReadyH.cons (o := ⟨some 91, .call { callee := .value (.func 17), args := #[.tmp 90], argTypes := #[28] }, 3, "law.go:103", _, some (19, true)⟩) rfl (fun K hK => ?_) AllReadyH.nil)
         refine xaP (by rfl) 17 #[.agg (jCs j)] (by go_simp) ?_
         refine (HOJ.out _).mono ?_
         rintro e wg1 ⟨rfl, kwg1⟩
         refine ⟨_, rfl, hK.out _ _ ⟨hS.1.keeps kwg1 id, hS.2.1.keeps kwg1 id, hS.2.2.1.keeps kwg1 id, hS.2.2.2.trans kwg1⟩ (fun hS => ?_)⟩
         clear hK
         simp only [Act.put, List.setIfInBounds_toArray, List.set_cons_zero, List.set_cons_succ]
         refine wpAnyH_take (i := 22) (oi := ⟨some 92, .binOp .gtr 3 (.tmp 91) (.const (.int .i64 0)) 3, 4, "law.go:103", _, some (19, true)⟩) (v := .bool true) rfl (by kernel_rfl) (by kernel_rfl) (by kernel_rfl) (fun _ _ _ h => h) (Or.inl ⟨by rfl, fun w' hs => xg8 (.tmp 91) (by rfl) oJ (by rfl) (by rfl) hpos⟩) hS ?_
         simp only [Act.put, List.setIfInBounds_toArray, List.set_cons_zero, List.set_cons_succ]
         refine wpAnyH_take (i := 23) (oi := ⟨some 93, .pick (.tmp 89) (.tmp 92) (.const (.bool false)), 4, "law.go:103", _, none⟩) (v := .bool true) rfl (by kernel_rfl) (by kernel_rfl) (by kernel_rfl) (fun _ _ _ h => h) (Or.inl ⟨by rfl, fun w' hs => by rfl⟩) hS ?_
         simp only [Act.put, List.setIfInBounds_toArray, List.set_cons_zero, List.set_cons_succ]
         refine wpAnyH_take (i := 24) (oi := ⟨some 4, .assign (.tmp 93), 4, "law.go:103", _, none⟩) (v := .bool true) rfl (by kernel_rfl) (by kernel_rfl) (by kernel_rfl) (fun _ _ _ h => h) (Or.inl ⟨by rfl, fun w' hs => by rfl⟩) hS ?_
         simp only [Act.put, List.setIfInBounds_toArray, List.set_cons_zero, List.set_cons_succ]
         refine wpAnyH_done (by kernel_rfl) ?_ _
         go_wp2_with fail
         go_meet
         exact ⟨rfl, hS.2.2.2⟩
end Go.Proofs.YtbifklibdkjbeaaGreatDoor
