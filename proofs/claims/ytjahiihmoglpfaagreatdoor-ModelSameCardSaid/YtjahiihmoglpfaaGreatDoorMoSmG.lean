/-
  ModelSame: its walk (printed by mk_laws.py).
-/
import Derived.Test.YtjahiihmoglpfaaGreatDoorMg40
import Derived.BigRegion
import Derived.Deep.Cut
import Derived.Deep.RegionHeld
namespace Go.Proofs.YtjahiihmoglpfaaGreatDoor
open Go.RowKit
set_option linter.unusedVariables false
set_option linter.unusedSimpArgs false
set_option maxRecDepth 100000
def nine (j k : JV) : JV := { j with sa := k.sa, sn := k.sn, sc := k.sc, bu := k.bu, ch := k.ch, ro := k.ro, wo := k.wo, rg := k.rg, rf := k.rf, bd := k.bd }
theorem xa2 {o : Oper} {ρ : Operand → Value} {w : World} (x : Operand) (ho : o.op = .load 3 x) (ad : Addr) (hx : ρ x = .pointer (some ad)) (v : Value) (hc : w.cell? ad = some v) : (execOp ρ o).run Tryz.prog w = .ok (.value v) w := by
 unfold execOp
 rw [ho]
 go_simp
theorem xeJ {o : Oper} {ρ : Operand → Value} {w : World} (x : Operand) (ho : o.op = .load 23 x) (ad : Addr) (hx : ρ x = .pointer (some ad)) (v : Value) (hc : w.cell? ad = some v) : (execOp ρ o).run Tryz.prog w = .ok (.value v) w := by
 unfold execOp
 rw [ho]
 go_simp
theorem xaQ {ops : Array Oper} {o : Oper} {a : Act} {w : World} {K : Act → World → Prop} {Q : Exit → Act → World → Prop} {E : Prop} (hgd : o.guard = none) (x y : Operand) (ho : o.op = .store 3 x y) (ad : Addr) (hx : a.eval x = .pointer (some ad))
 (n : Int) (hy : a.eval y = .int .i64 n) (u : Value) (hc : w.cell? ad = some u) (hf : w.frozen? ad = false) (h : K (a.put o.dst undef) (w.setCell ad (.int .i64 n))) : if Region.wanted o (yielded ops a.tmps) = true then Oper.wp Tryz.prog o a w K Q else E := by
 rw [if_pos (by simp [Region.wanted, hgd])]
 unfold Oper.wp execOp
 rw [ho]
 simp only [hx, hy]
 go_simp
 exact h
theorem xd9 {ops : Array Oper} {o : Oper} {a : Act} {w : World} {K : Act → World → Prop} {Q : Exit → Act → World → Prop} {E : Prop} (hgd : o.guard = none) (x y : Operand) (ho : o.op = .store 23 x y) (ad : Addr) (hx : a.eval x = .pointer (some ad))
 (b : Option Addr) (n c : Nat) (hy : a.eval y = .slice b n c) (u : Value) (hc : w.cell? ad = some u) (hf : w.frozen? ad = false) (h : K (a.put o.dst undef) (w.setCell ad (.slice b n c))) : if Region.wanted o (yielded ops a.tmps) = true then Oper.wp Tryz.prog o a w K Q else E := by
 rw [if_pos (by simp [Region.wanted, hgd])]
 unfold Oper.wp execOp
 rw [ho]
 simp only [hx, hy]
 go_simp
 exact h
theorem xdN {o : Oper} {ρ : Operand → Value} {w : World} (x : Operand) (ho : o.op = .fieldAddr 25 x 1) (b : Nat) (hx : ρ x = .pointer (some ⟨b, 0, none⟩)) : (execOp ρ o).run Tryz.prog w = .ok (.value (.pointer (some ⟨b, 1, none⟩))) w := by
 unfold execOp
 rw [ho]
 go_simp
theorem xdM {o : Oper} {ρ : Operand → Value} {w : World} (x : Operand) (ho : o.op = .fieldAddr 25 x 7) (b : Nat) (hx : ρ x = .pointer (some ⟨b, 0, none⟩)) : (execOp ρ o).run Tryz.prog w = .ok (.value (.pointer (some ⟨b, 7, none⟩))) w := by
 unfold execOp
 rw [ho]
 go_simp
theorem xdj {o : Oper} {ρ : Operand → Value} {w : World} (x : Operand) (ho : o.op = .fieldAddr 25 x 11) (b : Nat) (hx : ρ x = .pointer (some ⟨b, 0, none⟩)) : (execOp ρ o).run Tryz.prog w = .ok (.value (.pointer (some ⟨b, 11, none⟩))) w := by
 unfold execOp
 rw [ho]
 go_simp
theorem xdi {o : Oper} {ρ : Operand → Value} {w : World} (x : Operand) (ho : o.op = .fieldAddr 25 x 12) (b : Nat) (hx : ρ x = .pointer (some ⟨b, 0, none⟩)) : (execOp ρ o).run Tryz.prog w = .ok (.value (.pointer (some ⟨b, 12, none⟩))) w := by
 unfold execOp
 rw [ho]
 go_simp
theorem xdh {o : Oper} {ρ : Operand → Value} {w : World} (x : Operand) (ho : o.op = .fieldAddr 25 x 13) (b : Nat) (hx : ρ x = .pointer (some ⟨b, 0, none⟩)) : (execOp ρ o).run Tryz.prog w = .ok (.value (.pointer (some ⟨b, 13, none⟩))) w := by
 unfold execOp
 rw [ho]
 go_simp
theorem xdg {o : Oper} {ρ : Operand → Value} {w : World} (x : Operand) (ho : o.op = .fieldAddr 25 x 14) (b : Nat) (hx : ρ x = .pointer (some ⟨b, 0, none⟩)) : (execOp ρ o).run Tryz.prog w = .ok (.value (.pointer (some ⟨b, 14, none⟩))) w := by
 unfold execOp
 rw [ho]
 go_simp
theorem xdf {o : Oper} {ρ : Operand → Value} {w : World} (x : Operand) (ho : o.op = .fieldAddr 25 x 15) (b : Nat) (hx : ρ x = .pointer (some ⟨b, 0, none⟩)) : (execOp ρ o).run Tryz.prog w = .ok (.value (.pointer (some ⟨b, 15, none⟩))) w := by
 unfold execOp
 rw [ho]
 go_simp
theorem xde {o : Oper} {ρ : Operand → Value} {w : World} (x : Operand) (ho : o.op = .fieldAddr 25 x 16) (b : Nat) (hx : ρ x = .pointer (some ⟨b, 0, none⟩)) : (execOp ρ o).run Tryz.prog w = .ok (.value (.pointer (some ⟨b, 16, none⟩))) w := by
 unfold execOp
 rw [ho]
 go_simp
theorem xbA {w : World} {b : Nat} {cs : Array Value} {t : TypeId} (i : Nat) (v : Value) (h : w.heap[b]? = some (.cells cs t (0, 0))) : (w.setCell ⟨b, i, none⟩ v).heap[b]? = some (.cells (cs.setIfInBounds i v) t (0, 0)) := by
 simp [World.setCell, Array.getElem?_modify, h]
theorem xlG (w : World) (b : Nat) (j k : JV) (h : JbAt w b j) (w' : World)
 (e : ((((((((w.setCell ⟨b, 1, none⟩ (.slice k.sa k.sn k.sc)).setCell ⟨b, 12, none⟩ (.int .i64 k.bu)).setCell ⟨b, 13, none⟩ (.int .i64 k.ch)).setCell ⟨b, 14, none⟩ (.int .i64 k.ro)).setCell ⟨b, 15, none⟩ (.int .i64 k.wo)).setCell ⟨b, 16, none⟩ (.int .i64 k.rg)).setCell ⟨b, 11, none⟩ (.int .i64 k.rf)).setCell ⟨b, 7, none⟩ (.int .i64 k.bd)) = w') :
 JbAt w' b (nine j k) ∧ xaa (fun x => x = b) w w' := by
 subst e
 have K : ∀ (X : World) (i : Nat) (v : Value), xaa (fun x => x = b) X (X.setCell ⟨b, i, none⟩ v) := fun X i v => xaa.setCell (S := fun x => x = b) (xaa.refl _ X) (p := ⟨b, i, none⟩) (Or.inl rfl) v
 have h1 := xbA 1 (.slice k.sa k.sn k.sc) h
 have h2 := xbA 12 (.int .i64 k.bu) h1
 have h3 := xbA 13 (.int .i64 k.ch) h2
 have h4 := xbA 14 (.int .i64 k.ro) h3
 have h5 := xbA 15 (.int .i64 k.wo) h4
 have h6 := xbA 16 (.int .i64 k.rg) h5
 have h7 := xbA 11 (.int .i64 k.rf) h6
 have h8 := xbA 7 (.int .i64 k.bd) h7
 have e8 : ((((((((jCs j).setIfInBounds 1 (.slice k.sa k.sn k.sc)).setIfInBounds 12 (.int .i64 k.bu)).setIfInBounds 13 (.int .i64 k.ch)).setIfInBounds 14 (.int .i64 k.ro)).setIfInBounds 15 (.int .i64 k.wo)).setIfInBounds 16 (.int .i64 k.rg)).setIfInBounds 11 (.int .i64 k.rf)).setIfInBounds 7 (.int .i64 k.bd) = jCs (nine j k) := by kernel_rfl
 rw [e8] at h8
 refine ⟨?_, (((((((K _ _ _).trans (K _ _ _)).trans (K _ _ _)).trans (K _ _ _)).trans (K _ _ _)).trans (K _ _ _)).trans (K _ _ _)).trans (K _ _ _)⟩
 exact h8
theorem xkd (w W1 W2 W3 W4 W5 W6 W7 W8 : World) (b : Nat) (j k : JV) (h : JbAt w b j) (e1 : w.setCell ⟨b, 1, none⟩ (.slice k.sa k.sn k.sc) = W1) (e2 : W1.setCell ⟨b, 12, none⟩ (.int .i64 k.bu) = W2) (e3 : W2.setCell ⟨b, 13, none⟩ (.int .i64 k.ch) = W3) (e4 : W3.setCell ⟨b, 14, none⟩ (.int .i64 k.ro) = W4) (e5 : W4.setCell ⟨b, 15, none⟩ (.int .i64 k.wo) = W5) (e6 : W5.setCell ⟨b, 16, none⟩ (.int .i64 k.rg) = W6) (e7 : W6.setCell ⟨b, 11, none⟩ (.int .i64 k.rf) = W7) (e8 : W7.setCell ⟨b, 7, none⟩ (.int .i64 k.bd) = W8) : JbAt W8 b (nine j k) ∧ xaa (fun x => x = b) w W8 := by
 subst e1 e2 e3 e4 e5 e6 e7
 exact xlG w b j k h W8 e8
theorem xlH (f : List UInt8 → List (Int × Int)) (j k : JV) (data : List UInt8) : runJ f (nine j k) data = runJ f j data := rfl
set_option maxHeartbeats 40000000 in
theorem xlh (j k : JV) (w : World) (hD : j.dn ≤ 200 → ∃ data : List UInt8, SlOf 1 encB w (.slice j.da j.dn j.dc) data) (hT : TabW w) (hp : j.pt.length ≤ 9223372036854775807) :
 Calls Tryz.prog 3 #[jV j, jV k] w fun e w' => e = .returned (.bool true) ∧ xaa (fun _ => False) w w' := by
 obtain ⟨bad, f, hR⟩ := xec j.pt hp
 have HA := xmA (fun (W : World) (h : TabW W) => xdG W h)
 have hLi := fun W => xdw j W hp
 have hSh := fun W => xdu j W hp
 have HRi := xmA (fun (y : JV) W (h1 : y.dn ≤ 65536) (h2 : y.sn ≤ 64) (h3 : y.pt.length ≤ 9223372036854775807) => xdv y h1 h2 h3 W)
 have HR := xmA hR
 have HT := xmA hT
 have HD0 := xmA hD
 have hjb := xdc w j
 obtain ⟨w1, hw⟩ : ∃ W, w.alloc (.cells (jCs j) 25) = W := ⟨_, rfl⟩
 rw [hw] at hjb
 have hk1 : xaa (fun _ => False) w w1 := by rw [← hw]; exact (xaa.refl _ _).alloc _
 have hs1 : w1.heap.size = w.heap.size + 1 := by rw [← hw]; simp
 have hjx := xdc w1 k
 obtain ⟨wx, hwx⟩ : ∃ W, w1.alloc (.cells (jCs k) 25) = W := ⟨_, rfl⟩
 rw [hwx, hs1] at hjx
 have hkx : xaa (fun _ => False) w1 wx := by rw [← hwx]; exact (xaa.refl _ _).alloc _
 have HK1 := xmA (hk1.trans hkx)
 have HJ1 := xmA (hjb.keeps hkx id)
 have HX1 := xmA hjx
 have hsx : w.heap.size + 2 ≤ wx.heap.size := by rw [← hwx]; simp; omega
 unfold jCs at hw hwx
 rw [← hw] at hwx
 have HW := xmA hwx
 clear hjb hjx hkx hk1 hw hwx hs1 hR hD hT
 unfold jV at hLi hSh
 have HLi := xmA hLi
 have HSh := xmA hSh
 clear hLi hSh
 have HW0 := HW
 unfold jV jCs
 go_enter Tryz.func3, Tryz.ntmps3
 go_upto_region 1 with fail
 rw [HW.out]
 clear HW HW0
 generalize (Value.agg #[.slice j.da j.dn j.dc, .slice j.sa j.sn j.sc, .int .i64 j.fl, .int .i64 j.cd, .int .i64 j.mo, .string ⟨j.pt.toArray⟩, .int .i64 j.ev, .int .i64 j.bd, .int .i64 j.te, .int .i64 j.be, .int .i64 j.af, .int .i64 j.rf, .int .i64 j.bu, .int .i64 j.ch, .int .i64 j.ro, .int .i64 j.wo, .int .i64 j.rg]) = z0
 generalize (Value.agg #[.slice k.da k.dn k.dc, .slice k.sa k.sn k.sc, .int .i64 k.fl, .int .i64 k.cd, .int .i64 k.mo, .string ⟨k.pt.toArray⟩, .int .i64 k.ev, .int .i64 k.bd, .int .i64 k.te, .int .i64 k.be, .int .i64 k.af, .int .i64 k.rf, .int .i64 k.bu, .int .i64 k.ch, .int .i64 k.ro, .int .i64 k.wo, .int .i64 k.rg]) = z1
 go_wp2_with fail
 refine (HA.out _ (HT.out.keeps HK1.out)).mono ?_
 rintro e w2 ⟨rfl, k2⟩
 have HK2 := xmA (HK1.out.trans k2)
 have HJ2 := xmA (HJ1.out.keeps k2 id)
 have HX2 := xmA (HX1.out.keeps k2 id)
 clear k2 HK1 HJ1 HX1
 go_wp2_with (refine xam rfl 25 (.tmp 2) rfl w.heap.size rfl 25 (jCs j) (0, 0) _ HJ2.out Tryz.underlying25 rfl (xar j) ?_)
 refine (HLi.out _).mono ?_
 rintro e w3 ⟨b, rfl, hb, k3⟩
 have HK3 := xmA (HK2.out.trans k3)
 have HJ3 := xmA (HJ2.out.keeps k3 id)
 have HX3 := xmA (HX2.out.keeps k3 id)
 clear k3 HK2 HJ2 HX2
 cases b with
 | false =>
  clear hb
  go_wp2_with fail
  refine (HA.out _ (HT.out.keeps HK3.out)).mono ?_
  rintro e w4 ⟨rfl, k4⟩
  have HK4 := xmA (HK3.out.trans k4)
  have HJ4 := xmA (HJ3.out.keeps k4 id)
  have HX4 := xmA (HX3.out.keeps k4 id)
  clear k4 HK3 HJ3 HX3
  go_wp2_with fail
  go_ret
  exact ⟨rfl, HK4.out⟩
 | true =>
  obtain ⟨l1, l2, l3⟩ := hb rfl
  obtain ⟨data, hD1⟩ := HD0.out l1
  have hdl0 : data.length = j.dn := by
   obtain ⟨a', c', e9, _⟩ := hD1
   exact (Value.slice.inj e9).2.1.symm
  have HD := xmA hD1
  clear hD1 HD0 hb
  go_wp2_with (refine xam rfl 25 (.tmp 2) rfl w.heap.size rfl 25 (jCs j) (0, 0) _ HJ3.out Tryz.underlying25 rfl (xar j) ?_)
  refine (HSh.out _).mono ?_
  rintro e w4 ⟨b, rfl, hb, k4⟩
  have HK4 := xmA (HK3.out.trans k4)
  have HJ4 := xmA (HJ3.out.keeps k4 id)
  have HX4 := xmA (HX3.out.keeps k4 id)
  clear k4 HK3 HJ3 HX3
  cases b with
  | false =>
   clear hb
   go_wp2_with fail
   refine (HA.out _ (HT.out.keeps HK4.out)).mono ?_
   rintro e w5 ⟨rfl, k5⟩
   have HK5 := xmA (HK4.out.trans k5)
   have HJ5 := xmA (HJ4.out.keeps k5 id)
   have HX5 := xmA (HX4.out.keeps k5 id)
   clear k5 HK4 HJ4 HX4
   go_wp2_with fail
   go_ret
   exact ⟨rfl, HK5.out⟩
  | true =>
   clear hb
   have hRj := fun W => HRi.out j W (by omega) (by omega) hp
   unfold jV at hRj
   have HRj := xmA hRj
   clear hRj
   go_wp2_with (refine xam rfl 25 (.tmp 2) rfl w.heap.size rfl 25 (jCs j) (0, 0) _ HJ4.out Tryz.underlying25 rfl (xar j) ?_)
   refine (HRj.out _).mono ?_
   rintro e w5 ⟨b, rfl, hb, k5⟩
   have HK5 := xmA (HK4.out.trans k5)
   have HJ5 := xmA (HJ4.out.keeps k5 id)
   have HX5 := xmA (HX4.out.keeps k5 id)
   clear k5 HK4 HJ4 HX4
   cases b with
   | false =>
    clear hb
    go_wp2_with fail
    refine (HA.out _ (HT.out.keeps HK5.out)).mono ?_
    rintro e w6 ⟨rfl, k6⟩
    have HK6 := xmA (HK5.out.trans k6)
    have HJ6 := xmA (HJ5.out.keeps k6 id)
    have HX6 := xmA (HX5.out.keeps k6 id)
    clear k6 HK5 HJ5 HX5
    go_wp2_with fail
    go_ret
    exact ⟨rfl, HK6.out⟩
   | true =>
    have hok := hb rfl
    have hdl : data.length ≤ 200 := by omega
    clear hdl0 hb
    have HOk := xmA hok
    clear hok
    by_cases hk : 10 < k.sn
    · have g9 : decide ((10 : Int) < (k.sn : Int)) = true := by simp; omega
      have q1 := HX5.out.c.2.1
      go_wp2_with fail
      refine (HA.out _ (HT.out.keeps HK5.out)).mono ?_
      rintro e w6 ⟨rfl, k6⟩
      have HK6 := xmA (HK5.out.trans k6)
      have HJ6 := xmA (HJ5.out.keeps k6 id)
      have HX6 := xmA (HX5.out.keeps k6 id)
      clear k6 HK5 HJ5 HX5
      go_wp2_with fail
      go_ret
      exact ⟨rfl, HK6.out⟩
    have g9 : decide ((10 : Int) < (k.sn : Int)) = false := by simp; omega
    have q1 := HX5.out.c.2.1
    go_upto_region 3 with fail
    generalize Value.agg (jCs j) = z2
    clear q1 g9
    go_upto_region 4 with (first | (refine xam rfl 25 (.tmp 2) rfl w.heap.size rfl 25 (jCs j) (0, 0) _ HJ5.out Tryz.underlying25 rfl (xar j) ?_) | (refine wpList_store_row rfl 25 (.tmp 5) (.tmp 34) rfl w5.heap.size (jCs j) rfl rfl 25 _ (heap_alloc_new _ _) (xar j) rfl (xbU j) ?_))
    obtain ⟨w6, hw6⟩ : ∃ W, (w5.alloc (.cells #[.slice none 0 0, .slice none 0 0, .int .i64 0, .int .i64 0, .int .i64 0, .string ⟨#[]⟩, .int .i64 0, .int .i64 0, .int .i64 0, .int .i64 0, .int .i64 0, .int .i64 0, .int .i64 0, .int .i64 0, .int .i64 0, .int .i64 0, .int .i64 0] 25)).setRow w5.heap.size (jCs j) = W := ⟨_, rfl⟩
    rw [hw6]
    obtain ⟨hj6, k6, hs6⟩ := xlP w5 j w6 hw6
    have HK6 := xmA (HK5.out.trans k6)
    have HJ6 := xmA (HJ5.out.keeps k6 id)
    have HX6 := xmA (HX5.out.keeps k6 id)
    have HY6 := xmA hj6
    have hz5 : w.heap.size + 1 < w5.heap.size := (Array.getElem?_eq_some_iff.1 HX5.out).1
    clear k6 hj6 hw6 HK5 HJ5 HX5
    generalize Value.agg (jCs j) = z3
    simp only [Act.put]
    go_cut [] (fun wd => JbAt wd w.heap.size j ∧ JbAt wd w5.heap.size (nine j k) ∧ xaa (fun b => b = w5.heap.size) w6 wd)
    case first =>
     obtain ⟨wd, hwd⟩ : ∃ W : World, { w6 with drawn := w6.drawn + 1 } = W := ⟨_, rfl⟩
     have hS : JbAt wd (w.heap.size + 1) k := by rw [← hwd]; exact HX6.out
     have hY : JbAt wd w5.heap.size j := by rw [← hwd]; exact HY6.out
     refine wp_region_held (S := fun w' => JbAt w' (w.heap.size + 1) k) (by kernel_rfl) ?_
     rw [hwd]
     refine wpAnyH_take (i := 0) (oi := ⟨some 35, .fieldAddr 25 (.tmp 3) 1, 0, "law.go:49", _, none⟩) (v := .pointer (some ⟨w.heap.size + 1, 1, none⟩)) rfl (by kernel_rfl) (by kernel_rfl) (by kernel_rfl) (fun _ _ _ h => h) (Or.inl ⟨by rfl, fun w' hs => xdN (.tmp 3) (by rfl) _ (by rfl)⟩) hS ?_
     simp only [Act.put, List.setIfInBounds_toArray, List.set_cons_zero, List.set_cons_succ]
     refine wpAnyH_take (i := 1) (oi := ⟨some 36, .load 23 (.tmp 35), 23, "law.go:49", _, none⟩) (v := .slice k.sa k.sn k.sc) rfl (by kernel_rfl) (by kernel_rfl) (by kernel_rfl) (fun _ _ _ h => h) (Or.inl ⟨by rfl, fun w' hs => xeJ (.tmp 35) (by rfl) ⟨w.heap.size + 1, 1, none⟩ (by rfl) _ (hs.c.2.1)⟩) hS ?_
     simp only [Act.put, List.setIfInBounds_toArray, List.set_cons_zero, List.set_cons_succ]
     refine wpAnyH_take (i := 2) (oi := ⟨some 37, .fieldAddr 25 (.tmp 3) 12, 0, "law.go:49", _, none⟩) (v := .pointer (some ⟨w.heap.size + 1, 12, none⟩)) rfl (by kernel_rfl) (by kernel_rfl) (by kernel_rfl) (fun _ _ _ h => h) (Or.inl ⟨by rfl, fun w' hs => xdi (.tmp 3) (by rfl) _ (by rfl)⟩) hS ?_
     simp only [Act.put, List.setIfInBounds_toArray, List.set_cons_zero, List.set_cons_succ]
     refine wpAnyH_take (i := 3) (oi := ⟨some 38, .load 3 (.tmp 37), 3, "law.go:49", _, none⟩) (v := .int .i64 k.bu) rfl (by kernel_rfl) (by kernel_rfl) (by kernel_rfl) (fun _ _ _ h => h) (Or.inl ⟨by rfl, fun w' hs => xa2 (.tmp 37) (by rfl) ⟨w.heap.size + 1, 12, none⟩ (by rfl) _ (hs.d.2.1)⟩) hS ?_
     simp only [Act.put, List.setIfInBounds_toArray, List.set_cons_zero, List.set_cons_succ]
     refine wpAnyH_take (i := 4) (oi := ⟨some 39, .fieldAddr 25 (.tmp 3) 13, 0, "law.go:49", _, none⟩) (v := .pointer (some ⟨w.heap.size + 1, 13, none⟩)) rfl (by kernel_rfl) (by kernel_rfl) (by kernel_rfl) (fun _ _ _ h => h) (Or.inl ⟨by rfl, fun w' hs => xdh (.tmp 3) (by rfl) _ (by rfl)⟩) hS ?_
     simp only [Act.put, List.setIfInBounds_toArray, List.set_cons_zero, List.set_cons_succ]
     refine wpAnyH_take (i := 5) (oi := ⟨some 40, .load 3 (.tmp 39), 3, "law.go:49", _, none⟩) (v := .int .i64 k.ch) rfl (by kernel_rfl) (by kernel_rfl) (by kernel_rfl) (fun _ _ _ h => h) (Or.inl ⟨by rfl, fun w' hs => xa2 (.tmp 39) (by rfl) ⟨w.heap.size + 1, 13, none⟩ (by rfl) _ (hs.d.2.2.1)⟩) hS ?_
     simp only [Act.put, List.setIfInBounds_toArray, List.set_cons_zero, List.set_cons_succ]
     refine wpAnyH_take (i := 6) (oi := ⟨some 41, .fieldAddr 25 (.tmp 3) 14, 0, "law.go:49", _, none⟩) (v := .pointer (some ⟨w.heap.size + 1, 14, none⟩)) rfl (by kernel_rfl) (by kernel_rfl) (by kernel_rfl) (fun _ _ _ h => h) (Or.inl ⟨by rfl, fun w' hs => xdg (.tmp 3) (by rfl) _ (by rfl)⟩) hS ?_
     simp only [Act.put, List.setIfInBounds_toArray, List.set_cons_zero, List.set_cons_succ]
     refine wpAnyH_take (i := 7) (oi := ⟨some 42, .load 3 (.tmp 41), 3, "law.go:49", _, none⟩) (v := .int .i64 k.ro) rfl (by kernel_rfl) (by kernel_rfl) (by kernel_rfl) (fun _ _ _ h => h) (Or.inl ⟨by rfl, fun w' hs => xa2 (.tmp 41) (by rfl) ⟨w.heap.size + 1, 14, none⟩ (by rfl) _ (hs.d.2.2.2.1)⟩) hS ?_
     simp only [Act.put, List.setIfInBounds_toArray, List.set_cons_zero, List.set_cons_succ]
     refine wpAnyH_take (i := 8) (oi := ⟨some 43, .fieldAddr 25 (.tmp 3) 15, 0, "law.go:49", _, none⟩) (v := .pointer (some ⟨w.heap.size + 1, 15, none⟩)) rfl (by kernel_rfl) (by kernel_rfl) (by kernel_rfl) (fun _ _ _ h => h) (Or.inl ⟨by rfl, fun w' hs => xdf (.tmp 3) (by rfl) _ (by rfl)⟩) hS ?_
     simp only [Act.put, List.setIfInBounds_toArray, List.set_cons_zero, List.set_cons_succ]
     refine wpAnyH_take (i := 9) (oi := ⟨some 44, .load 3 (.tmp 43), 3, "law.go:49", _, none⟩) (v := .int .i64 k.wo) rfl (by kernel_rfl) (by kernel_rfl) (by kernel_rfl) (fun _ _ _ h => h) (Or.inl ⟨by rfl, fun w' hs => xa2 (.tmp 43) (by rfl) ⟨w.heap.size + 1, 15, none⟩ (by rfl) _ (hs.d.2.2.2.2.1)⟩) hS ?_
     simp only [Act.put, List.setIfInBounds_toArray, List.set_cons_zero, List.set_cons_succ]
     refine wpAnyH_take (i := 10) (oi := ⟨some 45, .fieldAddr 25 (.tmp 3) 16, 0, "law.go:49", _, none⟩) (v := .pointer (some ⟨w.heap.size + 1, 16, none⟩)) rfl (by kernel_rfl) (by kernel_rfl) (by kernel_rfl) (fun _ _ _ h => h) (Or.inl ⟨by rfl, fun w' hs => xde (.tmp 3) (by rfl) _ (by rfl)⟩) hS ?_
     simp only [Act.put, List.setIfInBounds_toArray, List.set_cons_zero, List.set_cons_succ]
     refine wpAnyH_take (i := 11) (oi := ⟨some 46, .load 3 (.tmp 45), 3, "law.go:49", _, none⟩) (v := .int .i64 k.rg) rfl (by kernel_rfl) (by kernel_rfl) (by kernel_rfl) (fun _ _ _ h => h) (Or.inl ⟨by rfl, fun w' hs => xa2 (.tmp 45) (by rfl) ⟨w.heap.size + 1, 16, none⟩ (by rfl) _ (hs.d.2.2.2.2.2)⟩) hS ?_
     simp only [Act.put, List.setIfInBounds_toArray, List.set_cons_zero, List.set_cons_succ]
     refine wpAnyH_take (i := 12) (oi := ⟨some 47, .fieldAddr 25 (.tmp 3) 11, 0, "law.go:49", _, none⟩) (v := .pointer (some ⟨w.heap.size + 1, 11, none⟩)) rfl (by kernel_rfl) (by kernel_rfl) (by kernel_rfl) (fun _ _ _ h => h) (Or.inl ⟨by rfl, fun w' hs => xdj (.tmp 3) (by rfl) _ (by rfl)⟩) hS ?_
     simp only [Act.put, List.setIfInBounds_toArray, List.set_cons_zero, List.set_cons_succ]
     refine wpAnyH_take (i := 13) (oi := ⟨some 48, .load 3 (.tmp 47), 3, "law.go:49", _, none⟩) (v := .int .i64 k.rf) rfl (by kernel_rfl) (by kernel_rfl) (by kernel_rfl) (fun _ _ _ h => h) (Or.inl ⟨by rfl, fun w' hs => xa2 (.tmp 47) (by rfl) ⟨w.heap.size + 1, 11, none⟩ (by rfl) _ (hs.d.1)⟩) hS ?_
     simp only [Act.put, List.setIfInBounds_toArray, List.set_cons_zero, List.set_cons_succ]
     refine wpAnyH_take (i := 14) (oi := ⟨some 49, .fieldAddr 25 (.tmp 3) 7, 0, "law.go:49", _, none⟩) (v := .pointer (some ⟨w.heap.size + 1, 7, none⟩)) rfl (by kernel_rfl) (by kernel_rfl) (by kernel_rfl) (fun _ _ _ h => h) (Or.inl ⟨by rfl, fun w' hs => xdM (.tmp 3) (by rfl) _ (by rfl)⟩) hS ?_
     simp only [Act.put, List.setIfInBounds_toArray, List.set_cons_zero, List.set_cons_succ]
     refine wpAnyH_take (i := 15) (oi := ⟨some 50, .load 3 (.tmp 49), 3, "law.go:49", _, none⟩) (v := .int .i64 k.bd) rfl (by kernel_rfl) (by kernel_rfl) (by kernel_rfl) (fun _ _ _ h => h) (Or.inl ⟨by rfl, fun w' hs => xa2 (.tmp 49) (by rfl) ⟨w.heap.size + 1, 7, none⟩ (by rfl) _ (hs.c.2.2.2.2.2.2.2.1)⟩) hS ?_
     simp only [Act.put, List.setIfInBounds_toArray, List.set_cons_zero, List.set_cons_succ]
     have h0 := hY
     refine wpAnyH_take (i := 16) (oi := ⟨some 51, .fieldAddr 25 (.tmp 5) 1, 0, "law.go:49", _, none⟩) (v := .pointer (some ⟨w5.heap.size, 1, none⟩)) rfl (by kernel_rfl) (by kernel_rfl) (by kernel_rfl) (fun _ _ _ h => h) (Or.inl ⟨by rfl, fun w' hs => xdN (.tmp 5) (by rfl) _ (by rfl)⟩) hS ?_
     simp only [Act.put, List.setIfInBounds_toArray, List.set_cons_zero, List.set_cons_succ]
     refine wpAnyH_ready (rs := [17]) (by kernel_rfl) (by simp) (AllReadyH.cons (o := ⟨none, .store 23 (.tmp 51) (.tmp 36), 0, "law.go:49", _, none⟩) rfl (fun K hK => ?_) AllReadyH.nil)
     have c0 := Lib.cell_of_heap h0 1
     have hS0 : JbAt (wd.setCell ⟨w5.heap.size, 1, none⟩ (.slice k.sa k.sn k.sc)) (w.heap.size + 1) k := JbAt.keeps (S := fun x => x = w5.heap.size) hS (xaa.setCell (S := fun x => x = w5.heap.size) (xaa.refl _ _) (p := ⟨w5.heap.size, 1, none⟩) (Or.inl rfl) _) (by show ¬ w.heap.size + 1 = w5.heap.size; omega)
     refine xd9 rfl (.tmp 51) (.tmp 36) rfl ⟨w5.heap.size, 1, none⟩ (by rfl) _ _ _ (by rfl) _ c0 (Lib.frozen_of_heap h0 1) (hK.out _ _ hS0 (fun _ => ?_))
     simp only [Act.put]
     have h1 := xbA 1 (.slice k.sa k.sn k.sc) h0
     obtain ⟨v1, hv1⟩ : ∃ W, wd.setCell ⟨w5.heap.size, 1, none⟩ (.slice k.sa k.sn k.sc) = W := ⟨_, rfl⟩
     rw [hv1] at hS0 h1 ⊢
     clear hK c0
     refine wpAnyH_take (i := 18) (oi := ⟨some 52, .fieldAddr 25 (.tmp 5) 12, 0, "law.go:49", _, none⟩) (v := .pointer (some ⟨w5.heap.size, 12, none⟩)) rfl (by kernel_rfl) (by kernel_rfl) (by kernel_rfl) (fun _ _ _ h => h) (Or.inl ⟨by rfl, fun w' hs => xdi (.tmp 5) (by rfl) _ (by rfl)⟩) hS0 ?_
     simp only [Act.put, List.setIfInBounds_toArray, List.set_cons_zero, List.set_cons_succ]
     refine wpAnyH_ready (rs := [19]) (by kernel_rfl) (by simp) (AllReadyH.cons (o := ⟨none, .store 3 (.tmp 52) (.tmp 38), 0, "law.go:49", _, none⟩) rfl (fun K hK => ?_) AllReadyH.nil)
     have c1 := Lib.cell_of_heap h1 12
     have hS1 : JbAt (v1.setCell ⟨w5.heap.size, 12, none⟩ (.int .i64 k.bu)) (w.heap.size + 1) k := JbAt.keeps (S := fun x => x = w5.heap.size) hS0 (xaa.setCell (S := fun x => x = w5.heap.size) (xaa.refl _ _) (p := ⟨w5.heap.size, 12, none⟩) (Or.inl rfl) _) (by show ¬ w.heap.size + 1 = w5.heap.size; omega)
     refine xaQ rfl (.tmp 52) (.tmp 38) rfl ⟨w5.heap.size, 12, none⟩ (by rfl) _ (by rfl) _ c1 (Lib.frozen_of_heap h1 12) (hK.out _ _ hS1 (fun _ => ?_))
     simp only [Act.put]
     have h2 := xbA 12 (.int .i64 k.bu) h1
     obtain ⟨v2, hv2⟩ : ∃ W, v1.setCell ⟨w5.heap.size, 12, none⟩ (.int .i64 k.bu) = W := ⟨_, rfl⟩
     rw [hv2] at hS1 h2 ⊢
     clear hK c1
     refine wpAnyH_take (i := 20) (oi := ⟨some 53, .fieldAddr 25 (.tmp 5) 13, 0, "law.go:49", _, none⟩) (v := .pointer (some ⟨w5.heap.size, 13, none⟩)) rfl (by kernel_rfl) (by kernel_rfl) (by kernel_rfl) (fun _ _ _ h => h) (Or.inl ⟨by rfl, fun w' hs => xdh (.tmp 5) (by rfl) _ (by rfl)⟩) hS1 ?_
     simp only [Act.put, List.setIfInBounds_toArray, List.set_cons_zero, List.set_cons_succ]
     refine wpAnyH_ready (rs := [21]) (by kernel_rfl) (by simp) (AllReadyH.cons (o := ⟨none, .store 3 (.tmp 53) (.tmp 40), 0, "law.go:49", _, none⟩) rfl (fun K hK => ?_) AllReadyH.nil)
     have c2 := Lib.cell_of_heap h2 13
     have hS2 : JbAt (v2.setCell ⟨w5.heap.size, 13, none⟩ (.int .i64 k.ch)) (w.heap.size + 1) k := JbAt.keeps (S := fun x => x = w5.heap.size) hS1 (xaa.setCell (S := fun x => x = w5.heap.size) (xaa.refl _ _) (p := ⟨w5.heap.size, 13, none⟩) (Or.inl rfl) _) (by show ¬ w.heap.size + 1 = w5.heap.size; omega)
     refine xaQ rfl (.tmp 53) (.tmp 40) rfl ⟨w5.heap.size, 13, none⟩ (by rfl) _ (by rfl) _ c2 (Lib.frozen_of_heap h2 13) (hK.out _ _ hS2 (fun _ => ?_))
     simp only [Act.put]
     have h3 := xbA 13 (.int .i64 k.ch) h2
     obtain ⟨v3, hv3⟩ : ∃ W, v2.setCell ⟨w5.heap.size, 13, none⟩ (.int .i64 k.ch) = W := ⟨_, rfl⟩
     rw [hv3] at hS2 h3 ⊢
     clear hK c2
     refine wpAnyH_take (i := 22) (oi := ⟨some 54, .fieldAddr 25 (.tmp 5) 14, 0, "law.go:49", _, none⟩) (v := .pointer (some ⟨w5.heap.size, 14, none⟩)) rfl (by kernel_rfl) (by kernel_rfl) (by kernel_rfl) (fun _ _ _ h => h) (Or.inl ⟨by rfl, fun w' hs => xdg (.tmp 5) (by rfl) _ (by rfl)⟩) hS2 ?_
     simp only [Act.put, List.setIfInBounds_toArray, List.set_cons_zero, List.set_cons_succ]
     refine wpAnyH_ready (rs := [23]) (by kernel_rfl) (by simp) (AllReadyH.cons (o := ⟨none, .store 3 (.tmp 54) (.tmp 42), 0, "law.go:49", _, none⟩) rfl (fun K hK => ?_) AllReadyH.nil)
     have c3 := Lib.cell_of_heap h3 14
     have hS3 : JbAt (v3.setCell ⟨w5.heap.size, 14, none⟩ (.int .i64 k.ro)) (w.heap.size + 1) k := JbAt.keeps (S := fun x => x = w5.heap.size) hS2 (xaa.setCell (S := fun x => x = w5.heap.size) (xaa.refl _ _) (p := ⟨w5.heap.size, 14, none⟩) (Or.inl rfl) _) (by show ¬ w.heap.size + 1 = w5.heap.size; omega)
     refine xaQ rfl (.tmp 54) (.tmp 42) rfl ⟨w5.heap.size, 14, none⟩ (by rfl) _ (by rfl) _ c3 (Lib.frozen_of_heap h3 14) (hK.out _ _ hS3 (fun _ => ?_))
     simp only [Act.put]
     have h4 := xbA 14 (.int .i64 k.ro) h3
     obtain ⟨v4, hv4⟩ : ∃ W, v3.setCell ⟨w5.heap.size, 14, none⟩ (.int .i64 k.ro) = W := ⟨_, rfl⟩
     rw [hv4] at hS3 h4 ⊢
     clear hK c3
     refine wpAnyH_take (i := 24) (oi := ⟨some 55, .fieldAddr 25 (.tmp 5) 15, 0, "law.go:49", _, none⟩) (v := .pointer (some ⟨w5.heap.size, 15, none⟩)) rfl (by kernel_rfl) (by kernel_rfl) (by kernel_rfl) (fun _ _ _ h => h) (Or.inl ⟨by rfl, fun w' hs => xdf (.tmp 5) (by rfl) _ (by rfl)⟩) hS3 ?_
     simp only [Act.put, List.setIfInBounds_toArray, List.set_cons_zero, List.set_cons_succ]
     refine wpAnyH_ready (rs := [25]) (by kernel_rfl) (by simp) (AllReadyH.cons (o := ⟨none, .store 3 (.tmp 55) (.tmp 44), 0, "law.go:49", _, none⟩) rfl (fun K hK => ?_) AllReadyH.nil)
     have c4 := Lib.cell_of_heap h4 15
     have hS4 : JbAt (v4.setCell ⟨w5.heap.size, 15, none⟩ (.int .i64 k.wo)) (w.heap.size + 1) k := JbAt.keeps (S := fun x => x = w5.heap.size) hS3 (xaa.setCell (S := fun x => x = w5.heap.size) (xaa.refl _ _) (p := ⟨w5.heap.size, 15, none⟩) (Or.inl rfl) _) (by show ¬ w.heap.size + 1 = w5.heap.size; omega)
     refine xaQ rfl (.tmp 55) (.tmp 44) rfl ⟨w5.heap.size, 15, none⟩ (by rfl) _ (by rfl) _ c4 (Lib.frozen_of_heap h4 15) (hK.out _ _ hS4 (fun _ => ?_))
     simp only [Act.put]
     have h5 := xbA 15 (.int .i64 k.wo) h4
     obtain ⟨v5, hv5⟩ : ∃ W, v4.setCell ⟨w5.heap.size, 15, none⟩ (.int .i64 k.wo) = W := ⟨_, rfl⟩
     rw [hv5] at hS4 h5 ⊢
     clear hK c4
     refine wpAnyH_take (i := 26) (oi := ⟨some 56, .fieldAddr 25 (.tmp 5) 16, 0, "law.go:49", _, none⟩) (v := .pointer (some ⟨w5.heap.size, 16, none⟩)) rfl (by kernel_rfl) (by kernel_rfl) (by kernel_rfl) (fun _ _ _ h => h) (Or.inl ⟨by rfl, fun w' hs => xde (.tmp 5) (by rfl) _ (by rfl)⟩) hS4 ?_
     simp only [Act.put, List.setIfInBounds_toArray, List.set_cons_zero, List.set_cons_succ]
     refine wpAnyH_ready (rs := [27]) (by kernel_rfl) (by simp) (AllReadyH.cons (o := ⟨none, .store 3 (.tmp 56) (.tmp 46), 0, "law.go:49", _, none⟩) rfl (fun K hK => ?_) AllReadyH.nil)
     have c5 := Lib.cell_of_heap h5 16
     have hS5 : JbAt (v5.setCell ⟨w5.heap.size, 16, none⟩ (.int .i64 k.rg)) (w.heap.size + 1) k := JbAt.keeps (S := fun x => x = w5.heap.size) hS4 (xaa.setCell (S := fun x => x = w5.heap.size) (xaa.refl _ _) (p := ⟨w5.heap.size, 16, none⟩) (Or.inl rfl) _) (by show ¬ w.heap.size + 1 = w5.heap.size; omega)
     refine xaQ rfl (.tmp 56) (.tmp 46) rfl ⟨w5.heap.size, 16, none⟩ (by rfl) _ (by rfl) _ c5 (Lib.frozen_of_heap h5 16) (hK.out _ _ hS5 (fun _ => ?_))
     simp only [Act.put]
     have h6 := xbA 16 (.int .i64 k.rg) h5
     obtain ⟨v6, hv6⟩ : ∃ W, v5.setCell ⟨w5.heap.size, 16, none⟩ (.int .i64 k.rg) = W := ⟨_, rfl⟩
     rw [hv6] at hS5 h6 ⊢
     clear hK c5
     refine wpAnyH_take (i := 28) (oi := ⟨some 57, .fieldAddr 25 (.tmp 5) 11, 0, "law.go:49", _, none⟩) (v := .pointer (some ⟨w5.heap.size, 11, none⟩)) rfl (by kernel_rfl) (by kernel_rfl) (by kernel_rfl) (fun _ _ _ h => h) (Or.inl ⟨by rfl, fun w' hs => xdj (.tmp 5) (by rfl) _ (by rfl)⟩) hS5 ?_
     simp only [Act.put, List.setIfInBounds_toArray, List.set_cons_zero, List.set_cons_succ]
     refine wpAnyH_ready (rs := [29]) (by kernel_rfl) (by simp) (AllReadyH.cons (o := ⟨none, .store 3 (.tmp 57) (.tmp 48), 0, "law.go:49", _, none⟩) rfl (fun K hK => ?_) AllReadyH.nil)
     have c6 := Lib.cell_of_heap h6 11
     have hS6 : JbAt (v6.setCell ⟨w5.heap.size, 11, none⟩ (.int .i64 k.rf)) (w.heap.size + 1) k := JbAt.keeps (S := fun x => x = w5.heap.size) hS5 (xaa.setCell (S := fun x => x = w5.heap.size) (xaa.refl _ _) (p := ⟨w5.heap.size, 11, none⟩) (Or.inl rfl) _) (by show ¬ w.heap.size + 1 = w5.heap.size; omega)
     refine xaQ rfl (.tmp 57) (.tmp 48) rfl ⟨w5.heap.size, 11, none⟩ (by rfl) _ (by rfl) _ c6 (Lib.frozen_of_heap h6 11) (hK.out _ _ hS6 (fun _ => ?_))
     simp only [Act.put]
     have h7 := xbA 11 (.int .i64 k.rf) h6
     obtain ⟨v7, hv7⟩ : ∃ W, v6.setCell ⟨w5.heap.size, 11, none⟩ (.int .i64 k.rf) = W := ⟨_, rfl⟩
     rw [hv7] at hS6 h7 ⊢
     clear hK c6
     refine wpAnyH_take (i := 30) (oi := ⟨some 58, .fieldAddr 25 (.tmp 5) 7, 0, "law.go:49", _, none⟩) (v := .pointer (some ⟨w5.heap.size, 7, none⟩)) rfl (by kernel_rfl) (by kernel_rfl) (by kernel_rfl) (fun _ _ _ h => h) (Or.inl ⟨by rfl, fun w' hs => xdM (.tmp 5) (by rfl) _ (by rfl)⟩) hS6 ?_
     simp only [Act.put, List.setIfInBounds_toArray, List.set_cons_zero, List.set_cons_succ]
     refine wpAnyH_ready (rs := [31]) (by kernel_rfl) (by simp) (AllReadyH.cons (o := ⟨none, .store 3 (.tmp 58) (.tmp 50), 0, "law.go:49", _, none⟩) rfl (fun K hK => ?_) AllReadyH.nil)
     have c7 := Lib.cell_of_heap h7 7
     have hS7 : JbAt (v7.setCell ⟨w5.heap.size, 7, none⟩ (.int .i64 k.bd)) (w.heap.size + 1) k := JbAt.keeps (S := fun x => x = w5.heap.size) hS6 (xaa.setCell (S := fun x => x = w5.heap.size) (xaa.refl _ _) (p := ⟨w5.heap.size, 7, none⟩) (Or.inl rfl) _) (by show ¬ w.heap.size + 1 = w5.heap.size; omega)
     refine xaQ rfl (.tmp 58) (.tmp 50) rfl ⟨w5.heap.size, 7, none⟩ (by rfl) _ (by rfl) _ c7 (Lib.frozen_of_heap h7 7) (hK.out _ _ hS7 (fun _ => ?_))
     simp only [Act.put]
     have h8 := xbA 7 (.int .i64 k.bd) h7
     obtain ⟨v8, hv8⟩ : ∃ W, v7.setCell ⟨w5.heap.size, 7, none⟩ (.int .i64 k.bd) = W := ⟨_, rfl⟩
     rw [hv8] at hS7 h8 ⊢
     clear hK c7
     refine wpAnyH_done (by kernel_rfl) ?_ _
     obtain ⟨w7, hw7⟩ : ∃ W, v8 = W := ⟨_, rfl⟩
     rw [hw7] at hv8 ⊢
     obtain ⟨hy7, k7⟩ := xkd wd v1 v2 v3 v4 v5 v6 v7 w7 w5.heap.size j k hY hv1 hv2 hv3 hv4 hv5 hv6 hv7 hv8
     have k7 : xaa (fun b => b = w5.heap.size) w6 w7 := xaa.trans (by rw [← hwd]; exact ⟨rfl, rfl, rfl, Nat.le_refl _, fun _ _ _ => rfl⟩) k7
     have hj7 := HJ6.out.keeps k7 (by show ¬ w.heap.size = w5.heap.size; omega)
     go_wp2_with fail
     go_meet
     case rel => exact ⟨hj7, hy7, k7⟩
    case rest =>
     obtain ⟨hj7, hy7, k7⟩ := hcut
     have HK7 := xmA (HK6.out.trans2 k7 (fun b hb e => by have e : b = w5.heap.size := e; omega))
     have HJ7 := xmA hj7
     have HY7 := xmA hy7
     clear hj7 hy7 k7 HK6 HJ6 HX6 HY6
     obtain ⟨x, hx⟩ : ∃ x, nine j k = x := ⟨_, rfl⟩
     have hRx := fun W => HRi.out (nine j k) W (by show j.dn ≤ 65536; omega) (by show k.sn ≤ 64; omega) hp
     rw [hx] at hRx HY7
     unfold jV at hRx
     have HRx := xmA hRx
     clear hRx
     have HXE := xmA hx
     clear hx
     go_wp2_with (refine xam rfl 25 (.tmp 5) rfl w5.heap.size rfl 25 (jCs x) (0, 0) _ HY7.out Tryz.underlying25 rfl (xar x) ?_)
     refine (HRx.out _).mono ?_
     rintro e w8 ⟨b, rfl, hb, k8⟩
     have HK8 := xmA (HK7.out.trans k8)
     have HJ8 := xmA (HJ7.out.keeps k8 id)
     have HY8 := xmA (HY7.out.keeps k8 id)
     clear k8 HK7 HJ7 HY7
     cases b with
     | false =>
      clear hb
      go_wp2_with fail
      go_ret
      exact ⟨rfl, HK8.out⟩
     | true =>
      have HOx := xmA (hb rfl)
      clear hb
      generalize Value.agg (jCs x) = z4
      obtain ⟨P, hP⟩ : ∃ P, (if bad then ([], 2) else runJ f j data) = P := ⟨_, rfl⟩
      have hA := fun (W : World) (K : xaa (fun _ => False) w W) => HR.out j data W rfl HOk.out (HD.out.keep K) hdl (HT.out.keeps K)
      have hB := fun (W : World) (K : xaa (fun _ => False) w W) => HR.out (nine j k) data W rfl (by rw [HXE.out]; exact HOx.out) (HD.out.keep K) hdl (HT.out.keeps K)
      have e9 : runJ f (nine j k) data = runJ f j data := xlH f j k data
      rw [e9] at hB
      rw [hP] at hA hB
      rw [HXE.out] at hB
      unfold jV RunE at hA hB
      have HA1 := xmA hA
      have HB1 := xmA hB
      clear hA hB hP e9
      go_wp2_with (refine xam rfl 25 (.tmp 2) rfl w.heap.size rfl 25 (jCs j) (0, 0) _ HJ8.out Tryz.underlying25 rfl (xar j) ?_)
      refine (HA1.out _ HK8.out).mono ?_
      rintro e w9 ⟨va, rfl, hOa, k9, hlen⟩
      have HK9 := xmA (HK8.out.trans k9)
      have HJ9 := xmA (HJ8.out.keeps k9 id)
      have HY9 := xmA (HY8.out.keeps k9 id)
      have HOa := xmA hOa
      clear hOa
      clear k9 HK8 HJ8 HY8
      generalize Value.agg (jCs j) = z5
      go_wp2_with (refine xam rfl 25 (.tmp 5) rfl w5.heap.size rfl 25 (jCs x) (0, 0) _ HY9.out Tryz.underlying25 rfl (xar x) ?_)
      refine (HB1.out _ HK9.out).mono ?_
      rintro e w10 ⟨vb, rfl, hOb, k10, _⟩
      have HK10 := xmA (HK9.out.trans k10)
      have HJ10 := xmA (HJ9.out.keeps k10 id)
      have HY10 := xmA (HY9.out.keeps k10 id)
      have HOa2 := xmA (xbE.ofOwn (xae HOa.out k10 (fun _ _ => id)) (by omega))
      have HOb := xmA (xbE.ofOwn hOb (by omega))
      clear hOb HOa
      clear k10 HK9 HJ9 HY9
      generalize Value.agg (jCs x) = z6
      go_wp2_with fail
      refine (xcZ P.1 P.1 va vb _ HOa2.out HOb.out hlen).mono ?_
      rw [decide_eq_true (rfl : P.1 = P.1)]
      rintro e w11 ⟨rfl, k11⟩
      have HK11 := xmA (HK10.out.trans k11)
      have HJ11 := xmA (HJ10.out.keeps k11 id)
      have HY11 := xmA (HY10.out.keeps k11 id)
      clear k11 HK10 HJ10 HY10
      have ge : (P.2 == P.2) = true := by simp
      go_wp2_with fail
      go_ret
      exact ⟨rfl, HK11.out⟩
end Go.Proofs.YtjahiihmoglpfaaGreatDoor
