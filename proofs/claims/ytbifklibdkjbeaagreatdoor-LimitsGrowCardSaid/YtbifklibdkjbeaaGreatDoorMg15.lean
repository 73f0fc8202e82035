/-
  Several texts in one: (*maker).node at every tree. prog.Length. Printed by mk_eql.py. prog.Length at every tree. prog.Compile. prog.Right. Every tree of the parser's form has a program; prog.Compile at it. The reference's Length and Copies at every tree.
-/
import Derived.Test.YtbifklibdkjbeaaGreatDoorMg14
import Derived.Test.YtbifklibdkjbeaaGreatDoorMg9
import Derived.BigRegion
import Derived.Test.YtbifklibdkjbeaaGreatDoorMg10
namespace Go.Proofs.YtbifklibdkjbeaaGreatDoor
open Go.RowKit
set_option linter.unusedVariables false
set_option linter.unusedSimpArgs false
set_option maxRecDepth 100000
set_option maxHeartbeats 4000000
theorem xng (t : T) (q : List Cd) (h : t.op = 5) (h0 : 0 < t.kids.toL.length) (hq : q.length = t.kids.toL.length) (ih : ∀ (i : Nat) (k : T) (p : Cd), t.kids.toL[i]? = some k → q[i]? = some p → xbU k p.1 p.2) : xbU t (fun b => altC q b (b + altN q)) (altN q) := by
 have hl := fun p hp => (xi7 hq ih (p := p) hp).choose_spec.len
 refine ⟨fun b => xje q hl b _, fun b k i hk => xmA q (fun p hp => (xi7 hq ih hp).choose_spec.ok) hl b _ k i (Nat.le_refl _) hk, fun P B v w0 w mb is ht k0 hmb1 hmb hb hB hn hM => ?_⟩
 clear hl
 obtain ⟨a1, n1, c1, a2, c2, e1, e2, hl, hc⟩ := ht.krow
 generalize t.kids.toL = L at *
 have o1 : v.op = 5 := ht.op.trans h
 obtain ⟨vo, vsv, vm, vx, vk⟩ := v
 obtain rfl := e1
 obtain rfl := e2
 obtain rfl := o1
 have kB : xa (fun _ => False) w (w.alloc (.cells #[.int .i64 5, .slice a1 n1 c1, .int .i64 vm, .int .i64 vx, .slice a2 L.length c2] 154)) := (xa.refl _ _).alloc _
 have HP := xoo (xnm L q hq h0 ih P B a2 c2 mb w0 _ is hc (k0.trans kB) hmb1 hmb (fun b h => hb b (by simp at h; omega)) hB hn (hM.keepsF kB))
 have KB := xoo kB
 clear hc ht k0 hM kB ih hB hb hq
 show Calls Tryz.prog 130 #[.pointer (some ⟨mb, 0, none⟩), .agg #[.int .i64 5, .slice a1 n1 c1, .int .i64 vm, .int .i64 vx, .slice a2 L.length c2]] w _
 go_enter Tryz.func130, Tryz.ntmps130
 go_wp2_with fail
 refine HP.out.mono ?_
 rintro e w2 ⟨rfl, h2, k2⟩
 have H2 := xoo h2
 have K2 : Hid (xa (fun b => b = mb ∨ B b) w w2) := xoo ((KB.out.mono (fun _ _ e => e.elim)).trans2 k2 (fun _ _ e => e))
 clear h2 k2
 go_wp2_with fail
 go_end0
 exact ⟨rfl, H2.out, K2.out⟩
theorem xnd (t k : T) (p : Cd) (h : t.op = 6) (hk : t.kids.toL = [k]) (hmn : 0 ≤ t.mn ∧ t.mn ≤ 1000) (hmx : -1 ≤ t.mx ∧ t.mx ≤ 1000) (hmm : t.mx < 0 ∨ t.mn ≤ t.mx) (ih : xbU k p.1 p.2) : xbU t (repC p t.mn.toNat t.mx) (repN p t.mn.toNat t.mx) := by
 refine ⟨fun b => xmU ih.len _ _ b, fun b k i hk => repC_ok ih.ok _ _ b k i hk, fun P B v w0 w mb is ht k0 hmb1 hmb hb hB hn hM => ?_⟩
 obtain ⟨a1, n1, c1, a2, c2, e1, e2, hl, hc⟩ := ht.krow
 rw [hk] at e2 hc
 have o1 : v.op = 6 := ht.op.trans h
 have o2 : v.mn = t.mn := ht.mn
 have o3 : v.mx = t.mx := ht.mx
 obtain ⟨vo, vsv, vm, vx, vk⟩ := v
 obtain rfl := e1
 obtain rfl := e2
 obtain rfl := o1
 obtain rfl := o2
 obtain rfl := o3
 obtain ⟨an, han⟩ : ∃ an : Nat, t.mn = (an : Int) := ⟨t.mn.toNat, by omega⟩
 rw [han] at hmn hmm hn ⊢
 rw [Int.toNat_natCast] at hn ⊢
 generalize t.mx = mx at *
 have kB : xa (fun _ => False) w (w.alloc (.cells #[.int .i64 6, .slice a1 n1 c1, .int .i64 (an : Int), .int .i64 mx, .slice a2 1 c2] 154)) := (xa.refl _ _).alloc _
 have HP := xoo (xnk k p ih an mx hmm hmx (by omega) P B a1 a2 n1 c1 c2 mb w0 _ is hc (k0.trans kB) hmb1 hmb (fun b h => hb b (by simp at h; omega)) hB hn (hM.keepsF kB))
 have KB := xoo kB
 clear hc ht k0 hM kB ih hB hb hl
 show Calls Tryz.prog 130 #[.pointer (some ⟨mb, 0, none⟩), .agg #[.int .i64 6, .slice a1 n1 c1, .int .i64 (an : Int), .int .i64 mx, .slice a2 1 c2]] w _
 go_enter Tryz.func130, Tryz.ntmps130
 go_wp2_with fail
 refine HP.out.mono ?_
 rintro e w2 ⟨rfl, h2, k2⟩
 have H2 := xoo h2
 have K2 : Hid (xa (fun b => b = mb ∨ B b) w w2) := xoo ((KB.out.mono (fun _ _ e => e.elim)).trans2 k2 (fun _ _ e => e))
 clear h2 k2
 go_wp2_with fail
 go_end0
 exact ⟨rfl, H2.out, K2.out⟩
def WGn (t : T) : Prop := (t.set.length ≤ 4000 ∧ t.kids.toL.length ≤ 4000) ∧ (t.op = 0 ∨ t.op = 1 ∨ t.op = 2 ∨ t.op = 3 ∨ t.op = 4 ∨ (t.op = 5 ∧ 0 < t.kids.toL.length) ∨ (t.op = 6 ∧ (∃ k, t.kids.toL = [k]) ∧ (0 ≤ t.mn ∧ t.mn ≤ 1000) ∧ (-1 ≤ t.mx ∧ t.mx ≤ 1000) ∧ (t.mx < 0 ∨ t.mn ≤ t.mx)))
inductive WG : T → Prop
 | mk {t : T} (h : WGn t) (hk : ∀ (i : Nat) (k : T), t.kids.toL[i]? = some k → WG k) : WG t
def LenC (t : T) (n : Nat) : Prop := ∀ (P : Nat → Prop) (v : NV) (w : World), TAt w P v t → Calls Tryz.prog 129 #[v.val] w fun e w' => e = .returned (.int .i64 (n : Int)) ∧ xa (fun _ => False) w w'
theorem xgS (W : World) (x y : Int) : (Builtin.min_ #[3, 3] 3 #[.int .i64 x, .int .i64 y]).run Tryz.prog W = .ok (.int .i64 (if y < x then y else x)) W := by
 simp [Builtin.min_, Builtin.min2]
def xar (n : Nat) : Nat := min n 1099511627776
theorem xb0 (n : Nat) : xar n ≤ 1099511627776 := by unfold xar; omega
def LenG (t : T) (n : Nat) : Prop := ∀ (P : Nat → Prop) (v : NV) (w : World), TAt w P v t → Calls Tryz.prog 129 #[v.val] w fun e w' => e = .returned (.int .i64 (xar n : Nat)) ∧ xa (fun _ => False) w w'
def lenOf (t : T) (s : Nat) : Nat :=
 if t.op = 0 then 0 else if t.op = 4 then s else if t.op = 5 then s + 2 * (t.kids.toL.length - 1) else if t.op = 6 then (if t.mx < 0 then (t.mn.toNat + 1) * s + 2 else t.mn.toNat * s + (t.mx - t.mn).toNat * (s + 1)) else 1
def xau : List Nat → Nat
 | [] => 0
 | n :: r => n + xau r
theorem xcZ {l : List Nat} {i n : Nat} (h : l[i]? = some n) : xau (l.take (i + 1)) = xau (l.take i) + n := by
 induction l generalizing i with
 | nil => simp at h
 | cons x l ih =>
  rcases i with _ | i
  · obtain rfl : x = n := by simpa using h
    simp [xau]
  rw [List.take_succ_cons, List.take_succ_cons, xau, xau, ih (by simpa using h)]; omega
theorem min_cap (x y : Nat) (W : World) : (Builtin.min_ #[3, 3] 3 #[.int .i64 ((xar x : Int) + (xar y : Int)), .int .i64 1099511627776]).run Tryz.prog W = .ok (.int .i64 (xar (x + y) : Nat)) W := by
 rw [xgS]
 congr 2
 unfold xar
 split <;> omega
theorem min_eq2 (P : Nat) : (if (1099511627776 : Int) < (P : Int) + 2 then (1099511627776 : Int) else (P : Int) + 2) = (xar (P + 2) : Nat) := by
 unfold xar
 split <;> omega
theorem min_eqp (P Q : Nat) : (if (1099511627776 : Int) < (P : Int) + (Q : Int) then (1099511627776 : Int) else (P : Int) + (Q : Int)) = (xar (P + Q) : Nat) := by
 unfold xar
 split <;> omega
theorem xdm (a X : Nat) (ha : a ≤ 1001) (hX : X ≤ 1099511627777) : a * X ≤ 1200000000000000 := Nat.le_trans (Nat.mul_le_mul ha hX) (by decide)
theorem xms (m S c : Nat) (hm : 0 < m) : xar (m * S + c) = xar (m * xar S + c) := by
 by_cases h : S ≤ 1099511627776
 · rw [show xar S = S by unfold xar; omega]
 rw [show xar S = 1099511627776 by unfold xar; omega]
 have h1 : S ≤ m * S := Nat.le_mul_of_pos_left S hm
 have h2 : 1099511627776 ≤ m * 1099511627776 := Nat.le_mul_of_pos_left _ hm
 unfold xar; omega
theorem xj (a d S : Nat) : xar (a * S + d * (S + 1)) = xar (a * xar S + d * (xar S + 1)) := by
 by_cases h : S ≤ 1099511627776
 · rw [show xar S = S by unfold xar; omega]
 rw [show xar S = 1099511627776 by unfold xar; omega]
 rcases Nat.eq_zero_or_pos a with rfl | ha
 · rcases Nat.eq_zero_or_pos d with rfl | hd
   · simp
   have h1 : S + 1 ≤ d * (S + 1) := Nat.le_mul_of_pos_left _ hd
   have h2 : 1099511627776 + 1 ≤ d * (1099511627776 + 1) := Nat.le_mul_of_pos_left _ hd
   unfold xar; omega
 have h1 : S ≤ a * S := Nat.le_mul_of_pos_left S ha
 have h2 : 1099511627776 ≤ a * 1099511627776 := Nat.le_mul_of_pos_left _ ha
 unfold xar; omega
def LeR (L : List T) (q : List Nat) (w : World) (iv av : Value) (wr : World) : Prop := ∃ i : Nat, iv = .int .i64 i ∧ i ≤ L.length ∧ av = .int .i64 (xar (xau (q.take i)) : Nat) ∧ xa (fun _ => False) w wr
theorem len_any (t : T) (q : List Nat) (hW : WGn t) (hq : q.length = t.kids.toL.length) (ih : ∀ (i : Nat) (k : T) (n : Nat), t.kids.toL[i]? = some k → q[i]? = some n → LenG k n) : LenG t (lenOf t (xau q)) := by
 intro P v w ht
 obtain ⟨a1, n1, c1, a2, c2, e1, e2, hl, hc⟩ := ht.krow
 obtain ⟨⟨_, hL4⟩, hops⟩ := hW
 have hlo : ∀ s, lenOf t s = if t.op = 0 then 0 else if t.op = 4 then s else if t.op = 5 then s + 2 * (t.kids.toL.length - 1) else if t.op = 6 then (if t.mx < 0 then (t.mn.toNat + 1) * s + 2 else t.mn.toNat * s + (t.mx - t.mn).toNat * (s + 1)) else 1 := fun s => rfl
 rw [hlo]
 clear hlo
 have o1 : v.op = t.op := ht.op
 have o2 : v.mn = t.mn := ht.mn
 have o3 : v.mx = t.mx := ht.mx
 obtain ⟨vo, vsv, vm, vx, vk⟩ := v
 obtain rfl := e1
 obtain rfl := e2
 simp only at o1 o2 o3
 subst o1
 subst o2
 subst o3
 have HOps : Hid (t.op = 0 ∨ t.op = 1 ∨ t.op = 2 ∨ t.op = 3 ∨ t.op = 4 ∨ (t.op = 5 ∧ 0 < t.kids.toL.length) ∨ (t.op = 6 ∧ (0 ≤ t.mn ∧ t.mn ≤ 1000) ∧ (-1 ≤ t.mx ∧ t.mx ≤ 1000) ∧ (t.mx < 0 ∨ t.mn ≤ t.mx))) := xoo (by
  rcases hops with h | h | h | h | h | h | ⟨h, _, h2, h3, h4⟩
  · exact Or.inl h
  · exact Or.inr (Or.inl h)
  · exact Or.inr (Or.inr (Or.inl h))
  · exact Or.inr (Or.inr (Or.inr (Or.inl h)))
  · exact Or.inr (Or.inr (Or.inr (Or.inr (Or.inl h))))
  · exact Or.inr (Or.inr (Or.inr (Or.inr (Or.inr (Or.inl h)))))
  exact Or.inr (Or.inr (Or.inr (Or.inr (Or.inr (Or.inr ⟨h, h2, h3, h4⟩))))))
 generalize t.op = op at *
 generalize t.mn = mn at *
 generalize t.mx = mx at *
 generalize t.kids.toL = L at *
 have HC := xoo hc
 have IH := xoo ih
 have HQ := xoo hq
 clear hl hc ht ih hops hq
 show Calls Tryz.prog 129 #[.agg #[.int .i64 op, .slice a1 n1 c1, .int .i64 mn, .int .i64 mx, .slice a2 L.length c2]] w _
 go_enter Tryz.func129, Tryz.ntmps129
 go_wp2_with fail
 obtain ⟨wb, hwb⟩ : ∃ W, W = w.alloc (.cells #[.int .i64 op, .slice a1 n1 c1, .int .i64 mn, .int .i64 mx, .slice a2 L.length c2] 154) := ⟨_, rfl⟩
 have hKB : xa (fun _ => False) w wb := by rw [hwb]; exact (xa.refl _ _).alloc _
 have b0 : wb.cell? ⟨w.heap.size, 0, none⟩ = some (.int .i64 op) := by rw [hwb]; simp [go_sem]
 have b2 : wb.cell? ⟨w.heap.size, 2, none⟩ = some (.int .i64 mn) := by rw [hwb]; simp [go_sem]
 have b3 : wb.cell? ⟨w.heap.size, 3, none⟩ = some (.int .i64 mx) := by rw [hwb]; simp [go_sem]
 have b4 : wb.cell? ⟨w.heap.size, 4, none⟩ = some (.slice a2 L.length c2) := by rw [hwb]; simp [go_sem]
 rw [← hwb]
 clear hwb
 have KB := xoo hKB
 have B0 := xoo b0
 have B2 := xoo b2
 have B3 := xoo b3
 have B4 := xoo b4
 clear hKB b0 b2 b3 b4
 go_loopw [9, 3] (fun iv av wr => LeR L q wb iv av wr) (fun iv _ _ => L.length - (intOf iv).toNat)
 case atStart => exact ⟨0, rfl, Nat.zero_le _, by rw [List.take_zero]; rfl, xa.refl _ _⟩
 case round =>
  obtain ⟨i, rfl, hi, rfl, hk⟩ := hrel
  have K := xoo hk
  clear hk
  by_cases hil : i < L.length
  · obtain ⟨k, hki⟩ : ∃ k, L[i]? = some k := ⟨_, List.getElem?_eq_getElem hil⟩
    obtain ⟨n, hni⟩ : ∃ n, q[i]? = some n := ⟨_, List.getElem?_eq_getElem (by rw [HQ.out]; exact hil)⟩
    obtain ⟨b, off, uo, d1, f1, g1, um, ux, d2, f2, g2, rfl, hu, hlt, x0, x1, x2, x3, x4⟩ := (HC.out.keep (KB.out.trans K.out)).at hki
    have HS : Hid (∀ W, xa (fun _ => False) wr W → Calls Tryz.prog 129 #[.agg #[.int .i64 uo, .slice d1 f1 g1, .int .i64 um, .int .i64 ux, .slice d2 f2 g2]] W fun e w' => e = .returned (.int .i64 (xar n : Nat)) ∧ xa (fun _ => False) W w') := xoo (fun W kW =>
     IH.out i k n hki hni P ⟨uo, .slice d1 f1 g1, um, ux, .slice d2 f2 g2⟩ W (hu.keepsTo kW (fun _ _ => id) (fun _ h => h)))
    have hS1 := xcZ hni
    have hm2 := fun W => min_cap (xau (q.take i)) n W
    rw [← hS1] at hm2
    have q1 := xb0 (xau (q.take i))
    have q2 := xb0 n
    clear hki hu hni hS1
    generalize xar (xau (q.take i)) = X at *
    generalize xar n = Y at *
    obtain ⟨Z, hZ⟩ : ∃ Z, xar (xau (q.take (i + 1))) = Z := ⟨_, rfl⟩
    rw [hZ] at hm2
    have HZ := xoo hZ
    clear hZ
    go_wp2_with fail
    refine (HS.out _ (KI.out)).mono ?_
    rintro e w2 ⟨rfl, k2⟩
    have K2 : Hid (xa (fun _ => False) wb w2) := xoo (K.out.trans (xa.trans (KI.out) k2))
    clear k2
    go_wp2_with fail
    go_roundw
    case rel => exact ⟨i + 1, by go_num, by omega, by rw [HZ.out], K2.out⟩
    case measure => simp [intOf]; omega
  have he : i = L.length := by omega
  subst he
  have b0 := K.out.cell B0.out id
  have b2 := K.out.cell B2.out id
  have b3 := K.out.cell B3.out id
  have b4 := K.out.cell B4.out id
  have hsz : w.heap.size < wr.heap.size := xay b0
  have KE := xoo (KB.out.trans K.out)
  rw [List.take_of_length_le (by rw [HQ.out]; exact Nat.le_refl _)]
  have q1 := xb0 (xau q)
  obtain ⟨S, hS⟩ : ∃ S, xau q = S := ⟨_, rfl⟩
  rw [hS] at q1 ⊢
  have HSS := xoo hS
  obtain ⟨X, hX⟩ : ∃ X, xar S = X := ⟨_, rfl⟩
  rw [hX] at q1 ⊢
  have HX := xoo hX
  clear hS hX K B0 B2 B3 B4 KB
  rcases HOps.out with rfl | rfl | rfl | rfl | rfl | ⟨rfl, h5⟩ | ⟨rfl, h6, h7, h8⟩
  · go_wp2_with fail
    go_ret
    exact ⟨by simp [xar], KE.out⟩
  · go_wp2_with fail
    go_ret
    exact ⟨by simp [xar], KE.out⟩
  · go_wp2_with fail
    go_ret
    exact ⟨by simp [xar], KE.out⟩
  · go_wp2_with fail
    go_ret
    exact ⟨by simp [xar], KE.out⟩
  · have hm2 := fun W => xgS W (X : Int) 1099511627776
    rw [if_neg (by omega)] at hm2
    go_wp2_with fail
    go_ret
    exact ⟨by rw [← HX.out, ← HSS.out]; simp, KE.out⟩
  · obtain ⟨Y, hY⟩ : ∃ Y : Nat, L.length - 1 = Y := ⟨_, rfl⟩
    have hm2 := fun W => xgS W ((X : Int) + 2 * ((L.length : Int) - 1)) 1099511627776
    have HE : Hid ((if (1099511627776 : Int) < (X : Int) + 2 * ((L.length : Int) - 1) then (1099511627776 : Int) else (X : Int) + 2 * ((L.length : Int) - 1)) = (xar (S + 2 * (L.length - 1)) : Nat)) := xoo (by
     rw [← HX.out]
     unfold xar
     split <;> omega)
    obtain ⟨Z, hZ⟩ : ∃ Z, (if (1099511627776 : Int) < (X : Int) + 2 * ((L.length : Int) - 1) then (1099511627776 : Int) else (X : Int) + 2 * ((L.length : Int) - 1)) = Z := ⟨_, rfl⟩
    rw [hZ] at hm2 HE
    clear hZ hY
    go_wp2_with fail
    go_ret
    exact ⟨by rw [HE.out, ← HSS.out]; simp, KE.out⟩
  obtain ⟨a, rfl⟩ : ∃ a : Nat, mn = (a : Int) := ⟨mn.toNat, by omega⟩
  by_cases hm : mx < 0
  · have g1 : decide (mx < 0) = true := by simpa using hm
    obtain ⟨P1, hP1⟩ : ∃ P1, (a + 1) * X = P1 := ⟨_, rfl⟩
    have hb1 : P1 ≤ 1200000000000000 := by rw [← hP1]; exact xdm _ X (by omega) (by omega)
    have hw0 : IntKind.i64.wrap ((a : Int) + 1) = (a : Int) + 1 := IntWalk.i64_in _ (by omega)
    have hw1 : IntKind.i64.wrap (((a : Int) + 1) * (X : Int)) = (P1 : Int) := by
     rw [show ((a : Int) + 1) * (X : Int) = (P1 : Int) by rw [← hP1]; push_cast; rfl]
     exact IntWalk.i64_in _ (by omega)
    have hm2 := fun W => xgS W ((P1 : Int) + 2) 1099511627776
    have HE : Hid ((if (1099511627776 : Int) < (P1 : Int) + 2 then (1099511627776 : Int) else (P1 : Int) + 2) = (xar ((a + 1) * S + 2) : Nat)) := xoo (by
     have hc := xms (a + 1) S 2 (by omega)
     rw [HX.out, hP1] at hc
     rw [hc]
     exact min_eq2 P1)
    obtain ⟨Z, hZ⟩ : ∃ Z, (if (1099511627776 : Int) < (P1 : Int) + 2 then (1099511627776 : Int) else (P1 : Int) + 2) = Z := ⟨_, rfl⟩
    rw [hZ] at hm2 HE
    clear hZ hP1
    go_wp2_with fail
    go_ret
    exact ⟨by rw [HE.out, ← HSS.out]; simp [hm], KE.out⟩
  have g1 : decide (mx < 0) = false := by simpa using hm
  obtain ⟨d, rfl⟩ : ∃ d : Nat, mx = (a : Int) + (d : Int) := ⟨(mx - a).toNat, by omega⟩
  obtain ⟨P1, hP1⟩ : ∃ P1, a * X = P1 := ⟨_, rfl⟩
  obtain ⟨P2, hP2⟩ : ∃ P2, d * (X + 1) = P2 := ⟨_, rfl⟩
  have hb1 : P1 ≤ 1200000000000000 := by rw [← hP1]; exact xdm _ X (by omega) (by omega)
  have hb2 : P2 ≤ 1200000000000000 := by rw [← hP2]; exact xdm _ _ (by omega) (by omega)
  have hw1 : IntKind.i64.wrap ((a : Int) * (X : Int)) = (P1 : Int) := by
   rw [show (a : Int) * (X : Int) = (P1 : Int) by rw [← hP1]; push_cast; rfl]
   exact IntWalk.i64_in _ (by omega)
  have hsub : (a : Int) + (d : Int) - (a : Int) = (d : Int) := by omega
  have hw2 : wrap64 (((a : Int) + (d : Int) - (a : Int)) * ((X : Int) + 1)) = (P2 : Int) := by
   rw [hsub, show (d : Int) * ((X : Int) + 1) = (P2 : Int) by rw [← hP2]; push_cast; rfl]
   unfold wrap64
   omega
  clear hsub
  have hm2 := fun W => xgS W ((P1 : Int) + (P2 : Int)) 1099511627776
  have HE : Hid ((if (1099511627776 : Int) < (P1 : Int) + (P2 : Int) then (1099511627776 : Int) else (P1 : Int) + (P2 : Int)) = (xar (a * S + d * (S + 1)) : Nat)) := xoo (by
   have hc := xj a d S
   rw [HX.out, hP1, hP2] at hc
   rw [hc]
   exact min_eqp P1 P2)
  obtain ⟨Z, hZ⟩ : ∃ Z, (if (1099511627776 : Int) < (P1 : Int) + (P2 : Int) then (1099511627776 : Int) else (P1 : Int) + (P2 : Int)) = Z := ⟨_, rfl⟩
  rw [hZ] at hm2 HE
  have hd1 : ((a : Int) + (d : Int) - (a : Int)).toNat = d ∧ ((a : Int) + (d : Int)).toNat - a = d := by omega
  have HD := xoo hd1
  clear hZ hP1 hP2 hd1
  go_wp2_with fail
  go_ret
  exact ⟨by rw [HE.out, ← HSS.out]; simp [hm, HD.out.1, HD.out.2], KE.out⟩
theorem MkAt.empty {mb : Nat} {B : Nat → Prop} {w : World} (h : w.heap[mb]? = some (.cells #[.slice none 0 0] 248 (0, 0))) : MkAt B w mb [] :=
 ⟨_, [], h, ⟨World.ownsRow_nil _ _ _ _, fun b e => by simp [Value.ownBlock] at e⟩, rfl, fun k iv i a b => by simp at a⟩
structure PgAt (w : World) (P : Nat → Prop) (v : Value) (is : List Ins) : Prop where
 row : ∃ ivs, SlOf 4 encP w v ivs ∧ ivs.length = is.length ∧ ∀ (k : Nat) (iv : IV) (i : Ins), ivs[k]? = some iv → is[k]? = some i → InAt w P iv i
 blk : ∀ b, v.ownBlock = some b → P b
theorem PgAt.keepsTo {S P Q : Nat → Prop} {w w' : World} {v : Value} {is : List Ins} (h : PgAt w P v is) (K : xa S w w') (hs : ∀ b, P b → ¬ S b) (hq : ∀ b, P b → Q b) : PgAt w' Q v is := by
 obtain ⟨⟨ivs, h1, h2, h3⟩, h4⟩ := h
 exact ⟨⟨ivs, h1.keeps K (fun b hb => hs b (h4 b hb)), h2, fun k iv i a b => (h3 k iv i a b).keepsTo K hs hq⟩, fun b hb => hq b (h4 b hb)⟩
theorem MkAt.pg {B : Nat → Prop} {mb : Nat} {w : World} {is : List Ins} {v : Value} (h : MkAt B w mb is) (hc : w.cell? ⟨mb, 0, none⟩ = some v) (hn : is.length ≤ 4000) : PgAt w (fun b => B b ∧ b < w.heap.size) v is := by
 obtain ⟨v', ivs, h1, ⟨h2, h5⟩, h3, h4⟩ := h
 have e : v' = v := by
  rw [Lib.cell_of_heap h1] at hc
  simpa using hc
 subst e
 exact ⟨⟨ivs, SlOf.ofOwn (by rw [h3]; exact h2) (by omega), h3, fun k iv i a b => (h4 k iv i a b).keepsTo (xa.refl (fun _ => False) _) (fun _ _ => id) (fun b hb => ⟨hb.1, hb.2.1⟩)⟩, fun b hb => ⟨h5 b hb, xaM h2 b hb⟩⟩
def NodeE (t : T) (is : List Ins) : Prop := ∀ (P : Nat → Prop) (v : NV) (w0 w : World) (mb : Nat), TAt w0 P v t → xa (fun _ => False) w0 w → w0.heap.size ≤ mb → mb < w.heap.size → w.heap[mb]? = some (.cells #[.slice none 0 0] 248 (0, 0)) →
 Calls Tryz.prog 130 #[.pointer (some ⟨mb, 0, none⟩), v.val] w fun e w' => e = .returned (.tuple #[]) ∧ MkAt (fun b => mb < b) w' mb is ∧ xa (fun b => b = mb ∨ mb < b) w w'
theorem xbU.empty {t : T} {c : Nat → List Ins} {n : Nat} (h : xbU t c n) (hn : n ≤ 2500) : NodeE t (c 0) := fun P v w0 w mb ht k0 h1 h2 h3 => by
 have := h.run P (fun b => mb < b) v w0 w mb [] ht k0 h1 (by omega) (fun b hb => by omega) (fun b hb => by omega) (by simpa using hn) (MkAt.empty h3)
 simpa [NdE] using this
def mI : Ins := ⟨0, [], 0, 0⟩
def CoE (w : World) (is : List Ins) (e : Ending) (w' : World) : Prop := ∃ v, e = .returned (.tuple #[v, .int .i64 0]) ∧ PgAt w' (fun b => w.heap.size ≤ b ∧ b < w'.heap.size) v is ∧ xa (fun _ => False) w w'
theorem xh4 (t : T) (n : Nat) (is : List Ins) (hl : LenC t n) (hn : n < 2000) (hN : NodeE t is) (his : is.length ≤ 2500) (P : Nat → Prop) (v : NV) (w : World) (ht : TAt w P v t) :
 Calls Tryz.prog 92 #[v.val] w fun e w' => CoE w (is ++ [mI]) e w' := by
 obtain ⟨i0, hi0, hz0, hz1, hz2⟩ := info_parts xg2
 obtain ⟨a1, n1, c1, a2, c2, e1, e2, _, _⟩ := ht.krow
 have HL := xoo (fun W (K : xa (fun _ => False) w W) => hl P v W (ht.keepsTo K (fun _ _ => id) (fun _ h => h)))
 have HN := xoo (fun W mb (K : xa (fun _ => False) w W) h1 h2 h3 => hN P v w W mb ht K h1 h2 h3)
 obtain ⟨vo, vsv, vm, vx, vk⟩ := v
 obtain rfl := e1
 obtain rfl := e2
 have g0 : decide ((2000 : Int) ≤ (n : Int)) = false := by simp; omega
 unfold NV.val at HL HN
 clear ht hl hN
 generalize t.kids.toL.length = KL at *
 show Calls Tryz.prog 92 #[.agg #[.int .i64 vo, .slice a1 n1 c1, .int .i64 vm, .int .i64 vx, .slice a2 KL c2]] w _
 go_enter Tryz.func92, Tryz.ntmps92
 go_wp2_with fail
 refine (HL.out _ (KI.out)).mono ?_
 rintro e w2 ⟨rfl, k2⟩
 have z0 : w2.cell? ⟨w.heap.size, 0, none⟩ = some (.int .i64 vo) := k2.cell (by simp [go_sem]) id
 have z1 : w2.cell? ⟨w.heap.size, 1, none⟩ = some (.slice a1 n1 c1) := k2.cell (by simp [go_sem]) id
 have z2 : w2.cell? ⟨w.heap.size, 2, none⟩ = some (.int .i64 vm) := k2.cell (by simp [go_sem]) id
 have z3 : w2.cell? ⟨w.heap.size, 3, none⟩ = some (.int .i64 vx) := k2.cell (by simp [go_sem]) id
 have z4 : w2.cell? ⟨w.heap.size, 4, none⟩ = some (.slice a2 KL c2) := k2.cell (by simp [go_sem]) id
 have K2 : Hid (xa (fun _ => False) w w2) := xoo (xa.trans (KI.out) k2)
 have hs2 : w.heap.size < w2.heap.size := xay z0
 have z0 := xad z0 (.cells #[.slice none 0 0] 248)
 have z1 := xad z1 (.cells #[.slice none 0 0] 248)
 have z2 := xad z2 (.cells #[.slice none 0 0] 248)
 have z3 := xad z3 (.cells #[.slice none 0 0] 248)
 have z4 := xad z4 (.cells #[.slice none 0 0] 248)
 have Hs2 := xoo hs2
 clear k2 hs2
 go_wp2_with fail
 refine (HN.out _ w2.heap.size (K2.out.alloc _) (by have := Hs2.out; omega) (by simp) (heap_alloc_new w2 _)).mono ?_
 rintro e w3 ⟨rfl, hM, k3⟩
 obtain ⟨u, ivs, hbk, ⟨hown, hvB⟩, hlen, hin⟩ := hM
 obtain ⟨va, vc, rfl⟩ := xac hown
 have c0 : w3.cell? ⟨w2.heap.size, 0, none⟩ = some (.slice va is.length vc) := by rw [Lib.cell_of_heap hbk]; rfl
 have f0 : w3.frozen? ⟨w2.heap.size, 0, none⟩ = false := Lib.frozen_of_heap hbk 0
 have hs3 := k3.size
 simp at hs3
 have hvm : (Value.slice va is.length vc).ownBlock ≠ some w2.heap.size := fun e => by have := hvB _ e; omega
 have KW3 : Hid (xa (fun _ => False) w w3) := xoo ((K2.out.alloc _).trans2 k3 (fun b hb e => by have := Hs2.out; omega))
 have HO := xoo hown
 have HVB := xoo hvB
 have HBK := xoo hbk
 have HIN := xoo hin
 have c0a := xad c0 (.cells #[.int .i64 0, .slice none 0 0, .int .i64 0, .int .i64 0] 251)
 have hs3' : w2.heap.size < w3.heap.size := by omega
 clear hbk hown hin hvB k3 z0 z1 z2 z3 z4 HN
 go_wp2_with (at_builtin; refine wpList_append_lies _ rfl (.tmp 17) (.tmp 19) 191 rfl 0 251 i0 _ 4 48 Tryz.underlying191 hi0 hz0 hz1 hz2 rfl (by decide) _ is.length (cellsOf 4 encP ivs) rfl (xab HO.out _) ⟨w3.heap.size, 0, none⟩ 1 1 [.int .i64 0, .slice none 0 0, .int .i64 0, .int .i64 0] rfl rfl (by exact xan w3 [_, _, _, _] _) (by simp [Value.oneCell']) (by decide) (by unfold maxLen; omega) (by omega) (Nat.zero_le _) _ rfl ?_)
 intro g cap w4 hown4 hgrow4 hat4 hlt4
 have c4 : w4.cell? ⟨w2.heap.size, 0, none⟩ = some (.slice va is.length vc) := (hgrow4.cell_far ⟨w2.heap.size, 0, none⟩ (by simp; omega) (fun e => hvm e.symm)).trans c0a
 have f4 : w4.frozen? ⟨w2.heap.size, 0, none⟩ = false := (hgrow4.frozen_far ⟨w2.heap.size, 0, none⟩ (by simp; omega) (fun e => hvm e.symm)).trans (((xa.refl (fun _ => False) w3).alloc _).frozen f0 (by show w2.heap.size < w3.heap.size; omega) id)
 have hP := MkAt.push (wA := w3.alloc (.cells #[.int .i64 0, .slice none 0 0, .int .i64 0, .int .i64 0] 251)) (i := mI) (iv := ⟨0, .slice none 0 0, 0, 0⟩) HBK.out HO.out HVB.out hlen HIN.out (Nat.lt_irrefl _) hs3' (fun b hb => by omega) (xa.refl _ _) ((xa.refl _ _).alloc _) ⟨rfl, rfl, rfl, xeo _, fun b hb => by simp [Value.ownBlock] at hb⟩ hown4 hgrow4 hat4 (by simp)
 have HP := xoo hP
 have hcc : (w4.setCell ⟨w2.heap.size, 0, none⟩ (.slice (some ⟨g, 0, none⟩) (is.length + 1) cap)).cell? ⟨w2.heap.size, 0, none⟩ = some (.slice (some ⟨g, 0, none⟩) (is.length + 1) cap) := xaL c4
 have HPG := xoo (hP.1.pg hcc (by simp; omega))
 have KE : Hid (xa (fun _ => False) w (w4.setCell ⟨w2.heap.size, 0, none⟩ (.slice (some ⟨g, 0, none⟩) (is.length + 1) cap))) := xoo (KW3.out.trans2 hP.2 (fun b hb e => by have := Hs2.out; omega))
 clear hP hown4 hgrow4 hat4 c0a c0 f0
 go_wp2_with fail
 go_ret2
 exact ⟨_, rfl, HPG.out.keepsTo (xa.refl (fun _ => False) _) (fun _ _ => id) (fun b hb => ⟨by have := hb.1; have := Hs2.out; omega, hb.2⟩), KE.out⟩
theorem PgAt.form {w : World} {P : Nat → Prop} {v : Value} {is : List Ins} (h : PgAt w P v is) : ∃ a c, v = .slice a is.length c := by
 obtain ⟨⟨ivs, ⟨a, c, e1, _⟩, hlen, _⟩, _⟩ := h
 exact ⟨a, c, by rw [e1, hlen]⟩
theorem xim : ∀ (q : List Cd), sumN q = xau (q.map (·.2))
 | [] => rfl
 | p :: r => by rw [sumN, xim r]; rfl
theorem xjd : ∀ (q : List Cd), 0 < q.length → altN q = xau (q.map (·.2)) + 2 * (q.length - 1)
 | [], h => by simp at h
 | [p], _ => by simp [altN, xau]
 | p :: p2 :: r, _ => by
  rw [altN, xjd (p2 :: r) (by simp)]
  simp only [List.map_cons, xau, List.length_cons]; omega
theorem xfg (p : Cd) : ∀ k, xbh p k = k * p.2
 | 0 => by simp [xbh]
 | k + 1 => by rw [xbh, xfg p k, Nat.add_mul]; omega
theorem xiC (p : Cd) : ∀ k, optN p k = k * (p.2 + 1)
 | 0 => by simp [optN]
 | k + 1 => by rw [optN, xiC p k, Nat.add_mul]; omega
theorem xfz (q : List Cd) (i n : Nat) (h : (q.map (·.2))[i]? = some n) : ∃ p, q[i]? = some p ∧ p.2 = n := by
 rw [List.getElem?_map, Option.map_eq_some_iff] at h
 exact h
theorem xkz {t : T} (h : WGn t) (q : List Cd) (hq : q.length = t.kids.toL.length) (hn : ∀ (i : Nat) (k : T) (p : Cd), t.kids.toL[i]? = some k → q[i]? = some p → xbU k p.1 p.2) : ∃ c n, xbU t c n ∧ lenOf t (xau (q.map (·.2))) = n := by
 obtain ⟨⟨hs, _⟩, ho | ho | ho | ho | ho | ⟨ho, h5⟩ | ⟨ho, ⟨k, hk1⟩, h6, h7, h8⟩⟩ := h
 all_goals unfold lenOf
 · exact ⟨_, 0, xll t ho, by rw [if_pos ho]⟩
 · exact ⟨_, 1, xlm t ho hs, by rw [if_neg (by omega), if_neg (by omega), if_neg (by omega), if_neg (by omega)]⟩
 · exact ⟨_, 1, xjS t ho, by rw [if_neg (by omega), if_neg (by omega), if_neg (by omega), if_neg (by omega)]⟩
 · exact ⟨_, 1, xne t ho, by rw [if_neg (by omega), if_neg (by omega), if_neg (by omega), if_neg (by omega)]⟩
 · exact ⟨_, _, xnf t q ho hq hn, by rw [if_neg (by omega), if_pos ho, ← xim]⟩
 · exact ⟨_, _, xng t q ho h5 hq hn, by rw [if_neg (by omega), if_neg (by omega), if_pos ho, ← hq, ← xjd q (by omega)]⟩
 rw [hk1] at hq hn
 obtain ⟨p, rfl⟩ : ∃ p, q = [p] := by
  rcases q with _ | ⟨p, _ | ⟨p2, r⟩⟩
  · simp at hq
  · exact ⟨p, rfl⟩
  simp at hq
 have hp := hn 0 k p rfl rfl
 refine ⟨_, _, xnd t k p ho hk1 h6 h7 h8 hp, ?_⟩
 rw [if_neg (by omega), if_neg (by omega), if_neg (by omega), if_pos ho]
 have e : xau (List.map (fun x => x.2) [p]) = p.2 := by simp [xau]
 rw [e]
 unfold repN
 rw [xfg, xiC]
 by_cases hm : t.mx < 0
 · rw [if_pos hm, if_pos hm, show t.mn.toNat * p.2 + (p.2 + 2) = (t.mn.toNat + 1) * p.2 + 2 by rw [Nat.add_mul]; omega]
 rw [if_neg hm, if_neg hm, show t.mx.toNat - t.mn.toNat = (t.mx - t.mn).toNat by omega]
theorem LenG.exact {t : T} {n : Nat} (h : LenG t n) (hn : n < 2000) : LenC t n := fun P v w ht => by
 have := h P v w ht
 rwa [show xar n = n by unfold xar; omega] at this
theorem xh3 (t : T) (n : Nat) (hl : LenG t n) (hn : 2000 ≤ n) (P : Nat → Prop) (v : NV) (w : World) (ht : TAt w P v t) :
 Calls Tryz.prog 92 #[v.val] w fun e w' => e = .returned (.tuple #[.slice none 0 0, .int .i64 16]) ∧ xa (fun _ => False) w w' := by
 obtain ⟨a1, n1, c1, a2, c2, e1, e2, _, _⟩ := ht.krow
 have HL := xoo (fun W (K : xa (fun _ => False) w W) => hl P v W (ht.keepsTo K (fun _ _ => id) (fun _ h => h)))
 obtain ⟨vo, vsv, vm, vx, vk⟩ := v
 obtain rfl := e1
 obtain rfl := e2
 have hc : 2000 ≤ xar n := by unfold xar; omega
 generalize xar n = X at *
 have g0 : decide ((2000 : Int) ≤ (X : Int)) = true := by simp; omega
 unfold NV.val at HL
 clear ht hl
 generalize t.kids.toL.length = KL at *
 show Calls Tryz.prog 92 #[.agg #[.int .i64 vo, .slice a1 n1 c1, .int .i64 vm, .int .i64 vx, .slice a2 KL c2]] w _
 go_enter Tryz.func92, Tryz.ntmps92
 go_wp2_with fail
 refine (HL.out _ (KI.out)).mono ?_
 rintro e w2 ⟨rfl, k2⟩
 have K2 : Hid (xa (fun _ => False) w w2) := xoo (xa.trans (KI.out) k2)
 clear k2
 go_wp2_with fail
 go_ret2
 exact ⟨rfl, K2.out⟩
def xhr (t : T) (n : Nat) : Prop := ∀ (P : Nat → Prop) (v : NV) (w : World), TAt w P v t → Calls Tryz.prog 78 #[v.val] w fun e w' => e = .returned (.int .i64 (n : Int)) ∧ xa (fun _ => False) w w'
def xhs (t : T) (n : Nat) : Prop := ∀ (P : Nat → Prop) (v : NV) (w : World), TAt w P v t → Calls Tryz.prog 75 #[v.val] w fun e w' => e = .returned (.int .i64 (n : Int)) ∧ xa (fun _ => False) w w'
theorem xeG : ∀ (q : List Nat) (B : Nat), (∀ n ∈ q, n ≤ B) → xau q ≤ q.length * B
 | [], B, _ => by simp [xau]
 | n :: r, B, h => by
  have h1 := h n (by simp)
  have h2 := xeG r B (fun m hm => h m (by simp [hm]))
  rw [xau, List.length_cons, Nat.add_mul]; omega
theorem xfA (q : List Nat) (i : Nat) (hB : ∀ n ∈ q, n ≤ 1099511627776) (hl : q.length ≤ 4000) : xau (q.take i) ≤ 4398046511104000 := by
 have h1 := xeG (q.take i) 1099511627776 (fun n hn => hB n (List.mem_of_mem_take hn))
 have h2 : (q.take i).length ≤ 4000 := by rw [List.length_take]; omega
 have h3 : (q.take i).length * 1099511627776 ≤ 4000 * 1099511627776 := Nat.mul_le_mul_right _ h2
 omega
def xgF (t : T) (S : Nat) : Nat := if t.op = 0 then 0 else if t.op = 4 then min S 1099511627776 else if t.op = 5 then min (S + 2 * t.kids.toL.length - 2) 1099511627776 else if t.op = 6 then (if t.mx < 0 then min (t.mn.toNat * S + (S + 2)) 1099511627776 else min (t.mn.toNat * S + (t.mx - t.mn).toNat * (S + 1)) 1099511627776) else 1
def RleR (L : List T) (q : List Nat) (w : World) (iv av : Value) (wr : World) : Prop := ∃ i : Nat, iv = .int .i64 i ∧ i ≤ L.length ∧ av = .int .i64 (xau (q.take i) : Nat) ∧ xa (fun _ => False) w wr
theorem xmS (t : T) (q : List Nat) (hW : WGn t) (hq : q.length = t.kids.toL.length) (hB : ∀ n ∈ q, n ≤ 1099511627776) (ih : ∀ (i : Nat) (k : T) (n : Nat), t.kids.toL[i]? = some k → q[i]? = some n → xhr k n) : xgF t (xau q) ≤ 1099511627776 ∧ xhr t (xgF t (xau q)) := by
 obtain ⟨⟨_, hL4⟩, hops⟩ := hW
 have hS0 : xau q ≤ 4398046511104000 := by have := xfA q q.length hB (by omega); rwa [List.take_length] at this
 have hS6 : t.op = 6 → xau q ≤ 1099511627776 := fun h6 => by
  have h1 : q.length = 1 := by
   rcases hops with h | h | h | h | h | ⟨h, _⟩ | ⟨_, ⟨k, hk⟩, _⟩
   all_goals first | omega | (rw [hq, hk]; rfl)
  have := xeG q 1099511627776 hB
  rw [h1] at this; omega
 have HOps : Hid (t.op = 0 ∨ t.op = 1 ∨ t.op = 2 ∨ t.op = 3 ∨ t.op = 4 ∨ (t.op = 5 ∧ 0 < t.kids.toL.length) ∨ (t.op = 6 ∧ (0 ≤ t.mn ∧ t.mn ≤ 1000) ∧ (-1 ≤ t.mx ∧ t.mx ≤ 1000) ∧ (t.mx < 0 ∨ t.mn ≤ t.mx))) := xoo (by
  rcases hops with h | h | h | h | h | h | ⟨h, _, h2, h3, h4⟩
  · exact Or.inl h
  · exact Or.inr (Or.inl h)
  · exact Or.inr (Or.inr (Or.inl h))
  · exact Or.inr (Or.inr (Or.inr (Or.inl h)))
  · exact Or.inr (Or.inr (Or.inr (Or.inr (Or.inl h))))
  · exact Or.inr (Or.inr (Or.inr (Or.inr (Or.inr (Or.inl h)))))
  exact Or.inr (Or.inr (Or.inr (Or.inr (Or.inr (Or.inr ⟨h, h2, h3, h4⟩))))))
 obtain ⟨S, hS⟩ : ∃ S, xau q = S := ⟨_, rfl⟩
 have hS' := hS
 rw [hS] at hS0 hS6
 have HSS := xoo hS
 have HS6 := xoo hS6
 have HBq := xoo (fun i => xfA q i hB (by omega))
 have HB := xoo hB
 have HQ := xoo hq
 have IH := xoo ih
 clear hops hS hS6 hB hq ih
 rw [hS']
 unfold xgF
 refine ⟨?_, ?_⟩
 · split; omega
   split; omega
   split; omega
   split
   · split <;> omega
   omega
 intro P v w ht
 obtain ⟨a1, n1, c1, a2, c2, e1, e2, hl, hc⟩ := ht.krow
 have o1 : v.op = t.op := ht.op
 have o2 : v.mn = t.mn := ht.mn
 have o3 : v.mx = t.mx := ht.mx
 obtain ⟨vo, vsv, vm, vx, vk⟩ := v
 obtain rfl := e1
 obtain rfl := e2
 simp only at o1 o2 o3
 subst o1
 subst o2
 subst o3
 generalize t.op = op at *
 generalize t.mn = mn at *
 generalize t.mx = mx at *
 generalize t.kids.toL = L at *
 have HC := xoo hc
 clear hl hc ht
 show Calls Tryz.prog 78 #[.agg #[.int .i64 op, .slice a1 n1 c1, .int .i64 mn, .int .i64 mx, .slice a2 L.length c2]] w _
 go_enter Tryz.func78, Tryz.ntmps78
 go_wp2_with fail
 obtain ⟨wb, hwb⟩ : ∃ W, W = w.alloc (.cells #[.int .i64 op, .slice a1 n1 c1, .int .i64 mn, .int .i64 mx, .slice a2 L.length c2] 154) := ⟨_, rfl⟩
 have hKB : xa (fun _ => False) w wb := by rw [hwb]; exact (xa.refl _ _).alloc _
 have b0 : wb.cell? ⟨w.heap.size, 0, none⟩ = some (.int .i64 op) := by rw [hwb]; simp [go_sem]
 have b2 : wb.cell? ⟨w.heap.size, 2, none⟩ = some (.int .i64 mn) := by rw [hwb]; simp [go_sem]
 have b3 : wb.cell? ⟨w.heap.size, 3, none⟩ = some (.int .i64 mx) := by rw [hwb]; simp [go_sem]
 have b4 : wb.cell? ⟨w.heap.size, 4, none⟩ = some (.slice a2 L.length c2) := by rw [hwb]; simp [go_sem]
 rw [← hwb]
 clear hwb
 have KB := xoo hKB
 have B0 := xoo b0
 have B2 := xoo b2
 have B3 := xoo b3
 have B4 := xoo b4
 clear hKB b0 b2 b3 b4
 go_loopw [4, 3] (fun iv av wr => RleR L q wb iv av wr) (fun iv _ _ => L.length - (intOf iv).toNat)
 case atStart => exact ⟨0, rfl, Nat.zero_le _, by rw [List.take_zero]; rfl, xa.refl _ _⟩
 case round =>
  obtain ⟨i, rfl, hi, rfl, hk⟩ := hrel
  have K := xoo hk
  clear hk
  by_cases hil : i < L.length
  · obtain ⟨k, hki⟩ : ∃ k, L[i]? = some k := ⟨_, List.getElem?_eq_getElem hil⟩
    obtain ⟨n, hni⟩ : ∃ n, q[i]? = some n := ⟨_, List.getElem?_eq_getElem (by rw [HQ.out]; exact hil)⟩
    obtain ⟨b, off, uo, d1, f1, g1, um, ux, d2, f2, g2, rfl, hu, hlt, x0, x1, x2, x3, x4⟩ := (HC.out.keep (KB.out.trans K.out)).at hki
    have HS : Hid (∀ W, xa (fun _ => False) wr W → Calls Tryz.prog 78 #[.agg #[.int .i64 uo, .slice d1 f1 g1, .int .i64 um, .int .i64 ux, .slice d2 f2 g2]] W fun e w' => e = .returned (.int .i64 (n : Int)) ∧ xa (fun _ => False) W w') := xoo (fun W kW =>
     IH.out i k n hki hni P ⟨uo, .slice d1 f1 g1, um, ux, .slice d2 f2 g2⟩ W (hu.keepsTo kW (fun _ _ => id) (fun _ h => h)))
    have hS1 := xcZ hni
    have q1 := HBq.out i
    have q2 : n ≤ 1099511627776 := HB.out n (List.mem_of_getElem? hni)
    have b4 := K.out.cell B4.out id
    generalize xau (q.take i) = X at *
    have HZ := xoo hS1
    clear hki hu hni hS1
    have hw0 : IntKind.i64.wrap ((X : Int) + (n : Int)) = (X : Int) + (n : Int) := IntWalk.i64_in _ (by omega)
    go_wp2_with fail
    refine (HS.out _ (KI.out)).mono ?_
    rintro e w2 ⟨rfl, k2⟩
    have K2 : Hid (xa (fun _ => False) wb w2) := xoo (K.out.trans (xa.trans (KI.out) k2))
    clear k2
    go_wp2_with fail
    go_roundw
    case rel => exact ⟨i + 1, by go_num, by omega, by rw [HZ.out]; push_cast; rfl, K2.out⟩
    case measure => simp [intOf]; omega
  have he : i = L.length := by omega
  subst he
  have b0 := K.out.cell B0.out id
  have b2 := K.out.cell B2.out id
  have b3 := K.out.cell B3.out id
  have b4 := K.out.cell B4.out id
  have hsz : w.heap.size < wr.heap.size := xay b0
  have KE := xoo (KB.out.trans K.out)
  rw [List.take_of_length_le (by rw [HQ.out]; exact Nat.le_refl _), HSS.out]
  clear K B0 B2 B3 B4 KB
  rcases HOps.out with rfl | rfl | rfl | rfl | rfl | ⟨rfl, h5⟩ | ⟨rfl, h6, h7, h8⟩
  · go_wp2_with fail
    go_ret
    exact ⟨by simp, KE.out⟩
  · go_wp2_with fail
    go_ret
    exact ⟨by simp, KE.out⟩
  · go_wp2_with fail
    go_ret
    exact ⟨by simp, KE.out⟩
  · go_wp2_with fail
    go_ret
    exact ⟨by simp, KE.out⟩
  · by_cases hb : 1099511627776 < S
    · have g1 : decide ((1099511627776 : Int) < (S : Int)) = true := by simp; omega
      have HE : Hid (min S 1099511627776 = 1099511627776) := xoo (Nat.min_eq_right (Nat.le_of_lt hb))
      go_wp2_with fail
      go_ret
      exact ⟨by simp [HE.out], KE.out⟩
    have g1 : decide ((1099511627776 : Int) < (S : Int)) = false := by simp; omega
    have HE : Hid (min S 1099511627776 = S) := xoo (Nat.min_eq_left (Nat.not_lt.1 hb))
    go_wp2_with fail
    go_ret
    exact ⟨by simp [HE.out], KE.out⟩
  · by_cases hb : 1099511627776 < S + 2 * L.length - 2
    · have g1 : decide ((1099511627776 : Int) < (S : Int) + 2 * (L.length : Int) - 2) = true := by simp; omega
      have HE : Hid (min (S + 2 * L.length - 2) 1099511627776 = 1099511627776) := xoo (Nat.min_eq_right (Nat.le_of_lt hb))
      go_wp2_with fail
      go_ret
      exact ⟨by simp [HE.out], KE.out⟩
    have g1 : decide ((1099511627776 : Int) < (S : Int) + 2 * (L.length : Int) - 2) = false := by simp; omega
    have HE : Hid (min (S + 2 * L.length - 2) 1099511627776 = (S + 2 * L.length - 2)) := xoo (Nat.min_eq_left (Nat.not_lt.1 hb))
    go_wp2_with fail
    go_ret
    exact ⟨by simp [HE.out]; omega, KE.out⟩
  obtain ⟨a, rfl⟩ : ∃ a : Nat, mn = (a : Int) := ⟨mn.toNat, by omega⟩
  have hS6 : S ≤ 1099511627776 := HS6.out rfl
  by_cases hm : mx < 0
  · have g1 : decide (mx < 0) = true := by simpa using hm
    obtain rfl : mx = -1 := by omega
    obtain ⟨P1, hP1⟩ : ∃ P1, a * S = P1 := ⟨_, rfl⟩
    obtain ⟨P2, hP2⟩ : ∃ P2, (1 + a) * (S + 1) = P2 := ⟨_, rfl⟩
    have hb1 : P1 ≤ 1200000000000000 := by rw [← hP1]; exact xdm _ S (by omega) (by omega)
    have hb2 : P2 ≤ 1200000000000000 := by rw [← hP2]; exact xdm _ _ (by omega) (by omega)
    have hw1 : IntKind.i64.wrap ((a : Int) * (S : Int)) = (P1 : Int) := by
     rw [show (a : Int) * (S : Int) = (P1 : Int) by rw [← hP1]; push_cast; rfl]
     exact IntWalk.i64_in _ (by omega)
    have hw2 : wrap64 ((-1 - (a : Int)) * ((S : Int) + 1)) = - (P2 : Int) := by
     rw [show (-1 - (a : Int)) * ((S : Int) + 1) = - (P2 : Int) by rw [← hP2]; push_cast; rw [← Int.neg_mul]; congr 1; omega]
     unfold wrap64
     omega
    have HP1 := xoo hP1
    clear hP1 hP2
    by_cases hb : 1099511627776 < P1 + (S + 2)
    · have g2 : decide ((1099511627776 : Int) < (P1 : Int) + ((S : Int) + 2)) = true := by simp; omega
      have HE : Hid (min (P1 + (S + 2)) 1099511627776 = 1099511627776) := xoo (Nat.min_eq_right (Nat.le_of_lt hb))
      go_wp2_with fail
      go_ret
      exact ⟨by simp [HP1.out, HE.out], KE.out⟩
    have g2 : decide ((1099511627776 : Int) < (P1 : Int) + ((S : Int) + 2)) = false := by simp; omega
    have HE : Hid (min (P1 + (S + 2)) 1099511627776 = (P1 + (S + 2))) := xoo (Nat.min_eq_left (Nat.not_lt.1 hb))
    go_wp2_with fail
    go_ret
    exact ⟨by simp [HP1.out, HE.out], KE.out⟩
  have g1 : decide (mx < 0) = false := by simpa using hm
  obtain ⟨d, rfl⟩ : ∃ d : Nat, mx = (a : Int) + (d : Int) := ⟨(mx - a).toNat, by omega⟩
  obtain ⟨P1, hP1⟩ : ∃ P1, a * S = P1 := ⟨_, rfl⟩
  obtain ⟨P2, hP2⟩ : ∃ P2, d * (S + 1) = P2 := ⟨_, rfl⟩
  have hb1 : P1 ≤ 1200000000000000 := by rw [← hP1]; exact xdm _ S (by omega) (by omega)
  have hb2 : P2 ≤ 1200000000000000 := by rw [← hP2]; exact xdm _ _ (by omega) (by omega)
  have hw1 : IntKind.i64.wrap ((a : Int) * (S : Int)) = (P1 : Int) := by
   rw [show (a : Int) * (S : Int) = (P1 : Int) by rw [← hP1]; push_cast; rfl]
   exact IntWalk.i64_in _ (by omega)
  have hsub : (a : Int) + (d : Int) - (a : Int) = (d : Int) := by omega
  have hw2 : wrap64 (((a : Int) + (d : Int) - (a : Int)) * ((S : Int) + 1)) = (P2 : Int) := by
   rw [hsub, show (d : Int) * ((S : Int) + 1) = (P2 : Int) by rw [← hP2]; push_cast; rfl]
   unfold wrap64
   omega
  have hd1 : ((a : Int) + (d : Int) - (a : Int)).toNat = d ∧ ((a : Int) + (d : Int)).toNat - a = d := by omega
  have HD := xoo hd1
  have HP := xoo (And.intro hP1 hP2)
  clear hP1 hP2 hd1 hsub
  by_cases hb : 1099511627776 < P1 + P2
  · have g2 : decide ((1099511627776 : Int) < (P1 : Int) + (P2 : Int)) = true := by simp; omega
    have HE : Hid (min (P1 + P2) 1099511627776 = 1099511627776) := xoo (Nat.min_eq_right (Nat.le_of_lt hb))
    go_wp2_with fail
    go_ret
    exact ⟨by simp [hm, HD.out.1, HD.out.2, HP.out.1, HP.out.2, HE.out], KE.out⟩
  have g2 : decide ((1099511627776 : Int) < (P1 : Int) + (P2 : Int)) = false := by simp; omega
  have HE : Hid (min (P1 + P2) 1099511627776 = (P1 + P2)) := xoo (Nat.min_eq_left (Nat.not_lt.1 hb))
  go_wp2_with fail
  go_ret
  exact ⟨by simp [hm, HD.out.1, HD.out.2, HP.out.1, HP.out.2, HE.out], KE.out⟩
end Go.Proofs.YtbifklibdkjbeaaGreatDoor
