/-
  Several texts in one: order.Sure. code.Open. order.two, order.Units. code.Join; the decoder's units, eight.
-/
import Derived.Test.YtjahiihmoglpfaaGreatDoorMg22
namespace Go.Proofs.YtjahiihmoglpfaaGreatDoor
open Go.RowKit
set_option linter.unusedVariables false
set_option linter.unusedSimpArgs false
set_option maxRecDepth 100000
def hfP (m l : List UInt8) : Bool := Lib.hasPrefix m l && decide (l.length < m.length)
theorem half_or (l : List UInt8) : xcd l = (hfP m1 l || (hfP m2 l || hfP m3 l)) := by
 unfold hfP xcd Lib.hasPrefix m1 m2 m3
 rcases l with _ | ⟨a, _ | ⟨b, _ | ⟨c, t⟩⟩⟩
 · rfl
 · simp [List.isPrefixOf]
   rw [Bool.eq_iff_iff]
   simp
   constructor
   · rintro ((h | h) | h) <;> simp [h]
   rintro (h | h | h) <;> simp [h]
 · simp [List.isPrefixOf]
 simp [List.isPrefixOf]
set_option maxHeartbeats 4000000 in
theorem xc2 (c : Nat) {X Y : Nat} {w : World} {v u : Value} {l m : List UInt8} (hc : w.cell? ⟨c, 0, none⟩ = some v) (h : BS X w v l) (k : BS Y w u m) :
 Calls Tryz.prog 181 #[u, .pointer (some ⟨c, 0, none⟩)] w fun e w' => e = .returned (.bool (hfP m l)) ∧ w' = w := by
 have HB := xmA (xd2 k h)
 obtain ⟨a, ca, rfl, _, _⟩ := h.form
 obtain ⟨b, cb, rfl, _, _⟩ := k.form
 clear h k
 have HH : Hid (hfP m l = (Lib.hasPrefix m l && decide (l.length < m.length))) := xmA rfl
 generalize hfP m l = r at *
 cases hq : Lib.hasPrefix m l with
 | true =>
  rw [hq] at HB HH
  clear hq
  by_cases hl : l.length < m.length
  · have g : decide ((l.length : Int) < (m.length : Int)) = true := by simp; omega
    have HR : Hid (r = true) := xmA (by rw [HH.out]; simpa using hl)
    clear HH
    go_enter Tryz.func181, Tryz.ntmps181
    go_wp2_with fail
    refine HB.out.mono ?_
    rintro e w' ⟨rfl, rfl⟩
    go_wp2_with fail
    go_ret
    exact ⟨by rw [HR.out]; rfl, rfl⟩
  have g : decide ((l.length : Int) < (m.length : Int)) = false := by simp; omega
  have HR : Hid (r = false) := xmA (by rw [HH.out]; simpa using hl)
  clear HH
  go_enter Tryz.func181, Tryz.ntmps181
  go_wp2_with fail
  refine HB.out.mono ?_
  rintro e w' ⟨rfl, rfl⟩
  go_wp2_with fail
  go_ret
  exact ⟨by rw [HR.out]; rfl, rfl⟩
 | false =>
  rw [hq] at HB HH
  clear hq
  have HR : Hid (r = false) := xmA (by rw [HH.out]; rfl)
  clear HH
  go_enter Tryz.func181, Tryz.ntmps181
  go_wp2_with fail
  refine HB.out.mono ?_
  rintro e w' ⟨rfl, rfl⟩
  go_wp2_with fail
  go_ret
  exact ⟨by rw [HR.out]; rfl, rfl⟩
def ArrAt (w : World) (A b : Nat) : Prop :=
 w.cell? ⟨A, 0, none⟩ = some (.slice none 0 0) ∧ w.cell? ⟨A, 1, none⟩ = some (.slice (some ⟨b, 0, none⟩) 3 3) ∧ w.cell? ⟨A, 2, none⟩ = some (.slice (some ⟨b + 1, 0, none⟩) 2 2) ∧ w.cell? ⟨A, 3, none⟩ = some (.slice (some ⟨b + 2, 0, none⟩) 2 2)
def IfE (q : Bool) (w : World) (e : Ending) (w' : World) : Prop := ∃ z : Int, e = .returned (.int .i64 z) ∧ decide (0 ≤ z) = q ∧ w' = w
set_option maxHeartbeats 4000000 in
theorem xi6 (A b c X : Nat) (w : World) (v : Value) (l : List UInt8) (hA : ArrAt w A b) (hM : xgU w b) (hc : w.cell? ⟨c, 0, none⟩ = some v) (h : BS X w v l) :
 Calls Tryz.prog 217 #[.slice (some ⟨A, 0, none⟩) 4 4, .func (.func 181) #[] #[.pointer (some ⟨c, 0, none⟩)]] w (IfE (xcd l) w) := by
 obtain ⟨a0, a1, a2, a3⟩ := hA
 obtain ⟨b1, b2, b3⟩ := hM.bs
 have HO := xmA (half_or l)
 have P0 := xmA (xc2 c hc h (⟨none, 0, rfl, Nat.le_refl _, fun h => absurd rfl h⟩ : BS 0 w (.slice none 0 0) []))
 have P1 := xmA (xc2 c hc h b1)
 have P2 := xmA (xc2 c hc h b2)
 have P3 := xmA (xc2 c hc h b3)
 have h0 : hfP [] l = false := by simp [hfP]
 rw [h0] at P0
 generalize hfP m1 l = q1 at *
 generalize hfP m2 l = q2 at *
 generalize hfP m3 l = q3 at *
 generalize xcd l = r at *
 obtain ⟨qf, hq1, hq2, hq3⟩ : ∃ qf : Nat → Bool, qf b = q1 ∧ qf (b + 1) = q2 ∧ qf (b + 2) = q3 := ⟨fun k => if k = b then q1 else if k = b + 1 then q2 else q3, by simp, by simp, by simp⟩
 have HP : Hid (∀ k n, (k = b ∧ n = 3) ∨ (k = b + 1 ∧ n = 2) ∨ (k = b + 2 ∧ n = 2) → Calls Tryz.prog 181 #[.slice (some ⟨k, 0, none⟩) n n, .pointer (some ⟨c, 0, none⟩)] w fun e w' => e = .returned (.bool (qf k)) ∧ w' = w) := xmA (fun k n h => by
  rcases h with ⟨rfl, rfl⟩ | ⟨rfl, rfl⟩ | ⟨rfl, rfl⟩
  · rw [hq1]; exact P1.out
  · rw [hq2]; exact P2.out
  rw [hq3]; exact P3.out)
 clear P1 P2 P3 h hM b1 b2 b3 h0 hc
 have hcase : (q1 = true) ∨ (q1 = false ∧ q2 = true) ∨ (q1 = false ∧ q2 = false ∧ q3 = true) ∨ (q1 = false ∧ q2 = false ∧ q3 = false) := by
  cases q1 <;> cases q2 <;> cases q3 <;> simp
 rcases hcase with rfl | ⟨rfl, rfl⟩ | ⟨rfl, rfl, rfl⟩ | ⟨rfl, rfl, rfl⟩
 all_goals
  go_enter Tryz.func217, Tryz.ntmps217
  go_wp2_with fail
  refine wp_loop_rounds 5 ?_
  rw [rounds_succ]
  go_wp2_with (go_at_call 181; refine P0.out.mono ?_; rintro e w' ⟨rfl, rfl⟩)
  repeat any_goals (rw [rounds_succ]; go_wp2_with (go_at_call 181; refine (HP.out _ _ (by omega)).mono ?_; rintro e w' ⟨rfl, rfl⟩; simp only [hq1, hq2, hq3]))
  go_ret
  exact ⟨_, rfl, by rw [HO.out]; rfl, rfl⟩
set_option maxHeartbeats 4000000 in
theorem xhD (A b c X : Nat) (w : World) (v : Value) (l : List UInt8) (hA : ArrAt w A b) (hM : xgU w b) (hc : w.cell? ⟨c, 0, none⟩ = some v) (h : BS X w v l) :
 Calls Tryz.prog 180 #[.slice (some ⟨A, 0, none⟩) 4 4, .func (.func 181) #[] #[.pointer (some ⟨c, 0, none⟩)]] w fun e w' => e = .returned (.bool (xcd l)) ∧ w' = w := by
 have HI := xmA (xi6 A b c X w v l hA hM hc h)
 clear hA hM hc h
 generalize xcd l = q at *
 go_enter Tryz.func180, Tryz.ntmps180
 go_wp2_with fail
 refine HI.out.mono ?_
 rintro e w' ⟨z, rfl, hz, rfl⟩
 have HZ := xmA hz
 clear hz
 go_wp2_with fail
 go_ret
 exact ⟨by rw [← HZ.out]; rfl, rfl⟩
set_option maxHeartbeats 4000000 in
theorem xbP {X : Nat} {w : World} {v : Value} {l : List UInt8} (h : BS X w v l) (hX : l ≠ [] → X < w.heap.size) :
 Calls Tryz.prog 152 #[v] w fun e w' => e = .returned (.bool (xb9 l)) ∧ xaa (fun _ => False) w w' := by
 have HM := xmA (fun (W : World) (K : xaa (fun _ => False) w W) => xbR (h.keeps K id))
 have HH := xmA (fun (W : World) (K : xaa (fun _ => False) w W) => h.keeps K id)
 have HS : Hid (xb9 l = (decide (0 < (xaE l).2) || !xcd l)) := xmA rfl
 obtain ⟨a, c, rfl, _, _⟩ := h.form
 clear h
 generalize xaE l = mk at *
 obtain ⟨mk, mn⟩ := mk
 by_cases hmn : 0 < mn
 · have g1 : decide ((0 : Int) < (mn : Int)) = true := by simp; omega
   have HR : Hid (xb9 l = true) := xmA (by rw [HS.out]; simp [hmn])
   clear HS
   go_enter Tryz.func152, Tryz.ntmps152
   go_wp2_with fail
   refine (HM.out _ (KI.out)).mono ?_
   rintro e w2 ⟨rfl, k2⟩
   have K2 := xmA (xaa.trans ((xaa.refl (fun _ => False) w).alloc _) k2)
   clear k2
   go_wp2_with fail
   go_ret
   exact ⟨by rw [HR.out]; rfl, K2.out⟩
 have g1 : decide ((0 : Int) < (mn : Int)) = false := by simp; omega
 have HR : Hid (xb9 l = !xcd l) := xmA (by rw [HS.out]; simp [hmn])
 clear HS
 go_enter Tryz.func152, Tryz.ntmps152
 go_wp2_with fail
 refine (HM.out _ (KI.out)).mono ?_
 rintro e w2 ⟨rfl, k2⟩
 have c0 : w2.cell? ⟨w.heap.size, 0, none⟩ = some (.slice a l.length c) := k2.cell (by simp [go_sem]) id
 have K2 := xmA (xaa.trans ((xaa.refl (fun _ => False) w).alloc _) k2)
 clear k2
 go_wp2_with fail
 refine (xgx _).mono ?_
 rintro e w3 ⟨rfl, hM, k3⟩
 have c1 := k3.cell c0 id
 have HM3 := xmA hM
 have K3 := xmA (K2.out.trans k3)
 have hs3 := k3.size
 have HC := xmA (fun (W : World) (A : Nat) (K : xaa (fun _ => False) w3 W) (hA : ArrAt W A (w2.heap.size + 1)) => xhD A (w2.heap.size + 1) w.heap.size X W _ l hA (HM3.out.keeps K (fun _ _ => id)) (K.cell c1 id) (HH.out W (K3.out.trans K)))
 unfold mksV
 clear hM k3 c0
 generalize w2.heap.size + 1 = g at *
 go_wp2_with fail
 refine (HC.out _ _ (KI.out) ⟨by simp [go_sem], by simp [go_sem], by simp [go_sem], by simp [go_sem]⟩).mono ?_
 rintro e w' ⟨rfl, rfl⟩
 go_wp2_with fail
 go_ret
 exact ⟨by rw [HR.out]; rfl, K3.out.trans (KI.out)⟩
set_option maxHeartbeats 4000000 in
theorem xjk (X : Nat) (l : List UInt8) (v : Value) (w : World) (h : BS X w v l) (h0 : l ≠ []) (hl : l.length ≤ 100000) :
 Calls Tryz.prog 184 #[v] w fun e w' => ∃ u, e = .returned u ∧ OwnB w.heap.size w' u l ∧ (∃ g, u.ownBlock = some g ∧ g < w'.heap.size) ∧ xaa (fun _ => False) w w' := by
 obtain ⟨i0, hi0, hz0, hz1, hz2⟩ := info_parts xcC
 obtain ⟨a, cap, rfl, hlen, hcl⟩ := h
 obtain ⟨off, rfl, hcc⟩ := hcl h0
 have hp := List.length_pos_iff.2 h0
 have HC : Hid (∀ (j : Nat) (u : Value), (l.map u8V)[j]? = some u → (w.alloc (.cells #[] 5)).cell? ((⟨X, off, none⟩ : Addr).add j) = some u) := xmA (fun j u hu => by
  rw [List.getElem?_map, Option.map_eq_some_iff] at hu
  obtain ⟨x, hx, rfl⟩ := hu
  have := xaj (hcc j x hx) (.cells #[] 5)
  unfold u8V
  rcases j with _ | j
  · simpa [Addr.add] using this
  simpa [Addr.add] using this)
 have hE := fun W => Lib.run_eql_slice_nil (P := Tryz.prog) W 22 5 (some ⟨X, off, none⟩) l.length cap 0 0 Tryz.underlying22
 clear hcc hcl
 go_enter Tryz.func184, Tryz.ntmps184
 go_wp2_with (at_builtin; refine wpList_append_lies _ rfl (.tmp 5) (.tmp 6) 22 rfl w.heap.size 5 i0 _ 1 1 Tryz.underlying22 hi0 hz0 hz1 hz2 rfl (by decide) _ 0 [] rfl (xc8 w _ 1) ⟨X, off, none⟩ l.length cap (l.map u8V) rfl (by simp) HC.out (by intro u hu; simp at hu; obtain ⟨x, _, rfl⟩ := hu; rfl) hp (by unfold maxLen; omega) (by omega) (by simp) _ rfl ?_)
 intro g cap9 w9 hown9 hgrow9 hat9 hlt9
 have hk2 : xaa (fun _ => False) w w9 := ((xaa.refl (fun _ => False) w).alloc _).trans2 ((xaa.refl (fun b => w.heap.size ≤ b) _).grown hgrow9 (fun b hb => Or.inl (by have := Option.some.inj hb; rw [← this]; exact Nat.le_refl _))) (fun i hi e => by omega)
 have HO := xmA hown9
 have HK := xmA hk2
 clear hown9 hgrow9 hk2 hat9
 go_wp2_with fail
 go_ret
 exact ⟨_, rfl, HO.out, ⟨g, rfl, hlt9⟩, HK.out⟩
def lenV (v : Value) : Nat := match v with
 | .slice _ n _ => n
 | _ => 0
theorem OwnB.cells {base : Nat} {w : World} {v : Value} {l : List UInt8} (h : OwnB base w v l) (h0 : l ≠ []) : ∃ g cap, v = .slice (some ⟨g, 0, none⟩) l.length cap ∧ l.length ≤ cap ∧ ∀ i x, l[i]? = some x → w.cell? ⟨g, 0 + i, none⟩ = some (.int .u8 (x.toNat : Int)) := by
 rcases h.2 with ⟨rfl, hn⟩ | ⟨g, cap, cur, rfl, hg, hh, hn, _⟩
 · exact absurd (List.length_eq_zero_iff.1 hn) h0
 have hc := World.ownsRow.cellAt h
 refine ⟨g, cap, rfl, hn, fun i x hx => ?_⟩
 have := hc i (by have := (List.getElem?_eq_some_iff.1 hx).1; simpa using this)
 rw [List.getElem?_map, hx] at this
 rw [Nat.zero_add]; exact this
def OpR (l : List UInt8) (n base : Nat) (w0 : World) (lv gv : Value) (wr : World) : Prop :=
 ∃ k g1 g2, l.length + k ≤ n ∧ OwnB base wr lv (l ++ List.replicate k 128) ∧ OwnB base wr gv (l ++ List.replicate k 191) ∧ lv.ownBlock = some g1 ∧ gv.ownBlock = some g2 ∧ g1 ≠ g2 ∧ g1 < wr.heap.size ∧ g2 < wr.heap.size ∧ xaa (fun _ => False) w0 wr
set_option maxHeartbeats 8000000 in
theorem xlx {X : Nat} {w : World} {v : Value} {l : List UInt8} (h : BS X w v l) (hl : l.length ≤ 100000) :
 Calls Tryz.prog 156 #[v] w fun e w' => e = .returned (.bool (xd l)) ∧ xaa (fun _ => False) w w' := by
 cases l with
 | nil =>
  obtain ⟨a, cap, rfl, _, _⟩ := h
  go_enter Tryz.func156, Tryz.ntmps156
  go_wp2_with fail
  go_ret
  exact ⟨rfl, xaa.refl _ _⟩
 | cons c t =>
  obtain ⟨i0, hi0, hz0, hz1, hz2⟩ := info_parts xcC
  have HCl := xmA (fun (W : World) (K : xaa (fun _ => False) w W) => xjk X (c :: t) v W (h.keeps K id) (by simp) hl)
  obtain ⟨a, cap, rfl, hcap, hcl⟩ := h
  obtain ⟨off, rfl, hcc⟩ := hcl (by simp)
  have c0 : w.cell? ⟨X, off, none⟩ = some (.int .u8 (c.toNat : Int)) := hcc 0 c rfl
  have hc8 := c.toNat_lt
  have HL := xmA (fun W => xe8 c.toNat W (by omega))
  have h4 := xkn c.toNat
  have HO : Hid (xd (c :: t) = if lenP c.toNat ≤ t.length + 1 then false else
   (getP (c :: (t ++ List.replicate (lenP c.toNat - (t.length + 1)) 128))).2 == lenP c.toNat || (getP (c :: (t ++ List.replicate (lenP c.toNat - (t.length + 1)) 191))).2 == lenP c.toNat) := xmA rfl
  generalize xd (c :: t) = r at *
  generalize lenP c.toNat = n at *
  rw [List.length_cons] at *
  clear hcc hcl
  by_cases hn : n ≤ t.length + 1
  · have HR : Hid (r = false) := xmA (by rw [HO.out, if_pos hn])
    clear HO
    go_enter Tryz.func156, Tryz.ntmps156
    go_wp2_with fail
    refine (HL.out _).mono ?_
    rintro e w1 ⟨rfl, rfl⟩
    go_wp2_with fail
    go_ret
    exact ⟨by rw [HR.out]; rfl, xaa.refl _ _⟩
  have HR : Hid (r = ((getP (c :: (t ++ List.replicate (n - (t.length + 1)) 128))).2 == n || (getP (c :: (t ++ List.replicate (n - (t.length + 1)) 191))).2 == n)) := xmA (by rw [HO.out, if_neg hn])
  clear HO
  go_enter Tryz.func156, Tryz.ntmps156
  go_wp2_with fail
  refine (HL.out _).mono ?_
  rintro e w1 ⟨rfl, rfl⟩
  go_wp2_with fail
  refine (HCl.out _ (xaa.refl _ _)).mono ?_
  rintro e w2 ⟨u1, rfl, hO1, ⟨g1, hg1, hl1⟩, k1⟩
  have HO1 := xmA hO1
  have K1 := xmA k1
  clear hO1 k1
  go_wp2_with fail
  refine (HCl.out _ K1.out).mono ?_
  rintro e w3 ⟨u2, rfl, hO2, ⟨g2, hg2, hl2⟩, k2⟩
  have hs1 := K1.out.size
  have hs2 := k2.size
  have hg12 : g1 ≠ g2 := by have := xab hO2 g2 hg2; omega
  have HO2 : Hid (OwnB w.heap.size w3 u2 (c :: t)) := xmA (xag hO2 hs1)
  have HO1' : Hid (OwnB w.heap.size w3 u1 (c :: t)) := xmA (xcl HO1.out k2)
  have K2 := xmA (K1.out.trans k2)
  have hg1l : g1 < w3.heap.size := by omega
  have Hg1 := xmA hg1
  have Hg2 := xmA hg2
  clear hO2 k2 HO1 hg1 hg2
  go_wp2_with fail
  go_loopw [4, 5] (fun lv gv wr => OpR (c :: t) n w.heap.size w lv gv wr) (fun lv _ _ => n - lenV lv)
  case atStart => exact ⟨0, g1, g2, by simp; omega, by simpa using HO1'.out, by simpa using HO2.out, Hg1.out, Hg2.out, hg12, hg1l, hl2, K2.out⟩
  case round =>
   clear HO1' HO2 Hg1 Hg2 hg12 hg1l
   obtain ⟨k, b1, b2, hk, hO1, hO2, hb1, hb2, hb12, hbl1, hbl2, hkw⟩ := hrel
   have HK := xmA hkw
   have hsw := hkw.size
   have hlen : ∀ x : UInt8, ((c :: t) ++ List.replicate k x).length = t.length + 1 + k := fun x => by simp; omega
   obtain ⟨q1, cp1, rfl, hcp1, hq1⟩ := hO1.cells (by simp)
   obtain ⟨q2, cp2, rfl, hcp2, hq2⟩ := hO2.cells (by simp)
   rw [hlen] at hcp1 hcp2
   obtain rfl : q1 = b1 := Option.some.inj hb1
   obtain rfl : q2 = b2 := Option.some.inj hb2
   have HO1 : Hid (wr.ownsRow w.heap.size 5 1 (.slice (some ⟨q1, 0, none⟩) (t.length + 1 + k) cp1) (t.length + 1 + k) (((c :: t) ++ List.replicate k 128).map u8V)) := xmA (by unfold OwnB at hO1; rw [hlen] at hO1; exact hO1)
   have HO2 : Hid (wr.ownsRow w.heap.size 5 1 (.slice (some ⟨q2, 0, none⟩) (t.length + 1 + k) cp2) (t.length + 1 + k) (((c :: t) ++ List.replicate k 191).map u8V)) := xmA (by unfold OwnB at hO2; rw [hlen] at hO2; exact hO2)
   rw [hlen, hlen]
   clear hO1 hO2 hb1 hb2 hkw
   by_cases hnk : t.length + 1 + k < n
   · have g1 : decide (((t.length + 1 + k : Nat) : Int) < (n : Int)) = true := by simp; omega
     clear hq1 hq2
     go_wp2_with (at_builtin; refine wpList_append_lies _ rfl (.tmp 29) (.tmp 30) 22 rfl w.heap.size 5 i0 _ 1 1 Tryz.underlying22 hi0 hz0 hz1 hz2 rfl (by decide) _ (t.length + 1 + k) (((c :: t) ++ List.replicate k 128).map u8V) rfl (xac HO1.out _) ⟨wr.heap.size, 0, none⟩ 1 1 [.int .u8 128] rfl rfl (by exact xak _ [_] _) (by simp [Value.oneCell']) (by decide) (by unfold maxLen; omega) (by omega) (by simp; omega) _ rfl ?_)
     intro g8 cap8 w8 hown8 hgrow8 hat8 hlt8
     have kg8 : xaa (fun b => b = q1) wr w8 := ((xaa.refl (fun b => b = q1) wr).alloc _).grown hgrow8 (fun b hb => Or.inl (Option.some.inj hb).symm)
     have HO2' : Hid (w8.ownsRow w.heap.size 5 1 (.slice (some ⟨q2, 0, none⟩) (t.length + 1 + k) cp2) (t.length + 1 + k) (((c :: t) ++ List.replicate k 191).map u8V)) := xmA (xae HO2.out kg8 (fun b hb e => hb12 ((show b = q1 from e).symm.trans (show q2 = b from Option.some.inj hb).symm)))
     have HO8 := xmA hown8
     have hs8 := kg8.size
     have Hq1 := xab HO1.out q1 rfl
     have Hq2 := xab HO2.out q2 rfl
     have HK8 : Hid (xaa (fun _ => False) w w8) := xmA (HK.out.trans2 kg8 (fun i hi e => by omega))
     have h8 : g8 = q1 ∨ wr.heap.size < g8 := by
      rcases hat8 with e | e
      · exact Or.inl (Option.some.inj e).symm
      right; omega
     clear hown8 hgrow8 hat8 kg8
     go_wp2_with (at_builtin; refine wpList_append_lies _ rfl (.tmp 32) (.tmp 33) 22 rfl w.heap.size 5 i0 _ 1 1 Tryz.underlying22 hi0 hz0 hz1 hz2 rfl (by decide) _ (t.length + 1 + k) (((c :: t) ++ List.replicate k 191).map u8V) rfl (xac HO2'.out _) ⟨w8.heap.size, 0, none⟩ 1 1 [.int .u8 191] rfl rfl (by exact xak _ [_] _) (by simp [Value.oneCell']) (by decide) (by unfold maxLen; omega) (by omega) (by simp; omega) _ rfl ?_)
     intro g9 cap9 w9 hown9 hgrow9 hat9 hlt9
     have kg9 : xaa (fun b => b = q2) w8 w9 := ((xaa.refl (fun b => b = q2) w8).alloc _).grown hgrow9 (fun b hb => Or.inl (Option.some.inj hb).symm)
     have hs9 := kg9.size
     have h9 : g9 = q2 ∨ w8.heap.size < g9 := by
      rcases hat9 with e | e
      · exact Or.inl (Option.some.inj e).symm
      right; omega
     have hrow : ∀ x : UInt8, ((c :: t) ++ List.replicate (k + 1) x).map u8V = u8V c :: (t.map u8V ++ (List.replicate k (u8V x) ++ [u8V x])) := fun x => by simp [List.replicate_succ']
     have hlen1 : ∀ x : UInt8, ((c :: t) ++ List.replicate (k + 1) x).length = t.length + 1 + k + 1 := fun x => by simp; omega
     have HP8 : Hid (OwnB w.heap.size w9 (.slice (some ⟨g8, 0, none⟩) (t.length + 1 + k + 1) cap8) ((c :: t) ++ List.replicate (k + 1) 128)) := xmA (by
      have := xae HO8.out kg9 (fun b hb e => by have := (show g8 = b from Option.some.inj hb); have e' : b = q2 := e; omega)
      unfold OwnB; rw [hlen1, hrow]; exact this)
     have HP9 : Hid (OwnB w.heap.size w9 (.slice (some ⟨g9, 0, none⟩) (t.length + 1 + k + 1) cap9) ((c :: t) ++ List.replicate (k + 1) 191)) := xmA (by
      unfold OwnB; rw [hlen1, hrow]; exact hown9)
     have HK9 : Hid (xaa (fun _ => False) w w9) := xmA (HK8.out.trans2 kg9 (fun i hi e => by omega))
     clear hown9 hgrow9 hat9 kg9
     go_wp2_with fail
     go_roundw
     case rel => exact ⟨k + 1, g8, g9, by simp; omega, HP8.out, HP9.out, rfl, rfl, by omega, by omega, hlt9, HK9.out⟩
     case measure => simp [lenV]; omega
   obtain rfl : k = n - (t.length + 1) := by simp at hk; omega
   have e1 : t.length + 1 + (n - (t.length + 1)) = n := by omega
   rw [e1] at hcp1 hcp2
   have HG1 := xmA (xcD q1 0 cp1 n c (t ++ List.replicate (n - (t.length + 1)) 128) wr (by simp; omega) hcp1 (fun i x hx => hq1 i x (by rw [List.cons_append]; exact hx)))
   have HG2 := xmA (fun W (K : xaa (fun _ => False) wr W) => xcD q2 0 cp2 n c (t ++ List.replicate (n - (t.length + 1)) 191) W (by simp; omega) hcp2 (fun i x hx => K.cell (hq2 i x (by rw [List.cons_append]; exact hx)) id))
   rw [e1]
   have HR' := HR
   clear hq1 hq2 HR hlen HO1 HO2
   generalize getP (c :: (t ++ List.replicate (n - (t.length + 1)) 128)) = G1 at *
   generalize getP (c :: (t ++ List.replicate (n - (t.length + 1)) 191)) = G2 at *
   obtain ⟨y1, z1⟩ := G1
   obtain ⟨y2, z2⟩ := G2
   have HE : Hid (r = ((z1 == n) || (z2 == n))) := HR'
   clear HR' hnk e1 hk
   by_cases hz : z1 = n
   · have gz : ((z1 : Int) == (n : Int)) = true := by simp; omega
     have HE' : Hid (r = true) := xmA (by rw [HE.out]; simp [hz])
     clear hz HE
     go_wp2_with fail
     refine HG1.out.mono ?_
     rintro e w4 ⟨rfl, rfl⟩
     go_wp2_with fail
     refine (HG2.out _ (xaa.refl _ _)).mono ?_
     rintro e w4 ⟨rfl, rfl⟩
     go_wp2_with fail
     go_ret
     exact ⟨by rw [HE'.out]; rfl, HK.out⟩
   have gz : ((z1 : Int) == (n : Int)) = false := by rw [beq_eq_false_iff_ne]; omega
   have HE' : Hid (r = ((z2 : Int) == (n : Int))) := xmA (by rw [HE.out]; rw [Bool.eq_iff_iff]; simp [hz]; omega)
   clear hz HE
   go_wp2_with fail
   refine HG1.out.mono ?_
   rintro e w4 ⟨rfl, rfl⟩
   go_wp2_with fail
   refine (HG2.out _ (xaa.refl _ _)).mono ?_
   rintro e w4 ⟨rfl, rfl⟩
   go_wp2_with fail
   go_ret
   exact ⟨by rw [HE'.out]; rfl, HK.out⟩
theorem two_any (kind : Int) (w : World) (hk : kind = 2 ∨ kind = 3) : Calls Tryz.prog 183 #[.int .i64 kind] w fun e w' => e = .returned (.bool true) ∧ w = w' := by
 rcases hk with rfl | rfl
 · go_enter Tryz.func183, Tryz.ntmps183
   go_wp2_with fail
   go_ret
   exact ⟨rfl, rfl⟩
 go_enter Tryz.func183, Tryz.ntmps183
 go_wp2_with fail
 go_ret
 exact ⟨rfl, rfl⟩
theorem xms (a b : Nat) (ha : a < 256) (hb : b < 256) : bits .or .i64 ((a : Int) * 256) (b : Int) = ((a * 256 + b : Nat) : Int) := by
 have e : (a : Int) * 256 = ((a * 256 : Nat) : Int) := by omega
 rw [e]
 show IntKind.i64.wrap ((BitVec.ofInt 64 ((a * 256 : Nat) : Int) ||| BitVec.ofInt 64 (b : Int)).toNat : Int) = _
 rw [BitVec.toNat_or, xb0 _ (by omega), xb0 _ (by omega)]
 have h := Nat.shiftLeft_add_eq_or_of_lt (i := 8) (show b < 2 ^ 8 by omega) a
 rw [Nat.shiftLeft_eq] at h
 rw [show a * 256 = a * 2 ^ 8 by omega, ← h, IntKind.wrap_i64]
 omega
def xcR (l : List Nat) : List Value := l.map fun (n : Nat) => Value.int .i64 (n : Int)
def UnR (kind : Int) (l : List UInt8) (base : Nat) (w0 : World) (ov iv : Value) (wr : World) : Prop :=
 ∃ (m : Nat) (acc : List Nat), iv = .int .i64 (m : Int) ∧ m ≤ l.length ∧ acc.length ≤ m ∧ wr.ownsRow base 3 1 ov acc.length (xcR acc) ∧ xaC kind l = acc ++ xaC kind (l.drop m) ∧ xaa (fun _ => False) w0 wr
set_option maxHeartbeats 8000000 in
theorem xjB {X : Nat} {w : World} {v : Value} {l : List UInt8} (kind : Int) (hk : kind = 2 ∨ kind = 3) (h : BS X w v l) (hl : l.length ≤ 100) :
 Calls Tryz.prog 154 #[.int .i64 kind, v] w fun e w' => ∃ u, e = .returned u ∧ w'.ownsRow w.heap.size 3 1 u (xaC kind l).length (xcR (xaC kind l)) ∧ xaa (fun _ => False) w w' := by
 obtain ⟨i0, hi0, hz0, hz1, hz2⟩ := info_parts xbM
 have H2 := xmA (fun W => two_any kind W hk)
 obtain ⟨a, cap, rfl, hcap, hcl⟩ := h
 have HCL := xmA hcl
 have Hk := xmA hk
 clear hcl hk
 go_enter Tryz.func154, Tryz.ntmps154
 go_wp2_with fail
 refine (H2.out _).mono ?_
 rintro e w1 ⟨rfl, rfl⟩
 go_wp2_with fail
 go_loopw [5, 6] (fun ov iv wr => UnR kind l w.heap.size w ov iv wr) (fun _ iv _ => l.length - (intOf iv).toNat)
 case atStart => exact ⟨0, [], rfl, Nat.zero_le _, Nat.zero_le _, World.ownsRow_nil _ _ _ _, rfl, xaa.refl _ _⟩
 case round =>
  obtain ⟨m, acc, rfl, hj, hacc, hO, hu, hkw⟩ := hrel
  have HO := xmA hO
  have HU := xmA hu
  have HK := xmA hkw
  have hsw := hkw.size
  obtain ⟨oa, oc, rfl⟩ := xad hO
  clear hO hu
  have hw1 : IntKind.i64.wrap ((m : Int) + 1) = (m : Int) + 1 := IntWalk.i64_in _ (by omega)
  by_cases hlt : m + 1 < l.length
  · obtain ⟨off, rfl, hcc⟩ := HCL.out (by intro e; rw [e] at hlt; simp at hlt)
    obtain ⟨x, hx⟩ : ∃ x, l[m]? = some x := ⟨_, List.getElem?_eq_getElem (by omega)⟩
    obtain ⟨y, hy⟩ : ∃ y, l[m + 1]? = some y := ⟨_, List.getElem?_eq_getElem hlt⟩
    have cx := hkw.cell (hcc _ _ hx) id
    have cy := hkw.cell (hcc _ _ hy) id
    have hd : l.drop m = x :: y :: l.drop (m + 2) := by
     obtain ⟨p1, p2⟩ := List.getElem?_eq_some_iff.1 hx
     obtain ⟨q1, q2⟩ := List.getElem?_eq_some_iff.1 hy
     rw [List.drop_eq_getElem_cons p1, p2, List.drop_eq_getElem_cons q1, q2]
    have hx8 := x.toNat_lt
    have hy8 := y.toNat_lt
    have HU2 : Hid (xaC kind l = (acc ++ [if kind = 2 then y.toNat * 256 + x.toNat else x.toNat * 256 + y.toNat]) ++ xaC kind (l.drop (m + 2))) := xmA (by rw [HU.out, hd, xdp]; simp)
    clear hd hcc HU hx hy hkw
    have hw2 : IntKind.i64.wrap ((m : Int) + 2) = (m : Int) + 2 := IntWalk.i64_in _ (by omega)
    have g0 : (m : Int) < (l.length : Int) := by omega
    have g1 : (m : Int) + 1 < (l.length : Int) := by omega
    rcases Hk.out with rfl | rfl
    · obtain ⟨U, hU⟩ : ∃ U, y.toNat * 256 + x.toNat = U := ⟨_, rfl⟩
      have ho := xms y.toNat x.toNat (by omega) (by omega)
      rw [hU] at ho
      have HUU : Hid (xaC 2 l = (acc ++ [U]) ++ xaC 2 (l.drop (m + 2))) := xmA (by rw [HU2.out, ← hU]; rfl)
      clear hU HU2
      go_wp2_with fail
      go_quiet (fail)
      go_wp2_with (at_builtin; refine wpList_append_lies _ rfl (.tmp 34) (.tmp 39) 23 rfl w.heap.size 3 i0 _ 1 8 Tryz.underlying23 hi0 hz0 hz1 hz2 rfl (by decide) _ acc.length (xcR acc) rfl (xac (xa0 HO.out _) _) ⟨wr.heap.size, 0, none⟩ 1 1 [.int .i64 (U : Int)] rfl rfl (by exact xak (wr.drewN _) [_] _) (by simp [Value.oneCell']) (by decide) (by unfold maxLen; omega) (by omega) (by simp; omega) _ rfl ?_)
      intro g9 cap9 w9 hown9 hgrow9 hat9 hlt9
      have HO9 : Hid (w9.ownsRow w.heap.size 3 1 (.slice (some ⟨g9, 0, none⟩) (acc.length + 1) cap9) (acc ++ [U]).length (xcR (acc ++ [U]))) := xmA (by
       have e1 : xcR (acc ++ [U]) = xcR acc ++ [.int .i64 (U : Int)] := by simp [xcR]
       rw [e1]; simpa using hown9)
      have kg : xaa (fun b => w.heap.size ≤ b) wr w9 := (((xaa.refl (fun b => w.heap.size ≤ b) wr).drawN _).alloc _).grown hgrow9 (fun b hb => Or.inl (xab HO.out b hb))
      have HK9 : Hid (xaa (fun _ => False) w w9) := xmA (HK.out.trans2 kg (fun i hi e => by omega))
      clear hown9 hgrow9 hat9 kg
      go_wp2_with fail
      go_roundw
      case rel => exact ⟨m + 2, acc ++ [U], by go_num, by omega, by simp; omega, HO9.out, HUU.out, HK9.out⟩
      case measure => simp [intOf]; omega
    obtain ⟨U, hU⟩ : ∃ U, x.toNat * 256 + y.toNat = U := ⟨_, rfl⟩
    have ho := xms x.toNat y.toNat (by omega) (by omega)
    rw [hU] at ho
    have HUU : Hid (xaC 3 l = (acc ++ [U]) ++ xaC 3 (l.drop (m + 2))) := xmA (by rw [HU2.out, ← hU]; rfl)
    clear hU HU2
    go_wp2_with fail
    go_quiet (fail)
    go_wp2_with (at_builtin; refine wpList_append_lies _ rfl (.tmp 34) (.tmp 39) 23 rfl w.heap.size 3 i0 _ 1 8 Tryz.underlying23 hi0 hz0 hz1 hz2 rfl (by decide) _ acc.length (xcR acc) rfl (xac (xa0 HO.out _) _) ⟨wr.heap.size, 0, none⟩ 1 1 [.int .i64 (U : Int)] rfl rfl (by exact xak (wr.drewN _) [_] _) (by simp [Value.oneCell']) (by decide) (by unfold maxLen; omega) (by omega) (by simp; omega) _ rfl ?_)
    intro g9 cap9 w9 hown9 hgrow9 hat9 hlt9
    have HO9 : Hid (w9.ownsRow w.heap.size 3 1 (.slice (some ⟨g9, 0, none⟩) (acc.length + 1) cap9) (acc ++ [U]).length (xcR (acc ++ [U]))) := xmA (by
     have e1 : xcR (acc ++ [U]) = xcR acc ++ [.int .i64 (U : Int)] := by simp [xcR]
     rw [e1]; simpa using hown9)
    have kg : xaa (fun b => w.heap.size ≤ b) wr w9 := (((xaa.refl (fun b => w.heap.size ≤ b) wr).drawN _).alloc _).grown hgrow9 (fun b hb => Or.inl (xab HO.out b hb))
    have HK9 : Hid (xaa (fun _ => False) w w9) := xmA (HK.out.trans2 kg (fun i hi e => by omega))
    clear hown9 hgrow9 hat9 kg
    go_wp2_with fail
    go_roundw
    case rel => exact ⟨m + 2, acc ++ [U], by go_num, by omega, by simp; omega, HO9.out, HUU.out, HK9.out⟩
    case measure => simp [intOf]; omega
  have hn : xaC kind (l.drop m) = [] := by
   have h1 : (l.drop m).length ≤ 1 := by rw [List.length_drop]; omega
   rcases hq : l.drop m with _ | ⟨x, _ | ⟨y, t⟩⟩
   · rfl
   · rfl
   rw [hq] at h1; simp at h1
  have HF : Hid (xaC kind l = acc) := xmA (by rw [HU.out, hn, List.append_nil])
  have g1 : decide ((m : Int) + 1 < (l.length : Int)) = false := by simp; omega
  clear hn HU
  go_wp2_with fail
  go_ret
  rw [HF.out]
  exact ⟨_, rfl, HO.out, HK.out⟩
def JoE (us : List Nat) (w : World) (e : Ending) (w' : World) : Prop := e = .returned (.tuple #[.int .i64 ((xa8 us).1 : Int), .int .i64 ((xa8 us).2 : Int)]) ∧ w' = w
theorem isB_u (u : Nat) (h : u < 65536) : isB (u : Int) = decide (u < 55296 ∨ 57344 ≤ u) := by
 rw [Bool.eq_iff_iff, xbV]
 simp
 omega
set_option maxHeartbeats 4000000 in
theorem xko (g cap n u : Nat) (t : List Nat) (w : World) (hn : Hid (n = t.length + 1)) (hcap : n ≤ cap) (ht : t.length ≤ 100) (hu : u < 65536) (hv : ∀ v ∈ t, v < 65536) (hc : ∀ (i x : Nat), (u :: t)[i]? = some x → w.cell? ⟨g, i, none⟩ = some (.int .i64 (x : Int))) :
 Calls Tryz.prog 155 #[.slice (some ⟨g, 0, none⟩) n cap] w (JoE (u :: t) w) := by
 have c0 : w.cell? ⟨g, 0, none⟩ = some (.int .i64 (u : Int)) := hc 0 u rfl
 have HI := xmA (fun W => xdd (u : Int) W)
 rw [isB_u u hu] at HI
 have gw : decide ((65536 : Int) ≤ (u : Int)) = false := by simp; omega
 have gn : ((n : Int) == 0) = false := by rw [beq_eq_false_iff_ne]; have := hn.out; omega
 have gn0 : (0 : Int) < (n : Int) := by have := hn.out; omega
 by_cases h1 : u < 55296 ∨ 57344 ≤ u
 · have HJ : Hid (xa8 (u :: t) = (u, 1)) := xmA (by
    cases t with
    | nil => simp only [xa8]; rw [if_neg (by omega)]
    | cons v t => simp only [xa8]; rw [if_neg (by omega), if_neg (by omega)])
   rw [decide_eq_true h1] at HI
   clear hc hv h1
   go_enter Tryz.func155, Tryz.ntmps155
   go_wp2_with fail
   refine (HI.out _).mono ?_
   rintro e w1 ⟨rfl, rfl⟩
   go_wp2_with fail
   refine (HI.out _).mono ?_
   rintro e w1 ⟨rfl, rfl⟩
   go_wp2_with fail
   go_ret2
   unfold JoE
   rw [HJ.out]
   exact ⟨rfl, rfl⟩
 rw [decide_eq_false h1] at HI
 by_cases h2 : 56320 ≤ u
 · have HJ : Hid (xa8 (u :: t) = (65533, 1)) := xmA (by
    cases t with
    | nil => simp only [xa8]; rw [if_pos (by omega)]
    | cons v t => simp only [xa8]; rw [if_pos (by omega)])
   have g1 : decide ((u : Int) < 55296) = false := by simp; omega
   have g2 : decide ((56320 : Int) ≤ (u : Int)) = true := by simp; omega
   clear hc hv h1 h2
   go_enter Tryz.func155, Tryz.ntmps155
   go_wp2_with fail
   refine (HI.out _).mono ?_
   rintro e w1 ⟨rfl, rfl⟩
   go_wp2_with fail
   go_ret2
   unfold JoE
   rw [HJ.out]
   exact ⟨rfl, rfl⟩
 have g1 : decide ((u : Int) < 55296) = false := by simp; omega
 have g2 : decide ((56320 : Int) ≤ (u : Int)) = false := by simp; omega
 cases t with
 | nil =>
  have HJ : Hid (xa8 [u] = (65533, 1)) := xmA (by simp only [xa8]; rw [if_pos (by omega)])
  have gn1 : ((n : Int) == 1) = true := by rw [hn.out]; rfl
  clear hc hv h1 h2
  go_enter Tryz.func155, Tryz.ntmps155
  go_wp2_with fail
  refine (HI.out _).mono ?_
  rintro e w1 ⟨rfl, rfl⟩
  go_wp2_with fail
  refine (HI.out _).mono ?_
  rintro e w1 ⟨rfl, rfl⟩
  go_wp2_with fail
  go_ret2
  unfold JoE
  rw [HJ.out]
  exact ⟨rfl, rfl⟩
 | cons v t =>
  have c1 : w.cell? ⟨g, 1, none⟩ = some (.int .i64 (v : Int)) := hc 1 v rfl
  have hv' := hv v (by simp)
  have gn1 : ((n : Int) == 1) = false := by rw [beq_eq_false_iff_ne]; have := hn.out; simp at this; omega
  have gx1 : (1 : Int) < (n : Int) := by have := hn.out; simp at this; omega
  by_cases h3 : v < 56320
  · have HJ : Hid (xa8 (u :: v :: t) = (65533, 1)) := xmA (by simp only [xa8]; rw [if_neg (by omega), if_pos (by omega), if_pos (by omega)])
    have g3 : decide ((v : Int) < 56320) = true := by simp; omega
    clear hc hv h1 h2 h3
    go_enter Tryz.func155, Tryz.ntmps155
    go_wp2_with fail
    refine (HI.out _).mono ?_
    rintro e w1 ⟨rfl, rfl⟩
    go_wp2_with fail
    refine (HI.out _).mono ?_
    rintro e w1 ⟨rfl, rfl⟩
    go_wp2_with fail
    go_ret2
    unfold JoE
    rw [HJ.out]
    exact ⟨rfl, rfl⟩
  by_cases h4 : 57344 ≤ v
  · have HJ : Hid (xa8 (u :: v :: t) = (65533, 1)) := xmA (by simp only [xa8]; rw [if_neg (by omega), if_pos (by omega), if_pos (by omega)])
    have g3 : decide ((v : Int) < 56320) = false := by simp; omega
    have g4 : decide ((57344 : Int) ≤ (v : Int)) = true := by simp; omega
    clear hc hv h1 h2 h3 h4
    go_enter Tryz.func155, Tryz.ntmps155
    go_wp2_with fail
    refine (HI.out _).mono ?_
    rintro e w1 ⟨rfl, rfl⟩
    go_wp2_with fail
    refine (HI.out _).mono ?_
    rintro e w1 ⟨rfl, rfl⟩
    go_wp2_with fail
    go_ret2
    unfold JoE
    rw [HJ.out]
    exact ⟨rfl, rfl⟩
  have HJ : Hid (xa8 (u :: v :: t) = (65536 + (u - 55296) * 1024 + (v - 56320), 2)) := xmA (by simp only [xa8]; rw [if_neg (by omega), if_pos (by omega), if_neg (by omega)])
  have g3 : decide ((v : Int) < 56320) = false := by simp; omega
  have g4 : decide ((57344 : Int) ≤ (v : Int)) = false := by simp; omega
  have hw1 : IntKind.i64.wrap ((u : Int) - 55296) = (u : Int) - 55296 := IntWalk.i64_in _ (by omega)
  have hw2 : IntKind.i64.wrap (((u : Int) - 55296) * 1024) = ((u : Int) - 55296) * 1024 := IntWalk.i64_in _ (by omega)
  have hw3 : IntKind.i64.wrap (65536 + ((u : Int) - 55296) * 1024) = 65536 + ((u : Int) - 55296) * 1024 := IntWalk.i64_in _ (by omega)
  have hw4 : IntKind.i64.wrap (65536 + ((u : Int) - 55296) * 1024 + (v : Int)) = 65536 + ((u : Int) - 55296) * 1024 + (v : Int) := IntWalk.i64_in _ (by omega)
  have hw5 : IntKind.i64.wrap (65536 + ((u : Int) - 55296) * 1024 + (v : Int) - 56320) = 65536 + ((u : Int) - 55296) * 1024 + (v : Int) - 56320 := IntWalk.i64_in _ (by omega)
  have HE : Hid (((65536 + (u - 55296) * 1024 + (v - 56320) : Nat) : Int) = 65536 + ((u : Int) - 55296) * 1024 + (v : Int) - 56320) := xmA (by omega)
  clear hc hv h1 h2 h3 h4
  go_enter Tryz.func155, Tryz.ntmps155
  go_wp2_with fail
  refine (HI.out _).mono ?_
  rintro e w1 ⟨rfl, rfl⟩
  go_wp2_with fail
  refine (HI.out _).mono ?_
  rintro e w1 ⟨rfl, rfl⟩
  go_wp2_with fail
  go_ret2
  unfold JoE
  rw [HJ.out]
  refine ⟨?_, rfl⟩
  rw [HE.out]; rfl
end Go.Proofs.YtjahiihmoglpfaaGreatDoor
