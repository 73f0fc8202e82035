/-
  Several texts in one: The reference's Copies at every tree. The reference's Compile; Light, Short, Right of the model's reference. match's threads: clear, put. (*crew).put. match.point, Places. match's crew. (*crew).longest. The walk of (*crew).longest. Printed by mk_lon.py. Places in a slice; match.behind. (*crew).first. match.begun, First. match.All. The parser's counted.
-/
import Derived.Test.YtbifklibdkjbeaaGreatDoorMg15
import Derived.Test.YtbifklibdkjbeaaGreatDoorMg1
import Derived.Deep.QuietTactic
import Derived.BigQuiet
import Derived.BigRegion
import Derived.Test.YtbifklibdkjbeaaGreatDoorMg13
import Derived.Test.YtbifklibdkjbeaaGreatDoorMg3
import Derived.Test.YtbifklibdkjbeaaGreatDoorPaEscG
import Derived.Lib.ConvBytes
import Derived.Test.YtbifklibdkjbeaaGreatDoorMg5
import Derived.Deep.RegionWith
import Derived.Deep.RegionHeld3
import Derived.Handy
import Derived.Laws.MakeOwn
import Derived.Deep.AppendLies
namespace Go.Proofs.YtbifklibdkjbeaaGreatDoor
open Go.RowKit
set_option linter.unusedVariables false
set_option linter.unusedSimpArgs false
set_option maxRecDepth 100000
set_option maxHeartbeats 8000000
def RcoR (L : List T) (q : List Nat) (w : World) (iv av : Value) (wr : World) : Prop := ∃ i : Nat, iv = .int .i64 i ∧ i ≤ L.length ∧ av = .int .i64 (xar (1 + xau (q.take i)) : Nat) ∧ xa (fun _ => False) w wr
theorem cap_add (x n : Nat) : (if (1099511627776 : Int) < (xar x : Int) + (n : Int) then (1099511627776 : Int) else (xar x : Int) + (n : Int)) = (xar (x + n) : Nat) := by
 unfold xar
 split <;> omega
theorem xmr (P : Nat) : (if (1099511627776 : Int) < (P : Int) then (1099511627776 : Int) else (P : Int)) = (xar P : Nat) := by
 unfold xar
 split <;> omega
theorem xmX (t : T) (q : List Nat) (hW : WGn t) (hq : q.length = t.kids.toL.length) (hB : ∀ n ∈ q, n ≤ 1099511627776) (ih : ∀ (i : Nat) (k : T) (n : Nat), t.kids.toL[i]? = some k → q[i]? = some n → xhs k n) : ∃ n : Nat, n ≤ 1099511627776 ∧ xhs t n := by
 obtain ⟨⟨_, hL4⟩, hops⟩ := hW
 have HOps : Hid (t.op = 0 ∨ t.op = 1 ∨ t.op = 2 ∨ t.op = 3 ∨ t.op = 4 ∨ (t.op = 5 ∧ 0 < t.kids.toL.length) ∨ (t.op = 6 ∧ (0 ≤ t.mn ∧ t.mn ≤ 1000) ∧ (-1 ≤ t.mx ∧ t.mx ≤ 1000) ∧ (t.mx < 0 ∨ t.mn ≤ t.mx))) := xoo (by
  rcases hops with h | h | h | h | h | h | ⟨h, _, h2, h3, h4⟩
  · exact Or.inl h
  · exact Or.inr (Or.inl h)
  · exact Or.inr (Or.inr (Or.inl h))
  · exact Or.inr (Or.inr (Or.inr (Or.inl h)))
  · exact Or.inr (Or.inr (Or.inr (Or.inr (Or.inl h))))
  · exact Or.inr (Or.inr (Or.inr (Or.inr (Or.inr (Or.inl h)))))
  exact Or.inr (Or.inr (Or.inr (Or.inr (Or.inr (Or.inr ⟨h, h2, h3, h4⟩))))))
 obtain ⟨S, hS⟩ : ∃ S, xar (1 + xau q) = S := ⟨_, rfl⟩
 have hS0 : S ≤ 1099511627776 := by rw [← hS]; exact xb0 _
 have HSS := xoo hS
 have HB := xoo hB
 have HQ := xoo hq
 have IH := xoo ih
 clear hops hS hB hq ih
 refine ⟨if t.op = 6 then (if t.mn + 1 < t.mx then xar (S * t.mx.toNat) else xar (S * (t.mn.toNat + 1))) else S, ?_, ?_⟩
 · split
   · split <;> exact xb0 _
   exact hS0
 intro P v w ht
 obtain ⟨a1, n1, c1, a2, c2, e1, e2, hl, hc⟩ := ht.krow
 have o1 : v.op = t.op := ht.op
 have o2 : v.mn = t.mn := ht.mn
 have o3 : v.mx = t.mx := ht.mx
 obtain ⟨vo, vsv, vm, vx, vk⟩ := v
 obtain rfl := e1
 obtain rfl := e2
 simp only at o1 o2 o3
 subst o1
 subst o2
 subst o3
 generalize t.op = op at *
 generalize t.mn = mn at *
 generalize t.mx = mx at *
 generalize t.kids.toL = L at *
 have HC := xoo hc
 clear hl hc ht
 show Calls Tryz.prog 75 #[.agg #[.int .i64 op, .slice a1 n1 c1, .int .i64 mn, .int .i64 mx, .slice a2 L.length c2]] w _
 go_enter Tryz.func75, Tryz.ntmps75
 go_wp2_with fail
 obtain ⟨wb, hwb⟩ : ∃ W, W = w.alloc (.cells #[.int .i64 op, .slice a1 n1 c1, .int .i64 mn, .int .i64 mx, .slice a2 L.length c2] 154) := ⟨_, rfl⟩
 have hKB : xa (fun _ => False) w wb := by rw [hwb]; exact (xa.refl _ _).alloc _
 have b0 : wb.cell? ⟨w.heap.size, 0, none⟩ = some (.int .i64 op) := by rw [hwb]; simp [go_sem]
 have b2 : wb.cell? ⟨w.heap.size, 2, none⟩ = some (.int .i64 mn) := by rw [hwb]; simp [go_sem]
 have b3 : wb.cell? ⟨w.heap.size, 3, none⟩ = some (.int .i64 mx) := by rw [hwb]; simp [go_sem]
 have b4 : wb.cell? ⟨w.heap.size, 4, none⟩ = some (.slice a2 L.length c2) := by rw [hwb]; simp [go_sem]
 rw [← hwb]
 clear hwb
 have KB := xoo hKB
 have B0 := xoo b0
 have B2 := xoo b2
 have B3 := xoo b3
 have B4 := xoo b4
 clear hKB b0 b2 b3 b4
 go_loopw [4, 3] (fun iv av wr => RcoR L q wb iv av wr) (fun iv _ _ => L.length - (intOf iv).toNat)
 case atStart => exact ⟨0, rfl, Nat.zero_le _, by rw [List.take_zero]; rfl, xa.refl _ _⟩
 case round =>
  obtain ⟨i, rfl, hi, rfl, hk⟩ := hrel
  have K := xoo hk
  clear hk
  by_cases hil : i < L.length
  · obtain ⟨k, hki⟩ : ∃ k, L[i]? = some k := ⟨_, List.getElem?_eq_getElem hil⟩
    obtain ⟨n, hni⟩ : ∃ n, q[i]? = some n := ⟨_, List.getElem?_eq_getElem (by rw [HQ.out]; exact hil)⟩
    obtain ⟨b, off, uo, d1, f1, g1, um, ux, d2, f2, g2, rfl, hu, hlt, x0, x1, x2, x3, x4⟩ := (HC.out.keep (KB.out.trans K.out)).at hki
    have HS : Hid (∀ W, xa (fun _ => False) wr W → Calls Tryz.prog 75 #[.agg #[.int .i64 uo, .slice d1 f1 g1, .int .i64 um, .int .i64 ux, .slice d2 f2 g2]] W fun e w' => e = .returned (.int .i64 (n : Int)) ∧ xa (fun _ => False) W w') := xoo (fun W kW =>
     IH.out i k n hki hni P ⟨uo, .slice d1 f1 g1, um, ux, .slice d2 f2 g2⟩ W (hu.keepsTo kW (fun _ _ => id) (fun _ h => h)))
    have hS1 := xcZ hni
    have q1 := xb0 (1 + xau (q.take i))
    have q2 : n ≤ 1099511627776 := HB.out n (List.mem_of_getElem? hni)
    have b4 := K.out.cell B4.out id
    have hz := cap_add (1 + xau (q.take i)) n
    rw [Nat.add_assoc, ← hS1] at hz
    have hm2 := fun W => xgS W ((xar (1 + xau (q.take i)) : Nat) + (n : Int)) 1099511627776
    generalize xar (1 + xau (q.take i)) = X at *
    obtain ⟨Z, hZ⟩ : ∃ Z, (if (1099511627776 : Int) < (X : Int) + (n : Int) then (1099511627776 : Int) else (X : Int) + (n : Int)) = Z := ⟨_, rfl⟩
    rw [hZ] at hm2 hz
    have HZ := xoo hz
    clear hki hu hni hS1 hZ hz
    go_wp2_with fail
    refine (HS.out _ (KI.out)).mono ?_
    rintro e w2 ⟨rfl, k2⟩
    have K2 : Hid (xa (fun _ => False) wb w2) := xoo (K.out.trans (xa.trans (KI.out) k2))
    clear k2
    go_wp2_with fail
    go_roundw
    case rel => exact ⟨i + 1, by go_num, by omega, by rw [HZ.out], K2.out⟩
    case measure => simp [intOf]; omega
  have he : i = L.length := by omega
  subst he
  have b0 := K.out.cell B0.out id
  have b2 := K.out.cell B2.out id
  have b3 := K.out.cell B3.out id
  have b4 := K.out.cell B4.out id
  have hsz : w.heap.size < wr.heap.size := xay b0
  have KE := xoo (KB.out.trans K.out)
  rw [List.take_of_length_le (by rw [HQ.out]; exact Nat.le_refl _), HSS.out]
  clear K B0 B2 B3 B4 KB
  have HO := HOps.out
  by_cases h6 : op = 6
  · subst h6
    have hmm : (0 ≤ mn ∧ mn ≤ 1000) ∧ (-1 ≤ mx ∧ mx ≤ 1000) := by
     rcases HO with h | h | h | h | h | ⟨h, _⟩ | ⟨_, h1, h2, _⟩
     all_goals first | exact ⟨h1, h2⟩ | exact absurd h (by decide)
    obtain ⟨hm1, hm3⟩ := hmm
    obtain ⟨a, rfl⟩ : ∃ a : Nat, mn = (a : Int) := ⟨mn.toNat, by omega⟩
    by_cases hm : (a : Int) + 1 < mx
    · have g1 : decide ((a : Int) + 1 < mx) = true := by simpa using hm
      obtain ⟨d, rfl⟩ : ∃ d : Nat, mx = (d : Int) := ⟨mx.toNat, by omega⟩
      obtain ⟨P1, hP1⟩ : ∃ P1, S * d = P1 := ⟨_, rfl⟩
      have hb1 : P1 ≤ 1200000000000000 := by rw [← hP1, Nat.mul_comm]; exact xdm _ S (by omega) (by omega)
      have hw1 : IntKind.i64.wrap ((S : Int) * (d : Int)) = (P1 : Int) := by
       rw [show (S : Int) * (d : Int) = (P1 : Int) by rw [← hP1]; push_cast; rfl]
       exact IntWalk.i64_in _ (by omega)
      have hm2 := fun W => xgS W (P1 : Int) 1099511627776
      rw [xmr] at hm2
      have HP := xoo hP1
      clear hP1 HO
      go_wp2_with fail
      go_ret
      exact ⟨by simp [hm, HP.out], KE.out⟩
    have g1 : decide ((a : Int) + 1 < mx) = false := by simpa using hm
    obtain ⟨P1, hP1⟩ : ∃ P1, S * (a + 1) = P1 := ⟨_, rfl⟩
    have hb1 : P1 ≤ 1200000000000000 := by rw [← hP1, Nat.mul_comm]; exact xdm _ S (by omega) (by omega)
    have hw1 : IntKind.i64.wrap ((S : Int) * ((a : Int) + 1)) = (P1 : Int) := by
     rw [show (S : Int) * ((a : Int) + 1) = (P1 : Int) by rw [← hP1]; push_cast; rfl]
     exact IntWalk.i64_in _ (by omega)
    have hm2 := fun W => xgS W (P1 : Int) 1099511627776
    rw [xmr] at hm2
    have HP := xoo hP1
    clear hP1 HO
    go_wp2_with fail
    go_ret
    exact ⟨by simp [hm, HP.out], KE.out⟩
  have g6 : (op == 6) = false := by simpa using h6
  clear HO
  go_wp2_with fail
  go_ret
  exact ⟨by simp [h6], KE.out⟩
def RPar (l : List UInt8) (r : T × Int) : Prop := ∀ W, Calls Tryz.prog 77 #[.string ⟨l.toArray⟩] W fun e w' => ∃ v : NV, e = .returned (.tuple #[v.val, .int .i64 r.2]) ∧ TAt w' (fun _ => True) v r.1 ∧ xa (fun _ => False) W w'
def RCoE (t : T) (c : Int) (W : World) (e : Ending) (w' : World) : Prop := ∃ p, e = .returned (.tuple #[.pointer p, .int .i64 c]) ∧ xa (fun _ => False) W w' ∧
 (c = 0 → ∃ eb o a1 n1 c1 m x a2 n2 cc2, p = some ⟨eb, 0, none⟩ ∧ w'.heap[eb]? = some (.cells #[.int .i64 o, .slice a1 n1 c1, .int .i64 m, .int .i64 x, .slice a2 n2 cc2] 156 (0, 0)) ∧ TAt w' (fun _ => True) ⟨o, .slice a1 n1 c1, m, x, .slice a2 n2 cc2⟩ t)
def RCo (l : List UInt8) (t : T) (c : Int) : Prop := ∀ W, Calls Tryz.prog 43 #[.string ⟨l.toArray⟩] W (RCoE t c W)
theorem xkY (l : List UInt8) (t : T) (c : Int) (hP : RPar l (t, c)) (hc : c ≠ 0) : RCo l t c := by
 intro w
 unfold RPar at hP
 have HP := xoo hP
 have g0 : (c != 0) = true := by simp [hc]
 have HE : Hid (c = 0 → False) := xoo hc
 clear hP hc
 go_enter Tryz.func43, Tryz.ntmps43
 go_wp2_with fail
 refine (HP.out _).mono ?_
 rintro e w2 ⟨v, rfl, hv, k2⟩
 obtain ⟨o, a1, n1, c1, m, x, a2, n2, cc2, rfl⟩ := NV.form hv
 have K2 := xoo k2
 clear hv k2 HP
 unfold NV.val
 go_wp2_with fail
 go_ret2
 exact ⟨none, rfl, xa.trans K2.out (KI.out), fun h => (HE.out h).elim⟩
theorem xkX (l : List UInt8) (t : T) (n : Nat) (hP : RPar l (t, 0)) (hn : n ≤ 1099511627776) (hL : xhr t n) : RCo l t (if 2000 ≤ n then 16 else 0) := by
 intro w
 obtain ⟨c, hc⟩ : ∃ c : Int, (if 2000 ≤ n then 16 else 0) = c := ⟨_, rfl⟩
 rw [hc]
 have HCc := xoo hc
 clear hc
 unfold RPar at hP
 have HP := xoo hP
 have HL := xoo hL
 unfold xhr at HL
 clear hP hL
 go_enter Tryz.func43, Tryz.ntmps43
 go_wp2_with fail
 refine (HP.out _).mono ?_
 rintro e w2 ⟨v, rfl, hv, k2⟩
 obtain ⟨o, a1, n1, c1, m, x, a2, n2, cc2, rfl⟩ := NV.form hv
 have HC := xoo (fun W (K : xa (fun _ => False) w2 W) => HL.out (fun _ => True) ⟨o, .slice a1 n1 c1, m, x, .slice a2 n2 cc2⟩ W (hv.keepsTo K (fun _ _ => id) (fun _ _ => trivial)))
 have HV := xoo hv
 have K2 := xoo k2
 clear hv k2 HP
 unfold NV.val at HC ⊢
 go_wp2_with fail
 obtain ⟨wa, hwa⟩ : ∃ W, w2.alloc (.cells #[.int .i64 o, .slice a1 n1 c1, .int .i64 m, .int .i64 x, .slice a2 n2 cc2] 154) = W := ⟨_, rfl⟩
 have hKA : xa (fun _ => False) w2 wa := by rw [← hwa]; exact (xa.refl _ _).alloc _
 have b0 : wa.cell? ⟨w2.heap.size, 0, none⟩ = some (.int .i64 o) := by rw [← hwa]; simp [go_sem]
 have b1 : wa.cell? ⟨w2.heap.size, 1, none⟩ = some (.slice a1 n1 c1) := by rw [← hwa]; simp [go_sem]
 have b2 : wa.cell? ⟨w2.heap.size, 2, none⟩ = some (.int .i64 m) := by rw [← hwa]; simp [go_sem]
 have b3 : wa.cell? ⟨w2.heap.size, 3, none⟩ = some (.int .i64 x) := by rw [← hwa]; simp [go_sem]
 have b4 : wa.cell? ⟨w2.heap.size, 4, none⟩ = some (.slice a2 n2 cc2) := by rw [← hwa]; simp [go_sem]
 rw [hwa]
 clear hwa
 refine (HC.out _ hKA).mono ?_
 rintro e w3 ⟨rfl, k3⟩
 have b0 := k3.cell b0 id
 have b1 := k3.cell b1 id
 have b2 := k3.cell b2 id
 have b3 := k3.cell b3 id
 have b4 := k3.cell b4 id
 have HV3 := xoo (HV.out.keepsTo (hKA.trans k3) (fun _ _ => id) (fun _ h => h))
 have K3 := xoo (K2.out.trans (hKA.trans k3))
 have hs3 : w.heap.size ≤ w3.heap.size := K3.out.size
 clear hKA k3 K2 HV HC HL
 by_cases hb : 2000 ≤ n
 · have g1 : decide ((2000 : Int) ≤ (n : Int)) = true := by simp; omega
   obtain rfl : (16 : Int) = c := by rw [← HCc.out, if_pos hb]
   go_wp2_with fail
   go_ret2
   exact ⟨none, rfl, K3.out, fun h => absurd h (by decide)⟩
 have g1 : decide ((2000 : Int) ≤ (n : Int)) = false := by simp; omega
 obtain rfl : (0 : Int) = c := by rw [← HCc.out, if_neg hb]
 go_wp2_with fail
 go_ret2
 refine ⟨_, rfl, K3.out.alloc _, fun _ => ⟨_, o, a1, n1, c1, m, x, a2, n2, cc2, rfl, heap_alloc_new w3 _, HV3.out.keepsTo (xa.alloc (xa.refl (fun _ => False) _) _) (fun _ _ => id) (fun _ h => h)⟩⟩


def plcP : Nat → List UInt8 → Nat → List Nat
 | 0, _, _ => []
 | f + 1, l, a => match l with
  | [] => []
  | c :: t => (a + (getP (c :: t)).2) :: plcP f ((c :: t).drop (getP (c :: t)).2) (a + (getP (c :: t)).2)
def places (l : List UInt8) : List Nat := 0 :: plcP l.length l 0







theorem xnH (rs : List Int) (s : PS) (h : ∀ r ∈ rs, 0 ≤ r ∧ r ≤ 1114111) : in64 (cntV rs s).1 ∧ in64 (cntV rs s).2.1 := by
 have hn : ∀ s', in64 (numN rs s') := fun s' => by have := xhN rs s' h; unfold in64; omega
 have h0 : in64 (-1) := by unfold in64; decide
 have h1 : in64 1 := by unfold in64; decide
 unfold cntV
 repeat' split
 · exact ⟨xbr, h1⟩
 · exact ⟨h1, h0⟩
 · exact ⟨xbr, h0⟩
 · refine ⟨hn _, ?_⟩
   unfold brB
   repeat' split
   · exact h0
   · exact hn _
   exact hn _
 exact ⟨xbr, xbr⟩
theorem xh2 {f : PS → T × PS} {rs : List Int} {C D : PS → Prop} (H : xmE f rs C D) (w : World) (pb : Nat) (rv : Value) (s : PS) (h : PaAt w pb rv rs s) (hi : Inv rs s) (hd : D s) (hr : 0 ≤ pk rs s) :
 Calls Tryz.prog 195 #[.pointer (some ⟨pb, 0, none⟩)] w (xda w pb rv rs (xak f rs s)) := by
 have hpb := h.lt
 have hlen := H.len
 have hag := xja H.go hr
 have hpos := hag.2.2.a
 have HP := xoo (fun (W : World) (hW : PaAt W pb rv rs s) => xbY W pb rv rs s hW)
 have HA := xoo (fun (W : World) (hW : PaAt W pb rv rs s) => (xnR H W pb rv s hW hi hd hr : Calls Tryz.prog 218 #[.pointer (some ⟨pb, 0, none⟩)] W (xda W pb rv rs (xav f rs s))))
 have hrg := xk7 h
 obtain ⟨s1, hs1⟩ : ∃ x, (xav f rs s).2 = x := ⟨_, rfl⟩
 obtain ⟨t1, ht1⟩ : ∃ x, (xav f rs s).1 = x := ⟨_, rfl⟩
 rw [hs1] at hpos
 have HH := xoo h
 have HC := xoo (fun (W : World) (hW : PaAt W pb rv rs s1) => xjK W pb rv rs s1 hW (by omega))
 have hcv := xnH rs s1 h.rng
 obtain ⟨cmn, cmx, cok, hcV⟩ : ∃ a b c, cntV rs s1 = (a, b, c) := ⟨_, _, _, rfl⟩
 rw [hcV] at hcv HC
 have Hcv := xoo hcv
 have E : Hid (xak f rs s = if cok then (⟨6, [], cmn, cmx, F.ofL [t1]⟩, ⟨(cntS rs s1).pos, (cntS rs s1).deep, (cntS rs s1).bad || (decide (pk rs s = 94) || decide (pk rs s = 36))⟩) else (t1, cntS rs s1)) := xoo (by
  unfold xak; rw [hs1, ht1, hcV])
 unfold xdx at HA
 rw [show xav f rs s = (t1, s1) by rw [← hs1, ← ht1]] at HA
 rw [E.out]
 clear E
 obtain ⟨S2, hS2⟩ : ∃ x, cntS rs s1 = x := ⟨_, rfl⟩
 rw [hS2] at HC ⊢
 clear hS2 hs1 ht1 hcV h hi hd hag hcv
 generalize pk rs s = r at *
 simp only at HC
 have hcases : cok = false ∨ (cok = true ∧ S2.bad = true) ∨ (cok = true ∧ S2.bad = false ∧ r = 94) ∨ (cok = true ∧ S2.bad = false ∧ r ≠ 94 ∧ r = 36) ∨ (cok = true ∧ S2.bad = false ∧ r ≠ 94 ∧ r ≠ 36) := by
  cases cok <;> cases S2.bad <;> simp <;> omega
 rcases hcases with rfl | ⟨rfl, hb⟩ | ⟨rfl, hb, hr94⟩ | ⟨rfl, hb, hr94, hr36⟩ | ⟨rfl, hb, hr94, hr36⟩
 · simp only [Bool.false_eq_true, if_false]
   go_enter Tryz.func195, Tryz.ntmps195
   go_wp2_with fail
   refine (HP.out _ (HH.out.keepsF (KI.out))).mono ?_
   rintro e w2 ⟨rfl, k2⟩
   have hs2 := k2.size
   simp at hs2
   have K2 := xoo k2
   have P2 := xoo (HH.out.keepsF (xa.trans (KI.out) k2))
   clear k2
   go_wp2_with fail
   refine (HA.out _ P2.out).mono ?_
   rintro e w3 ⟨v, rfl, hv, h3, k3⟩
   obtain ⟨o, a1, n1, c1, m, x, a2, n2, cc2, rfl⟩ := NV.form hv
   have HV := xoo hv
   have P3 := xoo h3
   have hs3 := k3.size
   have K3 : Hid (xa (xaj pb) (w.alloc (.cells #[.int .i64 0, .slice none 0 0, .int .i64 0, .int .i64 0, .slice none 0 0] 154)) w3) := xoo ((K2.out.mono (fun _ _ e => e.elim)).trans k3)
   have hp3 := h3.lt
   clear hv h3 k3
   unfold NV.val
   go_wp2_with fail
   refine (HC.out _ (P3.out.keepsF (KI.out))).mono ?_
   rintro e w4 ⟨rfl, h4, k4⟩
   have hs4 := k4.size
   simp at hs4
   have x0 : w4.cell? ⟨w3.heap.size, 0, none⟩ = some (.int .i64 o) := k4.cell (by simp [go_sem]) (by show ¬ w3.heap.size = pb; omega)
   have x1 : w4.cell? ⟨w3.heap.size, 1, none⟩ = some (.slice a1 n1 c1) := k4.cell (by simp [go_sem]) (by show ¬ w3.heap.size = pb; omega)
   have x2 : w4.cell? ⟨w3.heap.size, 2, none⟩ = some (.int .i64 m) := k4.cell (by simp [go_sem]) (by show ¬ w3.heap.size = pb; omega)
   have x3 : w4.cell? ⟨w3.heap.size, 3, none⟩ = some (.int .i64 x) := k4.cell (by simp [go_sem]) (by show ¬ w3.heap.size = pb; omega)
   have x4 : w4.cell? ⟨w3.heap.size, 4, none⟩ = some (.slice a2 n2 cc2) := k4.cell (by simp [go_sem]) (by show ¬ w3.heap.size = pb; omega)
   have K34 : xa (xaj pb) w3 w4 := xa.trans (KI.out) k4
   have HV4 : Hid (TAt w4 (fun b => w.heap.size < b ∧ b < w3.heap.size) ⟨o, .slice a1 n1 c1, m, x, .slice a2 n2 cc2⟩ t1) := xoo (HV.out.keepsTo K34 (fun b hb e => by have e : b = pb := e; have := hb.1; omega) (fun b hb => ⟨by have := hb.1; omega, hb.2⟩))
   have K4 := xoo (K3.out.trans K34)
   have hc3 := h4.c3
   have hf3 := h4.fr 3
   have hp4 := h4.lt
   have P4 := xoo h4
   clear h4 k4 K34
   obtain ⟨⟨y0, y1, y2, y3, y4⟩, q0, q1, q2, q3, q4⟩ := xaz K4.out hpb
   go_wp2_with fail
   obtain ⟨wE, hWE⟩ : ∃ W, st5 (w4) w.heap.size (.int .i64 o) (.slice a1 n1 c1) (.int .i64 m) (.int .i64 x) (.slice a2 n2 cc2) = W := ⟨_, rfl⟩
   obtain ⟨r0, r1, r2, r3, r4, kE⟩ := xam (w4) w.heap.size y0 y1 y2 y3 y4 (.int .i64 o) (.slice a1 n1 c1) (.int .i64 m) (.int .i64 x) (.slice a2 n2 cc2)
   rw [hWE] at r0 r1 r2 r3 r4 kE
   unfold st5 at hWE
   rw [hWE]
   have HKE := xoo kE
   clear kE hWE y0 y1 y2 y3 y4
   refine bodyPost_ret (by simp [results, Tryz.results195, go_sem, r0, r1, r2, r3, r4]; try rfl) rfl ?_
   exact xaD (v := ⟨o, .slice a1 n1 c1, m, x, .slice a2 n2 cc2⟩) hpb HH.out.rb K4.out P4.out (HV4.out.keepsTo (xa.refl (fun _ => False) _) (fun _ _ => id) (fun b hb => ⟨hb.1, by omega⟩)) HKE.out
 · rw [if_pos rfl, hb, show (true || (decide (r = 94) || decide (r = 36))) = true from rfl]
   go_enter Tryz.func195, Tryz.ntmps195
   go_wp2_with fail
   refine (HP.out _ (HH.out.keepsF (KI.out))).mono ?_
   rintro e w2 ⟨rfl, k2⟩
   have hs2 := k2.size
   simp at hs2
   have K2 := xoo k2
   have P2 := xoo (HH.out.keepsF (xa.trans (KI.out) k2))
   clear k2
   go_wp2_with fail
   refine (HA.out _ P2.out).mono ?_
   rintro e w3 ⟨v, rfl, hv, h3, k3⟩
   obtain ⟨o, a1, n1, c1, m, x, a2, n2, cc2, rfl⟩ := NV.form hv
   have HV := xoo hv
   have P3 := xoo h3
   have hs3 := k3.size
   have K3 : Hid (xa (xaj pb) (w.alloc (.cells #[.int .i64 0, .slice none 0 0, .int .i64 0, .int .i64 0, .slice none 0 0] 154)) w3) := xoo ((K2.out.mono (fun _ _ e => e.elim)).trans k3)
   have hp3 := h3.lt
   clear hv h3 k3
   unfold NV.val
   go_wp2_with fail
   refine (HC.out _ (P3.out.keepsF (KI.out))).mono ?_
   rintro e w4 ⟨rfl, h4, k4⟩
   have hs4 := k4.size
   simp at hs4
   have x0 : w4.cell? ⟨w3.heap.size, 0, none⟩ = some (.int .i64 o) := k4.cell (by simp [go_sem]) (by show ¬ w3.heap.size = pb; omega)
   have x1 : w4.cell? ⟨w3.heap.size, 1, none⟩ = some (.slice a1 n1 c1) := k4.cell (by simp [go_sem]) (by show ¬ w3.heap.size = pb; omega)
   have x2 : w4.cell? ⟨w3.heap.size, 2, none⟩ = some (.int .i64 m) := k4.cell (by simp [go_sem]) (by show ¬ w3.heap.size = pb; omega)
   have x3 : w4.cell? ⟨w3.heap.size, 3, none⟩ = some (.int .i64 x) := k4.cell (by simp [go_sem]) (by show ¬ w3.heap.size = pb; omega)
   have x4 : w4.cell? ⟨w3.heap.size, 4, none⟩ = some (.slice a2 n2 cc2) := k4.cell (by simp [go_sem]) (by show ¬ w3.heap.size = pb; omega)
   have K34 : xa (xaj pb) w3 w4 := xa.trans (KI.out) k4
   have HV4 : Hid (TAt w4 (fun b => w.heap.size < b ∧ b < w3.heap.size) ⟨o, .slice a1 n1 c1, m, x, .slice a2 n2 cc2⟩ t1) := xoo (HV.out.keepsTo K34 (fun b hb e => by have e : b = pb := e; have := hb.1; omega) (fun b hb => ⟨by have := hb.1; omega, hb.2⟩))
   have K4 := xoo (K3.out.trans K34)
   have hc3 := h4.c3
   have hf3 := h4.fr 3
   have hp4 := h4.lt
   have P4 := xoo h4
   clear h4 k4 K34
   rw [hb] at hc3
   obtain ⟨wP, hwP⟩ : ∃ W, w4.setCell ⟨pb, 3, none⟩ (.bool true) = W := ⟨_, rfl⟩
   have P5 : Hid (PaAt wP pb rv rs ⟨S2.pos, S2.deep, true⟩) := xoo (hwP ▸ P4.out.setBad true)
   have k5 : xa (xaj pb) w4 wP := hwP ▸ (xa.refl (xaj pb) _).set (p := ⟨pb, 3, none⟩) rfl _
   have hs5 := k5.size
   have hszP : w4.heap.size = wP.heap.size := by rw [← hwP]; simp
   have K5 := xoo (K4.out.trans k5)
   obtain ⟨wS, hwS⟩ : ∃ W, wP.alloc (.cells #[.int .i64 o, .slice a1 n1 c1, .int .i64 m, .int .i64 x, .slice a2 n2 cc2] 154) = W := ⟨_, rfl⟩
   have k6 : xa (fun _ => False) wP wS := hwS ▸ (xa.refl _ _).alloc _
   have hs6 : wS.heap.size = wP.heap.size + 1 := by rw [← hwS]; simp
   have KX := xoo (K5.out.trans (k6.mono (T := xaj pb) (fun _ _ e => e.elim)))
   have HPX := xoo (P5.out.keepsF k6)
   have hT1 : TAt wS (fun b => w.heap.size < b ∧ b < wP.heap.size) ⟨o, .slice a1 n1 c1, m, x, .slice a2 n2 cc2⟩ t1 := HV4.out.keepsTo (k5.trans (k6.mono (fun _ _ e => e.elim))) (fun b hb e => by have e : b = pb := e; have := hb.1; omega) (fun b hb => ⟨hb.1, by have := hb.2; omega⟩)
   have hcell : ∀ j, j < 5 → wS.cell? ⟨w4.heap.size, 0 + 0 * 5 + j, none⟩ = some (encN ⟨o, .slice a1 n1 c1, m, x, .slice a2 n2 cc2⟩ j) := by
    intro j hj
    rw [hszP, ← hwS]
    match j, hj with
    | 0, _ => simp [go_sem, encN]
    | 1, _ => simp [go_sem, encN]
    | 2, _ => simp [go_sem, encN]
    | 3, _ => simp [go_sem, encN]
    | 4, _ => simp [go_sem, encN]
   have HTX : Hid (TAt wS (fun b => w.heap.size < b ∧ b < wS.heap.size) ⟨6, .slice none 0 0, cmn, cmx, .slice (some ⟨w4.heap.size, 0, none⟩) 1 1⟩ ⟨6, [], cmn, cmx, F.ofL [t1]⟩) := xoo ⟨rfl, rfl, rfl, Hcv.out.1, Hcv.out.2, ⟨SlOf.nil _ _ _, fun p hp => by cases hp⟩, fun b hb => by simp [Value.ownBlock] at hb,
    ⟨[⟨o, .slice a1 n1 c1, m, x, .slice a2 n2 cc2⟩], ⟨_, 1, rfl, ⟨by simp, (fun h => by cases h)⟩, by simp, fun _ => ⟨_, 0, rfl, fun i y hy j hj => by
     cases i with
     | zero => simp at hy; subst hy; exact hcell j hj
     | succ i => simp at hy⟩⟩,
    FAt.cons_iff.2 ⟨_, [], rfl, hT1.keepsTo (xa.refl (fun _ => False) _) (fun _ _ => id) (fun b hb => ⟨hb.1, by have := hb.2; omega⟩), rfl⟩⟩,
    fun b hb => by simp [Value.ownBlock] at hb; subst hb; omega⟩
   obtain ⟨⟨y0, y1, y2, y3, y4⟩, q0, q1, q2, q3, q4⟩ := xaz KX.out hpb
   have HWP := xoo hwP
   have HWS := xoo hwS
   rw [← hwS, ← hwP] at y0 y1 y2 y3 y4 q0 q1 q2 q3 q4
   have hne1 : ¬ (pb = w.heap.size) := by omega
   have hne2 : ¬ (w.heap.size = pb) := by omega
   clear k5 k6 hT1 hcell hwP hwS hszP hs5 hs6
   go_wp2_with fail
   rw [HWP.out, HWS.out]
   clear y0 y1 y2 y3 y4 q0 q1 q2 q3 q4
   obtain ⟨⟨y0, y1, y2, y3, y4⟩, q0, q1, q2, q3, q4⟩ := xaz KX.out hpb
   obtain ⟨wE, hWE⟩ : ∃ W, st5 (wS) w.heap.size (.int .i64 6) (.slice none 0 0) (.int .i64 cmn) (.int .i64 cmx) (.slice (some ⟨w4.heap.size, 0, none⟩) 1 1) = W := ⟨_, rfl⟩
   obtain ⟨r0, r1, r2, r3, r4, kE⟩ := xam (wS) w.heap.size y0 y1 y2 y3 y4 (.int .i64 6) (.slice none 0 0) (.int .i64 cmn) (.int .i64 cmx) (.slice (some ⟨w4.heap.size, 0, none⟩) 1 1)
   rw [hWE] at r0 r1 r2 r3 r4 kE
   unfold st5 at hWE
   rw [hWE]
   have HKE := xoo kE
   clear kE hWE y0 y1 y2 y3 y4
   refine bodyPost_ret (by simp [results, Tryz.results195, go_sem, r0, r1, r2, r3, r4]; try rfl) rfl ?_
   exact xaD (v := ⟨6, .slice none 0 0, cmn, cmx, .slice (some ⟨w4.heap.size, 0, none⟩) 1 1⟩) hpb HH.out.rb KX.out HPX.out HTX.out HKE.out
 · subst hr94
   rw [if_pos rfl, hb, show (false || (decide ((94 : Int) = 94) || decide ((94 : Int) = 36))) = true from rfl]
   go_enter Tryz.func195, Tryz.ntmps195
   go_wp2_with fail
   refine (HP.out _ (HH.out.keepsF (KI.out))).mono ?_
   rintro e w2 ⟨rfl, k2⟩
   have hs2 := k2.size
   simp at hs2
   have K2 := xoo k2
   have P2 := xoo (HH.out.keepsF (xa.trans (KI.out) k2))
   clear k2
   go_wp2_with fail
   refine (HA.out _ P2.out).mono ?_
   rintro e w3 ⟨v, rfl, hv, h3, k3⟩
   obtain ⟨o, a1, n1, c1, m, x, a2, n2, cc2, rfl⟩ := NV.form hv
   have HV := xoo hv
   have P3 := xoo h3
   have hs3 := k3.size
   have K3 : Hid (xa (xaj pb) (w.alloc (.cells #[.int .i64 0, .slice none 0 0, .int .i64 0, .int .i64 0, .slice none 0 0] 154)) w3) := xoo ((K2.out.mono (fun _ _ e => e.elim)).trans k3)
   have hp3 := h3.lt
   clear hv h3 k3
   unfold NV.val
   go_wp2_with fail
   refine (HC.out _ (P3.out.keepsF (KI.out))).mono ?_
   rintro e w4 ⟨rfl, h4, k4⟩
   have hs4 := k4.size
   simp at hs4
   have x0 : w4.cell? ⟨w3.heap.size, 0, none⟩ = some (.int .i64 o) := k4.cell (by simp [go_sem]) (by show ¬ w3.heap.size = pb; omega)
   have x1 : w4.cell? ⟨w3.heap.size, 1, none⟩ = some (.slice a1 n1 c1) := k4.cell (by simp [go_sem]) (by show ¬ w3.heap.size = pb; omega)
   have x2 : w4.cell? ⟨w3.heap.size, 2, none⟩ = some (.int .i64 m) := k4.cell (by simp [go_sem]) (by show ¬ w3.heap.size = pb; omega)
   have x3 : w4.cell? ⟨w3.heap.size, 3, none⟩ = some (.int .i64 x) := k4.cell (by simp [go_sem]) (by show ¬ w3.heap.size = pb; omega)
   have x4 : w4.cell? ⟨w3.heap.size, 4, none⟩ = some (.slice a2 n2 cc2) := k4.cell (by simp [go_sem]) (by show ¬ w3.heap.size = pb; omega)
   have K34 : xa (xaj pb) w3 w4 := xa.trans (KI.out) k4
   have HV4 : Hid (TAt w4 (fun b => w.heap.size < b ∧ b < w3.heap.size) ⟨o, .slice a1 n1 c1, m, x, .slice a2 n2 cc2⟩ t1) := xoo (HV.out.keepsTo K34 (fun b hb e => by have e : b = pb := e; have := hb.1; omega) (fun b hb => ⟨by have := hb.1; omega, hb.2⟩))
   have K4 := xoo (K3.out.trans K34)
   have hc3 := h4.c3
   have hf3 := h4.fr 3
   have hp4 := h4.lt
   have P4 := xoo h4
   clear h4 k4 K34
   rw [hb] at hc3
   obtain ⟨wP, hwP⟩ : ∃ W, w4.setCell ⟨pb, 3, none⟩ (.bool true) = W := ⟨_, rfl⟩
   have P5 : Hid (PaAt wP pb rv rs ⟨S2.pos, S2.deep, true⟩) := xoo (hwP ▸ P4.out.setBad true)
   have k5 : xa (xaj pb) w4 wP := hwP ▸ (xa.refl (xaj pb) _).set (p := ⟨pb, 3, none⟩) rfl _
   have hs5 := k5.size
   have hszP : w4.heap.size = wP.heap.size := by rw [← hwP]; simp
   have K5 := xoo (K4.out.trans k5)
   obtain ⟨wS, hwS⟩ : ∃ W, wP.alloc (.cells #[.int .i64 o, .slice a1 n1 c1, .int .i64 m, .int .i64 x, .slice a2 n2 cc2] 154) = W := ⟨_, rfl⟩
   have k6 : xa (fun _ => False) wP wS := hwS ▸ (xa.refl _ _).alloc _
   have hs6 : wS.heap.size = wP.heap.size + 1 := by rw [← hwS]; simp
   have KX := xoo (K5.out.trans (k6.mono (T := xaj pb) (fun _ _ e => e.elim)))
   have HPX := xoo (P5.out.keepsF k6)
   have hT1 : TAt wS (fun b => w.heap.size < b ∧ b < wP.heap.size) ⟨o, .slice a1 n1 c1, m, x, .slice a2 n2 cc2⟩ t1 := HV4.out.keepsTo (k5.trans (k6.mono (fun _ _ e => e.elim))) (fun b hb e => by have e : b = pb := e; have := hb.1; omega) (fun b hb => ⟨hb.1, by have := hb.2; omega⟩)
   have hcell : ∀ j, j < 5 → wS.cell? ⟨w4.heap.size, 0 + 0 * 5 + j, none⟩ = some (encN ⟨o, .slice a1 n1 c1, m, x, .slice a2 n2 cc2⟩ j) := by
    intro j hj
    rw [hszP, ← hwS]
    match j, hj with
    | 0, _ => simp [go_sem, encN]
    | 1, _ => simp [go_sem, encN]
    | 2, _ => simp [go_sem, encN]
    | 3, _ => simp [go_sem, encN]
    | 4, _ => simp [go_sem, encN]
   have HTX : Hid (TAt wS (fun b => w.heap.size < b ∧ b < wS.heap.size) ⟨6, .slice none 0 0, cmn, cmx, .slice (some ⟨w4.heap.size, 0, none⟩) 1 1⟩ ⟨6, [], cmn, cmx, F.ofL [t1]⟩) := xoo ⟨rfl, rfl, rfl, Hcv.out.1, Hcv.out.2, ⟨SlOf.nil _ _ _, fun p hp => by cases hp⟩, fun b hb => by simp [Value.ownBlock] at hb,
    ⟨[⟨o, .slice a1 n1 c1, m, x, .slice a2 n2 cc2⟩], ⟨_, 1, rfl, ⟨by simp, (fun h => by cases h)⟩, by simp, fun _ => ⟨_, 0, rfl, fun i y hy j hj => by
     cases i with
     | zero => simp at hy; subst hy; exact hcell j hj
     | succ i => simp at hy⟩⟩,
    FAt.cons_iff.2 ⟨_, [], rfl, hT1.keepsTo (xa.refl (fun _ => False) _) (fun _ _ => id) (fun b hb => ⟨hb.1, by have := hb.2; omega⟩), rfl⟩⟩,
    fun b hb => by simp [Value.ownBlock] at hb; subst hb; omega⟩
   obtain ⟨⟨y0, y1, y2, y3, y4⟩, q0, q1, q2, q3, q4⟩ := xaz KX.out hpb
   have HWP := xoo hwP
   have HWS := xoo hwS
   rw [← hwS, ← hwP] at y0 y1 y2 y3 y4 q0 q1 q2 q3 q4
   have hne1 : ¬ (pb = w.heap.size) := by omega
   have hne2 : ¬ (w.heap.size = pb) := by omega
   clear k5 k6 hT1 hcell hwP hwS hszP hs5 hs6
   go_wp2_with fail
   rw [HWP.out, HWS.out]
   clear y0 y1 y2 y3 y4 q0 q1 q2 q3 q4
   obtain ⟨⟨y0, y1, y2, y3, y4⟩, q0, q1, q2, q3, q4⟩ := xaz KX.out hpb
   obtain ⟨wE, hWE⟩ : ∃ W, st5 (wS) w.heap.size (.int .i64 6) (.slice none 0 0) (.int .i64 cmn) (.int .i64 cmx) (.slice (some ⟨w4.heap.size, 0, none⟩) 1 1) = W := ⟨_, rfl⟩
   obtain ⟨r0, r1, r2, r3, r4, kE⟩ := xam (wS) w.heap.size y0 y1 y2 y3 y4 (.int .i64 6) (.slice none 0 0) (.int .i64 cmn) (.int .i64 cmx) (.slice (some ⟨w4.heap.size, 0, none⟩) 1 1)
   rw [hWE] at r0 r1 r2 r3 r4 kE
   unfold st5 at hWE
   rw [hWE]
   have HKE := xoo kE
   clear kE hWE y0 y1 y2 y3 y4
   refine bodyPost_ret (by simp [results, Tryz.results195, go_sem, r0, r1, r2, r3, r4]; try rfl) rfl ?_
   exact xaD (v := ⟨6, .slice none 0 0, cmn, cmx, .slice (some ⟨w4.heap.size, 0, none⟩) 1 1⟩) hpb HH.out.rb KX.out HPX.out HTX.out HKE.out
 · subst hr36
   rw [if_pos rfl, hb, show (false || (decide ((36 : Int) = 94) || decide ((36 : Int) = 36))) = true from rfl]
   go_enter Tryz.func195, Tryz.ntmps195
   go_wp2_with fail
   refine (HP.out _ (HH.out.keepsF (KI.out))).mono ?_
   rintro e w2 ⟨rfl, k2⟩
   have hs2 := k2.size
   simp at hs2
   have K2 := xoo k2
   have P2 := xoo (HH.out.keepsF (xa.trans (KI.out) k2))
   clear k2
   go_wp2_with fail
   refine (HA.out _ P2.out).mono ?_
   rintro e w3 ⟨v, rfl, hv, h3, k3⟩
   obtain ⟨o, a1, n1, c1, m, x, a2, n2, cc2, rfl⟩ := NV.form hv
   have HV := xoo hv
   have P3 := xoo h3
   have hs3 := k3.size
   have K3 : Hid (xa (xaj pb) (w.alloc (.cells #[.int .i64 0, .slice none 0 0, .int .i64 0, .int .i64 0, .slice none 0 0] 154)) w3) := xoo ((K2.out.mono (fun _ _ e => e.elim)).trans k3)
   have hp3 := h3.lt
   clear hv h3 k3
   unfold NV.val
   go_wp2_with fail
   refine (HC.out _ (P3.out.keepsF (KI.out))).mono ?_
   rintro e w4 ⟨rfl, h4, k4⟩
   have hs4 := k4.size
   simp at hs4
   have x0 : w4.cell? ⟨w3.heap.size, 0, none⟩ = some (.int .i64 o) := k4.cell (by simp [go_sem]) (by show ¬ w3.heap.size = pb; omega)
   have x1 : w4.cell? ⟨w3.heap.size, 1, none⟩ = some (.slice a1 n1 c1) := k4.cell (by simp [go_sem]) (by show ¬ w3.heap.size = pb; omega)
   have x2 : w4.cell? ⟨w3.heap.size, 2, none⟩ = some (.int .i64 m) := k4.cell (by simp [go_sem]) (by show ¬ w3.heap.size = pb; omega)
   have x3 : w4.cell? ⟨w3.heap.size, 3, none⟩ = some (.int .i64 x) := k4.cell (by simp [go_sem]) (by show ¬ w3.heap.size = pb; omega)
   have x4 : w4.cell? ⟨w3.heap.size, 4, none⟩ = some (.slice a2 n2 cc2) := k4.cell (by simp [go_sem]) (by show ¬ w3.heap.size = pb; omega)
   have K34 : xa (xaj pb) w3 w4 := xa.trans (KI.out) k4
   have HV4 : Hid (TAt w4 (fun b => w.heap.size < b ∧ b < w3.heap.size) ⟨o, .slice a1 n1 c1, m, x, .slice a2 n2 cc2⟩ t1) := xoo (HV.out.keepsTo K34 (fun b hb e => by have e : b = pb := e; have := hb.1; omega) (fun b hb => ⟨by have := hb.1; omega, hb.2⟩))
   have K4 := xoo (K3.out.trans K34)
   have hc3 := h4.c3
   have hf3 := h4.fr 3
   have hp4 := h4.lt
   have P4 := xoo h4
   clear h4 k4 K34
   rw [hb] at hc3
   obtain ⟨wP, hwP⟩ : ∃ W, w4.setCell ⟨pb, 3, none⟩ (.bool true) = W := ⟨_, rfl⟩
   have P5 : Hid (PaAt wP pb rv rs ⟨S2.pos, S2.deep, true⟩) := xoo (hwP ▸ P4.out.setBad true)
   have k5 : xa (xaj pb) w4 wP := hwP ▸ (xa.refl (xaj pb) _).set (p := ⟨pb, 3, none⟩) rfl _
   have hs5 := k5.size
   have hszP : w4.heap.size = wP.heap.size := by rw [← hwP]; simp
   have K5 := xoo (K4.out.trans k5)
   obtain ⟨wS, hwS⟩ : ∃ W, wP.alloc (.cells #[.int .i64 o, .slice a1 n1 c1, .int .i64 m, .int .i64 x, .slice a2 n2 cc2] 154) = W := ⟨_, rfl⟩
   have k6 : xa (fun _ => False) wP wS := hwS ▸ (xa.refl _ _).alloc _
   have hs6 : wS.heap.size = wP.heap.size + 1 := by rw [← hwS]; simp
   have KX := xoo (K5.out.trans (k6.mono (T := xaj pb) (fun _ _ e => e.elim)))
   have HPX := xoo (P5.out.keepsF k6)
   have hT1 : TAt wS (fun b => w.heap.size < b ∧ b < wP.heap.size) ⟨o, .slice a1 n1 c1, m, x, .slice a2 n2 cc2⟩ t1 := HV4.out.keepsTo (k5.trans (k6.mono (fun _ _ e => e.elim))) (fun b hb e => by have e : b = pb := e; have := hb.1; omega) (fun b hb => ⟨hb.1, by have := hb.2; omega⟩)
   have hcell : ∀ j, j < 5 → wS.cell? ⟨w4.heap.size, 0 + 0 * 5 + j, none⟩ = some (encN ⟨o, .slice a1 n1 c1, m, x, .slice a2 n2 cc2⟩ j) := by
    intro j hj
    rw [hszP, ← hwS]
    match j, hj with
    | 0, _ => simp [go_sem, encN]
    | 1, _ => simp [go_sem, encN]
    | 2, _ => simp [go_sem, encN]
    | 3, _ => simp [go_sem, encN]
    | 4, _ => simp [go_sem, encN]
   have HTX : Hid (TAt wS (fun b => w.heap.size < b ∧ b < wS.heap.size) ⟨6, .slice none 0 0, cmn, cmx, .slice (some ⟨w4.heap.size, 0, none⟩) 1 1⟩ ⟨6, [], cmn, cmx, F.ofL [t1]⟩) := xoo ⟨rfl, rfl, rfl, Hcv.out.1, Hcv.out.2, ⟨SlOf.nil _ _ _, fun p hp => by cases hp⟩, fun b hb => by simp [Value.ownBlock] at hb,
    ⟨[⟨o, .slice a1 n1 c1, m, x, .slice a2 n2 cc2⟩], ⟨_, 1, rfl, ⟨by simp, (fun h => by cases h)⟩, by simp, fun _ => ⟨_, 0, rfl, fun i y hy j hj => by
     cases i with
     | zero => simp at hy; subst hy; exact hcell j hj
     | succ i => simp at hy⟩⟩,
    FAt.cons_iff.2 ⟨_, [], rfl, hT1.keepsTo (xa.refl (fun _ => False) _) (fun _ _ => id) (fun b hb => ⟨hb.1, by have := hb.2; omega⟩), rfl⟩⟩,
    fun b hb => by simp [Value.ownBlock] at hb; subst hb; omega⟩
   obtain ⟨⟨y0, y1, y2, y3, y4⟩, q0, q1, q2, q3, q4⟩ := xaz KX.out hpb
   have HWP := xoo hwP
   have HWS := xoo hwS
   rw [← hwS, ← hwP] at y0 y1 y2 y3 y4 q0 q1 q2 q3 q4
   have hne1 : ¬ (pb = w.heap.size) := by omega
   have hne2 : ¬ (w.heap.size = pb) := by omega
   clear k5 k6 hT1 hcell hwP hwS hszP hs5 hs6
   go_wp2_with fail
   rw [HWP.out, HWS.out]
   clear y0 y1 y2 y3 y4 q0 q1 q2 q3 q4
   obtain ⟨⟨y0, y1, y2, y3, y4⟩, q0, q1, q2, q3, q4⟩ := xaz KX.out hpb
   obtain ⟨wE, hWE⟩ : ∃ W, st5 (wS) w.heap.size (.int .i64 6) (.slice none 0 0) (.int .i64 cmn) (.int .i64 cmx) (.slice (some ⟨w4.heap.size, 0, none⟩) 1 1) = W := ⟨_, rfl⟩
   obtain ⟨r0, r1, r2, r3, r4, kE⟩ := xam (wS) w.heap.size y0 y1 y2 y3 y4 (.int .i64 6) (.slice none 0 0) (.int .i64 cmn) (.int .i64 cmx) (.slice (some ⟨w4.heap.size, 0, none⟩) 1 1)
   rw [hWE] at r0 r1 r2 r3 r4 kE
   unfold st5 at hWE
   rw [hWE]
   have HKE := xoo kE
   clear kE hWE y0 y1 y2 y3 y4
   refine bodyPost_ret (by simp [results, Tryz.results195, go_sem, r0, r1, r2, r3, r4]; try rfl) rfl ?_
   exact xaD (v := ⟨6, .slice none 0 0, cmn, cmx, .slice (some ⟨w4.heap.size, 0, none⟩) 1 1⟩) hpb HH.out.rb KX.out HPX.out HTX.out HKE.out
 have f1 : (r == 94) = false := by simpa using hr94
 have f2 : (r == 36) = false := by simpa using hr36
 have f3 : decide (r = 94) = false := by simpa using hr94
 have f4 : decide (r = 36) = false := by simpa using hr36
 rw [if_pos rfl, hb, f3, f4, show (false || (false || false)) = false from rfl]
 clear hr94 hr36 f3 f4
 go_enter Tryz.func195, Tryz.ntmps195
 go_wp2_with fail
 refine (HP.out _ (HH.out.keepsF (KI.out))).mono ?_
 rintro e w2 ⟨rfl, k2⟩
 have hs2 := k2.size
 simp at hs2
 have K2 := xoo k2
 have P2 := xoo (HH.out.keepsF (xa.trans (KI.out) k2))
 clear k2
 go_wp2_with fail
 refine (HA.out _ P2.out).mono ?_
 rintro e w3 ⟨v, rfl, hv, h3, k3⟩
 obtain ⟨o, a1, n1, c1, m, x, a2, n2, cc2, rfl⟩ := NV.form hv
 have HV := xoo hv
 have P3 := xoo h3
 have hs3 := k3.size
 have K3 : Hid (xa (xaj pb) (w.alloc (.cells #[.int .i64 0, .slice none 0 0, .int .i64 0, .int .i64 0, .slice none 0 0] 154)) w3) := xoo ((K2.out.mono (fun _ _ e => e.elim)).trans k3)
 have hp3 := h3.lt
 clear hv h3 k3
 unfold NV.val
 go_wp2_with fail
 refine (HC.out _ (P3.out.keepsF (KI.out))).mono ?_
 rintro e w4 ⟨rfl, h4, k4⟩
 have hs4 := k4.size
 simp at hs4
 have x0 : w4.cell? ⟨w3.heap.size, 0, none⟩ = some (.int .i64 o) := k4.cell (by simp [go_sem]) (by show ¬ w3.heap.size = pb; omega)
 have x1 : w4.cell? ⟨w3.heap.size, 1, none⟩ = some (.slice a1 n1 c1) := k4.cell (by simp [go_sem]) (by show ¬ w3.heap.size = pb; omega)
 have x2 : w4.cell? ⟨w3.heap.size, 2, none⟩ = some (.int .i64 m) := k4.cell (by simp [go_sem]) (by show ¬ w3.heap.size = pb; omega)
 have x3 : w4.cell? ⟨w3.heap.size, 3, none⟩ = some (.int .i64 x) := k4.cell (by simp [go_sem]) (by show ¬ w3.heap.size = pb; omega)
 have x4 : w4.cell? ⟨w3.heap.size, 4, none⟩ = some (.slice a2 n2 cc2) := k4.cell (by simp [go_sem]) (by show ¬ w3.heap.size = pb; omega)
 have K34 : xa (xaj pb) w3 w4 := xa.trans (KI.out) k4
 have HV4 : Hid (TAt w4 (fun b => w.heap.size < b ∧ b < w3.heap.size) ⟨o, .slice a1 n1 c1, m, x, .slice a2 n2 cc2⟩ t1) := xoo (HV.out.keepsTo K34 (fun b hb e => by have e : b = pb := e; have := hb.1; omega) (fun b hb => ⟨by have := hb.1; omega, hb.2⟩))
 have K4 := xoo (K3.out.trans K34)
 have hc3 := h4.c3
 have hf3 := h4.fr 3
 have hp4 := h4.lt
 have P4 := xoo h4
 clear h4 k4 K34
 rw [hb] at hc3
 obtain ⟨wP, hwP⟩ : ∃ W, w4.setCell ⟨pb, 3, none⟩ (.bool false) = W := ⟨_, rfl⟩
 have P5 : Hid (PaAt wP pb rv rs ⟨S2.pos, S2.deep, false⟩) := xoo (hwP ▸ P4.out.setBad false)
 have k5 : xa (xaj pb) w4 wP := hwP ▸ (xa.refl (xaj pb) _).set (p := ⟨pb, 3, none⟩) rfl _
 have hs5 := k5.size
 have hszP : w4.heap.size = wP.heap.size := by rw [← hwP]; simp
 have K5 := xoo (K4.out.trans k5)
 obtain ⟨wS, hwS⟩ : ∃ W, wP.alloc (.cells #[.int .i64 o, .slice a1 n1 c1, .int .i64 m, .int .i64 x, .slice a2 n2 cc2] 154) = W := ⟨_, rfl⟩
 have k6 : xa (fun _ => False) wP wS := hwS ▸ (xa.refl _ _).alloc _
 have hs6 : wS.heap.size = wP.heap.size + 1 := by rw [← hwS]; simp
 have KX := xoo (K5.out.trans (k6.mono (T := xaj pb) (fun _ _ e => e.elim)))
 have HPX := xoo (P5.out.keepsF k6)
 have hT1 : TAt wS (fun b => w.heap.size < b ∧ b < wP.heap.size) ⟨o, .slice a1 n1 c1, m, x, .slice a2 n2 cc2⟩ t1 := HV4.out.keepsTo (k5.trans (k6.mono (fun _ _ e => e.elim))) (fun b hb e => by have e : b = pb := e; have := hb.1; omega) (fun b hb => ⟨hb.1, by have := hb.2; omega⟩)
 have hcell : ∀ j, j < 5 → wS.cell? ⟨w4.heap.size, 0 + 0 * 5 + j, none⟩ = some (encN ⟨o, .slice a1 n1 c1, m, x, .slice a2 n2 cc2⟩ j) := by
  intro j hj
  rw [hszP, ← hwS]
  match j, hj with
  | 0, _ => simp [go_sem, encN]
  | 1, _ => simp [go_sem, encN]
  | 2, _ => simp [go_sem, encN]
  | 3, _ => simp [go_sem, encN]
  | 4, _ => simp [go_sem, encN]
 have HTX : Hid (TAt wS (fun b => w.heap.size < b ∧ b < wS.heap.size) ⟨6, .slice none 0 0, cmn, cmx, .slice (some ⟨w4.heap.size, 0, none⟩) 1 1⟩ ⟨6, [], cmn, cmx, F.ofL [t1]⟩) := xoo ⟨rfl, rfl, rfl, Hcv.out.1, Hcv.out.2, ⟨SlOf.nil _ _ _, fun p hp => by cases hp⟩, fun b hb => by simp [Value.ownBlock] at hb,
  ⟨[⟨o, .slice a1 n1 c1, m, x, .slice a2 n2 cc2⟩], ⟨_, 1, rfl, ⟨by simp, (fun h => by cases h)⟩, by simp, fun _ => ⟨_, 0, rfl, fun i y hy j hj => by
   cases i with
   | zero => simp at hy; subst hy; exact hcell j hj
   | succ i => simp at hy⟩⟩,
  FAt.cons_iff.2 ⟨_, [], rfl, hT1.keepsTo (xa.refl (fun _ => False) _) (fun _ _ => id) (fun b hb => ⟨hb.1, by have := hb.2; omega⟩), rfl⟩⟩,
  fun b hb => by simp [Value.ownBlock] at hb; subst hb; omega⟩
 obtain ⟨⟨y0, y1, y2, y3, y4⟩, q0, q1, q2, q3, q4⟩ := xaz KX.out hpb
 have HWP := xoo hwP
 have HWS := xoo hwS
 rw [← hwS, ← hwP] at y0 y1 y2 y3 y4 q0 q1 q2 q3 q4
 have hne1 : ¬ (pb = w.heap.size) := by omega
 have hne2 : ¬ (w.heap.size = pb) := by omega
 clear k5 k6 hT1 hcell hwP hwS hszP hs5 hs6
 go_wp2_with fail
 rw [HWP.out, HWS.out]
 clear y0 y1 y2 y3 y4 q0 q1 q2 q3 q4
 obtain ⟨⟨y0, y1, y2, y3, y4⟩, q0, q1, q2, q3, q4⟩ := xaz KX.out hpb
 obtain ⟨wE, hWE⟩ : ∃ W, st5 (wS) w.heap.size (.int .i64 6) (.slice none 0 0) (.int .i64 cmn) (.int .i64 cmx) (.slice (some ⟨w4.heap.size, 0, none⟩) 1 1) = W := ⟨_, rfl⟩
 obtain ⟨r0, r1, r2, r3, r4, kE⟩ := xam (wS) w.heap.size y0 y1 y2 y3 y4 (.int .i64 6) (.slice none 0 0) (.int .i64 cmn) (.int .i64 cmx) (.slice (some ⟨w4.heap.size, 0, none⟩) 1 1)
 rw [hWE] at r0 r1 r2 r3 r4 kE
 unfold st5 at hWE
 rw [hWE]
 have HKE := xoo kE
 clear kE hWE y0 y1 y2 y3 y4
 refine bodyPost_ret (by simp [results, Tryz.results195, go_sem, r0, r1, r2, r3, r4]; try rfl) rfl ?_
 exact xaD (v := ⟨6, .slice none 0 0, cmn, cmx, .slice (some ⟨w4.heap.size, 0, none⟩) 1 1⟩) hpb HH.out.rb KX.out HPX.out HTX.out HKE.out
end Go.Proofs.YtbifklibdkjbeaaGreatDoor
