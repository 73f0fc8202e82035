/-
  The law on counts: its walk.
-/
import Derived.Test.YtinogeobkljngaaDoorPtAwake
import Derived.Test.YtinogeobkljngaaDoorPtTwo
import Derived.Test.YtinogeobkljngaaDoorPaSmR
namespace Go.Proofs.YtinogeobkljngaaDoor
open Go.RowKit
set_option linter.unusedVariables false
set_option linter.unusedSimpArgs false
set_option maxRecDepth 100000

def textC (k j : Nat) (op : Bool) : List UInt8 := [120, 123] ++ twoB k ++ (if op then [44, 125] else 44 :: (twoB j ++ [125]))
theorem twoB_ok (k : Nat) : (twoB k).length ≤ 3 ∧ ∀ c ∈ twoB k, c.toNat < 128 := by
  have e : ∀ m, m < 10 → (UInt8.ofNat (48 + m)).toNat < 128 := fun m hm => by
    rw [UInt8.toNat_ofNat_of_lt' (by show 48 + m < 256; omega)]; omega
  unfold twoB
  split
  · refine ⟨by simp, fun c hc => ?_⟩
    simp only [List.mem_cons, List.not_mem_nil, or_false] at hc
    rcases hc with rfl | rfl | rfl
    · decide
    · exact e _ (by omega)
    · exact e _ (by omega)
  · refine ⟨by simp, fun c hc => ?_⟩
    simp only [List.mem_cons, List.not_mem_nil, or_false] at hc
    rcases hc with rfl | rfl
    · exact e _ (by omega)
    · exact e _ (by omega)
def rightC (k j : Nat) (op : Bool) : Prop := if op then (k : Int) ≤ 50 else (k : Int) ≤ 50 ∧ (j : Int) ≤ 50 ∧ (k : Int) ≤ j
instance (k j : Nat) (op : Bool) : Decidable (rightC k j op) := by unfold rightC; infer_instance
def wantT (k j : Nat) (op : Bool) : T := ⟨6, [], k, (if op then -1 else (j : Int)), F.ofL [charT [(120, 120)]]⟩
theorem parseP_counts (k j : Nat) (op : Bool) (hk : k ≤ 120) (hj : j ≤ 120) : parseP (textC k j op) = if rightC k j op then (wantT k j op, 0) else (zeroT, 15) := by
  have h1 := twoB_ok k
  have h2 := twoB_ok j
  have hl : ¬ 200 < (textC k j op).length := by
    unfold textC; cases op <;> simp <;> omega
  have ha : ∀ c ∈ textC k j op, c.toNat < 128 := by
    intro c hc
    unfold textC at hc
    cases op <;> simp at hc
    · rcases hc with rfl | rfl | hc | rfl | hc | rfl
      · decide
      · decide
      · exact h1.2 c hc
      · decide
      · exact h2.2 c hc
      · decide
    · rcases hc with rfl | rfl | hc | rfl | rfl
      · decide
      · decide
      · exact h1.2 c hc
      · decide
      · decide
  have h3 := parse_counts k j op (by omega) (by omega) ((textC k j op).map fun c => (c.toNat : Int)) (by
    unfold textC
    cases op <;> simp [twoB_int])
  unfold parseP
  rw [if_neg hl, pts_ascii ha]
  exact h3

theorem SlOf.one {α : Type} {k : Nat} {enc : α → Nat → Value} {w : World} {b : Nat} {x : α} (h : ∀ j, j < k → w.cell? ⟨b, 0 + 0 * k + j, none⟩ = some (enc x j)) : SlOf k enc w (.slice (some ⟨b, 0, none⟩) 1 1) [x] :=
  ⟨_, 1, rfl, ⟨Nat.le_refl _, (fun h => by cases h)⟩, (by simp : [x].length ≤ 4611686018427387904), fun _ => ⟨b, 0, rfl, fun i y hy j hj => by
    cases i with
    | zero => obtain rfl : x = y := by simpa using hy
              exact h j hj
    | succ i => simp at hy⟩⟩
theorem char_lit {w : World} {r : Nat} (h0 : w.cell? ⟨r, 0 + 0 * 2 + 0, none⟩ = some (encR (120, 120) 0)) (h1 : w.cell? ⟨r, 0 + 0 * 2 + 1, none⟩ = some (encR (120, 120) 1)) :
    TAt w (fun _ => True) ⟨1, .slice (some ⟨r, 0, none⟩) 1 1, 0, 0, .slice none 0 0⟩ (charT [(120, 120)]) :=
  ⟨rfl, rfl, rfl, zero64, zero64, ⟨SlOf.one (x := ((120, 120) : Int × Int)) (fun j hj => by
    match j, hj with
    | 0, _ => exact h0
    | 1, _ => exact h1), fun p hp => by obtain rfl : p = (120, 120) := by simpa [charT] using hp
                                        unfold in64; simp⟩, fun _ _ => trivial, ⟨[], SlOf.nil _ _ _, rfl⟩, fun _ _ => trivial⟩
theorem want_lit {w : World} {n : Nat} {v : NV} {k j : Nat} {op : Bool} {mx : Int} (hk : in64 (k : Int)) (hm : in64 mx) (hn : ∀ i, i < 5 → w.cell? ⟨n, 0 + 0 * 5 + i, none⟩ = some (encN v i)) (hC : TAt w (fun _ => True) v (charT [(120, 120)])) (he : mx = (if op then -1 else (j : Int)) := by rfl) :
    TAt w (fun _ => True) ⟨6, .slice none 0 0, k, mx, .slice (some ⟨n, 0, none⟩) 1 1⟩ (wantT k j op) :=
  ⟨rfl, rfl, he, hk, by show in64 (if op then -1 else (j : Int)); rw [← he]; exact hm, ⟨SlOf.nil _ _ _, fun p hp => by cases hp⟩, fun _ _ => trivial, ⟨[v], SlOf.one hn, FAt.cons_iff.2 ⟨v, [], rfl, hC, rfl⟩⟩, fun _ _ => trivial⟩

theorem counts_out (n m : Int) (op : Bool) (w : World) (ht : TabW w) (h : n < 0 ∨ 120 < n ∨ m < 0 ∨ 120 < m) :
    Calls Tryd.prog 4 #[.int .i64 n, .int .i64 m, .bool op] w fun e w' => e = .returned (.bool true) ∧ Keeps (fun _ => False) w w' := by
  have HT := Lib.hid ht
  clear ht
  rcases (by omega : (n < 0) ∨ (¬ n < 0 ∧ 120 < n) ∨ (¬ n < 0 ∧ ¬ 120 < n ∧ m < 0) ∨ (¬ n < 0 ∧ ¬ 120 < n ∧ ¬ m < 0 ∧ 120 < m)) with h1 | ⟨h1, h2⟩ | ⟨h1, h2, h3⟩ | ⟨h1, h2, h3, h4⟩
  · have g1 : decide (n < 0) = true := by simpa using h1
    go_enter Tryd.func4, Tryd.ntmps4
    go_wp2_with fail
    refine (parseAwake_any _ HT.out).mono ?_
    rintro e w1 ⟨rfl, k1⟩
    go_wp2_with fail
    refine (parseAwake_any _ (HT.out.keeps k1)).mono ?_
    rintro e w2 ⟨rfl, k2⟩
    go_wp2_with fail
    go_ret
    exact ⟨rfl, k1.trans k2⟩
  · have g1 : decide (n < 0) = false := by simpa using h1
    have g2 : decide (120 < n) = true := by simpa using h2
    go_enter Tryd.func4, Tryd.ntmps4
    go_wp2_with fail
    refine (parseAwake_any _ HT.out).mono ?_
    rintro e w1 ⟨rfl, k1⟩
    go_wp2_with fail
    refine (parseAwake_any _ (HT.out.keeps k1)).mono ?_
    rintro e w2 ⟨rfl, k2⟩
    go_wp2_with fail
    go_ret
    exact ⟨rfl, k1.trans k2⟩
  · have g1 : decide (n < 0) = false := by simpa using h1
    have g2 : decide (120 < n) = false := by simpa using h2
    have g3 : decide (m < 0) = true := by simpa using h3
    go_enter Tryd.func4, Tryd.ntmps4
    go_wp2_with fail
    refine (parseAwake_any _ HT.out).mono ?_
    rintro e w1 ⟨rfl, k1⟩
    go_wp2_with fail
    refine (parseAwake_any _ (HT.out.keeps k1)).mono ?_
    rintro e w2 ⟨rfl, k2⟩
    go_wp2_with fail
    go_ret
    exact ⟨rfl, k1.trans k2⟩
  · have g1 : decide (n < 0) = false := by simpa using h1
    have g2 : decide (120 < n) = false := by simpa using h2
    have g3 : decide (m < 0) = false := by simpa using h3
    have g4 : decide (120 < m) = true := by simpa using h4
    go_enter Tryd.func4, Tryd.ntmps4
    go_wp2_with fail
    refine (parseAwake_any _ HT.out).mono ?_
    rintro e w1 ⟨rfl, k1⟩
    go_wp2_with fail
    refine (parseAwake_any _ (HT.out.keeps k1)).mono ?_
    rintro e w2 ⟨rfl, k2⟩
    go_wp2_with fail
    go_ret
    exact ⟨rfl, k1.trans k2⟩

set_option maxHeartbeats 8000000 in
theorem counts_false_0 (k j : Nat) (w : World) (ht : TabW w) (hk : k ≤ 120) (hj : j ≤ 120) (h1 : 50 < k) :
    Calls Tryd.prog 4 #[.int .i64 k, .int .i64 j, .bool false] w fun e w' => e = .returned (.bool true) ∧ Keeps (fun _ => False) w w' := by
  have HT := Lib.hid ht
  have HP : Hid (parseP (textC k j false) = (zeroT, 15)) := Lib.hid (by rw [parseP_counts k j false hk hj, if_neg (by unfold rightC; simp; omega)])
  have HX : Hid (textC k j false = [120, 123] ++ twoB k ++ (44 :: (twoB j ++ [125]))) := Lib.hid rfl
  have g1 : decide ((k : Int) < 0) = false := by simp
  have g2 : decide ((120 : Int) < k) = false := by simp; omega
  have g2n : decide (120 < k) = false := by simp; omega
  have g3 : decide ((j : Int) < 0) = false := by simp
  have g4 : decide ((120 : Int) < j) = false := by simp; omega
  have g4n : decide (120 < j) = false := by simp; omega
  have g50 : decide ((k : Int) ≤ 50) = false := by simp; omega
  have g50n : decide (k ≤ 50) = false := by simp; omega
  have l1 := (twoB_ok k).1
  have l2 := (twoB_ok j).1
  have T1 := Lib.hid (fun W => two_any k W hk)
  have T2 := Lib.hid (fun W => two_any j W hj)
  have HK64 : Hid (in64 (k : Int) ∧ in64 (j : Int)) := Lib.hid (by unfold in64; omega)
  clear ht hk hj
  generalize twoB k = B1 at *
  generalize twoB j = B2 at *
  go_enter Tryd.func4, Tryd.ntmps4
  go_wp2_with fail
  refine (parseAwake_any _ HT.out).mono ?_
  rintro e w1 ⟨rfl, k1⟩
  have K1 := Lib.hid k1
  clear k1
  go_wp2_with fail
  refine (T1.out _).mono ?_
  rintro e w2 ⟨rfl, k2⟩
  have K2 := Lib.hid (K1.out.trans k2)
  clear k2
  unfold strL
  go_wp2_with fail
  refine (T2.out _).mono ?_
  rintro e w3 ⟨rfl, k3⟩
  have K3 := Lib.hid (K2.out.trans k3)
  clear k3
  unfold strL
  go_wp2_with fail
  rw [show (⟨#[120, 123]⟩ ++ ⟨B1.toArray⟩ ++ ⟨#[44]⟩ ++ ⟨B2.toArray⟩ ++ ⟨#[125]⟩ : ByteArray) = ⟨(textC k j false).toArray⟩ by rw [HX.out]; apply ByteArray.ext; simp [ByteArray.data_append]]
  obtain ⟨wS, hwS⟩ : ∃ W, (((w3.alloc (.cells #[.int .i64 6, .slice none 0 0, .int .i64 k, .int .i64 j, .slice (some ⟨w3.heap.size + 1 + 1, 0, none⟩) 1 1] 26)).alloc (.cells #[.int .i64 120, .int .i64 120] 36)).alloc (.cells #[.int .i64 1, .slice (some ⟨w3.heap.size + 1, 0, none⟩) 1 1, .int .i64 0, .int .i64 0, .slice none 0 0] 26)) = W := ⟨_, rfl⟩
  rw [hwS]
  have kS : Keeps (fun _ => False) w3 wS := hwS ▸ (((Keeps.refl _ _).alloc _).alloc _).alloc _
  have KS := Lib.hid (K3.out.trans kS)
  have f0 : wS.cell? ⟨w3.heap.size, 0, none⟩ = some (.int .i64 6) := by rw [← hwS]; simp [go_sem]
  have f1 : wS.cell? ⟨w3.heap.size, 1, none⟩ = some (.slice none 0 0) := by rw [← hwS]; simp [go_sem]
  have f2 : wS.cell? ⟨w3.heap.size, 2, none⟩ = some (.int .i64 k) := by rw [← hwS]; simp [go_sem]
  have f3 : wS.cell? ⟨w3.heap.size, 3, none⟩ = some (.int .i64 j) := by rw [← hwS]; simp [go_sem]
  have f4 : wS.cell? ⟨w3.heap.size, 4, none⟩ = some (.slice (some ⟨w3.heap.size + 1 + 1, 0, none⟩) 1 1) := by rw [← hwS]; simp [go_sem]
  have hr0 : wS.cell? ⟨w3.heap.size + 1, 0 + 0 * 2 + 0, none⟩ = some (encR (120, 120) 0) := by rw [← hwS]; simp [go_sem, encR]
  have hr1 : wS.cell? ⟨w3.heap.size + 1, 0 + 0 * 2 + 1, none⟩ = some (encR (120, 120) 1) := by rw [← hwS]; simp [go_sem, encR]
  have hn : ∀ i, i < 5 → wS.cell? ⟨w3.heap.size + 1 + 1, 0 + 0 * 5 + i, none⟩ = some (encN ⟨1, .slice (some ⟨w3.heap.size + 1, 0, none⟩) 1 1, 0, 0, .slice none 0 0⟩ i) := by
    intro i hi
    rw [← hwS]
    match i, hi with
    | 0, _ => simp [go_sem, encN]
    | 1, _ => simp [go_sem, encN]
    | 2, _ => simp [go_sem, encN]
    | 3, _ => simp [go_sem, encN]
    | 4, _ => simp [go_sem, encN]
  have hC : TAt wS (fun _ => True) ⟨1, .slice (some ⟨w3.heap.size + 1, 0, none⟩) 1 1, 0, 0, .slice none 0 0⟩ (charT [(120, 120)]) := char_lit hr0 hr1
  have HW : Hid (TAt wS (fun _ => True) ⟨6, .slice none 0 0, k, j, .slice (some ⟨w3.heap.size + 1 + 1, 0, none⟩) 1 1⟩ (wantT k j false)) := Lib.hid (want_lit HK64.out.1 HK64.out.2 hn hC)
  clear hr0 hr1 hn hC kS hwS
  have htl : (textC k j false).length ≤ 9223372036854775807 := by
    rw [HX.out]; simp; omega
  refine (parse_any (textC k j false) _ htl).mono ?_
  rw [HP.out]
  rintro e w6 ⟨v, rfl, hv, k6⟩
  obtain ⟨o, a1, n1, c1, m, x, a2, n2, cc2, rfl⟩ := NV.form hv
  have K6 := Lib.hid (KS.out.trans k6)
  have HV := Lib.hid hv
  have HW6 := Lib.hid (HW.out.keepsTo (Q := fun _ => True) k6 (fun _ _ => id) (fun _ h => h))
  have f0 := alloc_cell (k6.cell f0 id) (.cells #[.int .i64 o, .slice a1 n1 c1, .int .i64 m, .int .i64 x, .slice a2 n2 cc2] 26)
  have f1 := alloc_cell (k6.cell f1 id) (.cells #[.int .i64 o, .slice a1 n1 c1, .int .i64 m, .int .i64 x, .slice a2 n2 cc2] 26)
  have f2 := alloc_cell (k6.cell f2 id) (.cells #[.int .i64 o, .slice a1 n1 c1, .int .i64 m, .int .i64 x, .slice a2 n2 cc2] 26)
  have f3 := alloc_cell (k6.cell f3 id) (.cells #[.int .i64 o, .slice a1 n1 c1, .int .i64 m, .int .i64 x, .slice a2 n2 cc2] 26)
  have f4 := alloc_cell (k6.cell f4 id) (.cells #[.int .i64 o, .slice a1 n1 c1, .int .i64 m, .int .i64 x, .slice a2 n2 cc2] 26)
  have ka : Keeps (fun _ => False) w6 (w6.alloc (.cells #[.int .i64 o, .slice a1 n1 c1, .int .i64 m, .int .i64 x, .slice a2 n2 cc2] 26)) := (Keeps.refl _ _).alloc _
  have KA := Lib.hid ka
  clear hv k6 ka
  unfold NV.val
  have HSm := Lib.hid (fun W (K : Keeps (fun _ => False) (w6.alloc (.cells #[.int .i64 o, .slice a1 n1 c1, .int .i64 m, .int .i64 x, .slice a2 n2 cc2] 26)) W) => refTreeSame_any zeroT zeroT _ _ ⟨o, .slice a1 n1 c1, m, x, .slice a2 n2 cc2⟩ ⟨0, .slice none 0 0, 0, 0, .slice none 0 0⟩ W (HV.out.keepsTo (KA.out.trans K) (fun _ _ => id) (fun _ h => h)) (TAt.zero W (fun _ => True)))
  rw [show decide (zeroT = zeroT) = true from decide_eq_true rfl] at HSm
  unfold NV.val at HSm
  go_wp2_with fail
  refine (HSm.out _ (Keeps.refl _ _)).mono ?_
  rintro e w7 ⟨rfl, k7⟩
  have K7 := Lib.hid ((K6.out.trans KA.out).trans k7)
  clear k7
  go_wp2_with fail
  go_ret
  exact ⟨rfl, K7.out⟩

set_option maxHeartbeats 8000000 in
theorem counts_true_0 (k j : Nat) (w : World) (ht : TabW w) (hk : k ≤ 120) (hj : j ≤ 120) (h1 : 50 < k) :
    Calls Tryd.prog 4 #[.int .i64 k, .int .i64 j, .bool true] w fun e w' => e = .returned (.bool true) ∧ Keeps (fun _ => False) w w' := by
  have HT := Lib.hid ht
  have HP : Hid (parseP (textC k j true) = (zeroT, 15)) := Lib.hid (by rw [parseP_counts k j true hk hj, if_neg (by unfold rightC; simp; omega)])
  have HX : Hid (textC k j true = [120, 123] ++ twoB k ++ [44, 125]) := Lib.hid rfl
  have g1 : decide ((k : Int) < 0) = false := by simp
  have g2 : decide ((120 : Int) < k) = false := by simp; omega
  have g2n : decide (120 < k) = false := by simp; omega
  have g3 : decide ((j : Int) < 0) = false := by simp
  have g4 : decide ((120 : Int) < j) = false := by simp; omega
  have g4n : decide (120 < j) = false := by simp; omega
  have g50 : decide ((k : Int) ≤ 50) = false := by simp; omega
  have g50n : decide (k ≤ 50) = false := by simp; omega
  have l1 := (twoB_ok k).1
  have l2 := (twoB_ok j).1
  have T1 := Lib.hid (fun W => two_any k W hk)
  have T2 := Lib.hid (fun W => two_any j W hj)
  have HK64 : Hid (in64 (k : Int) ∧ in64 (j : Int)) := Lib.hid (by unfold in64; omega)
  clear ht hk hj
  generalize twoB k = B1 at *
  generalize twoB j = B2 at *
  go_enter Tryd.func4, Tryd.ntmps4
  go_wp2_with fail
  refine (parseAwake_any _ HT.out).mono ?_
  rintro e w1 ⟨rfl, k1⟩
  have K1 := Lib.hid k1
  clear k1
  go_wp2_with fail
  refine (T1.out _).mono ?_
  rintro e w2 ⟨rfl, k2⟩
  have K2 := Lib.hid (K1.out.trans k2)
  clear k2
  unfold strL
  go_wp2_with fail
  refine (T2.out _).mono ?_
  rintro e w3 ⟨rfl, k3⟩
  have K3 := Lib.hid (K2.out.trans k3)
  clear k3
  unfold strL
  go_wp2_with fail
  have z3 : (w3.alloc (.cells #[.int .i64 6, .slice none 0 0, .int .i64 k, .int .i64 j, .slice none 0 0] 26)).cell? ⟨w3.heap.size, 3, none⟩ = some (.int .i64 j) := by simp [go_sem]
  refine (T1.out _).mono ?_
  rintro e w4 ⟨rfl, k4⟩
  have y0 : w4.cell? ⟨w3.heap.size, 0, none⟩ = some (.int .i64 6) := k4.cell (by simp [go_sem]) id
  have y1 : w4.cell? ⟨w3.heap.size, 1, none⟩ = some (.slice none 0 0) := k4.cell (by simp [go_sem]) id
  have y2 : w4.cell? ⟨w3.heap.size, 2, none⟩ = some (.int .i64 k) := k4.cell (by simp [go_sem]) id
  have y3 : w4.cell? ⟨w3.heap.size, 3, none⟩ = some (.int .i64 j) := k4.cell (by simp [go_sem]) id
  have y4 : w4.cell? ⟨w3.heap.size, 4, none⟩ = some (.slice none 0 0) := k4.cell (by simp [go_sem]) id
  have q3 : w4.frozen? ⟨w3.heap.size, 3, none⟩ = false := k4.frozen (by simp [go_sem]) (by simp) id
  have q4 : w4.frozen? ⟨w3.heap.size, 4, none⟩ = false := k4.frozen (by simp [go_sem]) (by simp) id
  have hs4 := k4.size
  simp at hs4
  have K4 : Hid (Keeps (fun _ => False) w w4) := Lib.hid (K3.out.trans (Keeps.trans (by (repeat' (with_reducible first | exact Keeps.refl _ _ | assumption | refine Keeps.drawN ?_ _ | refine Keeps.drew ?_ | refine Keeps.setCell ?_ ?_ _ | refine Keeps.alloc ?_ _)) <;> (first | exact Or.inr (Nat.le_refl _) | exact Or.inl rfl | exact Or.inl (Or.inl rfl) | exact Or.inl (Or.inr rfl) | (right; simp; done) | (right; simp; omega))) k4))
  clear k4 z3
  unfold strL
  have hbl : w3.heap.size < w4.heap.size := by omega
  go_wp2_with fail
  rw [show (⟨#[120, 123]⟩ ++ ⟨B1.toArray⟩ ++ ⟨#[44, 125]⟩ : ByteArray) = ⟨(textC k j true).toArray⟩ by rw [HX.out]; apply ByteArray.ext; simp [ByteArray.data_append]]
  obtain ⟨wS, hwS⟩ : ∃ W, ((((w4.setCell ⟨w3.heap.size, 3, none⟩ (.int .i64 (-1))).setCell ⟨w3.heap.size, 4, none⟩ (.slice (some ⟨w4.heap.size + 1, 0, none⟩) 1 1)).alloc (.cells #[.int .i64 120, .int .i64 120] 36)).alloc (.cells #[.int .i64 1, .slice (some ⟨w4.heap.size, 0, none⟩) 1 1, .int .i64 0, .int .i64 0, .slice none 0 0] 26)) = W := ⟨_, rfl⟩
  rw [hwS]
  have hb2 : w3.heap.size ≠ w4.heap.size := by omega
  have hb3 : w3.heap.size ≠ w4.heap.size + 1 := by omega
  obtain ⟨wT, hwT⟩ : ∃ W, (w4.setCell ⟨w3.heap.size, 3, none⟩ (.int .i64 (-1))).setCell ⟨w3.heap.size, 4, none⟩ (.slice (some ⟨w4.heap.size + 1, 0, none⟩) 1 1) = W := ⟨_, rfl⟩
  have hTs : wT.heap.size = w4.heap.size := by rw [← hwT]; simp
  have e0 : wT.cell? ⟨w3.heap.size, 0, none⟩ = some (.int .i64 6) := by rw [← hwT, cell_set_other (by simp), cell_set_other (by simp)]; exact y0
  have e1 : wT.cell? ⟨w3.heap.size, 1, none⟩ = some (.slice none 0 0) := by rw [← hwT, cell_set_other (by simp), cell_set_other (by simp)]; exact y1
  have e2 : wT.cell? ⟨w3.heap.size, 2, none⟩ = some (.int .i64 k) := by rw [← hwT, cell_set_other (by simp), cell_set_other (by simp)]; exact y2
  have e3 : wT.cell? ⟨w3.heap.size, 3, none⟩ = some (.int .i64 (-1)) := by rw [← hwT, cell_set_other (by simp)]; exact cell_set_same y3
  have e4 : wT.cell? ⟨w3.heap.size, 4, none⟩ = some (.slice (some ⟨w4.heap.size + 1, 0, none⟩) 1 1) := by rw [← hwT]; exact cell_set_same (by rw [cell_set_other (by simp)]; exact y4)
  have kT : Keeps (fun b => b = w3.heap.size) w4 wT := hwT ▸ ((Keeps.refl (fun b => b = w3.heap.size) _).set (p := ⟨w3.heap.size, 3, none⟩) rfl _).set (p := ⟨w3.heap.size, 4, none⟩) rfl _
  have hsz3 := K3.out.size
  have KT : Hid (Keeps (fun _ => False) w wT) := Lib.hid (K4.out.trans2 kT (fun b hb e => by omega))
  rw [hwT] at hwS
  have kS : Keeps (fun _ => False) wT wS := hwS ▸ ((Keeps.refl _ _).alloc _).alloc _
  have KS := Lib.hid (KT.out.trans kS)
  have f0 := kS.cell e0 id
  have f1 := kS.cell e1 id
  have f2 := kS.cell e2 id
  have f3 := kS.cell e3 id
  have f4 := kS.cell e4 id
  have hr0 : wS.cell? ⟨w4.heap.size, 0 + 0 * 2 + 0, none⟩ = some (encR (120, 120) 0) := by rw [← hwS, ← hTs]; simp [go_sem, encR]
  have hr1 : wS.cell? ⟨w4.heap.size, 0 + 0 * 2 + 1, none⟩ = some (encR (120, 120) 1) := by rw [← hwS, ← hTs]; simp [go_sem, encR]
  have hn : ∀ i, i < 5 → wS.cell? ⟨w4.heap.size + 1, 0 + 0 * 5 + i, none⟩ = some (encN ⟨1, .slice (some ⟨w4.heap.size, 0, none⟩) 1 1, 0, 0, .slice none 0 0⟩ i) := by
    intro i hi
    rw [← hwS, ← hTs]
    match i, hi with
    | 0, _ => simp [go_sem, encN]
    | 1, _ => simp [go_sem, encN]
    | 2, _ => simp [go_sem, encN]
    | 3, _ => simp [go_sem, encN]
    | 4, _ => simp [go_sem, encN]
  have hC : TAt wS (fun _ => True) ⟨1, .slice (some ⟨w4.heap.size, 0, none⟩) 1 1, 0, 0, .slice none 0 0⟩ (charT [(120, 120)]) := char_lit hr0 hr1
  have HW : Hid (TAt wS (fun _ => True) ⟨6, .slice none 0 0, k, (-1), .slice (some ⟨w4.heap.size + 1, 0, none⟩) 1 1⟩ (wantT k j true)) := Lib.hid (want_lit HK64.out.1 (by unfold in64; decide) hn hC)
  clear hr0 hr1 hn hC kS hwS
  have htl : (textC k j true).length ≤ 9223372036854775807 := by
    rw [HX.out]; simp; omega
  refine (parse_any (textC k j true) _ htl).mono ?_
  rw [HP.out]
  rintro e w6 ⟨v, rfl, hv, k6⟩
  obtain ⟨o, a1, n1, c1, m, x, a2, n2, cc2, rfl⟩ := NV.form hv
  have K6 := Lib.hid (KS.out.trans k6)
  have HV := Lib.hid hv
  have HW6 := Lib.hid (HW.out.keepsTo (Q := fun _ => True) k6 (fun _ _ => id) (fun _ h => h))
  have f0 := alloc_cell (k6.cell f0 id) (.cells #[.int .i64 o, .slice a1 n1 c1, .int .i64 m, .int .i64 x, .slice a2 n2 cc2] 26)
  have f1 := alloc_cell (k6.cell f1 id) (.cells #[.int .i64 o, .slice a1 n1 c1, .int .i64 m, .int .i64 x, .slice a2 n2 cc2] 26)
  have f2 := alloc_cell (k6.cell f2 id) (.cells #[.int .i64 o, .slice a1 n1 c1, .int .i64 m, .int .i64 x, .slice a2 n2 cc2] 26)
  have f3 := alloc_cell (k6.cell f3 id) (.cells #[.int .i64 o, .slice a1 n1 c1, .int .i64 m, .int .i64 x, .slice a2 n2 cc2] 26)
  have f4 := alloc_cell (k6.cell f4 id) (.cells #[.int .i64 o, .slice a1 n1 c1, .int .i64 m, .int .i64 x, .slice a2 n2 cc2] 26)
  have ka : Keeps (fun _ => False) w6 (w6.alloc (.cells #[.int .i64 o, .slice a1 n1 c1, .int .i64 m, .int .i64 x, .slice a2 n2 cc2] 26)) := (Keeps.refl _ _).alloc _
  have KA := Lib.hid ka
  clear hv k6 ka
  unfold NV.val
  have HSm := Lib.hid (fun W (K : Keeps (fun _ => False) (w6.alloc (.cells #[.int .i64 o, .slice a1 n1 c1, .int .i64 m, .int .i64 x, .slice a2 n2 cc2] 26)) W) => refTreeSame_any zeroT zeroT _ _ ⟨o, .slice a1 n1 c1, m, x, .slice a2 n2 cc2⟩ ⟨0, .slice none 0 0, 0, 0, .slice none 0 0⟩ W (HV.out.keepsTo (KA.out.trans K) (fun _ _ => id) (fun _ h => h)) (TAt.zero W (fun _ => True)))
  rw [show decide (zeroT = zeroT) = true from decide_eq_true rfl] at HSm
  unfold NV.val at HSm
  go_wp2_with fail
  refine (HSm.out _ (Keeps.refl _ _)).mono ?_
  rintro e w7 ⟨rfl, k7⟩
  have K7 := Lib.hid ((K6.out.trans KA.out).trans k7)
  clear k7
  go_wp2_with fail
  go_ret
  exact ⟨rfl, K7.out⟩

set_option maxHeartbeats 8000000 in
theorem counts_false_1 (k j : Nat) (w : World) (ht : TabW w) (hk : k ≤ 120) (hj : j ≤ 120) (h1 : k ≤ 50) (h2 : 50 < j) :
    Calls Tryd.prog 4 #[.int .i64 k, .int .i64 j, .bool false] w fun e w' => e = .returned (.bool true) ∧ Keeps (fun _ => False) w w' := by
  have HT := Lib.hid ht
  have HP : Hid (parseP (textC k j false) = (zeroT, 15)) := Lib.hid (by rw [parseP_counts k j false hk hj, if_neg (by unfold rightC; simp; omega)])
  have HX : Hid (textC k j false = [120, 123] ++ twoB k ++ (44 :: (twoB j ++ [125]))) := Lib.hid rfl
  have g1 : decide ((k : Int) < 0) = false := by simp
  have g2 : decide ((120 : Int) < k) = false := by simp; omega
  have g2n : decide (120 < k) = false := by simp; omega
  have g3 : decide ((j : Int) < 0) = false := by simp
  have g4 : decide ((120 : Int) < j) = false := by simp; omega
  have g4n : decide (120 < j) = false := by simp; omega
  have g50 : decide ((k : Int) ≤ 50) = true := by simp; omega
  have g50n : decide (k ≤ 50) = true := by simp; omega
  have h50 : decide ((j : Int) ≤ 50) = false := by simp; omega
  have h50n : decide (j ≤ 50) = false := by simp; omega
  have l1 := (twoB_ok k).1
  have l2 := (twoB_ok j).1
  have T1 := Lib.hid (fun W => two_any k W hk)
  have T2 := Lib.hid (fun W => two_any j W hj)
  have HK64 : Hid (in64 (k : Int) ∧ in64 (j : Int)) := Lib.hid (by unfold in64; omega)
  clear ht hk hj
  generalize twoB k = B1 at *
  generalize twoB j = B2 at *
  go_enter Tryd.func4, Tryd.ntmps4
  go_wp2_with fail
  refine (parseAwake_any _ HT.out).mono ?_
  rintro e w1 ⟨rfl, k1⟩
  have K1 := Lib.hid k1
  clear k1
  go_wp2_with fail
  refine (T1.out _).mono ?_
  rintro e w2 ⟨rfl, k2⟩
  have K2 := Lib.hid (K1.out.trans k2)
  clear k2
  unfold strL
  go_wp2_with fail
  refine (T2.out _).mono ?_
  rintro e w3 ⟨rfl, k3⟩
  have K3 := Lib.hid (K2.out.trans k3)
  clear k3
  unfold strL
  go_wp2_with fail
  rw [show (⟨#[120, 123]⟩ ++ ⟨B1.toArray⟩ ++ ⟨#[44]⟩ ++ ⟨B2.toArray⟩ ++ ⟨#[125]⟩ : ByteArray) = ⟨(textC k j false).toArray⟩ by rw [HX.out]; apply ByteArray.ext; simp [ByteArray.data_append]]
  obtain ⟨wS, hwS⟩ : ∃ W, (((w3.alloc (.cells #[.int .i64 6, .slice none 0 0, .int .i64 k, .int .i64 j, .slice (some ⟨w3.heap.size + 1 + 1, 0, none⟩) 1 1] 26)).alloc (.cells #[.int .i64 120, .int .i64 120] 36)).alloc (.cells #[.int .i64 1, .slice (some ⟨w3.heap.size + 1, 0, none⟩) 1 1, .int .i64 0, .int .i64 0, .slice none 0 0] 26)) = W := ⟨_, rfl⟩
  rw [hwS]
  have kS : Keeps (fun _ => False) w3 wS := hwS ▸ (((Keeps.refl _ _).alloc _).alloc _).alloc _
  have KS := Lib.hid (K3.out.trans kS)
  have f0 : wS.cell? ⟨w3.heap.size, 0, none⟩ = some (.int .i64 6) := by rw [← hwS]; simp [go_sem]
  have f1 : wS.cell? ⟨w3.heap.size, 1, none⟩ = some (.slice none 0 0) := by rw [← hwS]; simp [go_sem]
  have f2 : wS.cell? ⟨w3.heap.size, 2, none⟩ = some (.int .i64 k) := by rw [← hwS]; simp [go_sem]
  have f3 : wS.cell? ⟨w3.heap.size, 3, none⟩ = some (.int .i64 j) := by rw [← hwS]; simp [go_sem]
  have f4 : wS.cell? ⟨w3.heap.size, 4, none⟩ = some (.slice (some ⟨w3.heap.size + 1 + 1, 0, none⟩) 1 1) := by rw [← hwS]; simp [go_sem]
  have hr0 : wS.cell? ⟨w3.heap.size + 1, 0 + 0 * 2 + 0, none⟩ = some (encR (120, 120) 0) := by rw [← hwS]; simp [go_sem, encR]
  have hr1 : wS.cell? ⟨w3.heap.size + 1, 0 + 0 * 2 + 1, none⟩ = some (encR (120, 120) 1) := by rw [← hwS]; simp [go_sem, encR]
  have hn : ∀ i, i < 5 → wS.cell? ⟨w3.heap.size + 1 + 1, 0 + 0 * 5 + i, none⟩ = some (encN ⟨1, .slice (some ⟨w3.heap.size + 1, 0, none⟩) 1 1, 0, 0, .slice none 0 0⟩ i) := by
    intro i hi
    rw [← hwS]
    match i, hi with
    | 0, _ => simp [go_sem, encN]
    | 1, _ => simp [go_sem, encN]
    | 2, _ => simp [go_sem, encN]
    | 3, _ => simp [go_sem, encN]
    | 4, _ => simp [go_sem, encN]
  have hC : TAt wS (fun _ => True) ⟨1, .slice (some ⟨w3.heap.size + 1, 0, none⟩) 1 1, 0, 0, .slice none 0 0⟩ (charT [(120, 120)]) := char_lit hr0 hr1
  have HW : Hid (TAt wS (fun _ => True) ⟨6, .slice none 0 0, k, j, .slice (some ⟨w3.heap.size + 1 + 1, 0, none⟩) 1 1⟩ (wantT k j false)) := Lib.hid (want_lit HK64.out.1 HK64.out.2 hn hC)
  clear hr0 hr1 hn hC kS hwS
  have htl : (textC k j false).length ≤ 9223372036854775807 := by
    rw [HX.out]; simp; omega
  refine (parse_any (textC k j false) _ htl).mono ?_
  rw [HP.out]
  rintro e w6 ⟨v, rfl, hv, k6⟩
  obtain ⟨o, a1, n1, c1, m, x, a2, n2, cc2, rfl⟩ := NV.form hv
  have K6 := Lib.hid (KS.out.trans k6)
  have HV := Lib.hid hv
  have HW6 := Lib.hid (HW.out.keepsTo (Q := fun _ => True) k6 (fun _ _ => id) (fun _ h => h))
  have f0 := alloc_cell (k6.cell f0 id) (.cells #[.int .i64 o, .slice a1 n1 c1, .int .i64 m, .int .i64 x, .slice a2 n2 cc2] 26)
  have f1 := alloc_cell (k6.cell f1 id) (.cells #[.int .i64 o, .slice a1 n1 c1, .int .i64 m, .int .i64 x, .slice a2 n2 cc2] 26)
  have f2 := alloc_cell (k6.cell f2 id) (.cells #[.int .i64 o, .slice a1 n1 c1, .int .i64 m, .int .i64 x, .slice a2 n2 cc2] 26)
  have f3 := alloc_cell (k6.cell f3 id) (.cells #[.int .i64 o, .slice a1 n1 c1, .int .i64 m, .int .i64 x, .slice a2 n2 cc2] 26)
  have f4 := alloc_cell (k6.cell f4 id) (.cells #[.int .i64 o, .slice a1 n1 c1, .int .i64 m, .int .i64 x, .slice a2 n2 cc2] 26)
  have ka : Keeps (fun _ => False) w6 (w6.alloc (.cells #[.int .i64 o, .slice a1 n1 c1, .int .i64 m, .int .i64 x, .slice a2 n2 cc2] 26)) := (Keeps.refl _ _).alloc _
  have KA := Lib.hid ka
  clear hv k6 ka
  unfold NV.val
  have HSm := Lib.hid (fun W (K : Keeps (fun _ => False) (w6.alloc (.cells #[.int .i64 o, .slice a1 n1 c1, .int .i64 m, .int .i64 x, .slice a2 n2 cc2] 26)) W) => refTreeSame_any zeroT zeroT _ _ ⟨o, .slice a1 n1 c1, m, x, .slice a2 n2 cc2⟩ ⟨0, .slice none 0 0, 0, 0, .slice none 0 0⟩ W (HV.out.keepsTo (KA.out.trans K) (fun _ _ => id) (fun _ h => h)) (TAt.zero W (fun _ => True)))
  rw [show decide (zeroT = zeroT) = true from decide_eq_true rfl] at HSm
  unfold NV.val at HSm
  go_wp2_with fail
  refine (HSm.out _ (Keeps.refl _ _)).mono ?_
  rintro e w7 ⟨rfl, k7⟩
  have K7 := Lib.hid ((K6.out.trans KA.out).trans k7)
  clear k7
  go_wp2_with fail
  go_ret
  exact ⟨rfl, K7.out⟩

set_option maxHeartbeats 8000000 in
theorem counts_true_1 (k j : Nat) (w : World) (ht : TabW w) (hk : k ≤ 120) (hj : j ≤ 120) (h1 : k ≤ 50) (h2 : 50 < j) :
    Calls Tryd.prog 4 #[.int .i64 k, .int .i64 j, .bool true] w fun e w' => e = .returned (.bool true) ∧ Keeps (fun _ => False) w w' := by
  have HT := Lib.hid ht
  have HP : Hid (parseP (textC k j true) = (wantT k j true, 0)) := Lib.hid (by rw [parseP_counts k j true hk hj, if_pos (by unfold rightC; simp; omega)])
  have HX : Hid (textC k j true = [120, 123] ++ twoB k ++ [44, 125]) := Lib.hid rfl
  have g1 : decide ((k : Int) < 0) = false := by simp
  have g2 : decide ((120 : Int) < k) = false := by simp; omega
  have g2n : decide (120 < k) = false := by simp; omega
  have g3 : decide ((j : Int) < 0) = false := by simp
  have g4 : decide ((120 : Int) < j) = false := by simp; omega
  have g4n : decide (120 < j) = false := by simp; omega
  have g50 : decide ((k : Int) ≤ 50) = true := by simp; omega
  have g50n : decide (k ≤ 50) = true := by simp; omega
  have h50 : decide ((j : Int) ≤ 50) = false := by simp; omega
  have h50n : decide (j ≤ 50) = false := by simp; omega
  have l1 := (twoB_ok k).1
  have l2 := (twoB_ok j).1
  have T1 := Lib.hid (fun W => two_any k W hk)
  have T2 := Lib.hid (fun W => two_any j W hj)
  have HK64 : Hid (in64 (k : Int) ∧ in64 (j : Int)) := Lib.hid (by unfold in64; omega)
  clear ht hk hj
  generalize twoB k = B1 at *
  generalize twoB j = B2 at *
  go_enter Tryd.func4, Tryd.ntmps4
  go_wp2_with fail
  refine (parseAwake_any _ HT.out).mono ?_
  rintro e w1 ⟨rfl, k1⟩
  have K1 := Lib.hid k1
  clear k1
  go_wp2_with fail
  refine (T1.out _).mono ?_
  rintro e w2 ⟨rfl, k2⟩
  have K2 := Lib.hid (K1.out.trans k2)
  clear k2
  unfold strL
  go_wp2_with fail
  refine (T2.out _).mono ?_
  rintro e w3 ⟨rfl, k3⟩
  have K3 := Lib.hid (K2.out.trans k3)
  clear k3
  unfold strL
  go_wp2_with fail
  have z3 : (w3.alloc (.cells #[.int .i64 6, .slice none 0 0, .int .i64 k, .int .i64 j, .slice none 0 0] 26)).cell? ⟨w3.heap.size, 3, none⟩ = some (.int .i64 j) := by simp [go_sem]
  refine (T1.out _).mono ?_
  rintro e w4 ⟨rfl, k4⟩
  have y0 : w4.cell? ⟨w3.heap.size, 0, none⟩ = some (.int .i64 6) := k4.cell (by simp [go_sem]) id
  have y1 : w4.cell? ⟨w3.heap.size, 1, none⟩ = some (.slice none 0 0) := k4.cell (by simp [go_sem]) id
  have y2 : w4.cell? ⟨w3.heap.size, 2, none⟩ = some (.int .i64 k) := k4.cell (by simp [go_sem]) id
  have y3 : w4.cell? ⟨w3.heap.size, 3, none⟩ = some (.int .i64 j) := k4.cell (by simp [go_sem]) id
  have y4 : w4.cell? ⟨w3.heap.size, 4, none⟩ = some (.slice none 0 0) := k4.cell (by simp [go_sem]) id
  have q3 : w4.frozen? ⟨w3.heap.size, 3, none⟩ = false := k4.frozen (by simp [go_sem]) (by simp) id
  have q4 : w4.frozen? ⟨w3.heap.size, 4, none⟩ = false := k4.frozen (by simp [go_sem]) (by simp) id
  have hs4 := k4.size
  simp at hs4
  have K4 : Hid (Keeps (fun _ => False) w w4) := Lib.hid (K3.out.trans (Keeps.trans (by (repeat' (with_reducible first | exact Keeps.refl _ _ | assumption | refine Keeps.drawN ?_ _ | refine Keeps.drew ?_ | refine Keeps.setCell ?_ ?_ _ | refine Keeps.alloc ?_ _)) <;> (first | exact Or.inr (Nat.le_refl _) | exact Or.inl rfl | exact Or.inl (Or.inl rfl) | exact Or.inl (Or.inr rfl) | (right; simp; done) | (right; simp; omega))) k4))
  clear k4 z3
  unfold strL
  have hbl : w3.heap.size < w4.heap.size := by omega
  go_wp2_with fail
  rw [show (⟨#[120, 123]⟩ ++ ⟨B1.toArray⟩ ++ ⟨#[44, 125]⟩ : ByteArray) = ⟨(textC k j true).toArray⟩ by rw [HX.out]; apply ByteArray.ext; simp [ByteArray.data_append]]
  obtain ⟨wS, hwS⟩ : ∃ W, ((((w4.setCell ⟨w3.heap.size, 3, none⟩ (.int .i64 (-1))).setCell ⟨w3.heap.size, 4, none⟩ (.slice (some ⟨w4.heap.size + 1, 0, none⟩) 1 1)).alloc (.cells #[.int .i64 120, .int .i64 120] 36)).alloc (.cells #[.int .i64 1, .slice (some ⟨w4.heap.size, 0, none⟩) 1 1, .int .i64 0, .int .i64 0, .slice none 0 0] 26)) = W := ⟨_, rfl⟩
  rw [hwS]
  have hb2 : w3.heap.size ≠ w4.heap.size := by omega
  have hb3 : w3.heap.size ≠ w4.heap.size + 1 := by omega
  obtain ⟨wT, hwT⟩ : ∃ W, (w4.setCell ⟨w3.heap.size, 3, none⟩ (.int .i64 (-1))).setCell ⟨w3.heap.size, 4, none⟩ (.slice (some ⟨w4.heap.size + 1, 0, none⟩) 1 1) = W := ⟨_, rfl⟩
  have hTs : wT.heap.size = w4.heap.size := by rw [← hwT]; simp
  have e0 : wT.cell? ⟨w3.heap.size, 0, none⟩ = some (.int .i64 6) := by rw [← hwT, cell_set_other (by simp), cell_set_other (by simp)]; exact y0
  have e1 : wT.cell? ⟨w3.heap.size, 1, none⟩ = some (.slice none 0 0) := by rw [← hwT, cell_set_other (by simp), cell_set_other (by simp)]; exact y1
  have e2 : wT.cell? ⟨w3.heap.size, 2, none⟩ = some (.int .i64 k) := by rw [← hwT, cell_set_other (by simp), cell_set_other (by simp)]; exact y2
  have e3 : wT.cell? ⟨w3.heap.size, 3, none⟩ = some (.int .i64 (-1)) := by rw [← hwT, cell_set_other (by simp)]; exact cell_set_same y3
  have e4 : wT.cell? ⟨w3.heap.size, 4, none⟩ = some (.slice (some ⟨w4.heap.size + 1, 0, none⟩) 1 1) := by rw [← hwT]; exact cell_set_same (by rw [cell_set_other (by simp)]; exact y4)
  have kT : Keeps (fun b => b = w3.heap.size) w4 wT := hwT ▸ ((Keeps.refl (fun b => b = w3.heap.size) _).set (p := ⟨w3.heap.size, 3, none⟩) rfl _).set (p := ⟨w3.heap.size, 4, none⟩) rfl _
  have hsz3 := K3.out.size
  have KT : Hid (Keeps (fun _ => False) w wT) := Lib.hid (K4.out.trans2 kT (fun b hb e => by omega))
  rw [hwT] at hwS
  have kS : Keeps (fun _ => False) wT wS := hwS ▸ ((Keeps.refl _ _).alloc _).alloc _
  have KS := Lib.hid (KT.out.trans kS)
  have f0 := kS.cell e0 id
  have f1 := kS.cell e1 id
  have f2 := kS.cell e2 id
  have f3 := kS.cell e3 id
  have f4 := kS.cell e4 id
  have hr0 : wS.cell? ⟨w4.heap.size, 0 + 0 * 2 + 0, none⟩ = some (encR (120, 120) 0) := by rw [← hwS, ← hTs]; simp [go_sem, encR]
  have hr1 : wS.cell? ⟨w4.heap.size, 0 + 0 * 2 + 1, none⟩ = some (encR (120, 120) 1) := by rw [← hwS, ← hTs]; simp [go_sem, encR]
  have hn : ∀ i, i < 5 → wS.cell? ⟨w4.heap.size + 1, 0 + 0 * 5 + i, none⟩ = some (encN ⟨1, .slice (some ⟨w4.heap.size, 0, none⟩) 1 1, 0, 0, .slice none 0 0⟩ i) := by
    intro i hi
    rw [← hwS, ← hTs]
    match i, hi with
    | 0, _ => simp [go_sem, encN]
    | 1, _ => simp [go_sem, encN]
    | 2, _ => simp [go_sem, encN]
    | 3, _ => simp [go_sem, encN]
    | 4, _ => simp [go_sem, encN]
  have hC : TAt wS (fun _ => True) ⟨1, .slice (some ⟨w4.heap.size, 0, none⟩) 1 1, 0, 0, .slice none 0 0⟩ (charT [(120, 120)]) := char_lit hr0 hr1
  have HW : Hid (TAt wS (fun _ => True) ⟨6, .slice none 0 0, k, (-1), .slice (some ⟨w4.heap.size + 1, 0, none⟩) 1 1⟩ (wantT k j true)) := Lib.hid (want_lit HK64.out.1 (by unfold in64; decide) hn hC)
  clear hr0 hr1 hn hC kS hwS
  have htl : (textC k j true).length ≤ 9223372036854775807 := by
    rw [HX.out]; simp; omega
  refine (parse_any (textC k j true) _ htl).mono ?_
  rw [HP.out]
  rintro e w6 ⟨v, rfl, hv, k6⟩
  obtain ⟨o, a1, n1, c1, m, x, a2, n2, cc2, rfl⟩ := NV.form hv
  have K6 := Lib.hid (KS.out.trans k6)
  have HV := Lib.hid hv
  have HW6 := Lib.hid (HW.out.keepsTo (Q := fun _ => True) k6 (fun _ _ => id) (fun _ h => h))
  have f0 := alloc_cell (k6.cell f0 id) (.cells #[.int .i64 o, .slice a1 n1 c1, .int .i64 m, .int .i64 x, .slice a2 n2 cc2] 26)
  have f1 := alloc_cell (k6.cell f1 id) (.cells #[.int .i64 o, .slice a1 n1 c1, .int .i64 m, .int .i64 x, .slice a2 n2 cc2] 26)
  have f2 := alloc_cell (k6.cell f2 id) (.cells #[.int .i64 o, .slice a1 n1 c1, .int .i64 m, .int .i64 x, .slice a2 n2 cc2] 26)
  have f3 := alloc_cell (k6.cell f3 id) (.cells #[.int .i64 o, .slice a1 n1 c1, .int .i64 m, .int .i64 x, .slice a2 n2 cc2] 26)
  have f4 := alloc_cell (k6.cell f4 id) (.cells #[.int .i64 o, .slice a1 n1 c1, .int .i64 m, .int .i64 x, .slice a2 n2 cc2] 26)
  have ka : Keeps (fun _ => False) w6 (w6.alloc (.cells #[.int .i64 o, .slice a1 n1 c1, .int .i64 m, .int .i64 x, .slice a2 n2 cc2] 26)) := (Keeps.refl _ _).alloc _
  have KA := Lib.hid ka
  clear hv k6 ka
  unfold NV.val
  have HSm := Lib.hid (fun W (K : Keeps (fun _ => False) (w6.alloc (.cells #[.int .i64 o, .slice a1 n1 c1, .int .i64 m, .int .i64 x, .slice a2 n2 cc2] 26)) W) => refTreeSame_any (wantT k j true) (wantT k j true) _ _ ⟨o, .slice a1 n1 c1, m, x, .slice a2 n2 cc2⟩ ⟨6, .slice none 0 0, k, (-1), .slice (some ⟨w4.heap.size + 1, 0, none⟩) 1 1⟩ W (HV.out.keepsTo (KA.out.trans K) (fun _ _ => id) (fun _ h => h)) (HW6.out.keepsTo (Q := fun _ => True) (KA.out.trans K) (fun _ _ => id) (fun _ h => h)))
  rw [show decide (wantT k j true = wantT k j true) = true from decide_eq_true rfl] at HSm
  unfold NV.val at HSm
  go_wp2_with fail
  refine (HSm.out _ (Keeps.refl _ _)).mono ?_
  rintro e w7 ⟨rfl, k7⟩
  have K7 := Lib.hid ((K6.out.trans KA.out).trans k7)
  clear k7
  go_wp2_with fail
  go_ret
  exact ⟨rfl, K7.out⟩

set_option maxHeartbeats 8000000 in
theorem counts_false_2 (k j : Nat) (w : World) (ht : TabW w) (hk : k ≤ 120) (hj : j ≤ 120) (h1 : k ≤ 50) (h2 : j ≤ 50) (h3 : j < k) :
    Calls Tryd.prog 4 #[.int .i64 k, .int .i64 j, .bool false] w fun e w' => e = .returned (.bool true) ∧ Keeps (fun _ => False) w w' := by
  have HT := Lib.hid ht
  have HP : Hid (parseP (textC k j false) = (zeroT, 15)) := Lib.hid (by rw [parseP_counts k j false hk hj, if_neg (by unfold rightC; simp; omega)])
  have HX : Hid (textC k j false = [120, 123] ++ twoB k ++ (44 :: (twoB j ++ [125]))) := Lib.hid rfl
  have g1 : decide ((k : Int) < 0) = false := by simp
  have g2 : decide ((120 : Int) < k) = false := by simp; omega
  have g2n : decide (120 < k) = false := by simp; omega
  have g3 : decide ((j : Int) < 0) = false := by simp
  have g4 : decide ((120 : Int) < j) = false := by simp; omega
  have g4n : decide (120 < j) = false := by simp; omega
  have g50 : decide ((k : Int) ≤ 50) = true := by simp; omega
  have g50n : decide (k ≤ 50) = true := by simp; omega
  have h50 : decide ((j : Int) ≤ 50) = true := by simp; omega
  have h50n : decide (j ≤ 50) = true := by simp; omega
  have i50 : decide ((k : Int) ≤ (j : Int)) = false := by simp; omega
  have i50n : decide (k ≤ j) = false := by simp; omega
  have l1 := (twoB_ok k).1
  have l2 := (twoB_ok j).1
  have T1 := Lib.hid (fun W => two_any k W hk)
  have T2 := Lib.hid (fun W => two_any j W hj)
  have HK64 : Hid (in64 (k : Int) ∧ in64 (j : Int)) := Lib.hid (by unfold in64; omega)
  clear ht hk hj
  generalize twoB k = B1 at *
  generalize twoB j = B2 at *
  go_enter Tryd.func4, Tryd.ntmps4
  go_wp2_with fail
  refine (parseAwake_any _ HT.out).mono ?_
  rintro e w1 ⟨rfl, k1⟩
  have K1 := Lib.hid k1
  clear k1
  go_wp2_with fail
  refine (T1.out _).mono ?_
  rintro e w2 ⟨rfl, k2⟩
  have K2 := Lib.hid (K1.out.trans k2)
  clear k2
  unfold strL
  go_wp2_with fail
  refine (T2.out _).mono ?_
  rintro e w3 ⟨rfl, k3⟩
  have K3 := Lib.hid (K2.out.trans k3)
  clear k3
  unfold strL
  go_wp2_with fail
  rw [show (⟨#[120, 123]⟩ ++ ⟨B1.toArray⟩ ++ ⟨#[44]⟩ ++ ⟨B2.toArray⟩ ++ ⟨#[125]⟩ : ByteArray) = ⟨(textC k j false).toArray⟩ by rw [HX.out]; apply ByteArray.ext; simp [ByteArray.data_append]]
  obtain ⟨wS, hwS⟩ : ∃ W, (((w3.alloc (.cells #[.int .i64 6, .slice none 0 0, .int .i64 k, .int .i64 j, .slice (some ⟨w3.heap.size + 1 + 1, 0, none⟩) 1 1] 26)).alloc (.cells #[.int .i64 120, .int .i64 120] 36)).alloc (.cells #[.int .i64 1, .slice (some ⟨w3.heap.size + 1, 0, none⟩) 1 1, .int .i64 0, .int .i64 0, .slice none 0 0] 26)) = W := ⟨_, rfl⟩
  rw [hwS]
  have kS : Keeps (fun _ => False) w3 wS := hwS ▸ (((Keeps.refl _ _).alloc _).alloc _).alloc _
  have KS := Lib.hid (K3.out.trans kS)
  have f0 : wS.cell? ⟨w3.heap.size, 0, none⟩ = some (.int .i64 6) := by rw [← hwS]; simp [go_sem]
  have f1 : wS.cell? ⟨w3.heap.size, 1, none⟩ = some (.slice none 0 0) := by rw [← hwS]; simp [go_sem]
  have f2 : wS.cell? ⟨w3.heap.size, 2, none⟩ = some (.int .i64 k) := by rw [← hwS]; simp [go_sem]
  have f3 : wS.cell? ⟨w3.heap.size, 3, none⟩ = some (.int .i64 j) := by rw [← hwS]; simp [go_sem]
  have f4 : wS.cell? ⟨w3.heap.size, 4, none⟩ = some (.slice (some ⟨w3.heap.size + 1 + 1, 0, none⟩) 1 1) := by rw [← hwS]; simp [go_sem]
  have hr0 : wS.cell? ⟨w3.heap.size + 1, 0 + 0 * 2 + 0, none⟩ = some (encR (120, 120) 0) := by rw [← hwS]; simp [go_sem, encR]
  have hr1 : wS.cell? ⟨w3.heap.size + 1, 0 + 0 * 2 + 1, none⟩ = some (encR (120, 120) 1) := by rw [← hwS]; simp [go_sem, encR]
  have hn : ∀ i, i < 5 → wS.cell? ⟨w3.heap.size + 1 + 1, 0 + 0 * 5 + i, none⟩ = some (encN ⟨1, .slice (some ⟨w3.heap.size + 1, 0, none⟩) 1 1, 0, 0, .slice none 0 0⟩ i) := by
    intro i hi
    rw [← hwS]
    match i, hi with
    | 0, _ => simp [go_sem, encN]
    | 1, _ => simp [go_sem, encN]
    | 2, _ => simp [go_sem, encN]
    | 3, _ => simp [go_sem, encN]
    | 4, _ => simp [go_sem, encN]
  have hC : TAt wS (fun _ => True) ⟨1, .slice (some ⟨w3.heap.size + 1, 0, none⟩) 1 1, 0, 0, .slice none 0 0⟩ (charT [(120, 120)]) := char_lit hr0 hr1
  have HW : Hid (TAt wS (fun _ => True) ⟨6, .slice none 0 0, k, j, .slice (some ⟨w3.heap.size + 1 + 1, 0, none⟩) 1 1⟩ (wantT k j false)) := Lib.hid (want_lit HK64.out.1 HK64.out.2 hn hC)
  clear hr0 hr1 hn hC kS hwS
  have htl : (textC k j false).length ≤ 9223372036854775807 := by
    rw [HX.out]; simp; omega
  refine (parse_any (textC k j false) _ htl).mono ?_
  rw [HP.out]
  rintro e w6 ⟨v, rfl, hv, k6⟩
  obtain ⟨o, a1, n1, c1, m, x, a2, n2, cc2, rfl⟩ := NV.form hv
  have K6 := Lib.hid (KS.out.trans k6)
  have HV := Lib.hid hv
  have HW6 := Lib.hid (HW.out.keepsTo (Q := fun _ => True) k6 (fun _ _ => id) (fun _ h => h))
  have f0 := alloc_cell (k6.cell f0 id) (.cells #[.int .i64 o, .slice a1 n1 c1, .int .i64 m, .int .i64 x, .slice a2 n2 cc2] 26)
  have f1 := alloc_cell (k6.cell f1 id) (.cells #[.int .i64 o, .slice a1 n1 c1, .int .i64 m, .int .i64 x, .slice a2 n2 cc2] 26)
  have f2 := alloc_cell (k6.cell f2 id) (.cells #[.int .i64 o, .slice a1 n1 c1, .int .i64 m, .int .i64 x, .slice a2 n2 cc2] 26)
  have f3 := alloc_cell (k6.cell f3 id) (.cells #[.int .i64 o, .slice a1 n1 c1, .int .i64 m, .int .i64 x, .slice a2 n2 cc2] 26)
  have f4 := alloc_cell (k6.cell f4 id) (.cells #[.int .i64 o, .slice a1 n1 c1, .int .i64 m, .int .i64 x, .slice a2 n2 cc2] 26)
  have ka : Keeps (fun _ => False) w6 (w6.alloc (.cells #[.int .i64 o, .slice a1 n1 c1, .int .i64 m, .int .i64 x, .slice a2 n2 cc2] 26)) := (Keeps.refl _ _).alloc _
  have KA := Lib.hid ka
  clear hv k6 ka
  unfold NV.val
  have HSm := Lib.hid (fun W (K : Keeps (fun _ => False) (w6.alloc (.cells #[.int .i64 o, .slice a1 n1 c1, .int .i64 m, .int .i64 x, .slice a2 n2 cc2] 26)) W) => refTreeSame_any zeroT zeroT _ _ ⟨o, .slice a1 n1 c1, m, x, .slice a2 n2 cc2⟩ ⟨0, .slice none 0 0, 0, 0, .slice none 0 0⟩ W (HV.out.keepsTo (KA.out.trans K) (fun _ _ => id) (fun _ h => h)) (TAt.zero W (fun _ => True)))
  rw [show decide (zeroT = zeroT) = true from decide_eq_true rfl] at HSm
  unfold NV.val at HSm
  go_wp2_with fail
  refine (HSm.out _ (Keeps.refl _ _)).mono ?_
  rintro e w7 ⟨rfl, k7⟩
  have K7 := Lib.hid ((K6.out.trans KA.out).trans k7)
  clear k7
  go_wp2_with fail
  go_ret
  exact ⟨rfl, K7.out⟩

set_option maxHeartbeats 8000000 in
theorem counts_true_2 (k j : Nat) (w : World) (ht : TabW w) (hk : k ≤ 120) (hj : j ≤ 120) (h1 : k ≤ 50) (h2 : j ≤ 50) (h3 : j < k) :
    Calls Tryd.prog 4 #[.int .i64 k, .int .i64 j, .bool true] w fun e w' => e = .returned (.bool true) ∧ Keeps (fun _ => False) w w' := by
  have HT := Lib.hid ht
  have HP : Hid (parseP (textC k j true) = (wantT k j true, 0)) := Lib.hid (by rw [parseP_counts k j true hk hj, if_pos (by unfold rightC; simp; omega)])
  have HX : Hid (textC k j true = [120, 123] ++ twoB k ++ [44, 125]) := Lib.hid rfl
  have g1 : decide ((k : Int) < 0) = false := by simp
  have g2 : decide ((120 : Int) < k) = false := by simp; omega
  have g2n : decide (120 < k) = false := by simp; omega
  have g3 : decide ((j : Int) < 0) = false := by simp
  have g4 : decide ((120 : Int) < j) = false := by simp; omega
  have g4n : decide (120 < j) = false := by simp; omega
  have g50 : decide ((k : Int) ≤ 50) = true := by simp; omega
  have g50n : decide (k ≤ 50) = true := by simp; omega
  have h50 : decide ((j : Int) ≤ 50) = true := by simp; omega
  have h50n : decide (j ≤ 50) = true := by simp; omega
  have i50 : decide ((k : Int) ≤ (j : Int)) = false := by simp; omega
  have i50n : decide (k ≤ j) = false := by simp; omega
  have l1 := (twoB_ok k).1
  have l2 := (twoB_ok j).1
  have T1 := Lib.hid (fun W => two_any k W hk)
  have T2 := Lib.hid (fun W => two_any j W hj)
  have HK64 : Hid (in64 (k : Int) ∧ in64 (j : Int)) := Lib.hid (by unfold in64; omega)
  clear ht hk hj
  generalize twoB k = B1 at *
  generalize twoB j = B2 at *
  go_enter Tryd.func4, Tryd.ntmps4
  go_wp2_with fail
  refine (parseAwake_any _ HT.out).mono ?_
  rintro e w1 ⟨rfl, k1⟩
  have K1 := Lib.hid k1
  clear k1
  go_wp2_with fail
  refine (T1.out _).mono ?_
  rintro e w2 ⟨rfl, k2⟩
  have K2 := Lib.hid (K1.out.trans k2)
  clear k2
  unfold strL
  go_wp2_with fail
  refine (T2.out _).mono ?_
  rintro e w3 ⟨rfl, k3⟩
  have K3 := Lib.hid (K2.out.trans k3)
  clear k3
  unfold strL
  go_wp2_with fail
  have z3 : (w3.alloc (.cells #[.int .i64 6, .slice none 0 0, .int .i64 k, .int .i64 j, .slice none 0 0] 26)).cell? ⟨w3.heap.size, 3, none⟩ = some (.int .i64 j) := by simp [go_sem]
  refine (T1.out _).mono ?_
  rintro e w4 ⟨rfl, k4⟩
  have y0 : w4.cell? ⟨w3.heap.size, 0, none⟩ = some (.int .i64 6) := k4.cell (by simp [go_sem]) id
  have y1 : w4.cell? ⟨w3.heap.size, 1, none⟩ = some (.slice none 0 0) := k4.cell (by simp [go_sem]) id
  have y2 : w4.cell? ⟨w3.heap.size, 2, none⟩ = some (.int .i64 k) := k4.cell (by simp [go_sem]) id
  have y3 : w4.cell? ⟨w3.heap.size, 3, none⟩ = some (.int .i64 j) := k4.cell (by simp [go_sem]) id
  have y4 : w4.cell? ⟨w3.heap.size, 4, none⟩ = some (.slice none 0 0) := k4.cell (by simp [go_sem]) id
  have q3 : w4.frozen? ⟨w3.heap.size, 3, none⟩ = false := k4.frozen (by simp [go_sem]) (by simp) id
  have q4 : w4.frozen? ⟨w3.heap.size, 4, none⟩ = false := k4.frozen (by simp [go_sem]) (by simp) id
  have hs4 := k4.size
  simp at hs4
  have K4 : Hid (Keeps (fun _ => False) w w4) := Lib.hid (K3.out.trans (Keeps.trans (by (repeat' (with_reducible first | exact Keeps.refl _ _ | assumption | refine Keeps.drawN ?_ _ | refine Keeps.drew ?_ | refine Keeps.setCell ?_ ?_ _ | refine Keeps.alloc ?_ _)) <;> (first | exact Or.inr (Nat.le_refl _) | exact Or.inl rfl | exact Or.inl (Or.inl rfl) | exact Or.inl (Or.inr rfl) | (right; simp; done) | (right; simp; omega))) k4))
  clear k4 z3
  unfold strL
  have hbl : w3.heap.size < w4.heap.size := by omega
  go_wp2_with fail
  rw [show (⟨#[120, 123]⟩ ++ ⟨B1.toArray⟩ ++ ⟨#[44, 125]⟩ : ByteArray) = ⟨(textC k j true).toArray⟩ by rw [HX.out]; apply ByteArray.ext; simp [ByteArray.data_append]]
  obtain ⟨wS, hwS⟩ : ∃ W, ((((w4.setCell ⟨w3.heap.size, 3, none⟩ (.int .i64 (-1))).setCell ⟨w3.heap.size, 4, none⟩ (.slice (some ⟨w4.heap.size + 1, 0, none⟩) 1 1)).alloc (.cells #[.int .i64 120, .int .i64 120] 36)).alloc (.cells #[.int .i64 1, .slice (some ⟨w4.heap.size, 0, none⟩) 1 1, .int .i64 0, .int .i64 0, .slice none 0 0] 26)) = W := ⟨_, rfl⟩
  rw [hwS]
  have hb2 : w3.heap.size ≠ w4.heap.size := by omega
  have hb3 : w3.heap.size ≠ w4.heap.size + 1 := by omega
  obtain ⟨wT, hwT⟩ : ∃ W, (w4.setCell ⟨w3.heap.size, 3, none⟩ (.int .i64 (-1))).setCell ⟨w3.heap.size, 4, none⟩ (.slice (some ⟨w4.heap.size + 1, 0, none⟩) 1 1) = W := ⟨_, rfl⟩
  have hTs : wT.heap.size = w4.heap.size := by rw [← hwT]; simp
  have e0 : wT.cell? ⟨w3.heap.size, 0, none⟩ = some (.int .i64 6) := by rw [← hwT, cell_set_other (by simp), cell_set_other (by simp)]; exact y0
  have e1 : wT.cell? ⟨w3.heap.size, 1, none⟩ = some (.slice none 0 0) := by rw [← hwT, cell_set_other (by simp), cell_set_other (by simp)]; exact y1
  have e2 : wT.cell? ⟨w3.heap.size, 2, none⟩ = some (.int .i64 k) := by rw [← hwT, cell_set_other (by simp), cell_set_other (by simp)]; exact y2
  have e3 : wT.cell? ⟨w3.heap.size, 3, none⟩ = some (.int .i64 (-1)) := by rw [← hwT, cell_set_other (by simp)]; exact cell_set_same y3
  have e4 : wT.cell? ⟨w3.heap.size, 4, none⟩ = some (.slice (some ⟨w4.heap.size + 1, 0, none⟩) 1 1) := by rw [← hwT]; exact cell_set_same (by rw [cell_set_other (by simp)]; exact y4)
  have kT : Keeps (fun b => b = w3.heap.size) w4 wT := hwT ▸ ((Keeps.refl (fun b => b = w3.heap.size) _).set (p := ⟨w3.heap.size, 3, none⟩) rfl _).set (p := ⟨w3.heap.size, 4, none⟩) rfl _
  have hsz3 := K3.out.size
  have KT : Hid (Keeps (fun _ => False) w wT) := Lib.hid (K4.out.trans2 kT (fun b hb e => by omega))
  rw [hwT] at hwS
  have kS : Keeps (fun _ => False) wT wS := hwS ▸ ((Keeps.refl _ _).alloc _).alloc _
  have KS := Lib.hid (KT.out.trans kS)
  have f0 := kS.cell e0 id
  have f1 := kS.cell e1 id
  have f2 := kS.cell e2 id
  have f3 := kS.cell e3 id
  have f4 := kS.cell e4 id
  have hr0 : wS.cell? ⟨w4.heap.size, 0 + 0 * 2 + 0, none⟩ = some (encR (120, 120) 0) := by rw [← hwS, ← hTs]; simp [go_sem, encR]
  have hr1 : wS.cell? ⟨w4.heap.size, 0 + 0 * 2 + 1, none⟩ = some (encR (120, 120) 1) := by rw [← hwS, ← hTs]; simp [go_sem, encR]
  have hn : ∀ i, i < 5 → wS.cell? ⟨w4.heap.size + 1, 0 + 0 * 5 + i, none⟩ = some (encN ⟨1, .slice (some ⟨w4.heap.size, 0, none⟩) 1 1, 0, 0, .slice none 0 0⟩ i) := by
    intro i hi
    rw [← hwS, ← hTs]
    match i, hi with
    | 0, _ => simp [go_sem, encN]
    | 1, _ => simp [go_sem, encN]
    | 2, _ => simp [go_sem, encN]
    | 3, _ => simp [go_sem, encN]
    | 4, _ => simp [go_sem, encN]
  have hC : TAt wS (fun _ => True) ⟨1, .slice (some ⟨w4.heap.size, 0, none⟩) 1 1, 0, 0, .slice none 0 0⟩ (charT [(120, 120)]) := char_lit hr0 hr1
  have HW : Hid (TAt wS (fun _ => True) ⟨6, .slice none 0 0, k, (-1), .slice (some ⟨w4.heap.size + 1, 0, none⟩) 1 1⟩ (wantT k j true)) := Lib.hid (want_lit HK64.out.1 (by unfold in64; decide) hn hC)
  clear hr0 hr1 hn hC kS hwS
  have htl : (textC k j true).length ≤ 9223372036854775807 := by
    rw [HX.out]; simp; omega
  refine (parse_any (textC k j true) _ htl).mono ?_
  rw [HP.out]
  rintro e w6 ⟨v, rfl, hv, k6⟩
  obtain ⟨o, a1, n1, c1, m, x, a2, n2, cc2, rfl⟩ := NV.form hv
  have K6 := Lib.hid (KS.out.trans k6)
  have HV := Lib.hid hv
  have HW6 := Lib.hid (HW.out.keepsTo (Q := fun _ => True) k6 (fun _ _ => id) (fun _ h => h))
  have f0 := alloc_cell (k6.cell f0 id) (.cells #[.int .i64 o, .slice a1 n1 c1, .int .i64 m, .int .i64 x, .slice a2 n2 cc2] 26)
  have f1 := alloc_cell (k6.cell f1 id) (.cells #[.int .i64 o, .slice a1 n1 c1, .int .i64 m, .int .i64 x, .slice a2 n2 cc2] 26)
  have f2 := alloc_cell (k6.cell f2 id) (.cells #[.int .i64 o, .slice a1 n1 c1, .int .i64 m, .int .i64 x, .slice a2 n2 cc2] 26)
  have f3 := alloc_cell (k6.cell f3 id) (.cells #[.int .i64 o, .slice a1 n1 c1, .int .i64 m, .int .i64 x, .slice a2 n2 cc2] 26)
  have f4 := alloc_cell (k6.cell f4 id) (.cells #[.int .i64 o, .slice a1 n1 c1, .int .i64 m, .int .i64 x, .slice a2 n2 cc2] 26)
  have ka : Keeps (fun _ => False) w6 (w6.alloc (.cells #[.int .i64 o, .slice a1 n1 c1, .int .i64 m, .int .i64 x, .slice a2 n2 cc2] 26)) := (Keeps.refl _ _).alloc _
  have KA := Lib.hid ka
  clear hv k6 ka
  unfold NV.val
  have HSm := Lib.hid (fun W (K : Keeps (fun _ => False) (w6.alloc (.cells #[.int .i64 o, .slice a1 n1 c1, .int .i64 m, .int .i64 x, .slice a2 n2 cc2] 26)) W) => refTreeSame_any (wantT k j true) (wantT k j true) _ _ ⟨o, .slice a1 n1 c1, m, x, .slice a2 n2 cc2⟩ ⟨6, .slice none 0 0, k, (-1), .slice (some ⟨w4.heap.size + 1, 0, none⟩) 1 1⟩ W (HV.out.keepsTo (KA.out.trans K) (fun _ _ => id) (fun _ h => h)) (HW6.out.keepsTo (Q := fun _ => True) (KA.out.trans K) (fun _ _ => id) (fun _ h => h)))
  rw [show decide (wantT k j true = wantT k j true) = true from decide_eq_true rfl] at HSm
  unfold NV.val at HSm
  go_wp2_with fail
  refine (HSm.out _ (Keeps.refl _ _)).mono ?_
  rintro e w7 ⟨rfl, k7⟩
  have K7 := Lib.hid ((K6.out.trans KA.out).trans k7)
  clear k7
  go_wp2_with fail
  go_ret
  exact ⟨rfl, K7.out⟩

set_option maxHeartbeats 8000000 in
theorem counts_false_3 (k j : Nat) (w : World) (ht : TabW w) (hk : k ≤ 120) (hj : j ≤ 120) (h1 : k ≤ 50) (h2 : j ≤ 50) (h3 : k ≤ j) :
    Calls Tryd.prog 4 #[.int .i64 k, .int .i64 j, .bool false] w fun e w' => e = .returned (.bool true) ∧ Keeps (fun _ => False) w w' := by
  have HT := Lib.hid ht
  have HP : Hid (parseP (textC k j false) = (wantT k j false, 0)) := Lib.hid (by rw [parseP_counts k j false hk hj, if_pos (by unfold rightC; simp; omega)])
  have HX : Hid (textC k j false = [120, 123] ++ twoB k ++ (44 :: (twoB j ++ [125]))) := Lib.hid rfl
  have g1 : decide ((k : Int) < 0) = false := by simp
  have g2 : decide ((120 : Int) < k) = false := by simp; omega
  have g2n : decide (120 < k) = false := by simp; omega
  have g3 : decide ((j : Int) < 0) = false := by simp
  have g4 : decide ((120 : Int) < j) = false := by simp; omega
  have g4n : decide (120 < j) = false := by simp; omega
  have g50 : decide ((k : Int) ≤ 50) = true := by simp; omega
  have g50n : decide (k ≤ 50) = true := by simp; omega
  have h50 : decide ((j : Int) ≤ 50) = true := by simp; omega
  have h50n : decide (j ≤ 50) = true := by simp; omega
  have i50 : decide ((k : Int) ≤ (j : Int)) = true := by simp; omega
  have i50n : decide (k ≤ j) = true := by simp; omega
  have l1 := (twoB_ok k).1
  have l2 := (twoB_ok j).1
  have T1 := Lib.hid (fun W => two_any k W hk)
  have T2 := Lib.hid (fun W => two_any j W hj)
  have HK64 : Hid (in64 (k : Int) ∧ in64 (j : Int)) := Lib.hid (by unfold in64; omega)
  clear ht hk hj
  generalize twoB k = B1 at *
  generalize twoB j = B2 at *
  go_enter Tryd.func4, Tryd.ntmps4
  go_wp2_with fail
  refine (parseAwake_any _ HT.out).mono ?_
  rintro e w1 ⟨rfl, k1⟩
  have K1 := Lib.hid k1
  clear k1
  go_wp2_with fail
  refine (T1.out _).mono ?_
  rintro e w2 ⟨rfl, k2⟩
  have K2 := Lib.hid (K1.out.trans k2)
  clear k2
  unfold strL
  go_wp2_with fail
  refine (T2.out _).mono ?_
  rintro e w3 ⟨rfl, k3⟩
  have K3 := Lib.hid (K2.out.trans k3)
  clear k3
  unfold strL
  go_wp2_with fail
  rw [show (⟨#[120, 123]⟩ ++ ⟨B1.toArray⟩ ++ ⟨#[44]⟩ ++ ⟨B2.toArray⟩ ++ ⟨#[125]⟩ : ByteArray) = ⟨(textC k j false).toArray⟩ by rw [HX.out]; apply ByteArray.ext; simp [ByteArray.data_append]]
  obtain ⟨wS, hwS⟩ : ∃ W, (((w3.alloc (.cells #[.int .i64 6, .slice none 0 0, .int .i64 k, .int .i64 j, .slice (some ⟨w3.heap.size + 1 + 1, 0, none⟩) 1 1] 26)).alloc (.cells #[.int .i64 120, .int .i64 120] 36)).alloc (.cells #[.int .i64 1, .slice (some ⟨w3.heap.size + 1, 0, none⟩) 1 1, .int .i64 0, .int .i64 0, .slice none 0 0] 26)) = W := ⟨_, rfl⟩
  rw [hwS]
  have kS : Keeps (fun _ => False) w3 wS := hwS ▸ (((Keeps.refl _ _).alloc _).alloc _).alloc _
  have KS := Lib.hid (K3.out.trans kS)
  have f0 : wS.cell? ⟨w3.heap.size, 0, none⟩ = some (.int .i64 6) := by rw [← hwS]; simp [go_sem]
  have f1 : wS.cell? ⟨w3.heap.size, 1, none⟩ = some (.slice none 0 0) := by rw [← hwS]; simp [go_sem]
  have f2 : wS.cell? ⟨w3.heap.size, 2, none⟩ = some (.int .i64 k) := by rw [← hwS]; simp [go_sem]
  have f3 : wS.cell? ⟨w3.heap.size, 3, none⟩ = some (.int .i64 j) := by rw [← hwS]; simp [go_sem]
  have f4 : wS.cell? ⟨w3.heap.size, 4, none⟩ = some (.slice (some ⟨w3.heap.size + 1 + 1, 0, none⟩) 1 1) := by rw [← hwS]; simp [go_sem]
  have hr0 : wS.cell? ⟨w3.heap.size + 1, 0 + 0 * 2 + 0, none⟩ = some (encR (120, 120) 0) := by rw [← hwS]; simp [go_sem, encR]
  have hr1 : wS.cell? ⟨w3.heap.size + 1, 0 + 0 * 2 + 1, none⟩ = some (encR (120, 120) 1) := by rw [← hwS]; simp [go_sem, encR]
  have hn : ∀ i, i < 5 → wS.cell? ⟨w3.heap.size + 1 + 1, 0 + 0 * 5 + i, none⟩ = some (encN ⟨1, .slice (some ⟨w3.heap.size + 1, 0, none⟩) 1 1, 0, 0, .slice none 0 0⟩ i) := by
    intro i hi
    rw [← hwS]
    match i, hi with
    | 0, _ => simp [go_sem, encN]
    | 1, _ => simp [go_sem, encN]
    | 2, _ => simp [go_sem, encN]
    | 3, _ => simp [go_sem, encN]
    | 4, _ => simp [go_sem, encN]
  have hC : TAt wS (fun _ => True) ⟨1, .slice (some ⟨w3.heap.size + 1, 0, none⟩) 1 1, 0, 0, .slice none 0 0⟩ (charT [(120, 120)]) := char_lit hr0 hr1
  have HW : Hid (TAt wS (fun _ => True) ⟨6, .slice none 0 0, k, j, .slice (some ⟨w3.heap.size + 1 + 1, 0, none⟩) 1 1⟩ (wantT k j false)) := Lib.hid (want_lit HK64.out.1 HK64.out.2 hn hC)
  clear hr0 hr1 hn hC kS hwS
  have htl : (textC k j false).length ≤ 9223372036854775807 := by
    rw [HX.out]; simp; omega
  refine (parse_any (textC k j false) _ htl).mono ?_
  rw [HP.out]
  rintro e w6 ⟨v, rfl, hv, k6⟩
  obtain ⟨o, a1, n1, c1, m, x, a2, n2, cc2, rfl⟩ := NV.form hv
  have K6 := Lib.hid (KS.out.trans k6)
  have HV := Lib.hid hv
  have HW6 := Lib.hid (HW.out.keepsTo (Q := fun _ => True) k6 (fun _ _ => id) (fun _ h => h))
  have f0 := alloc_cell (k6.cell f0 id) (.cells #[.int .i64 o, .slice a1 n1 c1, .int .i64 m, .int .i64 x, .slice a2 n2 cc2] 26)
  have f1 := alloc_cell (k6.cell f1 id) (.cells #[.int .i64 o, .slice a1 n1 c1, .int .i64 m, .int .i64 x, .slice a2 n2 cc2] 26)
  have f2 := alloc_cell (k6.cell f2 id) (.cells #[.int .i64 o, .slice a1 n1 c1, .int .i64 m, .int .i64 x, .slice a2 n2 cc2] 26)
  have f3 := alloc_cell (k6.cell f3 id) (.cells #[.int .i64 o, .slice a1 n1 c1, .int .i64 m, .int .i64 x, .slice a2 n2 cc2] 26)
  have f4 := alloc_cell (k6.cell f4 id) (.cells #[.int .i64 o, .slice a1 n1 c1, .int .i64 m, .int .i64 x, .slice a2 n2 cc2] 26)
  have ka : Keeps (fun _ => False) w6 (w6.alloc (.cells #[.int .i64 o, .slice a1 n1 c1, .int .i64 m, .int .i64 x, .slice a2 n2 cc2] 26)) := (Keeps.refl _ _).alloc _
  have KA := Lib.hid ka
  clear hv k6 ka
  unfold NV.val
  have HSm := Lib.hid (fun W (K : Keeps (fun _ => False) (w6.alloc (.cells #[.int .i64 o, .slice a1 n1 c1, .int .i64 m, .int .i64 x, .slice a2 n2 cc2] 26)) W) => refTreeSame_any (wantT k j false) (wantT k j false) _ _ ⟨o, .slice a1 n1 c1, m, x, .slice a2 n2 cc2⟩ ⟨6, .slice none 0 0, k, j, .slice (some ⟨w3.heap.size + 1 + 1, 0, none⟩) 1 1⟩ W (HV.out.keepsTo (KA.out.trans K) (fun _ _ => id) (fun _ h => h)) (HW6.out.keepsTo (Q := fun _ => True) (KA.out.trans K) (fun _ _ => id) (fun _ h => h)))
  rw [show decide (wantT k j false = wantT k j false) = true from decide_eq_true rfl] at HSm
  unfold NV.val at HSm
  go_wp2_with fail
  refine (HSm.out _ (Keeps.refl _ _)).mono ?_
  rintro e w7 ⟨rfl, k7⟩
  have K7 := Lib.hid ((K6.out.trans KA.out).trans k7)
  clear k7
  go_wp2_with fail
  go_ret
  exact ⟨rfl, K7.out⟩

set_option maxHeartbeats 8000000 in
theorem counts_true_3 (k j : Nat) (w : World) (ht : TabW w) (hk : k ≤ 120) (hj : j ≤ 120) (h1 : k ≤ 50) (h2 : j ≤ 50) (h3 : k ≤ j) :
    Calls Tryd.prog 4 #[.int .i64 k, .int .i64 j, .bool true] w fun e w' => e = .returned (.bool true) ∧ Keeps (fun _ => False) w w' := by
  have HT := Lib.hid ht
  have HP : Hid (parseP (textC k j true) = (wantT k j true, 0)) := Lib.hid (by rw [parseP_counts k j true hk hj, if_pos (by unfold rightC; simp; omega)])
  have HX : Hid (textC k j true = [120, 123] ++ twoB k ++ [44, 125]) := Lib.hid rfl
  have g1 : decide ((k : Int) < 0) = false := by simp
  have g2 : decide ((120 : Int) < k) = false := by simp; omega
  have g2n : decide (120 < k) = false := by simp; omega
  have g3 : decide ((j : Int) < 0) = false := by simp
  have g4 : decide ((120 : Int) < j) = false := by simp; omega
  have g4n : decide (120 < j) = false := by simp; omega
  have g50 : decide ((k : Int) ≤ 50) = true := by simp; omega
  have g50n : decide (k ≤ 50) = true := by simp; omega
  have h50 : decide ((j : Int) ≤ 50) = true := by simp; omega
  have h50n : decide (j ≤ 50) = true := by simp; omega
  have i50 : decide ((k : Int) ≤ (j : Int)) = true := by simp; omega
  have i50n : decide (k ≤ j) = true := by simp; omega
  have l1 := (twoB_ok k).1
  have l2 := (twoB_ok j).1
  have T1 := Lib.hid (fun W => two_any k W hk)
  have T2 := Lib.hid (fun W => two_any j W hj)
  have HK64 : Hid (in64 (k : Int) ∧ in64 (j : Int)) := Lib.hid (by unfold in64; omega)
  clear ht hk hj
  generalize twoB k = B1 at *
  generalize twoB j = B2 at *
  go_enter Tryd.func4, Tryd.ntmps4
  go_wp2_with fail
  refine (parseAwake_any _ HT.out).mono ?_
  rintro e w1 ⟨rfl, k1⟩
  have K1 := Lib.hid k1
  clear k1
  go_wp2_with fail
  refine (T1.out _).mono ?_
  rintro e w2 ⟨rfl, k2⟩
  have K2 := Lib.hid (K1.out.trans k2)
  clear k2
  unfold strL
  go_wp2_with fail
  refine (T2.out _).mono ?_
  rintro e w3 ⟨rfl, k3⟩
  have K3 := Lib.hid (K2.out.trans k3)
  clear k3
  unfold strL
  go_wp2_with fail
  have z3 : (w3.alloc (.cells #[.int .i64 6, .slice none 0 0, .int .i64 k, .int .i64 j, .slice none 0 0] 26)).cell? ⟨w3.heap.size, 3, none⟩ = some (.int .i64 j) := by simp [go_sem]
  refine (T1.out _).mono ?_
  rintro e w4 ⟨rfl, k4⟩
  have y0 : w4.cell? ⟨w3.heap.size, 0, none⟩ = some (.int .i64 6) := k4.cell (by simp [go_sem]) id
  have y1 : w4.cell? ⟨w3.heap.size, 1, none⟩ = some (.slice none 0 0) := k4.cell (by simp [go_sem]) id
  have y2 : w4.cell? ⟨w3.heap.size, 2, none⟩ = some (.int .i64 k) := k4.cell (by simp [go_sem]) id
  have y3 : w4.cell? ⟨w3.heap.size, 3, none⟩ = some (.int .i64 j) := k4.cell (by simp [go_sem]) id
  have y4 : w4.cell? ⟨w3.heap.size, 4, none⟩ = some (.slice none 0 0) := k4.cell (by simp [go_sem]) id
  have q3 : w4.frozen? ⟨w3.heap.size, 3, none⟩ = false := k4.frozen (by simp [go_sem]) (by simp) id
  have q4 : w4.frozen? ⟨w3.heap.size, 4, none⟩ = false := k4.frozen (by simp [go_sem]) (by simp) id
  have hs4 := k4.size
  simp at hs4
  have K4 : Hid (Keeps (fun _ => False) w w4) := Lib.hid (K3.out.trans (Keeps.trans (by (repeat' (with_reducible first | exact Keeps.refl _ _ | assumption | refine Keeps.drawN ?_ _ | refine Keeps.drew ?_ | refine Keeps.setCell ?_ ?_ _ | refine Keeps.alloc ?_ _)) <;> (first | exact Or.inr (Nat.le_refl _) | exact Or.inl rfl | exact Or.inl (Or.inl rfl) | exact Or.inl (Or.inr rfl) | (right; simp; done) | (right; simp; omega))) k4))
  clear k4 z3
  unfold strL
  have hbl : w3.heap.size < w4.heap.size := by omega
  go_wp2_with fail
  rw [show (⟨#[120, 123]⟩ ++ ⟨B1.toArray⟩ ++ ⟨#[44, 125]⟩ : ByteArray) = ⟨(textC k j true).toArray⟩ by rw [HX.out]; apply ByteArray.ext; simp [ByteArray.data_append]]
  obtain ⟨wS, hwS⟩ : ∃ W, ((((w4.setCell ⟨w3.heap.size, 3, none⟩ (.int .i64 (-1))).setCell ⟨w3.heap.size, 4, none⟩ (.slice (some ⟨w4.heap.size + 1, 0, none⟩) 1 1)).alloc (.cells #[.int .i64 120, .int .i64 120] 36)).alloc (.cells #[.int .i64 1, .slice (some ⟨w4.heap.size, 0, none⟩) 1 1, .int .i64 0, .int .i64 0, .slice none 0 0] 26)) = W := ⟨_, rfl⟩
  rw [hwS]
  have hb2 : w3.heap.size ≠ w4.heap.size := by omega
  have hb3 : w3.heap.size ≠ w4.heap.size + 1 := by omega
  obtain ⟨wT, hwT⟩ : ∃ W, (w4.setCell ⟨w3.heap.size, 3, none⟩ (.int .i64 (-1))).setCell ⟨w3.heap.size, 4, none⟩ (.slice (some ⟨w4.heap.size + 1, 0, none⟩) 1 1) = W := ⟨_, rfl⟩
  have hTs : wT.heap.size = w4.heap.size := by rw [← hwT]; simp
  have e0 : wT.cell? ⟨w3.heap.size, 0, none⟩ = some (.int .i64 6) := by rw [← hwT, cell_set_other (by simp), cell_set_other (by simp)]; exact y0
  have e1 : wT.cell? ⟨w3.heap.size, 1, none⟩ = some (.slice none 0 0) := by rw [← hwT, cell_set_other (by simp), cell_set_other (by simp)]; exact y1
  have e2 : wT.cell? ⟨w3.heap.size, 2, none⟩ = some (.int .i64 k) := by rw [← hwT, cell_set_other (by simp), cell_set_other (by simp)]; exact y2
  have e3 : wT.cell? ⟨w3.heap.size, 3, none⟩ = some (.int .i64 (-1)) := by rw [← hwT, cell_set_other (by simp)]; exact cell_set_same y3
  have e4 : wT.cell? ⟨w3.heap.size, 4, none⟩ = some (.slice (some ⟨w4.heap.size + 1, 0, none⟩) 1 1) := by rw [← hwT]; exact cell_set_same (by rw [cell_set_other (by simp)]; exact y4)
  have kT : Keeps (fun b => b = w3.heap.size) w4 wT := hwT ▸ ((Keeps.refl (fun b => b = w3.heap.size) _).set (p := ⟨w3.heap.size, 3, none⟩) rfl _).set (p := ⟨w3.heap.size, 4, none⟩) rfl _
  have hsz3 := K3.out.size
  have KT : Hid (Keeps (fun _ => False) w wT) := Lib.hid (K4.out.trans2 kT (fun b hb e => by omega))
  rw [hwT] at hwS
  have kS : Keeps (fun _ => False) wT wS := hwS ▸ ((Keeps.refl _ _).alloc _).alloc _
  have KS := Lib.hid (KT.out.trans kS)
  have f0 := kS.cell e0 id
  have f1 := kS.cell e1 id
  have f2 := kS.cell e2 id
  have f3 := kS.cell e3 id
  have f4 := kS.cell e4 id
  have hr0 : wS.cell? ⟨w4.heap.size, 0 + 0 * 2 + 0, none⟩ = some (encR (120, 120) 0) := by rw [← hwS, ← hTs]; simp [go_sem, encR]
  have hr1 : wS.cell? ⟨w4.heap.size, 0 + 0 * 2 + 1, none⟩ = some (encR (120, 120) 1) := by rw [← hwS, ← hTs]; simp [go_sem, encR]
  have hn : ∀ i, i < 5 → wS.cell? ⟨w4.heap.size + 1, 0 + 0 * 5 + i, none⟩ = some (encN ⟨1, .slice (some ⟨w4.heap.size, 0, none⟩) 1 1, 0, 0, .slice none 0 0⟩ i) := by
    intro i hi
    rw [← hwS, ← hTs]
    match i, hi with
    | 0, _ => simp [go_sem, encN]
    | 1, _ => simp [go_sem, encN]
    | 2, _ => simp [go_sem, encN]
    | 3, _ => simp [go_sem, encN]
    | 4, _ => simp [go_sem, encN]
  have hC : TAt wS (fun _ => True) ⟨1, .slice (some ⟨w4.heap.size, 0, none⟩) 1 1, 0, 0, .slice none 0 0⟩ (charT [(120, 120)]) := char_lit hr0 hr1
  have HW : Hid (TAt wS (fun _ => True) ⟨6, .slice none 0 0, k, (-1), .slice (some ⟨w4.heap.size + 1, 0, none⟩) 1 1⟩ (wantT k j true)) := Lib.hid (want_lit HK64.out.1 (by unfold in64; decide) hn hC)
  clear hr0 hr1 hn hC kS hwS
  have htl : (textC k j true).length ≤ 9223372036854775807 := by
    rw [HX.out]; simp; omega
  refine (parse_any (textC k j true) _ htl).mono ?_
  rw [HP.out]
  rintro e w6 ⟨v, rfl, hv, k6⟩
  obtain ⟨o, a1, n1, c1, m, x, a2, n2, cc2, rfl⟩ := NV.form hv
  have K6 := Lib.hid (KS.out.trans k6)
  have HV := Lib.hid hv
  have HW6 := Lib.hid (HW.out.keepsTo (Q := fun _ => True) k6 (fun _ _ => id) (fun _ h => h))
  have f0 := alloc_cell (k6.cell f0 id) (.cells #[.int .i64 o, .slice a1 n1 c1, .int .i64 m, .int .i64 x, .slice a2 n2 cc2] 26)
  have f1 := alloc_cell (k6.cell f1 id) (.cells #[.int .i64 o, .slice a1 n1 c1, .int .i64 m, .int .i64 x, .slice a2 n2 cc2] 26)
  have f2 := alloc_cell (k6.cell f2 id) (.cells #[.int .i64 o, .slice a1 n1 c1, .int .i64 m, .int .i64 x, .slice a2 n2 cc2] 26)
  have f3 := alloc_cell (k6.cell f3 id) (.cells #[.int .i64 o, .slice a1 n1 c1, .int .i64 m, .int .i64 x, .slice a2 n2 cc2] 26)
  have f4 := alloc_cell (k6.cell f4 id) (.cells #[.int .i64 o, .slice a1 n1 c1, .int .i64 m, .int .i64 x, .slice a2 n2 cc2] 26)
  have ka : Keeps (fun _ => False) w6 (w6.alloc (.cells #[.int .i64 o, .slice a1 n1 c1, .int .i64 m, .int .i64 x, .slice a2 n2 cc2] 26)) := (Keeps.refl _ _).alloc _
  have KA := Lib.hid ka
  clear hv k6 ka
  unfold NV.val
  have HSm := Lib.hid (fun W (K : Keeps (fun _ => False) (w6.alloc (.cells #[.int .i64 o, .slice a1 n1 c1, .int .i64 m, .int .i64 x, .slice a2 n2 cc2] 26)) W) => refTreeSame_any (wantT k j true) (wantT k j true) _ _ ⟨o, .slice a1 n1 c1, m, x, .slice a2 n2 cc2⟩ ⟨6, .slice none 0 0, k, (-1), .slice (some ⟨w4.heap.size + 1, 0, none⟩) 1 1⟩ W (HV.out.keepsTo (KA.out.trans K) (fun _ _ => id) (fun _ h => h)) (HW6.out.keepsTo (Q := fun _ => True) (KA.out.trans K) (fun _ _ => id) (fun _ h => h)))
  rw [show decide (wantT k j true = wantT k j true) = true from decide_eq_true rfl] at HSm
  unfold NV.val at HSm
  go_wp2_with fail
  refine (HSm.out _ (Keeps.refl _ _)).mono ?_
  rintro e w7 ⟨rfl, k7⟩
  have K7 := Lib.hid ((K6.out.trans KA.out).trans k7)
  clear k7
  go_wp2_with fail
  go_ret
  exact ⟨rfl, K7.out⟩

theorem counts_main (n m : Int) (op : Bool) (w : World) (ht : TabW w) :
    Calls Tryd.prog 4 #[.int .i64 n, .int .i64 m, .bool op] w fun e w' => e = .returned (.bool true) ∧ Keeps (fun _ => False) w w' := by
  by_cases h : n < 0 ∨ 120 < n ∨ m < 0 ∨ 120 < m
  · exact counts_out n m op w ht h
  · obtain ⟨k, rfl⟩ := Int.eq_ofNat_of_zero_le (by omega : 0 ≤ n)
    obtain ⟨j, rfl⟩ := Int.eq_ofNat_of_zero_le (by omega : 0 ≤ m)
    have hk : k ≤ 120 := by omega
    have hj : j ≤ 120 := by omega
    rcases (by omega : 50 < k ∨ (k ≤ 50 ∧ 50 < j) ∨ (k ≤ 50 ∧ j ≤ 50 ∧ j < k) ∨ (k ≤ 50 ∧ j ≤ 50 ∧ k ≤ j)) with h1 | ⟨h1, h2⟩ | ⟨h1, h2, h3⟩ | ⟨h1, h2, h3⟩
    · cases op
      · exact counts_false_0 k j w ht hk hj h1
      · exact counts_true_0 k j w ht hk hj h1
    · cases op
      · exact counts_false_1 k j w ht hk hj h1 h2
      · exact counts_true_1 k j w ht hk hj h1 h2
    · cases op
      · exact counts_false_2 k j w ht hk hj h1 h2 h3
      · exact counts_true_2 k j w ht hk hj h1 h2 h3
    · cases op
      · exact counts_false_3 k j w ht hk hj h1 h2 h3
      · exact counts_true_3 k j w ht hk hj h1 h2 h3
end Go.Proofs.YtinogeobkljngaaDoor
