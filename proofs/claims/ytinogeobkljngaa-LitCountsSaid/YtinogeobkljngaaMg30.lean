/-
  Several texts in one: The law's examples. The law's walk.
-/
import Derived.Test.YtinogeobkljngaaMg15
import Derived.Test.YtinogeobkljngaaRfParseG
import Derived.Test.YtinogeobkljngaaPaEvG
section
namespace Go.Proofs.Ytinogeobkljngaa
open Go.RowKit
set_option linter.unusedVariables false
set_option linter.unusedSimpArgs false
set_option maxRecDepth 100000

def treeA : T := ⟨4, [], 0, 0, F.ofL [charT [(97, 97)], charT [(98, 98)], ⟨5, [], 0, 0, F.ofL [charT [(99, 99)], charT [(100, 100)]]⟩]⟩
def treeB : T := ⟨4, [], 0, 0, F.ofL [charT [(97, 97)], ⟨6, [], 2, 2, F.ofL [charT [(98, 98)]]⟩]⟩
theorem parseP_A : parseP [97, 98, 40, 99, 124, 100, 41] = (treeA, 0) := by
  unfold parseP
  rw [if_neg (by simp), pts_ascii (by decide)]
  exact (by decide +kernel : parseR [97, 98, 40, 99, 124, 100, 41] = (treeA, 0))
theorem parseP_B : parseP [97, 98, 123, 50, 125] = (treeB, 0) := by
  unfold parseP
  rw [if_neg (by simp), pts_ascii (by decide)]
  exact (by decide +kernel : parseR [97, 98, 123, 50, 125] = (treeB, 0))
theorem pre_A : PreC treeA ([97, 98], false) := by
  refine pre_cat [charT [(97, 97)], charT [(98, 98)], ⟨5, [], 0, 0, F.ofL [charT [(99, 99)], charT [(100, 100)]]⟩] [([97], true), ([98], true), ([], false)] rfl (fun i k r hk hr => ?_)
  rcases i with _ | _ | _ | i
  · simp at hk hr; subst hk; subst hr; exact ⟨pre_char 97 (by decide), by simp⟩
  · simp at hk hr; subst hk; subst hr; exact ⟨pre_char 98 (by decide), by simp⟩
  · simp at hk hr; subst hk; subst hr; exact ⟨pre_cd, by simp⟩
  · simp at hk
theorem pre_B : PreC treeB ([97, 98, 98], true) := by
  refine pre_cat [charT [(97, 97)], ⟨6, [], 2, 2, F.ofL [charT [(98, 98)]]⟩] [([97], true), ([98, 98], true)] rfl (fun i k r hk hr => ?_)
  rcases i with _ | _ | i
  · simp at hk hr; subst hk; subst hr; exact ⟨pre_char 97 (by decide), by simp⟩
  · simp at hk hr; subst hk; subst hr; exact ⟨pre_bb, by simp⟩
  · simp at hk
theorem idx_awake {z : Int} (h : IdxAt (mtL [97, 98] [120, 97, 98]) 3 0 z) : z = 1 := by
  have h0 : mtL [97, 98] [120, 97, 98] 0 = false := by decide
  have h1 : mtL [97, 98] [120, 97, 98] 1 = true := by decide
  rcases h with ⟨_, h⟩ | ⟨a, rfl, _, _, h2, h3⟩
  · rw [h 1 (by omega) (by omega)] at h1; cases h1
  · rcases a with _ | _ | a
    · rw [h0] at h2; cases h2
    · rfl
    · rw [h3 1 (by omega) (by omega)] at h1; cases h1
set_option maxHeartbeats 4000000 in
theorem litAwake_any (w : World) : Calls Try.prog 4 #[] w fun e w' => e = .returned (.bool true) ∧ Keeps (fun _ => False) w w' := by
  have HI := Lib.hid (fun W => index_any [97, 98] [120, 97, 98] 0 W (by simp) (by simp) (by omega))
  go_enter Try.func4, Try.ntmps4
  go_wp2_with fail
  refine (rparse_any [97, 98, 40, 99, 124, 100, 41] _ (by simp)).mono ?_
  rw [parseP_A]
  rintro e w2 ⟨v, rfl, hv, k2⟩
  obtain ⟨o, a1, n1, c1, m, x, a2, n2, cc2, rfl⟩ := NV.form hv
  have HV := Lib.hid hv
  have K2 := Lib.hid k2
  clear hv k2
  unfold NV.val
  go_wp2_with fail
  refine (rparse_any [97, 98, 123, 50, 125] _ (by simp)).mono ?_
  rw [parseP_B]
  rintro e w3 ⟨v', rfl, hv', k3⟩
  obtain ⟨o', a1', n1', c1', m', x', a2', n2', cc2', rfl⟩ := NV.form hv'
  have hs3 := k3.size
  simp at hs3
  have z0 : w3.cell? ⟨w2.heap.size, 0, none⟩ = some (.int .i64 o) := k3.cell (by simp [go_sem]) id
  have z1 : w3.cell? ⟨w2.heap.size, 1, none⟩ = some (.slice a1 n1 c1) := k3.cell (by simp [go_sem]) id
  have z2 : w3.cell? ⟨w2.heap.size, 2, none⟩ = some (.int .i64 m) := k3.cell (by simp [go_sem]) id
  have z3 : w3.cell? ⟨w2.heap.size, 3, none⟩ = some (.int .i64 x) := k3.cell (by simp [go_sem]) id
  have z4 : w3.cell? ⟨w2.heap.size, 4, none⟩ = some (.slice a2 n2 cc2) := k3.cell (by simp [go_sem]) id
  have K23 : Hid (Keeps (fun _ => False) w2 w3) := Lib.hid (Keeps.trans (by (repeat' (with_reducible first | exact Keeps.refl _ _ | assumption | refine Keeps.drawN ?_ _ | refine Keeps.drew ?_ | refine Keeps.setCell ?_ ?_ _ | refine Keeps.alloc ?_ _)) <;> (first | exact Or.inr (Nat.le_refl _) | exact Or.inl rfl | exact Or.inl (Or.inl rfl) | exact Or.inl (Or.inr rfl) | (right; simp; done) | (right; simp; omega))) k3)
  have HV' := Lib.hid hv'
  clear hv' k3
  unfold NV.val
  have HS := Lib.hid (fun W (K : Keeps (fun _ => False) w3 W) => pre_A (fun _ => True) ⟨o, .slice a1 n1 c1, m, x, .slice a2 n2 cc2⟩ W (HV.out.keepsTo (K23.out.trans K) (fun _ _ => id) (fun _ h => h)))
  have HS' := Lib.hid (fun W (K : Keeps (fun _ => False) w3 W) => pre_B (fun _ => True) ⟨o', .slice a1' n1' c1', m', x', .slice a2' n2' cc2'⟩ W (HV'.out.keepsTo K (fun _ _ => id) (fun _ h => h)))
  unfold NV.val at HS HS'
  have z0 := alloc_cell z0 (.cells #[.int .i64 o', .slice a1' n1' c1', .int .i64 m', .int .i64 x', .slice a2' n2' cc2'] 31)
  have z1 := alloc_cell z1 (.cells #[.int .i64 o', .slice a1' n1' c1', .int .i64 m', .int .i64 x', .slice a2' n2' cc2'] 31)
  have z2 := alloc_cell z2 (.cells #[.int .i64 o', .slice a1' n1' c1', .int .i64 m', .int .i64 x', .slice a2' n2' cc2'] 31)
  have z3 := alloc_cell z3 (.cells #[.int .i64 o', .slice a1' n1' c1', .int .i64 m', .int .i64 x', .slice a2' n2' cc2'] 31)
  have z4 := alloc_cell z4 (.cells #[.int .i64 o', .slice a1' n1' c1', .int .i64 m', .int .i64 x', .slice a2' n2' cc2'] 31)
  go_wp2_with fail
  refine (HS.out _ (by (repeat' (with_reducible first | exact Keeps.refl _ _ | assumption | refine Keeps.drawN ?_ _ | refine Keeps.drew ?_ | refine Keeps.setCell ?_ ?_ _ | refine Keeps.alloc ?_ _)) <;> (first | exact Or.inr (Nat.le_refl _) | exact Or.inl rfl | exact Or.inl (Or.inl rfl) | exact Or.inl (Or.inr rfl) | (right; simp; done) | (right; simp; omega)))).mono ?_
  rintro e w4 ⟨rfl, k4⟩
  have y0 : w4.cell? ⟨w3.heap.size, 0, none⟩ = some (.int .i64 o') := k4.cell (by simp [go_sem]) id
  have y1 : w4.cell? ⟨w3.heap.size, 1, none⟩ = some (.slice a1' n1' c1') := k4.cell (by simp [go_sem]) id
  have y2 : w4.cell? ⟨w3.heap.size, 2, none⟩ = some (.int .i64 m') := k4.cell (by simp [go_sem]) id
  have y3 : w4.cell? ⟨w3.heap.size, 3, none⟩ = some (.int .i64 x') := k4.cell (by simp [go_sem]) id
  have y4 : w4.cell? ⟨w3.heap.size, 4, none⟩ = some (.slice a2' n2' cc2') := k4.cell (by simp [go_sem]) id
  have K34 : Hid (Keeps (fun _ => False) w3 w4) := Lib.hid (Keeps.trans (by (repeat' (with_reducible first | exact Keeps.refl _ _ | assumption | refine Keeps.drawN ?_ _ | refine Keeps.drew ?_ | refine Keeps.setCell ?_ ?_ _ | refine Keeps.alloc ?_ _)) <;> (first | exact Or.inr (Nat.le_refl _) | exact Or.inl rfl | exact Or.inl (Or.inl rfl) | exact Or.inl (Or.inr rfl) | (right; simp; done) | (right; simp; omega))) k4)
  clear k4
  unfold strL
  go_wp2_with fail
  refine (HS'.out _ K34.out).mono ?_
  rintro e w5 ⟨rfl, k5⟩
  have K5 : Hid (Keeps (fun _ => False) w w5) := Lib.hid (((K2.out.trans K23.out).trans K34.out).trans k5)
  clear k5
  unfold strL
  go_wp2_with fail
  refine (HI.out _).mono ?_
  rintro e w6 ⟨z, rfl, hz, k6⟩
  obtain rfl := idx_awake hz
  have K6 := Lib.hid (K5.out.trans k6)
  clear k6 hz
  go_wp2_with fail
  go_ret
  exact ⟨rfl, K6.out⟩
end Go.Proofs.Ytinogeobkljngaa
end
section
namespace Go.Proofs.Ytinogeobkljngaa
open Go.RowKit
set_option linter.unusedVariables false
set_option linter.unusedSimpArgs false
set_option maxRecDepth 100000

theorem mtL_sub {p t : List UInt8} {a : Nat} (h : mtL p t a = true) : a + p.length ≤ t.length ∧ (⟨t.toArray⟩ : ByteArray).extract a (a + p.length) = ⟨p.toArray⟩ := by
  obtain ⟨h1, h2⟩ := mtB_iff.1 h
  refine ⟨h1, ?_⟩
  have e : (t.drop a).take p.length = p := by
    apply List.ext_getElem?
    intro i
    by_cases hi : i < p.length
    · have := h2 i hi
      unfold atB at this
      rw [List.getD_eq_getElem?_getD, List.getD_eq_getElem?_getD, List.getElem?_eq_getElem hi, List.getElem?_eq_getElem (by omega)] at this
      rw [List.getElem?_take, if_pos hi, List.getElem?_drop, List.getElem?_eq_getElem hi, List.getElem?_eq_getElem (by omega)]
      simpa using this.symm
    · rw [List.getElem?_eq_none (by simp; omega), List.getElem?_eq_none (by omega)]
  apply ByteArray.ext
  apply Array.ext'
  simpa using e
theorem make_u8 (W : World) (m : Nat) (hm : m ≤ 1000) : (Instr.makeSlice 25 (.int .i64 (m : Int)) (.int .i64 (m : Int))).run Try.prog W = .ok (.slice (some ⟨W.heap.size, 0, none⟩) m m) (W.alloc (.cells (madeCells #[.int .u8 0] m) 5)) := by
  obtain ⟨i0, hi0, hz0, hz1, hz2⟩ := info_parts info_u8p
  have := run_make (P := Try.prog) W 25 5 i0 (.int .u8 0) Try.underlying25 hi0 hz0 .i64 .i64 m m (by omega) (by omega) (by rw [hz2]; omega) (by omega)
  rw [hz1] at this
  simpa [Value.cells] using this
theorem own_made (W : World) (base m : Nat) (hm : m ≤ 1000) (hb : base ≤ W.heap.size) : OwnB base (W.alloc (.cells (madeCells #[.int .u8 0] m) 5)) (.slice (some ⟨W.heap.size, 0, none⟩) m m) (List.replicate m 0) := by
  have := World.ownsRow_lit (base := base) (e := 5) (size := 1) W (madeCells #[.int .u8 0] m) m hb (by unfold maxLen; omega) (by rw [size_madeCells]; omega)
  rw [toList_madeCells_one] at this
  unfold OwnB
  rw [List.length_replicate, List.map_replicate]
  exact this
theorem atB_zeros (m x : Nat) : atB (List.replicate m 0) x = 0 := by
  unfold atB; rw [List.getD_eq_getElem?_getD, List.getElem?_replicate]; split <;> rfl
/-- Two rows of zeros, one made behind the other. -/
theorem two_rows (w : World) (n k : Nat) (hn : n ≤ 1000) (hk : k ≤ 1000) : ∃ W, W = ((w.alloc (.cells (madeCells #[.int .u8 0] n) 5)).alloc (.cells (madeCells #[.int .u8 0] k) 5)).drew ∧
    OwnB w.heap.size W (.slice (some ⟨w.heap.size, 0, none⟩) n n) (List.replicate n 0) ∧ OwnB w.heap.size W (.slice (some ⟨w.heap.size + 1, 0, none⟩) k k) (List.replicate k 0) ∧ Keeps (fun _ => False) w W := by
  refine ⟨_, rfl, ?_, ?_, ((Keeps.refl _ _).alloc _).alloc _ |>.drew⟩
  · exact (own_made w w.heap.size n hn (Nat.le_refl _)).alloc _
  · have := own_made (w.alloc (.cells (madeCells #[.int .u8 0] n) 5)) w.heap.size k hk (by simp)
    rw [show (w.alloc (.cells (madeCells #[.int .u8 0] n) 5)).heap.size = w.heap.size + 1 by simp] at this
    exact this
def CntsR (p t : List UInt8) (w0 : World) (cv av : Value) (wr : World) : Prop :=
  ∃ (f : Nat) (z : Int), cv = .int .i64 (cntM (mtL p t) f : Nat) ∧ av = .int .i64 z ∧ f ≤ t.length + 1 ∧ IdxAt (mtL p t) t.length f z ∧ Keeps (fun _ => False) w0 wr
set_option maxHeartbeats 4000000 in
theorem litc_law (p t : List UInt8) (n k : Nat) (w : World) (hp : p.length ≤ 50) (ht : t.length ≤ 100) (hn : n < 256) (hk : k < 256) :
    Calls Try.prog 3 #[strL t, strL p, .agg #[.int .u8 n, .int .u8 k]] w fun e w' => e = .returned (.bool true) ∧ Keeps (fun _ => False) w w' := by
  have HAw := Lib.hid (fun W => litAwake_any W)
  have HI := Lib.hid (fun f W (hf : f ≤ 1000000) => index_any p t f W (by omega) (by omega) hf)
  have HC := Lib.hid (fun W => count_any p t W (by omega) (by omega))
  have g1 : decide ((100 : Int) < (t.length : Int)) = false := by simp; omega
  have g2 : decide ((50 : Int) < (p.length : Int)) = false := by simp; omega
  unfold strL
  go_enter Try.func3, Try.ntmps3
  go_wp2_with fail
  refine (HAw.out _).mono ?_
  rintro e w1 ⟨rfl, k1⟩
  have K1 := Lib.hid k1
  clear k1
  go_wp2_with fail
  refine (HI.out 0 _ (by omega)).mono ?_
  rintro e w2 ⟨z, rfl, hz, k2⟩
  have K2 := Lib.hid (K1.out.trans k2)
  have HZ := Lib.hid hz
  clear k2 hz
  go_wp2_with fail
  go_loopw [7, 8] (fun cv av wr => CntsR p t (w.alloc (.cells #[.int .u8 n, .int .u8 k] 22)) cv av wr) (fun cv _ _ => t.length + 2 - (intOf cv).toNat)
  case atStart => exact ⟨0, z, rfl, rfl, by omega, HZ.out, K2.out⟩
  case round =>
    obtain ⟨f, y, rfl, rfl, hf, hy, hkk⟩ := hrel
    have K := Lib.hid hkk
    have HY := Lib.hid hy
    clear hkk hy
    have hcf := cntM_le (mtL p t) f
    by_cases h0 : 0 ≤ y
    · obtain ⟨a, rfl, ha1, ha2, ha3, ha4⟩ := idx_some HY.out h0
      obtain ⟨hs1, hs2⟩ := mtL_sub ha3
      have E : Hid (cntM (mtL p t) (a + 1) = cntM (mtL p t) f + 1) := Lib.hid (by rw [cntM_succ, if_pos ha3, cntM_to _ ha1 ha4])
      clear ha3 ha4 h0 HY
      generalize cntM (mtL p t) f = C at *
      have g3 : decide ((0 : Int) ≤ (a : Int)) = true := by simp
      have g4 : decide ((C : Int) ≤ (t.length : Int)) = true := by simp; omega
      have HIa := Lib.hid (fun W => HI.out (a + 1) W (by omega))
      rw [Int.natCast_add] at HIa
      simp only [Int.cast_ofNat_Int] at HIa
      go_wp2_with fail
      refine (HIa.out _).mono ?_
      rintro e w3 ⟨z3, rfl, hz3, k3⟩
      have K3 := Lib.hid (K.out.trans k3)
      have HZ3 := Lib.hid hz3
      clear k3 hz3
      go_wp2_with fail
      go_roundw
      case rel => exact ⟨a + 1, z3, by rw [E.out]; rfl, rfl, by omega, HZ3.out, K3.out⟩
      case measure => simp [intOf]; omega
    · have g3 : decide ((0 : Int) ≤ y) = false := by simpa using h0
      have E : cntM (mtL p t) f = cntM (mtL p t) (t.length + 1) := (cntM_to _ hf (fun c h1 h2 => idx_none HY.out (by omega) c h1 (by omega))).symm
      rw [← E] at HC
      clear E
      generalize cntM (mtL p t) f = C at *
      have HM : Hid (∀ (LK LN : List UInt8), LK = List.replicate (k % 40) 0 → LN = List.replicate n 0 → cntM (mtL LK LN) (LN.length + 1) = n + 1 - k % 40) := Lib.hid (by
        rintro LK LN rfl rfl
        unfold mtL
        rw [cntM_zeros (fun x => by rw [atB_zeros, atB_zeros]) (fun x => by rw [atB_zeros, atB_zeros])]
        simp)
      have q0 := K.out.cell (show (w.alloc (.cells #[.int .u8 (n : Int), .int .u8 (k : Int)] 22)).cell? ⟨w.heap.size, 0, none⟩ = some (.int .u8 (n : Int)) by simp [go_sem]) id
      have q1 := K.out.cell (show (w.alloc (.cells #[.int .u8 (n : Int), .int .u8 (k : Int)] 22)).cell? ⟨w.heap.size, 1, none⟩ = some (.int .u8 (k : Int)) by simp [go_sem]) id
      have hws : w.heap.size < wr.heap.size := lt_of_cell q0
      have m1 : (0 : Int) ≤ (k : Int).tmod 40 ∧ (k : Int).tmod 40 < 40 := by rw [Int.tmod_eq_emod_of_nonneg (by omega)]; omega
      clear HY h0
      go_wp2_with fail
      have hwn : IntKind.i64.wrap (n : Int) = (n : Int) := IntWalk.i64_in _ (by omega)
      have hmn : ∀ W : World, (Instr.makeSlice 25 (.int .i64 (n : Int)) (.int .i64 (n : Int))).run Try.prog W = .ok (.slice (some ⟨W.heap.size, 0, none⟩) n n) (W.alloc (.cells (madeCells #[.int .u8 0] n) 5)) := fun W => make_u8 W n (by omega)
      have hmk : ∀ W : World, (Instr.makeSlice 25 (.int .i64 ((k : Int) % 40)) (.int .i64 ((k : Int) % 40))).run Try.prog W = .ok (.slice (some ⟨W.heap.size, 0, none⟩) (k % 40) (k % 40)) (W.alloc (.cells (madeCells #[.int .u8 0] (k % 40)) 5)) := fun W => make_u8 W (k % 40) (by omega)
      go_region
      · obtain ⟨W, hW, O1, O2, KW⟩ := two_rows wr n (k % 40) (by omega) (by omega)
        rw [← hW]
        obtain ⟨LN, hLN⟩ : ∃ L, L = List.replicate n (0 : UInt8) := ⟨_, rfl⟩
        obtain ⟨LK, hLK⟩ : ∃ L, L = List.replicate (k % 40) (0 : UInt8) := ⟨_, rfl⟩
        have hM := HM.out LK LN hLK hLN
        have hln : LN.length = n := by rw [hLN]; simp
        have hlk : LK.length = k % 40 := by rw [hLK]; simp
        rw [← hLN] at O1
        rw [← hLK] at O2
        have HO1 := Lib.hid O1
        have HO2 := Lib.hid O2
        have HKW : Hid (Keeps (fun _ => False) w W) := Lib.hid ((Keeps.trans (by (repeat' (with_reducible first | exact Keeps.refl _ _ | assumption | refine Keeps.drawN ?_ _ | refine Keeps.drew ?_ | refine Keeps.setCell ?_ ?_ _ | refine Keeps.alloc ?_ _)) <;> (first | exact Or.inr (Nat.le_refl _) | exact Or.inl rfl | exact Or.inl (Or.inl rfl) | exact Or.inl (Or.inr rfl) | (right; simp; done) | (right; simp; omega))) K.out).trans KW)
        have HCZ := Lib.hid (fun W => count_any LK LN W (by omega) (by omega))
        rw [hM] at HCZ
        clear hW hLN hLK O1 O2 KW HM hM q0 q1 hws m1 hmn hmk hwn K
        go_wp2_with fail
        refine (HC.out _).mono ?_
        rintro e w5 ⟨rfl, k5⟩
        have hcv1 := ownB_text (own_keepB HO1.out k5)
        have hcv2 := ownB_text (own_keepB HO2.out k5)
        have K5 := Lib.hid (HKW.out.trans k5)
        unfold strL at hcv1 hcv2
        clear k5
        go_wp2_with fail
        refine (HCZ.out _).mono ?_
        rintro e w6 ⟨rfl, k6⟩
        have K6 := Lib.hid (K5.out.trans k6)
        clear k6 hcv1 hcv2
        go_wp2_with fail
        have hb : (((n + 1 - k % 40 : Nat) : Int) == max ((n : Int) - (k : Int) % 40 + 1) 0) = true := by rw [beq_iff_eq]; omega
        rw [hb]
        go_ret
        exact ⟨rfl, K6.out⟩
      · obtain ⟨W, hW, O2, O1, KW⟩ := two_rows wr (k % 40) n (by omega) (by omega)
        rw [← hW]
        obtain ⟨LN, hLN⟩ : ∃ L, L = List.replicate n (0 : UInt8) := ⟨_, rfl⟩
        obtain ⟨LK, hLK⟩ : ∃ L, L = List.replicate (k % 40) (0 : UInt8) := ⟨_, rfl⟩
        have hM := HM.out LK LN hLK hLN
        have hln : LN.length = n := by rw [hLN]; simp
        have hlk : LK.length = k % 40 := by rw [hLK]; simp
        rw [← hLN] at O1
        rw [← hLK] at O2
        have HO1 := Lib.hid O1
        have HO2 := Lib.hid O2
        have HKW : Hid (Keeps (fun _ => False) w W) := Lib.hid ((Keeps.trans (by (repeat' (with_reducible first | exact Keeps.refl _ _ | assumption | refine Keeps.drawN ?_ _ | refine Keeps.drew ?_ | refine Keeps.setCell ?_ ?_ _ | refine Keeps.alloc ?_ _)) <;> (first | exact Or.inr (Nat.le_refl _) | exact Or.inl rfl | exact Or.inl (Or.inl rfl) | exact Or.inl (Or.inr rfl) | (right; simp; done) | (right; simp; omega))) K.out).trans KW)
        have HCZ := Lib.hid (fun W => count_any LK LN W (by omega) (by omega))
        rw [hM] at HCZ
        clear hW hLN hLK O1 O2 KW HM hM q0 q1 hws m1 hmn hmk hwn K
        go_wp2_with fail
        refine (HC.out _).mono ?_
        rintro e w5 ⟨rfl, k5⟩
        have hcv1 := ownB_text (own_keepB HO1.out k5)
        have hcv2 := ownB_text (own_keepB HO2.out k5)
        have K5 := Lib.hid (HKW.out.trans k5)
        unfold strL at hcv1 hcv2
        clear k5
        go_wp2_with fail
        refine (HCZ.out _).mono ?_
        rintro e w6 ⟨rfl, k6⟩
        have K6 := Lib.hid (K5.out.trans k6)
        clear k6 hcv1 hcv2
        go_wp2_with fail
        have hb : (((n + 1 - k % 40 : Nat) : Int) == max ((n : Int) - (k : Int) % 40 + 1) 0) = true := by rw [beq_iff_eq]; omega
        rw [hb]
        go_ret
        exact ⟨rfl, K6.out⟩
set_option maxHeartbeats 1000000 in
theorem litc_long (p t : List UInt8) (n k : Nat) (w : World) (h : 100 < t.length ∨ 50 < p.length) :
    Calls Try.prog 3 #[strL t, strL p, .agg #[.int .u8 n, .int .u8 k]] w fun e w' => e = .returned (.bool true) ∧ Keeps (fun _ => False) w w' := by
  have HAw := Lib.hid (fun W => litAwake_any W)
  unfold strL
  by_cases h1 : 100 < t.length
  · have g1 : decide ((100 : Int) < (t.length : Int)) = true := by simp; omega
    clear h h1
    go_enter Try.func3, Try.ntmps3
    go_wp2_with fail
    refine (HAw.out _).mono ?_
    rintro e w1 ⟨rfl, k1⟩
    have K1 : Hid (Keeps (fun _ => False) w w1) := Lib.hid (Keeps.trans (by (repeat' (with_reducible first | exact Keeps.refl _ _ | assumption | refine Keeps.drawN ?_ _ | refine Keeps.drew ?_ | refine Keeps.setCell ?_ ?_ _ | refine Keeps.alloc ?_ _)) <;> (first | exact Or.inr (Nat.le_refl _) | exact Or.inl rfl | exact Or.inl (Or.inl rfl) | exact Or.inl (Or.inr rfl) | (right; simp; done) | (right; simp; omega))) k1)
    clear k1
    go_wp2_with fail
    refine (HAw.out _).mono ?_
    rintro e w2 ⟨rfl, k2⟩
    have K2 := Lib.hid (K1.out.trans k2)
    clear k2
    go_wp2_with fail
    go_ret
    exact ⟨rfl, K2.out⟩
  · have g1 : decide ((100 : Int) < (t.length : Int)) = false := by simp; omega
    have g2 : decide ((50 : Int) < (p.length : Int)) = true := by simp; omega
    clear h h1
    go_enter Try.func3, Try.ntmps3
    go_wp2_with fail
    refine (HAw.out _).mono ?_
    rintro e w1 ⟨rfl, k1⟩
    have K1 : Hid (Keeps (fun _ => False) w w1) := Lib.hid (Keeps.trans (by (repeat' (with_reducible first | exact Keeps.refl _ _ | assumption | refine Keeps.drawN ?_ _ | refine Keeps.drew ?_ | refine Keeps.setCell ?_ ?_ _ | refine Keeps.alloc ?_ _)) <;> (first | exact Or.inr (Nat.le_refl _) | exact Or.inl rfl | exact Or.inl (Or.inl rfl) | exact Or.inl (Or.inr rfl) | (right; simp; done) | (right; simp; omega))) k1)
    clear k1
    go_wp2_with fail
    refine (HAw.out _).mono ?_
    rintro e w2 ⟨rfl, k2⟩
    have K2 := Lib.hid (K1.out.trans k2)
    clear k2
    go_wp2_with fail
    go_ret
    exact ⟨rfl, K2.out⟩
theorem litc_all (p t : List UInt8) (n k : Nat) (w : World) (hn : n < 256) (hk : k < 256) :
    Calls Try.prog 3 #[strL t, strL p, .agg #[.int .u8 n, .int .u8 k]] w fun e w' => e = .returned (.bool true) ∧ Keeps (fun _ => False) w w' := by
  by_cases h : 100 < t.length ∨ 50 < p.length
  · exact litc_long p t n k w h
  · exact litc_law p t n k w (by omega) (by omega) hn hk
end Go.Proofs.Ytinogeobkljngaa
end
