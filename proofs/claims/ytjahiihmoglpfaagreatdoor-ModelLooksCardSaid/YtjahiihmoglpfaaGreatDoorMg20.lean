/-
  Several texts in one: strings.Repeat at any text that is not empty, twice or more often: that many copies. strings.Repeat at every text, once or more often. lit.Prefix at Rep. prog.Length at every tree. Every tree of the parser's form has a program; prog.Compile at it. lit.Prefix comes to an end at every tree that the parser makes: some text of at most 200 octets. How trees are shown, as plain words. Trees that are shown alike are the same: plain Lean.
-/
import Derived.Test.YtjahiihmoglpfaaGreatDoorMg19
import Derived.Test.YtjahiihmoglpfaaGreatDoorMg16
import Derived.Lib.RepeatB
import Derived.Deep.LoopGhost
import Derived.Deep.DeepCutAuto
import Derived.Deep.CutBlock
import Derived.Deep.RegionHeld3
import Derived.Test.YtjahiihmoglpfaaGreatDoorMg9
import Derived.Test.YtjahiihmoglpfaaGreatDoorMg8
import Derived.Test.YtjahiihmoglpfaaGreatDoorMg2
import Derived.Lib.Join
namespace Go.Proofs.YtjahiihmoglpfaaGreatDoor
open Go.RowKit
set_option linter.unusedVariables false
set_option linter.unusedSimpArgs false
set_option maxRecDepth 100000
section
set_option maxRecDepth 1000000
theorem hpB_pre (X s : ByteArray) (h : hpB X s = true) : Lib.hasPrefix X.data.toList s.data.toList = true := by
 rw [← Lib.hasPrefix_of_take, ← Lib.size_eq, ← Lib.size_eq]
 unfold hpB at h
 rw [Lib.extract_toList, Lib.toList_data] at h
 simpa using h
theorem xkA (X : ByteArray) (x : UInt8) (m : Nat) (hX : X.data.toList = List.replicate m x) (s : ByteArray) (c n : Nat) (hn : s.size * c = n) (hle : n ≤ m) (hp : hpB X s = true) : X.extract 0 n = ⟨(Lib.repeatL s.data.toList c).toArray⟩ := by
 have := Lib.fast_ok X.data.toList x m hX s c n hn hle (hpB_pre X s hp)
 rwa [show (⟨X.data.toList.toArray⟩ : ByteArray) = X from rfl] at this
set_option maxHeartbeats 4000000 in
theorem xiL (s : ByteArray) (c : Nat) (w : World) (hs : 1 ≤ s.size ∧ s.size ≤ 1000) (hc : 2 ≤ c ∧ c ≤ 1000) :
 Calls Tryz.prog 111 #[.string s, .int .i64 c] w fun e w' => e = .returned (.string ⟨(Lib.repeatL s.data.toList c).toArray⟩) ∧ xaa (fun _ => False) w w' := by
 obtain ⟨n, hn⟩ : ∃ n, s.size * c = n := ⟨_, rfl⟩
 have hnb : n ≤ 1000000 := by rw [← hn]; exact Nat.le_trans (Nat.mul_le_mul hs.2 hc.2) (by decide)
 have HM := xmA (fun W => Tryz.bits_Mul s.size c (by omega) (by omega) W)
 rw [hn, Nat.div_eq_of_lt (by omega), Nat.mod_eq_of_lt (by omega)] at HM
 have HN := xmA hn
 have HP := xmA (fun X W hX => xhw X s W hX (by omega))
 clear hn
 go_enter Tryz.func111, Tryz.ntmps111
 go_upto_block 1 with (go_at_call 145; refine (HM.out _).mono ?_; rintro e w' ⟨rfl, hw⟩; rw [hw])
 clear HM
 go_cut [] (fun wx => w = wx)
 case first =>
  go_upto_if 43 with fail
  go_cut [43] (fun s43 wx => w = wx ∧ ∃ B : Bool, s43 = .bool B)
  case first =>
   go_wp2
   all_goals (go_meet; exact ⟨rfl, _, rfl⟩)
  case rest =>
   obtain ⟨rfl, B, rfl⟩ := hcut
   cases B
   · go_wp2
     go_meet
     rfl
   go_wp2_with (go_at_call 146; refine (HP.out _ _ (by decide)).mono ?_; rintro e w' ⟨rfl, rfl⟩)
   all_goals (first
    | (go_meet; rfl)
    | (go_ret; first
        | exact ⟨by rw [xkA _ 32 128 (by rfl) s c n HN.out (by omega) (by assumption)] <;> rfl, xaa.refl _ _⟩
        | exact ⟨by rw [xkA _ 45 128 (by rfl) s c n HN.out (by omega) (by assumption)] <;> rfl, xaa.refl _ _⟩
        | exact ⟨by rw [xkA _ 48 64 (by rfl) s c n HN.out (by omega) (by assumption)] <;> rfl, xaa.refl _ _⟩
        | exact ⟨by rw [xkA _ 61 128 (by rfl) s c n HN.out (by omega) (by assumption)] <;> rfl, xaa.refl _ _⟩
        | exact ⟨by rw [xkA _ 9 64 (by rfl) s c n HN.out (by omega) (by assumption)] <;> rfl, xaa.refl _ _⟩))
 case rest =>
  obtain rfl := hcut
  clear HP
  have hq8 : wrap64 (8192 / (s.size : Int) * (s.size : Int)) = ((8192 / s.size * s.size : Nat) : Int) := by
   have e : (8192 : Int) / (s.size : Int) * (s.size : Int) = ((8192 / s.size * s.size : Nat) : Int) := by
    rw [Int.natCast_mul, Int.natCast_ediv]; rfl
   have hle : 8192 / s.size * s.size ≤ 8192 := Nat.div_mul_le_self 8192 s.size
   rw [e]; unfold wrap64; omega
  have hq0 : 1 ≤ 8192 / s.size := (Nat.le_div_iff_mul_le (by omega)).2 (by omega)
  go_upto_if 96 with fail
  go_cut [8] (fun s8 wx => w = wx ∧ ∃ m : Nat, 1 ≤ m ∧ s8 = .int .i64 ((m * s.size : Nat) : Int))
  case first =>
   go_wp2
   · go_meet
     exact ⟨rfl, 1, Nat.le_refl _, by rw [Nat.one_mul]⟩
   · go_meet
     exact ⟨rfl, 8192 / s.size, hq0, by rw [hq8]⟩
   go_meet
   exact ⟨rfl, c, by omega, by rw [Nat.mul_comm, HN.out]⟩
  case rest =>
   obtain ⟨rfl, m, hm1, rfl⟩ := hcut
   clear hq8 hq0
   obtain ⟨CM, hCM⟩ : ∃ CM, m * s.size = CM := ⟨_, rfl⟩
   rw [hCM]
   have HCM := xmA hCM
   clear hCM
   go_wp2_with fail
   refine (Tryz.Builder_Grow_fresh w.heap.size w.heap.size n _ (Nat.le_refl _) (heap_alloc_new w _) (by simp) (by omega)).mono ?_
   rintro e w2 ⟨rfl, hB, hb2⟩
   have B2 : Hid (Below w.heap.size w w2) := xmA (((Below.refl _ w).alloc (Nat.le_refl _) _).trans hb2)
   have H2 : Hid (Lib.IsBuilderF 181 5 w.heap.size w.heap.size [] w2) := xmA (Or.inr (Lib.BuilderAtF.of hB))
   clear hB hb2
   go_wp2_with fail
   refine (xb8 w.heap.size w.heap.size [] s _ H2.out (by simp; omega) (by have := B2.out.size; omega)).mono ?_
   rintro e w3 ⟨rfl, hB, hb3⟩
   have B3 := xmA (B2.out.trans hb3)
   have H3 : Hid (Lib.IsBuilderF 181 5 w.heap.size w.heap.size (Lib.byteCells (Lib.repeatL s.data.toList 1)) w3) := xmA (Or.inr (by rw [List.nil_append, Lib.strCells_eq] at hB; rw [Lib.repeatL_one]; exact hB))
   clear hB hb3
   go_wp2_with fail
   go_loopg [] (c - 1) (fun g wx => ∃ q : Nat, 1 ≤ q ∧ q + g = c ∧ Lib.IsBuilderF 181 5 w.heap.size w.heap.size (Lib.byteCells (Lib.repeatL s.data.toList q)) wx ∧ Below w.heap.size w wx)
   case atStart => exact ⟨1, Nat.le_refl _, by omega, H3.out, B3.out⟩
   case round =>
    clear H3 B3 H2 B2
    obtain ⟨q, hq1, hqg, hB, hK⟩ := hrel
    obtain ⟨Q, hQ⟩ : ∃ Q, q * s.size = Q := ⟨_, rfl⟩
    have hlr : (Lib.repeatL s.data.toList q).length = Q := by rw [Lib.repeatL_length, ← Lib.size_eq, hQ]
    have hlq : (Lib.byteCells (Lib.repeatL s.data.toList q)).length = Q := by rw [Lib.byteCells_length, hlr]
    have hnc : c * s.size = n := by rw [Nat.mul_comm]; exact HN.out
    have hsz := hK.size
    have HB := xmA hB
    have KB := xmA hK
    have HLen : Hid (Calls Tryz.prog 149 #[.pointer (some ⟨w.heap.size, 0, none⟩)] wr fun e w' => e = .returned (.int .i64 (Q : Nat)) ∧ w' = wr) := xmA (by
     have := Tryz.Builder_Len_f w.heap.size w.heap.size _ wr HB.out
     rwa [hlq] at this)
    have HLR := xmA hlr
    have HLQ := xmA hlq
    have HQ := xmA hQ
    have HNC := xmA hnc
    clear hB hK hlr hlq hQ hnc
    cases gk with
    | zero =>
     obtain rfl : q = c := by omega
     have hQn : ¬ ((Q : Int) < (n : Int)) := by have e1 := HQ.out; have e2 := HNC.out; omega
     go_wp2_with fail
     refine HLen.out.mono ?_
     rintro e w4 ⟨rfl, rfl⟩
     go_wp2_with fail
     refine (Tryz.Builder_String_any_f w.heap.size w.heap.size _ _ HB.out hsz).mono ?_
     rintro e w5 ⟨rfl, hB5, hb5⟩
     have KB5 := xmA (KB.out.trans hb5)
     clear hB5 hb5
     go_wp2_with fail
     go_ret
     exact ⟨rfl, xaa.ofBelowAll KB5.out _⟩
    | succ g =>
     obtain ⟨k, hk1, hkq, hkc, hmin⟩ := Lib.chunk_ok c q m s.size hq1 (by omega) hm1
     rw [HNC.out, HQ.out, HCM.out] at hmin
     obtain ⟨CH, hCH⟩ : ∃ CH, k * s.size = CH := ⟨_, rfl⟩
     rw [hCH] at hmin
     have hQn : (Q : Int) < (n : Int) := by
      have h1 : (q + 1) * s.size ≤ c * s.size := Nat.mul_le_mul_right _ (by omega)
      rw [Nat.succ_mul, HQ.out, HNC.out] at h1
      omega
     have hCQ : CH ≤ Q := by rw [← hCH, ← HQ.out]; exact Nat.mul_le_mul_right _ hkq
     have hsum : Q + CH ≤ n := by
      have h1 : (q + k) * s.size ≤ c * s.size := Nat.mul_le_mul_right _ hkc
      rw [Nat.add_mul, HQ.out, hCH, HNC.out] at h1
      exact h1
     have hm3 := fun W => min_3 W ((n : Int) - (Q : Int)) (Q : Int) (CM : Int)
     have hme : (if (CM : Int) < (if (Q : Int) < (n : Int) - (Q : Int) then (Q : Int) else (n : Int) - (Q : Int)) then (CM : Int) else (if (Q : Int) < (n : Int) - (Q : Int) then (Q : Int) else (n : Int) - (Q : Int))) = (CH : Int) := by
      split <;> (try split) <;> omega
     rw [hme] at hm3
     obtain ⟨S, hS⟩ : ∃ S : ByteArray, (⟨(Lib.repeatL s.data.toList q).toArray⟩ : ByteArray) = S := ⟨_, rfl⟩
     have hSd : S.data.toList = Lib.repeatL s.data.toList q := by rw [← hS]
     have hSz : S.size = Q := by rw [Lib.size_eq, hSd, HLR.out]
     have HSd := xmA hSd
     have HCH := xmA hCH
     clear hmin hme hCH hSd
     have HStr : Hid (Calls Tryz.prog 118 #[.pointer (some ⟨w.heap.size, 0, none⟩)] wr fun e w' => e = .returned (.string S) ∧ Lib.IsBuilderF 181 5 w.heap.size w.heap.size (Lib.byteCells (Lib.repeatL s.data.toList q)) w' ∧ Below w.heap.size wr w') := xmA (by
      have := Tryz.Builder_String_any_f w.heap.size w.heap.size _ _ HB.out hsz
      rwa [hS] at this)
     clear hS
     go_wp2_with fail
     refine HLen.out.mono ?_
     rintro e w4 ⟨rfl, rfl⟩
     go_wp2_with fail
     refine HLen.out.mono ?_
     rintro e w5 ⟨rfl, rfl⟩
     go_wp2_with fail
     refine HLen.out.mono ?_
     rintro e w6 ⟨rfl, rfl⟩
     go_wp2_with fail
     refine HStr.out.mono ?_
     rintro e w7 ⟨rfl, hB7, hb7⟩
     have KB7 := xmA (KB.out.trans hb7)
     have HB7 := xmA hB7
     clear hB7 hb7 hm3
     go_wp2_with fail
     refine (xb8 w.heap.size w.heap.size _ (S.extract 0 CH) _ HB7.out (by rw [HLQ.out, Lib.size_eq, Lib.extract_data, HSd.out]; simp only [List.drop_zero, Nat.sub_zero, List.length_take, HLR.out]; omega) (by have := KB7.out.size; omega)).mono ?_
     rintro e w8 ⟨rfl, hB8, hb8⟩
     have KB8 := xmA (KB7.out.trans hb8)
     have HB8 := xmA hB8
     clear hB8 hb8
     go_wp2_with fail
     go_roundg (c - (q + k))
     case measure => omega
     case rel =>
      refine ⟨q + k, by omega, by omega, Or.inr ?_, KB8.out⟩
      have h8 := HB8.out
      rw [Lib.strCells_eq, ← Lib.byteCells_append, Lib.extract_data, HSd.out] at h8
      simp only [List.drop_zero, Nat.sub_zero] at h8
      rw [← HCH.out, Lib.size_eq, Lib.step_ok _ _ _ hkq] at h8
      exact h8
end
section
set_option maxRecDepth 1000000
set_option maxHeartbeats 2000000 in
theorem xhd (s : ByteArray) (w : World) :
 Calls Tryz.prog 111 #[.string s, .int .i64 1] w fun e w' => e = .returned (.string s) ∧ xaa (fun _ => False) w w' := by
 go_enter Tryz.func111, Tryz.ntmps111
 go_wp2_with fail
 go_ret
 exact ⟨rfl, xaa.refl _ _⟩
set_option maxHeartbeats 2000000 in
theorem xhc (c : Nat) (w : World) (hc : 2 ≤ c ∧ c ≤ 1000) :
 Calls Tryz.prog 111 #[.string ⟨#[]⟩, .int .i64 c] w fun e w' => e = .returned (.string ⟨#[]⟩) ∧ xaa (fun _ => False) w w' := by
 have HM := xmA (fun W => Tryz.bits_Mul 0 c (by omega) (by omega) W)
 rw [Nat.zero_mul, Nat.zero_div, Nat.zero_mod] at HM
 have gc0 : ((c : Int) == 0) = false := beq_eq_false_iff_ne.2 (by omega)
 have gc1 : ((c : Int) == 1) = false := beq_eq_false_iff_ne.2 (by omega)
 go_enter Tryz.func111, Tryz.ntmps111
 go_wp2_with fail
 refine (HM.out _).mono ?_
 rintro e w0 ⟨rfl, rfl⟩
 go_wp2_with fail
 go_ret
 exact ⟨rfl, xaa.refl _ _⟩
theorem xiK (l : List UInt8) (c : Nat) (w : World) (hs : l.length ≤ 1000) (hc : 1 ≤ c ∧ c ≤ 1000) :
 Calls Tryz.prog 111 #[strL l, .int .i64 c] w fun e w' => e = .returned (strL (Lib.repeatL l c)) ∧ xaa (fun _ => False) w w' := by
 rcases Nat.lt_or_ge c 2 with h | h
 · obtain rfl : c = 1 := by omega
   rw [Lib.repeatL_one]
   exact xhd _ w
 rcases l with _ | ⟨x, t⟩
 · rw [Lib.repeatL_nil]
   exact xhc c w ⟨h, hc.2⟩
 exact xiL ⟨(x :: t).toArray⟩ c w ⟨by simp [ByteArray.size], by simpa [ByteArray.size] using hs⟩ ⟨h, hc.2⟩
end
def repP (m : Nat) (x : Int) (r : List UInt8 × Bool) : List UInt8 × Bool :=
 if m = 0 then ([], (x == 0) && r.2)
 else if r.2 = false then (r.1, false)
 else if 200 < (Lib.repeatL r.1 m).length then ((Lib.repeatL r.1 m).take 200, false) else (Lib.repeatL r.1 m, x == (m : Int))
theorem xlj (m : Nat) (x : Int) (r : List UInt8 × Bool) (h : r.1.length ≤ 200) : (repP m x r).1.length ≤ 200 := by
 unfold repP
 split
 · simp
 split
 · exact h
 split
 · simp only [List.length_take]; omega
 simp only; omega
set_option maxHeartbeats 4000000 in
theorem rep_gen (P : Nat → Prop) (a1 a : Option Addr) (n1 c1 c m : Nat) (x : Int) (k : T) (r : List UInt8 × Bool) (w : World) (ha : KRow w P a [k]) (hk : PreC k r) (hr : r.1.length ≤ 1000) (hm : m ≤ 1000) :
 Calls Tryz.prog 70 #[.agg #[.int .i64 6, .slice a1 n1 c1, .int .i64 m, .int .i64 x, .slice a 1 c]] w fun e w' => PreE (repP m x r) w e w' := by
 obtain ⟨b, off, uo, d1, f1, g1, um, ux, d2, f2, g2, rfl, hu, hlt, x0, x1, x2, x3, x4⟩ := ha.at (i := 0) rfl
 simp only [Nat.zero_mul, Nat.add_zero] at x0 x1 x2 x3 x4
 have HS : Hid (∀ W, xaa (fun _ => False) w W → Calls Tryz.prog 35 #[.agg #[.int .i64 uo, .slice d1 f1 g1, .int .i64 um, .int .i64 ux, .slice d2 f2 g2]] W fun e w' => PreE r W e w') := xmA (fun W kW =>
  hk P ⟨uo, .slice d1 f1 g1, um, ux, .slice d2 f2 g2⟩ W (hu.keepsTo kW (fun _ _ => id) (fun _ h => h)))
 obtain ⟨s, q⟩ := r
 simp only at hr
 clear ha hu hk
 by_cases h0 : m = 0
 · subst h0
   have e1 : repP 0 x (s, q) = ([], (x == 0) && q) := by simp [repP]
   rw [e1]
   clear e1
   generalize hx0 : (x == 0) = x0' at *
   cases x0' <;> cases q
   all_goals
    go_enter Tryz.func70, Tryz.ntmps70
    go_wp2_with fail
    refine (HS.out _ (KI.out)).mono ?_
    rintro e w2 ⟨rfl, k2⟩
    have c2 : w2.cell? ⟨w.heap.size, 2, none⟩ = some (.int .i64 0) := k2.cell (by simp [go_sem]) id
    have c3 : w2.cell? ⟨w.heap.size, 3, none⟩ = some (.int .i64 x) := k2.cell (by simp [go_sem]) id
    have hK2 : xaa (fun _ => False) w w2 := xaa.trans (KI.out) k2
    clear k2
    unfold strL
    go_wp2_with fail
    go_ret2
    exact ⟨rfl, hK2⟩
 have hm0 : ((m : Int) == 0) = false := beq_eq_false_iff_ne.2 (by omega)
 cases q
 · have e1 : repP m x (s, false) = (s, false) := by simp [repP, h0]
   rw [e1]
   clear e1
   go_enter Tryz.func70, Tryz.ntmps70
   go_wp2_with fail
   refine (HS.out _ (KI.out)).mono ?_
   rintro e w2 ⟨rfl, k2⟩
   have c2 : w2.cell? ⟨w.heap.size, 2, none⟩ = some (.int .i64 m) := k2.cell (by simp [go_sem]) id
   have hK2 : xaa (fun _ => False) w w2 := xaa.trans (KI.out) k2
   clear k2
   unfold strL
   go_wp2_with fail
   go_ret2
   exact ⟨rfl, hK2⟩
 obtain ⟨R, hR⟩ : ∃ R, Lib.repeatL s m = R := ⟨_, rfl⟩
 obtain ⟨z, hz⟩ : ∃ z, (x == (m : Int)) = z := ⟨_, rfl⟩
 have e1 : repP m x (s, true) = (if 200 < R.length then (R.take 200, false) else (R, z)) := by simp [repP, h0, hR, hz]
 rw [e1]
 have HR := xmA (fun W => xiK s m W hr ⟨by omega, hm⟩)
 rw [hR] at HR
 have HC := xmA (fun W => xkG R z W)
 generalize (if 200 < R.length then (R.take 200, false) else (R, z)) = E at *
 unfold strL at HC HR
 clear e1 hR
 go_enter Tryz.func70, Tryz.ntmps70
 go_wp2_with fail
 refine (HS.out _ (KI.out)).mono ?_
 rintro e w2 ⟨rfl, k2⟩
 have c2 : w2.cell? ⟨w.heap.size, 2, none⟩ = some (.int .i64 m) := k2.cell (by simp [go_sem]) id
 have c3 : w2.cell? ⟨w.heap.size, 3, none⟩ = some (.int .i64 x) := k2.cell (by simp [go_sem]) id
 have hK2 : xaa (fun _ => False) w w2 := xaa.trans (KI.out) k2
 have hk0 : xaa (fun _ => False) w2 w2.drew := (xaa.refl _ _).drew
 have HR2 := xmA (fun W (K : xaa (fun _ => False) w2 W) => (HR.out W).mono (fun e w' h => (⟨h.1, K.trans h.2⟩ : _ ∧ xaa (fun _ => False) w2 w')))
 have HC2 := xmA (fun W (K : xaa (fun _ => False) w2 W) => (HC.out W).mono (fun e w' h => (⟨h.1, K.trans h.2⟩ : _ ∧ xaa (fun _ => False) w2 w')))
 clear HR HC
 have e2 : w2.drew.cell? ⟨w.heap.size, 2, none⟩ = some (.int .i64 m) := c2
 have e3 : w2.drew.cell? ⟨w.heap.size, 3, none⟩ = some (.int .i64 x) := c3
 clear k2
 unfold strL
 go_wp2_with fail
 go_region_held3 (fun w' => w'.cell? ⟨w.heap.size, 2, none⟩ = some (.int .i64 m) ∧ w'.cell? ⟨w.heap.size, 3, none⟩ = some (.int .i64 x) ∧ xaa (fun _ => False) w2 w') (first | exact ⟨e2, e3, hk0⟩ | exact ⟨xaa.cell (by assumption) c2 id, xaa.cell (by assumption) c3 id, by assumption⟩)
  (first | (go_at_call 111; refine (HR2.out _ ?_).mono ?_; exact (by assumption : _ ∧ _ ∧ _).2.2; rintro e w' ⟨rfl, hkn⟩) | (go_at_call 109; refine (HC2.out _ ?_).mono ?_; exact (by assumption : _ ∧ _ ∧ _).2.2; rintro e w' ⟨rfl, hkn⟩))
 all_goals
  go_wp2_with fail
  go_ret2
  exact ⟨rfl, hK2.trans hkn⟩
def xaK (n : Nat) : Nat := min n 1099511627776
theorem xfN (n : Nat) : xaK n ≤ 1099511627776 := by unfold xaK; omega
def LenG (t : T) (n : Nat) : Prop := ∀ (P : Nat → Prop) (v : NV) (w : World), TAt w P v t → Calls Tryz.prog 63 #[v.val] w fun e w' => e = .returned (.int .i64 (xaK n : Nat)) ∧ xaa (fun _ => False) w w'
def xfw (t : T) (s : Nat) : Nat :=
 if t.op = 0 then 0 else if t.op = 4 then s else if t.op = 5 then s + 2 * (t.kids.toL.length - 1) else if t.op = 6 then (if t.mx < 0 then (t.mn.toNat + 1) * s + 2 else t.mn.toNat * s + (t.mx - t.mn).toNat * (s + 1)) else 1
def xbg : List Nat → Nat
 | [] => 0
 | n :: r => n + xbg r
theorem xho {l : List Nat} {i n : Nat} (h : l[i]? = some n) : xbg (l.take (i + 1)) = xbg (l.take i) + n := by
 induction l generalizing i with
 | nil => simp at h
 | cons x l ih =>
  rcases i with _ | i
  · obtain rfl : x = n := by simpa using h
    simp [xbg]
  rw [List.take_succ_cons, List.take_succ_cons, xbg, xbg, ih (by simpa using h)]; omega
theorem min_cap (x y : Nat) (W : World) : (Builtin.min_ #[3, 3] 3 #[.int .i64 ((xaK x : Int) + (xaK y : Int)), .int .i64 1099511627776]).run Tryz.prog W = .ok (.int .i64 (xaK (x + y) : Nat)) W := by
 rw [xgv]
 congr 2
 unfold xaK
 split <;> omega
theorem min_eq2 (P : Nat) : (if (1099511627776 : Int) < (P : Int) + 2 then (1099511627776 : Int) else (P : Int) + 2) = (xaK (P + 2) : Nat) := by
 unfold xaK
 split <;> omega
theorem min_eqp (P Q : Nat) : (if (1099511627776 : Int) < (P : Int) + (Q : Int) then (1099511627776 : Int) else (P : Int) + (Q : Int)) = (xaK (P + Q) : Nat) := by
 unfold xaK
 split <;> omega
theorem xkh (a X : Nat) (ha : a ≤ 1001) (hX : X ≤ 1099511627777) : a * X ≤ 1200000000000000 := Nat.le_trans (Nat.mul_le_mul ha hX) (by decide)
theorem cap_mul (m S c : Nat) (hm : 0 < m) : xaK (m * S + c) = xaK (m * xaK S + c) := by
 by_cases h : S ≤ 1099511627776
 · rw [show xaK S = S by unfold xaK; omega]
 rw [show xaK S = 1099511627776 by unfold xaK; omega]
 have h1 : S ≤ m * S := Nat.le_mul_of_pos_left S hm
 have h2 : 1099511627776 ≤ m * 1099511627776 := Nat.le_mul_of_pos_left _ hm
 unfold xaK; omega
theorem xme (a d S : Nat) : xaK (a * S + d * (S + 1)) = xaK (a * xaK S + d * (xaK S + 1)) := by
 by_cases h : S ≤ 1099511627776
 · rw [show xaK S = S by unfold xaK; omega]
 rw [show xaK S = 1099511627776 by unfold xaK; omega]
 rcases Nat.eq_zero_or_pos a with rfl | ha
 · rcases Nat.eq_zero_or_pos d with rfl | hd
   · simp
   have h1 : S + 1 ≤ d * (S + 1) := Nat.le_mul_of_pos_left _ hd
   have h2 : 1099511627776 + 1 ≤ d * (1099511627776 + 1) := Nat.le_mul_of_pos_left _ hd
   unfold xaK; omega
 have h1 : S ≤ a * S := Nat.le_mul_of_pos_left S ha
 have h2 : 1099511627776 ≤ a * 1099511627776 := Nat.le_mul_of_pos_left _ ha
 unfold xaK; omega
def LeR (L : List T) (q : List Nat) (w : World) (iv av : Value) (wr : World) : Prop := ∃ i : Nat, iv = .int .i64 i ∧ i ≤ L.length ∧ av = .int .i64 (xaK (xbg (q.take i)) : Nat) ∧ xaa (fun _ => False) w wr
set_option maxHeartbeats 4000000 in
theorem xkm (t : T) (q : List Nat) (hW : WGn t) (hq : q.length = t.kids.toL.length) (ih : ∀ (i : Nat) (k : T) (n : Nat), t.kids.toL[i]? = some k → q[i]? = some n → LenG k n) : LenG t (xfw t (xbg q)) := by
 intro P v w ht
 obtain ⟨a1, n1, c1, a2, c2, e1, e2, hl, hc⟩ := ht.krow
 obtain ⟨⟨_, hL4⟩, hops⟩ := hW
 have hlo : ∀ s, xfw t s = if t.op = 0 then 0 else if t.op = 4 then s else if t.op = 5 then s + 2 * (t.kids.toL.length - 1) else if t.op = 6 then (if t.mx < 0 then (t.mn.toNat + 1) * s + 2 else t.mn.toNat * s + (t.mx - t.mn).toNat * (s + 1)) else 1 := fun s => rfl
 rw [hlo]
 clear hlo
 have o1 : v.op = t.op := ht.op
 have o2 : v.mn = t.mn := ht.mn
 have o3 : v.mx = t.mx := ht.mx
 obtain ⟨vo, vsv, vm, vx, vk⟩ := v
 obtain rfl := e1
 obtain rfl := e2
 simp only at o1 o2 o3
 subst o1
 subst o2
 subst o3
 have HOps : Hid (t.op = 0 ∨ t.op = 1 ∨ t.op = 2 ∨ t.op = 3 ∨ t.op = 4 ∨ (t.op = 5 ∧ 0 < t.kids.toL.length) ∨ (t.op = 6 ∧ (0 ≤ t.mn ∧ t.mn ≤ 1000) ∧ (-1 ≤ t.mx ∧ t.mx ≤ 1000) ∧ (t.mx < 0 ∨ t.mn ≤ t.mx))) := xmA (by
  rcases hops with h | h | h | h | h | h | ⟨h, _, h2, h3, h4⟩
  · exact Or.inl h
  · exact Or.inr (Or.inl h)
  · exact Or.inr (Or.inr (Or.inl h))
  · exact Or.inr (Or.inr (Or.inr (Or.inl h)))
  · exact Or.inr (Or.inr (Or.inr (Or.inr (Or.inl h))))
  · exact Or.inr (Or.inr (Or.inr (Or.inr (Or.inr (Or.inl h)))))
  exact Or.inr (Or.inr (Or.inr (Or.inr (Or.inr (Or.inr ⟨h, h2, h3, h4⟩))))))
 generalize t.op = op at *
 generalize t.mn = mn at *
 generalize t.mx = mx at *
 generalize t.kids.toL = L at *
 have HC := xmA hc
 have IH := xmA ih
 have HQ := xmA hq
 clear hl hc ht ih hops hq
 show Calls Tryz.prog 63 #[.agg #[.int .i64 op, .slice a1 n1 c1, .int .i64 mn, .int .i64 mx, .slice a2 L.length c2]] w _
 go_enter Tryz.func63, Tryz.ntmps63
 go_wp2_with fail
 obtain ⟨wb, hwb⟩ : ∃ W, W = w.alloc (.cells #[.int .i64 op, .slice a1 n1 c1, .int .i64 mn, .int .i64 mx, .slice a2 L.length c2] 52) := ⟨_, rfl⟩
 have hKB : xaa (fun _ => False) w wb := by rw [hwb]; exact (xaa.refl _ _).alloc _
 have b0 : wb.cell? ⟨w.heap.size, 0, none⟩ = some (.int .i64 op) := by rw [hwb]; simp [go_sem]
 have b2 : wb.cell? ⟨w.heap.size, 2, none⟩ = some (.int .i64 mn) := by rw [hwb]; simp [go_sem]
 have b3 : wb.cell? ⟨w.heap.size, 3, none⟩ = some (.int .i64 mx) := by rw [hwb]; simp [go_sem]
 have b4 : wb.cell? ⟨w.heap.size, 4, none⟩ = some (.slice a2 L.length c2) := by rw [hwb]; simp [go_sem]
 rw [← hwb]
 clear hwb
 have KB := xmA hKB
 have B0 := xmA b0
 have B2 := xmA b2
 have B3 := xmA b3
 have B4 := xmA b4
 clear hKB b0 b2 b3 b4
 go_loopw [9, 3] (fun iv av wr => LeR L q wb iv av wr) (fun iv _ _ => L.length - (intOf iv).toNat)
 case atStart => exact ⟨0, rfl, Nat.zero_le _, by rw [List.take_zero]; rfl, xaa.refl _ _⟩
 case round =>
  obtain ⟨i, rfl, hi, rfl, hk⟩ := hrel
  have K := xmA hk
  clear hk
  by_cases hil : i < L.length
  · obtain ⟨k, hki⟩ : ∃ k, L[i]? = some k := ⟨_, List.getElem?_eq_getElem hil⟩
    obtain ⟨n, hni⟩ : ∃ n, q[i]? = some n := ⟨_, List.getElem?_eq_getElem (by rw [HQ.out]; exact hil)⟩
    obtain ⟨b, off, uo, d1, f1, g1, um, ux, d2, f2, g2, rfl, hu, hlt, x0, x1, x2, x3, x4⟩ := (HC.out.keep (KB.out.trans K.out)).at hki
    have HS : Hid (∀ W, xaa (fun _ => False) wr W → Calls Tryz.prog 63 #[.agg #[.int .i64 uo, .slice d1 f1 g1, .int .i64 um, .int .i64 ux, .slice d2 f2 g2]] W fun e w' => e = .returned (.int .i64 (xaK n : Nat)) ∧ xaa (fun _ => False) W w') := xmA (fun W kW =>
     IH.out i k n hki hni P ⟨uo, .slice d1 f1 g1, um, ux, .slice d2 f2 g2⟩ W (hu.keepsTo kW (fun _ _ => id) (fun _ h => h)))
    have hS1 := xho hni
    have hm2 := fun W => min_cap (xbg (q.take i)) n W
    rw [← hS1] at hm2
    have q1 := xfN (xbg (q.take i))
    have q2 := xfN n
    clear hki hu hni hS1
    generalize xaK (xbg (q.take i)) = X at *
    generalize xaK n = Y at *
    obtain ⟨Z, hZ⟩ : ∃ Z, xaK (xbg (q.take (i + 1))) = Z := ⟨_, rfl⟩
    rw [hZ] at hm2
    have HZ := xmA hZ
    clear hZ
    go_wp2_with fail
    refine (HS.out _ (KI.out)).mono ?_
    rintro e w2 ⟨rfl, k2⟩
    have K2 : Hid (xaa (fun _ => False) wb w2) := xmA (K.out.trans (xaa.trans (KI.out) k2))
    clear k2
    go_wp2_with fail
    go_roundw
    case rel => exact ⟨i + 1, by go_num, by omega, by rw [HZ.out], K2.out⟩
    case measure => simp [intOf]; omega
  have he : i = L.length := by omega
  subst he
  have b0 := K.out.cell B0.out id
  have b2 := K.out.cell B2.out id
  have b3 := K.out.cell B3.out id
  have b4 := K.out.cell B4.out id
  have hsz : w.heap.size < wr.heap.size := xan b0
  have KE := xmA (KB.out.trans K.out)
  rw [List.take_of_length_le (by rw [HQ.out]; exact Nat.le_refl _)]
  have q1 := xfN (xbg q)
  obtain ⟨S, hS⟩ : ∃ S, xbg q = S := ⟨_, rfl⟩
  rw [hS] at q1 ⊢
  have HSS := xmA hS
  obtain ⟨X, hX⟩ : ∃ X, xaK S = X := ⟨_, rfl⟩
  rw [hX] at q1 ⊢
  have HX := xmA hX
  clear hS hX K B0 B2 B3 B4 KB
  rcases HOps.out with rfl | rfl | rfl | rfl | rfl | ⟨rfl, h5⟩ | ⟨rfl, h6, h7, h8⟩
  · go_wp2_with fail
    go_ret
    exact ⟨by simp [xaK], KE.out⟩
  · go_wp2_with fail
    go_ret
    exact ⟨by simp [xaK], KE.out⟩
  · go_wp2_with fail
    go_ret
    exact ⟨by simp [xaK], KE.out⟩
  · go_wp2_with fail
    go_ret
    exact ⟨by simp [xaK], KE.out⟩
  · have hm2 := fun W => xgv W (X : Int) 1099511627776
    rw [if_neg (by omega)] at hm2
    go_wp2_with fail
    go_ret
    exact ⟨by rw [← HX.out, ← HSS.out]; simp, KE.out⟩
  · obtain ⟨Y, hY⟩ : ∃ Y : Nat, L.length - 1 = Y := ⟨_, rfl⟩
    have hm2 := fun W => xgv W ((X : Int) + 2 * ((L.length : Int) - 1)) 1099511627776
    have HE : Hid ((if (1099511627776 : Int) < (X : Int) + 2 * ((L.length : Int) - 1) then (1099511627776 : Int) else (X : Int) + 2 * ((L.length : Int) - 1)) = (xaK (S + 2 * (L.length - 1)) : Nat)) := xmA (by
     rw [← HX.out]
     unfold xaK
     split <;> omega)
    obtain ⟨Z, hZ⟩ : ∃ Z, (if (1099511627776 : Int) < (X : Int) + 2 * ((L.length : Int) - 1) then (1099511627776 : Int) else (X : Int) + 2 * ((L.length : Int) - 1)) = Z := ⟨_, rfl⟩
    rw [hZ] at hm2 HE
    clear hZ hY
    go_wp2_with fail
    go_ret
    exact ⟨by rw [HE.out, ← HSS.out]; simp, KE.out⟩
  obtain ⟨a, rfl⟩ : ∃ a : Nat, mn = (a : Int) := ⟨mn.toNat, by omega⟩
  by_cases hm : mx < 0
  · have g1 : decide (mx < 0) = true := by simpa using hm
    obtain ⟨P1, hP1⟩ : ∃ P1, (a + 1) * X = P1 := ⟨_, rfl⟩
    have hb1 : P1 ≤ 1200000000000000 := by rw [← hP1]; exact xkh _ X (by omega) (by omega)
    have hw0 : IntKind.i64.wrap ((a : Int) + 1) = (a : Int) + 1 := IntWalk.i64_in _ (by omega)
    have hw1 : IntKind.i64.wrap (((a : Int) + 1) * (X : Int)) = (P1 : Int) := by
     rw [show ((a : Int) + 1) * (X : Int) = (P1 : Int) by rw [← hP1]; push_cast; rfl]
     exact IntWalk.i64_in _ (by omega)
    have hm2 := fun W => xgv W ((P1 : Int) + 2) 1099511627776
    have HE : Hid ((if (1099511627776 : Int) < (P1 : Int) + 2 then (1099511627776 : Int) else (P1 : Int) + 2) = (xaK ((a + 1) * S + 2) : Nat)) := xmA (by
     have hc := cap_mul (a + 1) S 2 (by omega)
     rw [HX.out, hP1] at hc
     rw [hc]
     exact min_eq2 P1)
    obtain ⟨Z, hZ⟩ : ∃ Z, (if (1099511627776 : Int) < (P1 : Int) + 2 then (1099511627776 : Int) else (P1 : Int) + 2) = Z := ⟨_, rfl⟩
    rw [hZ] at hm2 HE
    clear hZ hP1
    go_wp2_with fail
    go_ret
    exact ⟨by rw [HE.out, ← HSS.out]; simp [hm], KE.out⟩
  have g1 : decide (mx < 0) = false := by simpa using hm
  obtain ⟨d, rfl⟩ : ∃ d : Nat, mx = (a : Int) + (d : Int) := ⟨(mx - a).toNat, by omega⟩
  obtain ⟨P1, hP1⟩ : ∃ P1, a * X = P1 := ⟨_, rfl⟩
  obtain ⟨P2, hP2⟩ : ∃ P2, d * (X + 1) = P2 := ⟨_, rfl⟩
  have hb1 : P1 ≤ 1200000000000000 := by rw [← hP1]; exact xkh _ X (by omega) (by omega)
  have hb2 : P2 ≤ 1200000000000000 := by rw [← hP2]; exact xkh _ _ (by omega) (by omega)
  have hw1 : IntKind.i64.wrap ((a : Int) * (X : Int)) = (P1 : Int) := by
   rw [show (a : Int) * (X : Int) = (P1 : Int) by rw [← hP1]; push_cast; rfl]
   exact IntWalk.i64_in _ (by omega)
  have hsub : (a : Int) + (d : Int) - (a : Int) = (d : Int) := by omega
  have hw2 : wrap64 (((a : Int) + (d : Int) - (a : Int)) * ((X : Int) + 1)) = (P2 : Int) := by
   rw [hsub, show (d : Int) * ((X : Int) + 1) = (P2 : Int) by rw [← hP2]; push_cast; rfl]
   unfold wrap64
   omega
  clear hsub
  have hm2 := fun W => xgv W ((P1 : Int) + (P2 : Int)) 1099511627776
  have HE : Hid ((if (1099511627776 : Int) < (P1 : Int) + (P2 : Int) then (1099511627776 : Int) else (P1 : Int) + (P2 : Int)) = (xaK (a * S + d * (S + 1)) : Nat)) := xmA (by
   have hc := xme a d S
   rw [HX.out, hP1, hP2] at hc
   rw [hc]
   exact min_eqp P1 P2)
  obtain ⟨Z, hZ⟩ : ∃ Z, (if (1099511627776 : Int) < (P1 : Int) + (P2 : Int) then (1099511627776 : Int) else (P1 : Int) + (P2 : Int)) = Z := ⟨_, rfl⟩
  rw [hZ] at hm2 HE
  have hd1 : ((a : Int) + (d : Int) - (a : Int)).toNat = d ∧ ((a : Int) + (d : Int)).toNat - a = d := by omega
  have HD := xmA hd1
  clear hZ hP1 hP2 hd1
  go_wp2_with fail
  go_ret
  exact ⟨by rw [HE.out, ← HSS.out]; simp [hm, HD.out.1, HD.out.2], KE.out⟩
theorem xhQ : ∀ (q : List Cd), sumN q = xbg (q.map (·.2))
 | [] => rfl
 | p :: r => by rw [sumN, xhQ r]; rfl
theorem xiq : ∀ (q : List Cd), 0 < q.length → altN q = xbg (q.map (·.2)) + 2 * (q.length - 1)
 | [], h => by simp at h
 | [p], _ => by simp [altN, xbg]
 | p :: p2 :: r, _ => by
  rw [altN, xiq (p2 :: r) (by simp)]
  simp only [List.map_cons, xbg, List.length_cons]; omega
theorem xeN (p : Cd) : ∀ k, xbc p k = k * p.2
 | 0 => by simp [xbc]
 | k + 1 => by rw [xbc, xeN p k, Nat.add_mul]; omega
theorem xh5 (p : Cd) : ∀ k, optN p k = k * (p.2 + 1)
 | 0 => by simp [optN]
 | k + 1 => by rw [optN, xh5 p k, Nat.add_mul]; omega
theorem xiZ (q : List Cd) (i n : Nat) (h : (q.map (·.2))[i]? = some n) : ∃ p, q[i]? = some p ∧ p.2 = n := by
 rw [List.getElem?_map, Option.map_eq_some_iff] at h
 exact h
theorem xib : ∀ (L : List T), (∀ (i : Nat) (k : T), L[i]? = some k → ∃ c n, xbX k c n ∧ LenG k n) → ∃ q : List Cd, q.length = L.length ∧ ∀ (i : Nat) (k : T) (p : Cd), L[i]? = some k → q[i]? = some p → xbX k p.1 p.2 ∧ LenG k p.2
 | [], _ => ⟨[], rfl, fun i k p h => by simp at h⟩
 | t :: L, h => by
  obtain ⟨c, n, h0⟩ := h 0 t rfl
  obtain ⟨q, h1, h2⟩ := xib L (fun i k hk => h (i + 1) k (by simpa using hk))
  refine ⟨(c, n) :: q, by simp [h1], fun i k p hk hp => ?_⟩
  rcases i with _ | i
  · obtain rfl : t = k := by simpa using hk
    obtain rfl : (c, n) = p := by simpa using hp
    exact h0
  exact h2 i k p (by simpa using hk) (by simpa using hp)
theorem xk8 {t : T} (hW : WG t) : ∃ c n, xbX t c n ∧ LenG t n := by
 induction hW with
 | @mk t h hk ih =>
  obtain ⟨q, hq, hall⟩ := xib t.kids.toL ih
  have hlen := xkm t (q.map (·.2)) h (by simp [hq]) (fun i k n h1 h2 => by
   obtain ⟨p, hp, rfl⟩ := xiZ q i n h2
   exact (hall i k p h1 hp).2)
  have hn : ∀ (i : Nat) (k : T) (p : Cd), t.kids.toL[i]? = some k → q[i]? = some p → xbX k p.1 p.2 := fun i k p h1 h2 => (hall i k p h1 h2).1
  have h' := h
  obtain ⟨⟨hs, _⟩, ho | ho | ho | ho | ho | ⟨ho, h5⟩ | ⟨ho, ⟨k, hk1⟩, h6, h7, h8⟩⟩ := h'
  · exact ⟨_, 0, xka t ho, by have := hlen; unfold xfw at this; rwa [if_pos ho] at this⟩
  · exact ⟨_, 1, xgr t ho hs, by have := hlen; unfold xfw at this; rwa [if_neg (by omega), if_neg (by omega), if_neg (by omega), if_neg (by omega)] at this⟩
  · exact ⟨_, 1, xiY t ho, by have := hlen; unfold xfw at this; rwa [if_neg (by omega), if_neg (by omega), if_neg (by omega), if_neg (by omega)] at this⟩
  · exact ⟨_, 1, xlD t ho, by have := hlen; unfold xfw at this; rwa [if_neg (by omega), if_neg (by omega), if_neg (by omega), if_neg (by omega)] at this⟩
  · exact ⟨_, _, xlE t q ho hq hn, by have := hlen; unfold xfw at this; rw [if_neg (by omega), if_pos ho, ← xhQ] at this; exact this⟩
  · exact ⟨_, _, xlF t q ho h5 hq hn, by
     have := hlen; unfold xfw at this
     rw [if_neg (by omega), if_neg (by omega), if_pos ho, ← hq, ← xiq q (by omega)] at this; exact this⟩
  rw [hk1] at hq hn
  obtain ⟨p, rfl⟩ : ∃ p, q = [p] := by
   rcases q with _ | ⟨p, _ | ⟨p2, r⟩⟩
   · simp at hq
   · exact ⟨p, rfl⟩
   simp at hq
  have hp := hn 0 k p rfl rfl
  refine ⟨_, _, xlC t k p ho hk1 h6 h7 h8 hp, ?_⟩
  have := hlen
  unfold xfw at this
  rw [if_neg (by omega), if_neg (by omega), if_neg (by omega), if_pos ho] at this
  have e : xbg (List.map (fun x => x.2) [p]) = p.2 := by simp [xbg]
  rw [e] at this
  unfold repN
  rw [xeN, xh5]
  by_cases hm : t.mx < 0
  · rw [if_pos hm] at this ⊢
    rw [show t.mn.toNat * p.2 + (p.2 + 2) = (t.mn.toNat + 1) * p.2 + 2 by rw [Nat.add_mul]; omega]
    exact this
  rw [if_neg hm] at this ⊢
  rw [show t.mx.toNat - t.mn.toNat = (t.mx - t.mn).toNat by omega]
  exact this
theorem LenG.exact {t : T} {n : Nat} (h : LenG t n) (hn : n < 2000) : LenC t n := fun P v w ht => by
 have := h P v w ht
 rwa [show xaK n = n by unfold xaK; omega] at this
theorem xjX {t : T} {c : Nat → List Ins} {n : Nat} (h : xbX t c n) (k : Nat) (i : Ins) (hi : (c 0 ++ [mI])[k]? = some i) : okI (c 0 ++ [mI]).length i := by
 have hl := h.len 0
 rw [List.length_append, hl]
 rcases xcU hi with hi | ⟨_, hi⟩
 · rcases h.ok 0 k i hi with ⟨a, b, d⟩ | ⟨a, ⟨b, d⟩, e, f⟩
   · exact Or.inr (Or.inl ⟨a, by simp; omega⟩)
   exact Or.inr (Or.inr ⟨a, by simp; omega, by simp; omega⟩)
 generalize k - (c 0).length = k' at hi
 rcases k' with _ | k'
 · obtain rfl : mI = i := by simpa using hi
   exact Or.inl rfl
 simp at hi
set_option maxHeartbeats 2000000 in
theorem xhE (t : T) (n : Nat) (hl : LenG t n) (hn : 2000 ≤ n) (P : Nat → Prop) (v : NV) (w : World) (ht : TAt w P v t) :
 Calls Tryz.prog 34 #[v.val] w fun e w' => e = .returned (.tuple #[.slice none 0 0, .int .i64 16]) ∧ xaa (fun _ => False) w w' := by
 obtain ⟨a1, n1, c1, a2, c2, e1, e2, _, _⟩ := ht.krow
 have HL := xmA (fun W (K : xaa (fun _ => False) w W) => hl P v W (ht.keepsTo K (fun _ _ => id) (fun _ h => h)))
 obtain ⟨vo, vsv, vm, vx, vk⟩ := v
 obtain rfl := e1
 obtain rfl := e2
 have hc : 2000 ≤ xaK n := by unfold xaK; omega
 generalize xaK n = X at *
 have g0 : decide ((2000 : Int) ≤ (X : Int)) = true := by simp; omega
 unfold NV.val at HL
 clear ht hl
 generalize t.kids.toL.length = KL at *
 show Calls Tryz.prog 34 #[.agg #[.int .i64 vo, .slice a1 n1 c1, .int .i64 vm, .int .i64 vx, .slice a2 KL c2]] w _
 go_enter Tryz.func34, Tryz.ntmps34
 go_wp2_with fail
 refine (HL.out _ (KI.out)).mono ?_
 rintro e w2 ⟨rfl, k2⟩
 have K2 : Hid (xaa (fun _ => False) w w2) := xmA (xaa.trans (KI.out) k2)
 clear k2
 go_wp2_with fail
 go_ret2
 exact ⟨rfl, K2.out⟩
set_option maxHeartbeats 2000000 in
theorem prx_rep (t k : T) (h : t.op = 6) (hk : t.kids.toL = [k]) (m : Nat) (hm : t.mn = (m : Int)) (hm2 : m ≤ 1000) (r : List UInt8 × Bool) (hr : PreC k r ∧ r.1.length ≤ 1000) : PreC t (repP m t.mx r) := by
 intro P v w ht
 obtain ⟨a1, n1, c1, a2, c2, e1, e2, hl, hc⟩ := ht.krow
 rw [hk] at e2 hc
 have HK := xmA (fun W (K : xaa (fun _ => False) w W) => rep_gen P a1 a2 n1 c1 c2 m t.mx k r W (hc.keep K) hr.1 hr.2 hm2)
 have o1 : v.op = 6 := ht.op.trans h
 have o2 : v.mn = m := ht.mn.trans hm
 have o3 : v.mx = t.mx := ht.mx
 obtain ⟨vo, vsv, vm, vx, vk⟩ := v
 simp only at o1 o2 o3 e1 e2
 subst e1 e2 o1 o2 o3
 clear hl hc ht
 generalize repP m t.mx r = R at *
 generalize t.mx = x at *
 show Calls Tryz.prog 35 #[.agg #[.int .i64 6, .slice a1 n1 c1, .int .i64 m, .int .i64 x, .slice a2 1 c2]] w _
 go_enter Tryz.func35, Tryz.ntmps35
 go_wp2_with fail
 refine (HK.out _ (KI.out)).mono ?_
 rintro e w2 ⟨rfl, k2⟩
 have K2 : Hid (xaa (fun _ => False) w w2) := xmA (xaa.trans (KI.out) k2)
 clear k2
 unfold strL
 go_wp2_with fail
 go_ret2
 exact ⟨rfl, K2.out⟩
theorem xhY : ∀ (L : List T), (∀ (i : Nat) (k : T), L[i]? = some k → ∃ r, PreC k r ∧ r.1.length ≤ 200) → ∃ res : List (List UInt8 × Bool), res.length = L.length ∧ ∀ (i : Nat) (k : T) (r : List UInt8 × Bool), L[i]? = some k → res[i]? = some r → PreC k r ∧ r.1.length ≤ 200
 | [], _ => ⟨[], rfl, fun i k r h => by simp at h⟩
 | k :: L, h => by
  obtain ⟨r, hr⟩ := h 0 k rfl
  obtain ⟨res, hn, hall⟩ := xhY L (fun i k' hk' => h (i + 1) k' (by simpa using hk'))
  refine ⟨r :: res, by simp [hn], fun i k' r' h1 h2 => ?_⟩
  cases i with
  | zero => simp at h1 h2; subst h1 h2; exact hr
  | succ i => simp at h1 h2; exact hall i k' r' h1 h2
theorem pre_all {t : T} (hW : WG t) : ∃ r : List UInt8 × Bool, PreC t r ∧ r.1.length ≤ 200 := by
 induction hW with
 | @mk t h hk ih =>
  obtain ⟨res, hres, hall⟩ := xhY t.kids.toL ih
  have hall2 : ∀ (i : Nat) (k : T) (r : List UInt8 × Bool), t.kids.toL[i]? = some k → res[i]? = some r → PreC k r ∧ r.1.length ≤ 1000 := fun i k r h1 h2 => ⟨(hall i k r h1 h2).1, Nat.le_trans (hall i k r h1 h2).2 (by decide)⟩
  obtain ⟨⟨hs, hkn⟩, ho | ho | ho | ho | ho | ⟨ho, h5⟩ | ⟨ho, ⟨k, hk1⟩, h6, h7, h8⟩⟩ := h
  · exact ⟨_, xlr t ho, by simp⟩
  · by_cases hb : ∃ y : Nat, ofL t.set = [((y : Int), (y : Int))] ∧ isB (y : Int) = true
    · obtain ⟨y, h1, h2⟩ := hb
      exact ⟨_, prx_one t ho hs y h1 h2, Nat.le_trans xc4 (by decide)⟩
    refine ⟨_, xls t ho hs (fun y hy => ?_), by simp⟩
    cases hB : isB y with
    | false => rfl
    | true =>
     exfalso
     have hy0 : 0 ≤ y := by
      unfold isB at hB
      simp at hB
      omega
     exact hb ⟨y.toNat, by rw [Int.toNat_of_nonneg hy0]; exact hy, by rw [Int.toNat_of_nonneg hy0]; exact hB⟩
  · exact ⟨_, xjW t ho, by simp⟩
  · exact ⟨_, prx_end t ho, by simp⟩
  · exact ⟨_, prx_cat t ho res hres hall2, xim res [] (by simp)⟩
  · obtain ⟨k0, L, hL⟩ : ∃ k0 L, t.kids.toL = k0 :: L := by
     cases hq : t.kids.toL with
     | nil => rw [hq] at h5; simp at h5
     | cons k0 L => exact ⟨k0, L, rfl⟩
    obtain ⟨r0, rest, hr⟩ : ∃ r0 rest, res = r0 :: rest := by
     cases res with
     | nil => rw [hL] at hres; simp at hres
     | cons r0 rest => exact ⟨r0, rest, rfl⟩
    subst hr
    rw [hL] at hres hall hall2 hkn
    refine ⟨_, prx_alt t ho k0 L hL (by simp at hkn; omega) r0 rest (by simpa using hres) (hall2 0 k0 r0 rfl rfl) (fun i k r h1 h2 => hall2 (i + 1) k r (by simpa using h1) (by simpa using h2)), ?_⟩
    exact Nat.le_trans (xeE rest r0) (hall 0 k0 r0 rfl rfl).2
  obtain ⟨r, hr⟩ : ∃ r, res = [r] := by
   rw [hk1] at hres
   rcases res with _ | ⟨p, _ | ⟨p2, q⟩⟩
   · simp at hres
   · exact ⟨p, rfl⟩
   simp at hres
  subst hr
  have h0 := hall 0 k r (by rw [hk1]; rfl) rfl
  refine ⟨_, prx_rep t k ho hk1 t.mn.toNat (Int.toNat_of_nonneg h6.1).symm (by omega) r ⟨h0.1, Nat.le_trans h0.2 (by decide)⟩, xlj _ _ _ h0.2⟩
def rangeS (p : Int × Int) : List UInt8 := if p.2 = p.1 then Lib.itoa p.1 else Lib.itoa p.1 ++ 45 :: Lib.itoa p.2
def xjS (l : List (Int × Int)) : List UInt8 := 123 :: (Lib.join (l.map rangeS) [32] ++ [125])
def xeT (ks : List (List UInt8)) : List UInt8 := 40 :: (Lib.join ks [44] ++ [41])
def nodeS (op : Int) (set : List (Int × Int)) (mn mx : Int) (ks : List (List UInt8)) : List UInt8 :=
 if op = 0 then [101, 109, 112, 116, 121] else if op = 1 then [99, 104, 97, 114] ++ xjS set else if op = 2 then [98, 101, 103, 105, 110] else if op = 3 then [101, 110, 100]
 else if op = 4 then [99, 97, 116] ++ xeT ks else if op = 5 then [97, 108, 116] ++ xeT ks
 else if op = 6 then [114, 101, 112, 123] ++ Lib.itoa mn ++ [32] ++ Lib.itoa mx ++ [125] ++ xeT ks else [63]
def xjG : F → List (List UInt8)
 | .nil => []
 | .cons op set mn mx k r => nodeS op set mn mx (xjG k) :: xjG r
def xeb (t : T) : List UInt8 := nodeS t.op t.set t.mn t.mx (xjG t.kids)
theorem xfo (l : List T) : xjG (F.ofL l) = l.map xeb := by
 induction l with
 | nil => rfl
 | cons t l ih => simp only [F.ofL, xjG, ih, List.map_cons]; rfl
def WFn (t : T) : Prop :=
 t = xbh ∨ (∃ s, t = xbn s) ∨ t = ⟨2, [], 0, 0, .nil⟩ ∨ t = ⟨3, [], 0, 0, .nil⟩ ∨ (∃ l, t = ⟨4, [], 0, 0, F.ofL l⟩) ∨ (∃ l, t = ⟨5, [], 0, 0, F.ofL l⟩) ∨ ∃ mn mx l, t = ⟨6, [], mn, mx, F.ofL l⟩
def WF : F → Prop
 | .nil => True
 | .cons op s mn mx k r => WFn ⟨op, s, mn, mx, k⟩ ∧ WF k ∧ WF r
def WFT (t : T) : Prop := WFn t ∧ WF t.kids
theorem WF.of {l : List T} : WF (F.ofL l) ↔ ∀ t ∈ l, WFT t := by
 induction l with
 | nil => simp [F.ofL, WF]
 | cons t l ih =>
  simp only [F.ofL, WF, ih, List.mem_cons, forall_eq_or_imp]
  constructor
  · rintro ⟨h1, h2, h3⟩; exact ⟨⟨h1, h2⟩, h3⟩
  rintro ⟨⟨h1, h2⟩, h3⟩; exact ⟨h1, h2, h3⟩
def Fm (t : T) : Prop :=
 (t = xbh ∧ xeb t = [101, 109, 112, 116, 121]) ∨ (∃ s, t = xbn s ∧ xeb t = [99, 104, 97, 114] ++ xjS s) ∨ (t = ⟨2, [], 0, 0, .nil⟩ ∧ xeb t = [98, 101, 103, 105, 110]) ∨ (t = ⟨3, [], 0, 0, .nil⟩ ∧ xeb t = [101, 110, 100]) ∨
 (∃ l, (∀ k ∈ l, WFT k) ∧ t = ⟨4, [], 0, 0, F.ofL l⟩ ∧ xeb t = [99, 97, 116] ++ xeT (l.map xeb)) ∨ (∃ l, (∀ k ∈ l, WFT k) ∧ t = ⟨5, [], 0, 0, F.ofL l⟩ ∧ xeb t = [97, 108, 116] ++ xeT (l.map xeb)) ∨
 ∃ mn mx l, (∀ k ∈ l, WFT k) ∧ t = ⟨6, [], mn, mx, F.ofL l⟩ ∧ xeb t = [114, 101, 112, 123] ++ Lib.itoa mn ++ [32] ++ Lib.itoa mx ++ [125] ++ xeT (l.map xeb)
theorem WFT.fm {t : T} (h : WFT t) : Fm t := by
 obtain ⟨h1, h2⟩ := h
 rcases h1 with rfl | ⟨s, rfl⟩ | rfl | rfl | ⟨l, rfl⟩ | ⟨l, rfl⟩ | ⟨mn, mx, l, rfl⟩
 · exact Or.inl ⟨rfl, rfl⟩
 · exact Or.inr (Or.inl ⟨s, rfl, rfl⟩)
 · exact Or.inr (Or.inr (Or.inl ⟨rfl, rfl⟩))
 · exact Or.inr (Or.inr (Or.inr (Or.inl ⟨rfl, rfl⟩)))
 · exact Or.inr (Or.inr (Or.inr (Or.inr (Or.inl ⟨l, WF.of.1 h2, rfl, by rw [← xfo]; rfl⟩))))
 · exact Or.inr (Or.inr (Or.inr (Or.inr (Or.inr (Or.inl ⟨l, WF.of.1 h2, rfl, by rw [← xfo]; rfl⟩)))))
 exact Or.inr (Or.inr (Or.inr (Or.inr (Or.inr (Or.inr ⟨mn, mx, l, WF.of.1 h2, rfl, by rw [← xfo]; rfl⟩)))))
end Go.Proofs.YtjahiihmoglpfaaGreatDoor
