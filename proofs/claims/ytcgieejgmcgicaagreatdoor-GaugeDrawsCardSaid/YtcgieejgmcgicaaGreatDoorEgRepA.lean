/-
  strings.Repeat at any text that is not empty, twice or more often: that many copies.
-/
import Derived.Test.YtcgieejgmcgicaaGreatDoorLcRepA
import Derived.Test.YtcgieejgmcgicaaGreatDoorEgHp
import Derived.Lib.RepeatB
import Derived.Deep.LoopGhost
import Derived.Deep.DeepCutAuto
import Derived.Deep.CutBlock
namespace Go.Proofs.YtcgieejgmcgicaaGreatDoor
open Go.RowKit
set_option linter.unusedVariables false
set_option linter.unusedSimpArgs false
set_option maxRecDepth 1000000

theorem hpB_pre (X s : ByteArray) (h : hpB X s = true) : Lib.hasPrefix X.data.toList s.data.toList = true := by
  rw [← Lib.hasPrefix_of_take, ← Lib.size_eq, ← Lib.size_eq]
  unfold hpB at h
  rw [Lib.extract_toList, Lib.toList_data] at h
  simpa using h
theorem fastB (X : ByteArray) (x : UInt8) (m : Nat) (hX : X.data.toList = List.replicate m x) (s : ByteArray) (c n : Nat) (hn : s.size * c = n) (hle : n ≤ m) (hp : hpB X s = true) : X.extract 0 n = ⟨(Lib.repeatL s.data.toList c).toArray⟩ := by
  have := Lib.fast_ok X.data.toList x m hX s c n hn hle (hpB_pre X s hp)
  rwa [show (⟨X.data.toList.toArray⟩ : ByteArray) = X from rfl] at this
set_option maxHeartbeats 4000000 in
theorem repeat_all (s : ByteArray) (c : Nat) (w : World) (hs : 1 ≤ s.size ∧ s.size ≤ 1000) (hc : 2 ≤ c ∧ c ≤ 1000) :
    Calls Tryz.prog 164 #[.string s, .int .i64 c] w fun e w' => e = .returned (.string ⟨(Lib.repeatL s.data.toList c).toArray⟩) ∧ Keeps (fun _ => False) w w' := by
  obtain ⟨n, hn⟩ : ∃ n, s.size * c = n := ⟨_, rfl⟩
  have hnb : n ≤ 1000000 := by rw [← hn]; exact Nat.le_trans (Nat.mul_le_mul hs.2 hc.2) (by decide)
  have HM := Lib.hid (fun W => Tryz.bits_Mul s.size c (by omega) (by omega) W)
  rw [hn, Nat.div_eq_of_lt (by omega), Nat.mod_eq_of_lt (by omega)] at HM
  have HN := Lib.hid hn
  have HP := Lib.hid (fun X W hX => hprefix_any X s W hX (by omega))
  clear hn
  go_enter Tryz.func164, Tryz.ntmps164
  go_upto_block 1 with (go_at_call 202; refine (HM.out _).mono ?_; rintro e w' ⟨rfl, hw⟩; rw [hw])
  clear HM
  go_cut [] (fun wx => w = wx)
  case first =>
    go_upto_if 43 with fail
    go_cut [43] (fun s43 wx => w = wx ∧ ∃ B : Bool, s43 = .bool B)
    case first =>
      go_wp2
      all_goals (go_meet; exact ⟨rfl, _, rfl⟩)
    case rest =>
      obtain ⟨rfl, B, rfl⟩ := hcut
      cases B
      · go_wp2
        go_meet
        rfl
      · go_wp2_with (go_at_call 203; refine (HP.out _ _ (by decide)).mono ?_; rintro e w' ⟨rfl, rfl⟩)
        all_goals (first
          | (go_meet; rfl)
          | (go_ret; first
              | exact ⟨by rw [fastB _ 32 128 (by rfl) s c n HN.out (by omega) (by assumption)] <;> rfl, Keeps.refl _ _⟩
              | exact ⟨by rw [fastB _ 45 128 (by rfl) s c n HN.out (by omega) (by assumption)] <;> rfl, Keeps.refl _ _⟩
              | exact ⟨by rw [fastB _ 48 64 (by rfl) s c n HN.out (by omega) (by assumption)] <;> rfl, Keeps.refl _ _⟩
              | exact ⟨by rw [fastB _ 61 128 (by rfl) s c n HN.out (by omega) (by assumption)] <;> rfl, Keeps.refl _ _⟩
              | exact ⟨by rw [fastB _ 9 64 (by rfl) s c n HN.out (by omega) (by assumption)] <;> rfl, Keeps.refl _ _⟩))
  case rest =>
    obtain rfl := hcut
    clear HP
    have hq8 : wrap64 (8192 / (s.size : Int) * (s.size : Int)) = ((8192 / s.size * s.size : Nat) : Int) := by
      have e : (8192 : Int) / (s.size : Int) * (s.size : Int) = ((8192 / s.size * s.size : Nat) : Int) := by
        rw [Int.natCast_mul, Int.natCast_ediv]; rfl
      have hle : 8192 / s.size * s.size ≤ 8192 := Nat.div_mul_le_self 8192 s.size
      rw [e]; unfold wrap64; omega
    have hq0 : 1 ≤ 8192 / s.size := (Nat.le_div_iff_mul_le (by omega)).2 (by omega)
    go_upto_if 96 with fail
    go_cut [8] (fun s8 wx => w = wx ∧ ∃ m : Nat, 1 ≤ m ∧ s8 = .int .i64 ((m * s.size : Nat) : Int))
    case first =>
      go_wp2
      · go_meet
        exact ⟨rfl, 1, Nat.le_refl _, by rw [Nat.one_mul]⟩
      · go_meet
        exact ⟨rfl, 8192 / s.size, hq0, by rw [hq8]⟩
      · go_meet
        exact ⟨rfl, c, by omega, by rw [Nat.mul_comm, HN.out]⟩
    case rest =>
      obtain ⟨rfl, m, hm1, rfl⟩ := hcut
      clear hq8 hq0
      obtain ⟨CM, hCM⟩ : ∃ CM, m * s.size = CM := ⟨_, rfl⟩
      rw [hCM]
      have HCM := Lib.hid hCM
      clear hCM
      go_wp2_with fail
      refine (Tryz.Builder_Grow_fresh w.heap.size w.heap.size n _ (Nat.le_refl _) (heap_alloc_new w _) (by simp) (by omega)).mono ?_
      rintro e w2 ⟨rfl, hB, hb2⟩
      have B2 : Hid (Below w.heap.size w w2) := Lib.hid (((Below.refl _ w).alloc (Nat.le_refl _) _).trans hb2)
      have H2 : Hid (Lib.IsBuilderF 345 5 w.heap.size w.heap.size [] w2) := Lib.hid (Or.inr (Lib.BuilderAtF.of hB))
      clear hB hb2
      go_wp2_with fail
      refine (writeStringF_any w.heap.size w.heap.size [] s _ H2.out (by simp; omega) (by have := B2.out.size; omega)).mono ?_
      rintro e w3 ⟨rfl, hB, hb3⟩
      have B3 := Lib.hid (B2.out.trans hb3)
      have H3 : Hid (Lib.IsBuilderF 345 5 w.heap.size w.heap.size (Lib.byteCells (Lib.repeatL s.data.toList 1)) w3) := Lib.hid (Or.inr (by rw [List.nil_append, Lib.strCells_eq] at hB; rw [Lib.repeatL_one]; exact hB))
      clear hB hb3
      go_wp2_with fail
      go_loopg [] (c - 1) (fun g wx => ∃ q : Nat, 1 ≤ q ∧ q + g = c ∧ Lib.IsBuilderF 345 5 w.heap.size w.heap.size (Lib.byteCells (Lib.repeatL s.data.toList q)) wx ∧ Below w.heap.size w wx)
      case atStart => exact ⟨1, Nat.le_refl _, by omega, H3.out, B3.out⟩
      case round =>
        clear H3 B3 H2 B2
        obtain ⟨q, hq1, hqg, hB, hK⟩ := hrel
        obtain ⟨Q, hQ⟩ : ∃ Q, q * s.size = Q := ⟨_, rfl⟩
        have hlr : (Lib.repeatL s.data.toList q).length = Q := by rw [Lib.repeatL_length, ← Lib.size_eq, hQ]
        have hlq : (Lib.byteCells (Lib.repeatL s.data.toList q)).length = Q := by rw [Lib.byteCells_length, hlr]
        have hnc : c * s.size = n := by rw [Nat.mul_comm]; exact HN.out
        have hsz := hK.size
        have HB := Lib.hid hB
        have KB := Lib.hid hK
        have HLen : Hid (Calls Tryz.prog 206 #[.pointer (some ⟨w.heap.size, 0, none⟩)] wr fun e w' => e = .returned (.int .i64 (Q : Nat)) ∧ w' = wr) := Lib.hid (by
          have := Tryz.Builder_Len_f w.heap.size w.heap.size _ wr HB.out
          rwa [hlq] at this)
        have HLR := Lib.hid hlr
        have HLQ := Lib.hid hlq
        have HQ := Lib.hid hQ
        have HNC := Lib.hid hnc
        clear hB hK hlr hlq hQ hnc
        cases gk with
        | zero =>
          obtain rfl : q = c := by omega
          have hQn : ¬ ((Q : Int) < (n : Int)) := by have e1 := HQ.out; have e2 := HNC.out; omega
          go_wp2_with fail
          refine HLen.out.mono ?_
          rintro e w4 ⟨rfl, rfl⟩
          go_wp2_with fail
          refine (Tryz.Builder_String_any_f w.heap.size w.heap.size _ _ HB.out hsz).mono ?_
          rintro e w5 ⟨rfl, hB5, hb5⟩
          have KB5 := Lib.hid (KB.out.trans hb5)
          clear hB5 hb5
          go_wp2_with fail
          go_ret
          exact ⟨rfl, Keeps.ofBelowAll KB5.out _⟩
        | succ g =>
          obtain ⟨k, hk1, hkq, hkc, hmin⟩ := Lib.chunk_ok c q m s.size hq1 (by omega) hm1
          rw [HNC.out, HQ.out, HCM.out] at hmin
          obtain ⟨CH, hCH⟩ : ∃ CH, k * s.size = CH := ⟨_, rfl⟩
          rw [hCH] at hmin
          have hQn : (Q : Int) < (n : Int) := by
            have h1 : (q + 1) * s.size ≤ c * s.size := Nat.mul_le_mul_right _ (by omega)
            rw [Nat.succ_mul, HQ.out, HNC.out] at h1
            omega
          have hCQ : CH ≤ Q := by rw [← hCH, ← HQ.out]; exact Nat.mul_le_mul_right _ hkq
          have hsum : Q + CH ≤ n := by
            have h1 : (q + k) * s.size ≤ c * s.size := Nat.mul_le_mul_right _ hkc
            rw [Nat.add_mul, HQ.out, hCH, HNC.out] at h1
            exact h1
          have hm3 := fun W => min_3 W ((n : Int) - (Q : Int)) (Q : Int) (CM : Int)
          have hme : (if (CM : Int) < (if (Q : Int) < (n : Int) - (Q : Int) then (Q : Int) else (n : Int) - (Q : Int)) then (CM : Int) else (if (Q : Int) < (n : Int) - (Q : Int) then (Q : Int) else (n : Int) - (Q : Int))) = (CH : Int) := by
            split <;> (try split) <;> omega
          rw [hme] at hm3
          obtain ⟨S, hS⟩ : ∃ S : ByteArray, (⟨(Lib.repeatL s.data.toList q).toArray⟩ : ByteArray) = S := ⟨_, rfl⟩
          have hSd : S.data.toList = Lib.repeatL s.data.toList q := by rw [← hS]
          have hSz : S.size = Q := by rw [Lib.size_eq, hSd, HLR.out]
          have HSd := Lib.hid hSd
          have HCH := Lib.hid hCH
          clear hmin hme hCH hSd
          have HStr : Hid (Calls Tryz.prog 207 #[.pointer (some ⟨w.heap.size, 0, none⟩)] wr fun e w' => e = .returned (.string S) ∧ Lib.IsBuilderF 345 5 w.heap.size w.heap.size (Lib.byteCells (Lib.repeatL s.data.toList q)) w' ∧ Below w.heap.size wr w') := Lib.hid (by
            have := Tryz.Builder_String_any_f w.heap.size w.heap.size _ _ HB.out hsz
            rwa [hS] at this)
          clear hS
          go_wp2_with fail
          refine HLen.out.mono ?_
          rintro e w4 ⟨rfl, rfl⟩
          go_wp2_with fail
          refine HLen.out.mono ?_
          rintro e w5 ⟨rfl, rfl⟩
          go_wp2_with fail
          refine HLen.out.mono ?_
          rintro e w6 ⟨rfl, rfl⟩
          go_wp2_with fail
          refine HStr.out.mono ?_
          rintro e w7 ⟨rfl, hB7, hb7⟩
          have KB7 := Lib.hid (KB.out.trans hb7)
          have HB7 := Lib.hid hB7
          clear hB7 hb7 hm3
          go_wp2_with fail
          refine (writeStringF_any w.heap.size w.heap.size _ (S.extract 0 CH) _ HB7.out (by rw [HLQ.out, Lib.size_eq, Lib.extract_data, HSd.out]; simp only [List.drop_zero, Nat.sub_zero, List.length_take, HLR.out]; omega) (by have := KB7.out.size; omega)).mono ?_
          rintro e w8 ⟨rfl, hB8, hb8⟩
          have KB8 := Lib.hid (KB7.out.trans hb8)
          have HB8 := Lib.hid hB8
          clear hB8 hb8
          go_wp2_with fail
          go_roundg (c - (q + k))
          case measure => omega
          case rel =>
            refine ⟨q + k, by omega, by omega, Or.inr ?_, KB8.out⟩
            have h8 := HB8.out
            rw [Lib.strCells_eq, ← Lib.byteCells_append, Lib.extract_data, HSd.out] at h8
            simp only [List.drop_zero, Nat.sub_zero] at h8
            rw [← HCH.out, Lib.size_eq, Lib.step_ok _ _ _ hkq] at h8
            exact h8
end Go.Proofs.YtcgieejgmcgicaaGreatDoor
