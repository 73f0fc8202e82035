/-
  TraceRows: the walks of trace.Longest and of the document's word on it. No condition.
-/
import Derived.Test.YtcgieejgmcgicaaGreatDoorTrB
import Derived.IntWalk
namespace Go.Proofs.YtcgieejgmcgicaaGreatDoor
open Go.RowKit
set_option linter.unusedVariables false
set_option linter.unusedSimpArgs false
set_option maxRecDepth 100000

abbrev eqAt (l : List Mk) (i k : Nat) : Bool := (whoAt l k).toList == (whoAt l i).toList
abbrev bestOf (l : List Mk) (k : Nat) : ByteArray × Nat := best (whoAt l) l.length k

set_option maxHeartbeats 2000000 in
theorem longest_any (l : List Mk) (v : Value) (w : World) (h : MSl w v l) :
    Calls Tryz.prog 27 #[v] w fun e w' => e = .returned (.tuple #[.string (bestOf l l.length).1, .int .i64 (bestOf l l.length).2]) ∧ Keeps (fun _ => False) w w' := by
  obtain ⟨a, cap, rfl, hl, hc⟩ := MSl.cells h
  have Hc := Lib.hid hc
  clear hc h
  go_enter Tryz.func27, Tryz.ntmps27
  go_wp2_with fail
  go_loopw [4, 5, 6] (fun f g i wr => ∃ k : Nat, k ≤ l.length ∧ i = .int .i64 k ∧ f = .string (bestOf l k).1 ∧ g = .int .i64 (bestOf l k).2 ∧ Keeps (fun _ => False) w wr) (fun _ _ i _ => l.length - (intOf i).toNat)
  case atStart => exact ⟨0, Nat.zero_le _, rfl, rfl, rfl, Keeps.refl _ _⟩
  case round =>
    obtain ⟨i, hi, rfl, rfl, rfl, hkp⟩ := hrel
    have hbl := best_le (whoAt l) l.length i hi
    have Hs : Hid (bestOf l (i + 1) = if rowEnd (whoAt l) l.length i - i > (bestOf l i).2 then (whoAt l i, rowEnd (whoAt l) l.length i - i) else bestOf l i) := Lib.hid rfl
    obtain ⟨F, HF⟩ : ∃ F, F = (bestOf l i).1 := ⟨_, rfl⟩
    obtain ⟨G, HG⟩ : ∃ G, G = (bestOf l i).2 := ⟨_, rfl⟩
    have hG : G ≤ l.length := by rw [HG]; exact hbl
    rw [← HF, ← HG] at ⊢
    clear hbl
    have HF' := Lib.hid HF
    have HG' := Lib.hid HG
    clear HF HG
    by_cases hlt : i < l.length
    · obtain ⟨b, off, rfl, hb, hcc⟩ := Hc.out (by omega)
      have Hcc := Lib.hid hcc
      obtain ⟨c0, _, _⟩ := hcc i hlt
      clear hcc
      have d0 := hkp.cell c0 id
      clear c0
      have Hkp := Lib.hid hkp
      have hb' : b < wr.heap.size := Nat.lt_of_lt_of_le hb hkp.size
      go_wp2_with fail
      go_loopw [7] (fun k w2 => ∃ k' n : Nat, k = .int .i64 k' ∧ i ≤ k' ∧ k' ≤ l.length ∧ runEnd (eqAt l i) l.length l.length k' = rowEnd (whoAt l) l.length i ∧ w2 = wr.drewN n) (fun k _ => l.length - (intOf k).toNat)
      case atStart => exact ⟨i, 0, rfl, Nat.le_refl _, hi, rfl, rfl⟩
      case round =>
        obtain ⟨k, n, rfl, hik, hkl, hre, rfl⟩ := hrel
        have Hre := Lib.hid hre
        clear hre
        have fin : ∀ (m : Nat), k = rowEnd (whoAt l) l.length i → True := fun _ _ => trivial
        by_cases hk : k < l.length
        · obtain ⟨c1, _, _⟩ := Hcc.out k hk
          have d1 := Hkp.out.cell c1 id
          clear c1
          by_cases hq : (whoAt l k).toList = (whoAt l i).toList
          · have hqb : ((whoAt l k).toList == (whoAt l i).toList) = true := by simpa using hq
            have Hqb := Lib.hid hqb
            go_wp2_with fail
            go_quiet (fail)
            go_wp2_with fail
            go_roundw
            case rel => exact ⟨k + 1, _, by go_num, by omega, by omega, by rw [← Hre.out]; exact (runEnd_step (eqAt l i) _ _ _ (by omega) hk Hqb.out).symm, rfl⟩
            case measure => (simp [intOf] <;> omega)
          · have hqb : ((whoAt l k).toList == (whoAt l i).toList) = false := by simpa using hq
            have He : Hid (rowEnd (whoAt l) l.length i = k) := Lib.hid (by rw [← Hre.out]; exact runEnd_stop _ _ _ _ (fun hh => by have h2 : ((whoAt l k).toList == (whoAt l i).toList) = true := hh.2; rw [hqb] at h2; cases h2))
            have hik' : i < k := by have := rowEnd_lt (whoAt l) l.length i hlt; rw [He.out] at this; exact this
            have Hb := Lib.hid (best_row (whoAt l) l.length i hlt (by rw [He.out]; exact hik'))
            by_cases hgt : G < k - i
            · go_wp2_with fail
              go_quiet (fail)
              go_wp2_with fail
              go_roundw
              case rel => exact ⟨k, hkl, rfl, by have := Hb.out; rw [He.out] at this; rw [show bestOf l k = _ from this, show best (whoAt l) l.length (i + 1) = _ from Hs.out, He.out, if_pos (by rw [← HG'.out]; exact hgt)], by have := Hb.out; rw [He.out] at this; rw [show bestOf l k = _ from this, show best (whoAt l) l.length (i + 1) = _ from Hs.out, He.out, if_pos (by rw [← HG'.out]; exact hgt)]; congr 1; omega, Hkp.out.drawN _⟩
              case measure => (simp [intOf] <;> omega)
            · go_wp2_with fail
              go_quiet (fail)
              go_wp2_with fail
              go_roundw
              case rel => exact ⟨k, hkl, rfl, by have := Hb.out; rw [He.out] at this; rw [show bestOf l k = _ from this, show best (whoAt l) l.length (i + 1) = _ from Hs.out, He.out, if_neg (by rw [← HG'.out]; exact hgt)]; exact congrArg _ HF'.out, by have := Hb.out; rw [He.out] at this; rw [show bestOf l k = _ from this, show best (whoAt l) l.length (i + 1) = _ from Hs.out, He.out, if_neg (by rw [← HG'.out]; exact hgt), ← HG'.out], Hkp.out.drawN _⟩
              case measure => (simp [intOf] <;> omega)
        · have hkn : k = l.length := by omega
          subst hkn
          have He : Hid (rowEnd (whoAt l) l.length i = l.length) := Lib.hid (by rw [← Hre.out]; exact runEnd_stop _ _ _ _ (fun hh => by omega))
          have Hb := Lib.hid (best_row (whoAt l) l.length i hlt (by rw [He.out]; exact hlt))
          by_cases hgt : G < l.length - i
          · go_wp2_with fail
            go_quiet (fail)
            go_wp2_with fail
            go_roundw
            case rel => exact ⟨l.length, Nat.le_refl _, rfl, by have := Hb.out; rw [He.out] at this; rw [show bestOf l l.length = _ from this, show best (whoAt l) l.length (i + 1) = _ from Hs.out, He.out, if_pos (by rw [← HG'.out]; exact hgt)], by have := Hb.out; rw [He.out] at this; rw [show bestOf l l.length = _ from this, show best (whoAt l) l.length (i + 1) = _ from Hs.out, He.out, if_pos (by rw [← HG'.out]; exact hgt)]; congr 1; omega, Hkp.out.drawN _⟩
            case measure => (simp [intOf] <;> omega)
          · go_wp2_with fail
            go_quiet (fail)
            go_wp2_with fail
            go_roundw
            case rel => exact ⟨l.length, Nat.le_refl _, rfl, by have := Hb.out; rw [He.out] at this; rw [show bestOf l l.length = _ from this, show best (whoAt l) l.length (i + 1) = _ from Hs.out, He.out, if_neg (by rw [← HG'.out]; exact hgt)]; exact congrArg _ HF'.out, by have := Hb.out; rw [He.out] at this; rw [show bestOf l l.length = _ from this, show best (whoAt l) l.length (i + 1) = _ from Hs.out, He.out, if_neg (by rw [← HG'.out]; exact hgt), ← HG'.out], Hkp.out.drawN _⟩
            case measure => (simp [intOf] <;> omega)
    · have : i = l.length := by omega
      subst this
      go_wp2_with fail
      go_ret2
      exact ⟨by rw [HF'.out, HG'.out]; rfl, hkp⟩

set_option maxHeartbeats 2000000 in
theorem rlongest_any (l : List Mk) (v : Value) (w : World) (h : MSl w v l) :
    Calls Tryz.prog 28 #[v] w fun e w' => e = .returned (.tuple #[.string (bestOf l l.length).1, .int .i64 (bestOf l l.length).2]) ∧ Keeps (fun _ => False) w w' := by
  obtain ⟨a, cap, rfl, hl, hc⟩ := MSl.cells h
  have Hc := Lib.hid hc
  clear hc h
  go_enter Tryz.func28, Tryz.ntmps28
  go_wp2_with fail
  go_loopw [4, 5, 6] (fun f g i wr => ∃ k : Nat, k ≤ l.length ∧ i = .int .i64 k ∧ f = .string (bestOf l k).1 ∧ g = .int .i64 (bestOf l k).2 ∧ Keeps (fun _ => False) w wr) (fun _ _ i _ => l.length - (intOf i).toNat)
  case atStart => exact ⟨0, Nat.zero_le _, rfl, rfl, rfl, Keeps.refl _ _⟩
  case round =>
    obtain ⟨i, hi, rfl, rfl, rfl, hkp⟩ := hrel
    have hbl := best_le (whoAt l) l.length i hi
    have Hs : Hid (bestOf l (i + 1) = if rowEnd (whoAt l) l.length i - i > (bestOf l i).2 then (whoAt l i, rowEnd (whoAt l) l.length i - i) else bestOf l i) := Lib.hid rfl
    obtain ⟨F, HF⟩ : ∃ F, F = (bestOf l i).1 := ⟨_, rfl⟩
    obtain ⟨G, HG⟩ : ∃ G, G = (bestOf l i).2 := ⟨_, rfl⟩
    have hG : G ≤ l.length := by rw [HG]; exact hbl
    rw [← HF, ← HG] at ⊢
    clear hbl
    have HF' := Lib.hid HF
    have HG' := Lib.hid HG
    clear HF HG
    by_cases hlt : i < l.length
    · obtain ⟨b, off, rfl, hb, hcc⟩ := Hc.out (by omega)
      have Hcc := Lib.hid hcc
      obtain ⟨c0, _, _⟩ := hcc i hlt
      clear hcc
      have d0 := hkp.cell c0 id
      clear c0
      have Hkp := Lib.hid hkp
      have hb' : b < wr.heap.size := Nat.lt_of_lt_of_le hb hkp.size
      go_wp2_with fail
      go_loopw [7] (fun k w2 => ∃ k' n : Nat, k = .int .i64 k' ∧ i + k' ≤ l.length ∧ runEnd (eqAt l i) l.length l.length (i + k') = rowEnd (whoAt l) l.length i ∧ w2 = wr.drewN n) (fun k _ => l.length - (intOf k).toNat)
      case atStart => exact ⟨0, 0, rfl, hi, rfl, rfl⟩
      case round =>
        obtain ⟨k, n, rfl, hkl, hre, rfl⟩ := hrel
        have Hre := Lib.hid hre
        clear hre
        by_cases hk : i + k < l.length
        · obtain ⟨c1, _, _⟩ := Hcc.out (i + k) hk
          have d1 := Hkp.out.cell c1 id
          clear c1
          have hadd : ((i : Int) + (k : Int)).toNat = i + k := by omega
          have hw : IntKind.i64.wrap ((i : Int) + (k : Int)) = (i : Int) + (k : Int) := IntWalk.i64_in _ (by omega)
          have h0 : (0 : Int) ≤ (i : Int) + (k : Int) := by omega
          have hd : decide ((i : Int) + (k : Int) < (l.length : Int)) = true := by simp; omega
          by_cases hq : (whoAt l (i + k)).toList = (whoAt l i).toList
          · have hqb : ((whoAt l (i + k)).toList == (whoAt l i).toList) = true := by simpa using hq
            have Hqb := Lib.hid hqb
            go_wp2_with fail
            go_quiet (fail)
            go_wp2_with fail
            go_roundw
            case rel => exact ⟨k + 1, _, by go_num, by omega, by rw [← Hre.out]; exact (runEnd_step (eqAt l i) _ _ _ (by omega) hk Hqb.out).symm, rfl⟩
            case measure => (simp [intOf] <;> omega)
          · have hqb : ((whoAt l (i + k)).toList == (whoAt l i).toList) = false := by simpa using hq
            have He : Hid (rowEnd (whoAt l) l.length i = i + k) := Lib.hid (by rw [← Hre.out]; exact runEnd_stop _ _ _ _ (fun hh => by have h2 : ((whoAt l (i + k)).toList == (whoAt l i).toList) = true := hh.2; rw [hqb] at h2; cases h2))
            have Hsub : Hid (i + k - i = k) := Lib.hid (by omega)
            by_cases hgt : G < k
            · go_wp2_with fail
              go_quiet (fail)
              go_wp2_with fail
              go_roundw
              case rel => exact ⟨i + 1, by omega, by go_num, by rw [Hs.out, He.out, Hsub.out, if_pos (by rw [← HG'.out]; exact hgt)], by rw [Hs.out, He.out, Hsub.out, if_pos (by rw [← HG'.out]; exact hgt)], Hkp.out.drawN _⟩
              case measure => (simp [intOf] <;> omega)
            · go_wp2_with fail
              go_quiet (fail)
              go_wp2_with fail
              go_roundw
              case rel => exact ⟨i + 1, by omega, by go_num, by rw [Hs.out, He.out, Hsub.out, if_neg (by rw [← HG'.out]; exact hgt)]; exact congrArg _ HF'.out, by rw [Hs.out, He.out, Hsub.out, if_neg (by rw [← HG'.out]; exact hgt), ← HG'.out], Hkp.out.drawN _⟩
              case measure => (simp [intOf] <;> omega)
        · have He : Hid (rowEnd (whoAt l) l.length i = i + k) := Lib.hid (by rw [← Hre.out]; exact runEnd_stop _ _ _ _ (fun hh => by omega))
          have hw : IntKind.i64.wrap ((i : Int) + (k : Int)) = (i : Int) + (k : Int) := IntWalk.i64_in _ (by omega)
          have hd : decide ((i : Int) + (k : Int) < (l.length : Int)) = false := by simp; omega
          have Hsub : Hid (i + k - i = k) := Lib.hid (by omega)
          by_cases hgt : G < k
          · go_wp2_with fail
            go_quiet (fail)
            go_wp2_with fail
            go_roundw
            case rel => exact ⟨i + 1, by omega, by go_num, by rw [Hs.out, He.out, Hsub.out, if_pos (by rw [← HG'.out]; exact hgt)], by rw [Hs.out, He.out, Hsub.out, if_pos (by rw [← HG'.out]; exact hgt)], Hkp.out.drawN _⟩
            case measure => (simp [intOf] <;> omega)
          · go_wp2_with fail
            go_quiet (fail)
            go_wp2_with fail
            go_roundw
            case rel => exact ⟨i + 1, by omega, by go_num, by rw [Hs.out, He.out, Hsub.out, if_neg (by rw [← HG'.out]; exact hgt)]; exact congrArg _ HF'.out, by rw [Hs.out, He.out, Hsub.out, if_neg (by rw [← HG'.out]; exact hgt), ← HG'.out], Hkp.out.drawN _⟩
            case measure => (simp [intOf] <;> omega)
    · have : i = l.length := by omega
      subst this
      go_wp2_with fail
      go_ret2
      exact ⟨by rw [HF'.out, HG'.out]; rfl, hkp⟩
end Go.Proofs.YtcgieejgmcgicaaGreatDoor
