/-
  The law's awake, and the law's own walk.
-/
import Derived.Test.YtibfioekmpnkgaaDoorTextR
import Derived.Test.YtibfioekmpnkgaaDoorTextRef
namespace Go.Proofs.YtibfioekmpnkgaaDoor
open Go.RowKit
set_option linter.unusedVariables false
set_option linter.unusedSimpArgs false
set_option maxRecDepth 100000

def DeedK : Prop := ∀ (D : Nat) (w : World), Calls Tryd.prog 22 #[.pointer (some ⟨D, 0, none⟩)] w fun e w' => ∃ fb, e = .returned (.slice (some ⟨fb, 0, none⟩) 21 21) ∧ w'.heap[fb]? = some (.cells (fieldCells D) 54 (0, 0)) ∧ Keeps (fun _ => False) w w'

set_option maxHeartbeats 1000000 in
theorem awake_any (hd : DeedK) (w : World) (hK : w.cell? ⟨0, 3, none⟩ = some (.string cancelS)) :
    Calls Tryd.prog 5 #[] w fun e w' => e = .returned (.bool true) ∧ Keeps (fun _ => False) w w' := by
  have hP := fun (W : World) (K : Keeps (fun _ => False) w W) (X : Nat) (hX : W.heap[X]? = some (.cells dcells 41 (0, 0))) => print_awake hd X W hX (K.cell hK id)
  have HP := Lib.hid hP
  clear hP hK hd
  go_enter Tryd.func5, Tryd.ntmps5
  go_wp2_with fail
  refine (HP.out _ ((Keeps.refl _ w).alloc _) w.heap.size (heap_alloc_new w _)).mono ?_
  rintro e w1 ⟨rfl, hk1⟩
  have hk := ((Keeps.refl (fun _ => False) w).alloc (.cells dcells 41)).trans hk1
  clear HP
  go_wp2_with fail
  go_ret
  exact ⟨congrArg (fun b => Ending.returned (.bool b)) (by decide), hk⟩

theorem word_s (s : ByteArray) (w : World) (h : s.size ≤ 300) : Calls Tryd.prog 8 #[.string s] w fun e w' => e = .returned (.string ⟨(wordL s.data.toList).toArray⟩) ∧ Keeps (fun _ => False) w w' := by
  obtain ⟨⟨l⟩⟩ := s
  exact word_any l w (by have : l.length ≤ 300 := h; omega)
theorem mk_list (s : ByteArray) : (⟨s.data.toList.toArray⟩ : ByteArray) = s := by obtain ⟨⟨l⟩⟩ := s; rfl

theorem words_long (hd : DeedK) (s t : ByteArray) (w : World) (hK : w.cell? ⟨0, 3, none⟩ = some (.string cancelS)) (hl : 300 < s.size ∨ 300 < t.size) :
    Calls Tryd.prog 4 #[.string s, .string t] w fun e w' => e = .returned (.bool true) ∧ Keeps (fun _ => False) w w' := by
  have hA := fun (W : World) (K : Keeps (fun _ => False) w W) => awake_any hd W (K.cell hK id)
  have HA := Lib.hid hA
  clear hA hK hd
  by_cases h1 : 300 < s.size
  · have g1 : decide ((300 : Int) < (s.size : Int)) = true := by simp; omega
    clear hl
    go_enter Tryd.func4, Tryd.ntmps4
    go_wp2_with fail
    refine (HA.out _ (Keeps.refl _ _)).mono ?_
    rintro e w1 ⟨rfl, hk1⟩
    go_wp2_with fail
    refine (HA.out _ hk1).mono ?_
    rintro e w2 ⟨rfl, hk2⟩
    go_wp2_with fail
    go_ret
    exact ⟨rfl, hk1.trans hk2⟩
  · have g1 : decide ((300 : Int) < (s.size : Int)) = false := by simp; omega
    have g2 : decide ((300 : Int) < (t.size : Int)) = true := by simp; omega
    clear hl
    go_enter Tryd.func4, Tryd.ntmps4
    go_wp2_with fail
    refine (HA.out _ (Keeps.refl _ _)).mono ?_
    rintro e w1 ⟨rfl, hk1⟩
    go_wp2_with fail
    refine (HA.out _ hk1).mono ?_
    rintro e w2 ⟨rfl, hk2⟩
    go_wp2_with fail
    go_ret
    exact ⟨rfl, hk1.trans hk2⟩

theorem plain_le {w u : List UInt8} (h : plainL w = some u) : u.length ≤ w.length := by
  unfold plainL at h
  split at h
  · rename_i s hs
    split at h
    · cases h; exact unL_le _ _ _ (Nat.le_refl _) hs
    · cases h
  · cases h
set_option maxHeartbeats 1000000 in
theorem words_main (hd : DeedK) (s t : ByteArray) (w : World) (hK : w.cell? ⟨0, 3, none⟩ = some (.string cancelS)) (h1 : s.size ≤ 300) (h2 : t.size ≤ 300) :
    Calls Tryd.prog 4 #[.string s, .string t] w fun e w' => e = .returned (.bool true) ∧ Keeps (fun _ => False) w w' := by
  have hA := awake_any hd w hK
  have HA := Lib.hid hA
  clear hA hK hd
  have HW := Lib.hid (fun W => word_s s W h1)
  have HR := Lib.hid (fun W => refWord_any s W (by omega))
  have hxs : (⟨(wordL s.data.toList).toArray⟩ : ByteArray).size ≤ 900 := by
    have := wordL_le s.data.toList
    have e : s.data.toList.length = s.size := Array.length_toList
    show (wordL s.data.toList).toArray.size ≤ 900
    simp; omega
  have HP1 := Lib.hid (fun W => plain_any ⟨(wordL s.data.toList).toArray⟩ W (by omega))
  have e1 : plainL (⟨(wordL s.data.toList).toArray⟩ : ByteArray).data.toList = some s.data.toList := plain_word _
  rw [e1] at HP1
  simp only [Option.getD_some, Option.isSome_some, strOf, mk_list] at HP1 HR
  clear e1
  have HP2 := Lib.hid (fun W => plain_any t W (by omega))
  generalize hx : (⟨(wordL s.data.toList).toArray⟩ : ByteArray) = x at *
  clear hx
  cases hp : plainL t.data.toList with
  | some u =>
    have hu := word_plain hp
    have hus : u.length ≤ 900 := by
      have h3 := plain_le hp
      have e : t.data.toList.length = t.size := Array.length_toList
      omega
    have HRu := Lib.hid (fun W => refWord_any ⟨u.toArray⟩ W (by show u.toArray.size ≤ 10000; simp; omega))
    have e2 : (⟨u.toArray⟩ : ByteArray).data.toList = u := rfl
    rw [e2, hu] at HRu
    rw [hp] at HP2
    simp only [Option.getD_some, Option.isSome_some, strOf, mk_list] at HP2 HRu
    clear hp hu e2
    generalize (⟨u.toArray⟩ : ByteArray) = us at *
    go_enter Tryd.func4, Tryd.ntmps4
    go_wp2_with fail
    refine (HA.out).mono ?_
    rintro e w1 ⟨rfl, hk1⟩
    go_wp2_with fail
    refine (HW.out _).mono ?_
    rintro e w2 ⟨rfl, hk2⟩
    go_wp2_with fail
    refine (HP1.out _).mono ?_
    rintro e w3 ⟨rfl, hk3⟩
    go_wp2_with fail
    refine (HP2.out _).mono ?_
    rintro e w4 ⟨rfl, hk4⟩
    go_wp2_with fail
    refine (HR.out _).mono ?_
    rintro e w5 ⟨rfl, rfl⟩
    go_wp2_with fail
    refine (HRu.out _).mono ?_
    rintro e w6 ⟨rfl, rfl⟩
    go_wp2_with fail
    go_ret
    exact ⟨rfl, ((hk1.trans hk2).trans hk3).trans hk4⟩
  | none =>
    have hne : ¬ t.data.toList = [] := by intro e; rw [e, plain_nil] at hp; cases hp
    have g1 : t.toList.isEmpty = false := by rw [bytes_list]; cases hh : t.data.toList with | nil => exact absurd hh hne | cons _ _ => rfl
    have g2 : (!t.toList.isEmpty) = true := by rw [g1]; rfl
    have g3 : t.toList ≠ [] := by rw [bytes_list]; exact hne
    rw [hp] at HP2
    simp only [Option.getD_none, Option.isSome_none, strOf] at HP2
    clear hp hne
    go_enter Tryd.func4, Tryd.ntmps4
    go_wp2_with fail
    refine (HA.out).mono ?_
    rintro e w1 ⟨rfl, hk1⟩
    go_wp2_with fail
    refine (HW.out _).mono ?_
    rintro e w2 ⟨rfl, hk2⟩
    go_wp2_with fail
    refine (HP1.out _).mono ?_
    rintro e w3 ⟨rfl, hk3⟩
    go_wp2_with fail
    refine (HP2.out _).mono ?_
    rintro e w4 ⟨rfl, hk4⟩
    go_wp2_with fail
    refine (HR.out _).mono ?_
    rintro e w5 ⟨rfl, rfl⟩
    go_wp2_with fail
    go_ret
    exact ⟨rfl, ((hk1.trans hk2).trans hk3).trans hk4⟩
end Go.Proofs.YtibfioekmpnkgaaDoor
