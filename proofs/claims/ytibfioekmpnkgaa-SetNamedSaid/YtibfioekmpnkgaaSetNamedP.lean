/-
  The named sets: plain words and the walk of the document's own 'Named'.
-/
import Derived.Test.YtibfioekmpnkgaaSetLaw
import Derived.Deep.Cut
import Derived.Deep.CutRange
namespace Go.Proofs.Ytibfioekmpnkgaa
open Go.RowKit
set_option linter.unusedVariables false
set_option linter.unusedSimpArgs false
set_option maxRecDepth 100000

def digB (r : Int) : Bool := decide (48 ≤ r) && decide (r ≤ 57)
def wrdB (r : Int) : Bool := digB r || (decide (65 ≤ r) && decide (r ≤ 90)) || (decide (97 ≤ r) && decide (r ≤ 122)) || decide (r = 95)
def spcB (r : Int) : Bool := decide (r = 32) || (decide (9 ≤ r) && decide (r ≤ 13))
/-- What a name says of a number, and whether it is a name. -/
def namB (c r : Int) : Bool :=
  if c = 100 then digB r else if c = 119 then wrdB r else if c = 115 then spcB r else if c = 68 then !digB r else if c = 87 then !wrdB r else if c = 83 then !spcB r else false
def okN (c : Int) : Bool := decide (c = 100) || decide (c = 119) || decide (c = 115) || decide (c = 68) || decide (c = 87) || decide (c = 83)

structure FinN (r : Int) (d w s : Bool) : Prop where
  a1 : namB 100 r = d ∧ okN 100 = true
  a2 : namB 119 r = w ∧ okN 119 = true
  a3 : namB 115 r = s ∧ okN 115 = true
  a4 : namB 68 r = !d ∧ okN 68 = true
  a5 : namB 87 r = !w ∧ okN 87 = true
  a6 : namB 83 r = !s ∧ okN 83 = true
  a7 : ∀ c : Int, c ≠ 100 → c ≠ 119 → c ≠ 115 → c ≠ 68 → c ≠ 87 → c ≠ 83 → namB c r = false ∧ okN c = false
theorem fin_named (r : Int) {d w s : Bool} (hd : digB r = d) (hw : wrdB r = w) (hs : spcB r = s) : FinN r d w s := by
  subst hd hw hs
  exact ⟨⟨rfl, rfl⟩, ⟨rfl, rfl⟩, ⟨rfl, rfl⟩, ⟨rfl, rfl⟩, ⟨rfl, rfl⟩, ⟨rfl, rfl⟩, fun c h1 h2 h3 h4 h5 h6 => ⟨by simp [namB, h1, h2, h3, h4, h5, h6], by simp [okN, h1, h2, h3, h4, h5, h6]⟩⟩
set_option maxHeartbeats 2000000 in
theorem refNamed_any (c r : Int) (w : World) :
    Calls Try.prog 36 #[.int .u8 c, .int .i64 r] w fun e w' => e = .returned (.tuple #[.bool (namB c r), .bool (okN c)]) ∧ w' = w := by
  have hI : r < 9 ∨ (9 ≤ r ∧ r ≤ 13) ∨ (13 < r ∧ r < 32) ∨ r = 32 ∨ (32 < r ∧ r < 48) ∨ (48 ≤ r ∧ r ≤ 57) ∨ (57 < r ∧ r < 65) ∨ (65 ≤ r ∧ r ≤ 90) ∨ (90 < r ∧ r < 95) ∨ r = 95 ∨ (95 < r ∧ r < 97) ∨ (97 ≤ r ∧ r ≤ 122) ∨ 122 < r := by omega
  go_enter Try.func36, Try.ntmps36
  rcases hI with h | ⟨h, h'⟩ | ⟨h, h'⟩ | rfl | ⟨h, h'⟩ | ⟨h, h'⟩ | ⟨h, h'⟩ | ⟨h, h'⟩ | ⟨h, h'⟩ | rfl | ⟨h, h'⟩ | ⟨h, h'⟩ | h
  · have hd : digB r = false := by simp [digB] <;> omega
    have hw : wrdB r = false := by simp [wrdB, hd] <;> omega
    have hs : spcB r = false := by simp [spcB] <;> omega
    have HN := Lib.hid (fin_named r hd hw hs)
    have e95 : (r == 95) = false := by simp <;> omega
    have e32 : (r == 32) = false := by simp <;> omega
    have e13 : decide (r ≤ 13) = true := by simp <;> omega
    have e57 : decide (r ≤ 57) = true := by simp <;> omega
    have e90 : decide (r ≤ 90) = true := by simp <;> omega
    have e122 : decide (r ≤ 122) = true := by simp <;> omega
    clear hd hw hs
    go_wp2_with fail
    all_goals go_ret2
    all_goals refine ⟨?_, rfl⟩
    · obtain rfl : c = 100 := by simpa using ‹(c == 100) = true›
      rw [HN.out.a1.1, HN.out.a1.2]; rfl
    · obtain rfl : c = 119 := by simpa using ‹(c == 119) = true›
      rw [HN.out.a2.1, HN.out.a2.2]; rfl
    · obtain rfl : c = 115 := by simpa using ‹(c == 115) = true›
      rw [HN.out.a3.1, HN.out.a3.2]; rfl
    · obtain rfl : c = 68 := by simpa using ‹(c == 68) = true›
      rw [HN.out.a4.1, HN.out.a4.2]; rfl
    · obtain rfl : c = 87 := by simpa using ‹(c == 87) = true›
      rw [HN.out.a5.1, HN.out.a5.2]; rfl
    · obtain rfl : c = 83 := by simpa using ‹(c == 83) = true›
      rw [HN.out.a6.1, HN.out.a6.2]; rfl
    · obtain ⟨z1, z2⟩ := HN.out.a7 c (by simpa using ‹(c == 100) = false›) (by simpa using ‹(c == 119) = false›) (by simpa using ‹(c == 115) = false›) (by simpa using ‹(c == 68) = false›) (by simpa using ‹(c == 87) = false›) (by simpa using ‹(c == 83) = false›)
      rw [z1, z2]; rfl
  · have hd : digB r = false := by simp [digB] <;> omega
    have hw : wrdB r = false := by simp [wrdB, hd] <;> omega
    have hs : spcB r = true := by simp [spcB] <;> omega
    have HN := Lib.hid (fin_named r hd hw hs)
    have e95 : (r == 95) = false := by simp <;> omega
    have e32 : (r == 32) = false := by simp <;> omega
    have e13 : decide (r ≤ 13) = true := by simp <;> omega
    have e57 : decide (r ≤ 57) = true := by simp <;> omega
    have e90 : decide (r ≤ 90) = true := by simp <;> omega
    have e122 : decide (r ≤ 122) = true := by simp <;> omega
    clear hd hw hs
    go_wp2_with fail
    all_goals go_ret2
    all_goals refine ⟨?_, rfl⟩
    · obtain rfl : c = 100 := by simpa using ‹(c == 100) = true›
      rw [HN.out.a1.1, HN.out.a1.2]; rfl
    · obtain rfl : c = 119 := by simpa using ‹(c == 119) = true›
      rw [HN.out.a2.1, HN.out.a2.2]; rfl
    · obtain rfl : c = 115 := by simpa using ‹(c == 115) = true›
      rw [HN.out.a3.1, HN.out.a3.2]; rfl
    · obtain rfl : c = 68 := by simpa using ‹(c == 68) = true›
      rw [HN.out.a4.1, HN.out.a4.2]; rfl
    · obtain rfl : c = 87 := by simpa using ‹(c == 87) = true›
      rw [HN.out.a5.1, HN.out.a5.2]; rfl
    · obtain rfl : c = 83 := by simpa using ‹(c == 83) = true›
      rw [HN.out.a6.1, HN.out.a6.2]; rfl
    · obtain ⟨z1, z2⟩ := HN.out.a7 c (by simpa using ‹(c == 100) = false›) (by simpa using ‹(c == 119) = false›) (by simpa using ‹(c == 115) = false›) (by simpa using ‹(c == 68) = false›) (by simpa using ‹(c == 87) = false›) (by simpa using ‹(c == 83) = false›)
      rw [z1, z2]; rfl
  · have hd : digB r = false := by simp [digB] <;> omega
    have hw : wrdB r = false := by simp [wrdB, hd] <;> omega
    have hs : spcB r = false := by simp [spcB] <;> omega
    have HN := Lib.hid (fin_named r hd hw hs)
    have e95 : (r == 95) = false := by simp <;> omega
    have e32 : (r == 32) = false := by simp <;> omega
    have e13 : decide (r ≤ 13) = false := by simp <;> omega
    have e57 : decide (r ≤ 57) = true := by simp <;> omega
    have e90 : decide (r ≤ 90) = true := by simp <;> omega
    have e122 : decide (r ≤ 122) = true := by simp <;> omega
    clear hd hw hs
    go_wp2_with fail
    all_goals go_ret2
    all_goals refine ⟨?_, rfl⟩
    · obtain rfl : c = 100 := by simpa using ‹(c == 100) = true›
      rw [HN.out.a1.1, HN.out.a1.2]; rfl
    · obtain rfl : c = 119 := by simpa using ‹(c == 119) = true›
      rw [HN.out.a2.1, HN.out.a2.2]; rfl
    · obtain rfl : c = 115 := by simpa using ‹(c == 115) = true›
      rw [HN.out.a3.1, HN.out.a3.2]; rfl
    · obtain rfl : c = 68 := by simpa using ‹(c == 68) = true›
      rw [HN.out.a4.1, HN.out.a4.2]; rfl
    · obtain rfl : c = 87 := by simpa using ‹(c == 87) = true›
      rw [HN.out.a5.1, HN.out.a5.2]; rfl
    · obtain rfl : c = 83 := by simpa using ‹(c == 83) = true›
      rw [HN.out.a6.1, HN.out.a6.2]; rfl
    · obtain ⟨z1, z2⟩ := HN.out.a7 c (by simpa using ‹(c == 100) = false›) (by simpa using ‹(c == 119) = false›) (by simpa using ‹(c == 115) = false›) (by simpa using ‹(c == 68) = false›) (by simpa using ‹(c == 87) = false›) (by simpa using ‹(c == 83) = false›)
      rw [z1, z2]; rfl
  · have hd : digB 32 = false := by decide
    have hw : wrdB 32 = false := by decide
    have hs : spcB 32 = true := by decide
    have HN := Lib.hid (fin_named 32 hd hw hs)
    clear hd hw hs
    go_wp2_with fail
    all_goals go_ret2
    all_goals refine ⟨?_, rfl⟩
    · obtain rfl : c = 100 := by simpa using ‹(c == 100) = true›
      rw [HN.out.a1.1, HN.out.a1.2]; rfl
    · obtain rfl : c = 119 := by simpa using ‹(c == 119) = true›
      rw [HN.out.a2.1, HN.out.a2.2]; rfl
    · obtain rfl : c = 115 := by simpa using ‹(c == 115) = true›
      rw [HN.out.a3.1, HN.out.a3.2]; rfl
    · obtain rfl : c = 68 := by simpa using ‹(c == 68) = true›
      rw [HN.out.a4.1, HN.out.a4.2]; rfl
    · obtain rfl : c = 87 := by simpa using ‹(c == 87) = true›
      rw [HN.out.a5.1, HN.out.a5.2]; rfl
    · obtain rfl : c = 83 := by simpa using ‹(c == 83) = true›
      rw [HN.out.a6.1, HN.out.a6.2]; rfl
    · obtain ⟨z1, z2⟩ := HN.out.a7 c (by simpa using ‹(c == 100) = false›) (by simpa using ‹(c == 119) = false›) (by simpa using ‹(c == 115) = false›) (by simpa using ‹(c == 68) = false›) (by simpa using ‹(c == 87) = false›) (by simpa using ‹(c == 83) = false›)
      rw [z1, z2]; rfl
  · have hd : digB r = false := by simp [digB] <;> omega
    have hw : wrdB r = false := by simp [wrdB, hd] <;> omega
    have hs : spcB r = false := by simp [spcB] <;> omega
    have HN := Lib.hid (fin_named r hd hw hs)
    have e95 : (r == 95) = false := by simp <;> omega
    have e32 : (r == 32) = false := by simp <;> omega
    have e13 : decide (r ≤ 13) = false := by simp <;> omega
    have e57 : decide (r ≤ 57) = true := by simp <;> omega
    have e90 : decide (r ≤ 90) = true := by simp <;> omega
    have e122 : decide (r ≤ 122) = true := by simp <;> omega
    clear hd hw hs
    go_wp2_with fail
    all_goals go_ret2
    all_goals refine ⟨?_, rfl⟩
    · obtain rfl : c = 100 := by simpa using ‹(c == 100) = true›
      rw [HN.out.a1.1, HN.out.a1.2]; rfl
    · obtain rfl : c = 119 := by simpa using ‹(c == 119) = true›
      rw [HN.out.a2.1, HN.out.a2.2]; rfl
    · obtain rfl : c = 115 := by simpa using ‹(c == 115) = true›
      rw [HN.out.a3.1, HN.out.a3.2]; rfl
    · obtain rfl : c = 68 := by simpa using ‹(c == 68) = true›
      rw [HN.out.a4.1, HN.out.a4.2]; rfl
    · obtain rfl : c = 87 := by simpa using ‹(c == 87) = true›
      rw [HN.out.a5.1, HN.out.a5.2]; rfl
    · obtain rfl : c = 83 := by simpa using ‹(c == 83) = true›
      rw [HN.out.a6.1, HN.out.a6.2]; rfl
    · obtain ⟨z1, z2⟩ := HN.out.a7 c (by simpa using ‹(c == 100) = false›) (by simpa using ‹(c == 119) = false›) (by simpa using ‹(c == 115) = false›) (by simpa using ‹(c == 68) = false›) (by simpa using ‹(c == 87) = false›) (by simpa using ‹(c == 83) = false›)
      rw [z1, z2]; rfl
  · have hd : digB r = true := by simp [digB] <;> omega
    have hw : wrdB r = true := by simp [wrdB, hd] <;> omega
    have hs : spcB r = false := by simp [spcB] <;> omega
    have HN := Lib.hid (fin_named r hd hw hs)
    have e95 : (r == 95) = false := by simp <;> omega
    have e32 : (r == 32) = false := by simp <;> omega
    have e13 : decide (r ≤ 13) = false := by simp <;> omega
    have e57 : decide (r ≤ 57) = true := by simp <;> omega
    have e90 : decide (r ≤ 90) = true := by simp <;> omega
    have e122 : decide (r ≤ 122) = true := by simp <;> omega
    clear hd hw hs
    go_wp2_with fail
    all_goals go_ret2
    all_goals refine ⟨?_, rfl⟩
    · obtain rfl : c = 100 := by simpa using ‹(c == 100) = true›
      rw [HN.out.a1.1, HN.out.a1.2]; rfl
    · obtain rfl : c = 119 := by simpa using ‹(c == 119) = true›
      rw [HN.out.a2.1, HN.out.a2.2]; rfl
    · obtain rfl : c = 115 := by simpa using ‹(c == 115) = true›
      rw [HN.out.a3.1, HN.out.a3.2]; rfl
    · obtain rfl : c = 68 := by simpa using ‹(c == 68) = true›
      rw [HN.out.a4.1, HN.out.a4.2]; rfl
    · obtain rfl : c = 87 := by simpa using ‹(c == 87) = true›
      rw [HN.out.a5.1, HN.out.a5.2]; rfl
    · obtain rfl : c = 83 := by simpa using ‹(c == 83) = true›
      rw [HN.out.a6.1, HN.out.a6.2]; rfl
    · obtain ⟨z1, z2⟩ := HN.out.a7 c (by simpa using ‹(c == 100) = false›) (by simpa using ‹(c == 119) = false›) (by simpa using ‹(c == 115) = false›) (by simpa using ‹(c == 68) = false›) (by simpa using ‹(c == 87) = false›) (by simpa using ‹(c == 83) = false›)
      rw [z1, z2]; rfl
  · have hd : digB r = false := by simp [digB] <;> omega
    have hw : wrdB r = false := by simp [wrdB, hd] <;> omega
    have hs : spcB r = false := by simp [spcB] <;> omega
    have HN := Lib.hid (fin_named r hd hw hs)
    have e95 : (r == 95) = false := by simp <;> omega
    have e32 : (r == 32) = false := by simp <;> omega
    have e13 : decide (r ≤ 13) = false := by simp <;> omega
    have e57 : decide (r ≤ 57) = false := by simp <;> omega
    have e90 : decide (r ≤ 90) = true := by simp <;> omega
    have e122 : decide (r ≤ 122) = true := by simp <;> omega
    clear hd hw hs
    go_wp2_with fail
    all_goals go_ret2
    all_goals refine ⟨?_, rfl⟩
    · obtain rfl : c = 100 := by simpa using ‹(c == 100) = true›
      rw [HN.out.a1.1, HN.out.a1.2]; rfl
    · obtain rfl : c = 119 := by simpa using ‹(c == 119) = true›
      rw [HN.out.a2.1, HN.out.a2.2]; rfl
    · obtain rfl : c = 115 := by simpa using ‹(c == 115) = true›
      rw [HN.out.a3.1, HN.out.a3.2]; rfl
    · obtain rfl : c = 68 := by simpa using ‹(c == 68) = true›
      rw [HN.out.a4.1, HN.out.a4.2]; rfl
    · obtain rfl : c = 87 := by simpa using ‹(c == 87) = true›
      rw [HN.out.a5.1, HN.out.a5.2]; rfl
    · obtain rfl : c = 83 := by simpa using ‹(c == 83) = true›
      rw [HN.out.a6.1, HN.out.a6.2]; rfl
    · obtain ⟨z1, z2⟩ := HN.out.a7 c (by simpa using ‹(c == 100) = false›) (by simpa using ‹(c == 119) = false›) (by simpa using ‹(c == 115) = false›) (by simpa using ‹(c == 68) = false›) (by simpa using ‹(c == 87) = false›) (by simpa using ‹(c == 83) = false›)
      rw [z1, z2]; rfl
  · have hd : digB r = false := by simp [digB] <;> omega
    have hw : wrdB r = true := by simp [wrdB, hd] <;> omega
    have hs : spcB r = false := by simp [spcB] <;> omega
    have HN := Lib.hid (fin_named r hd hw hs)
    have e95 : (r == 95) = false := by simp <;> omega
    have e32 : (r == 32) = false := by simp <;> omega
    have e13 : decide (r ≤ 13) = false := by simp <;> omega
    have e57 : decide (r ≤ 57) = false := by simp <;> omega
    have e90 : decide (r ≤ 90) = true := by simp <;> omega
    have e122 : decide (r ≤ 122) = true := by simp <;> omega
    clear hd hw hs
    go_wp2_with fail
    all_goals go_ret2
    all_goals refine ⟨?_, rfl⟩
    · obtain rfl : c = 100 := by simpa using ‹(c == 100) = true›
      rw [HN.out.a1.1, HN.out.a1.2]; rfl
    · obtain rfl : c = 119 := by simpa using ‹(c == 119) = true›
      rw [HN.out.a2.1, HN.out.a2.2]; rfl
    · obtain rfl : c = 115 := by simpa using ‹(c == 115) = true›
      rw [HN.out.a3.1, HN.out.a3.2]; rfl
    · obtain rfl : c = 68 := by simpa using ‹(c == 68) = true›
      rw [HN.out.a4.1, HN.out.a4.2]; rfl
    · obtain rfl : c = 87 := by simpa using ‹(c == 87) = true›
      rw [HN.out.a5.1, HN.out.a5.2]; rfl
    · obtain rfl : c = 83 := by simpa using ‹(c == 83) = true›
      rw [HN.out.a6.1, HN.out.a6.2]; rfl
    · obtain ⟨z1, z2⟩ := HN.out.a7 c (by simpa using ‹(c == 100) = false›) (by simpa using ‹(c == 119) = false›) (by simpa using ‹(c == 115) = false›) (by simpa using ‹(c == 68) = false›) (by simpa using ‹(c == 87) = false›) (by simpa using ‹(c == 83) = false›)
      rw [z1, z2]; rfl
  · have hd : digB r = false := by simp [digB] <;> omega
    have hw : wrdB r = false := by simp [wrdB, hd] <;> omega
    have hs : spcB r = false := by simp [spcB] <;> omega
    have HN := Lib.hid (fin_named r hd hw hs)
    have e95 : (r == 95) = false := by simp <;> omega
    have e32 : (r == 32) = false := by simp <;> omega
    have e13 : decide (r ≤ 13) = false := by simp <;> omega
    have e57 : decide (r ≤ 57) = false := by simp <;> omega
    have e90 : decide (r ≤ 90) = false := by simp <;> omega
    have e122 : decide (r ≤ 122) = true := by simp <;> omega
    clear hd hw hs
    go_wp2_with fail
    all_goals go_ret2
    all_goals refine ⟨?_, rfl⟩
    · obtain rfl : c = 100 := by simpa using ‹(c == 100) = true›
      rw [HN.out.a1.1, HN.out.a1.2]; rfl
    · obtain rfl : c = 119 := by simpa using ‹(c == 119) = true›
      rw [HN.out.a2.1, HN.out.a2.2]; rfl
    · obtain rfl : c = 115 := by simpa using ‹(c == 115) = true›
      rw [HN.out.a3.1, HN.out.a3.2]; rfl
    · obtain rfl : c = 68 := by simpa using ‹(c == 68) = true›
      rw [HN.out.a4.1, HN.out.a4.2]; rfl
    · obtain rfl : c = 87 := by simpa using ‹(c == 87) = true›
      rw [HN.out.a5.1, HN.out.a5.2]; rfl
    · obtain rfl : c = 83 := by simpa using ‹(c == 83) = true›
      rw [HN.out.a6.1, HN.out.a6.2]; rfl
    · obtain ⟨z1, z2⟩ := HN.out.a7 c (by simpa using ‹(c == 100) = false›) (by simpa using ‹(c == 119) = false›) (by simpa using ‹(c == 115) = false›) (by simpa using ‹(c == 68) = false›) (by simpa using ‹(c == 87) = false›) (by simpa using ‹(c == 83) = false›)
      rw [z1, z2]; rfl
  · have hd : digB 95 = false := by decide
    have hw : wrdB 95 = true := by decide
    have hs : spcB 95 = false := by decide
    have HN := Lib.hid (fin_named 95 hd hw hs)
    clear hd hw hs
    go_wp2_with fail
    all_goals go_ret2
    all_goals refine ⟨?_, rfl⟩
    · obtain rfl : c = 100 := by simpa using ‹(c == 100) = true›
      rw [HN.out.a1.1, HN.out.a1.2]; rfl
    · obtain rfl : c = 119 := by simpa using ‹(c == 119) = true›
      rw [HN.out.a2.1, HN.out.a2.2]; rfl
    · obtain rfl : c = 115 := by simpa using ‹(c == 115) = true›
      rw [HN.out.a3.1, HN.out.a3.2]; rfl
    · obtain rfl : c = 68 := by simpa using ‹(c == 68) = true›
      rw [HN.out.a4.1, HN.out.a4.2]; rfl
    · obtain rfl : c = 87 := by simpa using ‹(c == 87) = true›
      rw [HN.out.a5.1, HN.out.a5.2]; rfl
    · obtain rfl : c = 83 := by simpa using ‹(c == 83) = true›
      rw [HN.out.a6.1, HN.out.a6.2]; rfl
    · obtain ⟨z1, z2⟩ := HN.out.a7 c (by simpa using ‹(c == 100) = false›) (by simpa using ‹(c == 119) = false›) (by simpa using ‹(c == 115) = false›) (by simpa using ‹(c == 68) = false›) (by simpa using ‹(c == 87) = false›) (by simpa using ‹(c == 83) = false›)
      rw [z1, z2]; rfl
  · have hd : digB r = false := by simp [digB] <;> omega
    have hw : wrdB r = false := by simp [wrdB, hd] <;> omega
    have hs : spcB r = false := by simp [spcB] <;> omega
    have HN := Lib.hid (fin_named r hd hw hs)
    have e95 : (r == 95) = false := by simp <;> omega
    have e32 : (r == 32) = false := by simp <;> omega
    have e13 : decide (r ≤ 13) = false := by simp <;> omega
    have e57 : decide (r ≤ 57) = false := by simp <;> omega
    have e90 : decide (r ≤ 90) = false := by simp <;> omega
    have e122 : decide (r ≤ 122) = true := by simp <;> omega
    clear hd hw hs
    go_wp2_with fail
    all_goals go_ret2
    all_goals refine ⟨?_, rfl⟩
    · obtain rfl : c = 100 := by simpa using ‹(c == 100) = true›
      rw [HN.out.a1.1, HN.out.a1.2]; rfl
    · obtain rfl : c = 119 := by simpa using ‹(c == 119) = true›
      rw [HN.out.a2.1, HN.out.a2.2]; rfl
    · obtain rfl : c = 115 := by simpa using ‹(c == 115) = true›
      rw [HN.out.a3.1, HN.out.a3.2]; rfl
    · obtain rfl : c = 68 := by simpa using ‹(c == 68) = true›
      rw [HN.out.a4.1, HN.out.a4.2]; rfl
    · obtain rfl : c = 87 := by simpa using ‹(c == 87) = true›
      rw [HN.out.a5.1, HN.out.a5.2]; rfl
    · obtain rfl : c = 83 := by simpa using ‹(c == 83) = true›
      rw [HN.out.a6.1, HN.out.a6.2]; rfl
    · obtain ⟨z1, z2⟩ := HN.out.a7 c (by simpa using ‹(c == 100) = false›) (by simpa using ‹(c == 119) = false›) (by simpa using ‹(c == 115) = false›) (by simpa using ‹(c == 68) = false›) (by simpa using ‹(c == 87) = false›) (by simpa using ‹(c == 83) = false›)
      rw [z1, z2]; rfl
  · have hd : digB r = false := by simp [digB] <;> omega
    have hw : wrdB r = true := by simp [wrdB, hd] <;> omega
    have hs : spcB r = false := by simp [spcB] <;> omega
    have HN := Lib.hid (fin_named r hd hw hs)
    have e95 : (r == 95) = false := by simp <;> omega
    have e32 : (r == 32) = false := by simp <;> omega
    have e13 : decide (r ≤ 13) = false := by simp <;> omega
    have e57 : decide (r ≤ 57) = false := by simp <;> omega
    have e90 : decide (r ≤ 90) = false := by simp <;> omega
    have e122 : decide (r ≤ 122) = true := by simp <;> omega
    clear hd hw hs
    go_wp2_with fail
    all_goals go_ret2
    all_goals refine ⟨?_, rfl⟩
    · obtain rfl : c = 100 := by simpa using ‹(c == 100) = true›
      rw [HN.out.a1.1, HN.out.a1.2]; rfl
    · obtain rfl : c = 119 := by simpa using ‹(c == 119) = true›
      rw [HN.out.a2.1, HN.out.a2.2]; rfl
    · obtain rfl : c = 115 := by simpa using ‹(c == 115) = true›
      rw [HN.out.a3.1, HN.out.a3.2]; rfl
    · obtain rfl : c = 68 := by simpa using ‹(c == 68) = true›
      rw [HN.out.a4.1, HN.out.a4.2]; rfl
    · obtain rfl : c = 87 := by simpa using ‹(c == 87) = true›
      rw [HN.out.a5.1, HN.out.a5.2]; rfl
    · obtain rfl : c = 83 := by simpa using ‹(c == 83) = true›
      rw [HN.out.a6.1, HN.out.a6.2]; rfl
    · obtain ⟨z1, z2⟩ := HN.out.a7 c (by simpa using ‹(c == 100) = false›) (by simpa using ‹(c == 119) = false›) (by simpa using ‹(c == 115) = false›) (by simpa using ‹(c == 68) = false›) (by simpa using ‹(c == 87) = false›) (by simpa using ‹(c == 83) = false›)
      rw [z1, z2]; rfl
  · have hd : digB r = false := by simp [digB] <;> omega
    have hw : wrdB r = false := by simp [wrdB, hd] <;> omega
    have hs : spcB r = false := by simp [spcB] <;> omega
    have HN := Lib.hid (fin_named r hd hw hs)
    have e95 : (r == 95) = false := by simp <;> omega
    have e32 : (r == 32) = false := by simp <;> omega
    have e13 : decide (r ≤ 13) = false := by simp <;> omega
    have e57 : decide (r ≤ 57) = false := by simp <;> omega
    have e90 : decide (r ≤ 90) = false := by simp <;> omega
    have e122 : decide (r ≤ 122) = false := by simp <;> omega
    clear hd hw hs
    go_wp2_with fail
    all_goals go_ret2
    all_goals refine ⟨?_, rfl⟩
    · obtain rfl : c = 100 := by simpa using ‹(c == 100) = true›
      rw [HN.out.a1.1, HN.out.a1.2]; rfl
    · obtain rfl : c = 119 := by simpa using ‹(c == 119) = true›
      rw [HN.out.a2.1, HN.out.a2.2]; rfl
    · obtain rfl : c = 115 := by simpa using ‹(c == 115) = true›
      rw [HN.out.a3.1, HN.out.a3.2]; rfl
    · obtain rfl : c = 68 := by simpa using ‹(c == 68) = true›
      rw [HN.out.a4.1, HN.out.a4.2]; rfl
    · obtain rfl : c = 87 := by simpa using ‹(c == 87) = true›
      rw [HN.out.a5.1, HN.out.a5.2]; rfl
    · obtain rfl : c = 83 := by simpa using ‹(c == 83) = true›
      rw [HN.out.a6.1, HN.out.a6.2]; rfl
    · obtain ⟨z1, z2⟩ := HN.out.a7 c (by simpa using ‹(c == 100) = false›) (by simpa using ‹(c == 119) = false›) (by simpa using ‹(c == 115) = false›) (by simpa using ‹(c == 68) = false›) (by simpa using ‹(c == 87) = false›) (by simpa using ‹(c == 83) = false›)
      rw [z1, z2]; rfl
end Go.Proofs.Ytibfioekmpnkgaa
