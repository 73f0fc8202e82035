/-
  The walks of set.Count, Only, Not.
-/
import Derived.Test.YtibfioekmpnkgaaSetFun1
namespace Go.Proofs.Ytibfioekmpnkgaa
open Go.RowKit
set_option linter.unusedVariables false
set_option linter.unusedSimpArgs false
set_option maxRecDepth 100000

theorem norm_len_take (l : List (Int × Int)) (h : Norm l) (i : Nat) : Norm (l.take i) := by
  induction l generalizing i with
  | nil => simpa using h
  | cons q l ih =>
    cases i with
    | zero => trivial
    | succ j => exact ⟨h.1, h.2.1, h.2.2.1, fun x hx => h.2.2.2.1 x (List.mem_of_mem_take hx), ih h.tail j⟩

theorem count_any (l : List (Int × Int)) (v : Value) (w : World) (h : RSl w v l) (hl : l.length ≤ 100000) :
    Calls Try.prog 33 #[v] w fun e w' => ∃ out, e = .returned (.int .i64 (sumR out)) ∧ IsOf l out ∧ Keeps (fun _ => False) w w' := by
  go_enter Try.func33, Try.ntmps33
  go_wp2_with fail
  refine (of_walk l v _ h hl).mono ?_
  rintro e w1 ⟨u, out, rfl, hof, hown, hlo⟩
  have hS := hown.read (by omega) (norm64 hof.1)
  obtain ⟨a, cap, rfl, hl1, hcl⟩ := hS.cells
  have Hc := Lib.hid hcl
  clear hcl hS
  have hkw := hown.2
  go_wp2_with fail
  go_loopw [3, 9] (fun sv iv wr => ∃ i : Nat, iv = .int .i64 i ∧ i ≤ out.length ∧ sv = .int .i64 (sumR (out.take i)) ∧ Keeps (fun _ => False) w1 wr) (fun _ iv _ => out.length - (intOf iv).toNat)
  case atStart => exact ⟨0, rfl, Nat.zero_le _, rfl, Keeps.refl _ _⟩
  case round =>
    obtain ⟨i, rfl, hi, rfl, hk⟩ := hrel
    by_cases hil : i < out.length
    · obtain ⟨b, off, rfl, hcc⟩ := Hc.out (by omega)
      obtain ⟨p, hp⟩ : ∃ p, out[i]? = some p := ⟨_, List.getElem?_eq_getElem hil⟩
      obtain ⟨c0, c1, _, _⟩ := hcc i p hp
      have d0 := hk.cell c0 id
      have d1 := hk.cell c1 id
      have hpr := hof.1.rng p (List.mem_of_getElem? hp)
      have hs0 := sumR_nonneg (out.take i) (norm_len_take _ hof.1 _)
      have hs1 := sumR_nonneg (out.take (i + 1)) (norm_len_take _ hof.1 _)
      have hst : sumR (out.take (i + 1)) = sumR (out.take i) + (p.2 - p.1 + 1) := by rw [take_snoc_of hp, sumR_snoc]
      have Hst := Lib.hid hst
      rw [hst] at hs1
      obtain ⟨a1, a2⟩ := hs0
      obtain ⟨a3, a4⟩ := hs1
      obtain ⟨a5, a6, a7⟩ := hpr
      clear hcc c0 c1 hp hst
      go_wp2_with fail
      go_roundw
      case rel => exact ⟨i + 1, by go_num, by omega, by rw [Hst.out], hk.alloc _⟩
      case measure => simp [intOf]; omega
    · go_wp2_with fail
      go_ret
      have : out.take i = out := List.take_of_length_le (by omega)
      rw [this]
      exact ⟨out, rfl, hof, hkw.trans hk⟩

theorem only_any (l : List (Int × Int)) (v : Value) (w : World) (h : RSl w v l) (hl : l.length ≤ 100000) :
    Calls Try.prog 32 #[v] w fun e w' => ∃ (out : List (Int × Int)) (x : Int) (ok : Bool), e = .returned (.tuple #[.int .i64 x, .bool ok]) ∧ IsOf l out ∧ (ok = true → out = [(x, x)]) ∧ (ok = false → x = 0 ∧ ∀ y, out ≠ [(y, y)]) ∧ Keeps (fun _ => False) w w' := by
  go_enter Try.func32, Try.ntmps32
  go_wp2_with fail
  refine (of_walk l v _ h hl).mono ?_
  rintro e w1 ⟨u, out, rfl, hof, hown, hlo⟩
  have hS := hown.read (by omega) (norm64 hof.1)
  obtain ⟨a, cap, rfl, hl1, hcl⟩ := hS.cells
  clear hS
  have hkw := hown.2
  clear hown
  by_cases h1 : out.length = 1
  · obtain ⟨p, rfl⟩ : ∃ p, out = [p] := List.length_eq_one_iff.1 h1
    obtain ⟨b, off, rfl, hcc⟩ := hcl (by simp)
    obtain ⟨c0, c1, _, _⟩ := hcc 0 p rfl
    clear hcc hcl h1
    simp only [List.length_cons, List.length_nil, Nat.zero_add, Nat.zero_mul, Nat.add_zero] at *
    by_cases hpq : p.1 = p.2
    · have hd : (p.1 != p.2) = false := by simp [hpq]
      have Hpq := Lib.hid hpq
      clear hpq
      go_wp2_with fail
      go_quiet (fail)
      go_wp2_with fail
      go_ret2
      exact ⟨[p], p.1, true, rfl, hof, fun _ => by rw [show p = (p.1, p.1) from Prod.ext rfl Hpq.out.symm], (fun h => by cases h), hkw.drawN _⟩
    · have hd : (p.1 != p.2) = true := by simp [hpq]
      have Hpq := Lib.hid hpq
      clear hpq
      go_wp2_with fail
      go_quiet (fail)
      go_wp2_with fail
      go_ret2
      exact ⟨[p], 0, false, rfl, hof, (fun h => by cases h), fun _ => ⟨rfl, fun y e => Hpq.out (by have := List.cons.inj e; rw [this.1])⟩, hkw.drawN _⟩
  · have hd : ((out.length : Int) != 1) = true := by simp; omega
    have Hn := Lib.hid h1
    clear h1 hcl
    go_wp2_with fail
    go_quiet (fail)
    go_wp2_with fail
    go_ret2
    exact ⟨out, 0, false, rfl, hof, (fun h => by cases h), fun _ => ⟨rfl, fun y e => Hn.out (by rw [e]; rfl)⟩, hkw.drawN _⟩
end Go.Proofs.Ytibfioekmpnkgaa
