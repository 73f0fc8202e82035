/-
  The walk of SetCounts.
-/
import Derived.Test.YtibfioekmpnkgaaSetWrap
namespace Go.Proofs.Ytibfioekmpnkgaa
open Go.RowKit
set_option linter.unusedVariables false
set_option linter.unusedSimpArgs false
set_option maxRecDepth 100000

theorem sum_one (l : List (Int × Int)) (h : Norm l) (hs : sumR l = 1) : ∃ y, l = [(y, y)] := by
  cases l with
  | nil => simp [sumR] at hs
  | cons p t =>
    rw [sumR_cons] at hs
    have h2 := h.2.1
    cases t with
    | nil => exact ⟨p.1, by rw [sumR_nil] at hs; have : p.2 = p.1 := by omega
                            rw [show p = (p.1, p.1) from Prod.ext rfl this]⟩
    | cons q t =>
      rw [sumR_cons] at hs
      have h3 := h.tail.2.1
      have h4 := (sumR_nonneg t h.tail.tail).1
      omega
def CntR (w1 : World) (out : List (Int × Int)) (sv iv : Value) (wr : World) : Prop := ∃ i : Nat, iv = .int .i64 i ∧ i ≤ out.length ∧ sv = .int .i64 (sumR (out.take i)) ∧ Keeps (fun _ => False) w1 wr

set_option maxHeartbeats 2000000 in
theorem counts_main (l : List (Int × Int)) (v : Value) (w : World) (h : RSl w v l) (hl : l.length ≤ 20) :
    Calls Try.prog 7 #[v] w fun e w' => e = .returned (.bool true) ∧ Keeps (fun _ => False) w w' := by
  obtain ⟨a0, c0, rfl, _, _⟩ := h.cells
  go_enter Try.func7, Try.ntmps7
  go_wp2_with fail
  refine (lawAwake_any _).mono ?_
  rintro e w1 ⟨rfl, k⟩
  go_wp2_with fail
  refine (of_r l _ h k 20 hl (by omega)).mono ?_
  rintro e w2 ⟨u, out, rfl, hof, hr, hlo, j⟩
  have k2 := k.trans j
  clear k j
  obtain ⟨ua, uc, rfl, hl1, hcl⟩ := hr.cells
  have Hc := Lib.hid hcl
  clear hcl hr
  go_wp2_with fail
  go_loopw [4, 5] (fun sv iv wr => CntR w2 out sv iv wr) (fun _ iv _ => out.length - (intOf iv).toNat)
  case atStart => exact ⟨0, rfl, Nat.zero_le _, rfl, Keeps.refl _ _⟩
  case round =>
    obtain ⟨i, rfl, hi, rfl, hk⟩ := hrel
    by_cases hil : i < out.length
    · obtain ⟨b, off, rfl, hcc⟩ := Hc.out (by omega)
      obtain ⟨p, hp⟩ : ∃ p, out[i]? = some p := ⟨_, List.getElem?_eq_getElem hil⟩
      obtain ⟨d0, d1, _, _⟩ := hcc i p hp
      have d0 := hk.cell d0 id
      have d1 := hk.cell d1 id
      have hpr := hof.1.rng p (List.mem_of_getElem? hp)
      have hs0 := sumR_nonneg (out.take i) (norm_len_take _ hof.1 _)
      have hs1 := sumR_nonneg (out.take (i + 1)) (norm_len_take _ hof.1 _)
      have hst : sumR (out.take (i + 1)) = sumR (out.take i) + (p.2 - p.1 + 1) := by rw [take_snoc_of hp, sumR_snoc]
      have Hst := Lib.hid hst
      rw [hst] at hs1
      obtain ⟨a1, a2⟩ := hs0
      obtain ⟨a3, a4⟩ := hs1
      obtain ⟨a5, a6, a7⟩ := hpr
      clear hcc hp hst
      have hw0 : IntKind.i64.wrap (p.2 - p.1) = p.2 - p.1 := IntWalk.i64_in _ (by omega)
      have hw1 : IntKind.i64.wrap (p.2 - p.1 + 1) = p.2 - p.1 + 1 := IntWalk.i64_in _ (by omega)
      have hw2 : IntKind.i64.wrap (sumR (out.take i) + (p.2 - p.1 + 1)) = sumR (out.take i) + (p.2 - p.1 + 1) := IntWalk.i64_in _ (by omega)
      go_wp2_with fail
      go_quiet (fail)
      go_wp2_with fail
      go_roundw
      case rel => exact ⟨i + 1, by go_num, by omega, by rw [Hst.out], hk.drawN _⟩
      case measure => simp [intOf]; omega
    · have ht : out.take i = out := List.take_of_length_le (by omega)
      rw [ht]
      have k3 := k2.trans hk
      clear Hc hk k2 ht
      go_wp2_with fail
      refine (only_any l _ _ (h.keep k3) (by omega)).mono ?_
      rintro e w4 ⟨out', x, ok, rfl, hof', hyes, hno, j⟩
      obtain rfl : out' = out := hof'.unique hof
      have k4 := k3.trans j
      have hcard : sumR out' = card l := card_of hof
      clear j k3 hof'
      have hone : sumR out' = 1 → ok = true := by
        intro h1
        obtain ⟨y, hy⟩ := sum_one out' hof.1 h1
        cases ok
        · exact absurd hy ((hno rfl).2 y)
        · rfl
      have Hcard := Lib.hid hcard
      cases ok
      · obtain ⟨rfl, _⟩ := hno rfl
        have hne : ¬ card l = 1 := by rw [← hcard]; intro h1; cases hone h1
        have hne2 : (card l == 1) = false := by simpa using hne
        rw [hcard]
        clear hyes hno hone hcard
        go_wp2_with fail
        refine (count_r l _ h k4 (by omega) (card l) (fun out ho => card_of ho)).mono ?_
        rintro e w5 ⟨rfl, b5, j⟩
        have k5 := k4.trans j
        clear j k4
        go_wp2_with fail
        refine (count_r l _ h k5 (by omega) (card l) (fun out ho => card_of ho)).mono ?_
        rintro e w6 ⟨rfl, b6, j⟩
        have k6 := k5.trans j
        clear j k5
        go_wp2_with fail
        refine (not_r l _ h k6 20 hl (by omega)).mono ?_
        rintro e w7 ⟨u7, o7, rfl, p7, r7, n7, j⟩
        have k7 := k6.trans j
        clear j k6
        go_wp2_with fail
        refine (count_r o7 _ r7 (Keeps.refl _ _) (by omega) (card o7) (fun out ho => card_of ho)).mono ?_
        rintro e w8 ⟨rfl, b8, j⟩
        have k8 := k7.trans j
        have hsum := card_not p7
        have hw2 : wrap64 (card l + card o7) = 1114112 := by rw [hsum]; unfold wrap64; omega
        have hw3 : wrap64 1114112 = 1114112 := by unfold wrap64; omega
        clear j k7 r7 p7 hne
        go_wp2_with fail
        go_ret
        exact ⟨rfl, k8⟩
      · obtain rfl := hyes rfl
        have hc1 : card l = 1 := by rw [← hcard]; simp [sumR]
        rw [hcard, hc1]
        clear hyes hno hone hcard
        go_wp2_with fail
        refine (count_r l _ h k4 (by omega) 1 (fun out ho => by rw [card_of ho, hc1])).mono ?_
        rintro e w5 ⟨rfl, b5, j⟩
        have k5 := k4.trans j
        clear j k4
        go_wp2_with fail
        refine (count_r l _ h k5 (by omega) 1 (fun out ho => by rw [card_of ho, hc1])).mono ?_
        rintro e w6 ⟨rfl, b6, j⟩
        have k6 := k5.trans j
        clear j k5
        go_wp2_with fail
        refine (not_r l _ h k6 20 hl (by omega)).mono ?_
        rintro e w7 ⟨u7, o7, rfl, p7, r7, n7, j⟩
        have k7 := k6.trans j
        have hsum := card_not p7
        clear j k6
        go_wp2_with fail
        refine (count_r o7 _ r7 (Keeps.refl _ _) (by omega) 1114111 (fun out ho => by rw [card_of ho]; omega)).mono ?_
        rintro e w8 ⟨rfl, b8, j⟩
        have k8 := k7.trans j
        have hx : has l x = true := by rw [← hof.2]; simp [mem]
        clear j k7 r7 p7 hsum hc1
        go_wp2_with fail
        refine (refHas_any l _ x _ (h.keep k8)).mono ?_
        rintro e w9 ⟨rfl, rfl⟩
        rw [hx]
        go_wp2_with fail
        go_ret
        exact ⟨rfl, k8⟩
end Go.Proofs.Ytibfioekmpnkgaa
