/-
  Several texts in one: The document's in, named. The document's escaped. The document's point. The document's class: what its loop knows. The document's token: what it answers.
-/
import Derived.Test.YtpcbfmbpbegjgaaGreatMg20
import Derived.Test.YtpcbfmbpbegjgaaGreatMg5
import Derived.Test.YtpcbfmbpbegjgaaGreatRfMadeBG
import Derived.Deep.RegionHeld3
import Derived.Deep.AppendLies
import Derived.Test.YtpcbfmbpbegjgaaGreatRfBrG
import Derived.Test.YtpcbfmbpbegjgaaGreatMg13
section
namespace Go.Proofs.YtpcbfmbpbegjgaaGreat
open Go.RowKit
set_option linter.unusedVariables false
set_option linter.unusedSimpArgs false
set_option maxRecDepth 100000

def inP (l : List UInt8) (r : Int) : Bool := l.any fun c => decide ((c.toNat : Int) = r)
set_option maxHeartbeats 4000000 in
theorem in_any (l : List UInt8) (r : Int) (w : World) (hl : l.length ≤ 1000) : Calls Tryz.prog 66 #[.string ⟨l.toArray⟩, .int .i64 r] w fun e w' => e = .returned (.bool (inP l r)) ∧ w = w' := by
  have HR : Hid (inP l r = (l.drop 0).any fun c => decide ((c.toNat : Int) = r)) := Lib.hid rfl
  generalize inP l r = R at *
  go_enter Tryz.func66, Tryz.ntmps66
  go_wp2_with fail
  go_loopw [5] (fun iv wr => ∃ i : Nat, iv = .int .i64 i ∧ i ≤ l.length ∧ R = ((l.drop i).any fun c => decide ((c.toNat : Int) = r)) ∧ w = wr) (fun iv _ => l.length + 1 - (intOf iv).toNat)
  case atStart => exact ⟨0, rfl, Nat.zero_le _, HR.out, rfl⟩
  case round =>
    obtain ⟨i, rfl, hi, hR, rfl⟩ := hrel
    by_cases hil : i < l.length
    · obtain ⟨c, hc⟩ : ∃ c, l[i]? = some c := ⟨_, List.getElem?_eq_getElem hil⟩
      have hx := idxB hc
      have hd : l.drop i = c :: l.drop (i + 1) := by
        rw [List.drop_eq_getElem_cons hil]
        rw [List.getElem?_eq_getElem hil] at hc
        rw [Option.some.inj hc]
      rw [hd, List.any_cons] at hR
      have HRR := Lib.hid hR
      have h256 := c.toNat_lt
      clear hc hd hR
      by_cases he : (c.toNat : Int) = r
      · have g1 : (((c.toNat : Nat) : Int) == r) = true := by simpa using he
        go_wp2_with fail
        go_ret
        exact ⟨by rw [HRR.out]; simp [he], rfl⟩
      · have g1 : (((c.toNat : Nat) : Int) == r) = false := beq_eq_false_iff_ne.2 he
        have HN : Hid (R = ((l.drop (i + 1)).any fun c => decide ((c.toNat : Int) = r))) := Lib.hid (by rw [HRR.out, show decide ((c.toNat : Int) = r) = false by simpa using he, Bool.false_or])
        clear he HRR
        go_wp2_with fail
        go_roundw
        case rel => exact ⟨i + 1, by go_num, by omega, HN.out, by trivial⟩
        case measure => simp [intOf]; omega
    · rw [List.drop_eq_nil_of_le (by omega)] at hR
      have HRR := Lib.hid hR
      clear hR
      go_wp2_with fail
      go_ret
      exact ⟨by rw [HRR.out]; rfl, rfl⟩
/-! ### What the alphabets say -/
theorem inP_amg (al : List UInt8) (hal : al = sgL ++ [45] ∨ al = npL) (r : Int) : inP al r = (if al = npL then amg npL r else amg sgL r || decide (r = 45)) := by
  have hout : ∀ al : List UInt8, (∀ c ∈ al, c.toNat < 128) → ¬ (0 ≤ r ∧ r < 128) → inP al r = false := by
    intro al h hr
    unfold inP
    rw [List.any_eq_false]
    intro c hc
    have := h c hc
    simp only [decide_eq_true_eq]; omega
  have k1 : ∀ c : Fin 128, inP (sgL ++ [45]) (c.val : Int) = (amg sgL (c.val : Int) || decide ((c.val : Int) = 45)) := of_decide_eq_true (by kernel_rfl)
  have k2 : ∀ c : Fin 128, inP npL (c.val : Int) = amg npL (c.val : Int) := of_decide_eq_true (by kernel_rfl)
  rcases hal with rfl | rfl
  · rw [if_neg (by decide)]
    by_cases h : 0 ≤ r ∧ r < 128
    · have := k1 ⟨r.toNat, by omega⟩
      simpa [Int.toNat_of_nonneg h.1] using this
    · rw [hout _ (by decide) h, amg_out _ _ h]
      symm; simp; omega
  · rw [if_pos rfl]
    by_cases h : 0 ≤ r ∧ r < 128
    · have := k2 ⟨r.toNat, by omega⟩
      simpa [Int.toNat_of_nonneg h.1] using this
    · rw [hout _ (by decide) h, amg_out _ _ h]
theorem inP_dws (r : Int) : inP [100, 119, 115] r = decide (r = 100 ∨ r = 119 ∨ r = 115) := by
  apply Bool.eq_iff_iff.2
  simp [inP]
  omega
theorem inP_DWS (r : Int) : inP [68, 87, 83] r = decide (r = 68 ∨ r = 87 ∨ r = 83) := by
  apply Bool.eq_iff_iff.2
  simp [inP]
  omega
set_option maxHeartbeats 4000000 in
theorem rnamed_any (r : Int) (w : World) (h : r = 100 ∨ r = 119 ∨ r = 115) :
    Calls Tryz.prog 67 #[.int .i64 r] w fun e w' => ∃ u, e = .returned u ∧ ROwn w w' u (namedL r) := by
  rcases h with rfl | rfl | rfl
  · go_enter Tryz.func67, Tryz.ntmps67
    go_wp2_with fail
    go_ret
    exact ⟨_, rfl, ⟨rfl, Or.inr ⟨w.heap.size, 1, _, rfl, Nat.le_refl _, heap_alloc_new w _, Nat.le_refl _, by unfold maxLen; decide, rfl, rfl⟩⟩, (Keeps.refl _ _).alloc _⟩
  · go_enter Tryz.func67, Tryz.ntmps67
    go_wp2_with fail
    go_ret
    exact ⟨_, rfl, ⟨rfl, Or.inr ⟨w.heap.size, 4, _, rfl, Nat.le_refl _, heap_alloc_new w _, Nat.le_refl _, by unfold maxLen; decide, rfl, rfl⟩⟩, (Keeps.refl _ _).alloc _⟩
  · go_enter Tryz.func67, Tryz.ntmps67
    go_wp2_with fail
    go_ret
    exact ⟨_, rfl, ⟨rfl, Or.inr ⟨w.heap.size, 2, _, rfl, Nat.le_refl _, heap_alloc_new w _, Nat.le_refl _, by unfold maxLen; decide, rfl, rfl⟩⟩, (Keeps.refl _ _).alloc _⟩
end Go.Proofs.YtpcbfmbpbegjgaaGreat
end
section
namespace Go.Proofs.YtpcbfmbpbegjgaaGreat
open Go.RowKit
set_option linter.unusedVariables false
set_option linter.unusedSimpArgs false
set_option maxRecDepth 100000

/-- What a set, its kind and its yes are. -/
def EscE (w : World) (p : Option (List (Int × Int) × Bool)) (e : Ending) (w' : World) : Prop :=
  match p with
  | none => e = .returned (.tuple #[.slice none 0 0, .bool false, .bool false]) ∧ Keeps (fun _ => False) w w'
  | some (s, is) => ∃ u, e = .returned (.tuple #[u, .bool is, .bool true]) ∧ ROwn w w' u s
theorem rown_one (w : World) (x : Int) : ROwn w (w.alloc (.cells #[.int .i64 x, .int .i64 x] 87)) (.slice (some ⟨w.heap.size, 0, none⟩) 1 1) [(x, x)] :=
  ⟨⟨rfl, Or.inr ⟨w.heap.size, 1, _, rfl, Nat.le_refl _, heap_alloc_new w _, Nat.le_refl _, by unfold maxLen; decide, rfl, rfl⟩⟩, (Keeps.refl _ _).alloc _⟩
theorem named_not (r : Int) (h : r = 68 ∨ r = 87 ∨ r = 83) : notL (namedL (r + 32)) = namedL r := by
  apply notL_of
  rcases h with rfl | rfl | rfl
  · refine ⟨by simp [namedL, Norm], fun x => ?_⟩
    rw [Bool.eq_iff_iff]
    simp [namedL, mem, has, inAll]
    omega
  · refine ⟨by simp [namedL, Norm], fun x => ?_⟩
    rw [Bool.eq_iff_iff]
    simp [namedL, mem, has, inAll]
    omega
  · refine ⟨by simp [namedL, Norm], fun x => ?_⟩
    rw [Bool.eq_iff_iff]
    simp [namedL, mem, has, inAll]
    omega
set_option maxHeartbeats 4000000 in
theorem rescaped_any (r : Int) (w : World) (hr : 0 ≤ r ∧ r ≤ 1114111) : Calls Tryz.prog 41 #[.int .i64 r] w fun e w' => EscE w (escP r) e w' := by
  have HI1 := Lib.hid (fun W => in_any [100, 119, 115] r W (by decide))
  by_cases h1 : r = 100 ∨ r = 119 ∨ r = 115
  · rw [show inP [100, 119, 115] r = true by rw [inP_dws]; simpa using h1] at HI1
    have HN := Lib.hid (fun W => rnamed_any r W h1)
    rw [show escP r = some (namedL r, false) by unfold escP; rw [if_pos (by unfold isNam; omega)]]
    unfold EscE
    dsimp only
    generalize namedL r = L at *
    go_enter Tryz.func41, Tryz.ntmps41
    go_wp2_with fail
    refine (HI1.out _).mono ?_
    rintro e w2 ⟨rfl, rfl⟩
    go_wp2_with fail
    refine (HN.out _).mono ?_
    rintro e w3 ⟨u, rfl, hu⟩
    have HU := Lib.hid hu
    obtain ⟨ua, uc, rfl⟩ := ownsRow_slice hu.1
    clear hu
    go_wp2_with fail
    go_ret3
    exact ⟨_, rfl, HU.out⟩
  · rw [show inP [100, 119, 115] r = false by rw [inP_dws]; simpa using h1] at HI1
    have HI2 := Lib.hid (fun W => in_any [68, 87, 83] r W (by decide))
    by_cases h2 : r = 68 ∨ r = 87 ∨ r = 83
    · rw [show inP [68, 87, 83] r = true by rw [inP_DWS]; simpa using h2] at HI2
      have HN := Lib.hid (fun W => rnamed_any (r + 32) W (by omega))
      have hl5 : (namedL (r + 32)).length ≤ 5 := by
        unfold namedL; repeat' split
        all_goals decide
      have HM := Lib.hid (fun v W hW => rmade_any (namedL (r + 32)) v true W hW (by omega))
      have hin : ∀ p ∈ namedL (r + 32), in64 p.1 ∧ in64 p.2 := by
        rcases h2 with rfl | rfl | rfl <;> (intro p hp; simp [namedL] at hp; unfold in64; (repeat' (rcases hp with rfl | hp)) <;> (try subst hp) <;> simp)
      have HIn := Lib.hid hin
      rw [if_pos rfl, named_not r h2] at HM
      rw [show escP r = some (namedL r, false) by unfold escP; rw [if_pos (by unfold isNam; omega)]]
      unfold EscE
      dsimp only
      clear hin
      generalize namedL (r + 32) = L1 at *
      generalize namedL r = L at *
      have hwr : wrap64 (r + 32) = r + 32 := by unfold wrap64; omega
      go_enter Tryz.func41, Tryz.ntmps41
      go_wp2_with fail
      refine (HI1.out _).mono ?_
      rintro e w2 ⟨rfl, rfl⟩
      go_wp2_with fail
      refine (HI2.out _).mono ?_
      rintro e w2 ⟨rfl, rfl⟩
      go_wp2_with fail
      refine (HN.out _).mono ?_
      rintro e w3 ⟨u, rfl, hu⟩
      have HU := Lib.hid hu
      have HRS : Hid (RSl w3 u L1) := Lib.hid ⟨SlOf.ofOwn hu.1 (by omega), HIn.out⟩
      obtain ⟨ua, uc, rfl⟩ := ownsRow_slice hu.1
      clear hu
      go_wp2_with fail
      refine (HM.out _ _ HRS.out).mono ?_
      rintro e w4 ⟨u4, rfl, hu4⟩
      have HU4 := Lib.hid hu4
      obtain ⟨va, vc, rfl⟩ := ownsRow_slice hu4.1
      clear hu4
      go_wp2_with fail
      go_ret3
      exact ⟨_, rfl, own_mono HU4.out.1 (HU.out.2.size), HU.out.2.trans HU4.out.2⟩
    · rw [show inP [68, 87, 83] r = false by rw [inP_DWS]; simpa using h2] at HI2
      have hnam : ¬ isNam r := by unfold isNam; omega
      have HX : Hid (escP r = if escBad r then none else some ([(escR r, escR r)], true)) := Lib.hid (by unfold escP; rw [if_neg hnam])
      generalize escP r = P at *
      by_cases h3 : r = 110
      · subst h3
        have E : Hid (P = some ([(10, 10)], true)) := Lib.hid (by rw [HX.out]; rfl)
        clear HX
        go_enter Tryz.func41, Tryz.ntmps41
        go_wp2_with fail
        refine (HI1.out _).mono ?_
        rintro e w2 ⟨rfl, rfl⟩
        go_wp2_with fail
        refine (HI2.out _).mono ?_
        rintro e w2 ⟨rfl, rfl⟩
        go_wp2_with fail
        go_ret3
        rw [E.out]
        exact ⟨_, rfl, rown_one w 10⟩
      have g3 : (r == 110) = false := beq_eq_false_iff_ne.2 h3
      by_cases h4 : r = 114
      · subst h4
        have E : Hid (P = some ([(13, 13)], true)) := Lib.hid (by rw [HX.out]; rfl)
        clear HX
        go_enter Tryz.func41, Tryz.ntmps41
        go_wp2_with fail
        refine (HI1.out _).mono ?_
        rintro e w2 ⟨rfl, rfl⟩
        go_wp2_with fail
        refine (HI2.out _).mono ?_
        rintro e w2 ⟨rfl, rfl⟩
        go_wp2_with fail
        go_ret3
        rw [E.out]
        exact ⟨_, rfl, rown_one w 13⟩
      have g4 : (r == 114) = false := beq_eq_false_iff_ne.2 h4
      by_cases h5 : r = 116
      · subst h5
        have E : Hid (P = some ([(9, 9)], true)) := Lib.hid (by rw [HX.out]; rfl)
        clear HX
        go_enter Tryz.func41, Tryz.ntmps41
        go_wp2_with fail
        refine (HI1.out _).mono ?_
        rintro e w2 ⟨rfl, rfl⟩
        go_wp2_with fail
        refine (HI2.out _).mono ?_
        rintro e w2 ⟨rfl, rfl⟩
        go_wp2_with fail
        go_ret3
        rw [E.out]
        exact ⟨_, rfl, rown_one w 9⟩
      have g5 : (r == 116) = false := beq_eq_false_iff_ne.2 h5
      have hsg : inP (sgL ++ [45]) r = !escBad r := by
        rw [inP_amg _ (Or.inl rfl), if_neg (by decide)]
        unfold escBad
        simp [h3, h4, h5]
      have HI3 := Lib.hid (fun W => in_any (sgL ++ [45]) r W (by decide))
      have heR : escR r = r := by unfold escR; rw [if_neg h3, if_neg h4, if_neg h5]
      rw [hsg] at HI3
      rw [heR] at HX
      clear hsg heR
      cases hb : escBad r
      · rw [hb] at HI3 HX
        have E : Hid (P = some ([(r, r)], true)) := Lib.hid HX.out
        clear HX
        go_enter Tryz.func41, Tryz.ntmps41
        go_wp2_with fail
        refine (HI1.out _).mono ?_
        rintro e w2 ⟨rfl, rfl⟩
        go_wp2_with fail
        refine (HI2.out _).mono ?_
        rintro e w2 ⟨rfl, rfl⟩
        go_wp2_with fail
        refine (HI3.out _).mono ?_
        rintro e w2 ⟨rfl, rfl⟩
        go_wp2_with fail
        go_ret3
        rw [E.out]
        exact ⟨_, rfl, rown_one w r⟩
      · rw [hb] at HI3 HX
        have E : Hid (P = none) := Lib.hid HX.out
        clear HX
        go_enter Tryz.func41, Tryz.ntmps41
        go_wp2_with fail
        refine (HI1.out _).mono ?_
        rintro e w2 ⟨rfl, rfl⟩
        go_wp2_with fail
        refine (HI2.out _).mono ?_
        rintro e w2 ⟨rfl, rfl⟩
        go_wp2_with fail
        refine (HI3.out _).mono ?_
        rintro e w2 ⟨rfl, rfl⟩
        go_wp2_with fail
        go_ret3
        rw [E.out]
        exact ⟨rfl, Keeps.refl _ _⟩
end Go.Proofs.YtpcbfmbpbegjgaaGreat
end
section
namespace Go.Proofs.YtpcbfmbpbegjgaaGreat
open Go.RowKit
set_option linter.unusedVariables false
set_option linter.unusedSimpArgs false
set_option maxRecDepth 100000

/-- A set, its kind and its length are. -/
def PtE (w : World) (p : Option (List (Int × Int) × Bool × Nat)) (e : Ending) (w' : World) : Prop :=
  match p with
  | none => e = .returned (.tuple #[.slice none 0 0, .bool false, .int .i64 0]) ∧ Keeps (fun _ => False) w w'
  | some (s, is, k) => ∃ u, e = .returned (.tuple #[u, .bool is, .int .i64 k]) ∧ ROwn w w' u s
set_option maxHeartbeats 4000000 in
theorem rpoint_any (l : List Int) (v : Value) (w : World) (h : ISl w v l) : Calls Tryz.prog 65 #[v] w fun e w' => PtE w (ptP l) e w' := by
  obtain ⟨a, cap, rfl, hcap, hc⟩ := h.cells
  have HI := Lib.hid h
  clear h
  rcases l with _ | ⟨r, l⟩
  · go_enter Tryz.func65, Tryz.ntmps65
    go_wp2_with fail
    go_ret3
    exact ⟨rfl, Keeps.refl _ _⟩
  · obtain ⟨b, off, rfl, hcc⟩ := hc (by simp)
    obtain ⟨c0, c1, c2⟩ := hcc 0 r rfl
    simp only [Nat.add_zero] at c0
    have HCC := Lib.hid hcc
    simp only [List.length_cons] at *
    clear hc hcc
    have gl : (((l.length : Int) + 1) == 0) = false := beq_eq_false_iff_ne.2 (by omega)
    have HA := Lib.hid (fun W => in_any npL r W (by decide))
    rw [show inP npL r = amg npL r by rw [inP_amg _ (Or.inr rfl), if_pos rfl]] at HA
    have HP := Lib.hid (ptP_cons r l)
    generalize ptP (r :: l) = P at *
    cases hb : amg npL r
    · rw [hb] at HA HP
      by_cases h9 : r = 92
      · subst h9
        rcases l with _ | ⟨r2, l⟩
        · have E : Hid (P = none) := Lib.hid (by rw [HP.out]; rfl)
          clear HP HI
          go_enter Tryz.func65, Tryz.ntmps65
          go_wp2_with fail
          refine (HA.out _).mono ?_
          rintro e w2 ⟨rfl, rfl⟩
          go_wp2_with fail
          go_ret3
          rw [E.out]
          exact ⟨rfl, Keeps.refl _ _⟩
        · obtain ⟨d0, d1, d2⟩ := HCC.out 1 r2 rfl
          simp only [List.length_cons] at *
          have g7 : decide ((l.length : Int) + 1 + 1 < 2) = false := by simp; omega
          have HE := Lib.hid (fun W => rescaped_any r2 W ⟨d1, d2⟩)
          have HP2 : Hid (P = (escP r2).map fun p => (p.1, p.2, 2)) := Lib.hid (by rw [HP.out]; rfl)
          clear HP HI
          cases hE : escP r2 with
          | none =>
            rw [hE] at HP2 HE
            have E : Hid (P = none) := Lib.hid HP2.out
            clear HP2 hE
            go_enter Tryz.func65, Tryz.ntmps65
            go_wp2_with fail
            refine (HA.out _).mono ?_
            rintro e w2 ⟨rfl, rfl⟩
            go_wp2_with fail
            refine (HE.out _).mono ?_
            rintro e w3 ⟨rfl, K⟩
            have HK := Lib.hid K
            clear K
            go_wp2_with fail
            go_ret3
            rw [E.out]
            exact ⟨rfl, HK.out⟩
          | some p =>
            obtain ⟨s, is⟩ := p
            rw [hE] at HP2 HE
            have E : Hid (P = some (s, is, 2)) := Lib.hid HP2.out
            clear HP2 hE
            go_enter Tryz.func65, Tryz.ntmps65
            go_wp2_with fail
            refine (HA.out _).mono ?_
            rintro e w2 ⟨rfl, rfl⟩
            go_wp2_with fail
            refine (HE.out _).mono ?_
            rintro e w3 ⟨u, rfl, hu⟩
            have HU := Lib.hid hu
            obtain ⟨ua, uc, rfl⟩ := ownsRow_slice hu.1
            clear hu
            go_wp2_with fail
            go_ret3
            rw [E.out]
            exact ⟨_, rfl, HU.out⟩
      · have g9 : (r == 92) = false := beq_eq_false_iff_ne.2 h9
        have E : Hid (P = some ([(r, r)], true, 1)) := Lib.hid (by rw [HP.out, if_neg h9]; rfl)
        clear HP HI
        go_enter Tryz.func65, Tryz.ntmps65
        go_wp2_with fail
        refine (HA.out _).mono ?_
        rintro e w2 ⟨rfl, rfl⟩
        go_wp2_with fail
        go_region_held3 (fun w' => w'.cell? ⟨b, off, none⟩ = some (.int .i64 r)) (go_keep) (fail)
        all_goals go_wp2_with fail
        go_ret3
        rw [E.out]
        exact ⟨_, rfl, (rown_one w r).1.drew, (rown_one w r).2.drew⟩
    · have h9 : ¬ r = 92 := by rintro rfl; revert hb; decide +kernel
      rw [hb] at HA HP
      have E : Hid (P = none) := Lib.hid (by rw [HP.out, if_neg h9]; rfl)
      clear HP HI
      go_enter Tryz.func65, Tryz.ntmps65
      go_wp2_with fail
      refine (HA.out _).mono ?_
      rintro e w2 ⟨rfl, rfl⟩
      go_wp2_with fail
      go_ret3
      rw [E.out]
      exact ⟨rfl, Keeps.refl _ _⟩
end Go.Proofs.YtpcbfmbpbegjgaaGreat
end
section
namespace Go.Proofs.YtpcbfmbpbegjgaaGreat
open Go.RowKit
set_option linter.unusedVariables false
set_option linter.unusedSimpArgs false
set_option maxRecDepth 100000

/-- A set and its length are. -/
def ClE (w : World) (p : Option (List (Int × Int) × Nat)) (e : Ending) (w' : World) : Prop :=
  match p with
  | none => e = .returned (.tuple #[.slice none 0 0, .int .i64 0]) ∧ Keeps (fun _ => False) w w'
  | some (s, k) => ∃ u, e = .returned (.tuple #[u, .int .i64 k]) ∧ ROwn w w' u s
theorem wpList_append_rng {w : World} {ops : Array Oper} {rest : List Oper} {o : Oper} {a : Act} {Q : Exit → Act → World → Prop} (hgd : o.guard = none) (s x : Operand)
    (ho : o.op = .call { callee := .builtin .append, args := #[s, x], argTypes := #[24, 24] })
    (base : Nat) (v : Value) (n : Nat) (xs : List Value) (hs : a.eval s = v) (hown : w.ownsRow base 87 2 v n xs)
    (xv : Value) (l : List (Int × Int)) (hx : a.eval x = xv) (hr : SlOf 2 encR w xv l) (h63 : n + l.length ≤ 1000000) (hbase : base ≤ w.heap.size)
    (h : ∀ v' w', w'.ownsRow base 87 2 v' (n + l.length) (xs ++ cellsOf 2 encR l) → w.grownBy w' v.ownBlock → wpList Tryz.prog ops Q rest (a.put o.dst v') w') : wpList Tryz.prog ops Q (o :: rest) a w := by
  obtain ⟨i0, hi, hz0, hz1, hz2⟩ := info_parts info_range
  rcases hr.news (by omega) with ⟨rfl, rfl⟩ | ⟨ad, c, rfl, hnews⟩
  · refine wpList_append_own_none hgd s x 24 ho base 87 i0 2 Tryz.underlying24 hi v n xs hs hown hx (hs ▸ h v w ?_ ?_)
    · simpa [cellsOf] using hown
    · exact ⟨rfl, rfl, rfl, Nat.le_refl _, fun _ _ _ => rfl⟩
  · exact wpList_append_own _ hgd s x 24 ho base 87 i0 _ 2 16 Tryz.underlying24 hi hz0 hz1 hz2 rfl (by decide) v n xs hs hown ad _ c _ hx (cellsOf_length _ _ _) hnews (cells_one _) (by unfold maxLen; omega) (by omega) hbase
      (fun v' w' h1 h2 _ => h v' w' h1 h2)
theorem escP_one {r : Int} {s : List (Int × Int)} (h : escP r = some (s, true)) : ∃ x, s = [(x, x)] := by
  unfold escP at h
  split at h
  · simp at h
  · split at h
    · cases h
    · simp at h; exact ⟨_, h.symm⟩
theorem ptP_one {l : List Int} {s : List (Int × Int)} {k : Nat} (h : ptP l = some (s, true, k)) : ∃ x, s = [(x, x)] := by
  rcases l with _ | ⟨r, l⟩
  · cases h
  · rw [ptP_cons] at h
    split at h
    · rcases l with _ | ⟨r2, l⟩
      · cases h
      · simp only [Option.map_eq_some_iff, Prod.mk.injEq] at h
        obtain ⟨⟨p, q⟩, h1, h2, h3, h4⟩ := h
        dsimp only at h2 h3
        subst h2 h3
        exact escP_one h1
    · split at h
      · cases h
      · simp at h; exact ⟨r, h.1.symm⟩
theorem named_rng (r : Int) : (namedL r).length ≤ 5 ∧ ∀ q ∈ namedL r, in64 q.1 ∧ in64 q.2 := by
  unfold namedL in64
  repeat' split
  all_goals (constructor; decide; intro q hq; simp at hq; (repeat' (rcases hq with rfl | hq)) <;> (try subst hq) <;> simp)
theorem escP_rng {r : Int} {s : List (Int × Int)} {is : Bool} (hr : 0 ≤ r ∧ r ≤ 1114111) (h : escP r = some (s, is)) : s.length ≤ 5 ∧ ∀ q ∈ s, in64 q.1 ∧ in64 q.2 := by
  unfold escP at h
  split at h
  · simp only [Option.some.injEq, Prod.mk.injEq] at h
    rw [← h.1]; exact named_rng r
  · split at h
    · cases h
    · simp only [Option.some.injEq, Prod.mk.injEq] at h
      rw [← h.1]
      refine ⟨by simp, fun q hq => ?_⟩
      simp at hq
      subst hq
      unfold escR in64
      repeat' split
      all_goals (constructor <;> (constructor <;> simp <;> omega))
theorem ptP_rng {l : List Int} {s : List (Int × Int)} {is : Bool} {k : Nat} (hr : ∀ r ∈ l, 0 ≤ r ∧ r ≤ 1114111) (h : ptP l = some (s, is, k)) : s.length ≤ 5 ∧ ∀ q ∈ s, in64 q.1 ∧ in64 q.2 := by
  rcases l with _ | ⟨r, l⟩
  · cases h
  · rw [ptP_cons] at h
    split at h
    · rcases l with _ | ⟨r2, l⟩
      · cases h
      · simp only [Option.map_eq_some_iff, Prod.mk.injEq] at h
        obtain ⟨⟨p, q⟩, h1, h2, h3, h4⟩ := h
        dsimp only at h2 h3
        subst h2 h3
        exact escP_rng (hr r2 (by simp)) h1
    · split at h
      · cases h
      · simp only [Option.some.injEq, Prod.mk.injEq] at h
        rw [← h.1]
        refine ⟨by simp, fun q hq => ?_⟩
        simp at hq
        subst hq
        have := hr r (by simp)
        unfold in64
        simp only
        omega
/-- At the loop's head. -/
def ClR (G : Option (List (Int × Int) × Nat)) (l : List Int) (w : World) (atv av pv : Value) (wr : World) : Prop :=
  ∃ (i p n : Nat) (all : List (Int × Int)), atv = .int .i64 i ∧ pv = .int .i64 p ∧ i ≤ l.length ∧ p ≤ i ∧ l.length < n + i ∧ all.length ≤ 5 * i ∧ wr.ownsRow w.heap.size 87 2 av all.length (cellsOf 2 encR all) ∧ Keeps (fun _ => False) w wr ∧ clG n (decide (p = 0)) (l.drop i) all i = G ∧ ∀ q ∈ all, in64 q.1 ∧ in64 q.2
/-- One part more. -/
theorem cl_next {G : Option (List (Int × Int) × Nat)} {l : List Int} {w w4 : World} {v4 atv pv : Value} {i p m k n : Nat} {all s : List (Int × Int)} {xs : List Value} (hik : i + k ≤ l.length) (hk : 1 ≤ k) (hpi : p ≤ i) (hn : l.length < m + 1 + i) (hal : all.length ≤ 5 * i) (hs : s.length ≤ 5)
    (h64 : ∀ q ∈ all, in64 q.1 ∧ in64 q.2) (h64s : ∀ q ∈ s, in64 q.1 ∧ in64 q.2) (K : Keeps (fun _ => False) w w4) (hg : clG m false (l.drop (i + k)) (all ++ s) (i + k) = G)
    (hnn : n = all.length + s.length) (hxs : xs = cellsOf 2 encR all ++ cellsOf 2 encR s) (ho : w4.ownsRow w.heap.size 87 2 v4 n xs)
    (ha : atv = .int .i64 ((i + k : Nat) : Int)) (hp : pv = .int .i64 ((p + 1 : Nat) : Int)) : ClR G l w atv v4 pv w4 := by
  refine ⟨i + k, p + 1, m, all ++ s, ha, hp, hik, by omega, by omega, by rw [List.length_append]; omega, ?_, K, ?_, fun q hq => ?_⟩
  · rw [List.length_append, cellsOf_append, ← hnn, ← hxs]; exact ho
  · rw [show decide (p + 1 = 0) = false by simp]; exact hg
  · rcases List.mem_append.1 hq with hq | hq
    · exact h64 q hq
    · exact h64s q hq
end Go.Proofs.YtpcbfmbpbegjgaaGreat
end
section
namespace Go.Proofs.YtpcbfmbpbegjgaaGreat
open Go.RowKit
set_option linter.unusedVariables false
set_option linter.unusedSimpArgs false
set_option maxRecDepth 100000

/-- What the document's class answers. -/
def ClassC : Prop := ∀ (l : List Int) (b off cap : Nat) (w : World), ISl w (.slice (some ⟨b, off, none⟩) l.length cap) l → l.length ≤ 200 → Calls Tryz.prog 40 #[.slice (some ⟨b, off, none⟩) l.length cap] w fun e w' => ClE w (clP l) e w'
/-- A token and its length are. -/
def TokE (w : World) (p : Option (Tok × Nat)) (e : Ending) (w' : World) : Prop :=
  match p with
  | none => e = .returned (.tuple #[tokV 0 0 (.slice none 0 0) 0 0, .int .i64 0]) ∧ Keeps (fun _ => False) w w'
  | some (t, k) => ∃ v : TV, e = .returned (.tuple #[v.val, .int .i64 k]) ∧ KAt w' (Bt w w') v t ∧ Keeps (fun _ => False) w w'
theorem tok_close {w wX wE : World} {v : TV} {t : Tok} {k : Nat} (K : Keeps (fun _ => False) (w.alloc (.cells #[.int .i64 0, .int .i64 0, .slice none 0 0, .int .i64 0, .int .i64 0] 63)) wX)
    (hT : KAt wX (fun b => w.heap.size < b ∧ b < wX.heap.size) v t) (kE : Keeps (fun b => b = w.heap.size) wX wE) : TokE w (some (t, k)) (.returned (.tuple #[v.val, .int .i64 k])) wE := by
  have hs := K.size
  simp at hs
  have hs2 := kE.size
  refine ⟨v, rfl, hT.keepsTo kE (fun b hb e => by omega) (fun b hb => ⟨by omega, by omega⟩), ?_⟩
  exact (Keeps.trans (by (repeat' (with_reducible first | exact Keeps.refl _ _ | assumption | refine Keeps.drawN ?_ _ | refine Keeps.drew ?_ | refine Keeps.setCell ?_ ?_ _ | refine Keeps.alloc ?_ _)) <;> (first | exact Or.inr (Nat.le_refl _) | exact Or.inl rfl | exact Or.inl (Or.inl rfl) | exact Or.inl (Or.inr rfl) | (right; simp; done) | (right; simp; omega))) K).trans2 kE (fun b hb e => by omega)
theorem tok_none {w wX wE : World} (K : Keeps (fun _ => False) (w.alloc (.cells #[.int .i64 0, .int .i64 0, .slice none 0 0, .int .i64 0, .int .i64 0] 63)) wX)
    (kE : Keeps (fun b => b = w.heap.size) wX wE) : TokE w none (.returned (.tuple #[tokV 0 0 (.slice none 0 0) 0 0, .int .i64 0])) wE :=
  ⟨rfl, (Keeps.trans (by (repeat' (with_reducible first | exact Keeps.refl _ _ | assumption | refine Keeps.drawN ?_ _ | refine Keeps.drew ?_ | refine Keeps.setCell ?_ ?_ _ | refine Keeps.alloc ?_ _)) <;> (first | exact Or.inr (Nat.le_refl _) | exact Or.inl rfl | exact Or.inl (Or.inl rfl) | exact Or.inl (Or.inr rfl) | (right; simp; done) | (right; simp; omega))) K).trans2 kE (fun b hb e => by omega)⟩
/-- The result's block as it was laid. -/
theorem res_factsK {w wX : World} (K : Keeps (fun _ => False) (w.alloc (.cells #[.int .i64 0, .int .i64 0, .slice none 0 0, .int .i64 0, .int .i64 0] 63)) wX) :
    (wX.cell? ⟨w.heap.size, 0, none⟩ = some (.int .i64 0) ∧ wX.cell? ⟨w.heap.size, 1, none⟩ = some (.int .i64 0) ∧ wX.cell? ⟨w.heap.size, 2, none⟩ = some (.slice none 0 0) ∧ wX.cell? ⟨w.heap.size, 3, none⟩ = some (.int .i64 0) ∧ wX.cell? ⟨w.heap.size, 4, none⟩ = some (.int .i64 0)) ∧
    (wX.frozen? ⟨w.heap.size, 0, none⟩ = false ∧ wX.frozen? ⟨w.heap.size, 1, none⟩ = false ∧ wX.frozen? ⟨w.heap.size, 2, none⟩ = false ∧ wX.frozen? ⟨w.heap.size, 3, none⟩ = false ∧ wX.frozen? ⟨w.heap.size, 4, none⟩ = false) := by
  exact ⟨⟨K.cell (by simp [go_sem]) id, K.cell (by simp [go_sem]) id, K.cell (by simp [go_sem]) id, K.cell (by simp [go_sem]) id, K.cell (by simp [go_sem]) id⟩,
    K.frozen (by simp [go_sem]) (by simp) id, K.frozen (by simp [go_sem]) (by simp) id, K.frozen (by simp [go_sem]) (by simp) id, K.frozen (by simp [go_sem]) (by simp) id, K.frozen (by simp [go_sem]) (by simp) id⟩
theorem KAt.pt {w' : World} {lo : Nat} {u : Value} {L : List (Int × Int)} (h : w'.ownsRow lo 87 2 u L.length (cellsOf 2 encR L)) (hl : L.length ≤ 4611686018427387904) (hr : ∀ p ∈ L, in64 p.1 ∧ in64 p.2) :
    KAt w' (fun b => lo ≤ b ∧ b < w'.heap.size) ⟨0, 0, u, 0, 0⟩ (.pt L) :=
  ⟨rfl, ⟨SlOf.ofOwn h hl, hr⟩, fun b hb => ⟨ownBlock_base h b hb, own_lt h b hb⟩⟩
theorem numP_rng (l : List Int) : 0 ≤ (numP l).1 ∧ (numP l).1 ≤ 50 := by
  have h0 : 0 ≤ (num0 l).1 := by
    rcases l with _ | ⟨a, l⟩
    · decide
    · rw [num0_cons]
      split
      · rename_i ha
        have ha := (dig_iff a).1 ha
        rcases l with _ | ⟨b, l⟩
        · simp; omega
        · simp only
          split
          · rename_i hb
            have hb := (dig_iff b).1 hb
            simp only; omega
          · simp only; omega
      · decide
  unfold numP
  split
  · decide
  · exact ⟨h0, by omega⟩
theorem brP_rng {l : List Int} {m x : Int} {k : Nat} (h : brP l = some (m, x, k)) : in64 m ∧ in64 x := by
  have h1 := numP_rng l
  unfold brP at h
  split at h
  · cases h
  · split at h
    · cases h
    · rename_i c l2 _
      have h2 := numP_rng l2
      split at h
      · simp only [Option.some.injEq, Prod.mk.injEq] at h; unfold in64; omega
      · split at h
        · split at h
          · cases h
          · split at h
            · simp only [Option.some.injEq, Prod.mk.injEq] at h; unfold in64; omega
            · split at h
              · cases h
              · split at h
                · simp only [Option.some.injEq, Prod.mk.injEq] at h; unfold in64; omega
                · cases h
        · cases h
end Go.Proofs.YtpcbfmbpbegjgaaGreat
end
