/-
  Several texts in one: The document's in, named. The document's escaped. The document's point. The document's class: what its loop knows. The document's token: what it answers. The document's token. The document's token: at a brace, a bracket.
-/
import Derived.Test.YtbifklibdkjbeaaGreatDoorMg18
import Derived.Test.YtbifklibdkjbeaaGreatDoorPaEscG
import Derived.Test.YtbifklibdkjbeaaGreatDoorRfMadeBG
import Derived.Deep.RegionHeld3
import Derived.Deep.AppendLies
import Derived.Test.YtbifklibdkjbeaaGreatDoorMg23
import Derived.Test.YtbifklibdkjbeaaGreatDoorMg12
namespace Go.Proofs.YtbifklibdkjbeaaGreatDoor
open Go.RowKit
set_option linter.unusedVariables false
set_option linter.unusedSimpArgs false
set_option maxRecDepth 100000
set_option maxHeartbeats 16000000
def inP (l : List UInt8) (r : Int) : Bool := l.any fun c => decide ((c.toNat : Int) = r)
theorem xiX (l : List UInt8) (r : Int) (w : World) (hl : l.length ≤ 1000) : Calls Tryz.prog 187 #[.string ⟨l.toArray⟩, .int .i64 r] w fun e w' => e = .returned (.bool (inP l r)) ∧ w = w' := by
 have HR : Hid (inP l r = (l.drop 0).any fun c => decide ((c.toNat : Int) = r)) := xoo rfl
 generalize inP l r = R at *
 go_enter Tryz.func187, Tryz.ntmps187
 go_wp2_with fail
 go_loopw [5] (fun iv wr => ∃ i : Nat, iv = .int .i64 i ∧ i ≤ l.length ∧ R = ((l.drop i).any fun c => decide ((c.toNat : Int) = r)) ∧ w = wr) (fun iv _ => l.length + 1 - (intOf iv).toNat)
 case atStart => exact ⟨0, rfl, Nat.zero_le _, HR.out, rfl⟩
 case round =>
  obtain ⟨i, rfl, hi, hR, rfl⟩ := hrel
  by_cases hil : i < l.length
  · obtain ⟨c, hc⟩ : ∃ c, l[i]? = some c := ⟨_, List.getElem?_eq_getElem hil⟩
    have hx := idxB hc
    have hd : l.drop i = c :: l.drop (i + 1) := by
     rw [List.drop_eq_getElem_cons hil]
     rw [List.getElem?_eq_getElem hil] at hc
     rw [Option.some.inj hc]
    rw [hd, List.any_cons] at hR
    have HRR := xoo hR
    have h256 := c.toNat_lt
    clear hc hd hR
    by_cases he : (c.toNat : Int) = r
    · have g1 : (((c.toNat : Nat) : Int) == r) = true := by simpa using he
      go_wp2_with fail
      go_ret
      exact ⟨by rw [HRR.out]; simp [he], rfl⟩
    have g1 : (((c.toNat : Nat) : Int) == r) = false := beq_eq_false_iff_ne.2 he
    have HN : Hid (R = ((l.drop (i + 1)).any fun c => decide ((c.toNat : Int) = r))) := xoo (by rw [HRR.out, show decide ((c.toNat : Int) = r) = false by simpa using he, Bool.false_or])
    clear he HRR
    go_wp2_with fail
    go_roundw
    case rel => exact ⟨i + 1, by go_num, by omega, HN.out, by trivial⟩
    case measure => simp [intOf]; omega
  rw [List.drop_eq_nil_of_le (by omega)] at hR
  have HRR := xoo hR
  clear hR
  go_wp2_with fail
  go_ret
  exact ⟨by rw [HRR.out]; rfl, rfl⟩
theorem xlE (al : List UInt8) (hal : al = sgL ++ [45] ∨ al = npL) (r : Int) : inP al r = (if al = npL then amg npL r else amg sgL r || decide (r = 45)) := by
 have hout : ∀ al : List UInt8, (∀ c ∈ al, c.toNat < 128) → ¬ (0 ≤ r ∧ r < 128) → inP al r = false := by
  intro al h hr
  unfold inP
  rw [List.any_eq_false]
  intro c hc
  have := h c hc
  simp only [decide_eq_true_eq]; omega
 have k1 : ∀ c : Fin 128, inP (sgL ++ [45]) (c.val : Int) = (amg sgL (c.val : Int) || decide ((c.val : Int) = 45)) := of_decide_eq_true (by kernel_rfl)
 have k2 : ∀ c : Fin 128, inP npL (c.val : Int) = amg npL (c.val : Int) := of_decide_eq_true (by kernel_rfl)
 rcases hal with rfl | rfl
 · rw [if_neg (by decide)]
   by_cases h : 0 ≤ r ∧ r < 128
   · have := k1 ⟨r.toNat, by omega⟩
     simpa [Int.toNat_of_nonneg h.1] using this
   rw [hout _ (by decide) h, xgo _ _ h]
   symm; simp; omega
 rw [if_pos rfl]
 by_cases h : 0 ≤ r ∧ r < 128
 · have := k2 ⟨r.toNat, by omega⟩
   simpa [Int.toNat_of_nonneg h.1] using this
 rw [hout _ (by decide) h, xgo _ _ h]
theorem xlD (r : Int) : inP [100, 119, 115] r = decide (r = 100 ∨ r = 119 ∨ r = 115) := by
 apply Bool.eq_iff_iff.2
 simp [inP]
 omega
theorem xlF (r : Int) : inP [68, 87, 83] r = decide (r = 68 ∨ r = 87 ∨ r = 83) := by
 apply Bool.eq_iff_iff.2
 simp [inP]
 omega
theorem xfk (r : Int) (w : World) (h : r = 100 ∨ r = 119 ∨ r = 115) :
 Calls Tryz.prog 188 #[.int .i64 r] w fun e w' => ∃ u, e = .returned u ∧ ROwn w w' u (xat r) := by
 rcases h with rfl | rfl | rfl
 · go_enter Tryz.func188, Tryz.ntmps188
   go_wp2_with fail
   go_ret
   exact ⟨_, rfl, ⟨rfl, Or.inr ⟨w.heap.size, 1, _, rfl, Nat.le_refl _, heap_alloc_new w _, Nat.le_refl _, by unfold maxLen; decide, rfl, rfl⟩⟩, (xa.refl _ _).alloc _⟩
 · go_enter Tryz.func188, Tryz.ntmps188
   go_wp2_with fail
   go_ret
   exact ⟨_, rfl, ⟨rfl, Or.inr ⟨w.heap.size, 4, _, rfl, Nat.le_refl _, heap_alloc_new w _, Nat.le_refl _, by unfold maxLen; decide, rfl, rfl⟩⟩, (xa.refl _ _).alloc _⟩
 go_enter Tryz.func188, Tryz.ntmps188
 go_wp2_with fail
 go_ret
 exact ⟨_, rfl, ⟨rfl, Or.inr ⟨w.heap.size, 2, _, rfl, Nat.le_refl _, heap_alloc_new w _, Nat.le_refl _, by unfold maxLen; decide, rfl, rfl⟩⟩, (xa.refl _ _).alloc _⟩
def EscE (w : World) (p : Option (List (Int × Int) × Bool)) (e : Ending) (w' : World) : Prop :=
 match p with
 | none => e = .returned (.tuple #[.slice none 0 0, .bool false, .bool false]) ∧ xa (fun _ => False) w w'
 | some (s, is) => ∃ u, e = .returned (.tuple #[u, .bool is, .bool true]) ∧ ROwn w w' u s
theorem xcb (w : World) (x : Int) : ROwn w (w.alloc (.cells #[.int .i64 x, .int .i64 x] 287)) (.slice (some ⟨w.heap.size, 0, none⟩) 1 1) [(x, x)] :=
 ⟨⟨rfl, Or.inr ⟨w.heap.size, 1, _, rfl, Nat.le_refl _, heap_alloc_new w _, Nat.le_refl _, by unfold maxLen; decide, rfl, rfl⟩⟩, (xa.refl _ _).alloc _⟩
theorem xls (r : Int) (h : r = 68 ∨ r = 87 ∨ r = 83) : notL (xat (r + 32)) = xat r := by
 apply xeF
 rcases h with rfl | rfl | rfl
 · refine ⟨by simp [xat, Norm], fun x => ?_⟩
   rw [Bool.eq_iff_iff]
   simp [xat, mem, has, xa1]
   omega
 · refine ⟨by simp [xat, Norm], fun x => ?_⟩
   rw [Bool.eq_iff_iff]
   simp [xat, mem, has, xa1]
   omega
 refine ⟨by simp [xat, Norm], fun x => ?_⟩
 rw [Bool.eq_iff_iff]
 simp [xat, mem, has, xa1]
 omega
theorem xdW (r : Int) (w : World) (hr : 0 ≤ r ∧ r ≤ 1114111) : Calls Tryz.prog 150 #[.int .i64 r] w fun e w' => EscE w (escP r) e w' := by
 have HI1 := xoo (fun W => xiX [100, 119, 115] r W (by decide))
 by_cases h1 : r = 100 ∨ r = 119 ∨ r = 115
 · rw [show inP [100, 119, 115] r = true by rw [xlD]; simpa using h1] at HI1
   have HN := xoo (fun W => xfk r W h1)
   rw [show escP r = some (xat r, false) by unfold escP; rw [if_pos (by unfold xcw; omega)]]
   unfold EscE
   dsimp only
   generalize xat r = L at *
   go_enter Tryz.func150, Tryz.ntmps150
   go_wp2_with fail
   refine (HI1.out _).mono ?_
   rintro e w2 ⟨rfl, rfl⟩
   go_wp2_with fail
   refine (HN.out _).mono ?_
   rintro e w3 ⟨u, rfl, hu⟩
   have HU := xoo hu
   obtain ⟨ua, uc, rfl⟩ := xac hu.1
   clear hu
   go_wp2_with fail
   go_ret3
   exact ⟨_, rfl, HU.out⟩
 rw [show inP [100, 119, 115] r = false by rw [xlD]; simpa using h1] at HI1
 have HI2 := xoo (fun W => xiX [68, 87, 83] r W (by decide))
 by_cases h2 : r = 68 ∨ r = 87 ∨ r = 83
 · rw [show inP [68, 87, 83] r = true by rw [xlF]; simpa using h2] at HI2
   have HN := xoo (fun W => xfk (r + 32) W (by omega))
   have hl5 : (xat (r + 32)).length ≤ 5 := by
    unfold xat; repeat' split
    all_goals decide
   have HM := xoo (fun v W hW => xeq (xat (r + 32)) v true W hW (by omega))
   have hin : ∀ p ∈ xat (r + 32), in64 p.1 ∧ in64 p.2 := by
    rcases h2 with rfl | rfl | rfl <;> (intro p hp; simp [xat] at hp; unfold in64; (repeat' (rcases hp with rfl | hp)) <;> (try subst hp) <;> simp)
   have HIn := xoo hin
   rw [if_pos rfl, xls r h2] at HM
   rw [show escP r = some (xat r, false) by unfold escP; rw [if_pos (by unfold xcw; omega)]]
   unfold EscE
   dsimp only
   clear hin
   generalize xat (r + 32) = L1 at *
   generalize xat r = L at *
   have hwr : wrap64 (r + 32) = r + 32 := by unfold wrap64; omega
   go_enter Tryz.func150, Tryz.ntmps150
   go_wp2_with fail
   refine (HI1.out _).mono ?_
   rintro e w2 ⟨rfl, rfl⟩
   go_wp2_with fail
   refine (HI2.out _).mono ?_
   rintro e w2 ⟨rfl, rfl⟩
   go_wp2_with fail
   refine (HN.out _).mono ?_
   rintro e w3 ⟨u, rfl, hu⟩
   have HU := xoo hu
   have HRS : Hid (RSl w3 u L1) := xoo ⟨SlOf.ofOwn hu.1 (by omega), HIn.out⟩
   obtain ⟨ua, uc, rfl⟩ := xac hu.1
   clear hu
   go_wp2_with fail
   refine (HM.out _ _ HRS.out).mono ?_
   rintro e w4 ⟨u4, rfl, hu4⟩
   have HU4 := xoo hu4
   obtain ⟨va, vc, rfl⟩ := xac hu4.1
   clear hu4
   go_wp2_with fail
   go_ret3
   exact ⟨_, rfl, xdh HU4.out.1 (HU.out.2.size), HU.out.2.trans HU4.out.2⟩
 rw [show inP [68, 87, 83] r = false by rw [xlF]; simpa using h2] at HI2
 have hnam : ¬ xcw r := by unfold xcw; omega
 have HX : Hid (escP r = if xco r then none else some ([(escR r, escR r)], true)) := xoo (by unfold escP; rw [if_neg hnam])
 generalize escP r = P at *
 by_cases h3 : r = 110
 · subst h3
   have E : Hid (P = some ([(10, 10)], true)) := xoo (by rw [HX.out]; rfl)
   clear HX
   go_enter Tryz.func150, Tryz.ntmps150
   go_wp2_with fail
   refine (HI1.out _).mono ?_
   rintro e w2 ⟨rfl, rfl⟩
   go_wp2_with fail
   refine (HI2.out _).mono ?_
   rintro e w2 ⟨rfl, rfl⟩
   go_wp2_with fail
   go_ret3
   rw [E.out]
   exact ⟨_, rfl, xcb w 10⟩
 have g3 : (r == 110) = false := beq_eq_false_iff_ne.2 h3
 by_cases h4 : r = 114
 · subst h4
   have E : Hid (P = some ([(13, 13)], true)) := xoo (by rw [HX.out]; rfl)
   clear HX
   go_enter Tryz.func150, Tryz.ntmps150
   go_wp2_with fail
   refine (HI1.out _).mono ?_
   rintro e w2 ⟨rfl, rfl⟩
   go_wp2_with fail
   refine (HI2.out _).mono ?_
   rintro e w2 ⟨rfl, rfl⟩
   go_wp2_with fail
   go_ret3
   rw [E.out]
   exact ⟨_, rfl, xcb w 13⟩
 have g4 : (r == 114) = false := beq_eq_false_iff_ne.2 h4
 by_cases h5 : r = 116
 · subst h5
   have E : Hid (P = some ([(9, 9)], true)) := xoo (by rw [HX.out]; rfl)
   clear HX
   go_enter Tryz.func150, Tryz.ntmps150
   go_wp2_with fail
   refine (HI1.out _).mono ?_
   rintro e w2 ⟨rfl, rfl⟩
   go_wp2_with fail
   refine (HI2.out _).mono ?_
   rintro e w2 ⟨rfl, rfl⟩
   go_wp2_with fail
   go_ret3
   rw [E.out]
   exact ⟨_, rfl, xcb w 9⟩
 have g5 : (r == 116) = false := beq_eq_false_iff_ne.2 h5
 have hsg : inP (sgL ++ [45]) r = !xco r := by
  rw [xlE _ (Or.inl rfl), if_neg (by decide)]
  unfold xco
  simp [h3, h4, h5]
 have HI3 := xoo (fun W => xiX (sgL ++ [45]) r W (by decide))
 have heR : escR r = r := by unfold escR; rw [if_neg h3, if_neg h4, if_neg h5]
 rw [hsg] at HI3
 rw [heR] at HX
 clear hsg heR
 cases hb : xco r
 · rw [hb] at HI3 HX
   have E : Hid (P = some ([(r, r)], true)) := xoo HX.out
   clear HX
   go_enter Tryz.func150, Tryz.ntmps150
   go_wp2_with fail
   refine (HI1.out _).mono ?_
   rintro e w2 ⟨rfl, rfl⟩
   go_wp2_with fail
   refine (HI2.out _).mono ?_
   rintro e w2 ⟨rfl, rfl⟩
   go_wp2_with fail
   refine (HI3.out _).mono ?_
   rintro e w2 ⟨rfl, rfl⟩
   go_wp2_with fail
   go_ret3
   rw [E.out]
   exact ⟨_, rfl, xcb w r⟩
 rw [hb] at HI3 HX
 have E : Hid (P = none) := xoo HX.out
 clear HX
 go_enter Tryz.func150, Tryz.ntmps150
 go_wp2_with fail
 refine (HI1.out _).mono ?_
 rintro e w2 ⟨rfl, rfl⟩
 go_wp2_with fail
 refine (HI2.out _).mono ?_
 rintro e w2 ⟨rfl, rfl⟩
 go_wp2_with fail
 refine (HI3.out _).mono ?_
 rintro e w2 ⟨rfl, rfl⟩
 go_wp2_with fail
 go_ret3
 rw [E.out]
 exact ⟨rfl, xa.refl _ _⟩
def PtE (w : World) (p : Option (List (Int × Int) × Bool × Nat)) (e : Ending) (w' : World) : Prop :=
 match p with
 | none => e = .returned (.tuple #[.slice none 0 0, .bool false, .int .i64 0]) ∧ xa (fun _ => False) w w'
 | some (s, is, k) => ∃ u, e = .returned (.tuple #[u, .bool is, .int .i64 k]) ∧ ROwn w w' u s
theorem xaN (l : List Int) (v : Value) (w : World) (h : ISl w v l) : Calls Tryz.prog 186 #[v] w fun e w' => PtE w (ptP l) e w' := by
 obtain ⟨a, cap, rfl, hcap, hc⟩ := h.cells
 have HI := xoo h
 clear h
 rcases l with _ | ⟨r, l⟩
 · go_enter Tryz.func186, Tryz.ntmps186
   go_wp2_with fail
   go_ret3
   exact ⟨rfl, xa.refl _ _⟩
 obtain ⟨b, off, rfl, hcc⟩ := hc (by simp)
 obtain ⟨c0, c1, c2⟩ := hcc 0 r rfl
 simp only [Nat.add_zero] at c0
 have HCC := xoo hcc
 simp only [List.length_cons] at *
 clear hc hcc
 have gl : (((l.length : Int) + 1) == 0) = false := beq_eq_false_iff_ne.2 (by omega)
 have HA := xoo (fun W => xiX npL r W (by decide))
 rw [show inP npL r = amg npL r by rw [xlE _ (Or.inr rfl), if_pos rfl]] at HA
 have HP := xoo (xbI r l)
 generalize ptP (r :: l) = P at *
 cases hb : amg npL r
 · rw [hb] at HA HP
   by_cases h9 : r = 92
   · subst h9
     rcases l with _ | ⟨r2, l⟩
     · have E : Hid (P = none) := xoo (by rw [HP.out]; rfl)
       clear HP HI
       go_enter Tryz.func186, Tryz.ntmps186
       go_wp2_with fail
       refine (HA.out _).mono ?_
       rintro e w2 ⟨rfl, rfl⟩
       go_wp2_with fail
       go_ret3
       rw [E.out]
       exact ⟨rfl, xa.refl _ _⟩
     obtain ⟨d0, d1, d2⟩ := HCC.out 1 r2 rfl
     simp only [List.length_cons] at *
     have g7 : decide ((l.length : Int) + 1 + 1 < 2) = false := by simp; omega
     have HE := xoo (fun W => xdW r2 W ⟨d1, d2⟩)
     have HP2 : Hid (P = (escP r2).map fun p => (p.1, p.2, 2)) := xoo (by rw [HP.out]; rfl)
     clear HP HI
     cases hE : escP r2 with
     | none =>
      rw [hE] at HP2 HE
      have E : Hid (P = none) := xoo HP2.out
      clear HP2 hE
      go_enter Tryz.func186, Tryz.ntmps186
      go_wp2_with fail
      refine (HA.out _).mono ?_
      rintro e w2 ⟨rfl, rfl⟩
      go_wp2_with fail
      refine (HE.out _).mono ?_
      rintro e w3 ⟨rfl, K⟩
      have HK := xoo K
      clear K
      go_wp2_with fail
      go_ret3
      rw [E.out]
      exact ⟨rfl, HK.out⟩
     | some p =>
      obtain ⟨s, is⟩ := p
      rw [hE] at HP2 HE
      have E : Hid (P = some (s, is, 2)) := xoo HP2.out
      clear HP2 hE
      go_enter Tryz.func186, Tryz.ntmps186
      go_wp2_with fail
      refine (HA.out _).mono ?_
      rintro e w2 ⟨rfl, rfl⟩
      go_wp2_with fail
      refine (HE.out _).mono ?_
      rintro e w3 ⟨u, rfl, hu⟩
      have HU := xoo hu
      obtain ⟨ua, uc, rfl⟩ := xac hu.1
      clear hu
      go_wp2_with fail
      go_ret3
      rw [E.out]
      exact ⟨_, rfl, HU.out⟩
   have g9 : (r == 92) = false := beq_eq_false_iff_ne.2 h9
   have E : Hid (P = some ([(r, r)], true, 1)) := xoo (by rw [HP.out, if_neg h9]; rfl)
   clear HP HI
   go_enter Tryz.func186, Tryz.ntmps186
   go_wp2_with fail
   refine (HA.out _).mono ?_
   rintro e w2 ⟨rfl, rfl⟩
   go_wp2_with fail
   go_region_held3 (fun w' => w'.cell? ⟨b, off, none⟩ = some (.int .i64 r)) (go_keep) (fail)
   all_goals go_wp2_with fail
   go_ret3
   rw [E.out]
   exact ⟨_, rfl, (xcb w r).1.drew, (xcb w r).2.drew⟩
 have h9 : ¬ r = 92 := by rintro rfl; revert hb; decide +kernel
 rw [hb] at HA HP
 have E : Hid (P = none) := xoo (by rw [HP.out, if_neg h9]; rfl)
 clear HP HI
 go_enter Tryz.func186, Tryz.ntmps186
 go_wp2_with fail
 refine (HA.out _).mono ?_
 rintro e w2 ⟨rfl, rfl⟩
 go_wp2_with fail
 go_ret3
 rw [E.out]
 exact ⟨rfl, xa.refl _ _⟩
def ClE (w : World) (p : Option (List (Int × Int) × Nat)) (e : Ending) (w' : World) : Prop :=
 match p with
 | none => e = .returned (.tuple #[.slice none 0 0, .int .i64 0]) ∧ xa (fun _ => False) w w'
 | some (s, k) => ∃ u, e = .returned (.tuple #[u, .int .i64 k]) ∧ ROwn w w' u s
theorem xaw {w : World} {ops : Array Oper} {rest : List Oper} {o : Oper} {a : Act} {Q : Exit → Act → World → Prop} (hgd : o.guard = none) (s x : Operand)
 (ho : o.op = .call { callee := .builtin .append, args := #[s, x], argTypes := #[151, 151] })
 (base : Nat) (v : Value) (n : Nat) (xs : List Value) (hs : a.eval s = v) (hown : w.ownsRow base 287 2 v n xs)
 (xv : Value) (l : List (Int × Int)) (hx : a.eval x = xv) (hr : SlOf 2 encR w xv l) (h63 : n + l.length ≤ 1000000) (hbase : base ≤ w.heap.size)
 (h : ∀ v' w', w'.ownsRow base 287 2 v' (n + l.length) (xs ++ cellsOf 2 encR l) → w.grownBy w' v.ownBlock → wpList Tryz.prog ops Q rest (a.put o.dst v') w') : wpList Tryz.prog ops Q (o :: rest) a w := by
 obtain ⟨i0, hi, hz0, hz1, hz2⟩ := info_parts xaO
 rcases hr.news (by omega) with ⟨rfl, rfl⟩ | ⟨ad, c, rfl, hnews⟩
 · refine wpList_append_own_none hgd s x 151 ho base 287 i0 2 Tryz.underlying151 hi v n xs hs hown hx (hs ▸ h v w ?_ ?_)
   · simpa [cellsOf] using hown
   exact ⟨rfl, rfl, rfl, Nat.le_refl _, fun _ _ _ => rfl⟩
 exact wpList_append_own _ hgd s x 151 ho base 287 i0 _ 2 16 Tryz.underlying151 hi hz0 hz1 hz2 rfl (by decide) v n xs hs hown ad _ c _ hx (xah _ _ _) hnews (xaV _) (by unfold maxLen; omega) (by omega) hbase
  (fun v' w' h1 h2 _ => h v' w' h1 h2)
theorem xnB {r : Int} {s : List (Int × Int)} (h : escP r = some (s, true)) : ∃ x, s = [(x, x)] := by
 unfold escP at h
 split at h
 · simp at h
 split at h
 · cases h
 simp at h; exact ⟨_, h.symm⟩
theorem xf5 {l : List Int} {s : List (Int × Int)} {k : Nat} (h : ptP l = some (s, true, k)) : ∃ x, s = [(x, x)] := by
 rcases l with _ | ⟨r, l⟩
 · cases h
 rw [xbI] at h
 split at h
 · rcases l with _ | ⟨r2, l⟩
   · cases h
   simp only [Option.map_eq_some_iff, Prod.mk.injEq] at h
   obtain ⟨⟨p, q⟩, h1, h2, h3, h4⟩ := h
   dsimp only at h2 h3
   subst h2 h3
   exact xnB h1
 split at h
 · cases h
 simp at h; exact ⟨r, h.1.symm⟩
theorem xlr (r : Int) : (xat r).length ≤ 5 ∧ ∀ q ∈ xat r, in64 q.1 ∧ in64 q.2 := by
 unfold xat in64
 repeat' split
 all_goals (constructor; decide; intro q hq; simp at hq; (repeat' (rcases hq with rfl | hq)) <;> (try subst hq) <;> simp)
theorem xi3 {r : Int} {s : List (Int × Int)} {is : Bool} (hr : 0 ≤ r ∧ r ≤ 1114111) (h : escP r = some (s, is)) : s.length ≤ 5 ∧ ∀ q ∈ s, in64 q.1 ∧ in64 q.2 := by
 unfold escP at h
 split at h
 · simp only [Option.some.injEq, Prod.mk.injEq] at h
   rw [← h.1]; exact xlr r
 split at h
 · cases h
 simp only [Option.some.injEq, Prod.mk.injEq] at h
 rw [← h.1]
 refine ⟨by simp, fun q hq => ?_⟩
 simp at hq
 subst hq
 unfold escR in64
 repeat' split
 all_goals (constructor <;> (constructor <;> simp <;> omega))
theorem xf4 {l : List Int} {s : List (Int × Int)} {is : Bool} {k : Nat} (hr : ∀ r ∈ l, 0 ≤ r ∧ r ≤ 1114111) (h : ptP l = some (s, is, k)) : s.length ≤ 5 ∧ ∀ q ∈ s, in64 q.1 ∧ in64 q.2 := by
 rcases l with _ | ⟨r, l⟩
 · cases h
 rw [xbI] at h
 split at h
 · rcases l with _ | ⟨r2, l⟩
   · cases h
   simp only [Option.map_eq_some_iff, Prod.mk.injEq] at h
   obtain ⟨⟨p, q⟩, h1, h2, h3, h4⟩ := h
   dsimp only at h2 h3
   subst h2 h3
   exact xi3 (hr r2 (by simp)) h1
 split at h
 · cases h
 simp only [Option.some.injEq, Prod.mk.injEq] at h
 rw [← h.1]
 refine ⟨by simp, fun q hq => ?_⟩
 simp at hq
 subst hq
 have := hr r (by simp)
 unfold in64
 simp only
 omega
def xmH (G : Option (List (Int × Int) × Nat)) (l : List Int) (w : World) (atv av pv : Value) (wr : World) : Prop :=
 ∃ (i p n : Nat) (all : List (Int × Int)), atv = .int .i64 i ∧ pv = .int .i64 p ∧ i ≤ l.length ∧ p ≤ i ∧ l.length < n + i ∧ all.length ≤ 5 * i ∧ wr.ownsRow w.heap.size 287 2 av all.length (cellsOf 2 encR all) ∧ xa (fun _ => False) w wr ∧ clG n (decide (p = 0)) (l.drop i) all i = G ∧ ∀ q ∈ all, in64 q.1 ∧ in64 q.2
theorem xcC {G : Option (List (Int × Int) × Nat)} {l : List Int} {w w4 : World} {v4 atv pv : Value} {i p m k n : Nat} {all s : List (Int × Int)} {xs : List Value} (hik : i + k ≤ l.length) (hk : 1 ≤ k) (hpi : p ≤ i) (hn : l.length < m + 1 + i) (hal : all.length ≤ 5 * i) (hs : s.length ≤ 5)
 (h64 : ∀ q ∈ all, in64 q.1 ∧ in64 q.2) (h64s : ∀ q ∈ s, in64 q.1 ∧ in64 q.2) (K : xa (fun _ => False) w w4) (hg : clG m false (l.drop (i + k)) (all ++ s) (i + k) = G)
 (hnn : n = all.length + s.length) (hxs : xs = cellsOf 2 encR all ++ cellsOf 2 encR s) (ho : w4.ownsRow w.heap.size 287 2 v4 n xs)
 (ha : atv = .int .i64 ((i + k : Nat) : Int)) (hp : pv = .int .i64 ((p + 1 : Nat) : Int)) : xmH G l w atv v4 pv w4 := by
 refine ⟨i + k, p + 1, m, all ++ s, ha, hp, hik, by omega, by omega, by rw [List.length_append]; omega, ?_, K, ?_, fun q hq => ?_⟩
 · rw [List.length_append, xag, ← hnn, ← hxs]; exact ho
 · rw [show decide (p + 1 = 0) = false by simp]; exact hg
 rcases List.mem_append.1 hq with hq | hq
 · exact h64 q hq
 exact h64s q hq
def xmI : Prop := ∀ (l : List Int) (b off cap : Nat) (w : World), ISl w (.slice (some ⟨b, off, none⟩) l.length cap) l → l.length ≤ 200 → Calls Tryz.prog 149 #[.slice (some ⟨b, off, none⟩) l.length cap] w fun e w' => ClE w (clP l) e w'
def TokE (w : World) (p : Option (Tok × Nat)) (e : Ending) (w' : World) : Prop :=
 match p with
 | none => e = .returned (.tuple #[tokV 0 0 (.slice none 0 0) 0 0, .int .i64 0]) ∧ xa (fun _ => False) w w'
 | some (t, k) => ∃ v : TV, e = .returned (.tuple #[v.val, .int .i64 k]) ∧ KAt w' (Bt w w') v t ∧ xa (fun _ => False) w w'
theorem xei {w wX wE : World} {v : TV} {t : Tok} {k : Nat} (K : xa (fun _ => False) (w.alloc (.cells #[.int .i64 0, .int .i64 0, .slice none 0 0, .int .i64 0, .int .i64 0] 218)) wX)
 (hT : KAt wX (fun b => w.heap.size < b ∧ b < wX.heap.size) v t) (kE : xa (fun b => b = w.heap.size) wX wE) : TokE w (some (t, k)) (.returned (.tuple #[v.val, .int .i64 k])) wE := by
 have hs := K.size
 simp at hs
 have hs2 := kE.size
 refine ⟨v, rfl, hT.keepsTo kE (fun b hb e => by omega) (fun b hb => ⟨by omega, by omega⟩), ?_⟩
 exact (xa.trans (KI.out) K).trans2 kE (fun b hb e => by omega)
theorem xdd {w wX wE : World} (K : xa (fun _ => False) (w.alloc (.cells #[.int .i64 0, .int .i64 0, .slice none 0 0, .int .i64 0, .int .i64 0] 218)) wX)
 (kE : xa (fun b => b = w.heap.size) wX wE) : TokE w none (.returned (.tuple #[tokV 0 0 (.slice none 0 0) 0 0, .int .i64 0])) wE :=
 ⟨rfl, (xa.trans (KI.out) K).trans2 kE (fun b hb e => by omega)⟩
theorem xbl {w wX : World} (K : xa (fun _ => False) (w.alloc (.cells #[.int .i64 0, .int .i64 0, .slice none 0 0, .int .i64 0, .int .i64 0] 218)) wX) :
 (wX.cell? ⟨w.heap.size, 0, none⟩ = some (.int .i64 0) ∧ wX.cell? ⟨w.heap.size, 1, none⟩ = some (.int .i64 0) ∧ wX.cell? ⟨w.heap.size, 2, none⟩ = some (.slice none 0 0) ∧ wX.cell? ⟨w.heap.size, 3, none⟩ = some (.int .i64 0) ∧ wX.cell? ⟨w.heap.size, 4, none⟩ = some (.int .i64 0)) ∧
 (wX.frozen? ⟨w.heap.size, 0, none⟩ = false ∧ wX.frozen? ⟨w.heap.size, 1, none⟩ = false ∧ wX.frozen? ⟨w.heap.size, 2, none⟩ = false ∧ wX.frozen? ⟨w.heap.size, 3, none⟩ = false ∧ wX.frozen? ⟨w.heap.size, 4, none⟩ = false) := by
 exact ⟨⟨K.cell (by simp [go_sem]) id, K.cell (by simp [go_sem]) id, K.cell (by simp [go_sem]) id, K.cell (by simp [go_sem]) id, K.cell (by simp [go_sem]) id⟩,
  K.frozen (by simp [go_sem]) (by simp) id, K.frozen (by simp [go_sem]) (by simp) id, K.frozen (by simp [go_sem]) (by simp) id, K.frozen (by simp [go_sem]) (by simp) id, K.frozen (by simp [go_sem]) (by simp) id⟩
theorem KAt.pt {w' : World} {lo : Nat} {u : Value} {L : List (Int × Int)} (h : w'.ownsRow lo 287 2 u L.length (cellsOf 2 encR L)) (hl : L.length ≤ 4611686018427387904) (hr : ∀ p ∈ L, in64 p.1 ∧ in64 p.2) :
 KAt w' (fun b => lo ≤ b ∧ b < w'.heap.size) ⟨0, 0, u, 0, 0⟩ (.pt L) :=
 ⟨rfl, ⟨SlOf.ofOwn h hl, hr⟩, fun b hb => ⟨xaa h b hb, xaM h b hb⟩⟩
theorem xiJ (l : List Int) : 0 ≤ (numP l).1 ∧ (numP l).1 ≤ 50 := by
 have h0 : 0 ≤ (num0 l).1 := by
  rcases l with _ | ⟨a, l⟩
  · decide
  rw [xa0]
  split
  · rename_i ha
    have ha := (xch a).1 ha
    rcases l with _ | ⟨b, l⟩
    · simp; omega
    simp only
    split
    · rename_i hb
      have hb := (xch b).1 hb
      simp only; omega
    simp only; omega
  decide
 unfold numP
 split
 · decide
 exact ⟨h0, by omega⟩
theorem brP_rng {l : List Int} {m x : Int} {k : Nat} (h : brP l = some (m, x, k)) : in64 m ∧ in64 x := by
 have h1 := xiJ l
 unfold brP at h
 split at h
 · cases h
 split at h
 · cases h
 rename_i c l2 _
 have h2 := xiJ l2
 split at h
 · simp only [Option.some.injEq, Prod.mk.injEq] at h; unfold in64; omega
 split at h
 · split at h
   · cases h
   split at h
   · simp only [Option.some.injEq, Prod.mk.injEq] at h; unfold in64; omega
   split at h
   · cases h
   split at h
   · simp only [Option.some.injEq, Prod.mk.injEq] at h; unfold in64; omega
   cases h
 cases h
theorem xiM : Norm [] := trivial
theorem xm9 (l : List (Int × Int)) : Norm (ofL l) := by
 unfold ofL
 split
 · rename_i h; exact (Classical.choose_spec h).1
 exact xiM
theorem xlj (l : List (Int × Int)) : Norm (notL l) := by
 unfold notL
 split
 · rename_i h; exact (Classical.choose_spec h).1
 exact xiM
theorem xnK {l : List Int} {s : List (Int × Int)} {k : Nat} (h : clP l = some (s, k)) : Norm s := by
 unfold clP at h
 split at h
 · simp only [Option.map_eq_some_iff, Prod.mk.injEq] at h
   obtain ⟨p, _, h2, _⟩ := h
   rw [← h2]; exact xlj p.1
 simp only [Option.map_eq_some_iff, Prod.mk.injEq] at h
 obtain ⟨p, _, h2, _⟩ := h
 rw [← h2]; exact xm9 p.1
theorem xkP (w : World) (a b c d : Int) : ROwn w (w.alloc (.cells #[.int .i64 a, .int .i64 b, .int .i64 c, .int .i64 d] 287)) (.slice (some ⟨w.heap.size, 0, none⟩) 2 2) [(a, b), (c, d)] :=
 ⟨⟨rfl, Or.inr ⟨w.heap.size, 2, _, rfl, Nat.le_refl _, heap_alloc_new w _, Nat.le_refl _, by unfold maxLen; decide, rfl, rfl⟩⟩, (xa.refl _ _).alloc _⟩
theorem xob {w W : World} {lo : Nat} {u : Value} {L : List (Int × Int)} (hlo : w.heap.size ≤ lo) (h : W.ownsRow lo 287 2 u L.length (cellsOf 2 encR L)) (hl : L.length ≤ 4611686018427387904) (hr : ∀ p ∈ L, in64 p.1 ∧ in64 p.2) :
 KAt W (Bt w W) ⟨0, 0, u, 0, 0⟩ (.pt L) :=
 (KAt.pt h hl hr).keepsTo (xa.refl (fun _ => False) _) (fun _ _ => id) (fun b hb => ⟨Nat.le_trans hlo hb.1, hb.2⟩)
theorem xkK (r : Int) (t : List Int) (b off cap : Nat) (w : World) (h : ISl w (.slice (some ⟨b, off, none⟩) (t.length + 1) cap) (r :: t)) (hl : t.length ≤ 200) (hr : r = 124 ∨ r = 40 ∨ r = 41 ∨ r = 94 ∨ r = 36) : Calls Tryz.prog 107 #[.slice (some ⟨b, off, none⟩) (t.length + 1) cap] w fun e w' => TokE w (tokP (r :: t)) e w' := by
 obtain ⟨_, _, e1, hcap, hc⟩ := h.cells
 simp only [List.length_cons] at e1 hcap hc
 injection e1 with e1 _ e2
 subst e1 e2
 obtain ⟨_, _, e1, hcc⟩ := hc (by omega)
 injection e1 with e1
 injection e1 with e1 e2
 subst e1 e2
 obtain ⟨c0, c1, c2⟩ := hcc 0 r rfl
 simp only [Nat.add_zero] at c0
 have x0 := xad c0 (.cells #[.int .i64 0, .int .i64 0, .slice none 0 0, .int .i64 0, .int .i64 0] 218)
 have HCC := xoo hcc
 have HI := xoo h
 have HP := xoo (xaq r t)
 generalize tokP (r :: t) = P at *
 clear hc hcc c0 h
 have E : Hid (P = some (.sg r, 1)) := xoo (by rw [HP.out, if_pos hr])
 clear HP HI HCC
 rcases hr with rfl | rfl | rfl | rfl | rfl
 · skip
   go_enter Tryz.func107, Tryz.ntmps107
   go_wp2_with fail
   refine bodyPost_ret (by simp [results, Tryz.results107, go_sem]; try rfl) rfl ?_
   rw [E.out]
   exact ⟨⟨1, 124, .slice none 0 0, 0, 0⟩, rfl, rfl, (xa.refl _ _).alloc _⟩
 · skip
   go_enter Tryz.func107, Tryz.ntmps107
   go_wp2_with fail
   refine bodyPost_ret (by simp [results, Tryz.results107, go_sem]; try rfl) rfl ?_
   rw [E.out]
   exact ⟨⟨1, 40, .slice none 0 0, 0, 0⟩, rfl, rfl, (xa.refl _ _).alloc _⟩
 · skip
   go_enter Tryz.func107, Tryz.ntmps107
   go_wp2_with fail
   refine bodyPost_ret (by simp [results, Tryz.results107, go_sem]; try rfl) rfl ?_
   rw [E.out]
   exact ⟨⟨1, 41, .slice none 0 0, 0, 0⟩, rfl, rfl, (xa.refl _ _).alloc _⟩
 · skip
   go_enter Tryz.func107, Tryz.ntmps107
   go_wp2_with fail
   refine bodyPost_ret (by simp [results, Tryz.results107, go_sem]; try rfl) rfl ?_
   rw [E.out]
   exact ⟨⟨1, 94, .slice none 0 0, 0, 0⟩, rfl, rfl, (xa.refl _ _).alloc _⟩
 skip
 go_enter Tryz.func107, Tryz.ntmps107
 go_wp2_with fail
 refine bodyPost_ret (by simp [results, Tryz.results107, go_sem]; try rfl) rfl ?_
 rw [E.out]
 exact ⟨⟨1, 36, .slice none 0 0, 0, 0⟩, rfl, rfl, (xa.refl _ _).alloc _⟩
theorem xkM (r : Int) (t : List Int) (b off cap : Nat) (w : World) (h : ISl w (.slice (some ⟨b, off, none⟩) (t.length + 1) cap) (r :: t)) (hl : t.length ≤ 200) (hr : r = 42 ∨ r = 43 ∨ r = 63) : Calls Tryz.prog 107 #[.slice (some ⟨b, off, none⟩) (t.length + 1) cap] w fun e w' => TokE w (tokP (r :: t)) e w' := by
 obtain ⟨_, _, e1, hcap, hc⟩ := h.cells
 simp only [List.length_cons] at e1 hcap hc
 injection e1 with e1 _ e2
 subst e1 e2
 obtain ⟨_, _, e1, hcc⟩ := hc (by omega)
 injection e1 with e1
 injection e1 with e1 e2
 subst e1 e2
 obtain ⟨c0, c1, c2⟩ := hcc 0 r rfl
 simp only [Nat.add_zero] at c0
 have x0 := xad c0 (.cells #[.int .i64 0, .int .i64 0, .slice none 0 0, .int .i64 0, .int .i64 0] 218)
 have HCC := xoo hcc
 have HI := xoo h
 have HP := xoo (xaq r t)
 generalize tokP (r :: t) = P at *
 clear hc hcc c0 h
 rcases hr with rfl | rfl | rfl
 · have E : Hid (P = some (.ct 0 (-1), 1)) := xoo (by rw [HP.out]; rfl)
   clear HP HI HCC
   go_enter Tryz.func107, Tryz.ntmps107
   go_wp2_with fail
   refine bodyPost_ret (by simp [results, Tryz.results107, go_sem]; try rfl) rfl ?_
   rw [E.out]
   exact ⟨⟨2, 0, .slice none 0 0, 0, -1⟩, rfl, ⟨rfl, by unfold in64; omega, by unfold in64; omega⟩, (xa.refl _ _).alloc _⟩
 · have E : Hid (P = some (.ct 1 (-1), 1)) := xoo (by rw [HP.out]; rfl)
   clear HP HI HCC
   go_enter Tryz.func107, Tryz.ntmps107
   go_wp2_with fail
   refine bodyPost_ret (by simp [results, Tryz.results107, go_sem]; try rfl) rfl ?_
   rw [E.out]
   exact ⟨⟨2, 0, .slice none 0 0, 1, -1⟩, rfl, ⟨rfl, by unfold in64; omega, by unfold in64; omega⟩, (xa.refl _ _).alloc _⟩
 have E : Hid (P = some (.ct 0 (1), 1)) := xoo (by rw [HP.out]; rfl)
 clear HP HI HCC
 go_enter Tryz.func107, Tryz.ntmps107
 go_wp2_with fail
 refine bodyPost_ret (by simp [results, Tryz.results107, go_sem]; try rfl) rfl ?_
 rw [E.out]
 exact ⟨⟨2, 0, .slice none 0 0, 0, 1⟩, rfl, ⟨rfl, by unfold in64; omega, by unfold in64; omega⟩, (xa.refl _ _).alloc _⟩
theorem xjp (r : Int) (t : List Int) (b off cap : Nat) (w : World) (h : ISl w (.slice (some ⟨b, off, none⟩) (t.length + 1) cap) (r :: t)) (hl : t.length ≤ 200) (hr : r = 46) : Calls Tryz.prog 107 #[.slice (some ⟨b, off, none⟩) (t.length + 1) cap] w fun e w' => TokE w (tokP (r :: t)) e w' := by
 obtain ⟨_, _, e1, hcap, hc⟩ := h.cells
 simp only [List.length_cons] at e1 hcap hc
 injection e1 with e1 _ e2
 subst e1 e2
 obtain ⟨_, _, e1, hcc⟩ := hc (by omega)
 injection e1 with e1
 injection e1 with e1 e2
 subst e1 e2
 obtain ⟨c0, c1, c2⟩ := hcc 0 r rfl
 simp only [Nat.add_zero] at c0
 have x0 := xad c0 (.cells #[.int .i64 0, .int .i64 0, .slice none 0 0, .int .i64 0, .int .i64 0] 218)
 have HCC := xoo hcc
 have HI := xoo h
 have HP := xoo (xaq r t)
 generalize tokP (r :: t) = P at *
 clear hc hcc c0 h
 subst hr
 have E : Hid (P = some (.pt [(0, 9), (11, 1114111)], 1)) := xoo (by rw [HP.out]; rfl)
 clear HP HI HCC
 go_enter Tryz.func107, Tryz.ntmps107
 go_wp2_with fail
 refine bodyPost_ret (by simp [results, Tryz.results107, go_sem]; try rfl) rfl ?_
 rw [E.out]
 have h9 := xkP (w.alloc (.cells #[.int .i64 0, .int .i64 0, .slice (some ⟨w.heap.size + 1, 0, none⟩) 2 2, .int .i64 0, .int .i64 0] 218)) 0 9 11 1114111
 rw [show (w.alloc (.cells #[.int .i64 0, .int .i64 0, .slice (some ⟨w.heap.size + 1, 0, none⟩) 2 2, .int .i64 0, .int .i64 0] 218)).heap.size = w.heap.size + 1 by simp] at h9
 exact ⟨⟨0, 0, .slice (some ⟨w.heap.size + 1, 0, none⟩) 2 2, 0, 0⟩, rfl, xob (by simp) h9.1 (by simp) (by intro p hp; simp at hp; rcases hp with rfl | rfl <;> (unfold in64; decide)), ((xa.refl _ _).alloc _).alloc _⟩
theorem xkL (r : Int) (t : List Int) (b off cap : Nat) (w : World) (h : ISl w (.slice (some ⟨b, off, none⟩) (t.length + 1) cap) (r :: t)) (hl : t.length ≤ 200) (hr : r = 93 ∨ r = 125) : Calls Tryz.prog 107 #[.slice (some ⟨b, off, none⟩) (t.length + 1) cap] w fun e w' => TokE w (tokP (r :: t)) e w' := by
 obtain ⟨_, _, e1, hcap, hc⟩ := h.cells
 simp only [List.length_cons] at e1 hcap hc
 injection e1 with e1 _ e2
 subst e1 e2
 obtain ⟨_, _, e1, hcc⟩ := hc (by omega)
 injection e1 with e1
 injection e1 with e1 e2
 subst e1 e2
 obtain ⟨c0, c1, c2⟩ := hcc 0 r rfl
 simp only [Nat.add_zero] at c0
 have x0 := xad c0 (.cells #[.int .i64 0, .int .i64 0, .slice none 0 0, .int .i64 0, .int .i64 0] 218)
 have HCC := xoo hcc
 have HI := xoo h
 have HP := xoo (xaq r t)
 generalize tokP (r :: t) = P at *
 clear hc hcc c0 h
 have E : Hid (P = none) := xoo (by rw [HP.out]; rcases hr with rfl | rfl <;> rfl)
 clear HP HI HCC
 rcases hr with rfl | rfl
 · skip
   go_enter Tryz.func107, Tryz.ntmps107
   go_wp2_with fail
   refine bodyPost_ret (by simp [results, Tryz.results107, go_sem]; try rfl) rfl ?_
   rw [E.out]
   exact ⟨rfl, (xa.refl _ _).alloc _⟩
 skip
 go_enter Tryz.func107, Tryz.ntmps107
 go_wp2_with fail
 refine bodyPost_ret (by simp [results, Tryz.results107, go_sem]; try rfl) rfl ?_
 rw [E.out]
 exact ⟨rfl, (xa.refl _ _).alloc _⟩
theorem Norm.len {l : List (Int × Int)} (h : Norm l) : l.length ≤ 4611686018427387904 := by
 have h2 : ∀ l : List (Int × Int), Norm l → (l.length : Int) ≤ sumR l := by
  intro l
  induction l with
  | nil => intro _; simp [sumR]
  | cons p l ih => intro h; have h3 := h.rng p (by simp); have h4 := ih h.tail; rw [xek]; simp only [List.length_cons]; push_cast; omega
 have := h2 l h
 have := (xej l h).2
 omega
theorem Norm.in64 {l : List (Int × Int)} (h : Norm l) : ∀ p ∈ l, in64 p.1 ∧ in64 p.2 := fun p hp => by
 have := h.rng p hp; unfold Go.Proofs.YtbifklibdkjbeaaGreatDoor.in64; omega
theorem xn8 {w w3 : World} {o : Obj} {u : Value} {L : List (Int × Int)} (h : w3.ownsRow (w.alloc o).heap.size 287 2 u L.length (cellsOf 2 encR L)) (hl : L.length ≤ 4611686018427387904) (hr : ∀ p ∈ L, in64 p.1 ∧ in64 p.2) :
 KAt w3 (fun b => w.heap.size < b ∧ b < w3.heap.size) ⟨0, 0, u, 0, 0⟩ (.pt L) :=
 (KAt.pt h hl hr).keepsTo (xa.refl (fun _ => False) _) (fun _ _ => id) (fun b hb => ⟨by have := hb.1; simp at this; omega, hb.2⟩)
theorem xkO (r : Int) (t : List Int) (b off cap : Nat) (w : World) (h : ISl w (.slice (some ⟨b, off, none⟩) (t.length + 1) cap) (r :: t)) (hl : t.length ≤ 200) (hr : r = 123) : Calls Tryz.prog 107 #[.slice (some ⟨b, off, none⟩) (t.length + 1) cap] w fun e w' => TokE w (tokP (r :: t)) e w' := by
 obtain ⟨_, _, e1, hcap, hc⟩ := h.cells
 simp only [List.length_cons] at e1 hcap hc
 injection e1 with e1 _ e2
 subst e1 e2
 obtain ⟨_, _, e1, hcc⟩ := hc (by omega)
 injection e1 with e1
 injection e1 with e1 e2
 subst e1 e2
 obtain ⟨c0, c1, c2⟩ := hcc 0 r rfl
 simp only [Nat.add_zero] at c0
 have x0 := xad c0 (.cells #[.int .i64 0, .int .i64 0, .slice none 0 0, .int .i64 0, .int .i64 0] 218)
 have HCC := xoo hcc
 have HI := xoo h
 have HP := xoo (xaq r t)
 generalize tokP (r :: t) = P at *
 clear hc hcc c0 h
 subst hr
 have HP2 : Hid (P = (brP t).map fun p => (.ct p.1 p.2.1, p.2.2 + 1)) := xoo (by rw [HP.out]; rfl)
 clear HP HCC
 have hI4 : (1 : Int) ≤ (t.length : Int) + 1 := by omega
 have hI5 : (1 : Int) ≤ (cap : Int) := by omega
 by_cases hcp : cap = 1
 · subst hcp
   obtain rfl : t = [] := List.length_eq_zero_iff.1 (by omega)
   have E : Hid (P = none) := xoo HP2.out
   have HB := xoo (fun W (K : xa (fun _ => False) w W) => xeu [] (.slice (some ⟨b, off, none⟩) 0 0) W (by simp) ⟨⟨_, 0, rfl, ⟨Nat.le_refl _, (fun h => by cases h)⟩, by simp, fun h => by simp at h⟩, fun r hr => by cases hr⟩)
   rw [show brV (brP []) = .tuple #[tokV 0 0 (.slice none 0 0) 0 0, .int .i64 0] from rfl] at HB
   clear HP2 HI
   simp only [List.length_nil] at *
   go_enter Tryz.func107, Tryz.ntmps107
   go_wp2_with fail
   refine (HB.out _ (xa.alloc (xa.refl _ _) _)).mono ?_
   rintro e w3 ⟨rfl, K⟩
   have K3 := xoo (K.alloc (.cells #[.int .i64 0, .int .i64 0, .slice none 0 0, .int .i64 0, .int .i64 0] 218))
   obtain ⟨⟨y0, y1, y2, y3, y4⟩, q0, q1, q2, q3, q4⟩ := xbl K3.out
   clear K
   unfold tokV
   go_wp2_with fail
   obtain ⟨wE, hWE⟩ : ∃ W, st5 (w3.alloc (.cells #[.int .i64 0, .int .i64 0, .slice none 0 0, .int .i64 0, .int .i64 0] 218)) w.heap.size (.int .i64 0) (.int .i64 0) (.slice none 0 0) (.int .i64 0) (.int .i64 0) = W := ⟨_, rfl⟩
   obtain ⟨r0, r1, r2, r3, r4, kE⟩ := xam (w3.alloc (.cells #[.int .i64 0, .int .i64 0, .slice none 0 0, .int .i64 0, .int .i64 0] 218)) w.heap.size y0 y1 y2 y3 y4 (.int .i64 0) (.int .i64 0) (.slice none 0 0) (.int .i64 0) (.int .i64 0)
   rw [hWE] at r0 r1 r2 r3 r4 kE
   unfold st5 at hWE
   rw [hWE]
   have HKE := xoo kE
   clear kE hWE y0 y1 y2 y3 y4
   refine bodyPost_ret (by simp [results, Tryz.results107, go_sem, r0, r1, r2, r3, r4]; try rfl) rfl ?_
   rw [E.out]
   exact xdd K3.out HKE.out
 have hI6 : ¬ (cap : Int) = 1 := by omega
 have HB := xoo (fun W (K : xa (fun _ => False) w W) => xeu t _ W (by omega) ((HI.out.keep K).dropI 1 (by omega) hcp))
 cases hb : brP t with
 | none =>
  have E : Hid (P = none) := xoo (by rw [HP2.out, hb]; rfl)
  rw [hb] at HB
  simp only [brV] at HB
  clear HP2 HI hb
  go_enter Tryz.func107, Tryz.ntmps107
  go_wp2_with fail
  refine (HB.out _ (xa.alloc (xa.refl _ _) _)).mono ?_
  rintro e w3 ⟨rfl, K⟩
  have K3 := xoo (K.alloc (.cells #[.int .i64 0, .int .i64 0, .slice none 0 0, .int .i64 0, .int .i64 0] 218))
  obtain ⟨⟨y0, y1, y2, y3, y4⟩, q0, q1, q2, q3, q4⟩ := xbl K3.out
  clear K
  unfold tokV
  go_wp2_with fail
  obtain ⟨wE, hWE⟩ : ∃ W, st5 (w3.alloc (.cells #[.int .i64 0, .int .i64 0, .slice none 0 0, .int .i64 0, .int .i64 0] 218)) w.heap.size (.int .i64 0) (.int .i64 0) (.slice none 0 0) (.int .i64 0) (.int .i64 0) = W := ⟨_, rfl⟩
  obtain ⟨r0, r1, r2, r3, r4, kE⟩ := xam (w3.alloc (.cells #[.int .i64 0, .int .i64 0, .slice none 0 0, .int .i64 0, .int .i64 0] 218)) w.heap.size y0 y1 y2 y3 y4 (.int .i64 0) (.int .i64 0) (.slice none 0 0) (.int .i64 0) (.int .i64 0)
  rw [hWE] at r0 r1 r2 r3 r4 kE
  unfold st5 at hWE
  rw [hWE]
  have HKE := xoo kE
  clear kE hWE y0 y1 y2 y3 y4
  refine bodyPost_ret (by simp [results, Tryz.results107, go_sem, r0, r1, r2, r3, r4]; try rfl) rfl ?_
  rw [E.out]
  exact xdd K3.out HKE.out
 | some q =>
  obtain ⟨m, x, k⟩ := q
  have hk1 := (xe1 hb).1
  have hk2 := (xe1 hb).2.1
  have HR := xoo (brP_rng hb)
  have gk : ((k : Int) == 0) = false := beq_eq_false_iff_ne.2 (by omega)
  have E : Hid (P = some (.ct m x, k + 1)) := xoo (by rw [HP2.out, hb]; rfl)
  rw [hb] at HB
  simp only [brV] at HB
  clear HP2 HI hb
  go_enter Tryz.func107, Tryz.ntmps107
  go_wp2_with fail
  refine (HB.out _ (xa.alloc (xa.refl _ _) _)).mono ?_
  rintro e w3 ⟨rfl, K⟩
  have K3 := xoo (K.alloc (.cells #[.int .i64 2, .int .i64 0, .slice none 0 0, .int .i64 m, .int .i64 x] 218))
  obtain ⟨⟨y0, y1, y2, y3, y4⟩, q0, q1, q2, q3, q4⟩ := xbl K3.out
  clear K
  unfold tokV
  go_wp2_with fail
  obtain ⟨wE, hWE⟩ : ∃ W, st5 (w3.alloc (.cells #[.int .i64 2, .int .i64 0, .slice none 0 0, .int .i64 m, .int .i64 x] 218)) w.heap.size (.int .i64 2) (.int .i64 0) (.slice none 0 0) (.int .i64 m) (.int .i64 x) = W := ⟨_, rfl⟩
  obtain ⟨r0, r1, r2, r3, r4, kE⟩ := xam (w3.alloc (.cells #[.int .i64 2, .int .i64 0, .slice none 0 0, .int .i64 m, .int .i64 x] 218)) w.heap.size y0 y1 y2 y3 y4 (.int .i64 2) (.int .i64 0) (.slice none 0 0) (.int .i64 m) (.int .i64 x)
  rw [hWE] at r0 r1 r2 r3 r4 kE
  unfold st5 at hWE
  rw [hWE]
  have HKE := xoo kE
  clear kE hWE y0 y1 y2 y3 y4
  refine bodyPost_ret (by simp [results, Tryz.results107, go_sem, r0, r1, r2, r3, r4]; try rfl) rfl ?_
  rw [E.out]
  exact xei (v := ⟨2, 0, .slice none 0 0, m, x⟩) K3.out ⟨rfl, HR.out⟩ HKE.out
theorem xkN (r : Int) (t : List Int) (b off cap : Nat) (w : World) (h : ISl w (.slice (some ⟨b, off, none⟩) (t.length + 1) cap) (r :: t)) (hl : t.length ≤ 200) (HCL : xmI) (hr : r = 91) : Calls Tryz.prog 107 #[.slice (some ⟨b, off, none⟩) (t.length + 1) cap] w fun e w' => TokE w (tokP (r :: t)) e w' := by
 obtain ⟨_, _, e1, hcap, hc⟩ := h.cells
 simp only [List.length_cons] at e1 hcap hc
 injection e1 with e1 _ e2
 subst e1 e2
 obtain ⟨_, _, e1, hcc⟩ := hc (by omega)
 injection e1 with e1
 injection e1 with e1 e2
 subst e1 e2
 obtain ⟨c0, c1, c2⟩ := hcc 0 r rfl
 simp only [Nat.add_zero] at c0
 have x0 := xad c0 (.cells #[.int .i64 0, .int .i64 0, .slice none 0 0, .int .i64 0, .int .i64 0] 218)
 have HCC := xoo hcc
 have HI := xoo h
 have HP := xoo (xaq r t)
 generalize tokP (r :: t) = P at *
 clear hc hcc c0 h
 subst hr
 have HP2 : Hid (P = (clP t).map fun p => (.pt p.1, p.2 + 1)) := xoo (by rw [HP.out]; rfl)
 clear HP HCC
 have hI4 : (1 : Int) ≤ (t.length : Int) + 1 := by omega
 have hI5 : (1 : Int) ≤ (cap : Int) := by omega
 by_cases hcp : cap = 1
 · subst hcp
   obtain rfl : t = [] := List.length_eq_zero_iff.1 (by omega)
   have E : Hid (P = none) := xoo HP2.out
   have HB := xoo (fun W (K : xa (fun _ => False) w W) => HCL [] b off 0 W ⟨⟨_, 0, rfl, ⟨Nat.le_refl _, (fun h => by cases h)⟩, by simp, fun h => by simp at h⟩, fun r hr => by cases hr⟩ (by simp))
   rw [show clP [] = none from rfl] at HB
   clear HP2 HI
   simp only [List.length_nil] at *
   go_enter Tryz.func107, Tryz.ntmps107
   go_wp2_with fail
   refine (HB.out _ (xa.alloc (xa.refl _ _) _)).mono ?_
   rintro e w3 ⟨rfl, K⟩
   have K3 := xoo K
   clear K
   obtain ⟨⟨y0, y1, y2, y3, y4⟩, q0, q1, q2, q3, q4⟩ := xbl K3.out
   go_wp2_with fail
   obtain ⟨wE, hWE⟩ : ∃ W, st5 (w3) w.heap.size (.int .i64 0) (.int .i64 0) (.slice none 0 0) (.int .i64 0) (.int .i64 0) = W := ⟨_, rfl⟩
   obtain ⟨r0, r1, r2, r3, r4, kE⟩ := xam (w3) w.heap.size y0 y1 y2 y3 y4 (.int .i64 0) (.int .i64 0) (.slice none 0 0) (.int .i64 0) (.int .i64 0)
   rw [hWE] at r0 r1 r2 r3 r4 kE
   unfold st5 at hWE
   rw [hWE]
   have HKE := xoo kE
   clear kE hWE y0 y1 y2 y3 y4
   refine bodyPost_ret (by simp [results, Tryz.results107, go_sem, r0, r1, r2, r3, r4]; try rfl) rfl ?_
   rw [E.out]
   exact xdd K3.out HKE.out
 have hI6 : ¬ (cap : Int) = 1 := by omega
 have HB := xoo (fun W (K : xa (fun _ => False) w W) => HCL t _ _ _ W ((HI.out.keep K).dropI 1 (by omega) hcp) (by omega))
 cases hb : clP t with
 | none =>
  have E : Hid (P = none) := xoo (by rw [HP2.out, hb]; rfl)
  rw [hb] at HB
  clear HP2 HI hb
  go_enter Tryz.func107, Tryz.ntmps107
  go_wp2_with fail
  refine (HB.out _ (xa.alloc (xa.refl _ _) _)).mono ?_
  rintro e w3 ⟨rfl, K⟩
  have K3 := xoo K
  clear K
  obtain ⟨⟨y0, y1, y2, y3, y4⟩, q0, q1, q2, q3, q4⟩ := xbl K3.out
  go_wp2_with fail
  obtain ⟨wE, hWE⟩ : ∃ W, st5 (w3) w.heap.size (.int .i64 0) (.int .i64 0) (.slice none 0 0) (.int .i64 0) (.int .i64 0) = W := ⟨_, rfl⟩
  obtain ⟨r0, r1, r2, r3, r4, kE⟩ := xam (w3) w.heap.size y0 y1 y2 y3 y4 (.int .i64 0) (.int .i64 0) (.slice none 0 0) (.int .i64 0) (.int .i64 0)
  rw [hWE] at r0 r1 r2 r3 r4 kE
  unfold st5 at hWE
  rw [hWE]
  have HKE := xoo kE
  clear kE hWE y0 y1 y2 y3 y4
  refine bodyPost_ret (by simp [results, Tryz.results107, go_sem, r0, r1, r2, r3, r4]; try rfl) rfl ?_
  rw [E.out]
  exact xdd K3.out HKE.out
 | some q =>
  obtain ⟨s, k⟩ := q
  have hk1 := (xeV hb).1
  have hk2 := (xeV hb).2.1
  have HN := xoo (xnK hb)
  have gk : ((k : Int) == 0) = false := beq_eq_false_iff_ne.2 (by omega)
  have E : Hid (P = some (.pt s, k + 1)) := xoo (by rw [HP2.out, hb]; rfl)
  rw [hb] at HB
  clear HP2 HI hb
  go_enter Tryz.func107, Tryz.ntmps107
  go_wp2_with fail
  refine (HB.out _ (xa.alloc (xa.refl _ _) _)).mono ?_
  rintro e w3 ⟨u, rfl, hu⟩
  have K3 := xoo hu.2
  have HU := xoo hu.1
  obtain ⟨ua, uc, rfl⟩ := xac hu.1
  clear hu
  obtain ⟨⟨y0, y1, y2, y3, y4⟩, q0, q1, q2, q3, q4⟩ := xbl K3.out
  go_wp2_with fail
  obtain ⟨wE, hWE⟩ : ∃ W, st5 (w3) w.heap.size (.int .i64 0) (.int .i64 0) (.slice ua s.length uc) (.int .i64 0) (.int .i64 0) = W := ⟨_, rfl⟩
  obtain ⟨r0, r1, r2, r3, r4, kE⟩ := xam (w3) w.heap.size y0 y1 y2 y3 y4 (.int .i64 0) (.int .i64 0) (.slice ua s.length uc) (.int .i64 0) (.int .i64 0)
  rw [hWE] at r0 r1 r2 r3 r4 kE
  unfold st5 at hWE
  rw [hWE]
  have HKE := xoo kE
  clear kE hWE y0 y1 y2 y3 y4
  refine bodyPost_ret (by simp [results, Tryz.results107, go_sem, r0, r1, r2, r3, r4]; try rfl) rfl ?_
  rw [E.out]
  exact xei (v := ⟨0, 0, .slice ua s.length uc, 0, 0⟩) K3.out (xn8 HU.out HN.out.len HN.out.in64) HKE.out
end Go.Proofs.YtbifklibdkjbeaaGreatDoor
