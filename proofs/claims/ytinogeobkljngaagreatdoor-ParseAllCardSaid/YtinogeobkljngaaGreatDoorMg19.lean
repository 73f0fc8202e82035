/-
  Several texts in one: strings.Join over a row of texts that the call owns; strconv.Itoa where its table lies. The walks of ranges, shown, Show.
-/
import Derived.Test.YtinogeobkljngaaGreatDoorMg18
import Derived.Test.YtinogeobkljngaaGreatDoorShelf
import Derived.Lib.SmallJoins
import Derived.Lib.AppendIntMem
import Derived.Test.YtinogeobkljngaaGreatDoorMg13
import Derived.Deep.RegionHeld3
import Derived.BigRegion
section
namespace Go.Proofs.YtinogeobkljngaaGreatDoor
open Go.RowKit
open Go.Sort (grow)
set_option linter.unusedVariables false
set_option linter.unusedSimpArgs false
set_option maxRecDepth 100000

/-- The table of powers of ten lies in the world. -/
def TabW (w : World) : Prop := Lib.TabIs Tryz.prog w "internal/strconv.uint64pow10" .u64 Lib.pow10Tab
theorem tab_named : Tryz.prog.globalNamed "internal/strconv.uint64pow10" = some 0 := by kernel_rfl
theorem TabW.keeps {w w' : World} (h : TabW w) (K : Keeps (fun _ => False) w w') : TabW w' := Go.Joins.tab_stays tab_named h K.belowAll (Nat.le_refl _)
theorem keeps_grow (w : World) (os : Array Obj) (k : Nat) : Keeps (fun _ => False) w (grow (w.drewN k) os) := 
  Keeps.ofBelowAll (Lib.below_grow _ w (Nat.le_refl _) k os) _
theorem itoa_any (n : Int) (w : World) (h : in64 n) (ht : TabW w) : Calls Tryz.prog 17 #[.int .i64 n] w fun e w' => e = .returned (strL (Lib.itoa n)) ∧ Keeps (fun _ => False) w w' :=
  (Tryz.strconv_Itoa n h.1 h.2 w ht).mono fun e w' ⟨h1, k, os, h2⟩ => ⟨h1, by rw [h2]; exact keeps_grow _ _ _⟩
theorem joinOwn_any (v : Value) (base : Nat) (xs : List (List UInt8)) (sep : List UInt8) (w : World) (h : w.ownsRow base 9 1 v xs.length (xs.map strL)) (hN : xs.length ≤ 1000000) (hlen : (Lib.join xs sep).length ≤ 100000000) :
    Calls Tryz.prog 30 #[v, strL sep] w fun e w' => e = .returned (strL (Lib.join xs sep)) ∧ Keeps (fun _ => False) w w' := by
  rcases h.2 with ⟨rfl, h0⟩ | ⟨g, cap, cur, rfl, hg, hh, hn, hcap, _⟩
  · obtain rfl : xs = [] := List.length_eq_zero_iff.1 h0
    exact (Tryz.strings_Join_none _ _ _ _).mono (fun e w' ⟨h1, h2⟩ => ⟨by rw [h1]; rfl, by rw [h2]; exact Keeps.refl _ _⟩)
  · have hcells := h.cellAt
    have hc : ∀ (j : Nat) (x : List UInt8), xs[j]? = some x → w.cell? ⟨g, j, none⟩ = some (strL x) := fun j x hx => by
      have h1 := hcells j (by have := (List.getElem?_eq_some_iff.1 hx).1; omega)
      rw [List.getElem?_map, hx] at h1
      exact h1
    have hj : (xs.map fun l => (⟨l.toArray⟩ : ByteArray)).map (·.data.toList) = xs := by
      rw [List.map_map, show ((fun x : ByteArray => x.data.toList) ∘ fun l : List UInt8 => (⟨l.toArray⟩ : ByteArray)) = id from rfl, List.map_id]
    have := Tryz.strings_Join g 0 cap (xs.map fun l => (⟨l.toArray⟩ : ByteArray)) ⟨sep.toArray⟩ w (fun j x hx => by
        rw [List.getElem?_map] at hx
        cases hy : xs[j]? with
        | none => rw [hy] at hx; simp at hx
        | some y =>
          rw [hy] at hx
          have hx := Option.some.inj hx
          subst hx
          rw [Nat.zero_add]; exact hc j y hy) (Array.getElem?_eq_some_iff.1 hh).1 (by simp; omega) (by simpa using hn) (by rw [hj]; exact Nat.le_trans hlen (by omega))
    rw [hj, List.length_map] at this
    exact this.mono (fun e w' ⟨h1, h2⟩ => ⟨h1, Keeps.ofBelowAll h2 _⟩)
end Go.Proofs.YtinogeobkljngaaGreatDoor
end
section
namespace Go.Proofs.YtinogeobkljngaaGreatDoor
open Go.RowKit
set_option linter.unusedVariables false
set_option linter.unusedSimpArgs false
set_option maxRecDepth 100000

theorem info_strS : (Tryz.prog.info? 9).map (fun i => (i.zero, i.size, i.bytes)) = some (some (.string ⟨#[]⟩), 1, 16) := by kernel_rfl
theorem own_keep {w w' : World} {base : Nat} {e : TypeId} {size : Nat} {v : Value} {n : Nat} {xs : List Value} (h : w.ownsRow base e size v n xs) (K : Keeps (fun _ => False) w w') : w'.ownsRow base e size v n xs := by
  refine ⟨h.1, ?_⟩
  rcases h.2 with h0 | ⟨g, cap, cur, rfl, hg, hh, hr⟩
  · exact Or.inl h0
  · exact Or.inr ⟨g, cap, cur, rfl, hg, K.heap hh id, hr⟩
theorem own_end {w wr w3 : World} (h : Keeps (fun _ => False) w wr) (k : Keeps (fun b => w.heap.size ≤ b) wr w3) : Keeps (fun _ => False) w w3 :=
  h.trans2 k (fun i hi e => by omega)
theorem own_snoc {w w9 : World} {v : Value} {xs : List (List UInt8)} {x : List UInt8} (h : w9.ownsRow w.heap.size 9 1 v (xs.length + 1) (xs.map strL ++ [strL x])) : w9.ownsRow w.heap.size 9 1 v (xs ++ [x]).length ((xs ++ [x]).map strL) := by
  simpa using h

set_option maxHeartbeats 4000000 in
theorem ranges_any (l : List (Int × Int)) (v : Value) (w : World) (h : RSl w v l) (ht : TabW w) (hl : (rangesS l).length ≤ 900000) :
    Calls Tryz.prog 15 #[v] w fun e w' => e = .returned (strL (rangesS l)) ∧ Keeps (fun _ => False) w w' := by
  obtain ⟨i0, hi0, hz0, hz1, hz2⟩ := info_parts info_strS
  obtain ⟨a, cap, rfl, hlen, hcl⟩ := h.cells
  have HC := Lib.hid hcl
  have HT := Lib.hid ht
  have hjl : (Lib.join (l.map rangeS) [32]).length ≤ 900000 := by unfold rangesS at hl; simp at hl; omega
  have hcnt : l.length ≤ 900001 := by have := join_count (l.map rangeS) [32] (by simp); rw [List.length_map] at this; omega
  have HJ := Lib.hid hjl
  have HR : Hid (rangesS l = 123 :: (Lib.join (l.map rangeS) [32] ++ [125])) := Lib.hid rfl
  clear hcl h ht hl hjl
  generalize rangesS l = RS at *
  go_enter Tryz.func15, Tryz.ntmps15
  go_wp2_with fail
  go_loopw [9, 3] (fun iv ov wr => ∃ i : Nat, iv = .int .i64 i ∧ i ≤ l.length ∧ wr.ownsRow w.heap.size 9 1 ov ((l.take i).map rangeS).length (((l.take i).map rangeS).map strL) ∧ Keeps (fun _ => False) w wr) (fun iv _ _ => l.length - (intOf iv).toNat)
  case atStart => exact ⟨0, rfl, Nat.zero_le _, World.ownsRow_nil _ _ _ _, Keeps.refl _ _⟩
  case round =>
    obtain ⟨i, rfl, hi, hown, hk⟩ := hrel
    have OW := Lib.hid hown
    have K := Lib.hid hk
    clear hown hk
    by_cases hil : i < l.length
    · obtain ⟨b, off, rfl, hcc⟩ := HC.out (by omega)
      obtain ⟨p, hp⟩ : ∃ p, l[i]? = some p := ⟨_, List.getElem?_eq_getElem hil⟩
      obtain ⟨c0, c1, d0, d1⟩ := hcc i p hp
      have y0 := K.out.cell c0 id
      have y1 := K.out.cell c1 id
      have hlt : b < wr.heap.size := lt_of_cell y0
      have hxl : ((l.take i).map rangeS).length ≤ 900001 := by simp; omega
      have HTK : Hid ((l.take (i + 1)).map rangeS = (l.take i).map rangeS ++ [rangeS p]) := Lib.hid (by rw [take_one hp, List.map_append]; rfl)
      have HP : Hid (rangeS p = if p.2 = p.1 then Lib.itoa p.1 else Lib.itoa p.1 ++ 45 :: Lib.itoa p.2) := Lib.hid rfl
      obtain ⟨p1, p2⟩ := p
      have ka : Keeps (fun _ => False) w (wr.alloc (.cells #[.int .i64 p1, .int .i64 p2] 61)) := K.out.alloc _
      have ka1 : Keeps (fun _ => False) wr (wr.alloc (.cells #[.int .i64 p1, .int .i64 p2] 61)) := (Keeps.refl _ _).alloc _
      have z0 : (wr.alloc (.cells #[.int .i64 p1, .int .i64 p2] 61)).cell? ⟨wr.heap.size, 0, none⟩ = some (.int .i64 p1) := by simp [go_sem]
      have z1 : (wr.alloc (.cells #[.int .i64 p1, .int .i64 p2] 61)).cell? ⟨wr.heap.size, 1, none⟩ = some (.int .i64 p2) := by simp [go_sem]
      have HI := Lib.hid (fun W (K : Keeps (fun _ => False) (wr.alloc (.cells #[.int .i64 p1, .int .i64 p2] 61)) W) => itoa_any p1 W d0 ((HT.out.keeps ka).keeps K))
      have HI2 := Lib.hid (fun W (K : Keeps (fun _ => False) (wr.alloc (.cells #[.int .i64 p1, .int .i64 p2] 61)) W) => itoa_any p2 W d1 ((HT.out.keeps ka).keeps K))
      have q1 := (itoa_len p1 d0).1
      have q2 := (itoa_len p2 d1).1
      have KA := Lib.hid ka1
      have Z0 := Lib.hid z0
      have Z1 := Lib.hid z1
      clear hcc hp c0 c1 ka ka1 z0 z1
      generalize (l.take i).map rangeS = XS at *
      generalize rangeS (p1, p2) = RP at *
      simp only at HP y0 y1
      generalize Lib.itoa p1 = I1 at *
      generalize Lib.itoa p2 = I2 at *
      by_cases hpp : p2 = p1
      · have hpe : (p2 != p1) = false := by simpa using hpp
        have e1 : RP = I1 := by rw [HP.out, if_pos hpp]
        subst e1
        clear hpp
        go_wp2_with fail
        refine (HI.out _ (Keeps.refl _ _)).mono ?_
        rintro e w2 ⟨rfl, k2⟩
        have x0 := k2.cell Z0.out id
        have x1 := k2.cell Z1.out id
        have KK : Hid (Keeps (fun _ => False) wr w2) := Lib.hid (KA.out.trans k2)
        clear k2
        unfold strL
        go_wp2_with (at_builtin; refine wpList_append_own _ rfl (.tmp 27) (.tmp 29) 67 rfl w.heap.size 9 i0 (.string ⟨#[]⟩) 1 16 Tryz.underlying67 hi0 hz0 hz1 hz2 rfl (by decide) _ _ _ rfl ((own_keep OW.out KK.out).alloc _) ⟨w2.heap.size, 0, none⟩ 1 1 [strL RP] rfl rfl (by exact cells_new _ [_] _) (by intro u hu; simp at hu; subst hu; rfl) ?d3 ?d4 ?d5 ?_)
        case d3 => unfold maxLen; omega
        case d4 => omega
        case d5 => have := KK.out.size; have := K.out.size; simp; omega
        intro v' w3 hown' hgrow _
        have hk3 : Keeps (fun b => w.heap.size ≤ b) wr w3 := ((KK.out.mono (fun _ _ e => e.elim)).alloc (.cells #[strL RP] 9)).grown hgrow (fun b hb => Or.inl (ownBlock_base OW.out b hb))
        have K3 : Hid (Keeps (fun _ => False) w w3) := Lib.hid (own_end K.out hk3)
        have O3 := Lib.hid (own_snoc hown')
        clear hown' hgrow hk3
        go_wp2_with fail
        go_roundw
        case rel => exact ⟨i + 1, by go_num, by omega, by rw [HTK.out]; exact O3.out, K3.out⟩
        case measure => simp [intOf]; omega
      · have hpe : (p2 != p1) = true := by simpa using hpp
        have e1 : RP = I1 ++ 45 :: I2 := by rw [HP.out, if_neg hpp]
        clear hpp
        have E1 := Lib.hid e1
        clear e1
        go_wp2_with fail
        refine (HI.out _ (Keeps.refl _ _)).mono ?_
        rintro e w2 ⟨rfl, k2⟩
        have x0 := k2.cell Z0.out id
        have x1 := k2.cell Z1.out id
        have K2 := Lib.hid k2
        clear k2
        unfold strL
        go_wp2_with fail
        refine (HI2.out _ K2.out).mono ?_
        rintro e w4 ⟨rfl, k4⟩
        have KK : Hid (Keeps (fun _ => False) wr w4) := Lib.hid ((KA.out.trans K2.out).trans k4)
        clear k4
        unfold strL
        go_wp2_with (at_builtin; refine wpList_append_own _ rfl (.tmp 27) (.tmp 29) 67 rfl w.heap.size 9 i0 (.string ⟨#[]⟩) 1 16 Tryz.underlying67 hi0 hz0 hz1 hz2 rfl (by decide) _ _ _ rfl ((own_keep OW.out KK.out).alloc _) ⟨w4.heap.size, 0, none⟩ 1 1 [strL (I1 ++ 45 :: I2)] rfl rfl (by exact cells_new _ [_] _) (by intro u hu; simp at hu; subst hu; rfl) ?d3 ?d4 ?d5 ?_)
        case d3 => unfold maxLen; omega
        case d4 => omega
        case d5 => have := KK.out.size; have := K.out.size; simp; omega
        intro v' w3 hown' hgrow _
        have hk3 : Keeps (fun b => w.heap.size ≤ b) wr w3 := ((KK.out.mono (fun _ _ e => e.elim)).alloc (.cells #[strL (I1 ++ 45 :: I2)] 9)).grown hgrow (fun b hb => Or.inl (ownBlock_base OW.out b hb))
        have K3 : Hid (Keeps (fun _ => False) w w3) := Lib.hid (own_end K.out hk3)
        have O3 := Lib.hid (own_snoc hown')
        clear hown' hgrow hk3
        go_wp2_with fail
        go_roundw
        case rel => exact ⟨i + 1, by go_num, by omega, by rw [HTK.out, E1.out]; exact O3.out, K3.out⟩
        case measure => simp [intOf]; omega
    · have he : i = l.length := by omega
      subst he
      have O2 : Hid (wr.ownsRow w.heap.size 9 1 u3 (l.map rangeS).length ((l.map rangeS).map strL)) := Lib.hid (by have := OW.out; rwa [List.take_length] at this)
      have HN : Hid ((l.map rangeS).length ≤ 1000000) := Lib.hid (by rw [List.length_map]; omega)
      generalize l.map rangeS = XS at *
      go_wp2_with fail
      refine (joinOwn_any _ _ XS [32] _ O2.out HN.out (by have := HJ.out; omega)).mono ?_
      rintro e w2 ⟨rfl, k2⟩
      have K2 := Lib.hid k2
      have hjl := HJ.out
      clear k2
      unfold strL
      generalize Lib.join XS [32] = J at *
      go_wp2_with fail
      go_ret
      exact ⟨by rw [HR.out]; rfl, K.out.trans K2.out⟩

def ShowC (t : T) : Prop := ∀ (P : Nat → Prop) (v : NV) (w : World), TAt w P v t → TabW w → (showT t).length ≤ 900000 →
    Calls Tryz.prog 8 #[v.val] w fun e w' => e = .returned (strL (showT t)) ∧ Keeps (fun _ => False) w w'
set_option maxHeartbeats 4000000 in
theorem shown_any (P : Nat → Prop) (L : List T) (a : Option Addr) (c : Nat) (w : World) (ha : KRow w P a L) (hl : L.length ≤ 4611686018427387904) (ht : TabW w)
    (hj : (Lib.join (L.map showT) [44]).length ≤ 900000) (ih : ∀ (i : Nat) (k : T), L[i]? = some k → ShowC k) :
    Calls Tryz.prog 16 #[.slice a L.length c] w fun e w' => e = .returned (strL (shownS (L.map showT))) ∧ Keeps (fun _ => False) w w' := by
  obtain ⟨i0, hi0, hz0, hz1, hz2⟩ := info_parts info_strS
  have IH := Lib.hid ih
  have HA := Lib.hid ha
  have HT := Lib.hid ht
  have hcnt : L.length ≤ 900001 := by have := join_count (L.map showT) [44] (by simp); rw [List.length_map] at this; omega
  have HJ := Lib.hid hj
  have HR : Hid (shownS (L.map showT) = 40 :: (Lib.join (L.map showT) [44] ++ [41])) := Lib.hid rfl
  clear ih ha ht hj
  generalize shownS (L.map showT) = RS at *
  go_enter Tryz.func16, Tryz.ntmps16
  go_wp2_with fail
  go_loopw [8, 3] (fun iv ov wr => ∃ i : Nat, iv = .int .i64 i ∧ i ≤ L.length ∧ wr.ownsRow w.heap.size 9 1 ov ((L.take i).map showT).length (((L.take i).map showT).map strL) ∧ Keeps (fun _ => False) w wr) (fun iv _ _ => L.length - (intOf iv).toNat)
  case atStart => exact ⟨0, rfl, Nat.zero_le _, World.ownsRow_nil _ _ _ _, Keeps.refl _ _⟩
  case round =>
    obtain ⟨i, rfl, hi, hown, hk⟩ := hrel
    have OW := Lib.hid hown
    have K := Lib.hid hk
    clear hown hk
    by_cases hil : i < L.length
    · obtain ⟨k, hki⟩ : ∃ k, L[i]? = some k := ⟨_, List.getElem?_eq_getElem hil⟩
      obtain ⟨b, off, uo, d1, f1, g1, um, ux, d2, f2, g2, rfl, hu, hlt, x0, x1, x2, x3, x4⟩ := (HA.out.keep K.out).at hki
      have hxl : ((L.take i).map showT).length ≤ 900001 := by simp; omega
      have HTK : Hid ((L.take (i + 1)).map showT = (L.take i).map showT ++ [showT k]) := Lib.hid (by rw [take_one hki, List.map_append]; rfl)
      have hsl : (showT k).length ≤ 900000 := Nat.le_trans (join_item (L.map showT) [44] (showT k) (List.mem_map_of_mem (List.mem_of_getElem? hki))) HJ.out
      have HS : Hid (∀ W, Keeps (fun _ => False) wr W → Calls Tryz.prog 8 #[.agg #[.int .i64 uo, .slice d1 f1 g1, .int .i64 um, .int .i64 ux, .slice d2 f2 g2]] W fun e w' => e = .returned (strL (showT k)) ∧ Keeps (fun _ => False) W w') := Lib.hid (fun W kW =>
        IH.out i k hki P ⟨uo, .slice d1 f1 g1, um, ux, .slice d2 f2 g2⟩ W (hu.keepsTo kW (fun _ _ => id) (fun _ h => h)) (HT.out.keeps (K.out.trans kW)) hsl)
      clear hki hu
      generalize (L.take i).map showT = XS at *
      generalize showT k = RP at *
      go_wp2_with fail
      refine (HS.out _ (by (repeat' (with_reducible first | exact Keeps.refl _ _ | assumption | refine Keeps.drawN ?_ _ | refine Keeps.drew ?_ | refine Keeps.setCell ?_ ?_ _ | refine Keeps.alloc ?_ _)) <;> (first | exact Or.inr (Nat.le_refl _) | exact Or.inl rfl | exact Or.inl (Or.inl rfl) | exact Or.inl (Or.inr rfl) | (right; simp; done) | (right; simp; omega)))).mono ?_
      rintro e w2 ⟨rfl, k2⟩
      have KK : Hid (Keeps (fun _ => False) wr w2) := Lib.hid (Keeps.trans (by (repeat' (with_reducible first | exact Keeps.refl _ _ | assumption | refine Keeps.drawN ?_ _ | refine Keeps.drew ?_ | refine Keeps.setCell ?_ ?_ _ | refine Keeps.alloc ?_ _)) <;> (first | exact Or.inr (Nat.le_refl _) | exact Or.inl rfl | exact Or.inl (Or.inl rfl) | exact Or.inl (Or.inr rfl) | (right; simp; done) | (right; simp; omega))) k2)
      clear k2
      unfold strL
      go_wp2_with (at_builtin; refine wpList_append_own _ rfl (.tmp 12) (.tmp 15) 67 rfl w.heap.size 9 i0 (.string ⟨#[]⟩) 1 16 Tryz.underlying67 hi0 hz0 hz1 hz2 rfl (by decide) _ _ _ rfl ((own_keep OW.out KK.out).alloc _) ⟨w2.heap.size, 0, none⟩ 1 1 [strL RP] rfl rfl (by exact cells_new _ [_] _) (by intro u hu; simp at hu; subst hu; rfl) ?d3 ?d4 ?d5 ?_)
      case d3 => unfold maxLen; omega
      case d4 => omega
      case d5 => have := KK.out.size; have := K.out.size; simp; omega
      intro v' w3 hown' hgrow _
      have hk3 : Keeps (fun b => w.heap.size ≤ b) wr w3 := ((KK.out.mono (fun _ _ e => e.elim)).alloc (.cells #[strL RP] 9)).grown hgrow (fun b hb => Or.inl (ownBlock_base OW.out b hb))
      have K3 : Hid (Keeps (fun _ => False) w w3) := Lib.hid (own_end K.out hk3)
      have O3 := Lib.hid (own_snoc hown')
      clear hown' hgrow hk3
      go_wp2_with fail
      go_roundw
      case rel => exact ⟨i + 1, by go_num, by omega, by rw [HTK.out]; exact O3.out, K3.out⟩
      case measure => simp [intOf]; omega
    · have he : i = L.length := by omega
      subst he
      have O2 : Hid (wr.ownsRow w.heap.size 9 1 u3 (L.map showT).length ((L.map showT).map strL)) := Lib.hid (by have := OW.out; rwa [List.take_length] at this)
      have HN : Hid ((L.map showT).length ≤ 1000000) := Lib.hid (by rw [List.length_map]; omega)
      clear OW
      generalize L.map showT = XS at *
      go_wp2_with fail
      refine (joinOwn_any _ _ XS [44] _ O2.out HN.out (by have := HJ.out; omega)).mono ?_
      rintro e w2 ⟨rfl, k2⟩
      have K2 := Lib.hid k2
      have hjl := HJ.out
      clear k2
      unfold strL
      generalize Lib.join XS [44] = J at *
      go_wp2_with fail
      go_ret
      exact ⟨by rw [HR.out]; rfl, K.out.trans K2.out⟩

set_option maxHeartbeats 8000000 in
theorem show_any (t : T) : ShowC t := by
  refine T.ind (C := ShowC) ?_ t
  intro t ih P v w ht htab hs
  have IH := Lib.hid ih
  obtain ⟨a1, n1, c1, a2, c2, e1, e2, hl, hc⟩ := ht.krow
  have HR := Lib.hid ht.set
  have o1 := ht.op
  have o2 := ht.mn
  have o3 := ht.mx
  have n2 := ht.nn
  have n3 := ht.nx
  obtain ⟨vo, vsv, vm, vx, vk⟩ := v
  obtain rfl := e1
  obtain rfl := e2
  simp only at o1 o2 o3
  rw [← o2] at n2
  rw [← o3] at n3
  have HC := Lib.hid hc
  have HT := Lib.hid htab
  have HS : Hid (showT t = nodeS vo t.set vm vx (t.kids.toL.map showT)) := Lib.hid (by rw [← showF_to, o1, o2, o3]; rfl)
  have hs2 := hs
  rw [HS.out] at hs2
  have HL := Lib.hid hs2
  clear ih ht hc o1 o2 o3 hs hs2 htab
  generalize showT t = RS at *
  generalize t.kids.toL = L at *
  generalize t.set = A0 at *
  show Calls Tryz.prog 8 #[.agg #[.int .i64 vo, .slice a1 n1 c1, .int .i64 vm, .int .i64 vx, .slice a2 L.length c2]] w _
  have ka : Keeps (fun _ => False) w (w.alloc (.cells #[.int .i64 vo, .slice a1 n1 c1, .int .i64 vm, .int .i64 vx, .slice a2 L.length c2] 26)) := by (repeat' (with_reducible first | exact Keeps.refl _ _ | assumption | refine Keeps.drawN ?_ _ | refine Keeps.drew ?_ | refine Keeps.setCell ?_ ?_ _ | refine Keeps.alloc ?_ _)) <;> (first | exact Or.inr (Nat.le_refl _) | exact Or.inl rfl | exact Or.inl (Or.inl rfl) | exact Or.inl (Or.inr rfl) | (right; simp; done) | (right; simp; omega))
  have KA := Lib.hid ka
  clear ka
  have hkid : (vo = 4 ∨ vo = 5 ∨ vo = 6) → (Lib.join (L.map showT) [44]).length + 2 ≤ 900000 := fun h => Nat.le_trans (nodeS_shown (set := A0) (mn := vm) (mx := vx) h) HL.out
  have HSh : Hid ((vo = 4 ∨ vo = 5 ∨ vo = 6) → ∀ W, Keeps (fun _ => False) w W → Calls Tryz.prog 16 #[.slice a2 L.length c2] W fun e w' => e = .returned (strL (shownS (L.map showT))) ∧ Keeps (fun _ => False) W w') :=
    Lib.hid (fun h W kW => shown_any P L a2 c2 W (HC.out.keep kW) hl (HT.out.keeps kW) (by have := hkid h; omega) IH.out)
  have hln : (vo = 4 ∨ vo = 5 ∨ vo = 6) → (shownS (L.map showT)).length ≤ 900000 := fun h => by
    have := hkid h
    unfold shownS; simp; omega
  rcases (by omega : vo = 0 ∨ vo = 1 ∨ vo = 2 ∨ vo = 3 ∨ vo = 4 ∨ vo = 5 ∨ vo = 6 ∨ (vo ≠ 0 ∧ vo ≠ 1 ∧ vo ≠ 2 ∧ vo ≠ 3 ∧ vo ≠ 4 ∧ vo ≠ 5 ∧ vo ≠ 6)) with rfl | rfl | rfl | rfl | rfl | rfl | rfl | ⟨m0, m1, m2, m3, m4, m5, m6⟩
  · clear hkid hln
    go_enter Tryz.func8, Tryz.ntmps8
    go_wp2_with fail
    go_ret
    exact ⟨by rw [HS.out]; rfl, KA.out⟩
  · have hrl : (rangesS A0).length ≤ 900000 := by
      have := HL.out
      unfold nodeS at this
      simp at this; omega
    have HRG : Hid (∀ W, Keeps (fun _ => False) w W → Calls Tryz.prog 15 #[.slice a1 n1 c1] W fun e w' => e = .returned (strL (rangesS A0)) ∧ Keeps (fun _ => False) W w') := Lib.hid (fun W kW => ranges_any A0 _ W (HR.out.keeps kW (fun _ _ => id)) (HT.out.keeps kW) hrl)
    have E : Hid (RS = [99, 104, 97, 114] ++ rangesS A0) := Lib.hid (by rw [HS.out]; rfl)
    clear hkid hln
    generalize rangesS A0 = RG at *
    go_enter Tryz.func8, Tryz.ntmps8
    go_wp2_with fail
    refine (HRG.out _ KA.out).mono ?_
    rintro e w2 ⟨rfl, k2⟩
    have K2 := Lib.hid k2
    clear k2
    unfold strL
    go_wp2_with fail
    go_ret
    exact ⟨by rw [E.out]; rfl, KA.out.trans K2.out⟩
  · clear hkid hln
    go_enter Tryz.func8, Tryz.ntmps8
    go_wp2_with fail
    go_ret
    exact ⟨by rw [HS.out]; rfl, KA.out⟩
  · clear hkid hln
    go_enter Tryz.func8, Tryz.ntmps8
    go_wp2_with fail
    go_ret
    exact ⟨by rw [HS.out]; rfl, KA.out⟩
  · have hl2 := hln (Or.inl rfl)
    have HQ := Lib.hid (HSh.out (Or.inl rfl))
    have E : Hid (RS = [99, 97, 116] ++ shownS (L.map showT)) := Lib.hid (by rw [HS.out]; rfl)
    clear hkid hln
    generalize shownS (L.map showT) = RG at *
    go_enter Tryz.func8, Tryz.ntmps8
    go_wp2_with fail
    refine (HQ.out _ KA.out).mono ?_
    rintro e w2 ⟨rfl, k2⟩
    have K2 := Lib.hid k2
    clear k2
    unfold strL
    go_wp2_with fail
    go_ret
    exact ⟨by rw [E.out]; rfl, KA.out.trans K2.out⟩
  · have hl2 := hln (Or.inr (Or.inl rfl))
    have HQ := Lib.hid (HSh.out (Or.inr (Or.inl rfl)))
    have E : Hid (RS = [97, 108, 116] ++ shownS (L.map showT)) := Lib.hid (by rw [HS.out]; rfl)
    clear hkid hln
    generalize shownS (L.map showT) = RG at *
    go_enter Tryz.func8, Tryz.ntmps8
    go_wp2_with fail
    refine (HQ.out _ KA.out).mono ?_
    rintro e w2 ⟨rfl, k2⟩
    have K2 := Lib.hid k2
    clear k2
    unfold strL
    go_wp2_with fail
    go_ret
    exact ⟨by rw [E.out]; rfl, KA.out.trans K2.out⟩
  · have hl2 := hln (Or.inr (Or.inr rfl))
    have HQ := HSh.out (Or.inr (Or.inr rfl))
    have E : Hid (RS = [114, 101, 112, 123] ++ Lib.itoa vm ++ [32] ++ Lib.itoa vx ++ [125] ++ shownS (L.map showT)) := Lib.hid (by rw [HS.out]; rfl)
    have q1 := (itoa_len vm n2).1
    have q2 := (itoa_len vx n3).1
    obtain ⟨wa, hwa⟩ : ∃ W, w.alloc (.cells #[.int .i64 6, .slice a1 n1 c1, .int .i64 vm, .int .i64 vx, .slice a2 L.length c2] 26) = W := ⟨_, rfl⟩
    have KI : ∀ W z, (z = vm ∨ z = vx) → Keeps (fun _ => False) wa W → Calls Tryz.prog 17 #[.int .i64 z] W fun e w' => e = .returned (.string ⟨(Lib.itoa z).toArray⟩) ∧ Keeps (fun _ => False) wa w' := fun W z hz kW =>
      (itoa_any z W (by rcases hz with rfl | rfl; exact n2; exact n3) (HT.out.keeps ((hwa ▸ KA.out).trans kW))).mono fun e w' ⟨y1, y2⟩ => ⟨y1, kW.trans y2⟩
    have KSh : ∀ W, Keeps (fun _ => False) wa W → Calls Tryz.prog 16 #[.slice a2 L.length c2] W fun e w' => e = .returned (.string ⟨(shownS (L.map showT)).toArray⟩) ∧ Keeps (fun _ => False) wa w' := fun W kW =>
      (HQ W ((hwa ▸ KA.out).trans kW)).mono fun e w' ⟨y1, y2⟩ => ⟨y1, kW.trans y2⟩
    have b2 : wa.cell? ⟨w.heap.size, 2, none⟩ = some (.int .i64 vm) := by rw [← hwa]; simp [go_sem]
    have b3 : wa.cell? ⟨w.heap.size, 3, none⟩ = some (.int .i64 vx) := by rw [← hwa]; simp [go_sem]
    have b4 : wa.cell? ⟨w.heap.size, 4, none⟩ = some (.slice a2 L.length c2) := by rw [← hwa]; simp [go_sem]
    have HSt : ∀ W, Keeps (fun _ => False) wa W → W.cell? ⟨w.heap.size, 2, none⟩ = some (.int .i64 vm) ∧ W.cell? ⟨w.heap.size, 3, none⟩ = some (.int .i64 vx) ∧ W.cell? ⟨w.heap.size, 4, none⟩ = some (.slice a2 L.length c2) ∧ Keeps (fun _ => False) wa W := fun W K => ⟨K.cell b2 id, K.cell b3 id, K.cell b4 id, K⟩
    have hkd : Keeps (fun _ => False) wa wa.drew := (Keeps.refl _ _).drew
    have HSd := HSt _ hkd
    have KW : Hid (Keeps (fun _ => False) w wa) := Lib.hid (hwa ▸ KA.out)
    have HWA := Lib.hid hwa
    clear hkid hln HQ hwa
    generalize shownS (L.map showT) = RG at *
    go_enter Tryz.func8, Tryz.ntmps8
    go_wp2_with fail
    rw [HWA.out]
    have s1 : ¬ (9223372036854775807 < 4 + (Lib.itoa vm).length) := by omega
    have s2 : ¬ (9223372036854775807 < 4 + (Lib.itoa vm).length + 1) := by omega
    have s3 : ¬ (9223372036854775807 < 4 + (Lib.itoa vm).length + 1 + (Lib.itoa vx).length) := by omega
    have s4 : ¬ (9223372036854775807 < 4 + (Lib.itoa vm).length + 1 + (Lib.itoa vx).length + 1) := by omega
    have s5 : ¬ (9223372036854775807 < 4 + (Lib.itoa vm).length + 1 + (Lib.itoa vx).length + 1 + RG.length) := by omega
    go_region_held3 (fun w' => w'.cell? ⟨w.heap.size, 2, none⟩ = some (.int .i64 vm) ∧ w'.cell? ⟨w.heap.size, 3, none⟩ = some (.int .i64 vx) ∧ w'.cell? ⟨w.heap.size, 4, none⟩ = some (.slice a2 L.length c2) ∧ Keeps (fun _ => False) wa w') (first | exact HSd | exact HSt _ (by assumption)) (first | (go_at_call 17; refine (KI _ _ ?_ ?_).mono ?_; (first | exact Or.inl rfl | exact Or.inr rfl); (first | exact hkd | assumption); rintro e w' ⟨rfl, hkn⟩) | (go_at_call 16; refine (KSh _ ?_).mono ?_; (first | exact hkd | assumption); rintro e w' ⟨rfl, hkn⟩))
    go_wp2_with fail
    go_ret
    exact ⟨by rw [E.out]; unfold strL; refine congrArg Ending.returned (congrArg Value.string ?_); apply ByteArray.ext; simp [ByteArray.data_append], KW.out.trans (by assumption)⟩
  · have f0 : (vo == 0) = false := by simpa using m0
    have f1 : (vo == 1) = false := by simpa using m1
    have f2 : (vo == 2) = false := by simpa using m2
    have f3 : (vo == 3) = false := by simpa using m3
    have f4 : (vo == 4) = false := by simpa using m4
    have f5 : (vo == 5) = false := by simpa using m5
    have f6 : (vo == 6) = false := by simpa using m6
    have E : Hid (RS = [63]) := Lib.hid (by rw [HS.out]; unfold nodeS; simp [m0, m1, m2, m3, m4, m5, m6])
    clear hkid hln m0 m1 m2 m3 m4 m5 m6
    go_enter Tryz.func8, Tryz.ntmps8
    go_wp2_with fail
    go_ret
    exact ⟨by rw [E.out]; rfl, KA.out⟩
end Go.Proofs.YtinogeobkljngaaGreatDoor
end
