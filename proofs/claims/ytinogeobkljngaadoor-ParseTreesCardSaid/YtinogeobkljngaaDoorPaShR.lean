/-
  The document's Show.
-/
import Derived.Test.YtinogeobkljngaaDoorPaShP
import Derived.Test.YtinogeobkljngaaDoorPaSm
import Derived.Deep.RegionHeld3
import Derived.BigRegion
namespace Go.Proofs.YtinogeobkljngaaDoor
open Go.RowKit
set_option linter.unusedVariables false
set_option linter.unusedSimpArgs false
set_option maxRecDepth 100000

def RShowC (t : T) : Prop := ∀ (P : Nat → Prop) (v : NV) (w : World), TAt w P v t → (showT t).length ≤ 900000 →
    Calls Tryd.prog 15 #[v.val] w fun e w' => e = .returned (strL (showT t)) ∧ Keeps (fun _ => False) w w'
/-- One more in a row that is joined. -/
theorem join_step (l : List (List UInt8)) (sep : List UInt8) (i : Nat) (x : List UInt8) (h : l[i]? = some x) : Lib.join (l.take (i + 1)) sep = if i = 0 then x else Lib.join (l.take i) sep ++ sep ++ x := by
  rw [take_one h, join_snoc]
  have hlt : i < l.length := (List.getElem?_eq_some_iff.1 h).1
  by_cases h0 : i = 0
  · subst h0; simp
  · rw [if_neg h0, if_neg]
    intro e
    have h2 := congrArg List.length e
    rw [List.length_take, List.length_nil] at h2
    omega

set_option maxHeartbeats 8000000 in
theorem refShow_any (t : T) : RShowC t := by
  refine T.ind (C := RShowC) ?_ t
  intro t ih P v w ht hs
  have IH := Lib.hid ih
  obtain ⟨a1, n1, c1, a2, c2, e1, e2, hl, hc⟩ := ht.krow
  have HR := Lib.hid ht.set
  have o1 := ht.op
  have o2 := ht.mn
  have o3 := ht.mx
  have n2 := ht.nn
  have n3 := ht.nx
  obtain ⟨vo, vsv, vm, vx, vk⟩ := v
  obtain rfl := e1
  obtain rfl := e2
  simp only at o1 o2 o3
  rw [← o2] at n2
  rw [← o3] at n3
  have HC := Lib.hid hc
  have HS : Hid (showT t = nodeS vo t.set vm vx (t.kids.toL.map showT)) := Lib.hid (by rw [← showF_to, o1, o2, o3]; rfl)
  have hs2 := hs
  rw [HS.out] at hs2
  have HL := Lib.hid hs2
  clear ih ht hc o1 o2 o3 hs hs2
  generalize showT t = RS at *
  generalize t.kids.toL = L at *
  generalize t.set = A0 at *
  show Calls Tryd.prog 15 #[.agg #[.int .i64 vo, .slice a1 n1 c1, .int .i64 vm, .int .i64 vx, .slice a2 L.length c2]] w _
  have ka : Keeps (fun _ => False) w (w.alloc (.cells #[.int .i64 vo, .slice a1 n1 c1, .int .i64 vm, .int .i64 vx, .slice a2 L.length c2] 26)) := by (repeat' (with_reducible first | exact Keeps.refl _ _ | assumption | refine Keeps.drawN ?_ _ | refine Keeps.drew ?_ | refine Keeps.setCell ?_ ?_ _ | refine Keeps.alloc ?_ _)) <;> (first | exact Or.inr (Nat.le_refl _) | exact Or.inl rfl | exact Or.inl (Or.inl rfl) | exact Or.inl (Or.inr rfl) | (right; simp; done) | (right; simp; omega))
  have KA := Lib.hid ka
  clear ka
  rcases (by omega : vo = 0 ∨ vo = 1 ∨ vo = 2 ∨ vo = 3 ∨ vo = 4 ∨ vo = 5 ∨ vo = 6 ∨ (vo ≠ 0 ∧ vo ≠ 1 ∧ vo ≠ 2 ∧ vo ≠ 3 ∧ vo ≠ 4 ∧ vo ≠ 5 ∧ vo ≠ 6)) with rfl | rfl | rfl | rfl | rfl | rfl | rfl | ⟨m0, m1, m2, m3, m4, m5, m6⟩
  · go_enter Tryd.func15, Tryd.ntmps15
    go_wp2_with fail
    go_ret
    exact ⟨by rw [HS.out]; rfl, KA.out⟩
  · -- a set
    have hjl : (Lib.join (A0.map rangeS) [32]).length + 6 ≤ 900000 := by
      have := HL.out
      unfold nodeS rangesS at this
      simp at this; omega
    have HPL := Lib.hid hjl
    have E : Hid (RS = [99, 104, 97, 114, 123] ++ Lib.join (A0.map rangeS) [32] ++ [125]) := Lib.hid (by rw [HS.out]; unfold nodeS rangesS; simp)
    obtain ⟨a1', cap1, e1, hln1, hcl⟩ := HR.out.cells
    obtain ⟨rfl, rfl, rfl⟩ := Value.slice.inj e1
    have HCL := Lib.hid hcl
    clear hjl hcl e1
    go_enter Tryd.func15, Tryd.ntmps15
    go_wp2_with fail
    go_loopw [4, 3] (fun iv sv wr => ∃ (k : Nat) (S : List UInt8), iv = .int .i64 k ∧ sv = .string ⟨S.toArray⟩ ∧ S = Lib.join ((A0.map rangeS).take k) [32] ∧ k ≤ A0.length ∧ Keeps (fun _ => False) w wr ∧ wr.cell? ⟨w.heap.size, 1, none⟩ = some (.slice a1 A0.length c1)) (fun iv _ _ => A0.length - (intOf iv).toNat)
    case atStart => exact ⟨0, [], rfl, rfl, by simp [Lib.join_nil], Nat.zero_le _, KA.out, by simp [go_sem]⟩
    case round =>
      obtain ⟨k, S, rfl, rfl, hS, hk, hkeep, z1⟩ := hrel
      have hSl : S.length ≤ 900000 := by
        rw [hS]
        have h1 := join_take_le (A0.map rangeS) [32] k
        have h2 := HPL.out
        omega
      have HSq := Lib.hid hS
      have K := Lib.hid hkeep
      have hlw : w.heap.size < wr.heap.size := lt_of_cell z1
      clear hS hkeep
      by_cases hkl : k < A0.length
      · obtain ⟨b, off, rfl, hcc⟩ := HCL.out (by omega)
        obtain ⟨p, hp⟩ : ∃ p, A0[k]? = some p := ⟨_, List.getElem?_eq_getElem hkl⟩
        obtain ⟨y0, y1, d0, d1⟩ := hcc k p hp
        have y0 := K.out.cell y0 id
        have y1 := K.out.cell y1 id
        have hlt : b < wr.heap.size := lt_of_cell y0
        have HJ := Lib.hid (join_step (A0.map rangeS) [32] k (rangeS p) (by rw [List.getElem?_map, hp]; rfl))
        have HP : Hid (rangeS p = if p.2 = p.1 then Lib.itoa p.1 else Lib.itoa p.1 ++ 45 :: Lib.itoa p.2) := Lib.hid rfl
        obtain ⟨p1, p2⟩ := p
        simp only at y0 y1 d0 d1 HP
        have q1 := (itoa_len p1 d0).1
        have q2 := (itoa_len p2 d1).1
        have HI := Lib.hid (fun W => digits_any p1 W d0)
        have HI2 := Lib.hid (fun W => digits_any p2 W d1)
        clear hcc hp
        generalize rangeS (p1, p2) = RP at *
        generalize Lib.itoa p1 = I1 at *
        generalize Lib.itoa p2 = I2 at *
        obtain ⟨S0, hS0⟩ : ∃ x, (if k = 0 then S else S ++ [32]) = x := ⟨_, rfl⟩
        have HS0 := Lib.hid hS0
        have hcase : (k = 0 ∧ S0 = S) ∨ (0 < k ∧ S0 = S ++ [32]) := by
          rcases (by omega : k = 0 ∨ 0 < k) with h | h
          · rw [if_pos h] at hS0; exact Or.inl ⟨h, hS0.symm⟩
          · rw [if_neg (by omega)] at hS0; exact Or.inr ⟨h, hS0.symm⟩
        have HN : Hid (Lib.join ((A0.map rangeS).take (k + 1)) [32] = S0 ++ RP) := Lib.hid (by
          rw [HJ.out, ← HS0.out, HSq.out]
          by_cases h : k = 0
          · subst h; simp [Lib.join_nil]
          · rw [if_neg h, if_neg h])
        clear hS0
        by_cases hpp : p2 = p1
        · have hpe : (p2 != p1) = false := by simpa using hpp
          have e1 : RP = I1 := by rw [HP.out, if_pos hpp]
          subst e1
          clear hpp
          rcases hcase with ⟨rfl, rfl⟩ | ⟨h0, rfl⟩
          · simp only [Nat.zero_mul, Nat.add_zero] at y0 y1
            go_wp2_with fail
            refine (HI.out _).mono ?_
            rintro e w2 ⟨rfl, k2⟩
            have x0 := k2.cell y0 id
            have x1 := k2.cell y1 id
            have z12 := k2.cell z1 id
            have K2 := Lib.hid (K.out.trans k2)
            have hlt2 : b < w2.heap.size := lt_of_cell x0
            clear k2
            unfold strL
            go_wp2_with fail
            go_region
            go_wp2_with fail
            go_roundw
            case rel => exact ⟨1, S0 ++ RP, by go_num, by first | rfl | (refine congrArg Value.string ?_; apply ByteArray.ext; simp [ByteArray.data_append]), by rw [HN.out], by omega, K2.out.drew, z12⟩
            case measure => simp [intOf]; omega
          · have g0 : decide ((0 : Int) < k) = true := by simp; omega
            have g1 : decide (0 < k) = true := by simp; omega
            go_wp2_with fail
            refine (HI.out _).mono ?_
            rintro e w2 ⟨rfl, k2⟩
            have x0 := k2.cell y0 id
            have x1 := k2.cell y1 id
            have z12 := k2.cell z1 id
            have K2 := Lib.hid (K.out.trans k2)
            have hlt2 : b < w2.heap.size := lt_of_cell x0
            clear k2
            unfold strL
            go_wp2_with fail
            go_region
            go_wp2_with fail
            go_roundw
            case rel => exact ⟨k + 1, S ++ [32] ++ RP, by go_num, by first | rfl | (refine congrArg Value.string ?_; apply ByteArray.ext; simp [ByteArray.data_append]), by rw [HN.out], by omega, K2.out.drew, z12⟩
            case measure => simp [intOf]; omega
        · have hpe : (p2 != p1) = true := by simpa using hpp
          have e1 : Hid (RP = I1 ++ 45 :: I2) := Lib.hid (by rw [HP.out, if_neg hpp])
          clear hpp
          rcases hcase with ⟨rfl, rfl⟩ | ⟨h0, rfl⟩
          · simp only [Nat.zero_mul, Nat.add_zero] at y0 y1
            go_wp2_with fail
            refine (HI.out _).mono ?_
            rintro e w2 ⟨rfl, k2⟩
            have x0 := k2.cell y0 id
            have x1 := k2.cell y1 id
            have z12 := k2.cell z1 id
            have K2 := Lib.hid (K.out.trans k2)
            have hlt2 : b < w2.heap.size := lt_of_cell x0
            clear k2
            unfold strL
            go_wp2_with fail
            go_region
            go_wp2_with fail
            refine (HI2.out _).mono ?_
            rintro e w3 ⟨rfl, k3⟩
            have K3 := Lib.hid (K2.out.drew.trans k3)
            have z13 := k3.cell (p := ⟨w.heap.size, 1, none⟩) z12 id
            clear k3
            unfold strL
            go_wp2_with fail
            go_roundw
            case rel => exact ⟨1, S0 ++ (I1 ++ 45 :: I2), by go_num, by first | rfl | (refine congrArg Value.string ?_; apply ByteArray.ext; simp [ByteArray.data_append]), by rw [HN.out, e1.out], by omega, K3.out, z13⟩
            case measure => simp [intOf]; omega
          · have g0 : decide ((0 : Int) < k) = true := by simp; omega
            have g1 : decide (0 < k) = true := by simp; omega
            go_wp2_with fail
            refine (HI.out _).mono ?_
            rintro e w2 ⟨rfl, k2⟩
            have x0 := k2.cell y0 id
            have x1 := k2.cell y1 id
            have z12 := k2.cell z1 id
            have K2 := Lib.hid (K.out.trans k2)
            have hlt2 : b < w2.heap.size := lt_of_cell x0
            clear k2
            unfold strL
            go_wp2_with fail
            go_region
            go_wp2_with fail
            refine (HI2.out _).mono ?_
            rintro e w3 ⟨rfl, k3⟩
            have K3 := Lib.hid (K2.out.drew.trans k3)
            have z13 := k3.cell (p := ⟨w.heap.size, 1, none⟩) z12 id
            clear k3
            unfold strL
            go_wp2_with fail
            go_roundw
            case rel => exact ⟨k + 1, S ++ [32] ++ (I1 ++ 45 :: I2), by go_num, by first | rfl | (refine congrArg Value.string ?_; apply ByteArray.ext; simp [ByteArray.data_append]), by rw [HN.out, e1.out], by omega, K3.out, z13⟩
            case measure => simp [intOf]; omega
      · have he : k = A0.length := by omega
        subst he
        have E3 : Hid (RS = [99, 104, 97, 114, 123] ++ S ++ [125]) := Lib.hid (by
          have h1 := HSq.out
          rw [show (A0.map rangeS).take A0.length = A0.map rangeS by rw [show A0.length = (A0.map rangeS).length by simp, List.take_length]] at h1
          rw [E.out, h1])
        go_wp2_with fail
        go_ret
        exact ⟨by rw [E3.out]; unfold strL; first | rfl | (refine congrArg Ending.returned (congrArg Value.string ?_); apply ByteArray.ext; simp [ByteArray.data_append]), K.out⟩
  · go_enter Tryd.func15, Tryd.ntmps15
    go_wp2_with fail
    go_ret
    exact ⟨by rw [HS.out]; rfl, KA.out⟩
  · go_enter Tryd.func15, Tryd.ntmps15
    go_wp2_with fail
    go_ret
    exact ⟨by rw [HS.out]; rfl, KA.out⟩
  · obtain ⟨PF, hPF⟩ : ∃ PF : List UInt8, [99, 97, 116, 40] = PF := ⟨_, rfl⟩
    have E : Hid (RS = PF ++ Lib.join (L.map showT) [44] ++ [41]) := Lib.hid (by rw [HS.out, ← hPF]; unfold nodeS shownS; simp)
    have HPL : Hid ((PF ++ Lib.join (L.map showT) [44]).length ≤ 900000) := Lib.hid (by
      have h := HL.out
      rw [← HS.out, E.out] at h
      simp only [List.length_append] at h ⊢; omega)
    have HPF := Lib.hid hPF
    have KST := KA.out
    have CST : (w.alloc (.cells #[.int .i64 4, .slice a1 n1 c1, .int .i64 vm, .int .i64 vx, .slice a2 L.length c2] 26)).cell? ⟨w.heap.size, 4, none⟩ = some (.slice a2 L.length c2) := by simp [go_sem]
    clear hPF
    go_enter Tryd.func15, Tryd.ntmps15
    go_wp2_with fail
    go_loopw [5, 3] (fun iv sv wr => ∃ (k : Nat) (S : List UInt8), iv = .int .i64 k ∧ sv = .string ⟨S.toArray⟩ ∧ S = PF ++ Lib.join ((L.map showT).take k) [44] ∧ k ≤ L.length ∧ Keeps (fun _ => False) w wr ∧ wr.cell? ⟨w.heap.size, 4, none⟩ = some (.slice a2 L.length c2)) (fun iv _ _ => L.length - (intOf iv).toNat)
    case atStart => exact ⟨0, _, rfl, rfl, by rw [← HPF.out]; simp [Lib.join_nil], Nat.zero_le _, KST, CST⟩
    case round =>
      obtain ⟨k, S, rfl, rfl, hS, hk, hkeep, z4⟩ := hrel
      have hSl : S.length ≤ 900000 := by
        rw [hS]
        have h1 := join_take_le (L.map showT) [44] k
        have h2 := HPL.out
        simp only [List.length_append] at h2 ⊢; omega
      have HSq := Lib.hid hS
      have K := Lib.hid hkeep
      clear hS hkeep
      by_cases hkl : k < L.length
      · obtain ⟨kk, hki⟩ : ∃ x, L[k]? = some x := ⟨_, List.getElem?_eq_getElem hkl⟩
        obtain ⟨b, off, uo, d1, f1, g1, um, ux, d2, f2, g2, rfl, hu, hlt, x0, x1, x2, x3, x4⟩ := (HC.out.keep K.out).at hki
        have hsl : (showT kk).length ≤ 900000 := by
          have h1 := join_item (L.map showT) [44] (showT kk) (List.mem_map_of_mem (List.mem_of_getElem? hki))
          have h2 := HPL.out
          simp only [List.length_append] at h2; omega
        have HQ : Hid (∀ W, Keeps (fun _ => False) wr W → Calls Tryd.prog 15 #[.agg #[.int .i64 uo, .slice d1 f1 g1, .int .i64 um, .int .i64 ux, .slice d2 f2 g2]] W fun e w' => e = .returned (strL (showT kk)) ∧ Keeps (fun _ => False) W w') := Lib.hid (fun W kW =>
          IH.out k kk hki P ⟨uo, .slice d1 f1 g1, um, ux, .slice d2 f2 g2⟩ W (hu.keepsTo kW (fun _ _ => id) (fun _ h => h)) hsl)
        have HJ := Lib.hid (join_step (L.map showT) [44] k (showT kk) (by rw [List.getElem?_map, hki]; rfl))
        have hlw : w.heap.size < wr.heap.size := lt_of_cell z4
        clear hki hu
        generalize showT kk = RP at *
        by_cases hk0 : k = 0
        · subst hk0
          simp only [Nat.zero_mul, Nat.add_zero] at x0 x1 x2 x3 x4
          go_wp2_with fail
          refine (HQ.out _ (Keeps.refl _ _)).mono ?_
          rintro e w2 ⟨rfl, k2⟩
          have z42 := k2.cell z4 id
          have K2 := Lib.hid (K.out.trans k2)
          clear k2
          unfold strL
          go_wp2_with fail
          go_roundw
          case rel => exact ⟨1, S ++ RP, by go_num, rfl, by rw [HJ.out, HSq.out]; simp [Lib.join_nil], by omega, K2.out, z42⟩
          case measure => simp [intOf]; omega
        · have g0 : decide ((0 : Int) < k) = true := by simp; omega
          have g1 : decide (0 < k) = true := by simp; omega
          go_wp2_with fail
          refine (HQ.out _ (Keeps.refl _ _)).mono ?_
          rintro e w2 ⟨rfl, k2⟩
          have z42 := k2.cell z4 id
          have K2 := Lib.hid (K.out.trans k2)
          clear k2
          unfold strL
          go_wp2_with fail
          go_roundw
          case rel => exact ⟨k + 1, S ++ [44] ++ RP, by go_num, by first | rfl | (refine congrArg Value.string ?_; apply ByteArray.ext; simp [ByteArray.data_append]), by rw [HJ.out, HSq.out, if_neg hk0]; simp, by omega, K2.out, z42⟩
          case measure => simp [intOf]; omega
      · have he : k = L.length := by omega
        subst he
        have E3 : Hid (RS = S ++ [41]) := Lib.hid (by
          have h1 := HSq.out
          rw [show (L.map showT).take L.length = L.map showT by rw [show L.length = (L.map showT).length by simp, List.take_length]] at h1
          rw [E.out, h1])
        go_wp2_with fail
        go_ret
        exact ⟨by rw [E3.out]; unfold strL; first | rfl | (refine congrArg Ending.returned (congrArg Value.string ?_); apply ByteArray.ext; simp [ByteArray.data_append]), K.out⟩
  · obtain ⟨PF, hPF⟩ : ∃ PF : List UInt8, [97, 108, 116, 40] = PF := ⟨_, rfl⟩
    have E : Hid (RS = PF ++ Lib.join (L.map showT) [44] ++ [41]) := Lib.hid (by rw [HS.out, ← hPF]; unfold nodeS shownS; simp)
    have HPL : Hid ((PF ++ Lib.join (L.map showT) [44]).length ≤ 900000) := Lib.hid (by
      have h := HL.out
      rw [← HS.out, E.out] at h
      simp only [List.length_append] at h ⊢; omega)
    have HPF := Lib.hid hPF
    have KST := KA.out
    have CST : (w.alloc (.cells #[.int .i64 5, .slice a1 n1 c1, .int .i64 vm, .int .i64 vx, .slice a2 L.length c2] 26)).cell? ⟨w.heap.size, 4, none⟩ = some (.slice a2 L.length c2) := by simp [go_sem]
    clear hPF
    go_enter Tryd.func15, Tryd.ntmps15
    go_wp2_with fail
    go_loopw [5, 3] (fun iv sv wr => ∃ (k : Nat) (S : List UInt8), iv = .int .i64 k ∧ sv = .string ⟨S.toArray⟩ ∧ S = PF ++ Lib.join ((L.map showT).take k) [44] ∧ k ≤ L.length ∧ Keeps (fun _ => False) w wr ∧ wr.cell? ⟨w.heap.size, 4, none⟩ = some (.slice a2 L.length c2)) (fun iv _ _ => L.length - (intOf iv).toNat)
    case atStart => exact ⟨0, _, rfl, rfl, by rw [← HPF.out]; simp [Lib.join_nil], Nat.zero_le _, KST, CST⟩
    case round =>
      obtain ⟨k, S, rfl, rfl, hS, hk, hkeep, z4⟩ := hrel
      have hSl : S.length ≤ 900000 := by
        rw [hS]
        have h1 := join_take_le (L.map showT) [44] k
        have h2 := HPL.out
        simp only [List.length_append] at h2 ⊢; omega
      have HSq := Lib.hid hS
      have K := Lib.hid hkeep
      clear hS hkeep
      by_cases hkl : k < L.length
      · obtain ⟨kk, hki⟩ : ∃ x, L[k]? = some x := ⟨_, List.getElem?_eq_getElem hkl⟩
        obtain ⟨b, off, uo, d1, f1, g1, um, ux, d2, f2, g2, rfl, hu, hlt, x0, x1, x2, x3, x4⟩ := (HC.out.keep K.out).at hki
        have hsl : (showT kk).length ≤ 900000 := by
          have h1 := join_item (L.map showT) [44] (showT kk) (List.mem_map_of_mem (List.mem_of_getElem? hki))
          have h2 := HPL.out
          simp only [List.length_append] at h2; omega
        have HQ : Hid (∀ W, Keeps (fun _ => False) wr W → Calls Tryd.prog 15 #[.agg #[.int .i64 uo, .slice d1 f1 g1, .int .i64 um, .int .i64 ux, .slice d2 f2 g2]] W fun e w' => e = .returned (strL (showT kk)) ∧ Keeps (fun _ => False) W w') := Lib.hid (fun W kW =>
          IH.out k kk hki P ⟨uo, .slice d1 f1 g1, um, ux, .slice d2 f2 g2⟩ W (hu.keepsTo kW (fun _ _ => id) (fun _ h => h)) hsl)
        have HJ := Lib.hid (join_step (L.map showT) [44] k (showT kk) (by rw [List.getElem?_map, hki]; rfl))
        have hlw : w.heap.size < wr.heap.size := lt_of_cell z4
        clear hki hu
        generalize showT kk = RP at *
        by_cases hk0 : k = 0
        · subst hk0
          simp only [Nat.zero_mul, Nat.add_zero] at x0 x1 x2 x3 x4
          go_wp2_with fail
          refine (HQ.out _ (Keeps.refl _ _)).mono ?_
          rintro e w2 ⟨rfl, k2⟩
          have z42 := k2.cell z4 id
          have K2 := Lib.hid (K.out.trans k2)
          clear k2
          unfold strL
          go_wp2_with fail
          go_roundw
          case rel => exact ⟨1, S ++ RP, by go_num, rfl, by rw [HJ.out, HSq.out]; simp [Lib.join_nil], by omega, K2.out, z42⟩
          case measure => simp [intOf]; omega
        · have g0 : decide ((0 : Int) < k) = true := by simp; omega
          have g1 : decide (0 < k) = true := by simp; omega
          go_wp2_with fail
          refine (HQ.out _ (Keeps.refl _ _)).mono ?_
          rintro e w2 ⟨rfl, k2⟩
          have z42 := k2.cell z4 id
          have K2 := Lib.hid (K.out.trans k2)
          clear k2
          unfold strL
          go_wp2_with fail
          go_roundw
          case rel => exact ⟨k + 1, S ++ [44] ++ RP, by go_num, by first | rfl | (refine congrArg Value.string ?_; apply ByteArray.ext; simp [ByteArray.data_append]), by rw [HJ.out, HSq.out, if_neg hk0]; simp, by omega, K2.out, z42⟩
          case measure => simp [intOf]; omega
      · have he : k = L.length := by omega
        subst he
        have E3 : Hid (RS = S ++ [41]) := Lib.hid (by
          have h1 := HSq.out
          rw [show (L.map showT).take L.length = L.map showT by rw [show L.length = (L.map showT).length by simp, List.take_length]] at h1
          rw [E.out, h1])
        go_wp2_with fail
        go_ret
        exact ⟨by rw [E3.out]; unfold strL; first | rfl | (refine congrArg Ending.returned (congrArg Value.string ?_); apply ByteArray.ext; simp [ByteArray.data_append]), K.out⟩
  · have q1 := (itoa_len vm n2).1
    have q2 := (itoa_len vx n3).1
    obtain ⟨PF, hPF⟩ : ∃ PF : List UInt8, [114, 101, 112, 123] ++ Lib.itoa vm ++ [32] ++ Lib.itoa vx ++ [125, 40] = PF := ⟨_, rfl⟩
    have E : Hid (RS = PF ++ Lib.join (L.map showT) [44] ++ [41]) := Lib.hid (by rw [HS.out, ← hPF]; unfold nodeS shownS; simp)
    have HPL : Hid ((PF ++ Lib.join (L.map showT) [44]).length ≤ 900000) := Lib.hid (by
      have h := HL.out
      rw [← HS.out, E.out] at h
      simp only [List.length_append] at h ⊢; omega)
    have HPF := Lib.hid hPF
    obtain ⟨wa, hwa⟩ : ∃ W, w.alloc (.cells #[.int .i64 6, .slice a1 n1 c1, .int .i64 vm, .int .i64 vx, .slice a2 L.length c2] 26) = W := ⟨_, rfl⟩
    have KI : ∀ W z, (z = vm ∨ z = vx) → Keeps (fun _ => False) wa W → Calls Tryd.prog 26 #[.int .i64 z] W fun e w' => e = .returned (.string ⟨(Lib.itoa z).toArray⟩) ∧ Keeps (fun _ => False) wa w' := fun W z hz kW =>
      (digits_any z W (by rcases hz with rfl | rfl; exact n2; exact n3)).mono fun e w' ⟨y1, y2⟩ => ⟨y1, kW.trans y2⟩
    have b2 : wa.cell? ⟨w.heap.size, 2, none⟩ = some (.int .i64 vm) := by rw [← hwa]; simp [go_sem]
    have b3 : wa.cell? ⟨w.heap.size, 3, none⟩ = some (.int .i64 vx) := by rw [← hwa]; simp [go_sem]
    have b4 : wa.cell? ⟨w.heap.size, 4, none⟩ = some (.slice a2 L.length c2) := by rw [← hwa]; simp [go_sem]
    have HSt : ∀ W, Keeps (fun _ => False) wa W → W.cell? ⟨w.heap.size, 2, none⟩ = some (.int .i64 vm) ∧ W.cell? ⟨w.heap.size, 3, none⟩ = some (.int .i64 vx) ∧ W.cell? ⟨w.heap.size, 4, none⟩ = some (.slice a2 L.length c2) ∧ Keeps (fun _ => False) wa W := fun W K => ⟨K.cell b2 id, K.cell b3 id, K.cell b4 id, K⟩
    have hkd : Keeps (fun _ => False) wa wa.drew := (Keeps.refl _ _).drew
    have HSd := HSt _ hkd
    have KW : Hid (Keeps (fun _ => False) w wa) := Lib.hid (hwa ▸ KA.out)
    have HWA := Lib.hid hwa
    clear hwa hPF
    go_enter Tryd.func15, Tryd.ntmps15
    go_wp2_with fail
    rw [HWA.out]
    have s1 : ¬ (9223372036854775807 < 4 + (Lib.itoa vm).length) := by omega
    have s2 : ¬ (9223372036854775807 < 4 + (Lib.itoa vm).length + 1) := by omega
    have s3 : ¬ (9223372036854775807 < 4 + (Lib.itoa vm).length + 1 + (Lib.itoa vx).length) := by omega
    have s4 : ¬ (9223372036854775807 < 4 + (Lib.itoa vm).length + 1 + (Lib.itoa vx).length + 2) := by omega
    go_region_held3 (fun w' => w'.cell? ⟨w.heap.size, 2, none⟩ = some (.int .i64 vm) ∧ w'.cell? ⟨w.heap.size, 3, none⟩ = some (.int .i64 vx) ∧ w'.cell? ⟨w.heap.size, 4, none⟩ = some (.slice a2 L.length c2) ∧ Keeps (fun _ => False) wa w') (first | exact HSd | exact HSt _ (by assumption)) (first | (go_at_call 26; refine (KI _ _ ?_ ?_).mono ?_; (first | exact Or.inl rfl | exact Or.inr rfl); (first | exact hkd | assumption); rintro e w' ⟨rfl, hkn⟩))
    rename_i hK9
    obtain ⟨_, _, CST, hK9⟩ := hK9
    have KST := KW.out.trans hK9
    clear hK9
    go_wp2_with fail
    go_loopw [5, 3] (fun iv sv wr => ∃ (k : Nat) (S : List UInt8), iv = .int .i64 k ∧ sv = .string ⟨S.toArray⟩ ∧ S = PF ++ Lib.join ((L.map showT).take k) [44] ∧ k ≤ L.length ∧ Keeps (fun _ => False) w wr ∧ wr.cell? ⟨w.heap.size, 4, none⟩ = some (.slice a2 L.length c2)) (fun iv _ _ => L.length - (intOf iv).toNat)
    case atStart => exact ⟨0, _, rfl, rfl, by rw [← HPF.out]; simp [Lib.join_nil], Nat.zero_le _, KST, CST⟩
    case round =>
      obtain ⟨k, S, rfl, rfl, hS, hk, hkeep, z4⟩ := hrel
      have hSl : S.length ≤ 900000 := by
        rw [hS]
        have h1 := join_take_le (L.map showT) [44] k
        have h2 := HPL.out
        simp only [List.length_append] at h2 ⊢; omega
      have HSq := Lib.hid hS
      have K := Lib.hid hkeep
      clear hS hkeep
      by_cases hkl : k < L.length
      · obtain ⟨kk, hki⟩ : ∃ x, L[k]? = some x := ⟨_, List.getElem?_eq_getElem hkl⟩
        obtain ⟨b, off, uo, d1, f1, g1, um, ux, d2, f2, g2, rfl, hu, hlt, x0, x1, x2, x3, x4⟩ := (HC.out.keep K.out).at hki
        have hsl : (showT kk).length ≤ 900000 := by
          have h1 := join_item (L.map showT) [44] (showT kk) (List.mem_map_of_mem (List.mem_of_getElem? hki))
          have h2 := HPL.out
          simp only [List.length_append] at h2; omega
        have HQ : Hid (∀ W, Keeps (fun _ => False) wr W → Calls Tryd.prog 15 #[.agg #[.int .i64 uo, .slice d1 f1 g1, .int .i64 um, .int .i64 ux, .slice d2 f2 g2]] W fun e w' => e = .returned (strL (showT kk)) ∧ Keeps (fun _ => False) W w') := Lib.hid (fun W kW =>
          IH.out k kk hki P ⟨uo, .slice d1 f1 g1, um, ux, .slice d2 f2 g2⟩ W (hu.keepsTo kW (fun _ _ => id) (fun _ h => h)) hsl)
        have HJ := Lib.hid (join_step (L.map showT) [44] k (showT kk) (by rw [List.getElem?_map, hki]; rfl))
        have hlw : w.heap.size < wr.heap.size := lt_of_cell z4
        clear hki hu
        generalize showT kk = RP at *
        by_cases hk0 : k = 0
        · subst hk0
          simp only [Nat.zero_mul, Nat.add_zero] at x0 x1 x2 x3 x4
          go_wp2_with fail
          refine (HQ.out _ (Keeps.refl _ _)).mono ?_
          rintro e w2 ⟨rfl, k2⟩
          have z42 := k2.cell z4 id
          have K2 := Lib.hid (K.out.trans k2)
          clear k2
          unfold strL
          go_wp2_with fail
          go_roundw
          case rel => exact ⟨1, S ++ RP, by go_num, rfl, by rw [HJ.out, HSq.out]; simp [Lib.join_nil], by omega, K2.out, z42⟩
          case measure => simp [intOf]; omega
        · have g0 : decide ((0 : Int) < k) = true := by simp; omega
          have g1 : decide (0 < k) = true := by simp; omega
          go_wp2_with fail
          refine (HQ.out _ (Keeps.refl _ _)).mono ?_
          rintro e w2 ⟨rfl, k2⟩
          have z42 := k2.cell z4 id
          have K2 := Lib.hid (K.out.trans k2)
          clear k2
          unfold strL
          go_wp2_with fail
          go_roundw
          case rel => exact ⟨k + 1, S ++ [44] ++ RP, by go_num, by first | rfl | (refine congrArg Value.string ?_; apply ByteArray.ext; simp [ByteArray.data_append]), by rw [HJ.out, HSq.out, if_neg hk0]; simp, by omega, K2.out, z42⟩
          case measure => simp [intOf]; omega
      · have he : k = L.length := by omega
        subst he
        have E3 : Hid (RS = S ++ [41]) := Lib.hid (by
          have h1 := HSq.out
          rw [show (L.map showT).take L.length = L.map showT by rw [show L.length = (L.map showT).length by simp, List.take_length]] at h1
          rw [E.out, h1])
        go_wp2_with fail
        go_ret
        exact ⟨by rw [E3.out]; unfold strL; first | rfl | (refine congrArg Ending.returned (congrArg Value.string ?_); apply ByteArray.ext; simp [ByteArray.data_append]), K.out⟩
  · have f0 : (vo == 0) = false := by simpa using m0
    have f1 : (vo == 1) = false := by simpa using m1
    have f2 : (vo == 2) = false := by simpa using m2
    have f3 : (vo == 3) = false := by simpa using m3
    have f4 : (vo == 4) = false := by simpa using m4
    have f5 : (vo == 5) = false := by simpa using m5
    have f6 : (vo == 6) = false := by simpa using m6
    have E : Hid (RS = [63]) := Lib.hid (by rw [HS.out]; unfold nodeS; simp [m0, m1, m2, m3, m4, m5, m6])
    clear m0 m1 m2 m3 m4 m5 m6
    go_enter Tryd.func15, Tryd.ntmps15
    go_wp2_with fail
    go_ret
    exact ⟨by rw [E.out]; rfl, KA.out⟩
end Go.Proofs.YtinogeobkljngaaDoor
