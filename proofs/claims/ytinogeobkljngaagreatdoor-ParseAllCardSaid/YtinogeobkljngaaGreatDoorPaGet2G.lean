/-
  code.Get: what it computes.
-/
import Derived.Test.YtinogeobkljngaaGreatDoorMg1
import Derived.Outline
namespace Go.Proofs.YtinogeobkljngaaGreatDoor
open Go.RowKit
set_option linter.unusedVariables false
set_option linter.unusedSimpArgs false
set_option maxRecDepth 100000

def GetR (r0 : Nat) (L : List UInt8) (rv iv : Value) : Prop :=
  ∃ (i r : Nat), iv = .int .i64 i ∧ i ≤ L.length ∧ rv = .int .i64 r ∧ r < 128 * 64 ^ i ∧ tailP r0 L = tailP r (L.drop i)
theorem headP_lt (c : UInt8) : headP c < 128 ∨ True := Or.inr trivial

set_option maxHeartbeats 2000000 in
theorem get_none (a : Option Addr) (cap : Nat) (w : World) : Calls Tryz.prog 18 #[.slice a 0 cap] w fun e w' => e = .returned (.tuple #[.int .i64 65533, .int .i64 0]) ∧ w = w' := by
  go_enter Tryz.func18, Tryz.ntmps18
  go_wp2_with fail
  go_ret2
  exact ⟨rfl, rfl⟩

set_option maxHeartbeats 2000000 in
theorem get_some (b off cap n : Nat) (c : UInt8) (l : List UInt8) (w : World) (hn : n = l.length + 1) (hcap : n ≤ cap)
    (hc : ∀ i x, (c :: l)[i]? = some x → w.cell? ⟨b, off + i, none⟩ = some (.int .u8 (x.toNat : Int))) :
    Calls Tryz.prog 18 #[.slice (some ⟨b, off, none⟩) n cap] w fun e w' => e = .returned (.tuple #[.int .i64 (getP (c :: l)).1, .int .i64 ((getP (c :: l)).2 : Int)]) ∧ w = w' := by
  have hc8 := c.toNat_lt
  have c0 := hc 0 c rfl
  simp only [Nat.add_zero] at c0
  have HC := Lib.hid hc
  clear hc
  have HL := Lib.hid (fun W => length_any c.toNat W (by omega))
  have hn1 : 1 ≤ n := by omega
  have hn0 : ((n : Int) == 0) = false := by simp; omega
  have Hn := Lib.hid hn
  have Hg : Hid (getP (c :: l) = if lenP c.toNat = 0 ∨ l.length + 1 < lenP c.toNat then (65533, 1) else
    match tailP (headP c) (l.take (lenP c.toNat - 1)) with
    | none => (65533, 1)
    | some r => if sizP r = lenP c.toNat then ((r : Int), lenP c.toNat) else (65533, 1)) := Lib.hid rfl
  generalize getP (c :: l) = G at *
  have Hh : Hid (headP c = if 1 < lenP c.toNat then c.toNat % 2 ^ (7 - lenP c.toNat) else c.toNat) := Lib.hid rfl
  clear hn
  have hq : lenP c.toNat = 0 ∨ lenP c.toNat = 1 ∨ lenP c.toNat = 2 ∨ lenP c.toNat = 3 ∨ lenP c.toNat = 4 := by
    unfold lenP; split; · omega
    · split; · omega
      · split; · omega
        · split <;> omega
  by_cases hbad : lenP c.toNat = 0 ∨ n < lenP c.toNat
  · have E : Hid (G = (65533, 1)) := Lib.hid (by rw [Hg.out]; exact if_pos (by have := Hn.out; omega))
    clear Hg Hh
    generalize lenP c.toNat = q at *
    by_cases h0 : q = 0
    · subst h0
      go_enter Tryz.func18, Tryz.ntmps18
      go_wp2_with fail
      refine (HL.out _).mono ?_
      rintro e w1 ⟨rfl, rfl⟩
      go_wp2_with fail
      go_ret2
      exact ⟨by rw [E.out]; rfl, rfl⟩
    · have g1 : ((q : Int) == 0) = false := by simp; omega
      have g2 : decide ((n : Int) < (q : Int)) = true := by simp; omega
      have g3 : decide (n < q) = true := by simp; omega
      clear hbad hq
      go_enter Tryz.func18, Tryz.ntmps18
      go_wp2_with fail
      refine (HL.out _).mono ?_
      rintro e w1 ⟨rfl, rfl⟩
      go_wp2_with fail
      go_ret2
      exact ⟨by rw [E.out]; rfl, rfl⟩
  · have E : Hid (G = match tailP (headP c) (l.take (lenP c.toNat - 1)) with
    | none => (65533, 1)
    | some r => if sizP r = lenP c.toNat then ((r : Int), lenP c.toNat) else (65533, 1)) := Lib.hid (by rw [Hg.out]; exact if_neg (by have := Hn.out; omega))
    clear Hg
    have hL : (l.take (lenP c.toNat - 1)).length = lenP c.toNat - 1 := by rw [List.length_take]; have := Hn.out; omega
    have HcL : Hid (∀ i x, (l.take (lenP c.toNat - 1))[i]? = some x → w.cell? ⟨b, off + 1 + i, none⟩ = some (.int .u8 (x.toNat : Int))) := Lib.hid (fun i x hx => by
      rw [show off + 1 + i = off + (i + 1) by omega]
      refine HC.out (i + 1) x ?_
      rw [List.getElem?_take] at hx
      split at hx
      · simpa using hx
      · cases hx)
    generalize l.take (lenP c.toNat - 1) = L at *
    generalize headP c = r0 at *
    by_cases h1 : lenP c.toNat = 1
    · rw [h1] at HL Hh E hL
      have hc128 : c.toNat < 128 := by
        unfold lenP at h1
        split at h1
        · assumption
        · split at h1
          · omega
          · split at h1
            · omega
            · split at h1 <;> omega
      have hr0 : Hid (r0 = c.toNat) := Lib.hid (by rw [Hh.out]; rfl)
      have hr0b : r0 < 128 := by rw [hr0.out]; omega
      have hLl : L.length = 0 := by omega
      clear Hh hL hbad hq h1
      have g2 : decide ((n : Int) < 1) = false := by simp; omega
      by_cases hc1 : cap = 1
      · subst hc1
        obtain rfl : n = 1 := by omega
        go_enter Tryz.func18, Tryz.ntmps18
        go_wp2_with fail
        refine (HL.out _).mono ?_
        rintro e w1 ⟨rfl, rfl⟩
        go_wp2_with fail
        go_loop [5, 39] (fun rv iv => GetR r0 L rv iv) (fun _ iv => L.length - (intOf iv).toNat)
        case atStart => exact ⟨0, r0, rfl, Nat.zero_le _, by rw [hr0.out], by omega, rfl⟩
        case round =>
          obtain ⟨i, r, rfl, hi, rfl, hr, ht⟩ := hrel
          have hi4 : i ≤ 3 := by omega
          have hrb : r < 33554432 := by
            have : 64 ^ i ≤ 64 ^ 3 := Nat.pow_le_pow_right (by omega) hi4
            omega
          have Ht := Lib.hid ht
          have Hr := Lib.hid hr
          clear ht hr
          by_cases hil : i < L.length
          · exact absurd hil (by omega)
          · have hLi : i = L.length := by omega
            have EE : Hid (G = if sizP r = ((1 : Nat) : Int) then ((r : Int), 1) else (65533, 1)) := Lib.hid (by rw [E.out, Ht.out, List.drop_eq_nil_of_le (by omega), tailP])
            have HS := Lib.hid (fun W => size_any r W)
            by_cases hs : sizP r = 1
            · have E2 : Hid (G = ((r : Int), 1)) := Lib.hid (by rw [EE.out]; exact if_pos hs)
              rw [hs] at HS
              clear EE hs hLi
              go_wp2_with fail
              refine (HS.out _).mono ?_
              rintro e w1 ⟨rfl, rfl⟩
              go_wp2_with fail
              go_ret2
              exact ⟨by rw [E2.out]; rfl, rfl⟩
            · have E2 : Hid (G = (65533, 1)) := Lib.hid (by rw [EE.out]; exact if_neg hs)
              have g5 : (sizP r != 1) = true := by simp only [bne_iff_ne, ne_eq]; exact hs
              clear EE hs hLi
              generalize sizP r = sz at *
              go_wp2_with fail
              refine (HS.out _).mono ?_
              rintro e w1 ⟨rfl, rfl⟩
              go_wp2_with fail
              go_ret2
              exact ⟨by rw [E2.out]; rfl, rfl⟩
      · have g4 : ¬ cap - 1 = 0 := by omega
        go_enter Tryz.func18, Tryz.ntmps18
        go_wp2_with fail
        refine (HL.out _).mono ?_
        rintro e w1 ⟨rfl, rfl⟩
        go_wp2_with fail
        go_loop [5, 39] (fun rv iv => GetR r0 L rv iv) (fun _ iv => L.length - (intOf iv).toNat)
        case atStart => exact ⟨0, r0, rfl, Nat.zero_le _, by rw [hr0.out], by omega, rfl⟩
        case round =>
          obtain ⟨i, r, rfl, hi, rfl, hr, ht⟩ := hrel
          have hi4 : i ≤ 3 := by omega
          have hrb : r < 33554432 := by
            have : 64 ^ i ≤ 64 ^ 3 := Nat.pow_le_pow_right (by omega) hi4
            omega
          have Ht := Lib.hid ht
          have Hr := Lib.hid hr
          clear ht hr
          by_cases hil : i < L.length
          · exact absurd hil (by omega)
          · have hLi : i = L.length := by omega
            have EE : Hid (G = if sizP r = ((1 : Nat) : Int) then ((r : Int), 1) else (65533, 1)) := Lib.hid (by rw [E.out, Ht.out, List.drop_eq_nil_of_le (by omega), tailP])
            have HS := Lib.hid (fun W => size_any r W)
            by_cases hs : sizP r = 1
            · have E2 : Hid (G = ((r : Int), 1)) := Lib.hid (by rw [EE.out]; exact if_pos hs)
              rw [hs] at HS
              clear EE hs hLi
              go_wp2_with fail
              refine (HS.out _).mono ?_
              rintro e w1 ⟨rfl, rfl⟩
              go_wp2_with fail
              go_ret2
              exact ⟨by rw [E2.out]; rfl, rfl⟩
            · have E2 : Hid (G = (65533, 1)) := Lib.hid (by rw [EE.out]; exact if_neg hs)
              have g5 : (sizP r != 1) = true := by simp only [bne_iff_ne, ne_eq]; exact hs
              clear EE hs hLi
              generalize sizP r = sz at *
              go_wp2_with fail
              refine (HS.out _).mono ?_
              rintro e w1 ⟨rfl, rfl⟩
              go_wp2_with fail
              go_ret2
              exact ⟨by rw [E2.out]; rfl, rfl⟩
    · have hq2 : lenP c.toNat = 2 ∨ lenP c.toNat = 3 ∨ lenP c.toNat = 4 := by omega
      clear hq h1
      rcases hq2 with h2 | h2 | h2
      · rw [h2] at HL Hh E hL
        have hr0 : Hid (r0 = c.toNat % 2 ^ (7 - 2)) := Lib.hid (by rw [Hh.out]; rfl)
        have hr0b : r0 < 128 := by rw [hr0.out]; omega
        have hqn : 2 ≤ n := by omega
        have hLl : L.length = 2 - 1 := hL
        have g2 : decide ((n : Int) < 2) = false := by simp; omega
        have g4 : ¬ cap = 1 := by omega
        clear hL hbad h2 Hh
        go_enter Tryz.func18, Tryz.ntmps18
        go_wp2_with fail
        refine (HL.out _).mono ?_
        rintro e w1 ⟨rfl, rfl⟩
        go_wp2_with fail
        go_loop [5, 39] (fun rv iv => GetR r0 L rv iv) (fun _ iv => L.length - (intOf iv).toNat)
        case atStart => exact ⟨0, r0, rfl, Nat.zero_le _, by rw [hr0.out]; have h6 := and_pow c.toNat 5 (by omega) (by omega); exact congrArg (Value.int .i64) (by simpa using h6), by omega, rfl⟩
        case round =>
          obtain ⟨i, r, rfl, hi, rfl, hr, ht⟩ := hrel
          have hi4 : i ≤ 3 := by omega
          have hrb : r < 33554432 := by
            have : 64 ^ i ≤ 64 ^ 3 := Nat.pow_le_pow_right (by omega) hi4
            omega
          have Ht := Lib.hid ht
          have Hr := Lib.hid hr
          clear ht hr
          by_cases hil : i < L.length
          · obtain ⟨x, hx⟩ : ∃ x, L[i]? = some x := ⟨_, List.getElem?_eq_getElem hil⟩
            have cx := HcL.out i x hx
            have Hd : Hid (L.drop i = x :: L.drop (i + 1)) := Lib.hid (by
              obtain ⟨h1, h2⟩ := List.getElem?_eq_some_iff.1 hx
              rw [List.drop_eq_getElem_cons h1, h2])
            have hx8 := x.toNat_lt
            have hil2 : i < 2 - 1 := by omega
            clear hx
            by_cases hx2 : x.toNat / 64 = 2
            · have g3 : ((x.toNat : Int) / 64 != 2) = false := by
                have : (x.toNat : Int) / 64 = 2 := by omega
                rw [this]; rfl
              have Hx2 := Lib.hid hx2
              clear hx2
              go_wp2_with fail
              go_round
              case rel =>
                refine ⟨i + 1, r * 64 + x.toNat % 64, by go_num, by omega, ?_, ?_, ?_⟩
                · have := or_64 r (x.toNat % 64) (by omega) (by omega)
                  rw [show ((x.toNat : Int) % 64) = ((x.toNat % 64 : Nat) : Int) by omega, this]
                  exact congrArg (Value.int .i64) (by omega)
                · have h5 := Hr.out
                  rw [Nat.pow_succ]; omega
                · rw [Ht.out, Hd.out, tailP, if_pos Hx2.out]
              case measure => simp [intOf]; omega
            · have g3 : ((x.toNat : Int) / 64 != 2) = true := by
                simp only [bne_iff_ne, ne_eq]; omega
              have EE : Hid (G = (65533, 1)) := Lib.hid (by rw [E.out, Ht.out, Hd.out, tailP, if_neg hx2])
              clear hx2
              go_wp2_with fail
              go_ret2
              exact ⟨by rw [EE.out]; rfl, rfl⟩
          · have hLi : i = L.length := by omega
            have EE : Hid (G = if sizP r = ((2 : Nat) : Int) then ((r : Int), 2) else (65533, 1)) := Lib.hid (by rw [E.out, Ht.out, List.drop_eq_nil_of_le (by omega), tailP])
            have HS := Lib.hid (fun W => size_any r W)
            by_cases hs : sizP r = 2
            · have E2 : Hid (G = ((r : Int), 2)) := Lib.hid (by rw [EE.out]; exact if_pos hs)
              rw [hs] at HS
              clear EE hs hLi
              go_wp2_with fail
              refine (HS.out _).mono ?_
              rintro e w1 ⟨rfl, rfl⟩
              go_wp2_with fail
              go_ret2
              exact ⟨by rw [E2.out]; rfl, rfl⟩
            · have E2 : Hid (G = (65533, 1)) := Lib.hid (by rw [EE.out]; exact if_neg hs)
              have g5 : (sizP r != 2) = true := by simp only [bne_iff_ne, ne_eq]; exact hs
              clear EE hs hLi
              generalize sizP r = sz at *
              go_wp2_with fail
              refine (HS.out _).mono ?_
              rintro e w1 ⟨rfl, rfl⟩
              go_wp2_with fail
              go_ret2
              exact ⟨by rw [E2.out]; rfl, rfl⟩
      · rw [h2] at HL Hh E hL
        have hr0 : Hid (r0 = c.toNat % 2 ^ (7 - 3)) := Lib.hid (by rw [Hh.out]; rfl)
        have hr0b : r0 < 128 := by rw [hr0.out]; omega
        have hqn : 3 ≤ n := by omega
        have hLl : L.length = 3 - 1 := hL
        have g2 : decide ((n : Int) < 3) = false := by simp; omega
        have g4 : ¬ cap = 1 := by omega
        clear hL hbad h2 Hh
        go_enter Tryz.func18, Tryz.ntmps18
        go_wp2_with fail
        refine (HL.out _).mono ?_
        rintro e w1 ⟨rfl, rfl⟩
        go_wp2_with fail
        go_loop [5, 39] (fun rv iv => GetR r0 L rv iv) (fun _ iv => L.length - (intOf iv).toNat)
        case atStart => exact ⟨0, r0, rfl, Nat.zero_le _, by rw [hr0.out]; have h6 := and_pow c.toNat 4 (by omega) (by omega); exact congrArg (Value.int .i64) (by simpa using h6), by omega, rfl⟩
        case round =>
          obtain ⟨i, r, rfl, hi, rfl, hr, ht⟩ := hrel
          have hi4 : i ≤ 3 := by omega
          have hrb : r < 33554432 := by
            have : 64 ^ i ≤ 64 ^ 3 := Nat.pow_le_pow_right (by omega) hi4
            omega
          have Ht := Lib.hid ht
          have Hr := Lib.hid hr
          clear ht hr
          by_cases hil : i < L.length
          · obtain ⟨x, hx⟩ : ∃ x, L[i]? = some x := ⟨_, List.getElem?_eq_getElem hil⟩
            have cx := HcL.out i x hx
            have Hd : Hid (L.drop i = x :: L.drop (i + 1)) := Lib.hid (by
              obtain ⟨h1, h2⟩ := List.getElem?_eq_some_iff.1 hx
              rw [List.drop_eq_getElem_cons h1, h2])
            have hx8 := x.toNat_lt
            have hil2 : i < 3 - 1 := by omega
            clear hx
            by_cases hx2 : x.toNat / 64 = 2
            · have g3 : ((x.toNat : Int) / 64 != 2) = false := by
                have : (x.toNat : Int) / 64 = 2 := by omega
                rw [this]; rfl
              have Hx2 := Lib.hid hx2
              clear hx2
              go_wp2_with fail
              go_round
              case rel =>
                refine ⟨i + 1, r * 64 + x.toNat % 64, by go_num, by omega, ?_, ?_, ?_⟩
                · have := or_64 r (x.toNat % 64) (by omega) (by omega)
                  rw [show ((x.toNat : Int) % 64) = ((x.toNat % 64 : Nat) : Int) by omega, this]
                  exact congrArg (Value.int .i64) (by omega)
                · have h5 := Hr.out
                  rw [Nat.pow_succ]; omega
                · rw [Ht.out, Hd.out, tailP, if_pos Hx2.out]
              case measure => simp [intOf]; omega
            · have g3 : ((x.toNat : Int) / 64 != 2) = true := by
                simp only [bne_iff_ne, ne_eq]; omega
              have EE : Hid (G = (65533, 1)) := Lib.hid (by rw [E.out, Ht.out, Hd.out, tailP, if_neg hx2])
              clear hx2
              go_wp2_with fail
              go_ret2
              exact ⟨by rw [EE.out]; rfl, rfl⟩
          · have hLi : i = L.length := by omega
            have EE : Hid (G = if sizP r = ((3 : Nat) : Int) then ((r : Int), 3) else (65533, 1)) := Lib.hid (by rw [E.out, Ht.out, List.drop_eq_nil_of_le (by omega), tailP])
            have HS := Lib.hid (fun W => size_any r W)
            by_cases hs : sizP r = 3
            · have E2 : Hid (G = ((r : Int), 3)) := Lib.hid (by rw [EE.out]; exact if_pos hs)
              rw [hs] at HS
              clear EE hs hLi
              go_wp2_with fail
              refine (HS.out _).mono ?_
              rintro e w1 ⟨rfl, rfl⟩
              go_wp2_with fail
              go_ret2
              exact ⟨by rw [E2.out]; rfl, rfl⟩
            · have E2 : Hid (G = (65533, 1)) := Lib.hid (by rw [EE.out]; exact if_neg hs)
              have g5 : (sizP r != 3) = true := by simp only [bne_iff_ne, ne_eq]; exact hs
              clear EE hs hLi
              generalize sizP r = sz at *
              go_wp2_with fail
              refine (HS.out _).mono ?_
              rintro e w1 ⟨rfl, rfl⟩
              go_wp2_with fail
              go_ret2
              exact ⟨by rw [E2.out]; rfl, rfl⟩
      · rw [h2] at HL Hh E hL
        have hr0 : Hid (r0 = c.toNat % 2 ^ (7 - 4)) := Lib.hid (by rw [Hh.out]; rfl)
        have hr0b : r0 < 128 := by rw [hr0.out]; omega
        have hqn : 4 ≤ n := by omega
        have hLl : L.length = 4 - 1 := hL
        have g2 : decide ((n : Int) < 4) = false := by simp; omega
        have g4 : ¬ cap = 1 := by omega
        clear hL hbad h2 Hh
        go_enter Tryz.func18, Tryz.ntmps18
        go_wp2_with fail
        refine (HL.out _).mono ?_
        rintro e w1 ⟨rfl, rfl⟩
        go_wp2_with fail
        go_loop [5, 39] (fun rv iv => GetR r0 L rv iv) (fun _ iv => L.length - (intOf iv).toNat)
        case atStart => exact ⟨0, r0, rfl, Nat.zero_le _, by rw [hr0.out]; have h6 := and_pow c.toNat 3 (by omega) (by omega); exact congrArg (Value.int .i64) (by simpa using h6), by omega, rfl⟩
        case round =>
          obtain ⟨i, r, rfl, hi, rfl, hr, ht⟩ := hrel
          have hi4 : i ≤ 3 := by omega
          have hrb : r < 33554432 := by
            have : 64 ^ i ≤ 64 ^ 3 := Nat.pow_le_pow_right (by omega) hi4
            omega
          have Ht := Lib.hid ht
          have Hr := Lib.hid hr
          clear ht hr
          by_cases hil : i < L.length
          · obtain ⟨x, hx⟩ : ∃ x, L[i]? = some x := ⟨_, List.getElem?_eq_getElem hil⟩
            have cx := HcL.out i x hx
            have Hd : Hid (L.drop i = x :: L.drop (i + 1)) := Lib.hid (by
              obtain ⟨h1, h2⟩ := List.getElem?_eq_some_iff.1 hx
              rw [List.drop_eq_getElem_cons h1, h2])
            have hx8 := x.toNat_lt
            have hil2 : i < 4 - 1 := by omega
            clear hx
            by_cases hx2 : x.toNat / 64 = 2
            · have g3 : ((x.toNat : Int) / 64 != 2) = false := by
                have : (x.toNat : Int) / 64 = 2 := by omega
                rw [this]; rfl
              have Hx2 := Lib.hid hx2
              clear hx2
              go_wp2_with fail
              go_round
              case rel =>
                refine ⟨i + 1, r * 64 + x.toNat % 64, by go_num, by omega, ?_, ?_, ?_⟩
                · have := or_64 r (x.toNat % 64) (by omega) (by omega)
                  rw [show ((x.toNat : Int) % 64) = ((x.toNat % 64 : Nat) : Int) by omega, this]
                  exact congrArg (Value.int .i64) (by omega)
                · have h5 := Hr.out
                  rw [Nat.pow_succ]; omega
                · rw [Ht.out, Hd.out, tailP, if_pos Hx2.out]
              case measure => simp [intOf]; omega
            · have g3 : ((x.toNat : Int) / 64 != 2) = true := by
                simp only [bne_iff_ne, ne_eq]; omega
              have EE : Hid (G = (65533, 1)) := Lib.hid (by rw [E.out, Ht.out, Hd.out, tailP, if_neg hx2])
              clear hx2
              go_wp2_with fail
              go_ret2
              exact ⟨by rw [EE.out]; rfl, rfl⟩
          · have hLi : i = L.length := by omega
            have EE : Hid (G = if sizP r = ((4 : Nat) : Int) then ((r : Int), 4) else (65533, 1)) := Lib.hid (by rw [E.out, Ht.out, List.drop_eq_nil_of_le (by omega), tailP])
            have HS := Lib.hid (fun W => size_any r W)
            by_cases hs : sizP r = 4
            · have E2 : Hid (G = ((r : Int), 4)) := Lib.hid (by rw [EE.out]; exact if_pos hs)
              rw [hs] at HS
              clear EE hs hLi
              go_wp2_with fail
              refine (HS.out _).mono ?_
              rintro e w1 ⟨rfl, rfl⟩
              go_wp2_with fail
              go_ret2
              exact ⟨by rw [E2.out]; rfl, rfl⟩
            · have E2 : Hid (G = (65533, 1)) := Lib.hid (by rw [EE.out]; exact if_neg hs)
              have g5 : (sizP r != 4) = true := by simp only [bne_iff_ne, ne_eq]; exact hs
              clear EE hs hLi
              generalize sizP r = sz at *
              go_wp2_with fail
              refine (HS.out _).mono ?_
              rintro e w1 ⟨rfl, rfl⟩
              go_wp2_with fail
              go_ret2
              exact ⟨by rw [E2.out]; rfl, rfl⟩
end Go.Proofs.YtinogeobkljngaaGreatDoor
