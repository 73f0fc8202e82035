/-
  Several texts in one: code.Get: what it computes. parse.points: what it computes. The parser's state, and its smallest steps: peek, next, take, want. Sets of numbers as lists of ranges: the plain laws. No program in sight. The walks of the document's own words on sets (reedbedref08): Has, Same, Right, Ends. Trees as data, and where they lie in memory. The parser's take, want, number. The parser's count. slices.SortFunc over an owned row of ranges: a permutation, in the order of the lower ends. How set.Of works, in plain words: clamp, sort, merge. The walk of reedbedref08.Ends: some numbers, all within the set's bounds. The walk of set.Of. The walk of slices.Equal on ranges. The walks of set.Right and set.Has, and of what they call of slices. set.Not in plain words. The walk of set.Not. The walks of slices.Grow, slices.Concat (of two), set.Or, set.And. The walks of set.Count, Only, Not. For the laws on sets: the law's own awake, ranges that are new, ranges that came in. The named sets: plain words and the walk of the document's own 'Named'. The walk of set.Named. parse.among, parse.one. The parser's escape, point. The parser's class. A program's instructions in memory; slices.Clone, (*maker).put. (*maker).put. (*maker).split, jump. (*maker).jump. The parser's char, join. How many nodes a tree has: the program's Size, the document's Size. Are two trees the same: the program's Same (and slices.EqualFunc). (*maker).node, rep: chars, cats, and a char once or more often. prog.Length. Printed by mk_eql.py.
-/
import Derived.Test.YtgobcnheemocnaaGreatDoorMg21
import Derived.Outline
import Derived.Lib.ConvBytes
import Derived.Deep.Cut
import Derived.Deep.QuietTactic
import Derived.BigQuiet
import Derived.Lib.Hide
import Derived.Test.YtgobcnheemocnaaGreatDoorRows
import Derived.Deep.RegionWith
import Derived.Test.YtgobcnheemocnaaGreatDoorShelfS
import Derived.Deep.LoopGhost
import Derived.RegionTactic
import Derived.Laws.AppendOwnNone
import Derived.Deep.SlicePairs
import Derived.ChangeArms
import Derived.Deep.RegionHeld3
import Derived.Deep.CutRange
import Derived.Test.YtgobcnheemocnaaGreatDoorShelf
import Derived.Lib.Bytealg
import Derived.Deep.CutBlock
import Derived.BigRegion
import Derived.Deep.AppendLies
import Derived.Lib.SliceRun
import Derived.Deep.RegionLaw
import Derived.Handy
section
namespace Go.Proofs.YtgobcnheemocnaaGreatDoor
open Go.RowKit
set_option linter.unusedVariables false
set_option linter.unusedSimpArgs false
set_option maxRecDepth 100000

def GetR (r0 : Nat) (L : List UInt8) (rv iv : Value) : Prop :=
  ∃ (i r : Nat), iv = .int .i64 i ∧ i ≤ L.length ∧ rv = .int .i64 r ∧ r < 128 * 64 ^ i ∧ tailP r0 L = tailP r (L.drop i)
set_option maxHeartbeats 2000000 in
theorem get_some (b off cap n : Nat) (c : UInt8) (l : List UInt8) (w : World) (hn : n = l.length + 1) (hcap : n ≤ cap)
    (hc : ∀ i x, (c :: l)[i]? = some x → w.cell? ⟨b, off + i, none⟩ = some (.int .u8 (x.toNat : Int))) :
    Calls Tryz.prog 72 #[.slice (some ⟨b, off, none⟩) n cap] w fun e w' => e = .returned (.tuple #[.int .i64 (getP (c :: l)).1, .int .i64 ((getP (c :: l)).2 : Int)]) ∧ w = w' := by
  have hc8 := c.toNat_lt
  have c0 := hc 0 c rfl
  simp only [Nat.add_zero] at c0
  have HC := Lib.hid hc
  clear hc
  have HL := Lib.hid (fun W => length_any c.toNat W (by omega))
  have hn1 : 1 ≤ n := by omega
  have hn0 : ((n : Int) == 0) = false := by simp; omega
  have Hn := Lib.hid hn
  have Hg : Hid (getP (c :: l) = if lenP c.toNat = 0 ∨ l.length + 1 < lenP c.toNat then (65533, 1) else
    match tailP (headP c) (l.take (lenP c.toNat - 1)) with
    | none => (65533, 1)
    | some r => if sizP r = lenP c.toNat then ((r : Int), lenP c.toNat) else (65533, 1)) := Lib.hid rfl
  generalize getP (c :: l) = G at *
  have Hh : Hid (headP c = if 1 < lenP c.toNat then c.toNat % 2 ^ (7 - lenP c.toNat) else c.toNat) := Lib.hid rfl
  clear hn
  have hq : lenP c.toNat = 0 ∨ lenP c.toNat = 1 ∨ lenP c.toNat = 2 ∨ lenP c.toNat = 3 ∨ lenP c.toNat = 4 := by
    unfold lenP; split; · omega
    · split; · omega
      · split; · omega
        · split <;> omega
  by_cases hbad : lenP c.toNat = 0 ∨ n < lenP c.toNat
  · have E : Hid (G = (65533, 1)) := Lib.hid (by rw [Hg.out]; exact if_pos (by have := Hn.out; omega))
    clear Hg Hh
    generalize lenP c.toNat = q at *
    by_cases h0 : q = 0
    · subst h0
      go_enter Tryz.func72, Tryz.ntmps72
      go_wp2_with fail
      refine (HL.out _).mono ?_
      rintro e w1 ⟨rfl, rfl⟩
      go_wp2_with fail
      go_ret2
      exact ⟨by rw [E.out]; rfl, rfl⟩
    · have g1 : ((q : Int) == 0) = false := by simp; omega
      have g2 : decide ((n : Int) < (q : Int)) = true := by simp; omega
      have g3 : decide (n < q) = true := by simp; omega
      clear hbad hq
      go_enter Tryz.func72, Tryz.ntmps72
      go_wp2_with fail
      refine (HL.out _).mono ?_
      rintro e w1 ⟨rfl, rfl⟩
      go_wp2_with fail
      go_ret2
      exact ⟨by rw [E.out]; rfl, rfl⟩
  · have E : Hid (G = match tailP (headP c) (l.take (lenP c.toNat - 1)) with
    | none => (65533, 1)
    | some r => if sizP r = lenP c.toNat then ((r : Int), lenP c.toNat) else (65533, 1)) := Lib.hid (by rw [Hg.out]; exact if_neg (by have := Hn.out; omega))
    clear Hg
    have hL : (l.take (lenP c.toNat - 1)).length = lenP c.toNat - 1 := by rw [List.length_take]; have := Hn.out; omega
    have HcL : Hid (∀ i x, (l.take (lenP c.toNat - 1))[i]? = some x → w.cell? ⟨b, off + 1 + i, none⟩ = some (.int .u8 (x.toNat : Int))) := Lib.hid (fun i x hx => by
      rw [show off + 1 + i = off + (i + 1) by omega]
      refine HC.out (i + 1) x ?_
      rw [List.getElem?_take] at hx
      split at hx
      · simpa using hx
      · cases hx)
    generalize l.take (lenP c.toNat - 1) = L at *
    generalize headP c = r0 at *
    by_cases h1 : lenP c.toNat = 1
    · rw [h1] at HL Hh E hL
      have hc128 : c.toNat < 128 := by
        unfold lenP at h1
        split at h1
        · assumption
        · split at h1
          · omega
          · split at h1
            · omega
            · split at h1 <;> omega
      have hr0 : Hid (r0 = c.toNat) := Lib.hid (by rw [Hh.out]; rfl)
      have hr0b : r0 < 128 := by rw [hr0.out]; omega
      have hLl : L.length = 0 := by omega
      clear Hh hL hbad hq h1
      have g2 : decide ((n : Int) < 1) = false := by simp; omega
      by_cases hc1 : cap = 1
      · subst hc1
        obtain rfl : n = 1 := by omega
        go_enter Tryz.func72, Tryz.ntmps72
        go_wp2_with fail
        refine (HL.out _).mono ?_
        rintro e w1 ⟨rfl, rfl⟩
        go_wp2_with fail
        go_loop [5, 39] (fun rv iv => GetR r0 L rv iv) (fun _ iv => L.length - (intOf iv).toNat)
        case atStart => exact ⟨0, r0, rfl, Nat.zero_le _, by rw [hr0.out], by omega, rfl⟩
        case round =>
          obtain ⟨i, r, rfl, hi, rfl, hr, ht⟩ := hrel
          have hi4 : i ≤ 3 := by omega
          have hrb : r < 33554432 := by
            have : 64 ^ i ≤ 64 ^ 3 := Nat.pow_le_pow_right (by omega) hi4
            omega
          have Ht := Lib.hid ht
          have Hr := Lib.hid hr
          clear ht hr
          by_cases hil : i < L.length
          · exact absurd hil (by omega)
          · have hLi : i = L.length := by omega
            have EE : Hid (G = if sizP r = ((1 : Nat) : Int) then ((r : Int), 1) else (65533, 1)) := Lib.hid (by rw [E.out, Ht.out, List.drop_eq_nil_of_le (by omega), tailP])
            have HS := Lib.hid (fun W => size_any r W)
            by_cases hs : sizP r = 1
            · have E2 : Hid (G = ((r : Int), 1)) := Lib.hid (by rw [EE.out]; exact if_pos hs)
              rw [hs] at HS
              clear EE hs hLi
              go_wp2_with fail
              refine (HS.out _).mono ?_
              rintro e w1 ⟨rfl, rfl⟩
              go_wp2_with fail
              go_ret2
              exact ⟨by rw [E2.out]; rfl, rfl⟩
            · have E2 : Hid (G = (65533, 1)) := Lib.hid (by rw [EE.out]; exact if_neg hs)
              have g5 : (sizP r != 1) = true := by simp only [bne_iff_ne, ne_eq]; exact hs
              clear EE hs hLi
              generalize sizP r = sz at *
              go_wp2_with fail
              refine (HS.out _).mono ?_
              rintro e w1 ⟨rfl, rfl⟩
              go_wp2_with fail
              go_ret2
              exact ⟨by rw [E2.out]; rfl, rfl⟩
      · have g4 : ¬ cap - 1 = 0 := by omega
        go_enter Tryz.func72, Tryz.ntmps72
        go_wp2_with fail
        refine (HL.out _).mono ?_
        rintro e w1 ⟨rfl, rfl⟩
        go_wp2_with fail
        go_loop [5, 39] (fun rv iv => GetR r0 L rv iv) (fun _ iv => L.length - (intOf iv).toNat)
        case atStart => exact ⟨0, r0, rfl, Nat.zero_le _, by rw [hr0.out], by omega, rfl⟩
        case round =>
          obtain ⟨i, r, rfl, hi, rfl, hr, ht⟩ := hrel
          have hi4 : i ≤ 3 := by omega
          have hrb : r < 33554432 := by
            have : 64 ^ i ≤ 64 ^ 3 := Nat.pow_le_pow_right (by omega) hi4
            omega
          have Ht := Lib.hid ht
          have Hr := Lib.hid hr
          clear ht hr
          by_cases hil : i < L.length
          · exact absurd hil (by omega)
          · have hLi : i = L.length := by omega
            have EE : Hid (G = if sizP r = ((1 : Nat) : Int) then ((r : Int), 1) else (65533, 1)) := Lib.hid (by rw [E.out, Ht.out, List.drop_eq_nil_of_le (by omega), tailP])
            have HS := Lib.hid (fun W => size_any r W)
            by_cases hs : sizP r = 1
            · have E2 : Hid (G = ((r : Int), 1)) := Lib.hid (by rw [EE.out]; exact if_pos hs)
              rw [hs] at HS
              clear EE hs hLi
              go_wp2_with fail
              refine (HS.out _).mono ?_
              rintro e w1 ⟨rfl, rfl⟩
              go_wp2_with fail
              go_ret2
              exact ⟨by rw [E2.out]; rfl, rfl⟩
            · have E2 : Hid (G = (65533, 1)) := Lib.hid (by rw [EE.out]; exact if_neg hs)
              have g5 : (sizP r != 1) = true := by simp only [bne_iff_ne, ne_eq]; exact hs
              clear EE hs hLi
              generalize sizP r = sz at *
              go_wp2_with fail
              refine (HS.out _).mono ?_
              rintro e w1 ⟨rfl, rfl⟩
              go_wp2_with fail
              go_ret2
              exact ⟨by rw [E2.out]; rfl, rfl⟩
    · have hq2 : lenP c.toNat = 2 ∨ lenP c.toNat = 3 ∨ lenP c.toNat = 4 := by omega
      clear hq h1
      rcases hq2 with h2 | h2 | h2
      · rw [h2] at HL Hh E hL
        have hr0 : Hid (r0 = c.toNat % 2 ^ (7 - 2)) := Lib.hid (by rw [Hh.out]; rfl)
        have hr0b : r0 < 128 := by rw [hr0.out]; omega
        have hqn : 2 ≤ n := by omega
        have hLl : L.length = 2 - 1 := hL
        have g2 : decide ((n : Int) < 2) = false := by simp; omega
        have g4 : ¬ cap = 1 := by omega
        clear hL hbad h2 Hh
        go_enter Tryz.func72, Tryz.ntmps72
        go_wp2_with fail
        refine (HL.out _).mono ?_
        rintro e w1 ⟨rfl, rfl⟩
        go_wp2_with fail
        go_loop [5, 39] (fun rv iv => GetR r0 L rv iv) (fun _ iv => L.length - (intOf iv).toNat)
        case atStart => exact ⟨0, r0, rfl, Nat.zero_le _, by rw [hr0.out]; have h6 := and_pow c.toNat 5 (by omega) (by omega); exact congrArg (Value.int .i64) (by simpa using h6), by omega, rfl⟩
        case round =>
          obtain ⟨i, r, rfl, hi, rfl, hr, ht⟩ := hrel
          have hi4 : i ≤ 3 := by omega
          have hrb : r < 33554432 := by
            have : 64 ^ i ≤ 64 ^ 3 := Nat.pow_le_pow_right (by omega) hi4
            omega
          have Ht := Lib.hid ht
          have Hr := Lib.hid hr
          clear ht hr
          by_cases hil : i < L.length
          · obtain ⟨x, hx⟩ : ∃ x, L[i]? = some x := ⟨_, List.getElem?_eq_getElem hil⟩
            have cx := HcL.out i x hx
            have Hd : Hid (L.drop i = x :: L.drop (i + 1)) := Lib.hid (by
              obtain ⟨h1, h2⟩ := List.getElem?_eq_some_iff.1 hx
              rw [List.drop_eq_getElem_cons h1, h2])
            have hx8 := x.toNat_lt
            have hil2 : i < 2 - 1 := by omega
            clear hx
            by_cases hx2 : x.toNat / 64 = 2
            · have g3 : ((x.toNat : Int) / 64 != 2) = false := by
                have : (x.toNat : Int) / 64 = 2 := by omega
                rw [this]; rfl
              have Hx2 := Lib.hid hx2
              clear hx2
              go_wp2_with fail
              go_round
              case rel =>
                refine ⟨i + 1, r * 64 + x.toNat % 64, by go_num, by omega, ?_, ?_, ?_⟩
                · have := or_64 r (x.toNat % 64) (by omega) (by omega)
                  rw [show ((x.toNat : Int) % 64) = ((x.toNat % 64 : Nat) : Int) by omega, this]
                  exact congrArg (Value.int .i64) (by omega)
                · have h5 := Hr.out
                  rw [Nat.pow_succ]; omega
                · rw [Ht.out, Hd.out, tailP, if_pos Hx2.out]
              case measure => simp [intOf]; omega
            · have g3 : ((x.toNat : Int) / 64 != 2) = true := by
                simp only [bne_iff_ne, ne_eq]; omega
              have EE : Hid (G = (65533, 1)) := Lib.hid (by rw [E.out, Ht.out, Hd.out, tailP, if_neg hx2])
              clear hx2
              go_wp2_with fail
              go_ret2
              exact ⟨by rw [EE.out]; rfl, rfl⟩
          · have hLi : i = L.length := by omega
            have EE : Hid (G = if sizP r = ((2 : Nat) : Int) then ((r : Int), 2) else (65533, 1)) := Lib.hid (by rw [E.out, Ht.out, List.drop_eq_nil_of_le (by omega), tailP])
            have HS := Lib.hid (fun W => size_any r W)
            by_cases hs : sizP r = 2
            · have E2 : Hid (G = ((r : Int), 2)) := Lib.hid (by rw [EE.out]; exact if_pos hs)
              rw [hs] at HS
              clear EE hs hLi
              go_wp2_with fail
              refine (HS.out _).mono ?_
              rintro e w1 ⟨rfl, rfl⟩
              go_wp2_with fail
              go_ret2
              exact ⟨by rw [E2.out]; rfl, rfl⟩
            · have E2 : Hid (G = (65533, 1)) := Lib.hid (by rw [EE.out]; exact if_neg hs)
              have g5 : (sizP r != 2) = true := by simp only [bne_iff_ne, ne_eq]; exact hs
              clear EE hs hLi
              generalize sizP r = sz at *
              go_wp2_with fail
              refine (HS.out _).mono ?_
              rintro e w1 ⟨rfl, rfl⟩
              go_wp2_with fail
              go_ret2
              exact ⟨by rw [E2.out]; rfl, rfl⟩
      · rw [h2] at HL Hh E hL
        have hr0 : Hid (r0 = c.toNat % 2 ^ (7 - 3)) := Lib.hid (by rw [Hh.out]; rfl)
        have hr0b : r0 < 128 := by rw [hr0.out]; omega
        have hqn : 3 ≤ n := by omega
        have hLl : L.length = 3 - 1 := hL
        have g2 : decide ((n : Int) < 3) = false := by simp; omega
        have g4 : ¬ cap = 1 := by omega
        clear hL hbad h2 Hh
        go_enter Tryz.func72, Tryz.ntmps72
        go_wp2_with fail
        refine (HL.out _).mono ?_
        rintro e w1 ⟨rfl, rfl⟩
        go_wp2_with fail
        go_loop [5, 39] (fun rv iv => GetR r0 L rv iv) (fun _ iv => L.length - (intOf iv).toNat)
        case atStart => exact ⟨0, r0, rfl, Nat.zero_le _, by rw [hr0.out]; have h6 := and_pow c.toNat 4 (by omega) (by omega); exact congrArg (Value.int .i64) (by simpa using h6), by omega, rfl⟩
        case round =>
          obtain ⟨i, r, rfl, hi, rfl, hr, ht⟩ := hrel
          have hi4 : i ≤ 3 := by omega
          have hrb : r < 33554432 := by
            have : 64 ^ i ≤ 64 ^ 3 := Nat.pow_le_pow_right (by omega) hi4
            omega
          have Ht := Lib.hid ht
          have Hr := Lib.hid hr
          clear ht hr
          by_cases hil : i < L.length
          · obtain ⟨x, hx⟩ : ∃ x, L[i]? = some x := ⟨_, List.getElem?_eq_getElem hil⟩
            have cx := HcL.out i x hx
            have Hd : Hid (L.drop i = x :: L.drop (i + 1)) := Lib.hid (by
              obtain ⟨h1, h2⟩ := List.getElem?_eq_some_iff.1 hx
              rw [List.drop_eq_getElem_cons h1, h2])
            have hx8 := x.toNat_lt
            have hil2 : i < 3 - 1 := by omega
            clear hx
            by_cases hx2 : x.toNat / 64 = 2
            · have g3 : ((x.toNat : Int) / 64 != 2) = false := by
                have : (x.toNat : Int) / 64 = 2 := by omega
                rw [this]; rfl
              have Hx2 := Lib.hid hx2
              clear hx2
              go_wp2_with fail
              go_round
              case rel =>
                refine ⟨i + 1, r * 64 + x.toNat % 64, by go_num, by omega, ?_, ?_, ?_⟩
                · have := or_64 r (x.toNat % 64) (by omega) (by omega)
                  rw [show ((x.toNat : Int) % 64) = ((x.toNat % 64 : Nat) : Int) by omega, this]
                  exact congrArg (Value.int .i64) (by omega)
                · have h5 := Hr.out
                  rw [Nat.pow_succ]; omega
                · rw [Ht.out, Hd.out, tailP, if_pos Hx2.out]
              case measure => simp [intOf]; omega
            · have g3 : ((x.toNat : Int) / 64 != 2) = true := by
                simp only [bne_iff_ne, ne_eq]; omega
              have EE : Hid (G = (65533, 1)) := Lib.hid (by rw [E.out, Ht.out, Hd.out, tailP, if_neg hx2])
              clear hx2
              go_wp2_with fail
              go_ret2
              exact ⟨by rw [EE.out]; rfl, rfl⟩
          · have hLi : i = L.length := by omega
            have EE : Hid (G = if sizP r = ((3 : Nat) : Int) then ((r : Int), 3) else (65533, 1)) := Lib.hid (by rw [E.out, Ht.out, List.drop_eq_nil_of_le (by omega), tailP])
            have HS := Lib.hid (fun W => size_any r W)
            by_cases hs : sizP r = 3
            · have E2 : Hid (G = ((r : Int), 3)) := Lib.hid (by rw [EE.out]; exact if_pos hs)
              rw [hs] at HS
              clear EE hs hLi
              go_wp2_with fail
              refine (HS.out _).mono ?_
              rintro e w1 ⟨rfl, rfl⟩
              go_wp2_with fail
              go_ret2
              exact ⟨by rw [E2.out]; rfl, rfl⟩
            · have E2 : Hid (G = (65533, 1)) := Lib.hid (by rw [EE.out]; exact if_neg hs)
              have g5 : (sizP r != 3) = true := by simp only [bne_iff_ne, ne_eq]; exact hs
              clear EE hs hLi
              generalize sizP r = sz at *
              go_wp2_with fail
              refine (HS.out _).mono ?_
              rintro e w1 ⟨rfl, rfl⟩
              go_wp2_with fail
              go_ret2
              exact ⟨by rw [E2.out]; rfl, rfl⟩
      · rw [h2] at HL Hh E hL
        have hr0 : Hid (r0 = c.toNat % 2 ^ (7 - 4)) := Lib.hid (by rw [Hh.out]; rfl)
        have hr0b : r0 < 128 := by rw [hr0.out]; omega
        have hqn : 4 ≤ n := by omega
        have hLl : L.length = 4 - 1 := hL
        have g2 : decide ((n : Int) < 4) = false := by simp; omega
        have g4 : ¬ cap = 1 := by omega
        clear hL hbad h2 Hh
        go_enter Tryz.func72, Tryz.ntmps72
        go_wp2_with fail
        refine (HL.out _).mono ?_
        rintro e w1 ⟨rfl, rfl⟩
        go_wp2_with fail
        go_loop [5, 39] (fun rv iv => GetR r0 L rv iv) (fun _ iv => L.length - (intOf iv).toNat)
        case atStart => exact ⟨0, r0, rfl, Nat.zero_le _, by rw [hr0.out]; have h6 := and_pow c.toNat 3 (by omega) (by omega); exact congrArg (Value.int .i64) (by simpa using h6), by omega, rfl⟩
        case round =>
          obtain ⟨i, r, rfl, hi, rfl, hr, ht⟩ := hrel
          have hi4 : i ≤ 3 := by omega
          have hrb : r < 33554432 := by
            have : 64 ^ i ≤ 64 ^ 3 := Nat.pow_le_pow_right (by omega) hi4
            omega
          have Ht := Lib.hid ht
          have Hr := Lib.hid hr
          clear ht hr
          by_cases hil : i < L.length
          · obtain ⟨x, hx⟩ : ∃ x, L[i]? = some x := ⟨_, List.getElem?_eq_getElem hil⟩
            have cx := HcL.out i x hx
            have Hd : Hid (L.drop i = x :: L.drop (i + 1)) := Lib.hid (by
              obtain ⟨h1, h2⟩ := List.getElem?_eq_some_iff.1 hx
              rw [List.drop_eq_getElem_cons h1, h2])
            have hx8 := x.toNat_lt
            have hil2 : i < 4 - 1 := by omega
            clear hx
            by_cases hx2 : x.toNat / 64 = 2
            · have g3 : ((x.toNat : Int) / 64 != 2) = false := by
                have : (x.toNat : Int) / 64 = 2 := by omega
                rw [this]; rfl
              have Hx2 := Lib.hid hx2
              clear hx2
              go_wp2_with fail
              go_round
              case rel =>
                refine ⟨i + 1, r * 64 + x.toNat % 64, by go_num, by omega, ?_, ?_, ?_⟩
                · have := or_64 r (x.toNat % 64) (by omega) (by omega)
                  rw [show ((x.toNat : Int) % 64) = ((x.toNat % 64 : Nat) : Int) by omega, this]
                  exact congrArg (Value.int .i64) (by omega)
                · have h5 := Hr.out
                  rw [Nat.pow_succ]; omega
                · rw [Ht.out, Hd.out, tailP, if_pos Hx2.out]
              case measure => simp [intOf]; omega
            · have g3 : ((x.toNat : Int) / 64 != 2) = true := by
                simp only [bne_iff_ne, ne_eq]; omega
              have EE : Hid (G = (65533, 1)) := Lib.hid (by rw [E.out, Ht.out, Hd.out, tailP, if_neg hx2])
              clear hx2
              go_wp2_with fail
              go_ret2
              exact ⟨by rw [EE.out]; rfl, rfl⟩
          · have hLi : i = L.length := by omega
            have EE : Hid (G = if sizP r = ((4 : Nat) : Int) then ((r : Int), 4) else (65533, 1)) := Lib.hid (by rw [E.out, Ht.out, List.drop_eq_nil_of_le (by omega), tailP])
            have HS := Lib.hid (fun W => size_any r W)
            by_cases hs : sizP r = 4
            · have E2 : Hid (G = ((r : Int), 4)) := Lib.hid (by rw [EE.out]; exact if_pos hs)
              rw [hs] at HS
              clear EE hs hLi
              go_wp2_with fail
              refine (HS.out _).mono ?_
              rintro e w1 ⟨rfl, rfl⟩
              go_wp2_with fail
              go_ret2
              exact ⟨by rw [E2.out]; rfl, rfl⟩
            · have E2 : Hid (G = (65533, 1)) := Lib.hid (by rw [EE.out]; exact if_neg hs)
              have g5 : (sizP r != 4) = true := by simp only [bne_iff_ne, ne_eq]; exact hs
              clear EE hs hLi
              generalize sizP r = sz at *
              go_wp2_with fail
              refine (HS.out _).mono ?_
              rintro e w1 ⟨rfl, rfl⟩
              go_wp2_with fail
              go_ret2
              exact ⟨by rw [E2.out]; rfl, rfl⟩
end Go.Proofs.YtgobcnheemocnaaGreatDoor
end
section
namespace Go.Proofs.YtgobcnheemocnaaGreatDoor
open Go.RowKit
set_option linter.unusedVariables false
set_option linter.unusedSimpArgs false
set_option maxRecDepth 100000

def ptsP : Nat → List UInt8 → Option (List Int)
  | 0, _ => some []
  | f + 1, l => if l = [] then some [] else if sizP (getP l).1 = (getP l).2 then (ptsP f (l.drop (getP l).2)).map ((getP l).1 :: ·) else none
theorem getP_eq (c : UInt8) (l : List UInt8) : getP (c :: l) = if lenP c.toNat = 0 ∨ l.length + 1 < lenP c.toNat then (65533, 1) else
    match tailP (headP c) (l.take (lenP c.toNat - 1)) with
    | none => (65533, 1)
    | some r => if sizP r = lenP c.toNat then ((r : Int), lenP c.toNat) else (65533, 1) := rfl
theorem getP_pos (c : UInt8) (l : List UInt8) : 1 ≤ (getP (c :: l)).2 ∧ (getP (c :: l)).2 ≤ 4 := by
  have hq : lenP c.toNat ≤ 4 := by unfold lenP; split <;> (try split) <;> (try split) <;> (try split) <;> omega
  rw [getP_eq]
  by_cases h : lenP c.toNat = 0 ∨ l.length + 1 < lenP c.toNat
  · rw [if_pos h]; simp
  · rw [if_neg h]
    split
    · simp
    · split
      · simp; omega
      · simp
theorem getP_le (c : UInt8) (l : List UInt8) : (getP (c :: l)).2 ≤ l.length + 1 := by
  rw [getP_eq]
  by_cases h : lenP c.toNat = 0 ∨ l.length + 1 < lenP c.toNat
  · rw [if_pos h]; simp
  · rw [if_neg h]
    split
    · simp
    · split
      · simp; omega
      · simp
/-- A text's code points; none: some octets are no code point's. -/
def pts (l : List UInt8) : Option (List Int) := ptsP l.length l
theorem info_int' : (Tryz.prog.info? 3).map (fun i => (i.zero, i.size, i.bytes)) = some (some (.int .i64 0), 1, 8) := by kernel_rfl
/-- What is left of the octets. -/
def BS (X : Nat) (w : World) (v : Value) (rest : List UInt8) : Prop :=
  ∃ a cap, v = .slice a rest.length cap ∧ rest.length ≤ cap ∧ (rest ≠ [] → ∃ off, a = some ⟨X, off, none⟩ ∧ ∀ i x, rest[i]? = some x → w.cell? ⟨X, off + i, none⟩ = some (.int .u8 (x.toNat : Int)))
def restLen : Value → Nat
  | .slice _ n _ => n
  | _ => 0

end Go.Proofs.YtgobcnheemocnaaGreatDoor
end
section
namespace Go.Proofs.YtgobcnheemocnaaGreatDoor
open Go.RowKit
set_option linter.unusedVariables false
set_option linter.unusedSimpArgs false
set_option maxRecDepth 100000

/-- Where the parser stands: its place, the depth of parentheses, has it failed? -/
structure PS where
  pos : Nat
  deep : Int
  bad : Bool
def pk (rs : List Int) (s : PS) : Int := if s.bad then -1 else rs.getD s.pos (-1)
def tk (rs : List Int) (r : Int) (s : PS) : PS := if pk rs s = r then ⟨s.pos + 1, s.deep, s.bad⟩ else s
def wt (rs : List Int) (r : Int) (s : PS) : PS := if pk rs s = r then ⟨s.pos + 1, s.deep, s.bad⟩ else ⟨s.pos, s.deep, true⟩
end Go.Proofs.YtgobcnheemocnaaGreatDoor
end
section
namespace Go.Proofs.YtgobcnheemocnaaGreatDoor
set_option linter.unusedVariables false
set_option linter.unusedSimpArgs false

/-- Is a number in one of the ranges? -/
def mem (l : List (Int × Int)) (r : Int) : Bool := l.any fun p => decide (p.1 ≤ r) && decide (r ≤ p.2)
theorem mem_iff (l : List (Int × Int)) (r : Int) : mem l r = true ↔ ∃ p ∈ l, p.1 ≤ r ∧ r ≤ p.2 := by simp [mem]
theorem mem_append (a b : List (Int × Int)) (r : Int) : mem (a ++ b) r = (mem a r || mem b r) := by simp [mem]
theorem mem_one (p : Int × Int) (r : Int) : mem [p] r = (decide (p.1 ≤ r) && decide (r ≤ p.2)) := by simp [mem]
theorem mem_cons (p : Int × Int) (l : List (Int × Int)) (r : Int) : mem (p :: l) r = ((decide (p.1 ≤ r) && decide (r ≤ p.2)) || mem l r) := by simp [mem]
def inAll (r : Int) : Bool := decide (0 ≤ r) && decide (r ≤ 1114111)
def has (l : List (Int × Int)) (r : Int) : Bool := mem l r && inAll r

/-- What the statements' own look at a set comes to: range by range, against the one ahead. -/
def chain : List (Int × Int) → Prop
  | [] => True
  | [p] => 0 ≤ p.1 ∧ p.1 ≤ p.2 ∧ p.2 ≤ 1114111
  | p :: q :: l => 0 ≤ p.1 ∧ p.1 ≤ p.2 ∧ p.2 ≤ 1114111 ∧ p.2 + 2 ≤ q.1 ∧ chain (q :: l)
end Go.Proofs.YtgobcnheemocnaaGreatDoor
end
section
namespace Go.Proofs.YtgobcnheemocnaaGreatDoor
open Go.RowKit
set_option linter.unusedVariables false
set_option linter.unusedSimpArgs false
set_option maxRecDepth 100000

/-- A range's two cells. -/
def encR (p : Int × Int) (j : Nat) : Value := if j = 0 then .int .i64 p.1 else .int .i64 p.2
/-- v reads as the ranges l, whose ends are of 64 bits. -/
def RSl (w : World) (v : Value) (l : List (Int × Int)) : Prop := SlOf 2 encR w v l ∧ ∀ p ∈ l, in64 p.1 ∧ in64 p.2
theorem RSl.cells {w : World} {v : Value} {l : List (Int × Int)} (h : RSl w v l) : ∃ a cap, v = .slice a l.length cap ∧ l.length ≤ 4611686018427387904 ∧
    (0 < l.length → ∃ b off, a = some ⟨b, off, none⟩ ∧ ∀ i (p : Int × Int), l[i]? = some p → w.cell? ⟨b, off + i * 2, none⟩ = some (.int .i64 p.1) ∧ w.cell? ⟨b, off + i * 2 + 1, none⟩ = some (.int .i64 p.2) ∧ in64 p.1 ∧ in64 p.2) := by
  obtain ⟨⟨a, cap, rfl, ⟨hl, hln⟩, hl2, hc⟩, hr⟩ := h
  refine ⟨a, cap, rfl, hl2, fun h0 => ?_⟩
  obtain ⟨b, off, rfl, hcc⟩ := hc h0
  exact ⟨b, off, rfl, fun i p hp => ⟨hcc i p hp 0 (by omega), hcc i p hp 1 (by omega), hr p (List.mem_of_getElem? hp)⟩⟩

theorem take_snoc_of {α : Type} {l : List α} {i : Nat} {x : α} (h : l[i]? = some x) : l.take (i + 1) = l.take i ++ [x] := by rw [List.take_add_one, h]; rfl

end Go.Proofs.YtgobcnheemocnaaGreatDoor
end
section
namespace Go.Proofs.YtgobcnheemocnaaGreatDoor
open Go.RowKit
set_option linter.unusedVariables false
set_option linter.unusedSimpArgs false
set_option maxRecDepth 100000

/-- A row of trees: each one's sign, set, counts, kids; and those behind it. -/
inductive F where
  | nil : F
  | cons (op : Int) (set : List (Int × Int)) (mn mx : Int) (kids rest : F) : F
  deriving DecidableEq
structure T where
  op : Int
  set : List (Int × Int)
  mn : Int
  mx : Int
  kids : F
  deriving DecidableEq
/-- A node's own five cells. -/
structure NV where
  op : Int
  sv : Value
  mn : Int
  mx : Int
  kv : Value
def encN (v : NV) (j : Nat) : Value := if j = 0 then .int .i64 v.op else if j = 1 then v.sv else if j = 2 then .int .i64 v.mn else if j = 3 then .int .i64 v.mx else v.kv
theorem RSl.keeps {S : Nat → Prop} {w w' : World} {v : Value} {l : List (Int × Int)} (h : RSl w v l) (K : Keeps S w w') (hs : ∀ b, v.ownBlock = some b → ¬ S b) : RSl w' v l := ⟨h.1.keeps K hs, h.2⟩
end Go.Proofs.YtgobcnheemocnaaGreatDoor
end
section
namespace Go.Proofs.YtgobcnheemocnaaGreatDoor
open Go.RowKit
set_option linter.unusedVariables false
set_option linter.unusedSimpArgs false
set_option maxRecDepth 100000

end Go.Proofs.YtgobcnheemocnaaGreatDoor
end
section
namespace Go.Proofs.YtgobcnheemocnaaGreatDoor
open Go.RowKit
set_option linter.unusedVariables false
set_option linter.unusedSimpArgs false
set_option maxRecDepth 100000

end Go.Proofs.YtgobcnheemocnaaGreatDoor
end
section
namespace Go.Proofs.YtgobcnheemocnaaGreatDoor
open Go.RowKit Go.Shelf Go.Lib Go.Sort
set_option linter.unusedVariables false
set_option linter.unusedSimpArgs false
set_option maxRecDepth 100000

end Go.Proofs.YtgobcnheemocnaaGreatDoor
end
section
namespace Go.Proofs.YtgobcnheemocnaaGreatDoor
set_option linter.unusedVariables false
set_option linter.unusedSimpArgs false

end Go.Proofs.YtgobcnheemocnaaGreatDoor
end
section
namespace Go.Proofs.YtgobcnheemocnaaGreatDoor
open Go.RowKit
set_option linter.unusedVariables false
set_option linter.unusedSimpArgs false
set_option maxRecDepth 100000

theorem own_lt {w : World} {base : Nat} {e : TypeId} {size : Nat} {v : Value} {n : Nat} {xs : List Value} (h : w.ownsRow base e size v n xs) : ∀ g, v.ownBlock = some g → g < w.heap.size := by
  rintro g hg
  rcases h.2 with ⟨rfl, _⟩ | ⟨g', cap, cur, rfl, _, hh, _⟩
  · simp [Value.ownBlock] at hg
  · simp [Value.ownBlock] at hg; subst hg; exact (Array.getElem?_eq_some_iff.1 hh).1

theorem ownsRow_keeps {S : Nat → Prop} {w w' : World} {base : Nat} {e : TypeId} {size : Nat} {v : Value} {n : Nat} {xs : List Value} (h : w.ownsRow base e size v n xs) (K : Keeps S w w') (hs : ∀ b, v.ownBlock = some b → ¬ S b) : w'.ownsRow base e size v n xs := by
  refine ⟨h.1, ?_⟩
  rcases h.2 with h0 | ⟨g, cap, cur, rfl, hg, hh, hr⟩
  · exact Or.inl h0
  · exact Or.inr ⟨g, cap, cur, rfl, hg, K.heap hh (hs g rfl), hr⟩
end Go.Proofs.YtgobcnheemocnaaGreatDoor
end
section
namespace Go.Proofs.YtgobcnheemocnaaGreatDoor
open Go.RowKit
set_option linter.unusedVariables false
set_option linter.unusedSimpArgs false
set_option maxRecDepth 100000

theorem ownsRow_base {w : World} {base base' : Nat} {e : TypeId} {size : Nat} {v : Value} {n : Nat} {xs : List Value} (h : w.ownsRow base' e size v n xs) (hb : base ≤ base') : w.ownsRow base e size v n xs := by
  obtain ⟨h1, h2⟩ := h
  refine ⟨h1, ?_⟩
  rcases h2 with h2 | ⟨g, cap, cur, hv, hg, r⟩
  · exact Or.inl h2
  · exact Or.inr ⟨g, cap, cur, hv, by omega, r⟩
end Go.Proofs.YtgobcnheemocnaaGreatDoor
end
section
namespace Go.Proofs.YtgobcnheemocnaaGreatDoor
open Go.RowKit
set_option linter.unusedVariables false
set_option linter.unusedSimpArgs false
set_option maxRecDepth 100000

end Go.Proofs.YtgobcnheemocnaaGreatDoor
end
section
namespace Go.Proofs.YtgobcnheemocnaaGreatDoor
open Go.RowKit
set_option linter.unusedVariables false
set_option linter.unusedSimpArgs false
set_option maxRecDepth 100000

theorem RSl.keep {w w' : World} {v : Value} {l : List (Int × Int)} (h : RSl w v l) (K : Keeps (fun _ => False) w w') : RSl w' v l := ⟨h.1.keep K, h.2⟩

theorem hasClosure (p : Int × Int) (r : Int) (c : Nat) (w : World) (hc : w.cell? ⟨c, 0, none⟩ = some (.int .i64 r)) :
    Calls Tryz.prog 267 #[.agg #[.int .i64 p.1, .int .i64 p.2], .pointer (some ⟨c, 0, none⟩)] w fun e w' => e = .returned (.bool (decide (p.1 ≤ r) && decide (r ≤ p.2))) ∧ Keeps (fun _ => False) w w' := by
  have hc1 : ∀ o, (w.alloc o).cell? ⟨c, 0, none⟩ = some (.int .i64 r) := alloc_cell hc
  by_cases h1 : p.1 ≤ r
  · have HV := Lib.hid (show (decide (p.1 ≤ r) && decide (r ≤ p.2)) = decide (r ≤ p.2) by simp [h1])
    go_enter Tryz.func267, Tryz.ntmps267
    go_wp2_with fail
    go_ret
    exact ⟨by first | (rw [HV.out]; rfl) | rfl, (Keeps.refl _ _).alloc _⟩
  · have HV := Lib.hid (show (decide (p.1 ≤ r) && decide (r ≤ p.2)) = false by simp [h1])
    have hd : decide (p.1 ≤ r) = false := by simpa using h1
    go_enter Tryz.func267, Tryz.ntmps267
    go_wp2_with fail
    go_ret
    exact ⟨by first | (rw [HV.out]; rfl) | rfl, (Keeps.refl _ _).alloc _⟩

theorem indexFunc_any (l : List (Int × Int)) (v : Value) (r : Int) (c : Nat) (w : World) (h : RSl w v l) (hc : w.cell? ⟨c, 0, none⟩ = some (.int .i64 r)) :
    Calls Tryz.prog 268 #[v, .func (.func 267) #[] #[.pointer (some ⟨c, 0, none⟩)]] w
      fun e w' => ∃ x : Int, e = .returned (.int .i64 x) ∧ (0 ≤ x ↔ mem l r = true) ∧ Keeps (fun _ => False) w w' := by
  obtain ⟨a, cap, rfl, hl, hcl⟩ := h.cells
  have Hc := Lib.hid hcl
  clear hcl h
  go_enter Tryz.func268, Tryz.ntmps268
  go_wp2_with fail
  go_loopw [8] (fun iv wr => ∃ i : Nat, iv = .int .i64 i ∧ i ≤ l.length ∧ mem (l.take i) r = false ∧ Keeps (fun _ => False) w wr) (fun iv _ => l.length - (intOf iv).toNat)
  case atStart => exact ⟨0, rfl, Nat.zero_le _, rfl, Keeps.refl _ _⟩
  case round =>
    obtain ⟨i, rfl, hi, hno, hkw⟩ := hrel
    have Hno := Lib.hid hno
    clear hno
    by_cases hil : i < l.length
    · obtain ⟨b, off, rfl, hcc⟩ := Hc.out (by omega)
      obtain ⟨p, hp⟩ : ∃ p, l[i]? = some p := ⟨_, List.getElem?_eq_getElem hil⟩
      obtain ⟨c0, c1, _, _⟩ := hcc i p hp
      have d0 := hkw.cell c0 id
      have d1 := hkw.cell c1 id
      have hcr := hkw.cell hc id
      clear hcc c0 c1
      have hsn := take_snoc_of hp
      have Hp := Lib.hid hp
      have Hsn := Lib.hid hsn
      clear hp hsn
      go_wp2_with fail
      refine (hasClosure p r c _ hcr).mono ?_
      rintro e w1 ⟨rfl, hk1⟩
      have hkw1 := hkw.trans hk1
      cases hb : (decide (p.1 ≤ r) && decide (r ≤ p.2))
      · have hgo : mem (l.take (i + 1)) r = false := by rw [Hsn.out, mem_append, mem_one, hb, Hno.out]; rfl
        clear hb
        go_wp2_with fail
        go_roundw
        case rel => exact ⟨i + 1, by go_num, by omega, hgo, hkw1⟩
        case measure => simp [intOf]; omega
      · have hyes : mem l r = true := by
          rw [mem_iff]
          rw [Bool.and_eq_true, decide_eq_true_eq, decide_eq_true_eq] at hb
          exact ⟨p, List.mem_of_getElem? Hp.out, hb.1, hb.2⟩
        have Hy := Lib.hid hyes
        clear hb hyes
        go_wp2_with fail
        go_ret
        exact ⟨i, rfl, by rw [Hy.out]; simp, hkw1⟩
    · go_wp2_with fail
      go_ret
      have h0 := Hno.out
      rw [List.take_of_length_le (by omega)] at h0
      exact ⟨-1, rfl, by rw [h0]; simp, hkw⟩

theorem containsFunc_any (l : List (Int × Int)) (v : Value) (r : Int) (c : Nat) (w : World) (h : RSl w v l) (hc : w.cell? ⟨c, 0, none⟩ = some (.int .i64 r)) :
    Calls Tryz.prog 266 #[v, .func (.func 267) #[] #[.pointer (some ⟨c, 0, none⟩)]] w
      fun e w' => e = .returned (.bool (mem l r)) ∧ Keeps (fun _ => False) w w' := by
  go_enter Tryz.func266, Tryz.ntmps266
  go_wp2_with fail
  refine (indexFunc_any l v r c _ h hc).mono ?_
  rintro e w1 ⟨x, rfl, hx, hk⟩
  have HX := Lib.hid (show mem l r = decide (0 ≤ x) by rw [Bool.eq_iff_iff, decide_eq_true_eq, hx])
  clear hx
  go_wp2_with fail
  go_ret
  exact ⟨by rw [HX.out]; rfl, hk⟩

theorem has_any (l : List (Int × Int)) (v : Value) (r : Int) (w : World) (h : RSl w v l) :
    Calls Tryz.prog 265 #[v, .int .i64 r] w fun e w' => e = .returned (.bool (has l r)) ∧ Keeps (fun _ => False) w w' := by
  by_cases h0 : 0 ≤ r
  · by_cases h1 : r ≤ 1114111
    · have HV := Lib.hid (show has l r = mem l r by unfold has; simp [inAll, h0, h1])
      go_enter Tryz.func265, Tryz.ntmps265
      go_wp2_with fail
      refine (containsFunc_any l v r w.heap.size _ ?_ ?_).mono ?_
      · exact h.keep ((Keeps.refl _ _).alloc _)
      · rw [cell_block (cs := #[.int .i64 r]) (T := 3) (fz := (0, 0)) (by show (w.heap.push _)[_]? = _; simp)]; rfl
      rintro e w1 ⟨rfl, hk⟩
      go_wp2_with fail
      go_ret
      exact ⟨by rw [HV.out]; rfl, ((Keeps.refl _ _).alloc _).trans hk⟩
    · have HV := Lib.hid (show has l r = false by unfold has; simp [inAll]; intro _ _; omega)
      have hd : decide (r ≤ 1114111) = false := by simpa using h1
      go_enter Tryz.func265, Tryz.ntmps265
      go_wp2_with fail
      go_ret
      exact ⟨by first | (rw [HV.out]; rfl) | rfl, (Keeps.refl _ _).alloc _⟩
  · have HV := Lib.hid (show has l r = false by unfold has; simp [inAll]; intro _ _; omega)
    have hd : decide (0 ≤ r) = false := by simpa using h0
    go_enter Tryz.func265, Tryz.ntmps265
    go_wp2_with fail
    go_ret
    exact ⟨by first | (rw [HV.out]; rfl) | rfl, (Keeps.refl _ _).alloc _⟩
end Go.Proofs.YtgobcnheemocnaaGreatDoor
end
section
namespace Go.Proofs.YtgobcnheemocnaaGreatDoor
set_option linter.unusedVariables false
set_option linter.unusedSimpArgs false

end Go.Proofs.YtgobcnheemocnaaGreatDoor
end
section
namespace Go.Proofs.YtgobcnheemocnaaGreatDoor
open Go.RowKit
set_option linter.unusedVariables false
set_option linter.unusedSimpArgs false
set_option maxRecDepth 100000

end Go.Proofs.YtgobcnheemocnaaGreatDoor
end
section
namespace Go.Proofs.YtgobcnheemocnaaGreatDoor
open Go.RowKit
set_option linter.unusedVariables false
set_option linter.unusedSimpArgs false
set_option maxRecDepth 100000

end Go.Proofs.YtgobcnheemocnaaGreatDoor
end
section
namespace Go.Proofs.YtgobcnheemocnaaGreatDoor
open Go.RowKit
set_option linter.unusedVariables false
set_option linter.unusedSimpArgs false
set_option maxRecDepth 100000

end Go.Proofs.YtgobcnheemocnaaGreatDoor
end
section
namespace Go.Proofs.YtgobcnheemocnaaGreatDoor
open Go.RowKit
set_option linter.unusedVariables false
set_option linter.unusedSimpArgs false
set_option maxRecDepth 100000

end Go.Proofs.YtgobcnheemocnaaGreatDoor
end
section
namespace Go.Proofs.YtgobcnheemocnaaGreatDoor
open Go.RowKit
set_option linter.unusedVariables false
set_option linter.unusedSimpArgs false
set_option maxRecDepth 100000

end Go.Proofs.YtgobcnheemocnaaGreatDoor
end
section
namespace Go.Proofs.YtgobcnheemocnaaGreatDoor
open Go.RowKit
set_option linter.unusedVariables false
set_option linter.unusedSimpArgs false
set_option maxRecDepth 100000

end Go.Proofs.YtgobcnheemocnaaGreatDoor
end
section
namespace Go.Proofs.YtgobcnheemocnaaGreatDoor
open Go.RowKit
set_option linter.unusedVariables false
set_option linter.unusedSimpArgs false
set_option maxRecDepth 100000

end Go.Proofs.YtgobcnheemocnaaGreatDoor
end
section
namespace Go.Proofs.YtgobcnheemocnaaGreatDoor
open Go.RowKit
set_option linter.unusedVariables false
set_option linter.unusedSimpArgs false
set_option maxRecDepth 100000

def isNam (r : Int) : Prop := r = 100 ∨ r = 119 ∨ r = 115 ∨ r = 68 ∨ r = 87 ∨ r = 83
instance (r : Int) : Decidable (isNam r) := by unfold isNam; infer_instance
end Go.Proofs.YtgobcnheemocnaaGreatDoor
end
section
namespace Go.Proofs.YtgobcnheemocnaaGreatDoor
open Go.RowKit
set_option linter.unusedVariables false
set_option linter.unusedSimpArgs false
set_option maxRecDepth 100000

end Go.Proofs.YtgobcnheemocnaaGreatDoor
end
section
namespace Go.Proofs.YtgobcnheemocnaaGreatDoor
open Go.RowKit
set_option linter.unusedVariables false
set_option linter.unusedSimpArgs false
set_option maxRecDepth 100000

/-- An instruction: its sign, set, where it goes on. -/
structure Ins where
  op : Int
  set : List (Int × Int)
  x : Nat
  y : Nat
  deriving DecidableEq
structure IV where
  op : Int
  sv : Value
  x : Int
  y : Int
def encP (v : IV) (j : Nat) : Value := if j = 0 then .int .i64 v.op else if j = 1 then v.sv else if j = 2 then .int .i64 v.x else .int .i64 v.y
/-- An instruction lies so. -/
structure InAt (w : World) (P : Nat → Prop) (v : IV) (i : Ins) : Prop where
  op : v.op = i.op
  x : v.x = (i.x : Int)
  y : v.y = (i.y : Int)
  set : RSl w v.sv i.set
  sb : ∀ b, v.sv.ownBlock = some b → P b
theorem InAt.keepsTo {S P Q : Nat → Prop} {w w' : World} {v : IV} {i : Ins} (h : InAt w P v i) (K : Keeps S w w') (hs : ∀ b, P b → ¬ S b) (hq : ∀ b, P b → Q b) : InAt w' Q v i :=
  ⟨h.op, h.x, h.y, h.set.keeps K (fun b hb => hs b (h.sb b hb)), fun b hb => hq b (h.sb b hb)⟩
theorem rsl_nil (w : World) : RSl w (.slice none 0 0) [] := ⟨SlOf.nil 2 encR w, fun p hp => by simp at hp⟩
end Go.Proofs.YtgobcnheemocnaaGreatDoor
end
section
namespace Go.Proofs.YtgobcnheemocnaaGreatDoor
open Go.RowKit
set_option linter.unusedVariables false
set_option linter.unusedSimpArgs false
set_option maxRecDepth 100000

end Go.Proofs.YtgobcnheemocnaaGreatDoor
end
section
namespace Go.Proofs.YtgobcnheemocnaaGreatDoor
open Go.RowKit
set_option linter.unusedVariables false
set_option linter.unusedSimpArgs false
set_option maxRecDepth 100000

end Go.Proofs.YtgobcnheemocnaaGreatDoor
end
section
namespace Go.Proofs.YtgobcnheemocnaaGreatDoor
open Go.RowKit
set_option linter.unusedVariables false
set_option linter.unusedSimpArgs false
set_option maxRecDepth 100000

end Go.Proofs.YtgobcnheemocnaaGreatDoor
end
section
namespace Go.Proofs.YtgobcnheemocnaaGreatDoor
open Go.RowKit
set_option linter.unusedVariables false
set_option linter.unusedSimpArgs false
set_option maxRecDepth 100000

end Go.Proofs.YtgobcnheemocnaaGreatDoor
end
section
namespace Go.Proofs.YtgobcnheemocnaaGreatDoor
open Go.RowKit
set_option linter.unusedVariables false
set_option linter.unusedSimpArgs false
set_option maxRecDepth 100000

end Go.Proofs.YtgobcnheemocnaaGreatDoor
end
section
namespace Go.Proofs.YtgobcnheemocnaaGreatDoor
open Go.RowKit
set_option linter.unusedVariables false
set_option linter.unusedSimpArgs false
set_option maxRecDepth 100000

end Go.Proofs.YtgobcnheemocnaaGreatDoor
end
section
namespace Go.Proofs.YtgobcnheemocnaaGreatDoor
open Go.RowKit
set_option linter.unusedVariables false
set_option linter.unusedSimpArgs false
set_option maxRecDepth 100000

end Go.Proofs.YtgobcnheemocnaaGreatDoor
end
section
namespace Go.Proofs.YtgobcnheemocnaaGreatDoor
open Go.RowKit
set_option linter.unusedVariables false
set_option linter.unusedSimpArgs false
set_option maxRecDepth 100000

theorem min_2 (W : World) (x y : Int) : (Builtin.min_ #[3, 3] 3 #[.int .i64 x, .int .i64 y]).run Tryz.prog W = .ok (.int .i64 (if y < x then y else x)) W := by
  simp [Builtin.min_, Builtin.min2]

end Go.Proofs.YtgobcnheemocnaaGreatDoor
end
