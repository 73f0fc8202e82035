/-
  Several texts in one: lit's borders. lit's find, Index, Count. lit's Index and Count. Texts as values; an octet made a text; how long digits are. The document's digits of a number. The document's code points: Is, Size, value, Put. The document's Put. The document's code point at a text's beginning is the program's: plain Lean. A quoted text, in plain Lean: what it is, what it parses to. engine's sound, plain, hopeless.
-/
import Derived.Test.YtgobcnheemocnaaGreatDoorMg26
import Derived.Test.YtgobcnheemocnaaGreatDoorProg
import Derived.BigQuiet
import Derived.Deep.QuietTactic
import Derived.IntWalk
import Derived.Handy
import Derived.Conc.PipeWords
import Derived.Test.YtgobcnheemocnaaGreatDoorMg21
import Derived.Lib.ItoaNum
import Derived.Lib.ConvBytes
import Derived.Test.YtgobcnheemocnaaGreatDoorMg22
import Derived.Test.YtgobcnheemocnaaGreatDoorMg23
section
namespace Go.Proofs.YtgobcnheemocnaaGreatDoor
open Go.RowKit
set_option linter.unusedVariables false
set_option linter.unusedSimpArgs false
set_option maxRecDepth 100000

theorem idxC {l : List UInt8} {i : Nat} {c : UInt8} (hc : l[i]? = some c) : ∀ (h : i < (⟨l.toArray⟩ : ByteArray).size), (⟨l.toArray⟩ : ByteArray)[i]'h = c := fun h => by
  have := (List.getElem?_eq_some_iff.1 hc).2
  simpa [ByteArray.getElem_eq_getElem_data] using this
def atB (l : List UInt8) (x : Nat) : UInt8 := l.getD x 0
theorem atB_some {l : List UInt8} {i : Nat} {c : UInt8} (hc : l[i]? = some c) : atB l i = c := by unfold atB; rw [List.getD_eq_getElem?_getD, hc]; rfl
/-- The numbers of the borders lie there. -/
structure BdAt (W : World) (g n : Nat) (b : Nat → Nat) : Prop where
  cell : ∀ j, j ≤ n → W.cell? ⟨g, j, none⟩ = some (.int .i64 (b j))
  frz : ∀ x, W.frozen? ⟨g, x, none⟩ = false
theorem BdAt.lt {W : World} {g n : Nat} {b : Nat → Nat} (h : BdAt W g n b) : g < W.heap.size := lt_of_cell (h.cell 0 (by omega))
theorem BdAt.keep {W W' : World} {g n : Nat} {b : Nat → Nat} (h : BdAt W g n b) (K : Keeps (fun _ => False) W W') : BdAt W' g n b :=
  ⟨fun j hj => K.cell (h.cell j hj) id, fun x => K.frozen (h.frz x) h.lt id⟩
theorem BdAt.set {W : World} {g n : Nat} {b : Nat → Nat} (h : BdAt W g n b) {j k : Nat} (hj : j ≤ n) : BdAt (W.setCell ⟨g, j, none⟩ (.int .i64 k)) g n (fun x => if x = j then k else b x) := by
  refine ⟨fun x hx => ?_, fun x => by rw [frozen_set]; exact h.frz x⟩
  by_cases hxj : x = j
  · subst hxj; simp only [if_pos]; exact cell_set_same (h.cell x hx)
  · rw [if_neg hxj, cell_set_other (by intro e; injection e with _ e; exact hxj e.symm)]; exact h.cell x hx
theorem info_intC : (Tryz.prog.info? 3).map (fun i => (i.zero, i.size, i.bytes)) = some (some (.int .i64 0), 1, 8) := by kernel_rfl
/-- At the outer loop's head: up to i. -/
def BdR (p : List UInt8) (w : World) (g : Nat) (kv iv : Value) (wr : World) : Prop :=
  ∃ (k i : Nat) (b : Nat → Nat), kv = .int .i64 k ∧ iv = .int .i64 i ∧ 1 ≤ i ∧ i ≤ p.length ∧ BdAt wr g p.length b ∧ (∀ j, 1 ≤ j → j ≤ i → Lgst p.length (atB p) (atB p) 1 j (b j)) ∧ b i = k ∧ (∀ j, i < j → b j = 0) ∧ Keeps (fun b => b = g) w wr
/-- Within. -/
def BdI (p : List UInt8) (wr : World) (i : Nat) (kv : Value) (wk : World) : Prop :=
  ∃ k : Nat, kv = .int .i64 k ∧ Inn p.length (atB p) (atB p) 1 i k ∧ Keeps (fun _ => False) wr wk
def BdE (p : List UInt8) (w : World) (e : Ending) (w' : World) : Prop :=
  ∃ g b, e = .returned (.slice (some ⟨g, 0, none⟩) (p.length + 1) (p.length + 1)) ∧ w.heap.size ≤ g ∧ BdAt w' g p.length b ∧ (∀ j, 1 ≤ j → j ≤ p.length → Lgst p.length (atB p) (atB p) 1 j (b j)) ∧ Keeps (fun _ => False) w w'
theorem bd_next {p : List UInt8} {w3 wk : World} {g i k' : Nat} {b : Nat → Nat} {kv iv : Value} (hB : BdAt wk g p.length b) (hL : ∀ j, 1 ≤ j → j ≤ i → Lgst p.length (atB p) (atB p) 1 j (b j))
    (hN : Lgst p.length (atB p) (atB p) 1 (i + 1) k') (h0 : ∀ j, i < j → b j = 0) (hK : Keeps (fun b => b = g) w3 wk) (hi : i < p.length) (hk : kv = .int .i64 k') (hiv : iv = .int .i64 ((i + 1 : Nat) : Int)) :
    BdR p w3 g kv iv (wk.setCell ⟨g, i + 1, none⟩ (.int .i64 k')) := by
  refine ⟨k', i + 1, _, hk, hiv, by omega, by omega, hB.set (by omega), fun j h1 h2 => ?_, by simp, fun j hj => ?_, hK.set (p := ⟨g, i + 1, none⟩) rfl _⟩
  · by_cases hj : j = i + 1
    · subst hj; simpa using hN
    · rw [if_neg hj]; exact hL j h1 (by omega)
  · rw [if_neg (by omega)]; exact h0 j (by omega)
set_option maxHeartbeats 4000000 in
theorem borders_any (p : List UInt8) (w : World) (h0 : 0 < p.length) (hp : p.length ≤ 1000) : Calls Tryz.prog 262 #[.string ⟨p.toArray⟩] w fun e w' => BdE p w e w' := by
  obtain ⟨i0, hi, hz0, hz1, hz2⟩ := info_parts info_intC
  go_enter Tryz.func262, Tryz.ntmps262
  go_wp2_with (at_make; refine wpList_make_full _ rfl _ _ 23 rfl w.heap.size 3 i0 _ 1 Tryz.underlying23 hi hz0 hz1 .i64 .i64 _ _ (p.length + 1) rfl rfl ?k1 ?k2 ?k3 ?k4 ?k5 ?_)
  case k1 => first | rfl | omega | (simp; done)
  case k2 => first | rfl | omega | (simp; done)
  case k3 => rw [hz2]; omega
  case k4 => unfold maxLen; omega
  case k5 => exact Nat.le_refl _
  intro w3 hown hg3
  have hk3 : Keeps (fun _ => False) w w3 := (Keeps.refl _ _).grown hg3 (by simp)
  have hB : BdAt w3 w.heap.size p.length (fun _ => 0) := by
    refine ⟨fun j hj => ?_, hown.frozenAt⟩
    rw [hown.cellAt j (by omega), toList_madeCells_one]
    simp [List.getElem?_replicate]; omega
  have HB := Lib.hid hB
  have HK := Lib.hid hk3
  clear hB hk3 hown hg3
  obtain ⟨g, hg⟩ : ∃ g, w.heap.size = g := ⟨_, rfl⟩
  have Hg := Lib.hid hg
  rw [hg] at HB ⊢
  clear hg
  go_wp2_with fail
  go_loopw [4, 5] (fun kv iv wr => BdR p w3 g kv iv wr) (fun _ iv _ => p.length + 1 - (intOf iv).toNat)
  case atStart => 
    refine ⟨0, 1, fun _ => 0, rfl, rfl, by omega, by omega, HB.out, ?_, rfl, fun _ _ => rfl, Keeps.refl _ _⟩
    intro j h1 h2
    obtain rfl : 1 = j := by omega
    exact Lgst.start _ _ _ _
  case round =>
    obtain ⟨k, i, b, rfl, rfl, hi1, hi2, hB, hL, hbi, hb0, hK⟩ := hrel
    by_cases hil : i < p.length
    · have hLi := hL i hi1 (Nat.le_refl _)
      rw [hbi] at hLi
      have hki := hLi.suf.1
      have HLi := Lib.hid hLi.inn
      have HB1 := Lib.hid hB
      have HL := Lib.hid hL
      have Hb0 := Lib.hid hb0
      have HK1 := Lib.hid hK
      obtain ⟨d, hd⟩ : ∃ d, p[i]? = some d := ⟨_, List.getElem?_eq_getElem hil⟩
      have hdi := idxC hd
      have Hd := Lib.hid (atB_some hd)
      have hid : decide ((i : Int) < (p.length : Int)) = true := by simpa using hil
      have hid0 : (i : Int) < (p.length : Int) := by omega
      obtain ⟨wR, hwR⟩ : ∃ W, W = wr := ⟨wr, rfl⟩
      subst hwR
      clear hd hLi hbi hB hL hb0 hK
      go_wp2_with fail
      go_loopw [4] (fun kv wk => BdI p wR i kv wk) (fun kv _ => (intOf kv).toNat)
      case atStart => exact ⟨k, rfl, HLi.out, Keeps.refl _ _⟩
      case round =>
        obtain ⟨k2, rfl, hI, hk2⟩ := hrel
        have hk2i := hI.suf.1
        have hk2l : k2 < p.length := by omega
        obtain ⟨c, hc⟩ : ∃ c, p[k2]? = some c := ⟨_, List.getElem?_eq_getElem hk2l⟩
        have hci := idxC hc
        have Hc := Lib.hid (atB_some hc)
        have HI := Lib.hid hI
        have HBk := Lib.hid (HB1.out.keep hk2)
        have HK2 := Lib.hid hk2
        have h1 : (k2 : Int) < (p.length : Int) := by omega
        clear hc hI hk2
        have hfr := HBk.out.frz
        have hcn := HBk.out.cell (i + 1) (by omega)
        have hix : (i : Int) + 1 < (p.length : Int) + 1 := by omega
        by_cases hcd : c = d
        · subst hcd
          have HN := Lib.hid (HI.out.hit hk2l (by rw [Hc.out, Hd.out]))
          by_cases hz : k2 = 0
          · subst hz
            go_wp2_with fail
            go_quiet (fail)
            go_wp2_with fail
            go_quiet (fail)
            go_wp2_with fail
            go_roundw
            case rel => exact bd_next (k' := 0 + 1) (HBk.out.keep ((Keeps.refl _ _).drawN _)) HL.out HN.out Hb0.out ((HK1.out.trans (HK2.out.mono (fun _ _ e => e.elim))).drawN _) hil (by go_num) (by go_num)
            case measure => simp [intOf]; omega
          · have hz0 : decide (0 < k2) = true := by simp; omega
            go_wp2_with fail
            go_quiet (fail)
            go_wp2_with fail
            go_quiet (fail)
            go_wp2_with fail
            go_roundw
            case rel => exact bd_next (k' := k2 + 1) (HBk.out.keep ((Keeps.refl _ _).drawN _)) HL.out HN.out Hb0.out ((HK1.out.trans (HK2.out.mono (fun _ _ e => e.elim))).drawN _) hil (by go_num) (by go_num)
            case measure => simp [intOf]; omega
        · have hne : ((c.toNat : Int) != (d.toNat : Int)) = true := by
            simp; intro e; exact hcd (UInt8.toNat_inj.1 (by omega))
          have hne2 : ((c.toNat : Int) == (d.toNat : Int)) = false := by
            simp; intro e; exact hcd (UInt8.toNat_inj.1 (by omega))
          by_cases hz : k2 = 0
          · subst hz
            have HN := Lib.hid (HI.out.miss (by rw [Hc.out, Hd.out]; exact hcd))
            go_wp2_with fail
            go_quiet (fail)
            go_wp2_with fail
            go_quiet (fail)
            go_wp2_with fail
            go_roundw
            case rel => exact bd_next (k' := 0) (HBk.out.keep ((Keeps.refl _ _).drawN _)) HL.out HN.out Hb0.out ((HK1.out.trans (HK2.out.mono (fun _ _ e => e.elim))).drawN _) hil (by go_num) (by go_num)
            case measure => simp [intOf]; omega
          · have hz0 : decide (0 < k2) = true := by simp; omega
            have hLk := HL.out k2 (by omega) (by omega)
            have hbk := hLk.suf.1
            have HS := Lib.hid (HI.out.step (by omega) (Or.inr (by rw [Hc.out, Hd.out]; exact hcd)) hLk)
            have hck := HBk.out.cell k2 (by omega)
            have hix2 : (k2 : Int) < (p.length : Int) + 1 := by omega
            clear hLk
            go_wp2_with fail
            go_quiet (fail)
            go_wp2_with fail
            go_roundw
            case rel => exact ⟨b k2, by go_num, HS.out, HK2.out.drawN _⟩
            case measure => simp [intOf]; omega
    · obtain rfl : i = p.length := by omega
      have hdn : decide ((p.length : Int) < (p.length : Int)) = false := by simp
      have HL := Lib.hid hL
      have HB1 := Lib.hid hB
      have HK1 := Lib.hid hK
      clear hL hB hK hb0 hbi
      go_wp2_with fail
      go_ret
      exact ⟨g, b, rfl, by rw [← Hg.out]; exact Nat.le_refl _, HB1.out, HL.out, HK.out.trans2 HK1.out (fun b hb e => by have := Hg.out; omega)⟩
end Go.Proofs.YtgobcnheemocnaaGreatDoor
end
section
namespace Go.Proofs.YtgobcnheemocnaaGreatDoor
open Go.RowKit
set_option linter.unusedVariables false
set_option linter.unusedSimpArgs false
set_option maxRecDepth 100000

theorem each_idx (i z : Int) (c : Nat) (w : World) (hc : w.cell? ⟨c, 0, none⟩ = some (.int .i64 z)) (hf : w.frozen? ⟨c, 0, none⟩ = false) :
    Calls Tryz.prog 258 #[.int .i64 i, .pointer (some ⟨c, 0, none⟩)] w fun e w' => e = .returned (.bool false) ∧ w.setCell ⟨c, 0, none⟩ (.int .i64 i) = w' := by
  go_enter Tryz.func258, Tryz.ntmps258
  go_wp2_with fail
  go_ret
  exact ⟨rfl, rfl⟩
/-- A place of the call's own holds z. -/
structure CellIs (w : World) (c : Nat) (z : Int) : Prop where
  cell : w.cell? ⟨c, 0, none⟩ = some (.int .i64 z)
  frz : w.frozen? ⟨c, 0, none⟩ = false
theorem CellIs.keep {w w' : World} {c : Nat} {z : Int} (h : CellIs w c z) (K : Keeps (fun _ => False) w w') : CellIs w' c z := ⟨K.cell h.cell id, K.frozen h.frz (lt_of_cell h.cell) id⟩
theorem CellIs.set {w : World} {c : Nat} {z : Int} (h : CellIs w c z) (y : Int) : CellIs (w.setCell ⟨c, 0, none⟩ (.int .i64 y)) c y := ⟨cell_set_same h.cell, by rw [frozen_set]; exact h.frz⟩
/-- The places of p in t. -/
def mtL (p t : List UInt8) : Nat → Bool := mtB p.length t.length (atB p) (atB t)
theorem mtL_nil (t : List UInt8) (a : Nat) : mtL [] t a = decide (a ≤ t.length) := by
  unfold mtL; cases h : decide (a ≤ t.length)
  · rw [← Bool.not_eq_true, mtB_iff]; simp at h ⊢; omega
  · rw [mtB_iff]; simp at h ⊢; omega
/-- Up to i, none. -/
def NoneTo (p t : List UInt8) (f i : Nat) : Prop := ∀ a, f ≤ a → a + p.length ≤ i → mtL p t a = false
/-- find has come to its end. -/
def FiE (p t : List UInt8) (f c : Nat) (w : World) (e : Ending) (w' : World) : Prop :=
  ∃ z : Int, e = .returned (.tuple #[]) ∧ CellIs w' c z ∧ IdxAt (mtL p t) t.length f z ∧ Keeps (fun b => b = c) w w'
/-- At the head of the loop over the text. -/
def FiR (p t : List UInt8) (f c g : Nat) (b : Nat → Nat) (w : World) (kv iv : Value) (wr : World) : Prop :=
  ∃ k i : Nat, kv = .int .i64 k ∧ iv = .int .i64 i ∧ f ≤ i ∧ (i ≤ t.length ∨ i = f) ∧ Lgst p.length (atB p) (atB t) f i k ∧ NoneTo p t f i ∧ CellIs wr c (-1) ∧ BdAt wr g p.length b ∧ Keeps (fun _ => False) w wr
/-- Within. -/
def FI (p t : List UInt8) (wr : World) (f i : Nat) (kv : Value) (wk : World) : Prop :=
  ∃ k : Nat, kv = .int .i64 k ∧ Inn p.length (atB p) (atB t) f i k ∧ Keeps (fun _ => False) wr wk
theorem fi_next {p t : List UInt8} {w wk : World} {f c g i k' : Nat} {b : Nat → Nat} {kv iv : Value} (hN : Lgst p.length (atB p) (atB t) f (i + 1) k') (hi : i < t.length) (hk : k' ≠ p.length) (h0 : NoneTo p t f i)
    (hC : CellIs wk c (-1)) (hB : BdAt wk g p.length b) (hK : Keeps (fun _ => False) w wk) (hf : f ≤ i) (e1 : kv = .int .i64 k') (e2 : iv = .int .i64 ((i + 1 : Nat) : Int)) : FiR p t f c g b w kv iv wk := by
  refine ⟨k', i + 1, e1, e2, by omega, by omega, hN, fun a ha hai => ?_, hC, hB, hK⟩
  by_cases h : a + p.length ≤ i
  · exact h0 a ha h
  · obtain rfl : a = i + 1 - p.length := by omega
    cases hm : mtL p t (i + 1 - p.length) with
    | false => rfl
    | true => exact absurd ((hN.full (n := t.length) (by omega)).2 ⟨by omega, hm⟩) hk
theorem fi_hit {p t : List UInt8} {w wk : World} {f c i k : Nat} {z : Int} (hN : Lgst p.length (atB p) (atB t) f (i + 1) (k + 1)) (hk : k + 1 = p.length) (hi : i < t.length) (h0 : NoneTo p t f i)
    (hC : CellIs wk c (-1)) (hK : Keeps (fun _ => False) w wk) (hz : z = (i : Int) - (k : Int)) : FiE p t f c w (.returned (.tuple #[])) (wk.setCell ⟨c, 0, none⟩ (.int .i64 z)) := by
  obtain ⟨h1, h2⟩ := (hN.full (n := t.length) (by omega)).1 hk
  refine ⟨z, rfl, hC.set z, Or.inr ⟨i + 1 - p.length, by omega, by omega, by omega, h2, fun b h3 h4 => h0 b h3 (by omega)⟩, Keeps.set (S := fun b => b = c) (hK.mono (fun _ _ e => e.elim)) (p := ⟨c, 0, none⟩) rfl _⟩
set_option maxHeartbeats 8000000 in
theorem find_idx (p t : List UInt8) (f c : Nat) (w : World) (h0 : 0 < p.length) (hp : p.length ≤ 1000) (ht : t.length ≤ 1000) (hf : f ≤ 1000000) (hC : CellIs w c (-1)) : Calls Tryz.prog 257 #[.string ⟨t.toArray⟩, .string ⟨p.toArray⟩, .int .i64 f, .func (.func 258) #[] #[.pointer (some ⟨c, 0, none⟩)]] w fun e w' => FiE p t f c w e w' := by
  have hne : p.isEmpty = false := by cases p <;> simp_all
  have HC := Lib.hid hC
  clear hC
  go_enter Tryz.func257, Tryz.ntmps257
  go_wp2_with fail
  refine (borders_any p _ h0 hp).mono ?_
  rintro e w3 ⟨g, b, rfl, hg, hB, hL, hK⟩
  have HB := Lib.hid hB
  have HL := Lib.hid hL
  have HK := Lib.hid hK
  have HC3 := Lib.hid (HC.out.keep hK)
  clear hB hL hK
  go_wp2_with fail
  go_loopw [10, 11] (fun kv iv wr => FiR p t f c g b w3 kv iv wr) (fun _ iv _ => t.length + 1 - (intOf iv).toNat)
  case atStart => exact ⟨0, f, rfl, rfl, Nat.le_refl _, Or.inr rfl, Lgst.start _ _ _ _, fun a h1 h2 => by omega, HC3.out, HB.out, Keeps.refl _ _⟩
  case round =>
    obtain ⟨k, i, rfl, rfl, hfi, hit, hLg, hNo, hC1, hB1, hK1⟩ := hrel
    have HNo := Lib.hid hNo
    have HC1 := Lib.hid hC1
    have HB1 := Lib.hid hB1
    have HK1 := Lib.hid hK1
    clear hNo hC1 hB1 hK1
    by_cases hil : i < t.length
    · skip
      obtain ⟨d, hd⟩ : ∃ d, t[i]? = some d := ⟨_, List.getElem?_eq_getElem hil⟩
      have hdi := idxC hd
      have Hd := Lib.hid (atB_some hd)
      have hid : decide ((i : Int) < (t.length : Int)) = true := by simpa using hil
      have hid0 : (i : Int) < (t.length : Int) := by omega
      have HLi := Lib.hid hLg.inn
      obtain ⟨wR, hwR⟩ : ∃ W, W = wr := ⟨wr, rfl⟩
      subst hwR
      clear hd hLg
      go_wp2_with fail
      go_loopw [10] (fun kv wk => FI p t wR f i kv wk) (fun kv _ => (intOf kv).toNat)
      case atStart => exact ⟨k, rfl, HLi.out, Keeps.refl _ _⟩
      case round =>
        obtain ⟨k2, rfl, hI, hk2⟩ := hrel
        have hk2i := hI.suf.1
        have hk2m := hI.le
        have HI := Lib.hid hI
        have HBk := Lib.hid (HB1.out.keep hk2)
        have HCk := Lib.hid (HC1.out.keep hk2)
        have HK2 := Lib.hid hk2
        clear hI hk2
        by_cases hkm : k2 = p.length
        · subst hkm
          have hz0 : decide (0 < p.length) = true := by simpa using h0
          have hkk : ((p.length : Int) == (p.length : Int)) = true := by simp
          have hLk := HL.out p.length (by omega) (by omega)
          have hbk := hLk.suf.1
          have HS := Lib.hid (HI.out.step (by omega) (Or.inl rfl) hLk)
          have hck := HBk.out.cell p.length (by omega)
          have hix2 : (p.length : Int) < (p.length : Int) + 1 := by omega
          clear hLk
          go_wp2_with fail
          go_quiet (fail)
          go_wp2_with fail
          go_roundw
          case rel => exact ⟨b p.length, by go_num, HS.out, HK2.out.drawN _⟩
          case measure => simp [intOf]; omega
        · have hk2l : k2 < p.length := by omega
          obtain ⟨cc, hcc⟩ : ∃ cc, p[k2]? = some cc := ⟨_, List.getElem?_eq_getElem hk2l⟩
          have hci := idxC hcc
          have Hc := Lib.hid (atB_some hcc)
          have h1 : (k2 : Int) < (p.length : Int) := by omega
          have hkk : ((k2 : Int) == (p.length : Int)) = false := beq_eq_false_iff_ne.2 (by omega)
          clear hcc
          by_cases hcd : cc = d
          · subst hcd
            have HN := Lib.hid (HI.out.hit hk2l (by rw [Hc.out, Hd.out]))
            by_cases hfull : k2 + 1 = p.length
            · have hkf : ((k2 : Int) + 1 == (p.length : Int)) = true := by simp; omega
              have HF := Lib.hid hfull
              clear hfull
              by_cases hz : k2 = 0
              · subst hz
                have hkf1 : ((1 : Int) == (p.length : Int)) = true := by have := HF.out; simp; omega
                go_wp2_with fail
                go_quiet (fail)
                go_wp2_with fail
                go_quiet (fail)
                go_wp2_with fail
                refine (each_idx _ (-1) c _ (HCk.out.keep ((Keeps.refl _ _).drawN _)).cell (HCk.out.keep ((Keeps.refl _ _).drawN _)).frz).mono ?_
                rintro e w9 ⟨rfl, rfl⟩
                go_wp2_with fail
                go_end0
                exact fi_hit HN.out HF.out hil HNo.out (HCk.out.keep ((Keeps.refl _ _).drawN _)) ((((HK.out.trans HK1.out).trans HK2.out)).drawN _) (by first | rfl | omega | (simp; done) | (simp; omega))
              · have hz0 : decide (0 < k2) = true := by simp; omega
                go_wp2_with fail
                go_quiet (fail)
                go_wp2_with fail
                go_quiet (fail)
                go_wp2_with fail
                refine (each_idx _ (-1) c _ (HCk.out.keep ((Keeps.refl _ _).drawN _)).cell (HCk.out.keep ((Keeps.refl _ _).drawN _)).frz).mono ?_
                rintro e w9 ⟨rfl, rfl⟩
                go_wp2_with fail
                go_end0
                exact fi_hit HN.out HF.out hil HNo.out (HCk.out.keep ((Keeps.refl _ _).drawN _)) ((((HK.out.trans HK1.out).trans HK2.out)).drawN _) (by first | rfl | omega | (simp; done) | (simp; omega))
            · have hkf : ((k2 : Int) + 1 == (p.length : Int)) = false := beq_eq_false_iff_ne.2 (by omega)
              by_cases hz : k2 = 0
              · subst hz
                go_wp2_with fail
                go_quiet (fail)
                go_wp2_with fail
                go_quiet (fail)
                go_wp2_with fail
                go_roundw
                case rel => exact fi_next (k' := 0 + 1) HN.out hil (by omega) HNo.out (HCk.out.keep ((Keeps.refl _ _).drawN _)) (HBk.out.keep ((Keeps.refl _ _).drawN _)) ((HK1.out.trans HK2.out).drawN _) hfi (by go_num) (by go_num)
                case measure => simp [intOf]; omega
              · have hz0 : decide (0 < k2) = true := by simp; omega
                go_wp2_with fail
                go_quiet (fail)
                go_wp2_with fail
                go_quiet (fail)
                go_wp2_with fail
                go_roundw
                case rel => exact fi_next (k' := k2 + 1) HN.out hil (by omega) HNo.out (HCk.out.keep ((Keeps.refl _ _).drawN _)) (HBk.out.keep ((Keeps.refl _ _).drawN _)) ((HK1.out.trans HK2.out).drawN _) hfi (by go_num) (by go_num)
                case measure => simp [intOf]; omega
          · have hne : ((cc.toNat : Int) != (d.toNat : Int)) = true := by
              simp; intro e; exact hcd (UInt8.toNat_inj.1 (by omega))
            have hne2 : ((cc.toNat : Int) == (d.toNat : Int)) = false := by
              simp; intro e; exact hcd (UInt8.toNat_inj.1 (by omega))
            by_cases hz : k2 = 0
            · subst hz
              have HN := Lib.hid (HI.out.miss (by rw [Hc.out, Hd.out]; exact hcd))
              go_wp2_with fail
              go_quiet (fail)
              go_wp2_with fail
              go_quiet (fail)
              go_wp2_with fail
              go_roundw
              case rel => exact fi_next (k' := 0) HN.out hil (by omega) HNo.out (HCk.out.keep ((Keeps.refl _ _).drawN _)) (HBk.out.keep ((Keeps.refl _ _).drawN _)) ((HK1.out.trans HK2.out).drawN _) hfi (by go_num) (by go_num)
              case measure => simp [intOf]; omega
            · have hz0 : decide (0 < k2) = true := by simp; omega
              have hLk := HL.out k2 (by omega) (by omega)
              have hbk := hLk.suf.1
              have HS := Lib.hid (HI.out.step (by omega) (Or.inr (by rw [Hc.out, Hd.out]; exact hcd)) hLk)
              have hck := HBk.out.cell k2 (by omega)
              have hix2 : (k2 : Int) < (p.length : Int) + 1 := by omega
              clear hLk
              go_wp2_with fail
              go_quiet (fail)
              go_wp2_with fail
              go_roundw
              case rel => exact ⟨b k2, by go_num, HS.out, HK2.out.drawN _⟩
              case measure => simp [intOf]; omega
    · have hid : decide ((i : Int) < (t.length : Int)) = false := by simp; omega
      have HE : Hid (IdxAt (mtL p t) t.length f (-1)) := Lib.hid (Or.inl ⟨rfl, fun a ha hat => by
        by_cases h : a + p.length ≤ i
        · exact HNo.out a ha h
        · rw [← Bool.not_eq_true]; intro hm; have := (mtB_iff.1 hm).1; omega⟩)
      go_wp2_with fail
      go_end0
      exact ⟨-1, rfl, HC1.out, HE.out, (HK.out.trans HK1.out).mono (fun _ _ e => e.elim)⟩
end Go.Proofs.YtgobcnheemocnaaGreatDoor
end
section
namespace Go.Proofs.YtgobcnheemocnaaGreatDoor
open Go.RowKit
set_option linter.unusedVariables false
set_option linter.unusedSimpArgs false
set_option maxRecDepth 100000

def NiR (t : List UInt8) (f : Nat) (w : World) (iv : Value) (wr : World) : Prop := iv = .int .i64 f ∧ w = wr
set_option maxHeartbeats 4000000 in
theorem find_idx0 (t : List UInt8) (f c : Nat) (w : World) (ht : t.length ≤ 1000) (hf : f ≤ 1000000) (hC : CellIs w c (-1)) :
    Calls Tryz.prog 257 #[.string ⟨t.toArray⟩, .string ⟨([] : List UInt8).toArray⟩, .int .i64 f, .func (.func 258) #[] #[.pointer (some ⟨c, 0, none⟩)]] w fun e w' => FiE [] t f c w e w' := by
  have HC := Lib.hid hC
  clear hC
  by_cases hft : f ≤ t.length
  · have hd : decide ((f : Int) ≤ (t.length : Int)) = true := by simp; omega
    have HE : Hid (IdxAt (mtL [] t) t.length f f) := Lib.hid (Or.inr ⟨f, rfl, Nat.le_refl _, hft, by rw [mtL_nil]; simpa using hft, fun b h1 h2 => by omega⟩)
    go_enter Tryz.func257, Tryz.ntmps257
    go_wp2_with fail
    go_loopw [8] (fun iv wr => NiR t f w iv wr) (fun _ _ => 0)
    case atStart => exact ⟨rfl, rfl⟩
    case round =>
      obtain ⟨rfl, rfl⟩ := hrel
      go_wp2_with fail
      refine (each_idx _ (-1) c _ HC.out.cell HC.out.frz).mono ?_
      rintro e w9 ⟨rfl, rfl⟩
      go_wp2_with fail
      go_end0
      exact ⟨_, rfl, HC.out.set _, HE.out, Keeps.set (S := fun b => b = c) (Keeps.refl _ _) (p := ⟨c, 0, none⟩) rfl _⟩
  · have hd : decide ((f : Int) ≤ (t.length : Int)) = false := by simp; omega
    have HE : Hid (IdxAt (mtL [] t) t.length f (-1)) := Lib.hid (Or.inl ⟨rfl, fun a h1 h2 => by omega⟩)
    go_enter Tryz.func257, Tryz.ntmps257
    go_wp2_with fail
    go_loopw [8] (fun iv wr => NiR t f w iv wr) (fun _ _ => 0)
    case atStart => exact ⟨rfl, rfl⟩
    case round =>
      obtain ⟨rfl, rfl⟩ := hrel
      go_wp2_with fail
      go_end0
      exact ⟨_, rfl, HC.out, HE.out, Keeps.refl _ _⟩
theorem find_idxs (p t : List UInt8) (f c : Nat) (w : World) (hp : p.length ≤ 1000) (ht : t.length ≤ 1000) (hf : f ≤ 1000000) (hC : CellIs w c (-1)) :
    Calls Tryz.prog 257 #[.string ⟨t.toArray⟩, .string ⟨p.toArray⟩, .int .i64 f, .func (.func 258) #[] #[.pointer (some ⟨c, 0, none⟩)]] w fun e w' => FiE p t f c w e w' := by
  rcases p with _ | ⟨x, p⟩
  · exact find_idx0 t f c w ht hf hC
  · exact find_idx (x :: p) t f c w (by simp) hp ht hf hC
theorem CellIs.new (w : World) (z : Int) : CellIs (w.alloc (.cells #[.int .i64 z] 3)) w.heap.size z := ⟨by simp [go_sem], by simp [go_sem]⟩
def IxE (p t : List UInt8) (f : Nat) (w : World) (e : Ending) (w' : World) : Prop := ∃ z : Int, e = .returned (.int .i64 z) ∧ IdxAt (mtL p t) t.length f z ∧ Keeps (fun _ => False) w w'
theorem new_keeps {w w' : World} {o : Obj} (h : Keeps (fun b => b = w.heap.size) (w.alloc o) w') : Keeps (fun _ => False) w w' := ((Keeps.refl (fun _ => False) w).alloc o).trans2 h (fun b hb e => by omega)
set_option maxHeartbeats 2000000 in
theorem index_any (p t : List UInt8) (f : Nat) (w : World) (hp : p.length ≤ 1000) (ht : t.length ≤ 1000) (hf : f ≤ 1000000) : Calls Tryz.prog 249 #[.string ⟨t.toArray⟩, .string ⟨p.toArray⟩, .int .i64 f] w fun e w' => IxE p t f w e w' := by
  have HF := Lib.hid (find_idxs p t f w.heap.size _ hp ht hf (CellIs.new w (-1)))
  go_enter Tryz.func249, Tryz.ntmps249
  go_wp2_with fail
  refine HF.out.mono ?_
  rintro e w3 ⟨z, rfl, hC, hI, hK⟩
  have hc := hC.cell
  have HI := Lib.hid hI
  have HK := Lib.hid (new_keeps hK)
  clear hC hI hK
  go_wp2_with fail
  go_ret
  exact ⟨z, rfl, HI.out, HK.out⟩
end Go.Proofs.YtgobcnheemocnaaGreatDoor
end
section
namespace Go.Proofs.YtgobcnheemocnaaGreatDoor
open Go.RowKit
set_option linter.unusedVariables false
set_option linter.unusedSimpArgs false
set_option maxRecDepth 100000

end Go.Proofs.YtgobcnheemocnaaGreatDoor
end
section
namespace Go.Proofs.YtgobcnheemocnaaGreatDoor
open Go.RowKit
set_option linter.unusedVariables false
set_option linter.unusedSimpArgs false
set_option maxRecDepth 100000

end Go.Proofs.YtgobcnheemocnaaGreatDoor
end
section
namespace Go.Proofs.YtgobcnheemocnaaGreatDoor
open Go.RowKit
set_option linter.unusedVariables false
set_option linter.unusedSimpArgs false
set_option maxRecDepth 100000

/-! ### What octets would say -/
end Go.Proofs.YtgobcnheemocnaaGreatDoor
end
section
namespace Go.Proofs.YtgobcnheemocnaaGreatDoor
open Go.RowKit
set_option linter.unusedVariables false
set_option linter.unusedSimpArgs false
set_option maxRecDepth 100000

/-! ### Octets of a code point -/
def lowB (r : Nat) : Nat → List UInt8
  | 0 => []
  | i + 1 => UInt8.ofNat (128 + r / 64 ^ i % 64) :: lowB r i
theorem lowB_len (r i : Nat) : (lowB r i).length = i := by induction i with | zero => rfl | succ i ih => simp [lowB, ih]
def putP (r : Nat) : List UInt8 :=
  if r < 128 then [UInt8.ofNat r] else if r < 2048 then UInt8.ofNat (192 + r / 64) :: lowB r 1 else if r < 65536 then UInt8.ofNat (224 + r / 4096) :: lowB r 2 else UInt8.ofNat (240 + r / 262144) :: lowB r 3
end Go.Proofs.YtgobcnheemocnaaGreatDoor
end
section
namespace Go.Proofs.YtgobcnheemocnaaGreatDoor
open Go.RowKit
set_option linter.unusedVariables false
set_option linter.unusedSimpArgs false
set_option maxRecDepth 100000

theorem u8n {n : Nat} (h : n < 256) : (UInt8.ofNat n).toNat = n := by rw [UInt8.toNat_ofNat_of_lt' (by show n < 256; exact h)]
theorem sizP_of {r : Nat} (h : isB (r : Int) = true) : sizP (r : Int) = if r < 128 then 1 else if r < 2048 then 2 else if r < 65536 then 3 else 4 := by
  unfold sizP; rw [h]; simp only [if_true]
  repeat' split
  all_goals first | rfl | omega
/-- What has been put is got. -/
theorem get_put {c : UInt8} {t : List UInt8} {r : Nat} (hb : isB (r : Int) = true) (n : Nat) (hn : n ≤ (c :: t).length) (hp : putP r = (c :: t).take n) : getP (c :: t) = ((r : Int), n) := by
  have hr : r ≤ 1114111 := by simp [isB] at hb; omega
  have hs := sizP_of hb
  have hlen := congrArg List.length hp
  rw [List.length_take, Nat.min_eq_left hn] at hlen
  unfold putP at hp hlen
  by_cases h1 : r < 128
  · rw [if_pos h1] at hp hlen
    obtain rfl : n = 1 := by simpa using hlen.symm
    simp only [List.take_succ_cons, List.take_zero, List.cons.injEq, and_true] at hp
    have hc : c.toNat = r := by rw [← hp, u8n (by omega)]
    rw [getP_ascii c t (by omega), hc]
  rw [if_neg h1] at hp hlen hs
  by_cases h2 : r < 2048
  · rw [if_pos h2] at hp hlen hs
    obtain rfl : n = 2 := by simpa [lowB_len] using hlen.symm
    rcases t with _ | ⟨b1, t⟩
    · simp at hn
    simp only [List.take_succ_cons, List.take_zero, lowB, List.cons.injEq, and_true] at hp
    obtain ⟨e0, e1⟩ := hp
    have c0 : c.toNat = 192 + r / 64 := by rw [← e0, u8n (by omega)]
    have c1 : b1.toNat = 128 + r % 64 := by rw [← e1, u8n (by simp; omega)]; simp
    have hl : lenP c.toNat = 2 := by unfold lenP; rw [if_neg (by omega), if_pos (by omega)]
    rw [getP_eq, hl, if_neg (by simp)]
    have ht : tailP (headP c) ((b1 :: t).take (2 - 1)) = some r := by
      unfold headP
      rw [hl, if_pos (by omega)]
      simp only [show 2 - 1 = 1 from rfl, List.take_succ_cons, List.take_zero, tailP]
      rw [if_pos (by omega)]
      congr 1
      rw [c0, c1]; simp; omega
    rw [ht]
    simp only
    rw [if_pos (by rw [hs]; rfl)]
  rw [if_neg h2] at hp hlen hs
  by_cases h3 : r < 65536
  · rw [if_pos h3] at hp hlen hs
    obtain rfl : n = 3 := by simpa [lowB_len] using hlen.symm
    rcases t with _ | ⟨b1, _ | ⟨b2, t⟩⟩
    · simp at hn
    · simp at hn
    simp only [List.take_succ_cons, List.take_zero, lowB, List.cons.injEq, and_true] at hp
    obtain ⟨e0, e1, e2⟩ := hp
    have c0 : c.toNat = 224 + r / 4096 := by rw [← e0, u8n (by omega)]
    have c1 : b1.toNat = 128 + r / 64 % 64 := by rw [← e1, u8n (by simp; omega), Nat.pow_one]
    have c2 : b2.toNat = 128 + r % 64 := by rw [← e2, u8n (by simp; omega)]; simp
    have hl : lenP c.toNat = 3 := by unfold lenP; rw [if_neg (by omega), if_neg (by omega), if_pos (by omega)]
    rw [getP_eq, hl, if_neg (by simp)]
    have ht : tailP (headP c) ((b1 :: b2 :: t).take (3 - 1)) = some r := by
      unfold headP
      rw [hl, if_pos (by omega)]
      simp only [show 3 - 1 = 2 from rfl, List.take_succ_cons, List.take_zero, tailP]
      rw [if_pos (by omega), if_pos (by omega)]
      congr 1
      rw [c0, c1, c2]; simp; omega
    rw [ht]
    simp only
    rw [if_pos (by rw [hs]; rfl)]
  rw [if_neg h3] at hp hlen hs
  obtain rfl : n = 4 := by simpa [lowB_len] using hlen.symm
  rcases t with _ | ⟨b1, _ | ⟨b2, _ | ⟨b3, t⟩⟩⟩
  · simp at hn
  · simp at hn
  · simp at hn
  simp only [List.take_succ_cons, List.take_zero, lowB, List.cons.injEq, and_true] at hp
  obtain ⟨e0, e1, e2, e3⟩ := hp
  have c0 : c.toNat = 240 + r / 262144 := by rw [← e0, u8n (by omega)]
  have c1 : b1.toNat = 128 + r / 4096 % 64 := by rw [← e1, u8n (by simp; omega)]
  have c2 : b2.toNat = 128 + r / 64 % 64 := by rw [← e2, u8n (by simp; omega), Nat.pow_one]
  have c3 : b3.toNat = 128 + r % 64 := by rw [← e3, u8n (by simp; omega)]; simp
  have hl : lenP c.toNat = 4 := by unfold lenP; rw [if_neg (by omega), if_neg (by omega), if_neg (by omega), if_pos (by omega)]
  rw [getP_eq, hl, if_neg (by simp)]
  have ht : tailP (headP c) ((b1 :: b2 :: b3 :: t).take (4 - 1)) = some r := by
    unfold headP
    rw [hl, if_pos (by omega)]
    simp only [show 4 - 1 = 3 from rfl, List.take_succ_cons, List.take_zero, tailP]
    rw [if_pos (by omega), if_pos (by omega), if_pos (by omega)]
    congr 1
    rw [c0, c1, c2, c3]; simp; omega
  rw [ht]
  simp only
  rw [if_pos (by rw [hs]; rfl)]
end Go.Proofs.YtgobcnheemocnaaGreatDoor
end
section
namespace Go.Proofs.YtgobcnheemocnaaGreatDoor
open Go.RowKit
set_option linter.unusedVariables false
set_option linter.unusedSimpArgs false
set_option maxRecDepth 100000

end Go.Proofs.YtgobcnheemocnaaGreatDoor
end
section
namespace Go.Proofs.YtgobcnheemocnaaGreatDoor
open Go.RowKit
set_option linter.unusedVariables false
set_option linter.unusedSimpArgs false
set_option maxRecDepth 100000

/-- Of octets: are all code points'? -/
def SoR (l : List UInt8) (X : Nat) (w1 : World) (bv : Value) (wr : World) : Prop := ∃ rest, BS X wr bv rest ∧ rest.length ≤ l.length ∧ (pts rest).isSome = (pts l).isSome ∧ w1 = wr
set_option maxHeartbeats 4000000 in
theorem sound_any (l : List UInt8) (w : World) (hl : l.length ≤ 100000) :
    Calls Tryz.prog 251 #[.string ⟨l.toArray⟩] w fun e w' => e = .returned (.bool (pts l).isSome) ∧ Keeps (fun _ => False) w w' := by
  have Hs : Hid ((⟨l.toArray⟩ : ByteArray).data.toList = l) := rfl
  have Hz : Hid ((⟨l.toArray⟩ : ByteArray).size = l.length) := by show l.toArray.size = _; simp
  generalize (⟨l.toArray⟩ : ByteArray) = s at *
  go_enter Tryz.func251, Tryz.ntmps251
  have hconv := fun W => Lib.run_convert_string_bytes (P := Tryz.prog) W 9 26 5 s Tryz.underlying9 Tryz.underlying26 Tryz.underlying5
  go_wp2_with fail
  clear hconv
  have hW0 : Keeps (fun _ => False) w (Lib.bytesWorld w 5 s) := ⟨rfl, rfl, rfl, by rw [Lib.bytesWorld_size]; omega, fun k hk _ => Lib.bytesWorld_at_old w 5 s k hk⟩
  have hX0 : ∀ j x, l[j]? = some x → (Lib.bytesWorld w 5 s).cell? ⟨w.heap.size, 0 + j, none⟩ = some (.int .u8 (x.toNat : Int)) := fun j x hx => by
    have hj : j < l.length := (List.getElem?_eq_some_iff.1 hx).1
    have := Lib.bytesWorld_cell w 5 s j (by rw [Hz.out]; exact hj)
    rw [Hs.out, List.getD_eq_getElem?_getD, hx] at this
    rw [Nat.zero_add]; exact this
  have hcp := grownCap_ge w s.size 0 5
  have hcp2 := grownCap_le_maxLen w s.size 0 5 (by rw [Hz.out]; unfold maxLen; omega)
  generalize grownCap w s.size 0 5 = cp at *
  generalize Lib.bytesWorld w 5 s = w1 at *
  unfold maxLen at hcp2
  rw [Hz.out] at hcp ⊢
  have hB0 : BS w.heap.size w1 (.slice (some ⟨w.heap.size, 0, none⟩) l.length cp) l := ⟨_, cp, rfl, hcp, fun _ => ⟨0, rfl, hX0⟩⟩
  have KW := Lib.hid hW0
  clear hX0 Hs Hz hW0
  go_loopw [3] (fun bv wr => SoR l w.heap.size w1 bv wr) (fun bv _ => restLen bv)
  case atStart => exact ⟨l, hB0, Nat.le_refl _, rfl, rfl⟩
  case round =>
    clear hB0
    obtain ⟨rest, hB, hlen, hp, rfl⟩ := hrel
    have HB := Lib.hid hB
    obtain ⟨a, cap, rfl, hcap, hcell⟩ := hB
    have Hp := Lib.hid hp
    clear hp
    cases rest with
    | nil =>
      have E : Hid (true = (pts l).isSome) := Lib.hid (by rw [← Hp.out]; rfl)
      clear hcell Hp
      go_wp2_with fail
      go_ret
      exact ⟨by rw [← E.out]; rfl, KW.out⟩
    | cons c t =>
      obtain ⟨off, rfl, hcc⟩ := hcell (by simp)
      have HC := Lib.hid hcc
      have hp1 := (getP_pos c t).1
      have hp2 := getP_le c t
      have E : Hid ((pts l).isSome = (if sizP (getP (c :: t)).1 = ((getP (c :: t)).2 : Int) then (pts ((c :: t).drop (getP (c :: t)).2)).map ((getP (c :: t)).1 :: ·) else none).isSome) := Lib.hid (by rw [← Hp.out, pts_cons])
      have HG := Lib.hid (get_some w.heap.size off cap (t.length + 1) c t w1 rfl (by simpa using hcap) hcc)
      clear hcc hcell Hp
      generalize getP (c :: t) = G at *
      obtain ⟨r, n⟩ := G
      simp only at hp1 hp2 E HG
      have HS := Lib.hid (fun W => size_any r W)
      have hlc : (c :: t).length = t.length + 1 := rfl
      simp only [List.length_cons] at hcap hlen hlc
      by_cases hs : sizP r = n
      · have E2 : Hid ((pts ((c :: t).drop n)).isSome = (pts l).isSome) := Lib.hid (by rw [E.out, if_pos hs, Option.isSome_map])
        rw [hs] at HS
        have hdl : ((c :: t).drop n).length = t.length + 1 - n := by simp
        have hdc : ∀ i x, ((c :: t).drop n)[i]? = some x → w1.cell? ⟨w.heap.size, off + n + i, none⟩ = some (.int .u8 (x.toNat : Int)) := fun i x hx => by
          rw [List.getElem?_drop] at hx
          rw [Nat.add_assoc]; exact HC.out (n + i) x hx
        have Hdl := Lib.hid hdl
        have Hdc := Lib.hid hdc
        clear hs E hdl hdc
        generalize (c :: t).drop n = rest' at *
        have hgo : ∀ (o' : Nat), (n < cap → o' = off + n) → SoR l w.heap.size w1 (.slice (some ⟨w.heap.size, o', none⟩) (t.length + 1 - n) (cap - n)) w1 := by
          intro o' h4
          refine ⟨rest', ⟨some ⟨w.heap.size, o', none⟩, cap - n, by rw [Hdl.out], by rw [Hdl.out]; omega, fun hne => ?_⟩, by rw [Hdl.out]; omega, E2.out, rfl⟩
          have h5 : 0 < rest'.length := List.length_pos_iff.2 hne
          rw [Hdl.out] at h5
          refine ⟨o', rfl, fun i x hx => ?_⟩
          rw [h4 (by omega)]
          exact Hdc.out i x hx
        have HGo := Lib.hid hgo
        clear hgo
        by_cases hcn : cap = n
        · subst hcn
          go_wp2_with fail
          refine HG.out.mono ?_
          rintro e w2 ⟨rfl, rfl⟩
          go_wp2_with fail
          refine (HS.out _).mono ?_
          rintro e w2 ⟨rfl, rfl⟩
          go_wp2_with fail
          go_roundw
          case rel => first | exact HGo.out _ (fun h => by first | rfl | omega) | (have h9 := HGo.out off (fun h => by omega); rw [show t.length + 1 - cap = 0 by omega, Nat.sub_self] at h9; exact h9)
          case measure => first | (simp [restLen]; done) | (simp [restLen]; omega)
        · have hcn2 : n < cap := by omega
          go_wp2_with fail
          refine HG.out.mono ?_
          rintro e w2 ⟨rfl, rfl⟩
          go_wp2_with fail
          refine (HS.out _).mono ?_
          rintro e w2 ⟨rfl, rfl⟩
          go_wp2_with fail
          go_roundw
          case rel => first | exact HGo.out _ (fun h => by first | rfl | omega) | (have h9 := HGo.out off (fun h => by omega); rw [show t.length + 1 - cap = 0 by omega, Nat.sub_self] at h9; exact h9)
          case measure => first | (simp [restLen]; done) | (simp [restLen]; omega)
      · have E2 : Hid (false = (pts l).isSome) := Lib.hid (by rw [E.out, if_neg hs]; rfl)
        have g1 : (sizP r != (n : Int)) = true := by simp only [bne_iff_ne, ne_eq]; exact hs
        clear hs E
        generalize sizP r = sz at *
        go_wp2_with fail
        refine HG.out.mono ?_
        rintro e w2 ⟨rfl, rfl⟩
        go_wp2_with fail
        refine (HS.out _).mono ?_
        rintro e w2 ⟨rfl, rfl⟩
        go_wp2_with fail
        go_ret
        exact ⟨by rw [← E2.out]; rfl, KW.out⟩
def plainL (l : List UInt8) : Bool := l.all fun c => decide (c.toNat < 128)
def PlnR (l : List UInt8) (w : World) (iv : Value) (wr : World) : Prop := ∃ i : Nat, iv = .int .i64 i ∧ i ≤ l.length ∧ plainL (l.drop i) = plainL l ∧ w = wr
set_option maxHeartbeats 4000000 in
theorem eplain_any (l : List UInt8) (w : World) (hl : l.length ≤ 100000) :
    Calls Tryz.prog 247 #[.string ⟨l.toArray⟩] w fun e w' => e = .returned (.bool (plainL l)) ∧ w = w' := by
  go_enter Tryz.func247, Tryz.ntmps247
  go_wp2_with fail
  go_loopw [6] (fun iv wr => PlnR l w iv wr) (fun iv _ => l.length - (intOf iv).toNat)
  case atStart => exact ⟨0, rfl, Nat.zero_le _, rfl, rfl⟩
  case round =>
    obtain ⟨i, rfl, hi, hp, rfl⟩ := hrel
    have Hp := Lib.hid hp
    clear hp
    by_cases hil : i < l.length
    · obtain ⟨c, hc⟩ : ∃ c, l[i]? = some c := ⟨_, List.getElem?_eq_getElem hil⟩
      have hx := idxC hc
      have hdr : l.drop i = c :: l.drop (i + 1) := by
        obtain ⟨h1, h2⟩ := List.getElem?_eq_some_iff.1 hc
        rw [List.drop_eq_getElem_cons h1, h2]
      have E : Hid (plainL l = (decide (c.toNat < 128) && plainL (l.drop (i + 1)))) := Lib.hid (by rw [← Hp.out, hdr]; rfl)
      have hc1 := c.toNat_lt
      clear hdr hc
      by_cases hcl : c.toNat < 128
      · have g1 : decide ((128 : Int) ≤ (c.toNat : Int)) = false := by simp; omega
        have E2 : Hid (plainL (l.drop (i + 1)) = plainL l) := Lib.hid (by rw [E.out]; simp [hcl])
        go_wp2_with fail
        go_roundw
        case rel => exact ⟨i + 1, by go_num, by omega, E2.out, rfl⟩
        case measure => simp [intOf]; omega
      · have g1 : decide ((128 : Int) ≤ (c.toNat : Int)) = true := by simp; omega
        have E2 : Hid (false = plainL l) := Lib.hid (by rw [E.out]; simp [hcl])
        go_wp2_with fail
        go_ret
        exact ⟨by rw [← E2.out]; rfl, rfl⟩
    · obtain rfl : i = l.length := by omega
      have E2 : Hid (true = plainL l) := Lib.hid (by rw [← Hp.out, List.drop_length]; rfl)
      go_wp2_with fail
      go_ret
      exact ⟨by rw [← E2.out]; rfl, rfl⟩
def HopE (pre tx : List UInt8) (w : World) (e : Ending) (w' : World) : Prop := (∃ z : Int, (pre ≠ [] → IdxAt (mtL pre tx) tx.length 0 z) ∧ e = .returned (.bool (!pre.isEmpty && (decide (z < 0) && (pts tx).isSome)))) ∧ Keeps (fun _ => False) w w'
set_option maxHeartbeats 4000000 in
theorem hopeless_any (eb : Nat) (P : Nat → Prop) (pv : Value) (is : List Ins) (r : List UInt8 × Bool) (tx : List UInt8) (w : World) (h : EngAt w P eb pv is r) (hr : r.1.length ≤ 1000) (htx : tx.length ≤ 1000) :
    Calls Tryz.prog 246 #[.pointer (some ⟨eb, 0, none⟩), .string ⟨tx.toArray⟩] w fun e w' => HopE r.1 tx w e w' := by
  obtain ⟨c0, c1, c2⟩ := h.cells
  have HI := Lib.hid (fun W => index_any r.1 tx 0 W hr htx (by omega))
  have HS := Lib.hid (fun W => sound_any tx W (by omega))
  clear h
  obtain ⟨pre, wh⟩ := r
  simp only at c0 c1 c2 HI ⊢
  by_cases h0 : pre = []
  · subst h0
    clear HI HS
    go_enter Tryz.func246, Tryz.ntmps246
    go_wp2_with fail
    go_ret
    exact ⟨⟨0, fun h => absurd rfl h, rfl⟩, Keeps.refl _ _⟩
  · have hne : pre.isEmpty = false := by cases pre <;> simp_all
    have Hne := Lib.hid hne
    have H0 := Lib.hid h0
    clear h0
    go_enter Tryz.func246, Tryz.ntmps246
    go_wp2_with fail
    refine (HI.out _).mono ?_
    rintro e w2 ⟨z, rfl, hz, k2⟩
    have HZ := Lib.hid hz
    have K2 := Lib.hid k2
    clear hz k2
    by_cases hz0 : z < 0
    · have g1 : decide (z < 0) = true := by simpa using hz0
      go_wp2_with fail
      refine (HS.out _).mono ?_
      rintro e w3 ⟨rfl, k3⟩
      have K3 := Lib.hid (K2.out.trans k3)
      clear k3
      go_wp2_with fail
      go_ret
      exact ⟨⟨z, fun _ => HZ.out, by simp [Hne.out, g1]⟩, K3.out⟩
    · have g1 : decide (z < 0) = false := by simpa using hz0
      go_wp2_with fail
      go_ret
      exact ⟨⟨z, fun _ => HZ.out, by simp [g1]⟩, K2.out⟩
end Go.Proofs.YtgobcnheemocnaaGreatDoor
end
