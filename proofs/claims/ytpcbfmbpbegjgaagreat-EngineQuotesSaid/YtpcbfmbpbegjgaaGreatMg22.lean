/-
  Several texts in one: lit's find, Index, Count. lit's Index and Count. The document's code point at a text's beginning is the program's: plain Lean. The document's Get, points. The document's points.
-/
import Derived.Test.YtpcbfmbpbegjgaaGreatMg21
import Derived.Conc.PipeWords
import Derived.Test.YtpcbfmbpbegjgaaGreatPaSimMG
import Derived.Deep.RegionHeld3
import Derived.Deep.CutRange
import Derived.BigRegion
import Derived.BigQuiet
section
namespace Go.Proofs.YtpcbfmbpbegjgaaGreat
open Go.RowKit
set_option linter.unusedVariables false
set_option linter.unusedSimpArgs false
set_option maxRecDepth 100000

theorem each_idx (i z : Int) (c : Nat) (w : World) (hc : w.cell? ⟨c, 0, none⟩ = some (.int .i64 z)) (hf : w.frozen? ⟨c, 0, none⟩ = false) :
    Calls Tryz.prog 60 #[.int .i64 i, .pointer (some ⟨c, 0, none⟩)] w fun e w' => e = .returned (.bool false) ∧ w.setCell ⟨c, 0, none⟩ (.int .i64 i) = w' := by
  go_enter Tryz.func60, Tryz.ntmps60
  go_wp2_with fail
  go_ret
  exact ⟨rfl, rfl⟩
/-- A place of the call's own holds z. -/
structure CellIs (w : World) (c : Nat) (z : Int) : Prop where
  cell : w.cell? ⟨c, 0, none⟩ = some (.int .i64 z)
  frz : w.frozen? ⟨c, 0, none⟩ = false
theorem CellIs.keep {w w' : World} {c : Nat} {z : Int} (h : CellIs w c z) (K : Keeps (fun _ => False) w w') : CellIs w' c z := ⟨K.cell h.cell id, K.frozen h.frz (lt_of_cell h.cell) id⟩
theorem CellIs.set {w : World} {c : Nat} {z : Int} (h : CellIs w c z) (y : Int) : CellIs (w.setCell ⟨c, 0, none⟩ (.int .i64 y)) c y := ⟨cell_set_same h.cell, by rw [frozen_set]; exact h.frz⟩
theorem CellIs.lt {w : World} {c : Nat} {z : Int} (h : CellIs w c z) : c < w.heap.size := lt_of_cell h.cell
/-- The places of p in t. -/
def mtL (p t : List UInt8) : Nat → Bool := mtB p.length t.length (atB p) (atB t)
theorem mtL_nil (t : List UInt8) (a : Nat) : mtL [] t a = decide (a ≤ t.length) := by
  unfold mtL; cases h : decide (a ≤ t.length)
  · rw [← Bool.not_eq_true, mtB_iff]; simp at h ⊢; omega
  · rw [mtB_iff]; simp at h ⊢; omega
/-- Up to i, none. -/
def NoneTo (p t : List UInt8) (f i : Nat) : Prop := ∀ a, f ≤ a → a + p.length ≤ i → mtL p t a = false
/-- find has come to its end. -/
def FiE (p t : List UInt8) (f c : Nat) (w : World) (e : Ending) (w' : World) : Prop :=
  ∃ z : Int, e = .returned (.tuple #[]) ∧ CellIs w' c z ∧ IdxAt (mtL p t) t.length f z ∧ Keeps (fun b => b = c) w w'
def FcE (p t : List UInt8) (c : Nat) (w : World) (e : Ending) (w' : World) : Prop :=
  e = .returned (.tuple #[]) ∧ CellIs w' c (cntM (mtL p t) (t.length + 1) : Nat) ∧ Keeps (fun b => b = c) w w'
/-- At the head of the loop over the text. -/
def FiR (p t : List UInt8) (f c g : Nat) (b : Nat → Nat) (w : World) (kv iv : Value) (wr : World) : Prop :=
  ∃ k i : Nat, kv = .int .i64 k ∧ iv = .int .i64 i ∧ f ≤ i ∧ (i ≤ t.length ∨ i = f) ∧ Lgst p.length (atB p) (atB t) f i k ∧ NoneTo p t f i ∧ CellIs wr c (-1) ∧ BdAt wr g p.length b ∧ Keeps (fun _ => False) w wr
def FcR (p t : List UInt8) (c g : Nat) (b : Nat → Nat) (w : World) (kv iv : Value) (wr : World) : Prop :=
  ∃ k i : Nat, kv = .int .i64 k ∧ iv = .int .i64 i ∧ i ≤ t.length ∧ Lgst p.length (atB p) (atB t) 0 i k ∧ CellIs wr c (cntM (mtL p t) (i + 1 - p.length) : Nat) ∧ BdAt wr g p.length b ∧ Keeps (fun b => b = c) w wr
/-- Within. -/
def FI (p t : List UInt8) (wr : World) (f i : Nat) (kv : Value) (wk : World) : Prop :=
  ∃ k : Nat, kv = .int .i64 k ∧ Inn p.length (atB p) (atB t) f i k ∧ Keeps (fun _ => False) wr wk
theorem fi_next {p t : List UInt8} {w wk : World} {f c g i k' : Nat} {b : Nat → Nat} {kv iv : Value} (hN : Lgst p.length (atB p) (atB t) f (i + 1) k') (hi : i < t.length) (hk : k' ≠ p.length) (h0 : NoneTo p t f i)
    (hC : CellIs wk c (-1)) (hB : BdAt wk g p.length b) (hK : Keeps (fun _ => False) w wk) (hf : f ≤ i) (e1 : kv = .int .i64 k') (e2 : iv = .int .i64 ((i + 1 : Nat) : Int)) : FiR p t f c g b w kv iv wk := by
  refine ⟨k', i + 1, e1, e2, by omega, by omega, hN, fun a ha hai => ?_, hC, hB, hK⟩
  by_cases h : a + p.length ≤ i
  · exact h0 a ha h
  · obtain rfl : a = i + 1 - p.length := by omega
    cases hm : mtL p t (i + 1 - p.length) with
    | false => rfl
    | true => exact absurd ((hN.full (n := t.length) (by omega)).2 ⟨by omega, hm⟩) hk
theorem fi_hit {p t : List UInt8} {w wk : World} {f c i k : Nat} {z : Int} (hN : Lgst p.length (atB p) (atB t) f (i + 1) (k + 1)) (hk : k + 1 = p.length) (hi : i < t.length) (h0 : NoneTo p t f i)
    (hC : CellIs wk c (-1)) (hK : Keeps (fun _ => False) w wk) (hz : z = (i : Int) - (k : Int)) : FiE p t f c w (.returned (.tuple #[])) (wk.setCell ⟨c, 0, none⟩ (.int .i64 z)) := by
  obtain ⟨h1, h2⟩ := (hN.full (n := t.length) (by omega)).1 hk
  refine ⟨z, rfl, hC.set z, Or.inr ⟨i + 1 - p.length, by omega, by omega, by omega, h2, fun b h3 h4 => h0 b h3 (by omega)⟩, Keeps.set (S := fun b => b = c) (hK.mono (fun _ _ e => e.elim)) (p := ⟨c, 0, none⟩) rfl _⟩
theorem fc_next {p t : List UInt8} {w wk : World} {c g i k' : Nat} {b : Nat → Nat} {kv iv : Value} (hN : Lgst p.length (atB p) (atB t) 0 (i + 1) k') (hi : i < t.length) (hk : k' ≠ p.length)
    {z : Nat} (hC : CellIs wk c (z : Nat)) (hB : BdAt wk g p.length b) (hK : Keeps (fun b => b = c) w wk) (hz : cntM (mtL p t) (i + 1 - p.length) = z) (e1 : kv = .int .i64 k') (e2 : iv = .int .i64 ((i + 1 : Nat) : Int)) : FcR p t c g b w kv iv wk := by
  refine ⟨k', i + 1, e1, e2, by omega, hN, ?_, hB, hK⟩
  rw [show cntM (mtL p t) (i + 1 + 1 - p.length) = cntM (mtL p t) (i + 1 - p.length) from cntM_to _ (by omega) (fun a ha hb => by
    obtain rfl : a = i + 1 - p.length := by omega
    cases hm : mtL p t (i + 1 - p.length) with
    | false => rfl
    | true => exact absurd ((hN.full (n := t.length) (by omega)).2 ⟨by omega, hm⟩) hk), hz]
  exact hC
theorem fc_hit {p t : List UInt8} {w wk : World} {c g i k k' : Nat} {b : Nat → Nat} {z : Nat} {kv iv : Value} (hN : Lgst p.length (atB p) (atB t) 0 (i + 1) (k + 1)) (hk : k + 1 = p.length) (hi : i < t.length)
    (hC : CellIs wk c (z : Nat)) (hB : BdAt wk g p.length b) (hK : Keeps (fun b => b = c) w wk) (hz : z = cntM (mtL p t) (i + 1 - p.length) ∧ k' = k + 1) (hgc : ¬ g = c) (e1 : kv = .int .i64 k') (e2 : iv = .int .i64 ((i + 1 : Nat) : Int)) : FcR p t c g b w kv iv (wk.setCell ⟨c, 0, none⟩ (.int .i64 ((z + 1 : Nat) : Int))) := by
  obtain ⟨h1, h2⟩ := (hN.full (n := t.length) (by omega)).1 hk
  obtain ⟨hz, rfl⟩ := hz
  refine ⟨k + 1, i + 1, e1, e2, by omega, hN, ?_, ⟨fun j hj => ?_, fun x => by rw [frozen_set]; exact hB.frz x⟩, hK.set (p := ⟨c, 0, none⟩) rfl _⟩
  · rw [show cntM (mtL p t) (i + 1 + 1 - p.length) = z + 1 by rw [show i + 1 + 1 - p.length = i + 1 - p.length + 1 by omega, cntM_succ, if_pos (show mtL p t _ = true from h2), hz]]
    exact hC.set _
  · rw [cell_set_other (by intro e; injection e with e; exact hgc e.symm)]; exact hB.cell j hj
set_option maxHeartbeats 8000000 in
theorem find_idx (p t : List UInt8) (f c : Nat) (w : World) (h0 : 0 < p.length) (hp : p.length ≤ 1000) (ht : t.length ≤ 1000) (hf : f ≤ 1000000) (hC : CellIs w c (-1)) : Calls Tryz.prog 59 #[.string ⟨t.toArray⟩, .string ⟨p.toArray⟩, .int .i64 f, .func (.func 60) #[] #[.pointer (some ⟨c, 0, none⟩)]] w fun e w' => FiE p t f c w e w' := by
  have hne : p.isEmpty = false := by cases p <;> simp_all
  have HC := Lib.hid hC
  clear hC
  go_enter Tryz.func59, Tryz.ntmps59
  go_wp2_with fail
  refine (borders_any p _ h0 hp).mono ?_
  rintro e w3 ⟨g, b, rfl, hg, hB, hL, hK⟩
  have HB := Lib.hid hB
  have HL := Lib.hid hL
  have HK := Lib.hid hK
  have HC3 := Lib.hid (HC.out.keep hK)
  clear hB hL hK
  go_wp2_with fail
  go_loopw [10, 11] (fun kv iv wr => FiR p t f c g b w3 kv iv wr) (fun _ iv _ => t.length + 1 - (intOf iv).toNat)
  case atStart => exact ⟨0, f, rfl, rfl, Nat.le_refl _, Or.inr rfl, Lgst.start _ _ _ _, fun a h1 h2 => by omega, HC3.out, HB.out, Keeps.refl _ _⟩
  case round =>
    obtain ⟨k, i, rfl, rfl, hfi, hit, hLg, hNo, hC1, hB1, hK1⟩ := hrel
    have HNo := Lib.hid hNo
    have HC1 := Lib.hid hC1
    have HB1 := Lib.hid hB1
    have HK1 := Lib.hid hK1
    clear hNo hC1 hB1 hK1
    by_cases hil : i < t.length
    · skip
      obtain ⟨d, hd⟩ : ∃ d, t[i]? = some d := ⟨_, List.getElem?_eq_getElem hil⟩
      have hdi := idxC hd
      have Hd := Lib.hid (atB_some hd)
      have hid : decide ((i : Int) < (t.length : Int)) = true := by simpa using hil
      have hid0 : (i : Int) < (t.length : Int) := by omega
      have HLi := Lib.hid hLg.inn
      obtain ⟨wR, hwR⟩ : ∃ W, W = wr := ⟨wr, rfl⟩
      subst hwR
      clear hd hLg
      go_wp2_with fail
      go_loopw [10] (fun kv wk => FI p t wR f i kv wk) (fun kv _ => (intOf kv).toNat)
      case atStart => exact ⟨k, rfl, HLi.out, Keeps.refl _ _⟩
      case round =>
        obtain ⟨k2, rfl, hI, hk2⟩ := hrel
        have hk2i := hI.suf.1
        have hk2m := hI.le
        have HI := Lib.hid hI
        have HBk := Lib.hid (HB1.out.keep hk2)
        have HCk := Lib.hid (HC1.out.keep hk2)
        have HK2 := Lib.hid hk2
        clear hI hk2
        by_cases hkm : k2 = p.length
        · subst hkm
          have hz0 : decide (0 < p.length) = true := by simpa using h0
          have hkk : ((p.length : Int) == (p.length : Int)) = true := by simp
          have hLk := HL.out p.length (by omega) (by omega)
          have hbk := hLk.suf.1
          have HS := Lib.hid (HI.out.step (by omega) (Or.inl rfl) hLk)
          have hck := HBk.out.cell p.length (by omega)
          have hix2 : (p.length : Int) < (p.length : Int) + 1 := by omega
          clear hLk
          go_wp2_with fail
          go_quiet (fail)
          go_wp2_with fail
          go_roundw
          case rel => exact ⟨b p.length, by go_num, HS.out, HK2.out.drawN _⟩
          case measure => simp [intOf]; omega
        · have hk2l : k2 < p.length := by omega
          obtain ⟨cc, hcc⟩ : ∃ cc, p[k2]? = some cc := ⟨_, List.getElem?_eq_getElem hk2l⟩
          have hci := idxC hcc
          have Hc := Lib.hid (atB_some hcc)
          have h1 : (k2 : Int) < (p.length : Int) := by omega
          have hkk : ((k2 : Int) == (p.length : Int)) = false := beq_eq_false_iff_ne.2 (by omega)
          clear hcc
          by_cases hcd : cc = d
          · subst hcd
            have HN := Lib.hid (HI.out.hit hk2l (by rw [Hc.out, Hd.out]))
            by_cases hfull : k2 + 1 = p.length
            · have hkf : ((k2 : Int) + 1 == (p.length : Int)) = true := by simp; omega
              have HF := Lib.hid hfull
              clear hfull
              by_cases hz : k2 = 0
              · subst hz
                have hkf1 : ((1 : Int) == (p.length : Int)) = true := by have := HF.out; simp; omega
                go_wp2_with fail
                go_quiet (fail)
                go_wp2_with fail
                go_quiet (fail)
                go_wp2_with fail
                refine (each_idx _ (-1) c _ (HCk.out.keep ((Keeps.refl _ _).drawN _)).cell (HCk.out.keep ((Keeps.refl _ _).drawN _)).frz).mono ?_
                rintro e w9 ⟨rfl, rfl⟩
                go_wp2_with fail
                go_end0
                exact fi_hit HN.out HF.out hil HNo.out (HCk.out.keep ((Keeps.refl _ _).drawN _)) ((((HK.out.trans HK1.out).trans HK2.out)).drawN _) (by first | rfl | omega | (simp; done) | (simp; omega))
              · have hz0 : decide (0 < k2) = true := by simp; omega
                go_wp2_with fail
                go_quiet (fail)
                go_wp2_with fail
                go_quiet (fail)
                go_wp2_with fail
                refine (each_idx _ (-1) c _ (HCk.out.keep ((Keeps.refl _ _).drawN _)).cell (HCk.out.keep ((Keeps.refl _ _).drawN _)).frz).mono ?_
                rintro e w9 ⟨rfl, rfl⟩
                go_wp2_with fail
                go_end0
                exact fi_hit HN.out HF.out hil HNo.out (HCk.out.keep ((Keeps.refl _ _).drawN _)) ((((HK.out.trans HK1.out).trans HK2.out)).drawN _) (by first | rfl | omega | (simp; done) | (simp; omega))
            · have hkf : ((k2 : Int) + 1 == (p.length : Int)) = false := beq_eq_false_iff_ne.2 (by omega)
              by_cases hz : k2 = 0
              · subst hz
                go_wp2_with fail
                go_quiet (fail)
                go_wp2_with fail
                go_quiet (fail)
                go_wp2_with fail
                go_roundw
                case rel => exact fi_next (k' := 0 + 1) HN.out hil (by omega) HNo.out (HCk.out.keep ((Keeps.refl _ _).drawN _)) (HBk.out.keep ((Keeps.refl _ _).drawN _)) ((HK1.out.trans HK2.out).drawN _) hfi (by go_num) (by go_num)
                case measure => simp [intOf]; omega
              · have hz0 : decide (0 < k2) = true := by simp; omega
                go_wp2_with fail
                go_quiet (fail)
                go_wp2_with fail
                go_quiet (fail)
                go_wp2_with fail
                go_roundw
                case rel => exact fi_next (k' := k2 + 1) HN.out hil (by omega) HNo.out (HCk.out.keep ((Keeps.refl _ _).drawN _)) (HBk.out.keep ((Keeps.refl _ _).drawN _)) ((HK1.out.trans HK2.out).drawN _) hfi (by go_num) (by go_num)
                case measure => simp [intOf]; omega
          · have hne : ((cc.toNat : Int) != (d.toNat : Int)) = true := by
              simp; intro e; exact hcd (UInt8.toNat_inj.1 (by omega))
            have hne2 : ((cc.toNat : Int) == (d.toNat : Int)) = false := by
              simp; intro e; exact hcd (UInt8.toNat_inj.1 (by omega))
            by_cases hz : k2 = 0
            · subst hz
              have HN := Lib.hid (HI.out.miss (by rw [Hc.out, Hd.out]; exact hcd))
              go_wp2_with fail
              go_quiet (fail)
              go_wp2_with fail
              go_quiet (fail)
              go_wp2_with fail
              go_roundw
              case rel => exact fi_next (k' := 0) HN.out hil (by omega) HNo.out (HCk.out.keep ((Keeps.refl _ _).drawN _)) (HBk.out.keep ((Keeps.refl _ _).drawN _)) ((HK1.out.trans HK2.out).drawN _) hfi (by go_num) (by go_num)
              case measure => simp [intOf]; omega
            · have hz0 : decide (0 < k2) = true := by simp; omega
              have hLk := HL.out k2 (by omega) (by omega)
              have hbk := hLk.suf.1
              have HS := Lib.hid (HI.out.step (by omega) (Or.inr (by rw [Hc.out, Hd.out]; exact hcd)) hLk)
              have hck := HBk.out.cell k2 (by omega)
              have hix2 : (k2 : Int) < (p.length : Int) + 1 := by omega
              clear hLk
              go_wp2_with fail
              go_quiet (fail)
              go_wp2_with fail
              go_roundw
              case rel => exact ⟨b k2, by go_num, HS.out, HK2.out.drawN _⟩
              case measure => simp [intOf]; omega
    · have hid : decide ((i : Int) < (t.length : Int)) = false := by simp; omega
      have HE : Hid (IdxAt (mtL p t) t.length f (-1)) := Lib.hid (Or.inl ⟨rfl, fun a ha hat => by
        by_cases h : a + p.length ≤ i
        · exact HNo.out a ha h
        · rw [← Bool.not_eq_true]; intro hm; have := (mtB_iff.1 hm).1; omega⟩)
      go_wp2_with fail
      go_end0
      exact ⟨-1, rfl, HC1.out, HE.out, (HK.out.trans HK1.out).mono (fun _ _ e => e.elim)⟩
end Go.Proofs.YtpcbfmbpbegjgaaGreat
end
section
namespace Go.Proofs.YtpcbfmbpbegjgaaGreat
open Go.RowKit
set_option linter.unusedVariables false
set_option linter.unusedSimpArgs false
set_option maxRecDepth 100000

def NiR (t : List UInt8) (f : Nat) (w : World) (iv : Value) (wr : World) : Prop := iv = .int .i64 f ∧ w = wr
set_option maxHeartbeats 4000000 in
theorem find_idx0 (t : List UInt8) (f c : Nat) (w : World) (ht : t.length ≤ 1000) (hf : f ≤ 1000000) (hC : CellIs w c (-1)) :
    Calls Tryz.prog 59 #[.string ⟨t.toArray⟩, .string ⟨([] : List UInt8).toArray⟩, .int .i64 f, .func (.func 60) #[] #[.pointer (some ⟨c, 0, none⟩)]] w fun e w' => FiE [] t f c w e w' := by
  have HC := Lib.hid hC
  clear hC
  by_cases hft : f ≤ t.length
  · have hd : decide ((f : Int) ≤ (t.length : Int)) = true := by simp; omega
    have HE : Hid (IdxAt (mtL [] t) t.length f f) := Lib.hid (Or.inr ⟨f, rfl, Nat.le_refl _, hft, by rw [mtL_nil]; simpa using hft, fun b h1 h2 => by omega⟩)
    go_enter Tryz.func59, Tryz.ntmps59
    go_wp2_with fail
    go_loopw [8] (fun iv wr => NiR t f w iv wr) (fun _ _ => 0)
    case atStart => exact ⟨rfl, rfl⟩
    case round =>
      obtain ⟨rfl, rfl⟩ := hrel
      go_wp2_with fail
      refine (each_idx _ (-1) c _ HC.out.cell HC.out.frz).mono ?_
      rintro e w9 ⟨rfl, rfl⟩
      go_wp2_with fail
      go_end0
      exact ⟨_, rfl, HC.out.set _, HE.out, Keeps.set (S := fun b => b = c) (Keeps.refl _ _) (p := ⟨c, 0, none⟩) rfl _⟩
  · have hd : decide ((f : Int) ≤ (t.length : Int)) = false := by simp; omega
    have HE : Hid (IdxAt (mtL [] t) t.length f (-1)) := Lib.hid (Or.inl ⟨rfl, fun a h1 h2 => by omega⟩)
    go_enter Tryz.func59, Tryz.ntmps59
    go_wp2_with fail
    go_loopw [8] (fun iv wr => NiR t f w iv wr) (fun _ _ => 0)
    case atStart => exact ⟨rfl, rfl⟩
    case round =>
      obtain ⟨rfl, rfl⟩ := hrel
      go_wp2_with fail
      go_end0
      exact ⟨_, rfl, HC.out, HE.out, Keeps.refl _ _⟩
def NcR (t : List UInt8) (c : Nat) (w : World) (iv : Value) (wr : World) : Prop := ∃ i : Nat, iv = .int .i64 i ∧ i ≤ t.length + 1 ∧ CellIs wr c (i : Nat) ∧ Keeps (fun b => b = c) w wr
theorem find_idxs (p t : List UInt8) (f c : Nat) (w : World) (hp : p.length ≤ 1000) (ht : t.length ≤ 1000) (hf : f ≤ 1000000) (hC : CellIs w c (-1)) :
    Calls Tryz.prog 59 #[.string ⟨t.toArray⟩, .string ⟨p.toArray⟩, .int .i64 f, .func (.func 60) #[] #[.pointer (some ⟨c, 0, none⟩)]] w fun e w' => FiE p t f c w e w' := by
  rcases p with _ | ⟨x, p⟩
  · exact find_idx0 t f c w ht hf hC
  · exact find_idx (x :: p) t f c w (by simp) hp ht hf hC
theorem CellIs.new (w : World) (z : Int) : CellIs (w.alloc (.cells #[.int .i64 z] 3)) w.heap.size z := ⟨by simp [go_sem], by simp [go_sem]⟩
def IxE (p t : List UInt8) (f : Nat) (w : World) (e : Ending) (w' : World) : Prop := ∃ z : Int, e = .returned (.int .i64 z) ∧ IdxAt (mtL p t) t.length f z ∧ Keeps (fun _ => False) w w'
theorem new_keeps {w w' : World} {o : Obj} (h : Keeps (fun b => b = w.heap.size) (w.alloc o) w') : Keeps (fun _ => False) w w' := ((Keeps.refl (fun _ => False) w).alloc o).trans2 h (fun b hb e => by omega)
set_option maxHeartbeats 2000000 in
theorem index_any (p t : List UInt8) (f : Nat) (w : World) (hp : p.length ≤ 1000) (ht : t.length ≤ 1000) (hf : f ≤ 1000000) : Calls Tryz.prog 31 #[.string ⟨t.toArray⟩, .string ⟨p.toArray⟩, .int .i64 f] w fun e w' => IxE p t f w e w' := by
  have HF := Lib.hid (find_idxs p t f w.heap.size _ hp ht hf (CellIs.new w (-1)))
  go_enter Tryz.func31, Tryz.ntmps31
  go_wp2_with fail
  refine HF.out.mono ?_
  rintro e w3 ⟨z, rfl, hC, hI, hK⟩
  have hc := hC.cell
  have HI := Lib.hid hI
  have HK := Lib.hid (new_keeps hK)
  clear hC hI hK
  go_wp2_with fail
  go_ret
  exact ⟨z, rfl, HI.out, HK.out⟩
end Go.Proofs.YtpcbfmbpbegjgaaGreat
end
section
namespace Go.Proofs.YtpcbfmbpbegjgaaGreat
open Go.RowKit
set_option linter.unusedVariables false
set_option linter.unusedSimpArgs false
set_option maxRecDepth 100000

def getQ (l : List UInt8) (n : Nat) : Bool := isB (valP (l.take n) : Int) && decide (putP (valP (l.take n)) = l.take n)
def getN : Nat → Nat → List UInt8 → Int × Nat
  | 0, _, _ => (65533, 1)
  | f + 1, n, l => if n ≤ 4 ∧ n ≤ l.length then (if getQ l n then ((valP (l.take n) : Int), n) else getN f (n + 1) l) else (65533, 1)
theorem u8n {n : Nat} (h : n < 256) : (UInt8.ofNat n).toNat = n := by rw [UInt8.toNat_ofNat_of_lt' (by show n < 256; exact h)]
theorem u8eq {c : UInt8} {n : Nat} (h : c.toNat = n) : c = UInt8.ofNat n := by rw [← h]; simp
theorem sizP_of {r : Nat} (h : isB (r : Int) = true) : sizP (r : Int) = if r < 128 then 1 else if r < 2048 then 2 else if r < 65536 then 3 else 4 := by
  unfold sizP; rw [h]; simp only [if_true]
  repeat' split
  all_goals first | rfl | omega
/-- What has been put is got. -/
theorem get_put {c : UInt8} {t : List UInt8} {r : Nat} (hb : isB (r : Int) = true) (n : Nat) (hn : n ≤ (c :: t).length) (hp : putP r = (c :: t).take n) : getP (c :: t) = ((r : Int), n) := by
  have hr : r ≤ 1114111 := by simp [isB] at hb; omega
  have hs := sizP_of hb
  have hlen := congrArg List.length hp
  rw [List.length_take, Nat.min_eq_left hn] at hlen
  unfold putP at hp hlen
  by_cases h1 : r < 128
  · rw [if_pos h1] at hp hlen
    obtain rfl : n = 1 := by simpa using hlen.symm
    simp only [List.take_succ_cons, List.take_zero, List.cons.injEq, and_true] at hp
    have hc : c.toNat = r := by rw [← hp, u8n (by omega)]
    rw [getP_ascii c t (by omega), hc]
  rw [if_neg h1] at hp hlen hs
  by_cases h2 : r < 2048
  · rw [if_pos h2] at hp hlen hs
    obtain rfl : n = 2 := by simpa [lowB_len] using hlen.symm
    rcases t with _ | ⟨b1, t⟩
    · simp at hn
    simp only [List.take_succ_cons, List.take_zero, lowB, List.cons.injEq, and_true] at hp
    obtain ⟨e0, e1⟩ := hp
    have c0 : c.toNat = 192 + r / 64 := by rw [← e0, u8n (by omega)]
    have c1 : b1.toNat = 128 + r % 64 := by rw [← e1, u8n (by simp; omega)]; simp
    have hl : lenP c.toNat = 2 := by unfold lenP; rw [if_neg (by omega), if_pos (by omega)]
    rw [getP_eq, hl, if_neg (by simp)]
    have ht : tailP (headP c) ((b1 :: t).take (2 - 1)) = some r := by
      unfold headP
      rw [hl, if_pos (by omega)]
      simp only [show 2 - 1 = 1 from rfl, List.take_succ_cons, List.take_zero, tailP]
      rw [if_pos (by omega)]
      congr 1
      rw [c0, c1]; simp; omega
    rw [ht]
    simp only
    rw [if_pos (by rw [hs]; rfl)]
  rw [if_neg h2] at hp hlen hs
  by_cases h3 : r < 65536
  · rw [if_pos h3] at hp hlen hs
    obtain rfl : n = 3 := by simpa [lowB_len] using hlen.symm
    rcases t with _ | ⟨b1, _ | ⟨b2, t⟩⟩
    · simp at hn
    · simp at hn
    simp only [List.take_succ_cons, List.take_zero, lowB, List.cons.injEq, and_true] at hp
    obtain ⟨e0, e1, e2⟩ := hp
    have c0 : c.toNat = 224 + r / 4096 := by rw [← e0, u8n (by omega)]
    have c1 : b1.toNat = 128 + r / 64 % 64 := by rw [← e1, u8n (by simp; omega), Nat.pow_one]
    have c2 : b2.toNat = 128 + r % 64 := by rw [← e2, u8n (by simp; omega)]; simp
    have hl : lenP c.toNat = 3 := by unfold lenP; rw [if_neg (by omega), if_neg (by omega), if_pos (by omega)]
    rw [getP_eq, hl, if_neg (by simp)]
    have ht : tailP (headP c) ((b1 :: b2 :: t).take (3 - 1)) = some r := by
      unfold headP
      rw [hl, if_pos (by omega)]
      simp only [show 3 - 1 = 2 from rfl, List.take_succ_cons, List.take_zero, tailP]
      rw [if_pos (by omega), if_pos (by omega)]
      congr 1
      rw [c0, c1, c2]; simp; omega
    rw [ht]
    simp only
    rw [if_pos (by rw [hs]; rfl)]
  rw [if_neg h3] at hp hlen hs
  obtain rfl : n = 4 := by simpa [lowB_len] using hlen.symm
  rcases t with _ | ⟨b1, _ | ⟨b2, _ | ⟨b3, t⟩⟩⟩
  · simp at hn
  · simp at hn
  · simp at hn
  simp only [List.take_succ_cons, List.take_zero, lowB, List.cons.injEq, and_true] at hp
  obtain ⟨e0, e1, e2, e3⟩ := hp
  have c0 : c.toNat = 240 + r / 262144 := by rw [← e0, u8n (by omega)]
  have c1 : b1.toNat = 128 + r / 4096 % 64 := by rw [← e1, u8n (by simp; omega)]
  have c2 : b2.toNat = 128 + r / 64 % 64 := by rw [← e2, u8n (by simp; omega), Nat.pow_one]
  have c3 : b3.toNat = 128 + r % 64 := by rw [← e3, u8n (by simp; omega)]; simp
  have hl : lenP c.toNat = 4 := by unfold lenP; rw [if_neg (by omega), if_neg (by omega), if_neg (by omega), if_pos (by omega)]
  rw [getP_eq, hl, if_neg (by simp)]
  have ht : tailP (headP c) ((b1 :: b2 :: b3 :: t).take (4 - 1)) = some r := by
    unfold headP
    rw [hl, if_pos (by omega)]
    simp only [show 4 - 1 = 3 from rfl, List.take_succ_cons, List.take_zero, tailP]
    rw [if_pos (by omega), if_pos (by omega), if_pos (by omega)]
    congr 1
    rw [c0, c1, c2, c3]; simp; omega
  rw [ht]
  simp only
  rw [if_pos (by rw [hs]; rfl)]
/-- What is got can be put. -/
theorem put_get {c : UInt8} {t : List UInt8} (h : sizP (getP (c :: t)).1 = ((getP (c :: t)).2 : Int)) : 1 ≤ (getP (c :: t)).2 ∧ (getP (c :: t)).2 ≤ 4 ∧ (getP (c :: t)).2 ≤ (c :: t).length ∧ getQ (c :: t) (getP (c :: t)).2 = true ∧ ((valP ((c :: t).take (getP (c :: t)).2) : Nat) : Int) = (getP (c :: t)).1 := by
  have h65 : ¬ sizP 65533 = ((1 : Nat) : Int) := by decide
  have hc256 := c.toNat_lt
  have hpos := getP_pos c t
  have hle := getP_le c t
  refine ⟨hpos.1, hpos.2, by simpa using hle, ?_⟩
  by_cases h0 : lenP c.toNat = 0 ∨ t.length + 1 < lenP c.toNat
  · rw [getP_eq, if_pos h0] at h; exact absurd h h65
  have e := getP_eq c t
  rw [if_neg h0] at e
  cases ht : tailP (headP c) (t.take (lenP c.toNat - 1)) with
  | none => rw [ht] at e; rw [e] at h; exact absurd h h65
  | some r =>
    rw [ht] at e
    simp only at e
    by_cases hs : sizP r = lenP c.toNat
    · rw [if_pos hs] at e
      rw [e]
      simp only
      have hl4 := lenP_le c.toNat
      have hbr : isB (r : Int) = true := by
        unfold sizP at hs
        cases hb : isB (r : Int) with
        | true => rfl
        | false => rw [hb] at hs; simp at hs; omega
      have hsz := sizP_of hbr
      suffices hv : valP ((c :: t).take (lenP c.toNat)) = r ∧ putP r = (c :: t).take (lenP c.toNat) by
        refine ⟨?_, by rw [hv.1]⟩
        unfold getQ
        rw [hv.1, hbr, hv.2]; simp
      rcases (by omega : lenP c.toNat = 1 ∨ lenP c.toNat = 2 ∨ lenP c.toNat = 3 ∨ lenP c.toNat = 4) with hl | hl | hl | hl
      · have hc := lenP_one hl
        have hh : headP c = c.toNat := by unfold headP; rw [hl]; simp
        rw [hl] at ht ⊢
        simp only [Nat.sub_self, List.take_zero, tailP, Option.some.injEq] at ht
        rw [hh] at ht
        subst ht
        refine ⟨by simp only [List.take_succ_cons, List.take_zero, valP, List.foldl_nil, valH]; rw [if_neg (by omega), if_neg (by omega), if_neg (by omega)], ?_⟩
        unfold putP
        rw [if_pos hc]; simp
      · have hcr : 194 ≤ c.toNat ∧ c.toNat < 224 := by unfold lenP at hl; (repeat' split at hl) <;> omega
        have hh : headP c = c.toNat % 32 := by unfold headP; rw [hl]; simp
        rw [hl] at ht hs ⊢
        rcases t with _ | ⟨b1, t⟩
        · simp at h0; omega
        simp only [show 2 - 1 = 1 from rfl, List.take_succ_cons, List.take_zero, tailP] at ht ⊢
        split at ht
        · rename_i g1
          obtain rfl := Option.some.inj ht
          rw [hh] at *
          rw [hsz] at hs
          refine ⟨by simp only [valP, valH, List.foldl_cons, List.foldl_nil]; rw [if_neg (by omega), if_neg (by omega), if_pos (by omega)]; omega, ?_⟩
          unfold putP
          rw [if_neg (by intro hh; rw [if_pos hh] at hs; simp at hs), if_pos (by split at hs <;> (try split at hs) <;> (try split at hs) <;> simp at hs <;> omega)]
          simp only [lowB, List.cons.injEq, and_true]
          exact ⟨(u8eq (by omega)).symm, (u8eq (by simp; omega)).symm⟩
        · cases ht
      · have hcr : 224 ≤ c.toNat ∧ c.toNat < 240 := by unfold lenP at hl; (repeat' split at hl) <;> omega
        have hh : headP c = c.toNat % 16 := by unfold headP; rw [hl]; simp
        rw [hl] at ht hs ⊢
        rcases t with _ | ⟨b1, _ | ⟨b2, t⟩⟩
        · simp at h0; omega
        · simp at h0; omega
        simp only [show 3 - 1 = 2 from rfl, List.take_succ_cons, List.take_zero, tailP] at ht ⊢
        split at ht
        · rename_i g1
          split at ht
          · rename_i g2
            obtain rfl := Option.some.inj ht
            rw [hh] at *
            rw [hsz] at hs
            refine ⟨by simp only [valP, valH, List.foldl_cons, List.foldl_nil]; rw [if_neg (by omega), if_pos (by omega)]; omega, ?_⟩
            unfold putP
            rw [if_neg (by intro hh; rw [if_pos hh] at hs; simp at hs), if_neg (by intro hh; split at hs <;> simp at hs <;> (try split at hs) <;> simp at hs <;> omega), if_pos (by split at hs <;> (try split at hs) <;> (try split at hs) <;> simp at hs <;> omega)]
            simp only [lowB, List.cons.injEq, and_true]
            exact ⟨(u8eq (by omega)).symm, (u8eq (by simp; omega)).symm, (u8eq (by simp; omega)).symm⟩
          · cases ht
        · cases ht
      · have hcr : 240 ≤ c.toNat ∧ c.toNat < 245 := by unfold lenP at hl; (repeat' split at hl) <;> omega
        have hh : headP c = c.toNat % 8 := by unfold headP; rw [hl]; simp
        rw [hl] at ht hs ⊢
        rcases t with _ | ⟨b1, _ | ⟨b2, _ | ⟨b3, t⟩⟩⟩
        · simp at h0; omega
        · simp at h0; omega
        · simp at h0; omega
        simp only [show 4 - 1 = 3 from rfl, List.take_succ_cons, List.take_zero, tailP] at ht ⊢
        split at ht
        · rename_i g1
          split at ht
          · rename_i g2
            split at ht
            · rename_i g3
              obtain rfl := Option.some.inj ht
              rw [hh] at *
              rw [hsz] at hs
              refine ⟨by simp only [valP, valH, List.foldl_cons, List.foldl_nil]; rw [if_pos (by omega)]; omega, ?_⟩
              unfold putP
              rw [if_neg (by intro hh; rw [if_pos hh] at hs; simp at hs), if_neg (by intro hh; split at hs <;> simp at hs <;> (try split at hs) <;> simp at hs <;> omega), if_neg (by intro hh; split at hs <;> (try split at hs) <;> (try split at hs) <;> simp at hs <;> omega)]
              simp only [lowB, List.cons.injEq, and_true]
              exact ⟨(u8eq (by omega)).symm, (u8eq (by simp; omega)).symm, (u8eq (by simp; omega)).symm, (u8eq (by simp; omega)).symm⟩
            · cases ht
          · cases ht
        · cases ht
    · rw [if_neg hs] at e; rw [e] at h; exact absurd h h65
theorem getQ_get {c : UInt8} {t : List UInt8} {n : Nat} (hn : n ≤ (c :: t).length) (h : getQ (c :: t) n = true) : getP (c :: t) = ((valP ((c :: t).take n) : Int), n) ∧ sizP (getP (c :: t)).1 = ((getP (c :: t)).2 : Int) := by
  unfold getQ at h
  simp only [Bool.and_eq_true, decide_eq_true_eq] at h
  have h1 := get_put h.1 n hn h.2
  refine ⟨h1, ?_⟩
  rw [h1]
  simp only
  rw [sizP_of h.1]
  have hl := congrArg List.length h.2
  rw [List.length_take, Nat.min_eq_left hn] at hl
  unfold putP at hl
  (repeat' split at hl) <;> simp [lowB_len] at hl <;> subst hl <;> (repeat' split) <;> first | rfl | omega
/-- The document's search. -/
theorem getN_eq {c : UInt8} {t : List UInt8} : ∀ (f n : Nat), 1 ≤ n → 5 ≤ f + n → (∀ k, 1 ≤ k → k < n → k ≤ (c :: t).length → getQ (c :: t) k = false) → getN f n (c :: t) = if sizP (getP (c :: t)).1 = ((getP (c :: t)).2 : Int) then getP (c :: t) else (65533, 1) := by
  have hno : ∀ n, 1 ≤ n → ¬ (n ≤ 4 ∧ n ≤ (c :: t).length) → (∀ k, 1 ≤ k → k < n → k ≤ (c :: t).length → getQ (c :: t) k = false) → ¬ sizP (getP (c :: t)).1 = ((getP (c :: t)).2 : Int) := by
    intro n h1 h2 h3 hv
    obtain ⟨g1, g2, g3, g4, _⟩ := put_get hv
    have := h3 _ g1 (by omega) g3
    rw [this] at g4; cases g4
  intro f
  induction f with
  | zero =>
    intro n h1 h2 h3
    rw [if_neg (hno n h1 (by omega) h3)]; rfl
  | succ f ih =>
    intro n h1 h2 h3
    rw [getN]
    by_cases hc : n ≤ 4 ∧ n ≤ (c :: t).length
    · rw [if_pos hc]
      cases hq : getQ (c :: t) n with
      | true =>
        obtain ⟨g1, g2⟩ := getQ_get hc.2 hq
        rw [if_pos rfl, if_pos g2, g1]
      | false =>
        rw [if_neg (by simp)]
        exact ih (n + 1) (by omega) (by omega) (fun k k1 k2 k3 => by
          by_cases hk : k = n
          · rw [hk]; exact hq
          · exact h3 k k1 (by omega) k3)
    · rw [if_neg hc, if_neg (hno n h1 hc h3)]
end Go.Proofs.YtpcbfmbpbegjgaaGreat
end
section
namespace Go.Proofs.YtpcbfmbpbegjgaaGreat
open Go.RowKit
set_option linter.unusedVariables false
set_option linter.unusedSimpArgs false
set_option maxRecDepth 100000

set_option maxHeartbeats 4000000 in
theorem rGet_any (c : UInt8) (t : List UInt8) (w : World) (hl : t.length ≤ 1000) : Calls Tryz.prog 19 #[.string ⟨(c :: t).toArray⟩] w fun e w' => e = .returned (.tuple #[.int .i64 (getN 4 1 (c :: t)).1, .int .i64 (getN 4 1 (c :: t)).2]) ∧ Keeps (fun _ => False) w w' := by
  obtain ⟨l, hle⟩ : ∃ l, c :: t = l := ⟨_, rfl⟩
  rw [hle]
  have hlen : l.length ≤ 1001 ∧ 1 ≤ l.length := by rw [← hle]; simp; omega
  obtain ⟨R, hR⟩ : ∃ R, getN 4 1 l = R := ⟨_, rfl⟩
  rw [hR]
  have HR := Lib.hid hR
  have HLE := Lib.hid hle
  have g0 : ((l.length : Int) == 0) = false := beq_eq_false_iff_ne.2 (by omega)
  clear hR hle hl
  go_enter Tryz.func19, Tryz.ntmps19
  go_wp2_with fail
  go_loopw [4] (fun nv wr => ∃ (f n : Nat), nv = .int .i64 n ∧ 1 ≤ n ∧ n ≤ 5 ∧ f + n = 5 ∧ getN f n l = R ∧ Keeps (fun _ => False) w wr) (fun nv _ => 6 - (intOf nv).toNat)
  case atStart => exact ⟨4, 1, rfl, by omega, by omega, by omega, HR.out, Keeps.refl _ _⟩
  case round =>
    obtain ⟨f, n, rfl, hn1, hn5, hfn, hg, hkw⟩ := hrel
    have K := Lib.hid hkw
    have HG := Lib.hid hg
    clear hkw hg
    by_cases h4 : n ≤ 4
    · by_cases hnl : n ≤ l.length
      · obtain ⟨f, rfl⟩ : ∃ k, f = k + 1 := ⟨f - 1, by omega⟩
        have hg := HG.out
        rw [getN, if_pos ⟨h4, hnl⟩] at hg
        have ht : ∃ u, l.take n = c :: u ∧ u.length ≤ 3 := by
          obtain ⟨m, hm⟩ : ∃ m, n = m + 1 := ⟨n - 1, by omega⟩
          exact ⟨t.take m, by rw [← HLE.out, hm, List.take_succ_cons], by rw [List.length_take]; omega⟩
        obtain ⟨u, hu, hul⟩ := ht
        rw [hu] at hg
        have hE : (⟨l.toArray⟩ : ByteArray).extract 0 n = ⟨(c :: u).toArray⟩ := by
          apply ByteArray.ext
          rw [← hu]
          simp [ByteArray.data_extract]
        have hsl : n ≤ (⟨l.toArray⟩ : ByteArray).size := by simpa [ByteArray.size] using hnl
        have HV := Lib.hid (fun W => value_any c u W hul)
        obtain ⟨V, hV⟩ : ∃ V, valP (c :: u) = V := ⟨_, rfl⟩
        rw [hV] at HV
        have hq : getQ l n = (isB (V : Int) && decide (putP V = c :: u)) := by unfold getQ; rw [hu, hV]
        rw [hq, hV] at hg
        have HG2 := Lib.hid hg
        have KI : ∀ W, Keeps (fun _ => False) wr W → Calls Tryz.prog 37 #[.int .i64 V] W fun e w' => e = .returned (.bool (isB (V : Int))) ∧ Keeps (fun _ => False) wr w' := fun W kW => (rIs_any (V : Int) W).mono fun e w' ⟨e1, e2⟩ => ⟨e1, by rw [← e2]; exact kW⟩
        have KP : isB (V : Int) = true → ∀ W, Keeps (fun _ => False) wr W → Calls Tryz.prog 20 #[.int .i64 V] W fun e w' => e = .returned (.string ⟨(putP V).toArray⟩) ∧ Keeps (fun _ => False) wr w' := fun hb W kW => (rPut_any V W hb).mono fun e w' ⟨e1, e2⟩ => ⟨e1, kW.trans e2⟩
        have hkd : Keeps (fun _ => False) wr wr.drew := (Keeps.refl _ _).drew
        clear hg hu hq hV
        cases hb : isB (V : Int) with
        | false =>
          have KQ : ∀ W, Calls Tryz.prog 37 #[.int .i64 V] W fun e w' => e = .returned (.bool false) ∧ w' = W := fun W => by
            have := rIs_any (V : Int) W
            rw [hb] at this
            exact this.mono fun e w' ⟨e1, e2⟩ => ⟨e1, e2.symm⟩
          rw [hb] at KI HG2
          simp only [Bool.false_and, Bool.false_eq_true, if_false] at HG2
          clear KP hb
          go_wp2_with fail
          refine (HV.out _).mono ?_
          rintro e w2 ⟨rfl, rfl⟩
          go_wp2_with fail
          go_quiet (first | (go_at_call 37; exact Calls.quiet_of_same (KQ _)))
          go_wp2_with fail
          go_roundw
          case rel => exact ⟨f, n + 1, by go_num, by omega, by omega, by omega, HG2.out, K.out.drawN _⟩
          case measure => simp [intOf]; omega
        | true =>
          have KP2 := KP hb
          rw [hb] at KI HG2
          simp only [Bool.true_and] at HG2
          clear KP hb
          generalize putP V = PV at *
          by_cases hpv : PV = c :: u
          · subst hpv
            simp only [decide_true, if_true] at HG2
            go_wp2_with fail
            refine (HV.out _).mono ?_
            rintro e w2 ⟨rfl, rfl⟩
            go_wp2_with fail
            go_region_held3 (fun w' => Keeps (fun _ => False) wr w') (first | exact hkd | assumption) (first | (go_at_call 37; refine (KI _ ?_).mono ?_; (first | exact hkd | assumption); rintro e w' ⟨rfl, hkn⟩) | (go_at_call 20; refine (KP2 _ ?_).mono ?_; (first | exact hkd | assumption); rintro e w' ⟨rfl, hkn⟩))
            go_wp2_with fail
            go_ret2
            exact ⟨by rw [← HG2.out]; rfl, K.out.trans (by assumption)⟩
          · have hpq : (PV == c :: u) = false := by simpa using hpv
            have hpd : decide (PV = c :: u) = false := by simpa using hpv
            rw [hpd] at HG2
            simp only [Bool.false_eq_true, if_false] at HG2
            clear hpv hpd
            go_wp2_with fail
            refine (HV.out _).mono ?_
            rintro e w2 ⟨rfl, rfl⟩
            go_wp2_with fail
            go_region_held3 (fun w' => Keeps (fun _ => False) wr w') (first | exact hkd | assumption) (first | (go_at_call 37; refine (KI _ ?_).mono ?_; (first | exact hkd | assumption); rintro e w' ⟨rfl, hkn⟩) | (go_at_call 20; refine (KP2 _ ?_).mono ?_; (first | exact hkd | assumption); rintro e w' ⟨rfl, hkn⟩))
            go_wp2_with fail
            go_roundw
            case rel => exact ⟨f, n + 1, by go_num, by omega, by omega, by omega, HG2.out, K.out.trans (by assumption)⟩
            case measure => simp [intOf]; omega
      · have hE : R = (65533, 1) := by
          have := HG.out
          cases f with
          | zero => exact this.symm
          | succ f => rw [getN, if_neg (by omega)] at this; exact this.symm
        subst hE
        go_wp2_with fail
        go_ret2
        exact ⟨rfl, K.out⟩
    · have hE : R = (65533, 1) := by
        have := HG.out
        cases f with
        | zero => exact this.symm
        | succ f => rw [getN, if_neg (by omega)] at this; exact this.symm
      subst hE
      go_wp2_with fail
      go_ret2
      exact ⟨rfl, K.out⟩
end Go.Proofs.YtpcbfmbpbegjgaaGreat
end
section
namespace Go.Proofs.YtpcbfmbpbegjgaaGreat
open Go.RowKit
set_option linter.unusedVariables false
set_option linter.unusedSimpArgs false
set_option maxRecDepth 100000

def RPts (l : List UInt8) (base : Nat) (w : World) (sv ov : Value) (wr : World) : Prop :=
  ∃ (rest : List UInt8) (acc : List Int), sv = .string ⟨rest.toArray⟩ ∧ acc.length + rest.length ≤ l.length ∧ wr.ownsRow base 3 1 ov acc.length (acc.map (Value.int .i64)) ∧ Keeps (fun _ => False) w wr ∧ pts l = (pts rest).map (acc ++ ·)
def strLen : Value → Nat
  | .string s => s.size
  | _ => 0
theorem putP_wrong : putP 65533 = [239, 191, 189] := by decide +kernel
theorem extr_take (l : List UInt8) (n : Nat) : (⟨l.toArray⟩ : ByteArray).extract 0 n = ⟨(l.take n).toArray⟩ := by
  apply ByteArray.ext
  simp [ByteArray.data_extract]
theorem extr_drop (l : List UInt8) (n : Nat) : (⟨l.toArray⟩ : ByteArray).extract n l.length = ⟨(l.drop n).toArray⟩ := by
  apply ByteArray.ext
  simp [ByteArray.data_extract, List.extract_eq_take_drop]
  rw [List.take_of_length_le (by simp)]
set_option maxHeartbeats 4000000 in
theorem rPoints_any (l : List UInt8) (w : World) (hl : l.length ≤ 1000) :
    Calls Tryz.prog 21 #[.string ⟨l.toArray⟩] w fun e w' => PtsE w.heap.size l e w' ∧ Keeps (fun _ => False) w w' := by
  obtain ⟨i0, hi0, hz0, hz1, hz2⟩ := info_parts info_int'
  go_enter Tryz.func21, Tryz.ntmps21
  go_wp2_with fail
  go_loopw [0, 4] (fun sv ov wr => RPts l w.heap.size w sv ov wr) (fun sv _ _ => strLen sv)
  case atStart => exact ⟨l, [], rfl, by simp, World.ownsRow_nil _ _ _ _, Keeps.refl _ _, by simp⟩
  case round =>
    obtain ⟨rest, acc, rfl, hlen, hown, hkw, hp⟩ := hrel
    have K := Lib.hid hkw
    have OW := Lib.hid hown
    have Hp := Lib.hid hp
    obtain ⟨va, vc, rfl⟩ := ownsRow_slice hown
    have hsw := hkw.size
    clear hp hown hkw
    cases rest with
    | nil =>
      have E : Hid (pts l = some acc) := Lib.hid (by rw [Hp.out]; simp [pts, ptsP])
      go_wp2_with fail
      go_ret2
      refine ⟨?_, K.out⟩
      unfold PtsE
      rw [E.out]
      exact ⟨_, rfl, OW.out⟩
    | cons c t =>
      have hpc := pts_cons (c := c) (l := t)
      have hgn := getN_eq (c := c) (t := t) 4 1 (by omega) (by omega) (fun k k1 k2 _ => by omega)
      simp only [List.length_cons] at hlen
      have HG := Lib.hid (fun W => rGet_any c t W (by omega))
      by_cases hv : sizP (getP (c :: t)).1 = ((getP (c :: t)).2 : Int)
      · rw [if_pos hv] at hpc hgn
        rw [hgn] at HG
        obtain ⟨g1, g2, g3, g4, g5⟩ := put_get hv
        unfold getQ at g4
        simp only [Bool.and_eq_true, decide_eq_true_eq] at g4
        obtain ⟨V, hV⟩ : ∃ V, valP ((c :: t).take (getP (c :: t)).2) = V := ⟨_, rfl⟩
        rw [hV] at g4 g5
        obtain ⟨n, hn⟩ : ∃ n, (getP (c :: t)).2 = n := ⟨_, rfl⟩
        rw [← g5, hn] at HG
        rw [← g5, hn] at hpc
        rw [hn] at g1 g2 g3 g4
        have E2 : Hid (pts l = ((pts ((c :: t).drop n)).map ((V : Int) :: ·)).map (acc ++ ·)) := Lib.hid (by rw [Hp.out, hpc])
        have hE1 := extr_take (c :: t) n
        have hE2 := extr_drop (c :: t) n
        rw [← g4.2] at hE1
        have hdl : ((c :: t).drop n).length = t.length + 1 - n := by simp
        obtain ⟨rest', hrest⟩ : ∃ r, (c :: t).drop n = r := ⟨_, rfl⟩
        rw [hrest] at hE2 hdl E2
        have hr0 : V ≤ 1114111 := by have := g4.1; simp [isB] at this; omega
        have KP0 := Lib.hid (fun W => rPut_any V W g4.1)
        generalize putP V = PV at *
        have hn3 : n ≤ t.length + 1 := by simpa using g3
        have hI1 : (0 : Int) ≤ (n : Int) := by omega
        have hI2 : (n : Int) ≤ (t.length : Int) + 1 := by omega
        clear hpc hgn hv g4 g5 hV hn hrest g3
        go_wp2_with fail
        refine (HG.out _).mono ?_
        rintro e w2 ⟨rfl, k2⟩
        have hkd : Keeps (fun _ => False) w2 w2.drew := (Keeps.refl _ _).drew
        have KP : ∀ W, Keeps (fun _ => False) w2 W → Calls Tryz.prog 20 #[.int .i64 V] W fun e w' => e = .returned (.string ⟨PV.toArray⟩) ∧ Keeps (fun _ => False) w2 w' := fun W kW => (KP0.out W).mono fun e w' ⟨e1, e2⟩ => ⟨e1, kW.trans e2⟩
        have K2 := Lib.hid k2
        clear k2
        go_wp2_with fail
        go_region_held3 (fun w' => Keeps (fun _ => False) w2 w') (first | exact hkd | assumption) (first | (go_at_call 20; refine (KP _ ?_).mono ?_; (first | exact hkd | assumption); rintro e w' ⟨rfl, hkn⟩))
        have K3 : Hid (Keeps (fun _ => False) wr w') := Lib.hid (K2.out.trans hkn)
        have hs3 := K3.out.size
        go_wp2_with (at_builtin; refine wpList_append_own _ rfl (.tmp 21) (.tmp 23) 58 rfl w.heap.size 3 i0 (.int .i64 0) 1 8 Tryz.underlying58 hi0 hz0 hz1 hz2 rfl (by decide) _ _ _ rfl (ownsRow_alloc (ownsRow_keeps OW.out K3.out (fun _ _ => id)) _) ⟨w'.heap.size, 0, none⟩ 1 1 [.int .i64 V] rfl rfl (by exact cells_new _ [_] _) (by intro u hu; simp at hu; subst hu; rfl) ?d3 ?d4 ?d5 ?_)
        case d3 => unfold maxLen; omega
        case d4 => omega
        case d5 => simp; omega
        intro v' w4 hown' hgrow _
        have hk4 : Keeps (fun k => w.heap.size ≤ k) wr w4 := ((K3.out.mono (fun _ _ e => e.elim)).alloc (.cells #[.int .i64 V] 3)).grown hgrow (fun b hb => Or.inl (ownBlock_base OW.out b hb))
        have K4 : Hid (Keeps (fun _ => False) w w4) := Lib.hid (K.out.trans2 hk4 (fun i hi e => by omega))
        have O4 : Hid (w4.ownsRow w.heap.size 3 1 v' (acc ++ [(V : Int)]).length ((acc ++ [(V : Int)]).map (Value.int .i64))) := Lib.hid (by simpa using hown')
        clear hown' hgrow hk4
        go_wp2_with fail
        go_roundw
        case rel => exact ⟨rest', acc ++ [(V : Int)], congrArg Value.string hE2, by simp; omega, O4.out, K4.out, by rw [E2.out, Option.map_map]; congr 1; funext q; simp⟩
        case measure => simp [strLen, ByteArray.size]; omega
      · rw [if_neg hv] at hpc hgn
        rw [hgn] at HG
        have E2 : Hid (pts l = none) := Lib.hid (by rw [Hp.out, hpc]; rfl)
        have KP0 := Lib.hid (fun W => rPut_any 65533 W (by decide))
        rw [putP_wrong] at KP0
        have hE1 := extr_take (c :: t) 1
        simp only [List.take_succ_cons, List.take_zero] at hE1
        have hne : (([239, 191, 189] : List UInt8) == [c]) = false := by simp
        have hg1 : 1 ≤ t.length + 1 := by omega
        have hI2 : (1 : Int) ≤ (t.length : Int) + 1 := by omega
        have hI3 : (0 : Int) ≤ (t.length : Int) := by omega
        clear hpc hgn hv
        go_wp2_with fail
        refine (HG.out _).mono ?_
        rintro e w2 ⟨rfl, k2⟩
        have hkd : Keeps (fun _ => False) w2 w2.drew := (Keeps.refl _ _).drew
        have KP : ∀ W, Keeps (fun _ => False) w2 W → Calls Tryz.prog 20 #[.int .i64 65533] W fun e w' => e = .returned (.string ⟨#[239, 191, 189]⟩) ∧ Keeps (fun _ => False) w2 w' := fun W kW => (KP0.out W).mono fun e w' ⟨e1, e2⟩ => ⟨e1, kW.trans e2⟩
        have K2 := Lib.hid k2
        clear k2
        go_wp2_with fail
        go_region_held3 (fun w' => Keeps (fun _ => False) w2 w') (first | exact hkd | assumption) (first | (go_at_call 20; refine (KP _ ?_).mono ?_; (first | exact hkd | assumption); rintro e w' ⟨rfl, hkn⟩))
        go_wp2_with fail
        go_ret2
        refine ⟨?_, (K.out.trans K2.out).trans (by assumption)⟩
        unfold PtsE
        rw [E2.out]
        rfl
end Go.Proofs.YtpcbfmbpbegjgaaGreat
end
