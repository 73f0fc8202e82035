/-
  lit's find, Index, Count.
-/
import Derived.Test.YtinogeobkljngaaLcBdG
import Derived.Conc.PipeWords
namespace Go.Proofs.Ytinogeobkljngaa
open Go.RowKit
set_option linter.unusedVariables false
set_option linter.unusedSimpArgs false
set_option maxRecDepth 100000

theorem each_idx (i z : Int) (c : Nat) (w : World) (hc : w.cell? ⟨c, 0, none⟩ = some (.int .i64 z)) (hf : w.frozen? ⟨c, 0, none⟩ = false) :
    Calls Try.prog 10 #[.int .i64 i, .pointer (some ⟨c, 0, none⟩)] w fun e w' => e = .returned (.bool false) ∧ w.setCell ⟨c, 0, none⟩ (.int .i64 i) = w' := by
  go_enter Try.func10, Try.ntmps10
  go_wp2_with fail
  go_ret
  exact ⟨rfl, rfl⟩
theorem each_cnt (i : Int) (z c : Nat) (w : World) (hc : w.cell? ⟨c, 0, none⟩ = some (.int .i64 z)) (hf : w.frozen? ⟨c, 0, none⟩ = false) (hz : z ≤ 1000000) :
    Calls Try.prog 11 #[.int .i64 i, .pointer (some ⟨c, 0, none⟩)] w fun e w' => e = .returned (.bool true) ∧ w.setCell ⟨c, 0, none⟩ (.int .i64 ((z + 1 : Nat) : Int)) = w' := by
  go_enter Try.func11, Try.ntmps11
  go_wp2_with fail
  go_ret
  exact ⟨rfl, by go_num⟩
/-- A place of the call's own holds z. -/
structure CellIs (w : World) (c : Nat) (z : Int) : Prop where
  cell : w.cell? ⟨c, 0, none⟩ = some (.int .i64 z)
  frz : w.frozen? ⟨c, 0, none⟩ = false
theorem CellIs.keep {w w' : World} {c : Nat} {z : Int} (h : CellIs w c z) (K : Keeps (fun _ => False) w w') : CellIs w' c z := ⟨K.cell h.cell id, K.frozen h.frz (lt_of_cell h.cell) id⟩
theorem CellIs.set {w : World} {c : Nat} {z : Int} (h : CellIs w c z) (y : Int) : CellIs (w.setCell ⟨c, 0, none⟩ (.int .i64 y)) c y := ⟨cell_set_same h.cell, by rw [frozen_set]; exact h.frz⟩
theorem CellIs.lt {w : World} {c : Nat} {z : Int} (h : CellIs w c z) : c < w.heap.size := lt_of_cell h.cell
/-- The places of p in t. -/
def mtL (p t : List UInt8) : Nat → Bool := mtB p.length t.length (atB p) (atB t)
theorem mtL_nil (t : List UInt8) (a : Nat) : mtL [] t a = decide (a ≤ t.length) := by
  unfold mtL; cases h : decide (a ≤ t.length)
  · rw [← Bool.not_eq_true, mtB_iff]; simp at h ⊢; omega
  · rw [mtB_iff]; simp at h ⊢; omega
/-- Up to i, none. -/
def NoneTo (p t : List UInt8) (f i : Nat) : Prop := ∀ a, f ≤ a → a + p.length ≤ i → mtL p t a = false
/-- find has come to its end. -/
def FiE (p t : List UInt8) (f c : Nat) (w : World) (e : Ending) (w' : World) : Prop :=
  ∃ z : Int, e = .returned (.tuple #[]) ∧ CellIs w' c z ∧ IdxAt (mtL p t) t.length f z ∧ Keeps (fun b => b = c) w w'
def FcE (p t : List UInt8) (c : Nat) (w : World) (e : Ending) (w' : World) : Prop :=
  e = .returned (.tuple #[]) ∧ CellIs w' c (cntM (mtL p t) (t.length + 1) : Nat) ∧ Keeps (fun b => b = c) w w'
/-- At the head of the loop over the text. -/
def FiR (p t : List UInt8) (f c g : Nat) (b : Nat → Nat) (w : World) (kv iv : Value) (wr : World) : Prop :=
  ∃ k i : Nat, kv = .int .i64 k ∧ iv = .int .i64 i ∧ f ≤ i ∧ (i ≤ t.length ∨ i = f) ∧ Lgst p.length (atB p) (atB t) f i k ∧ NoneTo p t f i ∧ CellIs wr c (-1) ∧ BdAt wr g p.length b ∧ Keeps (fun _ => False) w wr
def FcR (p t : List UInt8) (c g : Nat) (b : Nat → Nat) (w : World) (kv iv : Value) (wr : World) : Prop :=
  ∃ k i : Nat, kv = .int .i64 k ∧ iv = .int .i64 i ∧ i ≤ t.length ∧ Lgst p.length (atB p) (atB t) 0 i k ∧ CellIs wr c (cntM (mtL p t) (i + 1 - p.length) : Nat) ∧ BdAt wr g p.length b ∧ Keeps (fun b => b = c) w wr
/-- Within. -/
def FI (p t : List UInt8) (wr : World) (f i : Nat) (kv : Value) (wk : World) : Prop :=
  ∃ k : Nat, kv = .int .i64 k ∧ Inn p.length (atB p) (atB t) f i k ∧ Keeps (fun _ => False) wr wk
theorem fi_next {p t : List UInt8} {w wk : World} {f c g i k' : Nat} {b : Nat → Nat} {kv iv : Value} (hN : Lgst p.length (atB p) (atB t) f (i + 1) k') (hi : i < t.length) (hk : k' ≠ p.length) (h0 : NoneTo p t f i)
    (hC : CellIs wk c (-1)) (hB : BdAt wk g p.length b) (hK : Keeps (fun _ => False) w wk) (hf : f ≤ i) (e1 : kv = .int .i64 k') (e2 : iv = .int .i64 ((i + 1 : Nat) : Int)) : FiR p t f c g b w kv iv wk := by
  refine ⟨k', i + 1, e1, e2, by omega, by omega, hN, fun a ha hai => ?_, hC, hB, hK⟩
  by_cases h : a + p.length ≤ i
  · exact h0 a ha h
  · obtain rfl : a = i + 1 - p.length := by omega
    cases hm : mtL p t (i + 1 - p.length) with
    | false => rfl
    | true => exact absurd ((hN.full (n := t.length) (by omega)).2 ⟨by omega, hm⟩) hk
theorem fi_hit {p t : List UInt8} {w wk : World} {f c i k : Nat} {z : Int} (hN : Lgst p.length (atB p) (atB t) f (i + 1) (k + 1)) (hk : k + 1 = p.length) (hi : i < t.length) (h0 : NoneTo p t f i)
    (hC : CellIs wk c (-1)) (hK : Keeps (fun _ => False) w wk) (hz : z = (i : Int) - (k : Int)) : FiE p t f c w (.returned (.tuple #[])) (wk.setCell ⟨c, 0, none⟩ (.int .i64 z)) := by
  obtain ⟨h1, h2⟩ := (hN.full (n := t.length) (by omega)).1 hk
  refine ⟨z, rfl, hC.set z, Or.inr ⟨i + 1 - p.length, by omega, by omega, by omega, h2, fun b h3 h4 => h0 b h3 (by omega)⟩, Keeps.set (S := fun b => b = c) (hK.mono (fun _ _ e => e.elim)) (p := ⟨c, 0, none⟩) rfl _⟩
theorem fc_next {p t : List UInt8} {w wk : World} {c g i k' : Nat} {b : Nat → Nat} {kv iv : Value} (hN : Lgst p.length (atB p) (atB t) 0 (i + 1) k') (hi : i < t.length) (hk : k' ≠ p.length)
    {z : Nat} (hC : CellIs wk c (z : Nat)) (hB : BdAt wk g p.length b) (hK : Keeps (fun b => b = c) w wk) (hz : cntM (mtL p t) (i + 1 - p.length) = z) (e1 : kv = .int .i64 k') (e2 : iv = .int .i64 ((i + 1 : Nat) : Int)) : FcR p t c g b w kv iv wk := by
  refine ⟨k', i + 1, e1, e2, by omega, hN, ?_, hB, hK⟩
  rw [show cntM (mtL p t) (i + 1 + 1 - p.length) = cntM (mtL p t) (i + 1 - p.length) from cntM_to _ (by omega) (fun a ha hb => by
    obtain rfl : a = i + 1 - p.length := by omega
    cases hm : mtL p t (i + 1 - p.length) with
    | false => rfl
    | true => exact absurd ((hN.full (n := t.length) (by omega)).2 ⟨by omega, hm⟩) hk), hz]
  exact hC
theorem fc_hit {p t : List UInt8} {w wk : World} {c g i k k' : Nat} {b : Nat → Nat} {z : Nat} {kv iv : Value} (hN : Lgst p.length (atB p) (atB t) 0 (i + 1) (k + 1)) (hk : k + 1 = p.length) (hi : i < t.length)
    (hC : CellIs wk c (z : Nat)) (hB : BdAt wk g p.length b) (hK : Keeps (fun b => b = c) w wk) (hz : z = cntM (mtL p t) (i + 1 - p.length) ∧ k' = k + 1) (hgc : ¬ g = c) (e1 : kv = .int .i64 k') (e2 : iv = .int .i64 ((i + 1 : Nat) : Int)) : FcR p t c g b w kv iv (wk.setCell ⟨c, 0, none⟩ (.int .i64 ((z + 1 : Nat) : Int))) := by
  obtain ⟨h1, h2⟩ := (hN.full (n := t.length) (by omega)).1 hk
  obtain ⟨hz, rfl⟩ := hz
  refine ⟨k + 1, i + 1, e1, e2, by omega, hN, ?_, ⟨fun j hj => ?_, fun x => by rw [frozen_set]; exact hB.frz x⟩, hK.set (p := ⟨c, 0, none⟩) rfl _⟩
  · rw [show cntM (mtL p t) (i + 1 + 1 - p.length) = z + 1 by rw [show i + 1 + 1 - p.length = i + 1 - p.length + 1 by omega, cntM_succ, if_pos (show mtL p t _ = true from h2), hz]]
    exact hC.set _
  · rw [cell_set_other (by intro e; injection e with e; exact hgc e.symm)]; exact hB.cell j hj
set_option maxHeartbeats 8000000 in
theorem find_idx (p t : List UInt8) (f c : Nat) (w : World) (h0 : 0 < p.length) (hp : p.length ≤ 1000) (ht : t.length ≤ 1000) (hf : f ≤ 1000000) (hC : CellIs w c (-1)) : Calls Try.prog 9 #[.string ⟨t.toArray⟩, .string ⟨p.toArray⟩, .int .i64 f, .func (.func 10) #[] #[.pointer (some ⟨c, 0, none⟩)]] w fun e w' => FiE p t f c w e w' := by
  have hne : p.isEmpty = false := by cases p <;> simp_all
  have HC := Lib.hid hC
  clear hC
  go_enter Try.func9, Try.ntmps9
  go_wp2_with fail
  refine (borders_any p _ h0 hp).mono ?_
  rintro e w3 ⟨g, b, rfl, hg, hB, hL, hK⟩
  have HB := Lib.hid hB
  have HL := Lib.hid hL
  have HK := Lib.hid hK
  have HC3 := Lib.hid (HC.out.keep hK)
  clear hB hL hK
  go_wp2_with fail
  go_loopw [10, 11] (fun kv iv wr => FiR p t f c g b w3 kv iv wr) (fun _ iv _ => t.length + 1 - (intOf iv).toNat)
  case atStart => exact ⟨0, f, rfl, rfl, Nat.le_refl _, Or.inr rfl, Lgst.start _ _ _ _, fun a h1 h2 => by omega, HC3.out, HB.out, Keeps.refl _ _⟩
  case round =>
    obtain ⟨k, i, rfl, rfl, hfi, hit, hLg, hNo, hC1, hB1, hK1⟩ := hrel
    have HNo := Lib.hid hNo
    have HC1 := Lib.hid hC1
    have HB1 := Lib.hid hB1
    have HK1 := Lib.hid hK1
    clear hNo hC1 hB1 hK1
    by_cases hil : i < t.length
    · skip
      obtain ⟨d, hd⟩ : ∃ d, t[i]? = some d := ⟨_, List.getElem?_eq_getElem hil⟩
      have hdi := idxC hd
      have Hd := Lib.hid (atB_some hd)
      have hid : decide ((i : Int) < (t.length : Int)) = true := by simpa using hil
      have hid0 : (i : Int) < (t.length : Int) := by omega
      have HLi := Lib.hid hLg.inn
      obtain ⟨wR, hwR⟩ : ∃ W, W = wr := ⟨wr, rfl⟩
      subst hwR
      clear hd hLg
      go_wp2_with fail
      go_loopw [10] (fun kv wk => FI p t wR f i kv wk) (fun kv _ => (intOf kv).toNat)
      case atStart => exact ⟨k, rfl, HLi.out, Keeps.refl _ _⟩
      case round =>
        obtain ⟨k2, rfl, hI, hk2⟩ := hrel
        have hk2i := hI.suf.1
        have hk2m := hI.le
        have HI := Lib.hid hI
        have HBk := Lib.hid (HB1.out.keep hk2)
        have HCk := Lib.hid (HC1.out.keep hk2)
        have HK2 := Lib.hid hk2
        clear hI hk2
        by_cases hkm : k2 = p.length
        · subst hkm
          have hz0 : decide (0 < p.length) = true := by simpa using h0
          have hkk : ((p.length : Int) == (p.length : Int)) = true := by simp
          have hLk := HL.out p.length (by omega) (by omega)
          have hbk := hLk.suf.1
          have HS := Lib.hid (HI.out.step (by omega) (Or.inl rfl) hLk)
          have hck := HBk.out.cell p.length (by omega)
          have hix2 : (p.length : Int) < (p.length : Int) + 1 := by omega
          clear hLk
          go_wp2_with fail
          go_quiet (fail)
          go_wp2_with fail
          go_roundw
          case rel => exact ⟨b p.length, by go_num, HS.out, HK2.out.drawN _⟩
          case measure => simp [intOf]; omega
        · have hk2l : k2 < p.length := by omega
          obtain ⟨cc, hcc⟩ : ∃ cc, p[k2]? = some cc := ⟨_, List.getElem?_eq_getElem hk2l⟩
          have hci := idxC hcc
          have Hc := Lib.hid (atB_some hcc)
          have h1 : (k2 : Int) < (p.length : Int) := by omega
          have hkk : ((k2 : Int) == (p.length : Int)) = false := beq_eq_false_iff_ne.2 (by omega)
          clear hcc
          by_cases hcd : cc = d
          · subst hcd
            have HN := Lib.hid (HI.out.hit hk2l (by rw [Hc.out, Hd.out]))
            by_cases hfull : k2 + 1 = p.length
            · have hkf : ((k2 : Int) + 1 == (p.length : Int)) = true := by simp; omega
              have HF := Lib.hid hfull
              clear hfull
              by_cases hz : k2 = 0
              · subst hz
                have hkf1 : ((1 : Int) == (p.length : Int)) = true := by have := HF.out; simp; omega
                go_wp2_with fail
                go_quiet (fail)
                go_wp2_with fail
                go_quiet (fail)
                go_wp2_with fail
                refine (each_idx _ (-1) c _ (HCk.out.keep ((Keeps.refl _ _).drawN _)).cell (HCk.out.keep ((Keeps.refl _ _).drawN _)).frz).mono ?_
                rintro e w9 ⟨rfl, rfl⟩
                go_wp2_with fail
                go_end0
                exact fi_hit HN.out HF.out hil HNo.out (HCk.out.keep ((Keeps.refl _ _).drawN _)) ((((HK.out.trans HK1.out).trans HK2.out)).drawN _) (by first | rfl | omega | (simp; done) | (simp; omega))
              · have hz0 : decide (0 < k2) = true := by simp; omega
                go_wp2_with fail
                go_quiet (fail)
                go_wp2_with fail
                go_quiet (fail)
                go_wp2_with fail
                refine (each_idx _ (-1) c _ (HCk.out.keep ((Keeps.refl _ _).drawN _)).cell (HCk.out.keep ((Keeps.refl _ _).drawN _)).frz).mono ?_
                rintro e w9 ⟨rfl, rfl⟩
                go_wp2_with fail
                go_end0
                exact fi_hit HN.out HF.out hil HNo.out (HCk.out.keep ((Keeps.refl _ _).drawN _)) ((((HK.out.trans HK1.out).trans HK2.out)).drawN _) (by first | rfl | omega | (simp; done) | (simp; omega))
            · have hkf : ((k2 : Int) + 1 == (p.length : Int)) = false := beq_eq_false_iff_ne.2 (by omega)
              by_cases hz : k2 = 0
              · subst hz
                go_wp2_with fail
                go_quiet (fail)
                go_wp2_with fail
                go_quiet (fail)
                go_wp2_with fail
                go_roundw
                case rel => exact fi_next (k' := 0 + 1) HN.out hil (by omega) HNo.out (HCk.out.keep ((Keeps.refl _ _).drawN _)) (HBk.out.keep ((Keeps.refl _ _).drawN _)) ((HK1.out.trans HK2.out).drawN _) hfi (by go_num) (by go_num)
                case measure => simp [intOf]; omega
              · have hz0 : decide (0 < k2) = true := by simp; omega
                go_wp2_with fail
                go_quiet (fail)
                go_wp2_with fail
                go_quiet (fail)
                go_wp2_with fail
                go_roundw
                case rel => exact fi_next (k' := k2 + 1) HN.out hil (by omega) HNo.out (HCk.out.keep ((Keeps.refl _ _).drawN _)) (HBk.out.keep ((Keeps.refl _ _).drawN _)) ((HK1.out.trans HK2.out).drawN _) hfi (by go_num) (by go_num)
                case measure => simp [intOf]; omega
          · have hne : ((cc.toNat : Int) != (d.toNat : Int)) = true := by
              simp; intro e; exact hcd (UInt8.toNat_inj.1 (by omega))
            have hne2 : ((cc.toNat : Int) == (d.toNat : Int)) = false := by
              simp; intro e; exact hcd (UInt8.toNat_inj.1 (by omega))
            by_cases hz : k2 = 0
            · subst hz
              have HN := Lib.hid (HI.out.miss (by rw [Hc.out, Hd.out]; exact hcd))
              go_wp2_with fail
              go_quiet (fail)
              go_wp2_with fail
              go_quiet (fail)
              go_wp2_with fail
              go_roundw
              case rel => exact fi_next (k' := 0) HN.out hil (by omega) HNo.out (HCk.out.keep ((Keeps.refl _ _).drawN _)) (HBk.out.keep ((Keeps.refl _ _).drawN _)) ((HK1.out.trans HK2.out).drawN _) hfi (by go_num) (by go_num)
              case measure => simp [intOf]; omega
            · have hz0 : decide (0 < k2) = true := by simp; omega
              have hLk := HL.out k2 (by omega) (by omega)
              have hbk := hLk.suf.1
              have HS := Lib.hid (HI.out.step (by omega) (Or.inr (by rw [Hc.out, Hd.out]; exact hcd)) hLk)
              have hck := HBk.out.cell k2 (by omega)
              have hix2 : (k2 : Int) < (p.length : Int) + 1 := by omega
              clear hLk
              go_wp2_with fail
              go_quiet (fail)
              go_wp2_with fail
              go_roundw
              case rel => exact ⟨b k2, by go_num, HS.out, HK2.out.drawN _⟩
              case measure => simp [intOf]; omega
    · have hid : decide ((i : Int) < (t.length : Int)) = false := by simp; omega
      have HE : Hid (IdxAt (mtL p t) t.length f (-1)) := Lib.hid (Or.inl ⟨rfl, fun a ha hat => by
        by_cases h : a + p.length ≤ i
        · exact HNo.out a ha h
        · rw [← Bool.not_eq_true]; intro hm; have := (mtB_iff.1 hm).1; omega⟩)
      go_wp2_with fail
      go_end0
      exact ⟨-1, rfl, HC1.out, HE.out, (HK.out.trans HK1.out).mono (fun _ _ e => e.elim)⟩
set_option maxHeartbeats 8000000 in
theorem find_cnt (p t : List UInt8) (c : Nat) (w : World) (h0 : 0 < p.length) (hp : p.length ≤ 1000) (ht : t.length ≤ 1000) (hC : CellIs w c 0) : Calls Try.prog 9 #[.string ⟨t.toArray⟩, .string ⟨p.toArray⟩, .int .i64 0, .func (.func 11) #[] #[.pointer (some ⟨c, 0, none⟩)]] w fun e w' => FcE p t c w e w' := by
  have hne : p.isEmpty = false := by cases p <;> simp_all
  have HC := Lib.hid hC
  clear hC
  go_enter Try.func9, Try.ntmps9
  go_wp2_with fail
  refine (borders_any p _ h0 hp).mono ?_
  rintro e w3 ⟨g, b, rfl, hg, hB, hL, hK⟩
  have HB := Lib.hid hB
  have HL := Lib.hid hL
  have HK := Lib.hid hK
  have HC3 := Lib.hid (HC.out.keep hK)
  clear hB hL hK
  go_wp2_with fail
  have hgc : ¬ g = c := by have := HC.out.lt; omega
  go_loopw [10, 11] (fun kv iv wr => FcR p t c g b w3 kv iv wr) (fun _ iv _ => t.length + 1 - (intOf iv).toNat)
  case atStart => exact ⟨0, 0, rfl, rfl, Nat.zero_le _, Lgst.start _ _ _ _, by rw [show 0 + 1 - p.length = 0 by omega]; exact HC3.out, HB.out, Keeps.refl _ _⟩
  case round =>
    obtain ⟨k, i, rfl, rfl, hit, hLg, hC1, hB1, hK1⟩ := hrel
    have HC1 := Lib.hid hC1
    have HB1 := Lib.hid hB1
    have HK1 := Lib.hid hK1
    clear hC1 hB1 hK1
    obtain ⟨z, hz⟩ : ∃ z, cntM (mtL p t) (i + 1 - p.length) = z := ⟨_, rfl⟩
    have HZ0 := Lib.hid hz
    have HZ : Hid (z ≤ 1000000) := Lib.hid (by have := cntM_le (mtL p t) (i + 1 - p.length); omega)
    clear hz
    by_cases hil : i < t.length
    · skip
      obtain ⟨d, hd⟩ : ∃ d, t[i]? = some d := ⟨_, List.getElem?_eq_getElem hil⟩
      have hdi := idxC hd
      have Hd := Lib.hid (atB_some hd)
      have hid : decide ((i : Int) < (t.length : Int)) = true := by simpa using hil
      have hid0 : (i : Int) < (t.length : Int) := by omega
      have HLi := Lib.hid hLg.inn
      obtain ⟨wR, hwR⟩ : ∃ W, W = wr := ⟨wr, rfl⟩
      subst hwR
      clear hd hLg
      go_wp2_with fail
      go_loopw [10] (fun kv wk => FI p t wR 0 i kv wk) (fun kv _ => (intOf kv).toNat)
      case atStart => exact ⟨k, rfl, HLi.out, Keeps.refl _ _⟩
      case round =>
        obtain ⟨k2, rfl, hI, hk2⟩ := hrel
        have hk2i := hI.suf.1
        have hk2m := hI.le
        have HI := Lib.hid hI
        have HBk := Lib.hid (HB1.out.keep hk2)
        have HCk : Hid (CellIs wr c (z : Nat)) := Lib.hid (by have e := HC1.out.keep hk2; rw [HZ0.out] at e; exact e)
        have HK2 := Lib.hid hk2
        clear hI hk2
        by_cases hkm : k2 = p.length
        · subst hkm
          have hz0 : decide (0 < p.length) = true := by simpa using h0
          have hkk : ((p.length : Int) == (p.length : Int)) = true := by simp
          have hLk := HL.out p.length (by omega) (by omega)
          have hbk := hLk.suf.1
          have HS := Lib.hid (HI.out.step (by omega) (Or.inl rfl) hLk)
          have hck := HBk.out.cell p.length (by omega)
          have hix2 : (p.length : Int) < (p.length : Int) + 1 := by omega
          clear hLk
          go_wp2_with fail
          go_quiet (fail)
          go_wp2_with fail
          go_roundw
          case rel => exact ⟨b p.length, by go_num, HS.out, HK2.out.drawN _⟩
          case measure => simp [intOf]; omega
        · have hk2l : k2 < p.length := by omega
          obtain ⟨cc, hcc⟩ : ∃ cc, p[k2]? = some cc := ⟨_, List.getElem?_eq_getElem hk2l⟩
          have hci := idxC hcc
          have Hc := Lib.hid (atB_some hcc)
          have h1 : (k2 : Int) < (p.length : Int) := by omega
          have hkk : ((k2 : Int) == (p.length : Int)) = false := beq_eq_false_iff_ne.2 (by omega)
          clear hcc
          by_cases hcd : cc = d
          · subst hcd
            have HN := Lib.hid (HI.out.hit hk2l (by rw [Hc.out, Hd.out]))
            by_cases hfull : k2 + 1 = p.length
            · have hkf : ((k2 : Int) + 1 == (p.length : Int)) = true := by simp; omega
              have HF := Lib.hid hfull
              clear hfull
              by_cases hz : k2 = 0
              · subst hz
                have hkf1 : ((1 : Int) == (p.length : Int)) = true := by have := HF.out; simp; omega
                go_wp2_with fail
                go_quiet (fail)
                go_wp2_with fail
                go_quiet (fail)
                go_wp2_with fail
                refine (each_cnt _ _ c _ (HCk.out.keep ((Keeps.refl _ _).drawN _)).cell (HCk.out.keep ((Keeps.refl _ _).drawN _)).frz HZ.out).mono ?_
                rintro e w9 ⟨rfl, rfl⟩
                go_wp2_with fail
                go_roundw
                case rel => exact fc_hit (k' := _) HN.out HF.out hil (HCk.out.keep ((Keeps.refl _ _).drawN _)) (HBk.out.keep ((Keeps.refl _ _).drawN _)) ((HK1.out.trans (HK2.out.mono (fun _ _ e => e.elim))).drawN _) ⟨HZ0.out.symm, rfl⟩ hgc (by go_num) (by go_num)
                case measure => simp [intOf]; omega
              · have hz0 : decide (0 < k2) = true := by simp; omega
                go_wp2_with fail
                go_quiet (fail)
                go_wp2_with fail
                go_quiet (fail)
                go_wp2_with fail
                refine (each_cnt _ _ c _ (HCk.out.keep ((Keeps.refl _ _).drawN _)).cell (HCk.out.keep ((Keeps.refl _ _).drawN _)).frz HZ.out).mono ?_
                rintro e w9 ⟨rfl, rfl⟩
                go_wp2_with fail
                go_roundw
                case rel => exact fc_hit (k' := _) HN.out HF.out hil (HCk.out.keep ((Keeps.refl _ _).drawN _)) (HBk.out.keep ((Keeps.refl _ _).drawN _)) ((HK1.out.trans (HK2.out.mono (fun _ _ e => e.elim))).drawN _) ⟨HZ0.out.symm, rfl⟩ hgc (by go_num) (by go_num)
                case measure => simp [intOf]; omega
            · have hkf : ((k2 : Int) + 1 == (p.length : Int)) = false := beq_eq_false_iff_ne.2 (by omega)
              by_cases hz : k2 = 0
              · subst hz
                go_wp2_with fail
                go_quiet (fail)
                go_wp2_with fail
                go_quiet (fail)
                go_wp2_with fail
                go_roundw
                case rel => exact fc_next (k' := 0 + 1) HN.out hil (by omega) (HCk.out.keep ((Keeps.refl _ _).drawN _)) (HBk.out.keep ((Keeps.refl _ _).drawN _)) ((HK1.out.trans (HK2.out.mono (fun _ _ e => e.elim))).drawN _) HZ0.out (by go_num) (by go_num)
                case measure => simp [intOf]; omega
              · have hz0 : decide (0 < k2) = true := by simp; omega
                go_wp2_with fail
                go_quiet (fail)
                go_wp2_with fail
                go_quiet (fail)
                go_wp2_with fail
                go_roundw
                case rel => exact fc_next (k' := k2 + 1) HN.out hil (by omega) (HCk.out.keep ((Keeps.refl _ _).drawN _)) (HBk.out.keep ((Keeps.refl _ _).drawN _)) ((HK1.out.trans (HK2.out.mono (fun _ _ e => e.elim))).drawN _) HZ0.out (by go_num) (by go_num)
                case measure => simp [intOf]; omega
          · have hne : ((cc.toNat : Int) != (d.toNat : Int)) = true := by
              simp; intro e; exact hcd (UInt8.toNat_inj.1 (by omega))
            have hne2 : ((cc.toNat : Int) == (d.toNat : Int)) = false := by
              simp; intro e; exact hcd (UInt8.toNat_inj.1 (by omega))
            by_cases hz : k2 = 0
            · subst hz
              have HN := Lib.hid (HI.out.miss (by rw [Hc.out, Hd.out]; exact hcd))
              go_wp2_with fail
              go_quiet (fail)
              go_wp2_with fail
              go_quiet (fail)
              go_wp2_with fail
              go_roundw
              case rel => exact fc_next (k' := 0) HN.out hil (by omega) (HCk.out.keep ((Keeps.refl _ _).drawN _)) (HBk.out.keep ((Keeps.refl _ _).drawN _)) ((HK1.out.trans (HK2.out.mono (fun _ _ e => e.elim))).drawN _) HZ0.out (by go_num) (by go_num)
              case measure => simp [intOf]; omega
            · have hz0 : decide (0 < k2) = true := by simp; omega
              have hLk := HL.out k2 (by omega) (by omega)
              have hbk := hLk.suf.1
              have HS := Lib.hid (HI.out.step (by omega) (Or.inr (by rw [Hc.out, Hd.out]; exact hcd)) hLk)
              have hck := HBk.out.cell k2 (by omega)
              have hix2 : (k2 : Int) < (p.length : Int) + 1 := by omega
              clear hLk
              go_wp2_with fail
              go_quiet (fail)
              go_wp2_with fail
              go_roundw
              case rel => exact ⟨b k2, by go_num, HS.out, HK2.out.drawN _⟩
              case measure => simp [intOf]; omega
    · obtain rfl : i = t.length := by omega
      have hid : decide ((t.length : Int) < (t.length : Int)) = false := by simp
      have HE : Hid (cntM (mtL p t) (t.length + 1) = cntM (mtL p t) (t.length + 1 - p.length)) := Lib.hid (cntM_to _ (by omega) (fun a ha hat => by
        rw [← Bool.not_eq_true]; intro hm; have := (mtB_iff.1 hm).1; omega))
      go_wp2_with fail
      go_end0
      exact ⟨rfl, by rw [HE.out]; exact HC1.out, (HK.out.mono (fun _ _ e => e.elim)).trans HK1.out⟩
end Go.Proofs.Ytinogeobkljngaa
