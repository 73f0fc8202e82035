/-
  Several texts in one: engine.Quote. Printed by mk_eqq.py. The document's Quote. Printed by mk_eqr.py.
-/
import Derived.Test.YtpcbfmbpbegjgaaGreatMg25
import Derived.Test.YtpcbfmbpbegjgaaGreatMg23
import Derived.Test.YtpcbfmbpbegjgaaGreatShelf
import Derived.Lib.Bytealg
import Derived.Lib.ConvBytes
import Derived.Test.YtpcbfmbpbegjgaaGreatMg22
section
namespace Go.Proofs.YtpcbfmbpbegjgaaGreat
open Go.RowKit
set_option linter.unusedVariables false
set_option linter.unusedSimpArgs false
set_option maxRecDepth 100000

def sgQ : List UInt8 := [46, 94, 36, 124, 40, 41, 91, 93, 123, 125, 42, 43, 63, 92, 45]
theorem idx_sg (c : UInt8) : decide (0 ≤ Lib.indexByte sgQ c) = isQ (c.toNat : Int) := by
  have key : ∀ c : Fin 256, decide (0 ≤ Lib.indexByte sgQ (UInt8.ofNat c.val)) = isQ (c.val : Int) := of_decide_eq_true (by kernel_rfl)
  have := key ⟨c.toNat, c.toNat_lt⟩
  simpa using this
def QuR (l : List UInt8) (X base b : Nat) (w1 : World) (bv : Value) (wr : World) : Prop :=
  ∃ rest done : List UInt8, BS X wr bv rest ∧ Bld base b (Lib.byteCells done) wr ∧ Keeps (fun k => k = b ∨ base ≤ k) w1 wr ∧ quoteL l = (quoteL rest).map (done ++ ·) ∧ done.length + 2 * rest.length ≤ 2 * l.length
theorem quote_facts {c : UInt8} {t : List UInt8} (hs : sizP (getP (c :: t)).1 = ((getP (c :: t)).2 : Int)) :
    ((getP (c :: t)).2 = 1 → (getP (c :: t)).1 = (c.toNat : Int)) ∧ ((getP (c :: t)).2 ≠ 1 → 128 ≤ (getP (c :: t)).1) ∧ putP (getP (c :: t)).1.toNat = (c :: t).take (getP (c :: t)).2 := by
  obtain ⟨g1, g2, g3, g4, g5⟩ := put_get hs
  obtain ⟨_, _, hv⟩ := getP_valid hs
  refine ⟨fun h => ?_, fun h => ?_, ?_⟩
  · rcases hv with ⟨_, h2⟩ | ⟨h1, _⟩
    · rw [h2]
    · rw [h] at hs
      unfold sizP at hs
      split at hs
      · split at hs
        · omega
        · split at hs
          · omega
          · split at hs <;> omega
      · omega
  · rcases hv with ⟨_, h2⟩ | ⟨h1, _⟩
    · rw [h2] at h; simp at h
    · exact h1
  · unfold getQ at g4
    simp only [Bool.and_eq_true, decide_eq_true_eq] at g4
    rw [← g5, Int.toNat_natCast, g4.2]
theorem byteCells_app (a b : List UInt8) : Lib.byteCells (a ++ b) = Lib.byteCells a ++ Lib.byteCells b := by simp [Lib.byteCells]
set_option maxHeartbeats 8000000 in
theorem quote_any (l : List UInt8) (w : World) (hl : l.length ≤ 100000) :
    Calls Tryz.prog 5 #[.string ⟨l.toArray⟩] w fun e w' => e = .returned (strL ((quoteL l).getD [])) ∧ Keeps (fun _ => False) w w' := by
  have Hs : Hid ((⟨l.toArray⟩ : ByteArray).data.toList = l) := rfl
  have Hz : Hid ((⟨l.toArray⟩ : ByteArray).size = l.length) := by show l.toArray.size = _; simp
  generalize (⟨l.toArray⟩ : ByteArray) = s at *
  obtain ⟨w0, hw0⟩ : ∃ W, W = w.alloc (.cells #[.pointer none, .slice none 0 0] 44) := ⟨_, rfl⟩
  go_enter Tryz.func5, Tryz.ntmps5
  go_upto_region 2 with fail
  rw [← hw0]
  have hz0 : w0.heap.size = w.heap.size + 1 := by rw [hw0]; simp
  have hB0 : Bld (w.heap.size + 2) w.heap.size [] w0 := Bld.fresh (w' := w) (by rw [hw0]; exact heap_alloc_new w _)
  have hK0 : Keeps (fun _ => False) w w0 := by rw [hw0]; exact (Keeps.refl _ _).alloc _
  clear hw0
  have hconv := fun W => Lib.run_convert_string_bytes (P := Tryz.prog) W 9 42 5 s Tryz.underlying9 Tryz.underlying42 Tryz.underlying5
  go_wp2_with fail
  clear hconv
  have hW0 : Keeps (fun _ => False) w0 (Lib.bytesWorld w0 5 s) := ⟨rfl, rfl, rfl, by rw [Lib.bytesWorld_size]; omega, fun k hk _ => Lib.bytesWorld_at_old w0 5 s k hk⟩
  have hX0 : ∀ j x, l[j]? = some x → (Lib.bytesWorld w0 5 s).cell? ⟨w0.heap.size, 0 + j, none⟩ = some (.int .u8 (x.toNat : Int)) := fun j x hx => by
    have hj : j < l.length := (List.getElem?_eq_some_iff.1 hx).1
    have := Lib.bytesWorld_cell w0 5 s j (by rw [Hz.out]; exact hj)
    rw [Hs.out, List.getD_eq_getElem?_getD, hx] at this
    rw [Nat.zero_add]; exact this
  have hsz : (Lib.bytesWorld w0 5 s).heap.size = w0.heap.size + 1 := Lib.bytesWorld_size _ _ _
  have hcp := grownCap_ge w0 s.size 0 5
  have hcp2 := grownCap_le_maxLen w0 s.size 0 5 (by rw [Hz.out]; unfold maxLen; omega)
  generalize grownCap w0 s.size 0 5 = cp at *
  generalize Lib.bytesWorld w0 5 s = w1 at *
  unfold maxLen at hcp2
  rw [Hz.out] at hcp ⊢
  have hB1 := hB0.keepsF hW0
  have hS0 : BS (w.heap.size + 1) w1 (.slice (some ⟨w.heap.size + 1, 0, none⟩) l.length cp) l := ⟨_, cp, rfl, hcp, fun _ => ⟨0, rfl, by rw [← hz0]; exact hX0⟩⟩
  have HKw : Hid (Keeps (fun _ => False) w w1) := Lib.hid (hK0.trans hW0)
  have Hsz : Hid (w1.heap.size = w.heap.size + 2) := Lib.hid (by omega)
  try rw [hz0]
  clear hX0 hsz hB0 hK0 hW0 hz0
  have HS0 := Lib.hid hS0
  have HB1 := Lib.hid hB1
  clear hS0 hB1 w0
  go_loopw [4] (fun bv wr => QuR l (w.heap.size + 1) (w.heap.size + 2) w.heap.size w1 bv wr) (fun bv _ => restLen bv)
  case atStart => exact ⟨l, [], HS0.out, HB1.out, Keeps.refl _ _, by simp, by simp⟩
  case round =>
    clear HS0 HB1
    obtain ⟨rest, done, hS, hB, hk, hq, hdl⟩ := hrel
    obtain ⟨a, cap, rfl, hcap, hcell⟩ := hS
    have HB := Lib.hid hB
    have HK := Lib.hid hk
    have hsw : w.heap.size + 2 ≤ wr.heap.size := by have := hk.size; rw [Hsz.out] at this; exact this
    have HKW : Hid (Keeps (fun _ => False) w wr) := Lib.hid (HKw.out.trans2 (T := fun k => k = w.heap.size ∨ w.heap.size + 2 ≤ k) hk (fun i hi e => by rcases e with e | e <;> omega))
    have Hq := Lib.hid hq
    clear hq hB hk
    cases rest with
    | nil =>
      have E : Hid (quoteL l = some done) := Lib.hid (by rw [Hq.out]; simp [quoteL, pts, ptsP])
      clear hcell
      go_wp2_with fail
      refine (Tryz.Builder_String_any_f w.heap.size w.heap.size done wr (bld_f HB.out _ (by omega) (Nat.le_refl _)) (by omega)).mono ?_
      rintro e w2 ⟨rfl, _, hbe⟩
      have KE : Hid (Keeps (fun _ => False) w w2) := Lib.hid ((HKW.out.trans2 (Keeps.ofBelow hbe) (fun i hi e => by omega)))
      clear hbe
      go_wp2_with fail
      go_ret
      exact ⟨by rw [E.out]; rfl, KE.out⟩
    | cons c t =>
      obtain ⟨off, rfl, hcc⟩ := hcell (by simp)
      have HC := Lib.hid hcc
      have hp1 := (getP_pos c t).1
      have hp2 := getP_le c t
      have HQC := Lib.hid (quoteL_cons (c := c) (l := t))
      have HF := Lib.hid (fun h => quote_facts (c := c) (t := t) h)
      have HG := Lib.hid (get_some (w.heap.size + 1) off cap (t.length + 1) c t wr rfl (by simpa using hcap) hcc)
      have c0 : wr.cell? ⟨w.heap.size + 1, off, none⟩ = some (.int .u8 (c.toNat : Int)) := hcc 0 c rfl
      clear hcc hcell
      generalize getP (c :: t) = G at *
      obtain ⟨r, n⟩ := G
      simp only at hp1 hp2 HQC HG HF
      have HS := Lib.hid (fun W => size_any r W)
      have hlc : (c :: t).length = t.length + 1 := rfl
      simp only [List.length_cons] at hcap hlc hdl
      by_cases hs : sizP r = n
      · obtain ⟨f1, f2, f3⟩ := HF.out hs
        have E2 : Hid (quoteL l = ((quoteL ((c :: t).drop n)).map (qB r ++ ·)).map (done ++ ·)) := Lib.hid (by rw [Hq.out, HQC.out, if_pos hs])
        rw [hs] at HS
        have hdl2 : ((c :: t).drop n).length = t.length + 1 - n := by simp
        have htl : ((c :: t).take n).length = n := by rw [List.length_take]; simp only [List.length_cons]; omega
        have hdc : ∀ i x, ((c :: t).drop n)[i]? = some x → wr.cell? ⟨w.heap.size + 1, off + n + i, none⟩ = some (.int .u8 (x.toNat : Int)) := fun i x hx => by
          rw [List.getElem?_drop] at hx
          rw [Nat.add_assoc]; exact HC.out (n + i) x hx
        have htc : Hid (∀ i x, ((c :: t).take n)[i]? = some x → wr.cell? ⟨w.heap.size + 1, off + i, none⟩ = some (.int .u8 (x.toNat : Int))) := Lib.hid (fun i x hx => by
          rw [List.getElem?_take] at hx
          split at hx
          · exact HC.out i x hx
          · cases hx)
        have Hdl := Lib.hid hdl2
        have Hdc := Lib.hid hdc
        have hql := (qB_len (r := r)).2
        rw [f3, htl] at hql
        have F1 := Lib.hid f1
        have F2 := Lib.hid f2
        have F3 := Lib.hid f3
        clear hs hdl2 hdc HF HQC f1 f2 f3
        generalize (c :: t).drop n = rest' at *
        generalize (c :: t).take n = tk at *
        have hgo : ∀ (o' : Nat) (D : List UInt8) (w2 : World), D = qB r → Bld (w.heap.size + 2) w.heap.size (Lib.byteCells (done ++ D)) w2 → Keeps (fun k => k = w.heap.size ∨ w.heap.size + 2 ≤ k) wr w2 → (n < cap → o' = off + n) → QuR l (w.heap.size + 1) (w.heap.size + 2) w.heap.size w1 (.slice (some ⟨w.heap.size + 1, o', none⟩) (t.length + 1 - n) (cap - n)) w2 := by
          rintro o' D w2 rfl h1 h2 h4
          refine ⟨rest', done ++ qB r, ?_, h1, HK.out.trans h2, ?_, by rw [List.length_append, Hdl.out]; omega⟩
          · refine ⟨some ⟨w.heap.size + 1, o', none⟩, cap - n, by rw [Hdl.out], by rw [Hdl.out]; omega, fun hne => ?_⟩
            have h5 : 0 < rest'.length := List.length_pos_iff.2 hne
            rw [Hdl.out] at h5
            refine ⟨o', rfl, fun i x hx => ?_⟩
            rw [h4 (by omega)]
            exact h2.cell (Hdc.out i x hx) (by show ¬ (w.heap.size + 1 = w.heap.size ∨ w.heap.size + 2 ≤ w.heap.size + 1); omega)
          · rw [E2.out, Option.map_map]
            congr 1
            funext q; simp
        have HGo := Lib.hid hgo
        clear hgo HKW
        by_cases h10 : r = 10
        · obtain rfl := h10
          have HD : Hid ([92, 110] = qB 10) := Lib.hid (by decide +kernel)
          have hdd := HB.out
          clear HC htc F1 F2 F3
          by_cases hcn : cap = n
          · subst hcn
            go_wp2_with fail
            refine HG.out.mono ?_
            rintro e w2 ⟨rfl, rfl⟩
            go_wp2_with fail
            refine (HS.out _).mono ?_
            rintro e w2 ⟨rfl, rfl⟩
            go_wp2_with fail
            refine (writeStr_any (w.heap.size + 2) w.heap.size _ ⟨#[92, 110]⟩ _ hdd (by rw [Lib.byteCells_length]; show done.length + 2 ≤ _; omega) hsw).mono ?_
            rintro e w3 ⟨rfl, hB3, hk3⟩
            have HB2 : Hid (Bld (w.heap.size + 2) w.heap.size (Lib.byteCells (done ++ [92, 110])) w3) := Lib.hid (by rw [byteCells_app]; exact hB3)
            have HK2 := Lib.hid hk3
            clear hB3 hk3
            go_wp2_with fail
            go_roundw
            case rel => first | exact HGo.out _ _ _ HD.out HB2.out HK2.out (fun h => by first | rfl | omega) | (have h9 := HGo.out off _ _ HD.out HB2.out HK2.out (fun h => by omega); rw [show t.length + 1 - cap = 0 by omega, Nat.sub_self] at h9; exact h9)
            case measure => first | (simp [restLen]; done) | (simp [restLen]; omega)
          · have hnc : n < cap := by omega
            go_wp2_with fail
            refine HG.out.mono ?_
            rintro e w2 ⟨rfl, rfl⟩
            go_wp2_with fail
            refine (HS.out _).mono ?_
            rintro e w2 ⟨rfl, rfl⟩
            go_wp2_with fail
            refine (writeStr_any (w.heap.size + 2) w.heap.size _ ⟨#[92, 110]⟩ _ hdd (by rw [Lib.byteCells_length]; show done.length + 2 ≤ _; omega) hsw).mono ?_
            rintro e w3 ⟨rfl, hB3, hk3⟩
            have HB2 : Hid (Bld (w.heap.size + 2) w.heap.size (Lib.byteCells (done ++ [92, 110])) w3) := Lib.hid (by rw [byteCells_app]; exact hB3)
            have HK2 := Lib.hid hk3
            clear hB3 hk3
            go_wp2_with fail
            go_roundw
            case rel => first | exact HGo.out _ _ _ HD.out HB2.out HK2.out (fun h => by first | rfl | omega) | (have h9 := HGo.out off _ _ HD.out HB2.out HK2.out (fun h => by omega); rw [show t.length + 1 - cap = 0 by omega, Nat.sub_self] at h9; exact h9)
            case measure => first | (simp [restLen]; done) | (simp [restLen]; omega)
        have g10 : (r == 10) = false := beq_eq_false_iff_ne.2 h10
        by_cases h13 : r = 13
        · obtain rfl := h13
          have HD : Hid ([92, 114] = qB 13) := Lib.hid (by decide +kernel)
          have hdd := HB.out
          clear HC htc F1 F2 F3
          by_cases hcn : cap = n
          · subst hcn
            go_wp2_with fail
            refine HG.out.mono ?_
            rintro e w2 ⟨rfl, rfl⟩
            go_wp2_with fail
            refine (HS.out _).mono ?_
            rintro e w2 ⟨rfl, rfl⟩
            go_wp2_with fail
            refine (writeStr_any (w.heap.size + 2) w.heap.size _ ⟨#[92, 114]⟩ _ hdd (by rw [Lib.byteCells_length]; show done.length + 2 ≤ _; omega) hsw).mono ?_
            rintro e w3 ⟨rfl, hB3, hk3⟩
            have HB2 : Hid (Bld (w.heap.size + 2) w.heap.size (Lib.byteCells (done ++ [92, 114])) w3) := Lib.hid (by rw [byteCells_app]; exact hB3)
            have HK2 := Lib.hid hk3
            clear hB3 hk3
            go_wp2_with fail
            go_roundw
            case rel => first | exact HGo.out _ _ _ HD.out HB2.out HK2.out (fun h => by first | rfl | omega) | (have h9 := HGo.out off _ _ HD.out HB2.out HK2.out (fun h => by omega); rw [show t.length + 1 - cap = 0 by omega, Nat.sub_self] at h9; exact h9)
            case measure => first | (simp [restLen]; done) | (simp [restLen]; omega)
          · have hnc : n < cap := by omega
            go_wp2_with fail
            refine HG.out.mono ?_
            rintro e w2 ⟨rfl, rfl⟩
            go_wp2_with fail
            refine (HS.out _).mono ?_
            rintro e w2 ⟨rfl, rfl⟩
            go_wp2_with fail
            refine (writeStr_any (w.heap.size + 2) w.heap.size _ ⟨#[92, 114]⟩ _ hdd (by rw [Lib.byteCells_length]; show done.length + 2 ≤ _; omega) hsw).mono ?_
            rintro e w3 ⟨rfl, hB3, hk3⟩
            have HB2 : Hid (Bld (w.heap.size + 2) w.heap.size (Lib.byteCells (done ++ [92, 114])) w3) := Lib.hid (by rw [byteCells_app]; exact hB3)
            have HK2 := Lib.hid hk3
            clear hB3 hk3
            go_wp2_with fail
            go_roundw
            case rel => first | exact HGo.out _ _ _ HD.out HB2.out HK2.out (fun h => by first | rfl | omega) | (have h9 := HGo.out off _ _ HD.out HB2.out HK2.out (fun h => by omega); rw [show t.length + 1 - cap = 0 by omega, Nat.sub_self] at h9; exact h9)
            case measure => first | (simp [restLen]; done) | (simp [restLen]; omega)
        have g13 : (r == 13) = false := beq_eq_false_iff_ne.2 h13
        by_cases h9 : r = 9
        · obtain rfl := h9
          have HD : Hid ([92, 116] = qB 9) := Lib.hid (by decide +kernel)
          have hdd := HB.out
          clear HC htc F1 F2 F3
          by_cases hcn : cap = n
          · subst hcn
            go_wp2_with fail
            refine HG.out.mono ?_
            rintro e w2 ⟨rfl, rfl⟩
            go_wp2_with fail
            refine (HS.out _).mono ?_
            rintro e w2 ⟨rfl, rfl⟩
            go_wp2_with fail
            refine (writeStr_any (w.heap.size + 2) w.heap.size _ ⟨#[92, 116]⟩ _ hdd (by rw [Lib.byteCells_length]; show done.length + 2 ≤ _; omega) hsw).mono ?_
            rintro e w3 ⟨rfl, hB3, hk3⟩
            have HB2 : Hid (Bld (w.heap.size + 2) w.heap.size (Lib.byteCells (done ++ [92, 116])) w3) := Lib.hid (by rw [byteCells_app]; exact hB3)
            have HK2 := Lib.hid hk3
            clear hB3 hk3
            go_wp2_with fail
            go_roundw
            case rel => first | exact HGo.out _ _ _ HD.out HB2.out HK2.out (fun h => by first | rfl | omega) | (have h9 := HGo.out off _ _ HD.out HB2.out HK2.out (fun h => by omega); rw [show t.length + 1 - cap = 0 by omega, Nat.sub_self] at h9; exact h9)
            case measure => first | (simp [restLen]; done) | (simp [restLen]; omega)
          · have hnc : n < cap := by omega
            go_wp2_with fail
            refine HG.out.mono ?_
            rintro e w2 ⟨rfl, rfl⟩
            go_wp2_with fail
            refine (HS.out _).mono ?_
            rintro e w2 ⟨rfl, rfl⟩
            go_wp2_with fail
            refine (writeStr_any (w.heap.size + 2) w.heap.size _ ⟨#[92, 116]⟩ _ hdd (by rw [Lib.byteCells_length]; show done.length + 2 ≤ _; omega) hsw).mono ?_
            rintro e w3 ⟨rfl, hB3, hk3⟩
            have HB2 : Hid (Bld (w.heap.size + 2) w.heap.size (Lib.byteCells (done ++ [92, 116])) w3) := Lib.hid (by rw [byteCells_app]; exact hB3)
            have HK2 := Lib.hid hk3
            clear hB3 hk3
            go_wp2_with fail
            go_roundw
            case rel => first | exact HGo.out _ _ _ HD.out HB2.out HK2.out (fun h => by first | rfl | omega) | (have h9 := HGo.out off _ _ HD.out HB2.out HK2.out (fun h => by omega); rw [show t.length + 1 - cap = 0 by omega, Nat.sub_self] at h9; exact h9)
            case measure => first | (simp [restLen]; done) | (simp [restLen]; omega)
        have g9 : (r == 9) = false := beq_eq_false_iff_ne.2 h9
        by_cases hn1 : n = 1
        · obtain rfl := hn1
          obtain rfl := F1.out rfl
          have HIx := Lib.hid (fun W => Tryz.strings_IndexByte ⟨#[46, 94, 36, 124, 40, 41, 91, 93, 123, 125, 42, 43, 63, 92, 45]⟩ (c.toNat : Int) W)
          have hcc2 : ((c.toNat : Int)).toNat.toUInt8 = c := by simp
          have hix := idx_sg c
          rw [hcc2] at HIx
          have hix2 : Lib.indexByte (⟨#[46, 94, 36, 124, 40, 41, 91, 93, 123, 125, 42, 43, 63, 92, 45]⟩ : ByteArray).data.toList c = Lib.indexByte sgQ c := rfl
          rw [hix2] at HIx
          generalize Lib.indexByte sgQ c = z at *
          have hdd := HB.out
          clear hcc2 hix2
          have htk : tk = [c] := by
            have h1 := F3.out
            have h2 := htc.out
            have h3 := htl
            obtain ⟨x, rfl⟩ := List.length_eq_one_iff.1 h3
            have : wr.cell? ⟨w.heap.size + 1, off, none⟩ = _ := h2 0 x rfl
            rw [c0] at this
            simp at this
            have h5 : c.toNat = x.toNat := by omega
            rw [UInt8.toNat_inj.1 h5]
          cases hQ : isQ (c.toNat : Int)
          · rw [hQ] at hix
            have HD : Hid (tk = qB (c.toNat : Int)) := Lib.hid (by unfold qB; rw [if_neg h10, if_neg h13, if_neg h9, hQ, if_neg (by decide), F3.out])
            clear HC hQ h10 h13 h9
            by_cases hcn : cap = 1
            · subst hcn
              go_wp2_with fail
              refine HG.out.mono ?_
              rintro e w2 ⟨rfl, rfl⟩
              go_wp2_with fail
              refine (HS.out _).mono ?_
              rintro e w2 ⟨rfl, rfl⟩
              go_wp2_with fail
              refine (HIx.out _).mono ?_
              rintro e w2 ⟨rfl, rfl⟩
              go_wp2_with fail
              refine (write_any (w.heap.size + 2) w.heap.size _ (w.heap.size + 1) off 1 _ tk _ hdd htl.symm (by rw [Lib.byteCells_length]; omega) hsw (by omega) htc.out).mono ?_
              rintro e w3 ⟨rfl, hB3, hk3⟩
              have HB2 : Hid (Bld (w.heap.size + 2) w.heap.size (Lib.byteCells (done ++ tk)) w3) := Lib.hid (by rw [byteCells_app]; exact hB3)
              have HK2 := Lib.hid hk3
              clear hB3 hk3
              go_wp2_with fail
              go_roundw
              case rel => first | exact HGo.out _ _ _ HD.out HB2.out HK2.out (fun h => by first | rfl | omega) | (have h9 := HGo.out off _ _ HD.out HB2.out HK2.out (fun h => by omega); rw [show t.length + 1 - 1 = 0 by omega, Nat.sub_self] at h9; exact h9)
              case measure => first | (simp [restLen]; done) | (simp [restLen]; omega)
            · have hnc : 1 < cap := by omega
              go_wp2_with fail
              refine HG.out.mono ?_
              rintro e w2 ⟨rfl, rfl⟩
              go_wp2_with fail
              refine (HS.out _).mono ?_
              rintro e w2 ⟨rfl, rfl⟩
              go_wp2_with fail
              refine (HIx.out _).mono ?_
              rintro e w2 ⟨rfl, rfl⟩
              go_wp2_with fail
              refine (write_any (w.heap.size + 2) w.heap.size _ (w.heap.size + 1) off 1 _ tk _ hdd htl.symm (by rw [Lib.byteCells_length]; omega) hsw (by omega) htc.out).mono ?_
              rintro e w3 ⟨rfl, hB3, hk3⟩
              have HB2 : Hid (Bld (w.heap.size + 2) w.heap.size (Lib.byteCells (done ++ tk)) w3) := Lib.hid (by rw [byteCells_app]; exact hB3)
              have HK2 := Lib.hid hk3
              clear hB3 hk3
              go_wp2_with fail
              go_roundw
              case rel => first | exact HGo.out _ _ _ HD.out HB2.out HK2.out (fun h => by first | rfl | omega) | (have h9 := HGo.out off _ _ HD.out HB2.out HK2.out (fun h => by omega); rw [show t.length + 1 - 1 = 0 by omega, Nat.sub_self] at h9; exact h9)
              case measure => first | (simp [restLen]; done) | (simp [restLen]; omega)
          · rw [hQ] at hix
            have HD : Hid ([92] ++ tk = qB (c.toNat : Int)) := Lib.hid (by unfold qB; rw [if_neg h10, if_neg h13, if_neg h9, hQ, if_pos rfl, htk]; simp)
            clear HC hQ h10 h13 h9
            by_cases hcn : cap = 1
            · subst hcn
              go_wp2_with fail
              refine HG.out.mono ?_
              rintro e w2 ⟨rfl, rfl⟩
              go_wp2_with fail
              refine (HS.out _).mono ?_
              rintro e w2 ⟨rfl, rfl⟩
              go_wp2_with fail
              refine (HIx.out _).mono ?_
              rintro e w2 ⟨rfl, rfl⟩
              go_wp2_with fail
              refine (writeByte_any (w.heap.size + 2) w.heap.size _ 92 _ hdd (by rw [Lib.byteCells_length]; omega) hsw).mono ?_
              rintro e w3 ⟨rfl, hB3, hk3⟩
              have hsw3 := hk3.size
              have htc3 : ∀ i x, tk[i]? = some x → w3.cell? ⟨w.heap.size + 1, off + i, none⟩ = some (.int .u8 (x.toNat : Int)) := fun i x hx => hk3.cell (htc.out i x hx) (by show ¬ (w.heap.size + 1 = w.heap.size ∨ w.heap.size + 2 ≤ w.heap.size + 1); omega)
              have HTC3 := Lib.hid htc3
              have HB3 := Lib.hid hB3
              have HK3 := Lib.hid hk3
              clear htc3 hB3 hk3
              go_wp2_with fail
              refine (write_any (w.heap.size + 2) w.heap.size _ (w.heap.size + 1) off 1 _ tk _ HB3.out htl.symm (by simp [Lib.byteCells_length]; omega) (by omega) (by omega) HTC3.out).mono ?_
              rintro e w4 ⟨rfl, hB4, hk4⟩
              have HB2 : Hid (Bld (w.heap.size + 2) w.heap.size (Lib.byteCells (done ++ ([92] ++ tk))) w4) := Lib.hid (by rw [byteCells_app, byteCells_app, ← List.append_assoc]; exact hB4)
              have HK2 := Lib.hid (HK3.out.trans hk4)
              clear hB4 hk4
              go_wp2_with fail
              go_roundw
              case rel => first | exact HGo.out _ _ _ HD.out HB2.out HK2.out (fun h => by first | rfl | omega) | (have h9 := HGo.out off _ _ HD.out HB2.out HK2.out (fun h => by omega); rw [show t.length + 1 - 1 = 0 by omega, Nat.sub_self] at h9; exact h9)
              case measure => first | (simp [restLen]; done) | (simp [restLen]; omega)
            · have hnc : 1 < cap := by omega
              go_wp2_with fail
              refine HG.out.mono ?_
              rintro e w2 ⟨rfl, rfl⟩
              go_wp2_with fail
              refine (HS.out _).mono ?_
              rintro e w2 ⟨rfl, rfl⟩
              go_wp2_with fail
              refine (HIx.out _).mono ?_
              rintro e w2 ⟨rfl, rfl⟩
              go_wp2_with fail
              refine (writeByte_any (w.heap.size + 2) w.heap.size _ 92 _ hdd (by rw [Lib.byteCells_length]; omega) hsw).mono ?_
              rintro e w3 ⟨rfl, hB3, hk3⟩
              have hsw3 := hk3.size
              have htc3 : ∀ i x, tk[i]? = some x → w3.cell? ⟨w.heap.size + 1, off + i, none⟩ = some (.int .u8 (x.toNat : Int)) := fun i x hx => hk3.cell (htc.out i x hx) (by show ¬ (w.heap.size + 1 = w.heap.size ∨ w.heap.size + 2 ≤ w.heap.size + 1); omega)
              have HTC3 := Lib.hid htc3
              have HB3 := Lib.hid hB3
              have HK3 := Lib.hid hk3
              clear htc3 hB3 hk3
              go_wp2_with fail
              refine (write_any (w.heap.size + 2) w.heap.size _ (w.heap.size + 1) off 1 _ tk _ HB3.out htl.symm (by simp [Lib.byteCells_length]; omega) (by omega) (by omega) HTC3.out).mono ?_
              rintro e w4 ⟨rfl, hB4, hk4⟩
              have HB2 : Hid (Bld (w.heap.size + 2) w.heap.size (Lib.byteCells (done ++ ([92] ++ tk))) w4) := Lib.hid (by rw [byteCells_app, byteCells_app, ← List.append_assoc]; exact hB4)
              have HK2 := Lib.hid (HK3.out.trans hk4)
              clear hB4 hk4
              go_wp2_with fail
              go_roundw
              case rel => first | exact HGo.out _ _ _ HD.out HB2.out HK2.out (fun h => by first | rfl | omega) | (have h9 := HGo.out off _ _ HD.out HB2.out HK2.out (fun h => by omega); rw [show t.length + 1 - 1 = 0 by omega, Nat.sub_self] at h9; exact h9)
              case measure => first | (simp [restLen]; done) | (simp [restLen]; omega)
        · have h128 := F2.out hn1
          have gn : ((n : Int) == 1) = false := beq_eq_false_iff_ne.2 (by omega)
          have hdd := HB.out
          have HD : Hid (tk = qB r) := Lib.hid (by
            unfold qB
            rw [if_neg h10, if_neg h13, if_neg h9, if_neg (fun h => by have := isQ_lt h; omega), F3.out])
          clear HC h10 h13 h9
          by_cases hcn : cap = n
          · subst hcn
            go_wp2_with fail
            refine HG.out.mono ?_
            rintro e w2 ⟨rfl, rfl⟩
            go_wp2_with fail
            refine (HS.out _).mono ?_
            rintro e w2 ⟨rfl, rfl⟩
            go_wp2_with fail
            refine (write_any (w.heap.size + 2) w.heap.size _ (w.heap.size + 1) off _ _ tk _ hdd htl.symm (by rw [Lib.byteCells_length]; omega) hsw (by omega) htc.out).mono ?_
            rintro e w3 ⟨rfl, hB3, hk3⟩
            have HB2 : Hid (Bld (w.heap.size + 2) w.heap.size (Lib.byteCells (done ++ tk)) w3) := Lib.hid (by rw [byteCells_app]; exact hB3)
            have HK2 := Lib.hid hk3
            clear hB3 hk3
            go_wp2_with fail
            go_roundw
            case rel => first | exact HGo.out _ _ _ HD.out HB2.out HK2.out (fun h => by first | rfl | omega) | (have h9 := HGo.out off _ _ HD.out HB2.out HK2.out (fun h => by omega); rw [show t.length + 1 - cap = 0 by omega, Nat.sub_self] at h9; exact h9)
            case measure => first | (simp [restLen]; done) | (simp [restLen]; omega)
          · have hnc : n < cap := by omega
            go_wp2_with fail
            refine HG.out.mono ?_
            rintro e w2 ⟨rfl, rfl⟩
            go_wp2_with fail
            refine (HS.out _).mono ?_
            rintro e w2 ⟨rfl, rfl⟩
            go_wp2_with fail
            refine (write_any (w.heap.size + 2) w.heap.size _ (w.heap.size + 1) off _ _ tk _ hdd htl.symm (by rw [Lib.byteCells_length]; omega) hsw (by omega) htc.out).mono ?_
            rintro e w3 ⟨rfl, hB3, hk3⟩
            have HB2 : Hid (Bld (w.heap.size + 2) w.heap.size (Lib.byteCells (done ++ tk)) w3) := Lib.hid (by rw [byteCells_app]; exact hB3)
            have HK2 := Lib.hid hk3
            clear hB3 hk3
            go_wp2_with fail
            go_roundw
            case rel => first | exact HGo.out _ _ _ HD.out HB2.out HK2.out (fun h => by first | rfl | omega) | (have h9 := HGo.out off _ _ HD.out HB2.out HK2.out (fun h => by omega); rw [show t.length + 1 - cap = 0 by omega, Nat.sub_self] at h9; exact h9)
            case measure => first | (simp [restLen]; done) | (simp [restLen]; omega)
      · have E2 : Hid (quoteL l = none) := Lib.hid (by rw [Hq.out, HQC.out, if_neg hs]; rfl)
        have gs : (sizP r != (n : Int)) = true := by simp only [bne_iff_ne, ne_eq]; exact hs
        clear hs HC HF HQC
        generalize sizP r = sz at *
        go_wp2_with fail
        refine HG.out.mono ?_
        rintro e w2 ⟨rfl, rfl⟩
        go_wp2_with fail
        refine (HS.out _).mono ?_
        rintro e w2 ⟨rfl, rfl⟩
        go_wp2_with fail
        go_ret
        exact ⟨by rw [E2.out]; rfl, HKW.out⟩
end Go.Proofs.YtpcbfmbpbegjgaaGreat
end
section
namespace Go.Proofs.YtpcbfmbpbegjgaaGreat
open Go.RowKit
set_option linter.unusedVariables false
set_option linter.unusedSimpArgs false
set_option maxRecDepth 100000

theorem isQ_mem (c : UInt8) : isQ (c.toNat : Int) = sgQ.contains c := by
  have key : ∀ c : Fin 256, isQ (c.val : Int) = sgQ.contains (UInt8.ofNat c.val) := of_decide_eq_true (by kernel_rfl)
  have := key ⟨c.toNat, c.toNat_lt⟩
  simpa using this
theorem putP_one {r : Nat} {d : UInt8} (h : putP r = [d]) : r = d.toNat := by
  unfold putP at h
  by_cases h1 : r < 128
  · rw [if_pos h1] at h
    have := (List.cons.inj h).1
    rw [← this, u8n (by omega)]
  · rw [if_neg h1] at h
    have h2 := congrArg List.length h
    split at h2
    · simp [lowB_len] at h2
    · split at h2 <;> simp [lowB_len] at h2
theorem qB_sg {r : Int} (hb : isB r = true) {d : UInt8} (h : putP r.toNat = [d]) (hd : d ∈ sgQ) : qB r = 92 :: [d] := by
  have h0 := isB_nat hb
  have h1 := putP_one h
  have hr : r = (d.toNat : Int) := by omega
  have hq : isQ r = true := by rw [hr, isQ_mem]; simpa using hd
  have h3 : r ≠ 10 ∧ r ≠ 13 ∧ r ≠ 9 := by
    refine ⟨?_, ?_, ?_⟩ <;> (rintro rfl; revert hq; decide +kernel)
  unfold qB
  rw [if_neg h3.1, if_neg h3.2.1, if_neg h3.2.2, if_pos hq, h1]
  simp
theorem qB_no {r : Int} (hb : isB r = true) (h : ∀ d ∈ sgQ, putP r.toNat ≠ [d]) : qB r = if putP r.toNat = [10] then [92, 110] else if putP r.toNat = [13] then [92, 114] else if putP r.toNat = [9] then [92, 116] else putP r.toNat := by
  have h0 := isB_nat hb
  have key : ∀ k : UInt8, k.toNat < 128 → (r = (k.toNat : Int) ↔ putP r.toNat = [k]) := by
    intro k hk
    constructor
    · intro e
      rw [e, Int.toNat_natCast]
      unfold putP
      rw [if_pos hk]; simp
    · intro e
      have := putP_one e
      omega
  have k1 := key 10 (by decide)
  have k2 := key 13 (by decide)
  have k3 := key 9 (by decide)
  have hq : ¬ isQ r = true := by
    intro hq
    have h1 := isQ_lt hq
    have e1 : (UInt8.ofNat r.toNat).toNat = r.toNat := u8n (by omega)
    have e2 : ((UInt8.ofNat r.toNat).toNat : Int) = r := by omega
    have hm : UInt8.ofNat r.toNat ∈ sgQ := by
      have := isQ_mem (UInt8.ofNat r.toNat)
      rw [e2, hq] at this
      simpa using this.symm
    exact h _ hm ((key _ (by omega)).1 e2.symm)
  unfold qB
  rw [if_neg hq]
  by_cases h1 : r = 10
  · rw [if_pos h1, if_pos (k1.1 h1)]
  rw [if_neg h1, if_neg (fun e => h1 (k1.2 e))]
  by_cases h2 : r = 13
  · rw [if_pos h2, if_pos (k2.1 h2)]
  rw [if_neg h2, if_neg (fun e => h2 (k2.2 e))]
  by_cases h3 : r = 9
  · rw [if_pos h3, if_pos (k3.1 h3)]
  rw [if_neg h3, if_neg (fun e => h3 (k3.2 e))]
theorem sg_at (i : Nat) (h : i < 15) : (⟨#[46, 94, 36, 124, 40, 41, 91, 93, 123, 125, 42, 43, 63, 92, 45]⟩ : ByteArray).extract i (i + 1) = ⟨[sgQ.getD i 0].toArray⟩ := by
  have key : ∀ k : Fin 15, ((⟨#[46, 94, 36, 124, 40, 41, 91, 93, 123, 125, 42, 43, 63, 92, 45]⟩ : ByteArray).extract k.val (k.val + 1)).data.toList = [sgQ.getD k.val 0] := of_decide_eq_true (by kernel_rfl)
  have h1 := key ⟨i, h⟩
  apply ByteArray.ext
  apply Array.ext'
  simpa using h1
def RQuR (l : List UInt8) (w : World) (sv ov : Value) (wr : World) : Prop :=
  ∃ rest done : List UInt8, sv = .string ⟨rest.toArray⟩ ∧ ov = .string ⟨done.toArray⟩ ∧ done.length + 2 * rest.length ≤ 2 * l.length ∧ Keeps (fun _ => False) w wr ∧ quoteL l = (quoteL rest).map (done ++ ·)
def SgR (tk : List UInt8) (w3 : World) (xv iv : Value) (wr : World) : Prop := ∃ i : Nat, xv = .string ⟨tk.toArray⟩ ∧ iv = .int .i64 i ∧ i ≤ 15 ∧ (∀ j, j < i → tk ≠ [sgQ.getD j 0]) ∧ w3 = wr
set_option maxHeartbeats 8000000 in
theorem rQuote_any (l : List UInt8) (w : World) (hl : l.length ≤ 200) :
    Calls Tryz.prog 6 #[.string ⟨l.toArray⟩] w fun e w' => e = .returned (strL ((quoteL l).getD [])) ∧ Keeps (fun _ => False) w w' := by
  go_enter Tryz.func6, Tryz.ntmps6
  go_wp2_with fail
  go_loopw [0, 3] (fun sv ov wr => RQuR l w sv ov wr) (fun sv _ _ => strLen sv)
  case atStart => exact ⟨l, [], rfl, rfl, by simp, Keeps.refl _ _, by simp⟩
  case round =>
    obtain ⟨rest, done, rfl, rfl, hlen, hkw, hp⟩ := hrel
    have K := Lib.hid hkw
    have Hp := Lib.hid hp
    clear hp hkw
    cases rest with
    | nil =>
      have E : Hid (quoteL l = some done) := Lib.hid (by rw [Hp.out]; simp [quoteL, pts, ptsP])
      go_wp2_with fail
      go_ret
      exact ⟨by rw [E.out]; rfl, K.out⟩
    | cons c t =>
      have hqc := quoteL_cons (c := c) (l := t)
      have hgn := getN_eq (c := c) (t := t) 4 1 (by omega) (by omega) (fun k k1 k2 _ => by omega)
      simp only [List.length_cons] at hlen
      have HG := Lib.hid (fun W => rGet_any c t W (by omega))
      by_cases hv : sizP (getP (c :: t)).1 = ((getP (c :: t)).2 : Int)
      · rw [if_pos hv] at hqc hgn
        rw [hgn] at HG
        obtain ⟨g1, g2, g3, g4, g5⟩ := put_get hv
        unfold getQ at g4
        simp only [Bool.and_eq_true, decide_eq_true_eq] at g4
        obtain ⟨V, hV⟩ : ∃ V, valP ((c :: t).take (getP (c :: t)).2) = V := ⟨_, rfl⟩
        rw [hV] at g4 g5
        obtain ⟨n, hn⟩ : ∃ n, (getP (c :: t)).2 = n := ⟨_, rfl⟩
        rw [← g5, hn] at HG
        rw [← g5, hn] at hqc
        rw [hn] at g1 g2 g3 g4
        have E2 : Hid (quoteL l = ((quoteL ((c :: t).drop n)).map (qB (V : Int) ++ ·)).map (done ++ ·)) := Lib.hid (by rw [Hp.out, hqc])
        have hE1 := extr_take (c :: t) n
        have hE2 := extr_drop (c :: t) n
        rw [← g4.2] at hE1
        have hdl : ((c :: t).drop n).length = t.length + 1 - n := by simp
        have hql := (qB_len (r := (V : Int))).2
        rw [Int.toNat_natCast, g4.2, List.length_take, List.length_cons, Nat.min_eq_left (by simpa using g3)] at hql
        have htkl : (putP V).length ≤ 4 := by rw [g4.2, List.length_take]; omega
        obtain ⟨rest', hrest⟩ : ∃ r, (c :: t).drop n = r := ⟨_, rfl⟩
        rw [hrest] at hE2 hdl E2
        have hr0 : V ≤ 1114111 := by have := g4.1; simp [isB] at this; omega
        have KP0 := Lib.hid (fun W => rPut_any V W g4.1)
        have HSG := Lib.hid (fun (d : UInt8) (h : putP V = [d]) (hd : d ∈ sgQ) => qB_sg (r := (V : Int)) g4.1 (by rw [Int.toNat_natCast]; exact h) hd)
        have HNO := Lib.hid (fun (h : ∀ d ∈ sgQ, putP V ≠ [d]) => qB_no (r := (V : Int)) g4.1 (by rw [Int.toNat_natCast]; exact h))
        rw [Int.toNat_natCast] at HNO
        generalize putP V = tk at *
        have hn3 : n ≤ t.length + 1 := by simpa using g3
        have hI1 : (0 : Int) ≤ (n : Int) := by omega
        have hI2 : (n : Int) ≤ (t.length : Int) + 1 := by omega
        have Hql := Lib.hid hql
        generalize qB (V : Int) = QB at *
        clear hqc hgn hv g4 g5 hV hn hrest g3 hql
        unfold strL at KP0
        go_wp2_with fail
        refine (HG.out _).mono ?_
        rintro e w2 ⟨rfl, k2⟩
        have K2 := Lib.hid k2
        clear k2
        go_wp2_with fail
        refine (KP0.out _).mono ?_
        rintro e w3 ⟨rfl, k3⟩
        have K3 : Hid (Keeps (fun _ => False) w w3) := Lib.hid ((K.out.trans K2.out).trans k3)
        clear k3
        have HGO : Hid (∀ X : List UInt8, X = QB → RQuR l w (.string ⟨rest'.toArray⟩) (.string ⟨(done ++ X).toArray⟩) w3) := Lib.hid (by
          rintro X rfl
          refine ⟨rest', done ++ X, rfl, rfl, by rw [List.length_append, hdl]; have := Hql.out; omega, K3.out, ?_⟩
          rw [E2.out, Option.map_map]; congr 1; funext q; simp)
        go_wp2_with fail
        go_loopw [6, 8] (fun xv iv wr => SgR tk w3 xv iv wr) (fun _ iv _ => 15 - (intOf iv).toNat)
        case atStart => exact ⟨0, rfl, rfl, by omega, fun j hj => by omega, rfl⟩
        case round =>
          obtain ⟨i, rfl, rfl, hi, hno, rfl⟩ := hrel
          have HNJ := Lib.hid hno
          clear hno
          by_cases hi15 : i < 15
          · have hsl := sg_at i hi15
            have hmem : sgQ.getD i 0 ∈ sgQ := by
              have e15 : sgQ.length = 15 := by decide
              rw [List.getD_eq_getElem?_getD, List.getElem?_eq_getElem (by omega)]
              exact List.getElem_mem _
            obtain ⟨d, hd0⟩ : ∃ d, sgQ.getD i 0 = d := ⟨_, rfl⟩
            rw [hd0] at hsl hmem
            have HM := Lib.hid hmem
            have HDF := Lib.hid hd0
            clear hmem hd0
            by_cases hd : tk = [d]
            · have hq := HSG.out _ hd HM.out
              subst hd
              have hap := str_app [92] [d]
              have hap2 := str_app done (92 :: [d])
              have t1 : (([92, d] : List UInt8) == [10]) = false := by simp
              have t2 : (([92, d] : List UInt8) == [13]) = false := by simp
              have t3 : (([92, d] : List UInt8) == [9]) = false := by simp
              go_wp2_with fail
              go_roundw
              case rel => 
                have h9 := HGO.out [92, d] hq.symm
                first | exact h9 | (rw [← hE2] at h9; exact h9) | skip
              case measure => simp [strLen, ByteArray.size]; omega
            · have hcmp : (([d] : List UInt8) == tk) = false := by simpa using fun e => hd e.symm
              have HD2 := Lib.hid hd
              clear hd
              go_wp2_with fail
              go_roundw
              case rel => exact ⟨i + 1, rfl, by go_num, by omega, fun j hj => by
                rcases Nat.lt_or_ge j i with h | h
                · exact HNJ.out j h
                · obtain rfl : j = i := by omega
                  first | exact HD2.out | (rw [HDF.out]; exact HD2.out), rfl⟩
              case measure => simp [intOf]; omega
          · obtain rfl : i = 15 := by omega
            have hall : ∀ d ∈ sgQ, tk ≠ [d] := by
              intro d hd e
              obtain ⟨j, hj, rfl⟩ := List.mem_iff_getElem.1 hd
              have e15 : sgQ.length = 15 := by decide
              have := HNJ.out j (by omega)
              rw [List.getD_eq_getElem?_getD, List.getElem?_eq_getElem hj] at this
              exact this e
            have hq := HNO.out hall
            clear hall HNJ
            by_cases h10 : tk = [10]
            · have HX : Hid (([92, 110] : List UInt8) = QB) := Lib.hid (by rw [hq, if_pos h10])
              clear hq
              have g10 : (tk == [10]) = true := by simpa using h10
              clear h10
              have hap2 := str_app done [92, 110]
              go_wp2_with fail
              go_roundw
              case rel =>
                have h9 := HGO.out [92, 110] HX.out
                first | exact h9 | (rw [← hE2] at h9; exact h9) | skip
              case measure => simp [strLen, ByteArray.size]; omega
            by_cases h13 : tk = [13]
            · have HX : Hid (([92, 114] : List UInt8) = QB) := Lib.hid (by rw [hq, if_neg h10, if_pos h13])
              clear hq
              have g13 : (tk == [13]) = true := by simpa using h13
              have g10 : (tk == [10]) = false := by simpa using h10
              clear h10
              clear h13
              have hap2 := str_app done [92, 114]
              go_wp2_with fail
              go_roundw
              case rel =>
                have h9 := HGO.out [92, 114] HX.out
                first | exact h9 | (rw [← hE2] at h9; exact h9) | skip
              case measure => simp [strLen, ByteArray.size]; omega
            by_cases h9 : tk = [9]
            · have HX : Hid (([92, 116] : List UInt8) = QB) := Lib.hid (by rw [hq, if_neg h10, if_neg h13, if_pos h9])
              clear hq
              have g9 : (tk == [9]) = true := by simpa using h9
              have g10 : (tk == [10]) = false := by simpa using h10
              have g13 : (tk == [13]) = false := by simpa using h13
              clear h10
              clear h13
              clear h9
              have hap2 := str_app done [92, 116]
              go_wp2_with fail
              go_roundw
              case rel =>
                have h9 := HGO.out [92, 116] HX.out
                first | exact h9 | (rw [← hE2] at h9; exact h9) | skip
              case measure => simp [strLen, ByteArray.size]; omega
            have HX : Hid (tk = QB) := Lib.hid (by rw [hq, if_neg h10, if_neg h13, if_neg h9])
          
            clear hq
            have g10 : (tk == [10]) = false := by simpa using h10
            have g13 : (tk == [13]) = false := by simpa using h13
            have g9 : (tk == [9]) = false := by simpa using h9
            clear h10
            clear h13
            clear h9
            have hap2 := str_app done tk
            go_wp2_with fail
            go_roundw
            case rel =>
              have h9 := HGO.out tk HX.out
              first | exact h9 | (rw [← hE2] at h9; exact h9) | skip
            case measure => simp [strLen, ByteArray.size]; omega
      · rw [if_neg hv] at hqc hgn
        rw [hgn] at HG
        have E2 : Hid (quoteL l = none) := Lib.hid (by rw [Hp.out, hqc]; rfl)
        have KP0 := Lib.hid (fun W => rPut_any 65533 W (by decide))
        rw [putP_wrong] at KP0
        have hE1 := extr_take (c :: t) 1
        simp only [List.take_succ_cons, List.take_zero] at hE1
        have hne : (([239, 191, 189] : List UInt8) == [c]) = false := by simp
        have hI2 : (1 : Int) ≤ (t.length : Int) + 1 := by omega
        have hI3 : (0 : Int) ≤ (t.length : Int) := by omega
        clear hqc hgn hv
        unfold strL at KP0
        go_wp2_with fail
        refine (HG.out _).mono ?_
        rintro e w2 ⟨rfl, k2⟩
        have K2 := Lib.hid k2
        clear k2
        go_wp2_with fail
        refine (KP0.out _).mono ?_
        rintro e w3 ⟨rfl, k3⟩
        have K3 : Hid (Keeps (fun _ => False) w w3) := Lib.hid ((K.out.trans K2.out).trans k3)
        clear k3
        go_wp2_with fail
        go_ret
        exact ⟨by rw [E2.out]; rfl, K3.out⟩
end Go.Proofs.YtpcbfmbpbegjgaaGreat
end
