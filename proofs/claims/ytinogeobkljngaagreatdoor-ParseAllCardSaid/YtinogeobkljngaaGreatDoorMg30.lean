/-
  Several texts in one: The document's code points: Is, Size, value, Put. The document's in, named. The document's escaped.
-/
import Derived.Test.YtinogeobkljngaaGreatDoorMg1
import Derived.Test.YtinogeobkljngaaGreatDoorMg18
import Derived.Test.YtinogeobkljngaaGreatDoorPaEscG
import Derived.Test.YtinogeobkljngaaGreatDoorRfMadeBG
section
namespace Go.Proofs.YtinogeobkljngaaGreatDoor
open Go.RowKit
set_option linter.unusedVariables false
set_option linter.unusedSimpArgs false
set_option maxRecDepth 100000

theorem rIs_any (r : Int) (w : World) : Calls Tryz.prog 37 #[.int .i64 r] w fun e w' => e = .returned (.bool (isB r)) ∧ w = w' := by
  by_cases h0 : 0 ≤ r
  · have g0 : decide (0 ≤ r) = true := by simpa using h0
    by_cases h1 : r ≤ 1114111
    · have g1 : decide (r ≤ 1114111) = true := by simpa using h1
      by_cases h2 : 55296 ≤ r
      · have g2 : decide (55296 ≤ r) = true := by simpa using h2
        by_cases h3 : r ≤ 57343
        · have g3 : decide (r ≤ 57343) = true := by simpa using h3
          rw [show isB r = false by simp [isB]; omega]
          go_enter Tryz.func37, Tryz.ntmps37
          go_wp2_with fail
          go_ret
          exact ⟨rfl, rfl⟩
        · have g3 : decide (r ≤ 57343) = false := by simpa using h3
          rw [show isB r = true by simp [isB]; omega]
          go_enter Tryz.func37, Tryz.ntmps37
          go_wp2_with fail
          go_ret
          exact ⟨rfl, rfl⟩
      · have g2 : decide (55296 ≤ r) = false := by simpa using h2
        rw [show isB r = true by simp [isB]; omega]
        go_enter Tryz.func37, Tryz.ntmps37
        go_wp2_with fail
        go_ret
        exact ⟨rfl, rfl⟩
    · have g1 : decide (r ≤ 1114111) = false := by simpa using h1
      rw [show isB r = false by simp [isB]; omega]
      go_enter Tryz.func37, Tryz.ntmps37
      go_wp2_with fail
      go_ret
      exact ⟨rfl, rfl⟩
  · have g0 : decide (0 ≤ r) = false := by simpa using h0
    rw [show isB r = false by simp [isB]; omega]
    go_enter Tryz.func37, Tryz.ntmps37
    go_wp2_with fail
    go_ret
    exact ⟨rfl, rfl⟩
theorem rSize_any (r : Int) (w : World) (hb : isB r = true) : Calls Tryz.prog 38 #[.int .i64 r] w fun e w' => e = .returned (.int .i64 (sizP r)) ∧ w = w' := by
  have HI := Lib.hid (fun W => rIs_any r W)
  have He : Hid (sizP r = if r < 128 then 1 else if r < 2048 then 2 else if r < 65536 then 3 else 4) := Lib.hid (by unfold sizP; rw [hb]; rfl)
  rw [hb] at HI
  clear hb
  generalize sizP r = q at He
  by_cases h1 : r < 128
  · have g1 : decide (r < 128) = true := by simpa using h1
    have E : Hid (q = 1) := Lib.hid (by rw [He.out, if_pos h1])
    clear He
    go_enter Tryz.func38, Tryz.ntmps38
    go_wp2_with fail
    refine (HI.out _).mono ?_
    rintro e w1 ⟨rfl, rfl⟩
    go_wp2_with fail
    go_ret
    exact ⟨by rw [E.out]; rfl, rfl⟩
  have g1 : decide (r < 128) = false := by simpa using h1
  by_cases h2 : r < 2048
  · have g2 : decide (r < 2048) = true := by simpa using h2
    have E : Hid (q = 2) := Lib.hid (by rw [He.out, if_neg h1, if_pos h2])
    clear He
    go_enter Tryz.func38, Tryz.ntmps38
    go_wp2_with fail
    refine (HI.out _).mono ?_
    rintro e w1 ⟨rfl, rfl⟩
    go_wp2_with fail
    go_ret
    exact ⟨by rw [E.out]; rfl, rfl⟩
  have g2 : decide (r < 2048) = false := by simpa using h2
  by_cases h3 : r < 65536
  · have g3 : decide (r < 65536) = true := by simpa using h3
    have E : Hid (q = 3) := Lib.hid (by rw [He.out, if_neg h1, if_neg h2, if_pos h3])
    clear He
    go_enter Tryz.func38, Tryz.ntmps38
    go_wp2_with fail
    refine (HI.out _).mono ?_
    rintro e w1 ⟨rfl, rfl⟩
    go_wp2_with fail
    go_ret
    exact ⟨by rw [E.out]; rfl, rfl⟩
  have g3 : decide (r < 65536) = false := by simpa using h3
  have E : Hid (q = 4) := Lib.hid (by rw [He.out, if_neg h1, if_neg h2, if_neg h3])
  clear He
  go_enter Tryz.func38, Tryz.ntmps38
  go_wp2_with fail
  refine (HI.out _).mono ?_
  rintro e w1 ⟨rfl, rfl⟩
  go_wp2_with fail
  go_ret
  exact ⟨by rw [E.out]; rfl, rfl⟩

/-! ### What octets would say -/
def valH (c : Nat) : Nat := if 240 ≤ c then c - 240 else if 224 ≤ c then c - 224 else if 192 ≤ c then c - 192 else c
def valP : List UInt8 → Nat
  | [] => 0
  | c :: l => l.foldl (fun r b => r * 64 + (b.toNat + 128) % 256) (valH c.toNat)
theorem valP_snoc (l : List UInt8) (b : UInt8) (h : l ≠ []) : valP (l ++ [b]) = valP l * 64 + (b.toNat + 128) % 256 := by
  cases l with
  | nil => exact absurd rfl h
  | cons c l => simp [valP]
theorem take_snocB {l : List UInt8} {i : Nat} {b : UInt8} (h : l[i]? = some b) : l.take (i + 1) = l.take i ++ [b] := by rw [List.take_add_one, h]; rfl
def bndV (i : Nat) : Nat := 300 * 65 ^ (i - 1)
theorem bndV_le {i : Nat} (h1 : 1 ≤ i) (h4 : i ≤ 4) : bndV i ≤ 82387500 ∧ 300 ≤ bndV i ∧ bndV (i + 1) = 65 * bndV i := by
  rcases (by omega : i = 1 ∨ i = 2 ∨ i = 3 ∨ i = 4) with rfl | rfl | rfl | rfl <;> simp [bndV]
def ValR (l : List UInt8) (rv iv : Value) : Prop := ∃ (i r : Nat), iv = .int .i64 i ∧ rv = .int .i64 r ∧ 1 ≤ i ∧ i ≤ l.length ∧ r = valP (l.take i) ∧ r ≤ bndV i
theorem idxB {l : List UInt8} {i : Nat} {c : UInt8} (hc : l[i]? = some c) : ∀ (h : i < (⟨l.toArray⟩ : ByteArray).size), (⟨l.toArray⟩ : ByteArray)[i]'h = c := fun h => by
  have := (List.getElem?_eq_some_iff.1 hc).2
  simpa [ByteArray.getElem_eq_getElem_data] using this
set_option maxHeartbeats 4000000 in
theorem value_any (c : UInt8) (t : List UInt8) (w : World) (hl : t.length ≤ 3) : Calls Tryz.prog 36 #[.string ⟨(c :: t).toArray⟩] w fun e w' => e = .returned (.int .i64 (valP (c :: t))) ∧ w = w' := by
  obtain ⟨l, hle⟩ : ∃ l, c :: t = l := ⟨_, rfl⟩
  rw [hle]
  have hlen : l.length ≤ 4 ∧ 1 ≤ l.length := by rw [← hle]; simp; omega
  have hc : l[0]? = some c := by rw [← hle]; rfl
  have hx := idxB hc
  have h256 := c.toNat_lt
  have HV1 : Hid (valP (l.take 1) = valH c.toNat) := Lib.hid (by rw [← hle]; rfl)
  have HR : Hid (valP (l.take l.length) = valP l) := Lib.hid (by rw [List.take_length])
  generalize valP l = R at *
  clear hle hc hl
  have hst : ∃ r, valH c.toNat = r ∧ r ≤ 255 := ⟨_, rfl, by unfold valH; split <;> (try split) <;> (try split) <;> omega⟩
  obtain ⟨r0, hr0, hr1⟩ := hst
  have HV0 : Hid (r0 = valP (l.take 1)) := Lib.hid (by rw [HV1.out, hr0])
  have key : ∀ q : Nat, q = r0 → ValR l (.int .i64 q) (.int .i64 1) := fun q hq => ⟨1, q, rfl, rfl, by omega, by omega, by rw [hq]; exact HV0.out, by simp [bndV]; omega⟩
  have KEY := Lib.hid key
  clear key HV1 HV0
  rcases (by omega : 240 ≤ c.toNat ∨ (¬ 240 ≤ c.toNat ∧ 224 ≤ c.toNat) ∨ (¬ 240 ≤ c.toNat ∧ ¬ 224 ≤ c.toNat ∧ 192 ≤ c.toNat) ∨ (¬ 240 ≤ c.toNat ∧ ¬ 224 ≤ c.toNat ∧ ¬ 192 ≤ c.toNat)) with h1 | ⟨h1, h2⟩ | ⟨h1, h2, h3⟩ | ⟨h1, h2, h3⟩
  · have e : r0 = c.toNat - 240 := by rw [← hr0]; unfold valH; rw [if_pos h1]
    have g1 : decide ((240 : Int) ≤ ((c.toNat : Nat) : Int)) = true := by simp; omega
    have g1n : decide (240 ≤ c.toNat) = true := by simpa using h1
    have HS : Hid (ValR l (.int .i64 ((c.toNat : Int) - 240)) (.int .i64 1)) := Lib.hid (by
      have := KEY.out (c.toNat - 240) e.symm
      rwa [show ((c.toNat - 240 : Nat) : Int) = (c.toNat : Int) - 240 by omega] at this)
    clear hr0 e KEY
    go_enter Tryz.func36, Tryz.ntmps36
    go_wp2_with fail
    go_loopw [4, 5] (fun rv iv wr => ValR l rv iv ∧ w = wr) (fun _ iv _ => l.length + 1 - (intOf iv).toNat)
    case atStart => exact ⟨HS.out, rfl⟩
    case round =>
      obtain ⟨⟨i, r, rfl, rfl, hi1, hi2, hv, hb⟩, rfl⟩ := hrel
      have HVV := Lib.hid hv
      have hbb := bndV_le hi1 (by omega)
      clear hv hx HS
      by_cases hil : i < l.length
      · obtain ⟨b, hb2⟩ : ∃ b, l[i]? = some b := ⟨_, List.getElem?_eq_getElem hil⟩
        have hy := idxB hb2
        have HN : Hid (valP (l.take (i + 1)) = r * 64 + (b.toNat + 128) % 256) := Lib.hid (by
          rw [take_snocB hb2, valP_snoc _ _ (by intro h; have := congrArg List.length h; rw [List.length_take, List.length_nil] at this; omega), HVV.out])
        have h256 := b.toNat_lt
        have t1 : ((b.toNat : Int) + 128).tmod 256 = ((b.toNat : Int) + 128) % 256 := Int.tmod_eq_emod_of_nonneg (by omega)
        clear hb2
        go_wp2_with fail
        go_roundw
        case rel => exact ⟨⟨i + 1, r * 64 + (b.toNat + 128) % 256, by go_num, by congr 1, by omega, by omega, HN.out.symm, by rw [hbb.2.2]; omega⟩, by trivial⟩
        case measure => simp [intOf]; omega
      · have he : i = l.length := by omega
        subst he
        go_wp2_with fail
        go_ret
        exact ⟨by rw [← HR.out, ← HVV.out]; rfl, rfl⟩
  · have e : r0 = c.toNat - 224 := by rw [← hr0]; unfold valH; rw [if_neg h1, if_pos h2]
    have g1 : decide ((240 : Int) ≤ ((c.toNat : Nat) : Int)) = false := by simp; omega
    have g1n : decide (240 ≤ c.toNat) = false := by simpa using h1
    have g2 : decide ((224 : Int) ≤ ((c.toNat : Nat) : Int)) = true := by simp; omega
    have g2n : decide (224 ≤ c.toNat) = true := by simpa using h2
    have HS : Hid (ValR l (.int .i64 ((c.toNat : Int) - 224)) (.int .i64 1)) := Lib.hid (by
      have := KEY.out (c.toNat - 224) e.symm
      rwa [show ((c.toNat - 224 : Nat) : Int) = (c.toNat : Int) - 224 by omega] at this)
    clear hr0 e KEY
    go_enter Tryz.func36, Tryz.ntmps36
    go_wp2_with fail
    go_loopw [4, 5] (fun rv iv wr => ValR l rv iv ∧ w = wr) (fun _ iv _ => l.length + 1 - (intOf iv).toNat)
    case atStart => exact ⟨HS.out, rfl⟩
    case round =>
      obtain ⟨⟨i, r, rfl, rfl, hi1, hi2, hv, hb⟩, rfl⟩ := hrel
      have HVV := Lib.hid hv
      have hbb := bndV_le hi1 (by omega)
      clear hv hx HS
      by_cases hil : i < l.length
      · obtain ⟨b, hb2⟩ : ∃ b, l[i]? = some b := ⟨_, List.getElem?_eq_getElem hil⟩
        have hy := idxB hb2
        have HN : Hid (valP (l.take (i + 1)) = r * 64 + (b.toNat + 128) % 256) := Lib.hid (by
          rw [take_snocB hb2, valP_snoc _ _ (by intro h; have := congrArg List.length h; rw [List.length_take, List.length_nil] at this; omega), HVV.out])
        have h256 := b.toNat_lt
        have t1 : ((b.toNat : Int) + 128).tmod 256 = ((b.toNat : Int) + 128) % 256 := Int.tmod_eq_emod_of_nonneg (by omega)
        clear hb2
        go_wp2_with fail
        go_roundw
        case rel => exact ⟨⟨i + 1, r * 64 + (b.toNat + 128) % 256, by go_num, by congr 1, by omega, by omega, HN.out.symm, by rw [hbb.2.2]; omega⟩, by trivial⟩
        case measure => simp [intOf]; omega
      · have he : i = l.length := by omega
        subst he
        go_wp2_with fail
        go_ret
        exact ⟨by rw [← HR.out, ← HVV.out]; rfl, rfl⟩
  · have e : r0 = c.toNat - 192 := by rw [← hr0]; unfold valH; rw [if_neg h1, if_neg h2, if_pos h3]
    have g1 : decide ((240 : Int) ≤ ((c.toNat : Nat) : Int)) = false := by simp; omega
    have g1n : decide (240 ≤ c.toNat) = false := by simpa using h1
    have g2 : decide ((224 : Int) ≤ ((c.toNat : Nat) : Int)) = false := by simp; omega
    have g2n : decide (224 ≤ c.toNat) = false := by simpa using h2
    have g3 : decide ((192 : Int) ≤ ((c.toNat : Nat) : Int)) = true := by simp; omega
    have g3n : decide (192 ≤ c.toNat) = true := by simpa using h3
    have HS : Hid (ValR l (.int .i64 ((c.toNat : Int) - 192)) (.int .i64 1)) := Lib.hid (by
      have := KEY.out (c.toNat - 192) e.symm
      rwa [show ((c.toNat - 192 : Nat) : Int) = (c.toNat : Int) - 192 by omega] at this)
    clear hr0 e KEY
    go_enter Tryz.func36, Tryz.ntmps36
    go_wp2_with fail
    go_loopw [4, 5] (fun rv iv wr => ValR l rv iv ∧ w = wr) (fun _ iv _ => l.length + 1 - (intOf iv).toNat)
    case atStart => exact ⟨HS.out, rfl⟩
    case round =>
      obtain ⟨⟨i, r, rfl, rfl, hi1, hi2, hv, hb⟩, rfl⟩ := hrel
      have HVV := Lib.hid hv
      have hbb := bndV_le hi1 (by omega)
      clear hv hx HS
      by_cases hil : i < l.length
      · obtain ⟨b, hb2⟩ : ∃ b, l[i]? = some b := ⟨_, List.getElem?_eq_getElem hil⟩
        have hy := idxB hb2
        have HN : Hid (valP (l.take (i + 1)) = r * 64 + (b.toNat + 128) % 256) := Lib.hid (by
          rw [take_snocB hb2, valP_snoc _ _ (by intro h; have := congrArg List.length h; rw [List.length_take, List.length_nil] at this; omega), HVV.out])
        have h256 := b.toNat_lt
        have t1 : ((b.toNat : Int) + 128).tmod 256 = ((b.toNat : Int) + 128) % 256 := Int.tmod_eq_emod_of_nonneg (by omega)
        clear hb2
        go_wp2_with fail
        go_roundw
        case rel => exact ⟨⟨i + 1, r * 64 + (b.toNat + 128) % 256, by go_num, by congr 1, by omega, by omega, HN.out.symm, by rw [hbb.2.2]; omega⟩, by trivial⟩
        case measure => simp [intOf]; omega
      · have he : i = l.length := by omega
        subst he
        go_wp2_with fail
        go_ret
        exact ⟨by rw [← HR.out, ← HVV.out]; rfl, rfl⟩
  · have e : r0 = c.toNat := by rw [← hr0]; unfold valH; rw [if_neg h1, if_neg h2, if_neg h3]
    have g1 : decide ((240 : Int) ≤ ((c.toNat : Nat) : Int)) = false := by simp; omega
    have g1n : decide (240 ≤ c.toNat) = false := by simpa using h1
    have g2 : decide ((224 : Int) ≤ ((c.toNat : Nat) : Int)) = false := by simp; omega
    have g2n : decide (224 ≤ c.toNat) = false := by simpa using h2
    have g3 : decide ((192 : Int) ≤ ((c.toNat : Nat) : Int)) = false := by simp; omega
    have g3n : decide (192 ≤ c.toNat) = false := by simpa using h3
    have HS : Hid (ValR l (.int .i64 (c.toNat : Int)) (.int .i64 1)) := Lib.hid (KEY.out _ e.symm)
    clear hr0 e KEY
    go_enter Tryz.func36, Tryz.ntmps36
    go_wp2_with fail
    go_loopw [4, 5] (fun rv iv wr => ValR l rv iv ∧ w = wr) (fun _ iv _ => l.length + 1 - (intOf iv).toNat)
    case atStart => exact ⟨HS.out, rfl⟩
    case round =>
      obtain ⟨⟨i, r, rfl, rfl, hi1, hi2, hv, hb⟩, rfl⟩ := hrel
      have HVV := Lib.hid hv
      have hbb := bndV_le hi1 (by omega)
      clear hv hx HS
      by_cases hil : i < l.length
      · obtain ⟨b, hb2⟩ : ∃ b, l[i]? = some b := ⟨_, List.getElem?_eq_getElem hil⟩
        have hy := idxB hb2
        have HN : Hid (valP (l.take (i + 1)) = r * 64 + (b.toNat + 128) % 256) := Lib.hid (by
          rw [take_snocB hb2, valP_snoc _ _ (by intro h; have := congrArg List.length h; rw [List.length_take, List.length_nil] at this; omega), HVV.out])
        have h256 := b.toNat_lt
        have t1 : ((b.toNat : Int) + 128).tmod 256 = ((b.toNat : Int) + 128) % 256 := Int.tmod_eq_emod_of_nonneg (by omega)
        clear hb2
        go_wp2_with fail
        go_roundw
        case rel => exact ⟨⟨i + 1, r * 64 + (b.toNat + 128) % 256, by go_num, by congr 1, by omega, by omega, HN.out.symm, by rw [hbb.2.2]; omega⟩, by trivial⟩
        case measure => simp [intOf]; omega
      · have he : i = l.length := by omega
        subst he
        go_wp2_with fail
        go_ret
        exact ⟨by rw [← HR.out, ← HVV.out]; rfl, rfl⟩
end Go.Proofs.YtinogeobkljngaaGreatDoor
end
section
namespace Go.Proofs.YtinogeobkljngaaGreatDoor
open Go.RowKit
set_option linter.unusedVariables false
set_option linter.unusedSimpArgs false
set_option maxRecDepth 100000

def inP (l : List UInt8) (r : Int) : Bool := l.any fun c => decide ((c.toNat : Int) = r)
set_option maxHeartbeats 4000000 in
theorem in_any (l : List UInt8) (r : Int) (w : World) (hl : l.length ≤ 1000) : Calls Tryz.prog 42 #[.string ⟨l.toArray⟩, .int .i64 r] w fun e w' => e = .returned (.bool (inP l r)) ∧ w = w' := by
  have HR : Hid (inP l r = (l.drop 0).any fun c => decide ((c.toNat : Int) = r)) := Lib.hid rfl
  generalize inP l r = R at *
  go_enter Tryz.func42, Tryz.ntmps42
  go_wp2_with fail
  go_loopw [5] (fun iv wr => ∃ i : Nat, iv = .int .i64 i ∧ i ≤ l.length ∧ R = ((l.drop i).any fun c => decide ((c.toNat : Int) = r)) ∧ w = wr) (fun iv _ => l.length + 1 - (intOf iv).toNat)
  case atStart => exact ⟨0, rfl, Nat.zero_le _, HR.out, rfl⟩
  case round =>
    obtain ⟨i, rfl, hi, hR, rfl⟩ := hrel
    by_cases hil : i < l.length
    · obtain ⟨c, hc⟩ : ∃ c, l[i]? = some c := ⟨_, List.getElem?_eq_getElem hil⟩
      have hx := idxB hc
      have hd : l.drop i = c :: l.drop (i + 1) := by
        rw [List.drop_eq_getElem_cons hil]
        rw [List.getElem?_eq_getElem hil] at hc
        rw [Option.some.inj hc]
      rw [hd, List.any_cons] at hR
      have HRR := Lib.hid hR
      have h256 := c.toNat_lt
      clear hc hd hR
      by_cases he : (c.toNat : Int) = r
      · have g1 : (((c.toNat : Nat) : Int) == r) = true := by simpa using he
        go_wp2_with fail
        go_ret
        exact ⟨by rw [HRR.out]; simp [he], rfl⟩
      · have g1 : (((c.toNat : Nat) : Int) == r) = false := beq_eq_false_iff_ne.2 he
        have HN : Hid (R = ((l.drop (i + 1)).any fun c => decide ((c.toNat : Int) = r))) := Lib.hid (by rw [HRR.out, show decide ((c.toNat : Int) = r) = false by simpa using he, Bool.false_or])
        clear he HRR
        go_wp2_with fail
        go_roundw
        case rel => exact ⟨i + 1, by go_num, by omega, HN.out, by trivial⟩
        case measure => simp [intOf]; omega
    · rw [List.drop_eq_nil_of_le (by omega)] at hR
      have HRR := Lib.hid hR
      clear hR
      go_wp2_with fail
      go_ret
      exact ⟨by rw [HRR.out]; rfl, rfl⟩
/-! ### What the alphabets say -/
theorem inP_amg (al : List UInt8) (hal : al = sgL ++ [45] ∨ al = npL) (r : Int) : inP al r = (if al = npL then amg npL r else amg sgL r || decide (r = 45)) := by
  have hout : ∀ al : List UInt8, (∀ c ∈ al, c.toNat < 128) → ¬ (0 ≤ r ∧ r < 128) → inP al r = false := by
    intro al h hr
    unfold inP
    rw [List.any_eq_false]
    intro c hc
    have := h c hc
    simp only [decide_eq_true_eq]; omega
  have k1 : ∀ c : Fin 128, inP (sgL ++ [45]) (c.val : Int) = (amg sgL (c.val : Int) || decide ((c.val : Int) = 45)) := of_decide_eq_true (by kernel_rfl)
  have k2 : ∀ c : Fin 128, inP npL (c.val : Int) = amg npL (c.val : Int) := of_decide_eq_true (by kernel_rfl)
  rcases hal with rfl | rfl
  · rw [if_neg (by decide)]
    by_cases h : 0 ≤ r ∧ r < 128
    · have := k1 ⟨r.toNat, by omega⟩
      simpa [Int.toNat_of_nonneg h.1] using this
    · rw [hout _ (by decide) h, amg_out _ _ h]
      symm; simp; omega
  · rw [if_pos rfl]
    by_cases h : 0 ≤ r ∧ r < 128
    · have := k2 ⟨r.toNat, by omega⟩
      simpa [Int.toNat_of_nonneg h.1] using this
    · rw [hout _ (by decide) h, amg_out _ _ h]
theorem inP_dws (r : Int) : inP [100, 119, 115] r = decide (r = 100 ∨ r = 119 ∨ r = 115) := by
  apply Bool.eq_iff_iff.2
  simp [inP]
  omega
theorem inP_DWS (r : Int) : inP [68, 87, 83] r = decide (r = 68 ∨ r = 87 ∨ r = 83) := by
  apply Bool.eq_iff_iff.2
  simp [inP]
  omega
set_option maxHeartbeats 4000000 in
theorem rnamed_any (r : Int) (w : World) (h : r = 100 ∨ r = 119 ∨ r = 115) :
    Calls Tryz.prog 43 #[.int .i64 r] w fun e w' => ∃ u, e = .returned u ∧ ROwn w w' u (namedL r) := by
  rcases h with rfl | rfl | rfl
  · go_enter Tryz.func43, Tryz.ntmps43
    go_wp2_with fail
    go_ret
    exact ⟨_, rfl, ⟨rfl, Or.inr ⟨w.heap.size, 1, _, rfl, Nat.le_refl _, heap_alloc_new w _, Nat.le_refl _, by unfold maxLen; decide, rfl, rfl⟩⟩, (Keeps.refl _ _).alloc _⟩
  · go_enter Tryz.func43, Tryz.ntmps43
    go_wp2_with fail
    go_ret
    exact ⟨_, rfl, ⟨rfl, Or.inr ⟨w.heap.size, 4, _, rfl, Nat.le_refl _, heap_alloc_new w _, Nat.le_refl _, by unfold maxLen; decide, rfl, rfl⟩⟩, (Keeps.refl _ _).alloc _⟩
  · go_enter Tryz.func43, Tryz.ntmps43
    go_wp2_with fail
    go_ret
    exact ⟨_, rfl, ⟨rfl, Or.inr ⟨w.heap.size, 2, _, rfl, Nat.le_refl _, heap_alloc_new w _, Nat.le_refl _, by unfold maxLen; decide, rfl, rfl⟩⟩, (Keeps.refl _ _).alloc _⟩
end Go.Proofs.YtinogeobkljngaaGreatDoor
end
section
namespace Go.Proofs.YtinogeobkljngaaGreatDoor
open Go.RowKit
set_option linter.unusedVariables false
set_option linter.unusedSimpArgs false
set_option maxRecDepth 100000

/-- What a set, its kind and its yes are. -/
def EscE (w : World) (p : Option (List (Int × Int) × Bool)) (e : Ending) (w' : World) : Prop :=
  match p with
  | none => e = .returned (.tuple #[.slice none 0 0, .bool false, .bool false]) ∧ Keeps (fun _ => False) w w'
  | some (s, is) => ∃ u, e = .returned (.tuple #[u, .bool is, .bool true]) ∧ ROwn w w' u s
theorem rown_one (w : World) (x : Int) : ROwn w (w.alloc (.cells #[.int .i64 x, .int .i64 x] 61)) (.slice (some ⟨w.heap.size, 0, none⟩) 1 1) [(x, x)] :=
  ⟨⟨rfl, Or.inr ⟨w.heap.size, 1, _, rfl, Nat.le_refl _, heap_alloc_new w _, Nat.le_refl _, by unfold maxLen; decide, rfl, rfl⟩⟩, (Keeps.refl _ _).alloc _⟩
theorem named_not (r : Int) (h : r = 68 ∨ r = 87 ∨ r = 83) : notL (namedL (r + 32)) = namedL r := by
  apply notL_of
  rcases h with rfl | rfl | rfl
  · refine ⟨by simp [namedL, Norm], fun x => ?_⟩
    rw [Bool.eq_iff_iff]
    simp [namedL, mem, has, inAll]
    omega
  · refine ⟨by simp [namedL, Norm], fun x => ?_⟩
    rw [Bool.eq_iff_iff]
    simp [namedL, mem, has, inAll]
    omega
  · refine ⟨by simp [namedL, Norm], fun x => ?_⟩
    rw [Bool.eq_iff_iff]
    simp [namedL, mem, has, inAll]
    omega
set_option maxHeartbeats 4000000 in
theorem rescaped_any (r : Int) (w : World) (hr : 0 ≤ r ∧ r ≤ 1114111) : Calls Tryz.prog 27 #[.int .i64 r] w fun e w' => EscE w (escP r) e w' := by
  have HI1 := Lib.hid (fun W => in_any [100, 119, 115] r W (by decide))
  by_cases h1 : r = 100 ∨ r = 119 ∨ r = 115
  · rw [show inP [100, 119, 115] r = true by rw [inP_dws]; simpa using h1] at HI1
    have HN := Lib.hid (fun W => rnamed_any r W h1)
    rw [show escP r = some (namedL r, false) by unfold escP; rw [if_pos (by unfold isNam; omega)]]
    unfold EscE
    dsimp only
    generalize namedL r = L at *
    go_enter Tryz.func27, Tryz.ntmps27
    go_wp2_with fail
    refine (HI1.out _).mono ?_
    rintro e w2 ⟨rfl, rfl⟩
    go_wp2_with fail
    refine (HN.out _).mono ?_
    rintro e w3 ⟨u, rfl, hu⟩
    have HU := Lib.hid hu
    obtain ⟨ua, uc, rfl⟩ := ownsRow_slice hu.1
    clear hu
    go_wp2_with fail
    go_ret3
    exact ⟨_, rfl, HU.out⟩
  · rw [show inP [100, 119, 115] r = false by rw [inP_dws]; simpa using h1] at HI1
    have HI2 := Lib.hid (fun W => in_any [68, 87, 83] r W (by decide))
    by_cases h2 : r = 68 ∨ r = 87 ∨ r = 83
    · rw [show inP [68, 87, 83] r = true by rw [inP_DWS]; simpa using h2] at HI2
      have HN := Lib.hid (fun W => rnamed_any (r + 32) W (by omega))
      have hl5 : (namedL (r + 32)).length ≤ 5 := by
        unfold namedL; repeat' split
        all_goals decide
      have HM := Lib.hid (fun v W hW => rmade_any (namedL (r + 32)) v true W hW (by omega))
      have hin : ∀ p ∈ namedL (r + 32), in64 p.1 ∧ in64 p.2 := by
        rcases h2 with rfl | rfl | rfl <;> (intro p hp; simp [namedL] at hp; unfold in64; (repeat' (rcases hp with rfl | hp)) <;> (try subst hp) <;> simp)
      have HIn := Lib.hid hin
      rw [if_pos rfl, named_not r h2] at HM
      rw [show escP r = some (namedL r, false) by unfold escP; rw [if_pos (by unfold isNam; omega)]]
      unfold EscE
      dsimp only
      clear hin
      generalize namedL (r + 32) = L1 at *
      generalize namedL r = L at *
      have hwr : wrap64 (r + 32) = r + 32 := by unfold wrap64; omega
      go_enter Tryz.func27, Tryz.ntmps27
      go_wp2_with fail
      refine (HI1.out _).mono ?_
      rintro e w2 ⟨rfl, rfl⟩
      go_wp2_with fail
      refine (HI2.out _).mono ?_
      rintro e w2 ⟨rfl, rfl⟩
      go_wp2_with fail
      refine (HN.out _).mono ?_
      rintro e w3 ⟨u, rfl, hu⟩
      have HU := Lib.hid hu
      have HRS : Hid (RSl w3 u L1) := Lib.hid ⟨SlOf.ofOwn hu.1 (by omega), HIn.out⟩
      obtain ⟨ua, uc, rfl⟩ := ownsRow_slice hu.1
      clear hu
      go_wp2_with fail
      refine (HM.out _ _ HRS.out).mono ?_
      rintro e w4 ⟨u4, rfl, hu4⟩
      have HU4 := Lib.hid hu4
      obtain ⟨va, vc, rfl⟩ := ownsRow_slice hu4.1
      clear hu4
      go_wp2_with fail
      go_ret3
      exact ⟨_, rfl, own_mono HU4.out.1 (HU.out.2.size), HU.out.2.trans HU4.out.2⟩
    · rw [show inP [68, 87, 83] r = false by rw [inP_DWS]; simpa using h2] at HI2
      have hnam : ¬ isNam r := by unfold isNam; omega
      have HX : Hid (escP r = if escBad r then none else some ([(escR r, escR r)], true)) := Lib.hid (by unfold escP; rw [if_neg hnam])
      generalize escP r = P at *
      by_cases h3 : r = 110
      · subst h3
        have E : Hid (P = some ([(10, 10)], true)) := Lib.hid (by rw [HX.out]; rfl)
        clear HX
        go_enter Tryz.func27, Tryz.ntmps27
        go_wp2_with fail
        refine (HI1.out _).mono ?_
        rintro e w2 ⟨rfl, rfl⟩
        go_wp2_with fail
        refine (HI2.out _).mono ?_
        rintro e w2 ⟨rfl, rfl⟩
        go_wp2_with fail
        go_ret3
        rw [E.out]
        exact ⟨_, rfl, rown_one w 10⟩
      have g3 : (r == 110) = false := beq_eq_false_iff_ne.2 h3
      by_cases h4 : r = 114
      · subst h4
        have E : Hid (P = some ([(13, 13)], true)) := Lib.hid (by rw [HX.out]; rfl)
        clear HX
        go_enter Tryz.func27, Tryz.ntmps27
        go_wp2_with fail
        refine (HI1.out _).mono ?_
        rintro e w2 ⟨rfl, rfl⟩
        go_wp2_with fail
        refine (HI2.out _).mono ?_
        rintro e w2 ⟨rfl, rfl⟩
        go_wp2_with fail
        go_ret3
        rw [E.out]
        exact ⟨_, rfl, rown_one w 13⟩
      have g4 : (r == 114) = false := beq_eq_false_iff_ne.2 h4
      by_cases h5 : r = 116
      · subst h5
        have E : Hid (P = some ([(9, 9)], true)) := Lib.hid (by rw [HX.out]; rfl)
        clear HX
        go_enter Tryz.func27, Tryz.ntmps27
        go_wp2_with fail
        refine (HI1.out _).mono ?_
        rintro e w2 ⟨rfl, rfl⟩
        go_wp2_with fail
        refine (HI2.out _).mono ?_
        rintro e w2 ⟨rfl, rfl⟩
        go_wp2_with fail
        go_ret3
        rw [E.out]
        exact ⟨_, rfl, rown_one w 9⟩
      have g5 : (r == 116) = false := beq_eq_false_iff_ne.2 h5
      have hsg : inP (sgL ++ [45]) r = !escBad r := by
        rw [inP_amg _ (Or.inl rfl), if_neg (by decide)]
        unfold escBad
        simp [h3, h4, h5]
      have HI3 := Lib.hid (fun W => in_any (sgL ++ [45]) r W (by decide))
      have heR : escR r = r := by unfold escR; rw [if_neg h3, if_neg h4, if_neg h5]
      rw [hsg] at HI3
      rw [heR] at HX
      clear hsg heR
      cases hb : escBad r
      · rw [hb] at HI3 HX
        have E : Hid (P = some ([(r, r)], true)) := Lib.hid HX.out
        clear HX
        go_enter Tryz.func27, Tryz.ntmps27
        go_wp2_with fail
        refine (HI1.out _).mono ?_
        rintro e w2 ⟨rfl, rfl⟩
        go_wp2_with fail
        refine (HI2.out _).mono ?_
        rintro e w2 ⟨rfl, rfl⟩
        go_wp2_with fail
        refine (HI3.out _).mono ?_
        rintro e w2 ⟨rfl, rfl⟩
        go_wp2_with fail
        go_ret3
        rw [E.out]
        exact ⟨_, rfl, rown_one w r⟩
      · rw [hb] at HI3 HX
        have E : Hid (P = none) := Lib.hid HX.out
        clear HX
        go_enter Tryz.func27, Tryz.ntmps27
        go_wp2_with fail
        refine (HI1.out _).mono ?_
        rintro e w2 ⟨rfl, rfl⟩
        go_wp2_with fail
        refine (HI2.out _).mono ?_
        rintro e w2 ⟨rfl, rfl⟩
        go_wp2_with fail
        refine (HI3.out _).mono ?_
        rintro e w2 ⟨rfl, rfl⟩
        go_wp2_with fail
        go_ret3
        rw [E.out]
        exact ⟨rfl, Keeps.refl _ _⟩
end Go.Proofs.YtinogeobkljngaaGreatDoor
end
