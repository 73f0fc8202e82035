/-
  Several texts in one: Texts as values; an octet made a text; how long digits are. The document's digits of a number. The document's code points: Is, Size, value, Put. The document's Put. code.Put: a code point's octets. Printed by mk_put.py. Where a text stands in another: the borders' way, in plain Lean. lit's borders. lit's find, Index, Count. lit's Index and Count.
-/
import Derived.Test.YtbifklibdkjbeaaGreatDoorMg3
import Derived.Test.YtbifklibdkjbeaaGreatDoorProg
import Derived.Lib.ItoaNum
import Derived.Lib.ConvBytes
import Derived.IntWalk
import Derived.Test.YtbifklibdkjbeaaGreatDoorMg4
import Derived.RegionTactic
import Derived.BigRegion
import Derived.Test.YtbifklibdkjbeaaGreatDoorMg1
import Derived.BigQuiet
import Derived.Deep.QuietTactic
import Derived.Handy
import Derived.Conc.PipeWords
namespace Go.Proofs.YtbifklibdkjbeaaGreatDoor
open Go.RowKit
set_option linter.unusedVariables false
set_option linter.unusedSimpArgs false
set_option maxRecDepth 100000
set_option maxHeartbeats 4000000
def strL (l : List UInt8) : Value := .string ⟨l.toArray⟩
theorem back1 (w : World) (c : UInt8) : (convert 26 9 (.slice (some ⟨w.heap.size, 0, none⟩) 1 1)).run Tryz.prog (w.alloc (.cells #[.int .u8 (c.toNat : Int)] 5)) = .ok (.string ⟨#[c]⟩) (w.alloc (.cells #[.int .u8 (c.toNat : Int)] 5)) := by
 have := run_convert_bytes_back (P := Tryz.prog) (w.alloc (.cells #[.int .u8 (c.toNat : Int)] 5)) 26 9 5 ⟨w.heap.size, 0, none⟩ 1 [c] Tryz.underlying26 Tryz.underlying5 Tryz.underlying9 (fun j hj => by
  obtain rfl : j = 0 := by simp at hj; omega
  exact xan w [.int .u8 (c.toNat : Int)] 5 0 _ rfl)
 exact this
theorem str_app (a b : List UInt8) : (⟨a.toArray⟩ : ByteArray) ++ ⟨b.toArray⟩ = ⟨(a ++ b).toArray⟩ := by
 apply ByteArray.ext
 simp [ByteArray.data_append]

theorem xf3 (r : Int) (w : World) : Calls Tryz.prog 182 #[.int .i64 r] w fun e w' => e = .returned (.bool (isB r)) ∧ w = w' := by
 by_cases h0 : 0 ≤ r
 · have g0 : decide (0 ≤ r) = true := by simpa using h0
   by_cases h1 : r ≤ 1114111
   · have g1 : decide (r ≤ 1114111) = true := by simpa using h1
     by_cases h2 : 55296 ≤ r
     · have g2 : decide (55296 ≤ r) = true := by simpa using h2
       by_cases h3 : r ≤ 57343
       · have g3 : decide (r ≤ 57343) = true := by simpa using h3
         rw [show isB r = false by simp [isB]; omega]
         go_enter Tryz.func182, Tryz.ntmps182
         go_wp2_with fail
         go_ret
         exact ⟨rfl, rfl⟩
       have g3 : decide (r ≤ 57343) = false := by simpa using h3
       rw [show isB r = true by simp [isB]; omega]
       go_enter Tryz.func182, Tryz.ntmps182
       go_wp2_with fail
       go_ret
       exact ⟨rfl, rfl⟩
     have g2 : decide (55296 ≤ r) = false := by simpa using h2
     rw [show isB r = true by simp [isB]; omega]
     go_enter Tryz.func182, Tryz.ntmps182
     go_wp2_with fail
     go_ret
     exact ⟨rfl, rfl⟩
   have g1 : decide (r ≤ 1114111) = false := by simpa using h1
   rw [show isB r = false by simp [isB]; omega]
   go_enter Tryz.func182, Tryz.ntmps182
   go_wp2_with fail
   go_ret
   exact ⟨rfl, rfl⟩
 have g0 : decide (0 ≤ r) = false := by simpa using h0
 rw [show isB r = false by simp [isB]; omega]
 go_enter Tryz.func182, Tryz.ntmps182
 go_wp2_with fail
 go_ret
 exact ⟨rfl, rfl⟩
theorem xk0 (r : Int) (w : World) (hb : isB r = true) : Calls Tryz.prog 183 #[.int .i64 r] w fun e w' => e = .returned (.int .i64 (sizP r)) ∧ w = w' := by
 have HI := xoo (fun W => xf3 r W)
 have He : Hid (sizP r = if r < 128 then 1 else if r < 2048 then 2 else if r < 65536 then 3 else 4) := xoo (by unfold sizP; rw [hb]; rfl)
 rw [hb] at HI
 clear hb
 generalize sizP r = q at He
 by_cases h1 : r < 128
 · have g1 : decide (r < 128) = true := by simpa using h1
   have E : Hid (q = 1) := xoo (by rw [He.out, if_pos h1])
   clear He
   go_enter Tryz.func183, Tryz.ntmps183
   go_wp2_with fail
   refine (HI.out _).mono ?_
   rintro e w1 ⟨rfl, rfl⟩
   go_wp2_with fail
   go_ret
   exact ⟨by rw [E.out]; rfl, rfl⟩
 have g1 : decide (r < 128) = false := by simpa using h1
 by_cases h2 : r < 2048
 · have g2 : decide (r < 2048) = true := by simpa using h2
   have E : Hid (q = 2) := xoo (by rw [He.out, if_neg h1, if_pos h2])
   clear He
   go_enter Tryz.func183, Tryz.ntmps183
   go_wp2_with fail
   refine (HI.out _).mono ?_
   rintro e w1 ⟨rfl, rfl⟩
   go_wp2_with fail
   go_ret
   exact ⟨by rw [E.out]; rfl, rfl⟩
 have g2 : decide (r < 2048) = false := by simpa using h2
 by_cases h3 : r < 65536
 · have g3 : decide (r < 65536) = true := by simpa using h3
   have E : Hid (q = 3) := xoo (by rw [He.out, if_neg h1, if_neg h2, if_pos h3])
   clear He
   go_enter Tryz.func183, Tryz.ntmps183
   go_wp2_with fail
   refine (HI.out _).mono ?_
   rintro e w1 ⟨rfl, rfl⟩
   go_wp2_with fail
   go_ret
   exact ⟨by rw [E.out]; rfl, rfl⟩
 have g3 : decide (r < 65536) = false := by simpa using h3
 have E : Hid (q = 4) := xoo (by rw [He.out, if_neg h1, if_neg h2, if_neg h3])
 clear He
 go_enter Tryz.func183, Tryz.ntmps183
 go_wp2_with fail
 refine (HI.out _).mono ?_
 rintro e w1 ⟨rfl, rfl⟩
 go_wp2_with fail
 go_ret
 exact ⟨by rw [E.out]; rfl, rfl⟩
def valH (c : Nat) : Nat := if 240 ≤ c then c - 240 else if 224 ≤ c then c - 224 else if 192 ≤ c then c - 192 else c
def valP : List UInt8 → Nat
 | [] => 0
 | c :: l => l.foldl (fun r b => r * 64 + (b.toNat + 128) % 256) (valH c.toNat)
theorem xdb (l : List UInt8) (b : UInt8) (h : l ≠ []) : valP (l ++ [b]) = valP l * 64 + (b.toNat + 128) % 256 := by
 cases l with
 | nil => exact absurd rfl h
 | cons c l => simp [valP]
theorem xcK {l : List UInt8} {i : Nat} {b : UInt8} (h : l[i]? = some b) : l.take (i + 1) = l.take i ++ [b] := by rw [List.take_add_one, h]; rfl
def bndV (i : Nat) : Nat := 300 * 65 ^ (i - 1)
theorem xgm {i : Nat} (h1 : 1 ≤ i) (h4 : i ≤ 4) : bndV i ≤ 82387500 ∧ 300 ≤ bndV i ∧ bndV (i + 1) = 65 * bndV i := by
 rcases (by omega : i = 1 ∨ i = 2 ∨ i = 3 ∨ i = 4) with rfl | rfl | rfl | rfl <;> simp [bndV]
def ValR (l : List UInt8) (rv iv : Value) : Prop := ∃ (i r : Nat), iv = .int .i64 i ∧ rv = .int .i64 r ∧ 1 ≤ i ∧ i ≤ l.length ∧ r = valP (l.take i) ∧ r ≤ bndV i
theorem idxB {l : List UInt8} {i : Nat} {c : UInt8} (hc : l[i]? = some c) : ∀ (h : i < (⟨l.toArray⟩ : ByteArray).size), (⟨l.toArray⟩ : ByteArray)[i]'h = c := fun h => by
 have := (List.getElem?_eq_some_iff.1 hc).2
 simpa [ByteArray.getElem_eq_getElem_data] using this
theorem xkw (c : UInt8) (t : List UInt8) (w : World) (hl : t.length ≤ 3) : Calls Tryz.prog 181 #[.string ⟨(c :: t).toArray⟩] w fun e w' => e = .returned (.int .i64 (valP (c :: t))) ∧ w = w' := by
 obtain ⟨l, hle⟩ : ∃ l, c :: t = l := ⟨_, rfl⟩
 rw [hle]
 have hlen : l.length ≤ 4 ∧ 1 ≤ l.length := by rw [← hle]; simp; omega
 have hc : l[0]? = some c := by rw [← hle]; rfl
 have hx := idxB hc
 have h256 := c.toNat_lt
 have HV1 : Hid (valP (l.take 1) = valH c.toNat) := xoo (by rw [← hle]; rfl)
 have HR : Hid (valP (l.take l.length) = valP l) := xoo (by rw [List.take_length])
 generalize valP l = R at *
 clear hle hc hl
 have hst : ∃ r, valH c.toNat = r ∧ r ≤ 255 := ⟨_, rfl, by unfold valH; split <;> (try split) <;> (try split) <;> omega⟩
 obtain ⟨r0, hr0, hr1⟩ := hst
 have HV0 : Hid (r0 = valP (l.take 1)) := xoo (by rw [HV1.out, hr0])
 have key : ∀ q : Nat, q = r0 → ValR l (.int .i64 q) (.int .i64 1) := fun q hq => ⟨1, q, rfl, rfl, by omega, by omega, by rw [hq]; exact HV0.out, by simp [bndV]; omega⟩
 have KEY := xoo key
 clear key HV1 HV0
 rcases (by omega : 240 ≤ c.toNat ∨ (¬ 240 ≤ c.toNat ∧ 224 ≤ c.toNat) ∨ (¬ 240 ≤ c.toNat ∧ ¬ 224 ≤ c.toNat ∧ 192 ≤ c.toNat) ∨ (¬ 240 ≤ c.toNat ∧ ¬ 224 ≤ c.toNat ∧ ¬ 192 ≤ c.toNat)) with h1 | ⟨h1, h2⟩ | ⟨h1, h2, h3⟩ | ⟨h1, h2, h3⟩
 · have e : r0 = c.toNat - 240 := by rw [← hr0]; unfold valH; rw [if_pos h1]
   have g1 : decide ((240 : Int) ≤ ((c.toNat : Nat) : Int)) = true := by simp; omega
   have g1n : decide (240 ≤ c.toNat) = true := by simpa using h1
   have HS : Hid (ValR l (.int .i64 ((c.toNat : Int) - 240)) (.int .i64 1)) := xoo (by
    have := KEY.out (c.toNat - 240) e.symm
    rwa [show ((c.toNat - 240 : Nat) : Int) = (c.toNat : Int) - 240 by omega] at this)
   clear hr0 e KEY
   go_enter Tryz.func181, Tryz.ntmps181
   go_wp2_with fail
   go_loopw [4, 5] (fun rv iv wr => ValR l rv iv ∧ w = wr) (fun _ iv _ => l.length + 1 - (intOf iv).toNat)
   case atStart => exact ⟨HS.out, rfl⟩
   case round =>
    obtain ⟨⟨i, r, rfl, rfl, hi1, hi2, hv, hb⟩, rfl⟩ := hrel
    have HVV := xoo hv
    have hbb := xgm hi1 (by omega)
    clear hv hx HS
    by_cases hil : i < l.length
    · obtain ⟨b, hb2⟩ : ∃ b, l[i]? = some b := ⟨_, List.getElem?_eq_getElem hil⟩
      have hy := idxB hb2
      have HN : Hid (valP (l.take (i + 1)) = r * 64 + (b.toNat + 128) % 256) := xoo (by
       rw [xcK hb2, xdb _ _ (by intro h; have := congrArg List.length h; rw [List.length_take, List.length_nil] at this; omega), HVV.out])
      have h256 := b.toNat_lt
      have t1 : ((b.toNat : Int) + 128).tmod 256 = ((b.toNat : Int) + 128) % 256 := Int.tmod_eq_emod_of_nonneg (by omega)
      clear hb2
      go_wp2_with fail
      go_roundw
      case rel => exact ⟨⟨i + 1, r * 64 + (b.toNat + 128) % 256, by go_num, by congr 1, by omega, by omega, HN.out.symm, by rw [hbb.2.2]; omega⟩, by trivial⟩
      case measure => simp [intOf]; omega
    have he : i = l.length := by omega
    subst he
    go_wp2_with fail
    go_ret
    exact ⟨by rw [← HR.out, ← HVV.out]; rfl, rfl⟩
 · have e : r0 = c.toNat - 224 := by rw [← hr0]; unfold valH; rw [if_neg h1, if_pos h2]
   have g1 : decide ((240 : Int) ≤ ((c.toNat : Nat) : Int)) = false := by simp; omega
   have g1n : decide (240 ≤ c.toNat) = false := by simpa using h1
   have g2 : decide ((224 : Int) ≤ ((c.toNat : Nat) : Int)) = true := by simp; omega
   have g2n : decide (224 ≤ c.toNat) = true := by simpa using h2
   have HS : Hid (ValR l (.int .i64 ((c.toNat : Int) - 224)) (.int .i64 1)) := xoo (by
    have := KEY.out (c.toNat - 224) e.symm
    rwa [show ((c.toNat - 224 : Nat) : Int) = (c.toNat : Int) - 224 by omega] at this)
   clear hr0 e KEY
   go_enter Tryz.func181, Tryz.ntmps181
   go_wp2_with fail
   go_loopw [4, 5] (fun rv iv wr => ValR l rv iv ∧ w = wr) (fun _ iv _ => l.length + 1 - (intOf iv).toNat)
   case atStart => exact ⟨HS.out, rfl⟩
   case round =>
    obtain ⟨⟨i, r, rfl, rfl, hi1, hi2, hv, hb⟩, rfl⟩ := hrel
    have HVV := xoo hv
    have hbb := xgm hi1 (by omega)
    clear hv hx HS
    by_cases hil : i < l.length
    · obtain ⟨b, hb2⟩ : ∃ b, l[i]? = some b := ⟨_, List.getElem?_eq_getElem hil⟩
      have hy := idxB hb2
      have HN : Hid (valP (l.take (i + 1)) = r * 64 + (b.toNat + 128) % 256) := xoo (by
       rw [xcK hb2, xdb _ _ (by intro h; have := congrArg List.length h; rw [List.length_take, List.length_nil] at this; omega), HVV.out])
      have h256 := b.toNat_lt
      have t1 : ((b.toNat : Int) + 128).tmod 256 = ((b.toNat : Int) + 128) % 256 := Int.tmod_eq_emod_of_nonneg (by omega)
      clear hb2
      go_wp2_with fail
      go_roundw
      case rel => exact ⟨⟨i + 1, r * 64 + (b.toNat + 128) % 256, by go_num, by congr 1, by omega, by omega, HN.out.symm, by rw [hbb.2.2]; omega⟩, by trivial⟩
      case measure => simp [intOf]; omega
    have he : i = l.length := by omega
    subst he
    go_wp2_with fail
    go_ret
    exact ⟨by rw [← HR.out, ← HVV.out]; rfl, rfl⟩
 · have e : r0 = c.toNat - 192 := by rw [← hr0]; unfold valH; rw [if_neg h1, if_neg h2, if_pos h3]
   have g1 : decide ((240 : Int) ≤ ((c.toNat : Nat) : Int)) = false := by simp; omega
   have g1n : decide (240 ≤ c.toNat) = false := by simpa using h1
   have g2 : decide ((224 : Int) ≤ ((c.toNat : Nat) : Int)) = false := by simp; omega
   have g2n : decide (224 ≤ c.toNat) = false := by simpa using h2
   have g3 : decide ((192 : Int) ≤ ((c.toNat : Nat) : Int)) = true := by simp; omega
   have g3n : decide (192 ≤ c.toNat) = true := by simpa using h3
   have HS : Hid (ValR l (.int .i64 ((c.toNat : Int) - 192)) (.int .i64 1)) := xoo (by
    have := KEY.out (c.toNat - 192) e.symm
    rwa [show ((c.toNat - 192 : Nat) : Int) = (c.toNat : Int) - 192 by omega] at this)
   clear hr0 e KEY
   go_enter Tryz.func181, Tryz.ntmps181
   go_wp2_with fail
   go_loopw [4, 5] (fun rv iv wr => ValR l rv iv ∧ w = wr) (fun _ iv _ => l.length + 1 - (intOf iv).toNat)
   case atStart => exact ⟨HS.out, rfl⟩
   case round =>
    obtain ⟨⟨i, r, rfl, rfl, hi1, hi2, hv, hb⟩, rfl⟩ := hrel
    have HVV := xoo hv
    have hbb := xgm hi1 (by omega)
    clear hv hx HS
    by_cases hil : i < l.length
    · obtain ⟨b, hb2⟩ : ∃ b, l[i]? = some b := ⟨_, List.getElem?_eq_getElem hil⟩
      have hy := idxB hb2
      have HN : Hid (valP (l.take (i + 1)) = r * 64 + (b.toNat + 128) % 256) := xoo (by
       rw [xcK hb2, xdb _ _ (by intro h; have := congrArg List.length h; rw [List.length_take, List.length_nil] at this; omega), HVV.out])
      have h256 := b.toNat_lt
      have t1 : ((b.toNat : Int) + 128).tmod 256 = ((b.toNat : Int) + 128) % 256 := Int.tmod_eq_emod_of_nonneg (by omega)
      clear hb2
      go_wp2_with fail
      go_roundw
      case rel => exact ⟨⟨i + 1, r * 64 + (b.toNat + 128) % 256, by go_num, by congr 1, by omega, by omega, HN.out.symm, by rw [hbb.2.2]; omega⟩, by trivial⟩
      case measure => simp [intOf]; omega
    have he : i = l.length := by omega
    subst he
    go_wp2_with fail
    go_ret
    exact ⟨by rw [← HR.out, ← HVV.out]; rfl, rfl⟩
 have e : r0 = c.toNat := by rw [← hr0]; unfold valH; rw [if_neg h1, if_neg h2, if_neg h3]
 have g1 : decide ((240 : Int) ≤ ((c.toNat : Nat) : Int)) = false := by simp; omega
 have g1n : decide (240 ≤ c.toNat) = false := by simpa using h1
 have g2 : decide ((224 : Int) ≤ ((c.toNat : Nat) : Int)) = false := by simp; omega
 have g2n : decide (224 ≤ c.toNat) = false := by simpa using h2
 have g3 : decide ((192 : Int) ≤ ((c.toNat : Nat) : Int)) = false := by simp; omega
 have g3n : decide (192 ≤ c.toNat) = false := by simpa using h3
 have HS : Hid (ValR l (.int .i64 (c.toNat : Int)) (.int .i64 1)) := xoo (KEY.out _ e.symm)
 clear hr0 e KEY
 go_enter Tryz.func181, Tryz.ntmps181
 go_wp2_with fail
 go_loopw [4, 5] (fun rv iv wr => ValR l rv iv ∧ w = wr) (fun _ iv _ => l.length + 1 - (intOf iv).toNat)
 case atStart => exact ⟨HS.out, rfl⟩
 case round =>
  obtain ⟨⟨i, r, rfl, rfl, hi1, hi2, hv, hb⟩, rfl⟩ := hrel
  have HVV := xoo hv
  have hbb := xgm hi1 (by omega)
  clear hv hx HS
  by_cases hil : i < l.length
  · obtain ⟨b, hb2⟩ : ∃ b, l[i]? = some b := ⟨_, List.getElem?_eq_getElem hil⟩
    have hy := idxB hb2
    have HN : Hid (valP (l.take (i + 1)) = r * 64 + (b.toNat + 128) % 256) := xoo (by
     rw [xcK hb2, xdb _ _ (by intro h; have := congrArg List.length h; rw [List.length_take, List.length_nil] at this; omega), HVV.out])
    have h256 := b.toNat_lt
    have t1 : ((b.toNat : Int) + 128).tmod 256 = ((b.toNat : Int) + 128) % 256 := Int.tmod_eq_emod_of_nonneg (by omega)
    clear hb2
    go_wp2_with fail
    go_roundw
    case rel => exact ⟨⟨i + 1, r * 64 + (b.toNat + 128) % 256, by go_num, by congr 1, by omega, by omega, HN.out.symm, by rw [hbb.2.2]; omega⟩, by trivial⟩
    case measure => simp [intOf]; omega
  have he : i = l.length := by omega
  subst he
  go_wp2_with fail
  go_ret
  exact ⟨by rw [← HR.out, ← HVV.out]; rfl, rfl⟩
def lowB (r : Nat) : Nat → List UInt8
 | 0 => []
 | i + 1 => UInt8.ofNat (128 + r / 64 ^ i % 64) :: lowB r i
theorem xdq (r i : Nat) : (lowB r i).length = i := by induction i with | zero => rfl | succ i ih => simp [lowB, ih]
def putP (r : Nat) : List UInt8 :=
 if r < 128 then [UInt8.ofNat r] else if r < 2048 then UInt8.ofNat (192 + r / 64) :: lowB r 1 else if r < 65536 then UInt8.ofNat (224 + r / 4096) :: lowB r 2 else UInt8.ofNat (240 + r / 262144) :: lowB r 3
def PutR (r : Nat) (k : Nat) (rv sv iv : Value) : Prop := ∃ i : Nat, iv = .int .i64 i ∧ 1 ≤ i ∧ i ≤ k ∧ rv = .int .i64 ((r / 64 ^ (i - 1) : Nat) : Int) ∧ sv = .string ⟨(lowB r (i - 1)).toArray⟩
theorem u8_of {n : Nat} (h : n < 256) : ((UInt8.ofNat n).toNat : Int) = (n : Int) := by rw [UInt8.toNat_ofNat_of_lt' (by show n < 256; exact h)]
theorem xf2 (r : Nat) (w : World) (hb : isB (r : Int) = true) : Calls Tryz.prog 147 #[.int .i64 r] w fun e w' => e = .returned (strL (putP r)) ∧ xa (fun _ => False) w w' := by
 have hr : r ≤ 1114111 := by simp [isB] at hb; omega
 have HI := xoo (fun W => xf3 (r : Int) W)
 have HSz := xoo (fun W => xk0 (r : Int) W hb)
 have hsz : sizP (r : Int) = if (r : Int) < 128 then 1 else if (r : Int) < 2048 then 2 else if (r : Int) < 65536 then 3 else 4 := by unfold sizP; rw [hb]; rfl
 rw [hb] at HI
 clear hb
 by_cases h1 : r < 128
 · rw [if_pos (by omega)] at hsz
   rw [hsz] at HSz
   have HD : Hid (putP r = [UInt8.ofNat r]) := xoo (by unfold putP; rw [if_pos h1])
   have hcv := back1 w (UInt8.ofNat r)
   rw [u8_of (by omega)] at hcv
   have u1 : IntKind.u8.wrap (r : Int) = (r : Int) := by rw [IntKind.wrap_u8]; omega
   clear hsz
   generalize UInt8.ofNat r = c at *
   generalize putP r = D at *
   go_enter Tryz.func147, Tryz.ntmps147
   go_wp2_with fail
   refine (HI.out _).mono ?_
   rintro e w1 ⟨rfl, rfl⟩
   go_wp2_with fail
   refine (HSz.out _).mono ?_
   rintro e w1 ⟨rfl, rfl⟩
   go_wp2_with fail
   go_ret
   exact ⟨by rw [HD.out]; rfl, KI.out⟩
 rw [if_neg (by omega)] at hsz
 obtain ⟨k, F, hk, hF, hput, hk2, hfb⟩ : ∃ k F : Nat, sizP (r : Int) = (k : Int) ∧ ((k = 2 ∧ F = 192) ∨ (k = 3 ∧ F = 224) ∨ (k = 4 ∧ F = 240)) ∧ putP r = UInt8.ofNat (F + r / 64 ^ (k - 1)) :: lowB r (k - 1) ∧ 2 ≤ k ∧ F + r / 64 ^ (k - 1) < 256 := by
  by_cases h2 : r < 2048
  · rw [if_pos (by omega)] at hsz
    exact ⟨2, 192, hsz, Or.inl ⟨rfl, rfl⟩, by unfold putP; rw [if_neg h1, if_pos h2], by omega, by simp; omega⟩
  rw [if_neg (by omega)] at hsz
  by_cases h3 : r < 65536
  · rw [if_pos (by omega)] at hsz
    exact ⟨3, 224, hsz, Or.inr (Or.inl ⟨rfl, rfl⟩), by unfold putP; rw [if_neg h1, if_neg h2, if_pos h3], by omega, by simp; omega⟩
  rw [if_neg (by omega)] at hsz
  exact ⟨4, 240, hsz, Or.inr (Or.inr ⟨rfl, rfl⟩), by unfold putP; rw [if_neg h1, if_neg h2, if_neg h3], by omega, by simp; omega⟩
 have hk4 : k ≤ 4 := by omega
 rw [hk] at HSz
 have gk1 : ((k : Int) == 1) = false := beq_eq_false_iff_ne.2 (by omega)
 have HPut := xoo hput
 have HFB := xoo hfb
 have HF := xoo hF
 clear hsz hk hput hfb hF
 go_enter Tryz.func147, Tryz.ntmps147
 go_wp2_with fail
 refine (HI.out _).mono ?_
 rintro e w1 ⟨rfl, rfl⟩
 go_wp2_with fail
 refine (HSz.out _).mono ?_
 rintro e w1 ⟨rfl, rfl⟩
 go_wp2_with fail
 go_loopw [0, 4, 5] (fun rv sv iv wr => PutR r k rv sv iv ∧ xa (fun _ => False) w wr) (fun _ _ iv _ => k + 1 - (intOf iv).toNat)
 case atStart => exact ⟨⟨1, rfl, by omega, by omega, by simp, rfl⟩, xa.refl _ _⟩
 case round =>
  obtain ⟨⟨i, rfl, hi1, hi2, rfl, rfl⟩, hkw⟩ := hrel
  have K := xoo hkw
  have hlb := xdq r (i - 1)
  clear hkw
  by_cases hik : i < k
  · have hcv := back1 wr (UInt8.ofNat (128 + r / 64 ^ (i - 1) % 64))
    have hmod : r / 64 ^ (i - 1) % 64 < 64 := Nat.mod_lt _ (by omega)
    rw [u8_of (by omega)] at hcv
    have e2 : r / 64 ^ (i - 1) / 64 = r / 64 ^ i := by
     rw [Nat.div_div_eq_div_mul]; congr 1
     obtain ⟨j, rfl⟩ : ∃ j, i = j + 1 := ⟨i - 1, by omega⟩
     rw [Nat.add_sub_cancel, Nat.pow_succ]
    have e3 : lowB r i = UInt8.ofNat (128 + r / 64 ^ (i - 1) % 64) :: lowB r (i - 1) := by
     obtain ⟨j, rfl⟩ : ∃ j, i = j + 1 := ⟨i - 1, by omega⟩
     rfl
    have hq : r / 64 ^ (i - 1) ≤ 1114111 := Nat.le_trans (Nat.div_le_self _ _) hr
    have E2 := xoo e2
    have E3 := xoo e3
    clear e2 e3
    generalize UInt8.ofNat (128 + r / 64 ^ (i - 1) % 64) = c at *
    generalize hQ : r / 64 ^ (i - 1) = Q at *
    generalize lowB r (i - 1) = LB at *
    push_cast at hcv
    obtain ⟨M, hM⟩ : ∃ M, (Q : Int) % 64 = M := ⟨_, rfl⟩
    obtain ⟨D, hD⟩ : ∃ D, Q / 64 = D := ⟨_, rfl⟩
    have hM1 : 0 ≤ M ∧ M ≤ 63 := by omega
    have t1 : (Q : Int).tmod 64 = M := by rw [Int.tmod_eq_emod_of_nonneg (by omega), hM]
    have t2 : (Q : Int).tdiv 64 = (D : Int) := by rw [Int.tdiv_eq_ediv_of_nonneg (by omega), ← hD]; omega
    rw [hM] at hcv
    rw [hD] at E2
    have hD1 : D ≤ 1114111 := by omega
    have e6 : wrap64 M = M := by unfold wrap64; omega
    have e7 : wrap64 (128 + M) = 128 + M := by unfold wrap64; omega
    have e8 : (128 + M) % 256 = 128 + M := by omega
    clear hM hD hmod
    clear hQ
    go_wp2_with fail
    go_roundw
    case rel =>
     refine ⟨⟨i + 1, by go_num, by omega, by omega, ?_, ?_⟩, K.out.alloc _⟩
     · rw [Nat.add_sub_cancel, ← E2.out]
     rw [Nat.add_sub_cancel, E3.out]; first | rfl | (refine congrArg Value.string ?_; apply ByteArray.ext; simp [ByteArray.data_append])
    case measure => simp [intOf]; omega
  have he : i = k := by omega
  subst he
  have hcv := back1 wr (UInt8.ofNat (F + r / 64 ^ (i - 1)))
  rw [u8_of HFB.out] at hcv
  have hfb := HFB.out
  have hF := HF.out
  rw [Int.natCast_add] at hcv
  generalize UInt8.ofNat (F + r / 64 ^ (i - 1)) = c at *
  generalize r / 64 ^ (i - 1) = Q at *
  generalize lowB r (i - 1) = LB at *
  rcases hF with ⟨rfl, rfl⟩ | ⟨rfl, rfl⟩ | ⟨rfl, rfl⟩
  · rw [show ((192 : Nat) : Int) = 192 from rfl] at hcv
    have e7 : wrap64 (192 + (Q : Int)) = 192 + (Q : Int) := by unfold wrap64; omega
    have e8 : (192 + (Q : Int)) % 256 = 192 + (Q : Int) := by omega
    go_wp2_with fail
    go_ret
    refine ⟨?_, K.out.alloc _⟩
    rw [HPut.out]; unfold strL
    first | rfl | (refine congrArg Ending.returned (congrArg Value.string ?_); apply ByteArray.ext; simp [ByteArray.data_append])
  · rw [show ((224 : Nat) : Int) = 224 from rfl] at hcv
    have e7 : wrap64 (224 + (Q : Int)) = 224 + (Q : Int) := by unfold wrap64; omega
    have e8 : (224 + (Q : Int)) % 256 = 224 + (Q : Int) := by omega
    go_wp2_with fail
    go_ret
    refine ⟨?_, K.out.alloc _⟩
    rw [HPut.out]; unfold strL
    first | rfl | (refine congrArg Ending.returned (congrArg Value.string ?_); apply ByteArray.ext; simp [ByteArray.data_append])
  rw [show ((240 : Nat) : Int) = 240 from rfl] at hcv
  have e7 : wrap64 (240 + (Q : Int)) = 240 + (Q : Int) := by unfold wrap64; omega
  have e8 : (240 + (Q : Int)) % 256 = 240 + (Q : Int) := by omega
  go_wp2_with fail
  go_ret
  refine ⟨?_, K.out.alloc _⟩
  rw [HPut.out]; unfold strL
  first | rfl | (refine congrArg Ending.returned (congrArg Value.string ?_); apply ByteArray.ext; simp [ByteArray.data_append])
theorem xf9 : (Tryz.prog.info? 5).map (fun i => (i.zero, i.size, i.bytes)) = some (some (.int .u8 0), 1, 1) := by kernel_rfl
theorem xd7 (w : World) (x : Value) (e : TypeId) : (w.alloc (.cells #[x] e)).ownsRow w.heap.size e 1 (.slice (some ⟨w.heap.size, 0, none⟩) 1 1) 1 [x] :=
 ⟨rfl, Or.inr ⟨_, 1, #[x], rfl, Nat.le_refl _, by simp [World.alloc, -World.alloc_eq], by omega, by unfold maxLen; omega, rfl, rfl⟩⟩
def u8V (c : UInt8) : Value := .int .u8 (c.toNat : Int)
def OwnB (base : Nat) (w : World) (v : Value) (l : List UInt8) : Prop := w.ownsRow base 5 1 v l.length (l.map u8V)
def PutE (w : World) (l : List UInt8) (e : Ending) (w' : World) : Prop := ∃ v, e = .returned v ∧ OwnB w.heap.size w' v l ∧ xa (fun _ => False) w w'
theorem u8o (n : Nat) (h : n < 256) : Value.int .u8 (n : Int) = u8V (UInt8.ofNat n) := by
 unfold u8V; rw [UInt8.toNat_ofNat_of_lt' (by show n < 256; exact h)]
theorem u8i {z : Int} (n : Nat) (h : n < 256) (e : z = (n : Int)) : Value.int .u8 z = u8V (UInt8.ofNat n) := by rw [e, u8o n h]
theorem put1 (r : Nat) (w : World) (hb : isB (r : Int) = true) (h1 : r < 128) : Calls Tryz.prog 133 #[.int .i64 r] w fun e w' => PutE w (putP r) e w' := by
 have HI := xoo (fun W => xeK (r : Int) W)
 have HSz := xoo (fun W => xby (r : Int) W)
 have hsz : sizP (r : Int) = 1 := by unfold sizP; rw [hb]; simp only [if_true]; rw [if_pos (by omega)]
 rw [hb] at HI
 rw [hsz] at HSz
 have HP : Hid ([Value.int .u8 (r : Int)] = (putP r).map u8V) := xoo (by unfold putP; rw [if_pos (by omega), u8o r (by omega)]; rfl)
 have u1 : IntKind.u8.wrap (r : Int) = (r : Int) := by rw [IntKind.wrap_u8]; omega
 clear hb hsz
 go_enter Tryz.func133, Tryz.ntmps133
 go_wp2_with fail
 refine (HI.out _).mono ?_
 rintro e w1 ⟨rfl, rfl⟩
 go_wp2_with fail
 refine (HSz.out _).mono ?_
 rintro e w1 ⟨rfl, rfl⟩
 go_wp2_with fail
 go_ret
 refine ⟨_, rfl, ?_, KI.out⟩
 unfold OwnB
 rw [← HP.out, show (putP r).length = 1 by have := congrArg List.length HP.out; simpa using this.symm]
 exact xd7 _ _ _
theorem put2 (r : Nat) (w : World) (hb : isB (r : Int) = true) (h1 : 128 ≤ r) (h2 : r < 2048) : Calls Tryz.prog 133 #[.int .i64 r] w fun e w' => PutE w (putP r) e w' := by
 obtain ⟨i0, hi0, hz0, hz1, hz2⟩ := info_parts xf9
 have HI := xoo (fun W => xeK (r : Int) W)
 have HSz := xoo (fun W => xby (r : Int) W)
 have hsz : sizP (r : Int) = 2 := by unfold sizP; rw [hb]; simp only [if_true]; rw [if_neg (by omega), if_pos (by omega)]
 rw [hb] at HI
 rw [hsz] at HSz
 have HP : Hid ([Value.int .u8 (192 + (r : Int) / 64), Value.int .u8 (128 + (r : Int) % 64)] = (putP r).map u8V) := xoo (by
  have e : putP r = [UInt8.ofNat (192 + r / 64), UInt8.ofNat (128 + r % 64)] := by
   unfold putP; rw [if_neg (by omega), if_pos (by omega)]; simp only [lowB, Nat.pow_zero, Nat.div_one, Nat.pow_one, show 64 ^ 2 = 4096 from rfl]
  rw [e]
  simp only [List.map_cons, List.map_nil]
  rw [u8i (192 + r / 64) (by omega) (by omega), u8i (128 + r % 64) (by omega) (by omega)])
 clear hb hsz
 go_enter Tryz.func133, Tryz.ntmps133
 go_wp2_with fail
 refine (HI.out _).mono ?_
 rintro e w1 ⟨rfl, rfl⟩
 go_wp2_with fail
 refine (HSz.out _).mono ?_
 rintro e w1 ⟨rfl, rfl⟩
 go_wp2_with fail
 go_region
 obtain ⟨W0, hW0⟩ : ∃ W, W = (w.alloc (.cells #[Value.int .u8 (192 + (r : Int) / 64)] 5)).drew := ⟨_, rfl⟩
 have O0 : Hid (W0.ownsRow w.heap.size 5 1 (.slice (some ⟨w.heap.size, 0, none⟩) 1 1) 1 [Value.int .u8 (192 + (r : Int) / 64)]) := xoo (by rw [hW0]; exact xd7 w _ _)
 have K0 : Hid (xa (fun _ => False) w W0) := xoo (by rw [hW0]; exact KI.out)
 have N0 : Hid (w.heap.size < W0.heap.size) := xoo (by rw [hW0]; simp)
 rw [← hW0]
 clear hW0
 go_wp2_with (at_builtin; refine wpList_append_own _ rfl (.tmp 47) (.tmp 52) 26 rfl w.heap.size 5 i0 (.int .u8 0) 1 1 Tryz.underlying26 hi0 hz0 hz1 hz2 rfl (by decide) _ _ _ rfl (O0.out.alloc _) ⟨W0.heap.size, 0, none⟩ 1 1 [Value.int .u8 (128 + (r : Int) % 64)] rfl rfl (by exact xan _ [_] _) (by intro u hu; simp at hu; subst hu; rfl) ?d3 ?d4 ?d5 ?_)
 case d3 => unfold maxLen; omega
 case d4 => omega
 case d5 => have := N0.out; simp; omega
 intro v1 W1 hown hgrow _
 have O1 : Hid (W1.ownsRow w.heap.size 5 1 v1 2 [Value.int .u8 (192 + (r : Int) / 64), Value.int .u8 (128 + (r : Int) % 64)]) := xoo hown
 have K1 : Hid (xa (fun _ => False) w W1) := xoo (K0.out.trans2 (((xa.refl (fun b => w.heap.size ≤ b) W0).alloc _).grown hgrow (fun b hb => Or.inl (xaa O0.out b hb))) (fun b hb e => by omega))
 have N1 : Hid (w.heap.size < W1.heap.size) := xoo (by have := N0.out; have := ((((xa.refl (fun b => w.heap.size ≤ b) W0).alloc (.cells #[Value.int .u8 (128 + (r : Int) % 64)] 5)).grown hgrow (fun b hb => Or.inl (xaa O0.out b hb)))).size; omega)
 clear hown hgrow
 go_wp2_with fail
 go_ret
 refine ⟨_, rfl, ?_, K1.out⟩
 unfold OwnB
 rw [← HP.out, show (putP r).length = 2 by have := congrArg List.length HP.out; simpa using this.symm]
 exact O1.out
theorem put3 (r : Nat) (w : World) (hb : isB (r : Int) = true) (h1 : 2048 ≤ r) (h2 : r < 65536) : Calls Tryz.prog 133 #[.int .i64 r] w fun e w' => PutE w (putP r) e w' := by
 obtain ⟨i0, hi0, hz0, hz1, hz2⟩ := info_parts xf9
 have HI := xoo (fun W => xeK (r : Int) W)
 have HSz := xoo (fun W => xby (r : Int) W)
 have hsz : sizP (r : Int) = 3 := by unfold sizP; rw [hb]; simp only [if_true]; rw [if_neg (by omega), if_neg (by omega), if_pos (by omega)]
 rw [hb] at HI
 rw [hsz] at HSz
 have HP : Hid ([Value.int .u8 (224 + (r : Int) / 4096), Value.int .u8 (128 + (r : Int) / 64 % 64), Value.int .u8 (128 + (r : Int) % 64)] = (putP r).map u8V) := xoo (by
  have e : putP r = [UInt8.ofNat (224 + r / 4096), UInt8.ofNat (128 + r / 64 % 64), UInt8.ofNat (128 + r % 64)] := by
   unfold putP; rw [if_neg (by omega), if_neg (by omega), if_pos (by omega)]; simp only [lowB, Nat.pow_zero, Nat.div_one, Nat.pow_one, show 64 ^ 2 = 4096 from rfl]
  rw [e]
  simp only [List.map_cons, List.map_nil]
  rw [u8i (224 + r / 4096) (by omega) (by omega), u8i (128 + r / 64 % 64) (by omega) (by omega), u8i (128 + r % 64) (by omega) (by omega)])
 clear hb hsz
 go_enter Tryz.func133, Tryz.ntmps133
 go_wp2_with fail
 refine (HI.out _).mono ?_
 rintro e w1 ⟨rfl, rfl⟩
 go_wp2_with fail
 refine (HSz.out _).mono ?_
 rintro e w1 ⟨rfl, rfl⟩
 go_wp2_with fail
 go_region
 obtain ⟨W0, hW0⟩ : ∃ W, W = (w.alloc (.cells #[Value.int .u8 (224 + (r : Int) / 4096)] 5)).drew := ⟨_, rfl⟩
 have O0 : Hid (W0.ownsRow w.heap.size 5 1 (.slice (some ⟨w.heap.size, 0, none⟩) 1 1) 1 [Value.int .u8 (224 + (r : Int) / 4096)]) := xoo (by rw [hW0]; exact xd7 w _ _)
 have K0 : Hid (xa (fun _ => False) w W0) := xoo (by rw [hW0]; exact KI.out)
 have N0 : Hid (w.heap.size < W0.heap.size) := xoo (by rw [hW0]; simp)
 rw [← hW0]
 clear hW0
 go_wp2_with (at_builtin; refine wpList_append_own _ rfl (.tmp 39) (.tmp 45) 26 rfl w.heap.size 5 i0 (.int .u8 0) 1 1 Tryz.underlying26 hi0 hz0 hz1 hz2 rfl (by decide) _ _ _ rfl (O0.out.alloc _) ⟨W0.heap.size, 0, none⟩ 1 1 [Value.int .u8 (128 + (r : Int) / 64 % 64)] rfl rfl (by exact xan _ [_] _) (by intro u hu; simp at hu; subst hu; rfl) ?d3 ?d4 ?d5 ?_)
 case d3 => unfold maxLen; omega
 case d4 => omega
 case d5 => have := N0.out; simp; omega
 intro v1 W1 hown hgrow _
 have O1 : Hid (W1.ownsRow w.heap.size 5 1 v1 2 [Value.int .u8 (224 + (r : Int) / 4096), Value.int .u8 (128 + (r : Int) / 64 % 64)]) := xoo hown
 have K1 : Hid (xa (fun _ => False) w W1) := xoo (K0.out.trans2 (((xa.refl (fun b => w.heap.size ≤ b) W0).alloc _).grown hgrow (fun b hb => Or.inl (xaa O0.out b hb))) (fun b hb e => by omega))
 have N1 : Hid (w.heap.size < W1.heap.size) := xoo (by have := N0.out; have := ((((xa.refl (fun b => w.heap.size ≤ b) W0).alloc (.cells #[Value.int .u8 (128 + (r : Int) / 64 % 64)] 5)).grown hgrow (fun b hb => Or.inl (xaa O0.out b hb)))).size; omega)
 clear hown hgrow
 go_wp2_with (at_builtin; refine wpList_append_own _ rfl (.tmp 47) (.tmp 52) 26 rfl w.heap.size 5 i0 (.int .u8 0) 1 1 Tryz.underlying26 hi0 hz0 hz1 hz2 rfl (by decide) _ _ _ rfl (O1.out.alloc _) ⟨W1.heap.size, 0, none⟩ 1 1 [Value.int .u8 (128 + (r : Int) % 64)] rfl rfl (by exact xan _ [_] _) (by intro u hu; simp at hu; subst hu; rfl) ?d3 ?d4 ?d5 ?_)
 case d3 => unfold maxLen; omega
 case d4 => omega
 case d5 => have := N1.out; simp; omega
 intro v2 W2 hown hgrow _
 have O2 : Hid (W2.ownsRow w.heap.size 5 1 v2 3 [Value.int .u8 (224 + (r : Int) / 4096), Value.int .u8 (128 + (r : Int) / 64 % 64), Value.int .u8 (128 + (r : Int) % 64)]) := xoo hown
 have K2 : Hid (xa (fun _ => False) w W2) := xoo (K1.out.trans2 (((xa.refl (fun b => w.heap.size ≤ b) W1).alloc _).grown hgrow (fun b hb => Or.inl (xaa O1.out b hb))) (fun b hb e => by omega))
 have N2 : Hid (w.heap.size < W2.heap.size) := xoo (by have := N1.out; have := ((((xa.refl (fun b => w.heap.size ≤ b) W1).alloc (.cells #[Value.int .u8 (128 + (r : Int) % 64)] 5)).grown hgrow (fun b hb => Or.inl (xaa O1.out b hb)))).size; omega)
 clear hown hgrow
 go_wp2_with fail
 go_ret
 refine ⟨_, rfl, ?_, K2.out⟩
 unfold OwnB
 rw [← HP.out, show (putP r).length = 3 by have := congrArg List.length HP.out; simpa using this.symm]
 exact O2.out
theorem put4 (r : Nat) (w : World) (hb : isB (r : Int) = true) (h1 : 65536 ≤ r) (h2 : r < 1114112) : Calls Tryz.prog 133 #[.int .i64 r] w fun e w' => PutE w (putP r) e w' := by
 obtain ⟨i0, hi0, hz0, hz1, hz2⟩ := info_parts xf9
 have HI := xoo (fun W => xeK (r : Int) W)
 have HSz := xoo (fun W => xby (r : Int) W)
 have hsz : sizP (r : Int) = 4 := by unfold sizP; rw [hb]; simp only [if_true]; rw [if_neg (by omega), if_neg (by omega), if_neg (by omega)]
 rw [hb] at HI
 rw [hsz] at HSz
 have HP : Hid ([Value.int .u8 (240 + (r : Int) / 262144), Value.int .u8 (128 + (r : Int) / 4096 % 64), Value.int .u8 (128 + (r : Int) / 64 % 64), Value.int .u8 (128 + (r : Int) % 64)] = (putP r).map u8V) := xoo (by
  have e : putP r = [UInt8.ofNat (240 + r / 262144), UInt8.ofNat (128 + r / 4096 % 64), UInt8.ofNat (128 + r / 64 % 64), UInt8.ofNat (128 + r % 64)] := by
   unfold putP; rw [if_neg (by omega), if_neg (by omega), if_neg (by omega)]; simp only [lowB, Nat.pow_zero, Nat.div_one, Nat.pow_one, show 64 ^ 2 = 4096 from rfl]
  rw [e]
  simp only [List.map_cons, List.map_nil]
  rw [u8i (240 + r / 262144) (by omega) (by omega), u8i (128 + r / 4096 % 64) (by omega) (by omega), u8i (128 + r / 64 % 64) (by omega) (by omega), u8i (128 + r % 64) (by omega) (by omega)])
 clear hb hsz
 go_enter Tryz.func133, Tryz.ntmps133
 go_wp2_with fail
 refine (HI.out _).mono ?_
 rintro e w1 ⟨rfl, rfl⟩
 go_wp2_with fail
 refine (HSz.out _).mono ?_
 rintro e w1 ⟨rfl, rfl⟩
 go_wp2_with fail
 go_region
 obtain ⟨W0, hW0⟩ : ∃ W, W = (w.alloc (.cells #[Value.int .u8 (240 + (r : Int) / 262144)] 5)).drew := ⟨_, rfl⟩
 have O0 : Hid (W0.ownsRow w.heap.size 5 1 (.slice (some ⟨w.heap.size, 0, none⟩) 1 1) 1 [Value.int .u8 (240 + (r : Int) / 262144)]) := xoo (by rw [hW0]; exact xd7 w _ _)
 have K0 : Hid (xa (fun _ => False) w W0) := xoo (by rw [hW0]; exact KI.out)
 have N0 : Hid (w.heap.size < W0.heap.size) := xoo (by rw [hW0]; simp)
 rw [← hW0]
 clear hW0
 go_wp2_with (at_builtin; refine wpList_append_own _ rfl (.tmp 31) (.tmp 37) 26 rfl w.heap.size 5 i0 (.int .u8 0) 1 1 Tryz.underlying26 hi0 hz0 hz1 hz2 rfl (by decide) _ _ _ rfl (O0.out.alloc _) ⟨W0.heap.size, 0, none⟩ 1 1 [Value.int .u8 (128 + (r : Int) / 4096 % 64)] rfl rfl (by exact xan _ [_] _) (by intro u hu; simp at hu; subst hu; rfl) ?d3 ?d4 ?d5 ?_)
 case d3 => unfold maxLen; omega
 case d4 => omega
 case d5 => have := N0.out; simp; omega
 intro v1 W1 hown hgrow _
 have O1 : Hid (W1.ownsRow w.heap.size 5 1 v1 2 [Value.int .u8 (240 + (r : Int) / 262144), Value.int .u8 (128 + (r : Int) / 4096 % 64)]) := xoo hown
 have K1 : Hid (xa (fun _ => False) w W1) := xoo (K0.out.trans2 (((xa.refl (fun b => w.heap.size ≤ b) W0).alloc _).grown hgrow (fun b hb => Or.inl (xaa O0.out b hb))) (fun b hb e => by omega))
 have N1 : Hid (w.heap.size < W1.heap.size) := xoo (by have := N0.out; have := ((((xa.refl (fun b => w.heap.size ≤ b) W0).alloc (.cells #[Value.int .u8 (128 + (r : Int) / 4096 % 64)] 5)).grown hgrow (fun b hb => Or.inl (xaa O0.out b hb)))).size; omega)
 clear hown hgrow
 go_wp2_with (at_builtin; refine wpList_append_own _ rfl (.tmp 39) (.tmp 45) 26 rfl w.heap.size 5 i0 (.int .u8 0) 1 1 Tryz.underlying26 hi0 hz0 hz1 hz2 rfl (by decide) _ _ _ rfl (O1.out.alloc _) ⟨W1.heap.size, 0, none⟩ 1 1 [Value.int .u8 (128 + (r : Int) / 64 % 64)] rfl rfl (by exact xan _ [_] _) (by intro u hu; simp at hu; subst hu; rfl) ?d3 ?d4 ?d5 ?_)
 case d3 => unfold maxLen; omega
 case d4 => omega
 case d5 => have := N1.out; simp; omega
 intro v2 W2 hown hgrow _
 have O2 : Hid (W2.ownsRow w.heap.size 5 1 v2 3 [Value.int .u8 (240 + (r : Int) / 262144), Value.int .u8 (128 + (r : Int) / 4096 % 64), Value.int .u8 (128 + (r : Int) / 64 % 64)]) := xoo hown
 have K2 : Hid (xa (fun _ => False) w W2) := xoo (K1.out.trans2 (((xa.refl (fun b => w.heap.size ≤ b) W1).alloc _).grown hgrow (fun b hb => Or.inl (xaa O1.out b hb))) (fun b hb e => by omega))
 have N2 : Hid (w.heap.size < W2.heap.size) := xoo (by have := N1.out; have := ((((xa.refl (fun b => w.heap.size ≤ b) W1).alloc (.cells #[Value.int .u8 (128 + (r : Int) / 64 % 64)] 5)).grown hgrow (fun b hb => Or.inl (xaa O1.out b hb)))).size; omega)
 clear hown hgrow
 go_wp2_with (at_builtin; refine wpList_append_own _ rfl (.tmp 47) (.tmp 52) 26 rfl w.heap.size 5 i0 (.int .u8 0) 1 1 Tryz.underlying26 hi0 hz0 hz1 hz2 rfl (by decide) _ _ _ rfl (O2.out.alloc _) ⟨W2.heap.size, 0, none⟩ 1 1 [Value.int .u8 (128 + (r : Int) % 64)] rfl rfl (by exact xan _ [_] _) (by intro u hu; simp at hu; subst hu; rfl) ?d3 ?d4 ?d5 ?_)
 case d3 => unfold maxLen; omega
 case d4 => omega
 case d5 => have := N2.out; simp; omega
 intro v3 W3 hown hgrow _
 have O3 : Hid (W3.ownsRow w.heap.size 5 1 v3 4 [Value.int .u8 (240 + (r : Int) / 262144), Value.int .u8 (128 + (r : Int) / 4096 % 64), Value.int .u8 (128 + (r : Int) / 64 % 64), Value.int .u8 (128 + (r : Int) % 64)]) := xoo hown
 have K3 : Hid (xa (fun _ => False) w W3) := xoo (K2.out.trans2 (((xa.refl (fun b => w.heap.size ≤ b) W2).alloc _).grown hgrow (fun b hb => Or.inl (xaa O2.out b hb))) (fun b hb e => by omega))
 have N3 : Hid (w.heap.size < W3.heap.size) := xoo (by have := N2.out; have := ((((xa.refl (fun b => w.heap.size ≤ b) W2).alloc (.cells #[Value.int .u8 (128 + (r : Int) % 64)] 5)).grown hgrow (fun b hb => Or.inl (xaa O2.out b hb)))).size; omega)
 clear hown hgrow
 go_wp2_with fail
 go_ret
 refine ⟨_, rfl, ?_, K3.out⟩
 unfold OwnB
 rw [← HP.out, show (putP r).length = 4 by have := congrArg List.length HP.out; simpa using this.symm]
 exact O3.out
theorem put_any (r : Nat) (w : World) (hb : isB (r : Int) = true) : Calls Tryz.prog 133 #[.int .i64 r] w fun e w' => PutE w (putP r) e w' := by
 have hr : r ≤ 1114111 := by simp [isB] at hb; omega
 by_cases h1 : r < 128
 · exact put1 r w hb h1
 by_cases h2 : r < 2048
 · exact put2 r w hb (by omega) h2
 by_cases h3 : r < 65536
 · exact put3 r w hb (by omega) h3
 exact put4 r w hb (by omega) (by omega)
theorem xla {w : World} {base : Nat} {v : Value} {l : List UInt8} (h : OwnB base w v l) : (convert 26 9 v).run Tryz.prog w = .ok (strL l) w := by
 rcases h.2 with ⟨rfl, h0⟩ | ⟨g, cap, cur, rfl, _⟩
 · obtain rfl : l = [] := List.length_eq_zero_iff.1 h0
   rw [run_convert_bytes_string w _ _ 5 none 0 0 Tryz.underlying26 Tryz.underlying5 Tryz.underlying9]
   rfl
 exact run_convert_bytes_back w _ _ 5 ⟨g, 0, none⟩ cap l Tryz.underlying26 Tryz.underlying5 Tryz.underlying9 (fun j hj => by
  have := h.cells (g := g) rfl j (.int .u8 (l[j].toNat : Int)) (by simp [u8V, hj])
  exact this)

theorem idxC {l : List UInt8} {i : Nat} {c : UInt8} (hc : l[i]? = some c) : ∀ (h : i < (⟨l.toArray⟩ : ByteArray).size), (⟨l.toArray⟩ : ByteArray)[i]'h = c := fun h => by
 have := (List.getElem?_eq_some_iff.1 hc).2
 simpa [ByteArray.getElem_eq_getElem_data] using this


end Go.Proofs.YtbifklibdkjbeaaGreatDoor
