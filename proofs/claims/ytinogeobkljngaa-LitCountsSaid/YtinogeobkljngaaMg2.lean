/-
  Several texts in one: parse.points: what it computes. The parser's state, and its smallest steps: peek, next, take, want. The document's digits of a number. The document's code points: Is, Size, value, Put.
-/
import Derived.Test.YtinogeobkljngaaMg1
import Derived.Lib.ConvBytes
import Derived.Deep.Cut
import Derived.Outline
import Derived.Deep.QuietTactic
import Derived.BigQuiet
import Derived.Lib.ItoaNum
import Derived.IntWalk
section
namespace Go.Proofs.Ytinogeobkljngaa
open Go.RowKit
set_option linter.unusedVariables false
set_option linter.unusedSimpArgs false
set_option maxRecDepth 100000

def ptsP : Nat → List UInt8 → Option (List Int)
  | 0, _ => some []
  | f + 1, l => if l = [] then some [] else if sizP (getP l).1 = (getP l).2 then (ptsP f (l.drop (getP l).2)).map ((getP l).1 :: ·) else none
theorem getP_eq (c : UInt8) (l : List UInt8) : getP (c :: l) = if lenP c.toNat = 0 ∨ l.length + 1 < lenP c.toNat then (65533, 1) else
    match tailP (headP c) (l.take (lenP c.toNat - 1)) with
    | none => (65533, 1)
    | some r => if sizP r = lenP c.toNat then ((r : Int), lenP c.toNat) else (65533, 1) := rfl
theorem getP_pos (c : UInt8) (l : List UInt8) : 1 ≤ (getP (c :: l)).2 ∧ (getP (c :: l)).2 ≤ 4 := by
  have hq : lenP c.toNat ≤ 4 := by unfold lenP; split <;> (try split) <;> (try split) <;> (try split) <;> omega
  rw [getP_eq]
  by_cases h : lenP c.toNat = 0 ∨ l.length + 1 < lenP c.toNat
  · rw [if_pos h]; simp
  · rw [if_neg h]
    split
    · simp
    · split
      · simp; omega
      · simp
theorem getP_le (c : UInt8) (l : List UInt8) : (getP (c :: l)).2 ≤ l.length + 1 := by
  rw [getP_eq]
  by_cases h : lenP c.toNat = 0 ∨ l.length + 1 < lenP c.toNat
  · rw [if_pos h]; simp
  · rw [if_neg h]
    split
    · simp
    · split
      · simp; omega
      · simp
/-- A text's code points; none: some octets are no code point's. -/
def pts (l : List UInt8) : Option (List Int) := ptsP l.length l
theorem info_int' : (Try.prog.info? 3).map (fun i => (i.zero, i.size, i.bytes)) = some (some (.int .i64 0), 1, 8) := by kernel_rfl
/-- What is left of the octets. -/
def BS (X : Nat) (w : World) (v : Value) (rest : List UInt8) : Prop :=
  ∃ a cap, v = .slice a rest.length cap ∧ rest.length ≤ cap ∧ (rest ≠ [] → ∃ off, a = some ⟨X, off, none⟩ ∧ ∀ i x, rest[i]? = some x → w.cell? ⟨X, off + i, none⟩ = some (.int .u8 (x.toNat : Int)))
theorem BS.keeps {X : Nat} {w w' : World} {v : Value} {rest : List UInt8} {S : Nat → Prop} (h : BS X w v rest) (K : Keeps S w w') (hX : ¬ S X) : BS X w' v rest := by
  obtain ⟨a, cap, rfl, h1, h2⟩ := h
  refine ⟨a, cap, rfl, h1, fun hne => ?_⟩
  obtain ⟨off, rfl, h3⟩ := h2 hne
  exact ⟨off, rfl, fun i x hx => K.cell (h3 i x hx) hX⟩
def PtsR (l : List UInt8) (X base : Nat) (w1 : World) (ov bv : Value) (wr : World) : Prop :=
  ∃ (f : Nat) (rest : List UInt8) (acc : List Int), rest.length ≤ f ∧ acc.length + rest.length ≤ l.length ∧ BS X wr bv rest ∧ wr.ownsRow base 3 1 ov acc.length (acc.map (Value.int .i64)) ∧ Keeps (fun k => base ≤ k) w1 wr ∧ pts l = (ptsP f rest).map (acc ++ ·)
/-- What points answers. -/
def PtsE (base : Nat) (l : List UInt8) (e : Ending) (w' : World) : Prop :=
  match pts l with
  | none => e = .returned (.tuple #[.slice none 0 0, .bool false])
  | some rs => ∃ v, e = .returned (.tuple #[v, .bool true]) ∧ w'.ownsRow base 3 1 v rs.length (rs.map (Value.int .i64))
def restLen : Value → Nat
  | .slice _ n _ => n
  | _ => 0

end Go.Proofs.Ytinogeobkljngaa
end
section
namespace Go.Proofs.Ytinogeobkljngaa
open Go.RowKit
set_option linter.unusedVariables false
set_option linter.unusedSimpArgs false
set_option maxRecDepth 100000

/-- Where the parser stands: its place, the depth of parentheses, has it failed? -/
structure PS where
  pos : Nat
  deep : Int
  bad : Bool
def pk (rs : List Int) (s : PS) : Int := if s.bad then -1 else rs.getD s.pos (-1)
def nx (rs : List Int) (s : PS) : PS := ⟨s.pos + 1, s.deep, s.bad || decide (pk rs s < 0)⟩
def tkB (rs : List Int) (r : Int) (s : PS) : Bool := decide (pk rs s = r)
def tk (rs : List Int) (r : Int) (s : PS) : PS := if pk rs s = r then ⟨s.pos + 1, s.deep, s.bad⟩ else s
def wt (rs : List Int) (r : Int) (s : PS) : PS := if pk rs s = r then ⟨s.pos + 1, s.deep, s.bad⟩ else ⟨s.pos, s.deep, true⟩
def encI (n : Int) (_ : Nat) : Value := .int .i64 n

/-- The parser at block pb. -/
structure PaAt (w : World) (pb : Nat) (rv : Value) (rs : List Int) (s : PS) : Prop where
  c0 : w.cell? ⟨pb, 0, none⟩ = some rv
  c1 : w.cell? ⟨pb, 1, none⟩ = some (.int .i64 s.pos)
  c2 : w.cell? ⟨pb, 2, none⟩ = some (.int .i64 s.deep)
  c3 : w.cell? ⟨pb, 3, none⟩ = some (.bool s.bad)
  fr : ∀ o, w.frozen? ⟨pb, o, none⟩ = false
  sl : SlOf 1 encI w rv rs
  ne : rv.ownBlock ≠ some pb
  len : rs.length ≤ 100000
  pos : s.pos ≤ 1000000
  rng : ∀ r ∈ rs, 0 ≤ r ∧ r ≤ 1114111
  rb : ∀ b, rv.ownBlock = some b → b < w.heap.size
theorem PaAt.lt {w : World} {pb : Nat} {rv : Value} {rs : List Int} {s : PS} (h : PaAt w pb rv rs s) : pb < w.heap.size := lt_of_cell h.c0
theorem PaAt.keeps {S : Nat → Prop} {w w' : World} {pb : Nat} {rv : Value} {rs : List Int} {s : PS} (h : PaAt w pb rv rs s) (K : Keeps S w w') (h1 : ¬ S pb) (h2 : ∀ b, rv.ownBlock = some b → ¬ S b) : PaAt w' pb rv rs s :=
  ⟨K.cell h.c0 h1, K.cell h.c1 h1, K.cell h.c2 h1, K.cell h.c3 h1, fun o => K.frozen (h.fr o) h.lt h1, h.sl.keeps K h2, h.ne, h.len, h.pos, h.rng, fun b hb => Nat.lt_of_lt_of_le (h.rb b hb) K.size⟩
theorem PaAt.keepsF {w w' : World} {pb : Nat} {rv : Value} {rs : List Int} {s : PS} (h : PaAt w pb rv rs s) (K : Keeps (fun _ => False) w w') : PaAt w' pb rv rs s := h.keeps K id (fun _ _ => id)
theorem PaAt.setPos {w : World} {pb : Nat} {rv : Value} {rs : List Int} {s : PS} (h : PaAt w pb rv rs s) (p : Nat) (hp : p ≤ 1000000) : PaAt (w.setCell ⟨pb, 1, none⟩ (.int .i64 p)) pb rv rs ⟨p, s.deep, s.bad⟩ := by
  have K : Keeps (fun b => b = pb) w (w.setCell ⟨pb, 1, none⟩ (.int .i64 p)) := (Keeps.refl (fun b => b = pb) _).set (p := ⟨pb, 1, none⟩) rfl _
  exact ⟨by rw [cell_set_other (by simp)]; exact h.c0, cell_set_same h.c1, by rw [cell_set_other (by simp)]; exact h.c2, by rw [cell_set_other (by simp)]; exact h.c3,
    fun o => by rw [frozen_set]; exact h.fr o, h.sl.keeps K (fun b hb e => h.ne (by rw [hb, e])), h.ne, h.len, hp, h.rng, fun b hb => Nat.lt_of_lt_of_le (h.rb b hb) K.size⟩
theorem PaAt.setBad {w : World} {pb : Nat} {rv : Value} {rs : List Int} {s : PS} (h : PaAt w pb rv rs s) (x : Bool) : PaAt (w.setCell ⟨pb, 3, none⟩ (.bool x)) pb rv rs ⟨s.pos, s.deep, x⟩ := by
  have K : Keeps (fun b => b = pb) w (w.setCell ⟨pb, 3, none⟩ (.bool x)) := (Keeps.refl (fun b => b = pb) _).set (p := ⟨pb, 3, none⟩) rfl _
  exact ⟨by rw [cell_set_other (by simp)]; exact h.c0, by rw [cell_set_other (by simp)]; exact h.c1, by rw [cell_set_other (by simp)]; exact h.c2, cell_set_same h.c3,
    fun o => by rw [frozen_set]; exact h.fr o, h.sl.keeps K (fun b hb e => h.ne (by rw [hb, e])), h.ne, h.len, h.pos, h.rng, fun b hb => Nat.lt_of_lt_of_le (h.rb b hb) K.size⟩
theorem PaAt.setDeep {w : World} {pb : Nat} {rv : Value} {rs : List Int} {s : PS} (h : PaAt w pb rv rs s) (d : Int) : PaAt (w.setCell ⟨pb, 2, none⟩ (.int .i64 d)) pb rv rs ⟨s.pos, d, s.bad⟩ := by
  have K : Keeps (fun b => b = pb) w (w.setCell ⟨pb, 2, none⟩ (.int .i64 d)) := (Keeps.refl (fun b => b = pb) _).set (p := ⟨pb, 2, none⟩) rfl _
  exact ⟨by rw [cell_set_other (by simp)]; exact h.c0, by rw [cell_set_other (by simp)]; exact h.c1, cell_set_same h.c2, by rw [cell_set_other (by simp)]; exact h.c3,
    fun o => by rw [frozen_set]; exact h.fr o, h.sl.keeps K (fun b hb e => h.ne (by rw [hb, e])), h.ne, h.len, h.pos, h.rng, fun b hb => Nat.lt_of_lt_of_le (h.rb b hb) K.size⟩

theorem pk_le {w : World} {pb : Nat} {rv : Value} {rs : List Int} {s : PS} (h : PaAt w pb rv rs s) : -1 ≤ pk rs s ∧ pk rs s ≤ 1114111 := by
  unfold pk
  split
  · omega
  · rw [List.getD_eq_getElem?_getD]
    cases hh : rs[s.pos]? with
    | none => simp
    | some r => have := h.rng r (List.mem_of_getElem? hh); simp; omega
theorem pk_room {rs : List Int} {s : PS} (h : 0 ≤ pk rs s) : s.pos < rs.length ∧ s.bad = false := by
  unfold pk at h
  cases hb : s.bad with
  | true => rw [hb] at h; simp at h
  | false =>
    refine ⟨?_, rfl⟩
    rw [hb] at h
    simp only [Bool.false_eq_true, if_false, List.getD_eq_getElem?_getD] at h
    rcases Nat.lt_or_ge s.pos rs.length with h1 | h1
    · exact h1
    · rw [List.getElem?_eq_none h1] at h; simp at h
abbrev OnlyP (pb : Nat) : Nat → Prop := fun b => b = pb

end Go.Proofs.Ytinogeobkljngaa
end
section
namespace Go.Proofs.Ytinogeobkljngaa
open Go.RowKit
set_option linter.unusedVariables false
set_option linter.unusedSimpArgs false
set_option maxRecDepth 100000

def strL (l : List UInt8) : Value := .string ⟨l.toArray⟩
theorem back1 (w : World) (c : UInt8) : (convert 25 9 (.slice (some ⟨w.heap.size, 0, none⟩) 1 1)).run Try.prog (w.alloc (.cells #[.int .u8 (c.toNat : Int)] 5)) = .ok (.string ⟨#[c]⟩) (w.alloc (.cells #[.int .u8 (c.toNat : Int)] 5)) := by
  have := run_convert_bytes_back (P := Try.prog) (w.alloc (.cells #[.int .u8 (c.toNat : Int)] 5)) 25 9 5 ⟨w.heap.size, 0, none⟩ 1 [c] Try.underlying25 Try.underlying5 Try.underlying9 (fun j hj => by
    obtain rfl : j = 0 := by simp at hj; omega
    exact cells_new w [.int .u8 (c.toNat : Int)] 5 0 _ rfl)
  exact this
theorem str_app (a b : List UInt8) : (⟨a.toArray⟩ : ByteArray) ++ ⟨b.toArray⟩ = ⟨(a ++ b).toArray⟩ := by
  apply ByteArray.ext
  simp [ByteArray.data_append]
theorem decDigits_len : ∀ m, (Lib.decDigits m).length ≤ m + 1 := by
  intro m
  induction m using Nat.strongRecOn with
  | _ m ih =>
    rw [Lib.decDigits]
    split
    · simp
    · have := ih (m / 10) (by omega)
      simp; omega
theorem decDigits_short (m k : Nat) (h : m < 10 ^ (k + 1)) : (Lib.decDigits m).length ≤ k + 1 := by
  induction k generalizing m with
  | zero => rw [Lib.decDigits, dif_pos (by omega)]; simp
  | succ k ih =>
    rw [Lib.decDigits]
    split
    · simp
    · have := ih (m / 10) (by rw [Nat.pow_succ] at h; omega)
      simp; omega
theorem itoa_nat (m : Nat) : Lib.itoa (m : Int) = Lib.decDigits m := by
  unfold Lib.itoa
  rw [if_neg (by omega)]; simp
theorem itoa_neg (m : Nat) (h : 1 ≤ m) : Lib.itoa (-(m : Int)) = 45 :: Lib.decDigits m := by
  unfold Lib.itoa
  rw [if_pos (by omega)]; simp
theorem itoa_len (n : Int) (h : in64 n) : (Lib.itoa n).length ≤ 20 ∧ 1 ≤ (Lib.itoa n).length := by
  have hp : ∀ m, 1 ≤ (Lib.decDigits m).length := fun m => by rw [Lib.decDigits]; split <;> simp
  unfold in64 at h
  unfold Lib.itoa
  split
  · have := decDigits_short n.natAbs 18 (by omega)
    simp; omega
  · have := decDigits_short n.toNat 18 (by omega)
    have := hp n.toNat
    omega
end Go.Proofs.Ytinogeobkljngaa
end
section
namespace Go.Proofs.Ytinogeobkljngaa
open Go.RowKit
set_option linter.unusedVariables false
set_option linter.unusedSimpArgs false
set_option maxRecDepth 100000

theorem rIs_any (r : Int) (w : World) : Calls Try.prog 35 #[.int .i64 r] w fun e w' => e = .returned (.bool (isB r)) ∧ w = w' := by
  by_cases h0 : 0 ≤ r
  · have g0 : decide (0 ≤ r) = true := by simpa using h0
    by_cases h1 : r ≤ 1114111
    · have g1 : decide (r ≤ 1114111) = true := by simpa using h1
      by_cases h2 : 55296 ≤ r
      · have g2 : decide (55296 ≤ r) = true := by simpa using h2
        by_cases h3 : r ≤ 57343
        · have g3 : decide (r ≤ 57343) = true := by simpa using h3
          rw [show isB r = false by simp [isB]; omega]
          go_enter Try.func35, Try.ntmps35
          go_wp2_with fail
          go_ret
          exact ⟨rfl, rfl⟩
        · have g3 : decide (r ≤ 57343) = false := by simpa using h3
          rw [show isB r = true by simp [isB]; omega]
          go_enter Try.func35, Try.ntmps35
          go_wp2_with fail
          go_ret
          exact ⟨rfl, rfl⟩
      · have g2 : decide (55296 ≤ r) = false := by simpa using h2
        rw [show isB r = true by simp [isB]; omega]
        go_enter Try.func35, Try.ntmps35
        go_wp2_with fail
        go_ret
        exact ⟨rfl, rfl⟩
    · have g1 : decide (r ≤ 1114111) = false := by simpa using h1
      rw [show isB r = false by simp [isB]; omega]
      go_enter Try.func35, Try.ntmps35
      go_wp2_with fail
      go_ret
      exact ⟨rfl, rfl⟩
  · have g0 : decide (0 ≤ r) = false := by simpa using h0
    rw [show isB r = false by simp [isB]; omega]
    go_enter Try.func35, Try.ntmps35
    go_wp2_with fail
    go_ret
    exact ⟨rfl, rfl⟩
theorem rSize_any (r : Int) (w : World) (hb : isB r = true) : Calls Try.prog 36 #[.int .i64 r] w fun e w' => e = .returned (.int .i64 (sizP r)) ∧ w = w' := by
  have HI := Lib.hid (fun W => rIs_any r W)
  have He : Hid (sizP r = if r < 128 then 1 else if r < 2048 then 2 else if r < 65536 then 3 else 4) := Lib.hid (by unfold sizP; rw [hb]; rfl)
  rw [hb] at HI
  clear hb
  generalize sizP r = q at He
  by_cases h1 : r < 128
  · have g1 : decide (r < 128) = true := by simpa using h1
    have E : Hid (q = 1) := Lib.hid (by rw [He.out, if_pos h1])
    clear He
    go_enter Try.func36, Try.ntmps36
    go_wp2_with fail
    refine (HI.out _).mono ?_
    rintro e w1 ⟨rfl, rfl⟩
    go_wp2_with fail
    go_ret
    exact ⟨by rw [E.out]; rfl, rfl⟩
  have g1 : decide (r < 128) = false := by simpa using h1
  by_cases h2 : r < 2048
  · have g2 : decide (r < 2048) = true := by simpa using h2
    have E : Hid (q = 2) := Lib.hid (by rw [He.out, if_neg h1, if_pos h2])
    clear He
    go_enter Try.func36, Try.ntmps36
    go_wp2_with fail
    refine (HI.out _).mono ?_
    rintro e w1 ⟨rfl, rfl⟩
    go_wp2_with fail
    go_ret
    exact ⟨by rw [E.out]; rfl, rfl⟩
  have g2 : decide (r < 2048) = false := by simpa using h2
  by_cases h3 : r < 65536
  · have g3 : decide (r < 65536) = true := by simpa using h3
    have E : Hid (q = 3) := Lib.hid (by rw [He.out, if_neg h1, if_neg h2, if_pos h3])
    clear He
    go_enter Try.func36, Try.ntmps36
    go_wp2_with fail
    refine (HI.out _).mono ?_
    rintro e w1 ⟨rfl, rfl⟩
    go_wp2_with fail
    go_ret
    exact ⟨by rw [E.out]; rfl, rfl⟩
  have g3 : decide (r < 65536) = false := by simpa using h3
  have E : Hid (q = 4) := Lib.hid (by rw [He.out, if_neg h1, if_neg h2, if_neg h3])
  clear He
  go_enter Try.func36, Try.ntmps36
  go_wp2_with fail
  refine (HI.out _).mono ?_
  rintro e w1 ⟨rfl, rfl⟩
  go_wp2_with fail
  go_ret
  exact ⟨by rw [E.out]; rfl, rfl⟩

/-! ### What octets would say -/
def valH (c : Nat) : Nat := if 240 ≤ c then c - 240 else if 224 ≤ c then c - 224 else if 192 ≤ c then c - 192 else c
def valP : List UInt8 → Nat
  | [] => 0
  | c :: l => l.foldl (fun r b => r * 64 + (b.toNat + 128) % 256) (valH c.toNat)
theorem valP_snoc (l : List UInt8) (b : UInt8) (h : l ≠ []) : valP (l ++ [b]) = valP l * 64 + (b.toNat + 128) % 256 := by
  cases l with
  | nil => exact absurd rfl h
  | cons c l => simp [valP]
theorem take_snocB {l : List UInt8} {i : Nat} {b : UInt8} (h : l[i]? = some b) : l.take (i + 1) = l.take i ++ [b] := by rw [List.take_add_one, h]; rfl
def bndV (i : Nat) : Nat := 300 * 65 ^ (i - 1)
theorem bndV_le {i : Nat} (h1 : 1 ≤ i) (h4 : i ≤ 4) : bndV i ≤ 82387500 ∧ 300 ≤ bndV i ∧ bndV (i + 1) = 65 * bndV i := by
  rcases (by omega : i = 1 ∨ i = 2 ∨ i = 3 ∨ i = 4) with rfl | rfl | rfl | rfl <;> simp [bndV]
def ValR (l : List UInt8) (rv iv : Value) : Prop := ∃ (i r : Nat), iv = .int .i64 i ∧ rv = .int .i64 r ∧ 1 ≤ i ∧ i ≤ l.length ∧ r = valP (l.take i) ∧ r ≤ bndV i
theorem idxB {l : List UInt8} {i : Nat} {c : UInt8} (hc : l[i]? = some c) : ∀ (h : i < (⟨l.toArray⟩ : ByteArray).size), (⟨l.toArray⟩ : ByteArray)[i]'h = c := fun h => by
  have := (List.getElem?_eq_some_iff.1 hc).2
  simpa [ByteArray.getElem_eq_getElem_data] using this
set_option maxHeartbeats 4000000 in
theorem value_any (c : UInt8) (t : List UInt8) (w : World) (hl : t.length ≤ 3) : Calls Try.prog 34 #[.string ⟨(c :: t).toArray⟩] w fun e w' => e = .returned (.int .i64 (valP (c :: t))) ∧ w = w' := by
  obtain ⟨l, hle⟩ : ∃ l, c :: t = l := ⟨_, rfl⟩
  rw [hle]
  have hlen : l.length ≤ 4 ∧ 1 ≤ l.length := by rw [← hle]; simp; omega
  have hc : l[0]? = some c := by rw [← hle]; rfl
  have hx := idxB hc
  have h256 := c.toNat_lt
  have HV1 : Hid (valP (l.take 1) = valH c.toNat) := Lib.hid (by rw [← hle]; rfl)
  have HR : Hid (valP (l.take l.length) = valP l) := Lib.hid (by rw [List.take_length])
  generalize valP l = R at *
  clear hle hc hl
  have hst : ∃ r, valH c.toNat = r ∧ r ≤ 255 := ⟨_, rfl, by unfold valH; split <;> (try split) <;> (try split) <;> omega⟩
  obtain ⟨r0, hr0, hr1⟩ := hst
  have HV0 : Hid (r0 = valP (l.take 1)) := Lib.hid (by rw [HV1.out, hr0])
  have key : ∀ q : Nat, q = r0 → ValR l (.int .i64 q) (.int .i64 1) := fun q hq => ⟨1, q, rfl, rfl, by omega, by omega, by rw [hq]; exact HV0.out, by simp [bndV]; omega⟩
  have KEY := Lib.hid key
  clear key HV1 HV0
  rcases (by omega : 240 ≤ c.toNat ∨ (¬ 240 ≤ c.toNat ∧ 224 ≤ c.toNat) ∨ (¬ 240 ≤ c.toNat ∧ ¬ 224 ≤ c.toNat ∧ 192 ≤ c.toNat) ∨ (¬ 240 ≤ c.toNat ∧ ¬ 224 ≤ c.toNat ∧ ¬ 192 ≤ c.toNat)) with h1 | ⟨h1, h2⟩ | ⟨h1, h2, h3⟩ | ⟨h1, h2, h3⟩
  · have e : r0 = c.toNat - 240 := by rw [← hr0]; unfold valH; rw [if_pos h1]
    have g1 : decide ((240 : Int) ≤ ((c.toNat : Nat) : Int)) = true := by simp; omega
    have g1n : decide (240 ≤ c.toNat) = true := by simpa using h1
    have HS : Hid (ValR l (.int .i64 ((c.toNat : Int) - 240)) (.int .i64 1)) := Lib.hid (by
      have := KEY.out (c.toNat - 240) e.symm
      rwa [show ((c.toNat - 240 : Nat) : Int) = (c.toNat : Int) - 240 by omega] at this)
    clear hr0 e KEY
    go_enter Try.func34, Try.ntmps34
    go_wp2_with fail
    go_loopw [4, 5] (fun rv iv wr => ValR l rv iv ∧ w = wr) (fun _ iv _ => l.length + 1 - (intOf iv).toNat)
    case atStart => exact ⟨HS.out, rfl⟩
    case round =>
      obtain ⟨⟨i, r, rfl, rfl, hi1, hi2, hv, hb⟩, rfl⟩ := hrel
      have HVV := Lib.hid hv
      have hbb := bndV_le hi1 (by omega)
      clear hv hx HS
      by_cases hil : i < l.length
      · obtain ⟨b, hb2⟩ : ∃ b, l[i]? = some b := ⟨_, List.getElem?_eq_getElem hil⟩
        have hy := idxB hb2
        have HN : Hid (valP (l.take (i + 1)) = r * 64 + (b.toNat + 128) % 256) := Lib.hid (by
          rw [take_snocB hb2, valP_snoc _ _ (by intro h; have := congrArg List.length h; rw [List.length_take, List.length_nil] at this; omega), HVV.out])
        have h256 := b.toNat_lt
        have t1 : ((b.toNat : Int) + 128).tmod 256 = ((b.toNat : Int) + 128) % 256 := Int.tmod_eq_emod_of_nonneg (by omega)
        clear hb2
        go_wp2_with fail
        go_roundw
        case rel => exact ⟨⟨i + 1, r * 64 + (b.toNat + 128) % 256, by go_num, by congr 1, by omega, by omega, HN.out.symm, by rw [hbb.2.2]; omega⟩, by trivial⟩
        case measure => simp [intOf]; omega
      · have he : i = l.length := by omega
        subst he
        go_wp2_with fail
        go_ret
        exact ⟨by rw [← HR.out, ← HVV.out]; rfl, rfl⟩
  · have e : r0 = c.toNat - 224 := by rw [← hr0]; unfold valH; rw [if_neg h1, if_pos h2]
    have g1 : decide ((240 : Int) ≤ ((c.toNat : Nat) : Int)) = false := by simp; omega
    have g1n : decide (240 ≤ c.toNat) = false := by simpa using h1
    have g2 : decide ((224 : Int) ≤ ((c.toNat : Nat) : Int)) = true := by simp; omega
    have g2n : decide (224 ≤ c.toNat) = true := by simpa using h2
    have HS : Hid (ValR l (.int .i64 ((c.toNat : Int) - 224)) (.int .i64 1)) := Lib.hid (by
      have := KEY.out (c.toNat - 224) e.symm
      rwa [show ((c.toNat - 224 : Nat) : Int) = (c.toNat : Int) - 224 by omega] at this)
    clear hr0 e KEY
    go_enter Try.func34, Try.ntmps34
    go_wp2_with fail
    go_loopw [4, 5] (fun rv iv wr => ValR l rv iv ∧ w = wr) (fun _ iv _ => l.length + 1 - (intOf iv).toNat)
    case atStart => exact ⟨HS.out, rfl⟩
    case round =>
      obtain ⟨⟨i, r, rfl, rfl, hi1, hi2, hv, hb⟩, rfl⟩ := hrel
      have HVV := Lib.hid hv
      have hbb := bndV_le hi1 (by omega)
      clear hv hx HS
      by_cases hil : i < l.length
      · obtain ⟨b, hb2⟩ : ∃ b, l[i]? = some b := ⟨_, List.getElem?_eq_getElem hil⟩
        have hy := idxB hb2
        have HN : Hid (valP (l.take (i + 1)) = r * 64 + (b.toNat + 128) % 256) := Lib.hid (by
          rw [take_snocB hb2, valP_snoc _ _ (by intro h; have := congrArg List.length h; rw [List.length_take, List.length_nil] at this; omega), HVV.out])
        have h256 := b.toNat_lt
        have t1 : ((b.toNat : Int) + 128).tmod 256 = ((b.toNat : Int) + 128) % 256 := Int.tmod_eq_emod_of_nonneg (by omega)
        clear hb2
        go_wp2_with fail
        go_roundw
        case rel => exact ⟨⟨i + 1, r * 64 + (b.toNat + 128) % 256, by go_num, by congr 1, by omega, by omega, HN.out.symm, by rw [hbb.2.2]; omega⟩, by trivial⟩
        case measure => simp [intOf]; omega
      · have he : i = l.length := by omega
        subst he
        go_wp2_with fail
        go_ret
        exact ⟨by rw [← HR.out, ← HVV.out]; rfl, rfl⟩
  · have e : r0 = c.toNat - 192 := by rw [← hr0]; unfold valH; rw [if_neg h1, if_neg h2, if_pos h3]
    have g1 : decide ((240 : Int) ≤ ((c.toNat : Nat) : Int)) = false := by simp; omega
    have g1n : decide (240 ≤ c.toNat) = false := by simpa using h1
    have g2 : decide ((224 : Int) ≤ ((c.toNat : Nat) : Int)) = false := by simp; omega
    have g2n : decide (224 ≤ c.toNat) = false := by simpa using h2
    have g3 : decide ((192 : Int) ≤ ((c.toNat : Nat) : Int)) = true := by simp; omega
    have g3n : decide (192 ≤ c.toNat) = true := by simpa using h3
    have HS : Hid (ValR l (.int .i64 ((c.toNat : Int) - 192)) (.int .i64 1)) := Lib.hid (by
      have := KEY.out (c.toNat - 192) e.symm
      rwa [show ((c.toNat - 192 : Nat) : Int) = (c.toNat : Int) - 192 by omega] at this)
    clear hr0 e KEY
    go_enter Try.func34, Try.ntmps34
    go_wp2_with fail
    go_loopw [4, 5] (fun rv iv wr => ValR l rv iv ∧ w = wr) (fun _ iv _ => l.length + 1 - (intOf iv).toNat)
    case atStart => exact ⟨HS.out, rfl⟩
    case round =>
      obtain ⟨⟨i, r, rfl, rfl, hi1, hi2, hv, hb⟩, rfl⟩ := hrel
      have HVV := Lib.hid hv
      have hbb := bndV_le hi1 (by omega)
      clear hv hx HS
      by_cases hil : i < l.length
      · obtain ⟨b, hb2⟩ : ∃ b, l[i]? = some b := ⟨_, List.getElem?_eq_getElem hil⟩
        have hy := idxB hb2
        have HN : Hid (valP (l.take (i + 1)) = r * 64 + (b.toNat + 128) % 256) := Lib.hid (by
          rw [take_snocB hb2, valP_snoc _ _ (by intro h; have := congrArg List.length h; rw [List.length_take, List.length_nil] at this; omega), HVV.out])
        have h256 := b.toNat_lt
        have t1 : ((b.toNat : Int) + 128).tmod 256 = ((b.toNat : Int) + 128) % 256 := Int.tmod_eq_emod_of_nonneg (by omega)
        clear hb2
        go_wp2_with fail
        go_roundw
        case rel => exact ⟨⟨i + 1, r * 64 + (b.toNat + 128) % 256, by go_num, by congr 1, by omega, by omega, HN.out.symm, by rw [hbb.2.2]; omega⟩, by trivial⟩
        case measure => simp [intOf]; omega
      · have he : i = l.length := by omega
        subst he
        go_wp2_with fail
        go_ret
        exact ⟨by rw [← HR.out, ← HVV.out]; rfl, rfl⟩
  · have e : r0 = c.toNat := by rw [← hr0]; unfold valH; rw [if_neg h1, if_neg h2, if_neg h3]
    have g1 : decide ((240 : Int) ≤ ((c.toNat : Nat) : Int)) = false := by simp; omega
    have g1n : decide (240 ≤ c.toNat) = false := by simpa using h1
    have g2 : decide ((224 : Int) ≤ ((c.toNat : Nat) : Int)) = false := by simp; omega
    have g2n : decide (224 ≤ c.toNat) = false := by simpa using h2
    have g3 : decide ((192 : Int) ≤ ((c.toNat : Nat) : Int)) = false := by simp; omega
    have g3n : decide (192 ≤ c.toNat) = false := by simpa using h3
    have HS : Hid (ValR l (.int .i64 (c.toNat : Int)) (.int .i64 1)) := Lib.hid (KEY.out _ e.symm)
    clear hr0 e KEY
    go_enter Try.func34, Try.ntmps34
    go_wp2_with fail
    go_loopw [4, 5] (fun rv iv wr => ValR l rv iv ∧ w = wr) (fun _ iv _ => l.length + 1 - (intOf iv).toNat)
    case atStart => exact ⟨HS.out, rfl⟩
    case round =>
      obtain ⟨⟨i, r, rfl, rfl, hi1, hi2, hv, hb⟩, rfl⟩ := hrel
      have HVV := Lib.hid hv
      have hbb := bndV_le hi1 (by omega)
      clear hv hx HS
      by_cases hil : i < l.length
      · obtain ⟨b, hb2⟩ : ∃ b, l[i]? = some b := ⟨_, List.getElem?_eq_getElem hil⟩
        have hy := idxB hb2
        have HN : Hid (valP (l.take (i + 1)) = r * 64 + (b.toNat + 128) % 256) := Lib.hid (by
          rw [take_snocB hb2, valP_snoc _ _ (by intro h; have := congrArg List.length h; rw [List.length_take, List.length_nil] at this; omega), HVV.out])
        have h256 := b.toNat_lt
        have t1 : ((b.toNat : Int) + 128).tmod 256 = ((b.toNat : Int) + 128) % 256 := Int.tmod_eq_emod_of_nonneg (by omega)
        clear hb2
        go_wp2_with fail
        go_roundw
        case rel => exact ⟨⟨i + 1, r * 64 + (b.toNat + 128) % 256, by go_num, by congr 1, by omega, by omega, HN.out.symm, by rw [hbb.2.2]; omega⟩, by trivial⟩
        case measure => simp [intOf]; omega
      · have he : i = l.length := by omega
        subst he
        go_wp2_with fail
        go_ret
        exact ⟨by rw [← HR.out, ← HVV.out]; rfl, rfl⟩
end Go.Proofs.Ytinogeobkljngaa
end
