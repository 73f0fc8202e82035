/-
  Several texts in one: Slices that are read: 'SlOf k enc w v l': in the world w the value v is a slice whose elements, of k cells each, are those of the list l. code.Is, Size, length: what they compute; the code point at a text's beginning, in plain Lean. code.length, code.Get: what they compute. code.Get: what it computes. parse.points: what it computes.
-/
import Derived.Test.YtbifklibdkjbeaaGreatDoorMg1
import Derived.Test.YtbifklibdkjbeaaGreatDoorProg
import Derived.Laws.BitsAllLaws
import Derived.Outline
import Derived.Lib.ConvBytes
import Derived.Deep.Cut
namespace Go.Proofs.YtbifklibdkjbeaaGreatDoor
open Go.RowKit
set_option linter.unusedVariables false
set_option linter.unusedSimpArgs false
set_option maxRecDepth 100000
set_option maxHeartbeats 2000000
def SlOf {α : Type} (k : Nat) (enc : α → Nat → Value) (w : World) (v : Value) (l : List α) : Prop :=
 ∃ a cap, v = .slice a l.length cap ∧ (l.length ≤ cap ∧ (a = none → cap = 0)) ∧ l.length ≤ 4611686018427387904 ∧
  (0 < l.length → ∃ b off, a = some ⟨b, off, none⟩ ∧ ∀ i x, l[i]? = some x → ∀ j, j < k → w.cell? ⟨b, off + i * k + j, none⟩ = some (enc x j))
theorem SlOf.keeps {α : Type} {k : Nat} {enc : α → Nat → Value} {S : Nat → Prop} {w w' : World} {v : Value} {l : List α} (h : SlOf k enc w v l) (K : xa S w w') (hs : ∀ b, v.ownBlock = some b → ¬ S b) : SlOf k enc w' v l := by
 obtain ⟨a, cap, rfl, hl, hl2, hc⟩ := h
 refine ⟨a, cap, rfl, hl, hl2, fun h0 => ?_⟩
 obtain ⟨b, off, rfl, hcc⟩ := hc h0
 exact ⟨b, off, rfl, fun i x hx j hj => K.cell (hcc i x hx j hj) (hs b rfl)⟩
theorem SlOf.keep {α : Type} {k : Nat} {enc : α → Nat → Value} {w w' : World} {v : Value} {l : List α} (h : SlOf k enc w v l) (K : xa (fun _ => False) w w') : SlOf k enc w' v l := h.keeps K (fun _ _ => id)
theorem SlOf.nil {α : Type} (k : Nat) (enc : α → Nat → Value) (w : World) : SlOf k enc w (.slice none 0 0) [] := ⟨none, 0, rfl, ⟨Nat.le_refl _, fun _ => rfl⟩, by simp, fun h => by simp at h⟩
def cellsOf {α : Type} (k : Nat) (enc : α → Nat → Value) (l : List α) : List Value := l.flatMap fun x => (List.range k).map (enc x)
theorem xah {α : Type} (k : Nat) (enc : α → Nat → Value) (l : List α) : (cellsOf k enc l).length = l.length * k := by
 induction l with
 | nil => simp [cellsOf]
 | cons x l ih => simp only [cellsOf, List.flatMap_cons, List.length_append, List.length_map, List.length_range, List.length_cons] at ih ⊢; rw [ih, Nat.add_mul]; omega
theorem xag {α : Type} (k : Nat) (enc : α → Nat → Value) (l m : List α) : cellsOf k enc (l ++ m) = cellsOf k enc l ++ cellsOf k enc m := by simp [cellsOf]
theorem xaH {α : Type} (k : Nat) (enc : α → Nat → Value) (l : List α) : ∀ i x, l[i]? = some x → ∀ j, j < k → (cellsOf k enc l)[i * k + j]? = some (enc x j) := by
 induction l with
 | nil => intro i x hx; simp at hx
 | cons y l ih =>
  intro i x hx j hj
  have e : cellsOf k enc (y :: l) = (List.range k).map (enc y) ++ cellsOf k enc l := by simp [cellsOf]
  rw [e]
  cases i with
  | zero =>
   simp at hx; subst hx
   rw [List.getElem?_append_left (by simp; omega)]; simp [hj]
  | succ i =>
   simp at hx
   rw [List.getElem?_append_right (by simp; rw [Nat.add_mul]; omega)]
   have : (i + 1) * k + j - ((List.range k).map (enc y)).length = i * k + j := by simp; rw [Nat.add_mul]; omega
   rw [this]; exact ih i x hx j hj
theorem SlOf.ofOwn {α : Type} {k : Nat} {enc : α → Nat → Value} {w : World} {base : Nat} {e : TypeId} {v : Value} {l : List α} (h : w.ownsRow base e k v l.length (cellsOf k enc l)) (hl : l.length ≤ 4611686018427387904) : SlOf k enc w v l := by
 rcases h.2 with ⟨rfl, h0⟩ | ⟨g, cap, cur, rfl, hg, hh, hn, hcap, _⟩
 · refine ⟨none, 0, by rw [h0], ⟨by omega, fun _ => rfl⟩, hl, fun hp => by omega⟩
 refine ⟨_, cap, rfl, ⟨hn, (fun h => by cases h)⟩, hl, fun h0 => ⟨g, 0, rfl, fun i x hx j hj => ?_⟩⟩
 have hi : i < l.length := by
  rcases Nat.lt_or_ge i l.length with hi | hi
  · exact hi
  rw [List.getElem?_eq_none hi] at hx; cases hx
 have hb : i * k + j < l.length * k := by
  have : (i + 1) * k ≤ l.length * k := Nat.mul_le_mul_right k hi
  rw [Nat.add_mul] at this; omega
 have := h.cellAt (i * k + j) hb
 rw [xaH k enc l i x hx j hj] at this
 rw [Nat.zero_add]; exact this
theorem xeW {α : Type} (k : Nat) (hk : 0 < k) (enc : α → Nat → Value) (l : List α) (j : Nat) (u : Value) (h : (cellsOf k enc l)[j]? = some u) : ∃ x, l[j / k]? = some x ∧ u = enc x (j % k) := by
 have hlt : j < l.length * k := by
  rw [← xah k enc l]
  rcases Nat.lt_or_ge j (cellsOf k enc l).length with h1 | h1
  · exact h1
  rw [List.getElem?_eq_none h1] at h; cases h
 have hd : j / k < l.length := (Nat.div_lt_iff_lt_mul hk).2 hlt
 refine ⟨l[j / k], List.getElem?_eq_getElem hd, ?_⟩
 have := xaH k enc l (j / k) _ (List.getElem?_eq_getElem hd) (j % k) (Nat.mod_lt _ hk)
 rw [show j / k * k + j % k = j by rw [Nat.mul_comm]; exact Nat.div_add_mod j k, h] at this
 exact Option.some.inj this
theorem SlOf.news {α : Type} {k : Nat} {enc : α → Nat → Value} {w : World} {v : Value} {l : List α} (hk : 0 < k) (h : SlOf k enc w v l) :
 (v = .slice none 0 0 ∧ l = []) ∨ ∃ x cap, v = .slice (some x) l.length cap ∧ ∀ j u, (cellsOf k enc l)[j]? = some u → w.cell? (x.add j) = some u := by
 obtain ⟨a, cap, rfl, ⟨hl, hn⟩, hl2, hc⟩ := h
 cases a with
 | none =>
  have := hn rfl
  subst this
  have h0 : l = [] := List.length_eq_zero_iff.1 (by omega)
  subst h0
  exact Or.inl ⟨rfl, rfl⟩
 | some x =>
  refine Or.inr ⟨x, cap, rfl, fun j u hj => ?_⟩
  obtain ⟨y, hy, rfl⟩ := xeW k hk enc l j u hj
  have hp : 0 < l.length := by
   cases l with
   | nil => simp at hy
   | cons _ _ => simp
  obtain ⟨b, off, hb, hcc⟩ := hc hp
  have hb := Option.some.inj hb
  subst hb
  have e := hcc (j / k) y hy (j % k) (Nat.mod_lt _ hk)
  have : (⟨b, off, none⟩ : Addr).add j = ⟨b, off + j / k * k + j % k, none⟩ := by
   unfold Addr.add
   have h2 : j / k * k + j % k = j := by rw [Nat.mul_comm]; exact Nat.div_add_mod j k
   split
   · simp_all
   simp only [Nat.add_assoc, h2]
  rw [this]; exact e
def in64 (n : Int) : Prop := -9223372036854775808 ≤ n ∧ n ≤ 9223372036854775807
def isB (r : Int) : Bool := decide (0 ≤ r) && decide (r ≤ 1114111) && (decide (r < 55296) || decide (57344 ≤ r))
def sizP (r : Int) : Int := if isB r then (if r < 128 then 1 else if r < 2048 then 2 else if r < 65536 then 3 else 4) else 0
def lenP (c : Nat) : Nat := if c < 128 then 1 else if 194 ≤ c ∧ c < 224 then 2 else if 224 ≤ c ∧ c < 240 then 3 else if 240 ≤ c ∧ c < 245 then 4 else 0
theorem xeK (r : Int) (w : World) : Calls Tryz.prog 132 #[.int .i64 r] w fun e w' => e = .returned (.bool (isB r)) ∧ w = w' := by
 by_cases h0 : 0 ≤ r
 · by_cases h1 : r ≤ 1114111
   · have g0 : decide (0 ≤ r) = true := by simpa using h0
     have g1 : decide (r ≤ 1114111) = true := by simpa using h1
     by_cases h2 : r < 55296
     · have e : isB r = true := by simp [isB, h0, h1, h2]
       have g2 : decide (r < 55296) = true := by simpa using h2
       rw [e]
       go_enter Tryz.func132, Tryz.ntmps132
       go_wp2_with fail
       go_ret
       exact ⟨rfl, rfl⟩
     have g2 : decide (r < 55296) = false := by simp; omega
     by_cases h3 : 57344 ≤ r
     · have e : isB r = true := by simp [isB, h0, h1, h3]
       have g3 : decide (57344 ≤ r) = true := by simpa using h3
       rw [e]
       go_enter Tryz.func132, Tryz.ntmps132
       go_wp2_with fail
       go_ret
       exact ⟨rfl, rfl⟩
     have e : isB r = false := by simp [isB, h2]; omega
     have g3 : decide (57344 ≤ r) = false := by simp; omega
     rw [e]
     go_enter Tryz.func132, Tryz.ntmps132
     go_wp2_with fail
     go_ret
     exact ⟨rfl, rfl⟩
   have e : isB r = false := by simp [isB]; omega
   have g0 : decide (0 ≤ r) = true := by simpa using h0
   have g1 : decide (r ≤ 1114111) = false := by simp; omega
   rw [e]
   go_enter Tryz.func132, Tryz.ntmps132
   go_wp2_with fail
   go_ret
   exact ⟨rfl, rfl⟩
 have e : isB r = false := by simp [isB]; omega
 have g0 : decide (0 ≤ r) = false := by simp; omega
 rw [e]
 go_enter Tryz.func132, Tryz.ntmps132
 go_wp2_with fail
 go_ret
 exact ⟨rfl, rfl⟩
theorem xby (r : Int) (w : World) : Calls Tryz.prog 163 #[.int .i64 r] w fun e w' => e = .returned (.int .i64 (sizP r)) ∧ w = w' := by
 have HI := xoo (fun W => xeK r W)
 have He : Hid (sizP r = if isB r then (if r < 128 then 1 else if r < 2048 then 2 else if r < 65536 then 3 else 4) else 0) := xoo rfl
 generalize sizP r = q at He
 cases hb : isB r with
 | false =>
  rw [hb] at HI He
  simp only [Bool.false_eq_true, if_false] at He
  clear hb
  go_enter Tryz.func163, Tryz.ntmps163
  go_wp2_with fail
  refine (HI.out _).mono ?_
  rintro e w1 ⟨rfl, rfl⟩
  go_wp2_with fail
  go_ret
  exact ⟨by rw [He.out]; rfl, rfl⟩
 | true =>
  rw [hb] at HI He
  simp only [if_true] at He
  clear hb
  by_cases h1 : r < 128
  · have E : Hid (q = 1) := xoo (by rw [He.out, if_pos h1])
    clear He
    go_enter Tryz.func163, Tryz.ntmps163
    go_wp2_with fail
    refine (HI.out _).mono ?_
    rintro e w1 ⟨rfl, rfl⟩
    go_wp2_with fail
    go_ret
    exact ⟨by rw [E.out]; rfl, rfl⟩
  have g1 : decide (r < 128) = false := by simp; omega
  by_cases h2 : r < 2048
  · have E : Hid (q = 2) := xoo (by rw [He.out, if_neg h1, if_pos h2])
    clear He
    go_enter Tryz.func163, Tryz.ntmps163
    go_wp2_with fail
    refine (HI.out _).mono ?_
    rintro e w1 ⟨rfl, rfl⟩
    go_wp2_with fail
    go_ret
    exact ⟨by rw [E.out]; rfl, rfl⟩
  have g2 : decide (r < 2048) = false := by simp; omega
  by_cases h3 : r < 65536
  · have E : Hid (q = 3) := xoo (by rw [He.out, if_neg h1, if_neg h2, if_pos h3])
    clear He
    go_enter Tryz.func163, Tryz.ntmps163
    go_wp2_with fail
    refine (HI.out _).mono ?_
    rintro e w1 ⟨rfl, rfl⟩
    go_wp2_with fail
    go_ret
    exact ⟨by rw [E.out]; rfl, rfl⟩
  have g3 : decide (r < 65536) = false := by simp; omega
  have E : Hid (q = 4) := xoo (by rw [He.out, if_neg h1, if_neg h2, if_neg h3])
  clear He
  go_enter Tryz.func163, Tryz.ntmps163
  go_wp2_with fail
  refine (HI.out _).mono ?_
  rintro e w1 ⟨rfl, rfl⟩
  go_wp2_with fail
  go_ret
  exact ⟨by rw [E.out]; rfl, rfl⟩
theorem xdj (a : Nat) (ha : a < 9223372036854775808) : (BitVec.ofInt 64 (a : Int)).toNat = a := by
 rw [BitVec.ofInt_natCast, BitVec.toNat_ofNat]; exact Nat.mod_eq_of_lt (by omega)
theorem or_64 (a b : Nat) (ha : a < 1099511627776) (hb : b < 64) : bits .or .i64 ((a : Int) * 64) (b : Int) = (a : Int) * 64 + b := by
 have e : (a : Int) * 64 = ((a * 64 : Nat) : Int) := by omega
 rw [e]
 show IntKind.i64.wrap ((BitVec.ofInt 64 ((a * 64 : Nat) : Int) ||| BitVec.ofInt 64 (b : Int)).toNat : Int) = _
 rw [BitVec.toNat_or, xdj _ (by omega), xdj _ (by omega)]
 have h := Nat.shiftLeft_add_eq_or_of_lt (i := 6) (show b < 2 ^ 6 by omega) a
 rw [Nat.shiftLeft_eq] at h
 rw [show a * 64 = a * 2 ^ 6 by omega, ← h, IntKind.wrap_i64]
 omega
theorem xie (n k : Nat) (hk : k < 16) (hn : n < 256) : bits .and .i64 (n : Int) ((2 ^ k - 1 : Nat) : Int) = ((n % 2 ^ k : Nat) : Int) := by
 have hp : 2 ^ k ≤ 2 ^ 16 := Nat.pow_le_pow_right (by omega) (by omega)
 show IntKind.i64.wrap ((BitVec.ofInt 64 (n : Int) &&& BitVec.ofInt 64 ((2 ^ k - 1 : Nat) : Int)).toNat : Int) = _
 rw [BitVec.toNat_and, xdj _ (by omega), xdj _ (by omega), Nat.and_two_pow_sub_one_eq_mod, IntKind.wrap_i64]
 have : n % 2 ^ k ≤ n := Nat.mod_le _ _
 omega
def xbm (r : Nat) : List UInt8 → Option Nat
 | [] => some r
 | c :: l => if c.toNat / 64 = 2 then xbm (r * 64 + c.toNat % 64) l else none
def xbR (c : UInt8) : Nat := if 1 < lenP c.toNat then c.toNat % 2 ^ (7 - lenP c.toNat) else c.toNat
def getP : List UInt8 → Int × Nat
 | [] => (65533, 0)
 | c :: l => if lenP c.toNat = 0 ∨ l.length + 1 < lenP c.toNat then (65533, 1) else
  match xbm (xbR c) (l.take (lenP c.toNat - 1)) with
  | none => (65533, 1)
  | some r => if sizP r = lenP c.toNat then (r, lenP c.toNat) else (65533, 1)
theorem xj3 (c : Nat) (w : World) (hc : c < 256) : Calls Tryz.prog 193 #[.int .u8 (c : Int)] w fun e w' => e = .returned (.int .i64 (lenP c)) ∧ w = w' := by
 have He : Hid (lenP c = if c < 128 then 1 else if 194 ≤ c ∧ c < 224 then 2 else if 224 ≤ c ∧ c < 240 then 3 else if 240 ≤ c ∧ c < 245 then 4 else 0) := xoo rfl
 generalize lenP c = q at *
 have gg : (c < 128 ∧ q = 1) ∨ (128 ≤ c ∧ c < 194 ∧ q = 0) ∨ (194 ≤ c ∧ c < 224 ∧ q = 2) ∨ (224 ≤ c ∧ c < 240 ∧ q = 3) ∨ (240 ≤ c ∧ c < 245 ∧ q = 4) ∨ (245 ≤ c ∧ q = 0) := by
  have h := He.out
  split at h
  · left; omega
  split at h
  · omega
  split at h
  · omega
  split at h <;> omega
 clear He
 rcases gg with ⟨h1, rfl⟩ | ⟨h1, h2, rfl⟩ | ⟨h1, h2, rfl⟩ | ⟨h1, h2, rfl⟩ | ⟨h1, h2, rfl⟩ | ⟨h1, rfl⟩
 · have g1 : decide ((c : Int) < 128) = true := by simp; omega
   go_enter Tryz.func193, Tryz.ntmps193
   go_wp2_with fail
   go_ret
   exact ⟨rfl, rfl⟩
 all_goals
  have g1 : decide ((c : Int) < 128) = false := by simp; omega
  obtain ⟨b1, e1⟩ : ∃ b, decide ((194 : Int) ≤ (c : Int)) = b := ⟨_, rfl⟩
  obtain ⟨b2, e2⟩ : ∃ b, decide ((c : Int) < 224) = b := ⟨_, rfl⟩
  obtain ⟨b3, e3⟩ : ∃ b, decide ((224 : Int) ≤ (c : Int)) = b := ⟨_, rfl⟩
  obtain ⟨b4, e4⟩ : ∃ b, decide ((c : Int) < 240) = b := ⟨_, rfl⟩
  obtain ⟨b5, e5⟩ : ∃ b, decide ((240 : Int) ≤ (c : Int)) = b := ⟨_, rfl⟩
  obtain ⟨b6, e6⟩ : ∃ b, decide ((c : Int) < 245) = b := ⟨_, rfl⟩
  cases b1 <;> cases b2 <;> cases b3 <;> cases b4 <;> cases b5 <;> cases b6 <;> first | (exfalso; simp at e1 e2 e3 e4 e5 e6; omega) | skip
  all_goals
   go_enter Tryz.func193, Tryz.ntmps193
   go_wp2_with fail
   go_ret
   exact ⟨rfl, rfl⟩
def GetR (r0 : Nat) (L : List UInt8) (rv iv : Value) : Prop :=
 ∃ (i r : Nat), iv = .int .i64 i ∧ i ≤ L.length ∧ rv = .int .i64 r ∧ r < 128 * 64 ^ i ∧ xbm r0 L = xbm r (L.drop i)
theorem xnv (b off cap n : Nat) (c : UInt8) (l : List UInt8) (w : World) (hn : n = l.length + 1) (hcap : n ≤ cap)
 (hc : ∀ i x, (c :: l)[i]? = some x → w.cell? ⟨b, off + i, none⟩ = some (.int .u8 (x.toNat : Int))) :
 Calls Tryz.prog 162 #[.slice (some ⟨b, off, none⟩) n cap] w fun e w' => e = .returned (.tuple #[.int .i64 (getP (c :: l)).1, .int .i64 ((getP (c :: l)).2 : Int)]) ∧ w = w' := by
 have hc8 := c.toNat_lt
 have c0 := hc 0 c rfl
 simp only [Nat.add_zero] at c0
 have HC := xoo hc
 clear hc
 have HL := xoo (fun W => xj3 c.toNat W (by omega))
 have hn1 : 1 ≤ n := by omega
 have hn0 : ((n : Int) == 0) = false := by simp; omega
 have Hn := xoo hn
 have Hg : Hid (getP (c :: l) = if lenP c.toNat = 0 ∨ l.length + 1 < lenP c.toNat then (65533, 1) else
  match xbm (xbR c) (l.take (lenP c.toNat - 1)) with
  | none => (65533, 1)
  | some r => if sizP r = lenP c.toNat then ((r : Int), lenP c.toNat) else (65533, 1)) := xoo rfl
 generalize getP (c :: l) = G at *
 have Hh : Hid (xbR c = if 1 < lenP c.toNat then c.toNat % 2 ^ (7 - lenP c.toNat) else c.toNat) := xoo rfl
 clear hn
 have hq : lenP c.toNat = 0 ∨ lenP c.toNat = 1 ∨ lenP c.toNat = 2 ∨ lenP c.toNat = 3 ∨ lenP c.toNat = 4 := by
  unfold lenP; split; · omega
  · split; · omega
    · split; · omega
      · split <;> omega
 by_cases hbad : lenP c.toNat = 0 ∨ n < lenP c.toNat
 · have E : Hid (G = (65533, 1)) := xoo (by rw [Hg.out]; exact if_pos (by have := Hn.out; omega))
   clear Hg Hh
   generalize lenP c.toNat = q at *
   by_cases h0 : q = 0
   · subst h0
     go_enter Tryz.func162, Tryz.ntmps162
     go_wp2_with fail
     refine (HL.out _).mono ?_
     rintro e w1 ⟨rfl, rfl⟩
     go_wp2_with fail
     go_ret2
     exact ⟨by rw [E.out]; rfl, rfl⟩
   have g1 : ((q : Int) == 0) = false := by simp; omega
   have g2 : decide ((n : Int) < (q : Int)) = true := by simp; omega
   have g3 : decide (n < q) = true := by simp; omega
   clear hbad hq
   go_enter Tryz.func162, Tryz.ntmps162
   go_wp2_with fail
   refine (HL.out _).mono ?_
   rintro e w1 ⟨rfl, rfl⟩
   go_wp2_with fail
   go_ret2
   exact ⟨by rw [E.out]; rfl, rfl⟩
 have E : Hid (G = match xbm (xbR c) (l.take (lenP c.toNat - 1)) with
 | none => (65533, 1)
 | some r => if sizP r = lenP c.toNat then ((r : Int), lenP c.toNat) else (65533, 1)) := xoo (by rw [Hg.out]; exact if_neg (by have := Hn.out; omega))
 clear Hg
 have hL : (l.take (lenP c.toNat - 1)).length = lenP c.toNat - 1 := by rw [List.length_take]; have := Hn.out; omega
 have HcL : Hid (∀ i x, (l.take (lenP c.toNat - 1))[i]? = some x → w.cell? ⟨b, off + 1 + i, none⟩ = some (.int .u8 (x.toNat : Int))) := xoo (fun i x hx => by
  rw [show off + 1 + i = off + (i + 1) by omega]
  refine HC.out (i + 1) x ?_
  rw [List.getElem?_take] at hx
  split at hx
  · simpa using hx
  cases hx)
 generalize l.take (lenP c.toNat - 1) = L at *
 generalize xbR c = r0 at *
 by_cases h1 : lenP c.toNat = 1
 · rw [h1] at HL Hh E hL
   have hc128 : c.toNat < 128 := by
    unfold lenP at h1
    split at h1
    · assumption
    split at h1
    · omega
    split at h1
    · omega
    split at h1 <;> omega
   have hr0 : Hid (r0 = c.toNat) := xoo (by rw [Hh.out]; rfl)
   have hr0b : r0 < 128 := by rw [hr0.out]; omega
   have hLl : L.length = 0 := by omega
   clear Hh hL hbad hq h1
   have g2 : decide ((n : Int) < 1) = false := by simp; omega
   by_cases hc1 : cap = 1
   · subst hc1
     obtain rfl : n = 1 := by omega
     go_enter Tryz.func162, Tryz.ntmps162
     go_wp2_with fail
     refine (HL.out _).mono ?_
     rintro e w1 ⟨rfl, rfl⟩
     go_wp2_with fail
     go_loop [5, 39] (fun rv iv => GetR r0 L rv iv) (fun _ iv => L.length - (intOf iv).toNat)
     case atStart => exact ⟨0, r0, rfl, Nat.zero_le _, by rw [hr0.out], by omega, rfl⟩
     case round =>
      obtain ⟨i, r, rfl, hi, rfl, hr, ht⟩ := hrel
      have hi4 : i ≤ 3 := by omega
      have hrb : r < 33554432 := by
       have : 64 ^ i ≤ 64 ^ 3 := Nat.pow_le_pow_right (by omega) hi4
       omega
      have Ht := xoo ht
      have Hr := xoo hr
      clear ht hr
      by_cases hil : i < L.length
      · exact absurd hil (by omega)
      have hLi : i = L.length := by omega
      have EE : Hid (G = if sizP r = ((1 : Nat) : Int) then ((r : Int), 1) else (65533, 1)) := xoo (by rw [E.out, Ht.out, List.drop_eq_nil_of_le (by omega), xbm])
      have HS := xoo (fun W => xby r W)
      by_cases hs : sizP r = 1
      · have E2 : Hid (G = ((r : Int), 1)) := xoo (by rw [EE.out]; exact if_pos hs)
        rw [hs] at HS
        clear EE hs hLi
        go_wp2_with fail
        refine (HS.out _).mono ?_
        rintro e w1 ⟨rfl, rfl⟩
        go_wp2_with fail
        go_ret2
        exact ⟨by rw [E2.out]; rfl, rfl⟩
      have E2 : Hid (G = (65533, 1)) := xoo (by rw [EE.out]; exact if_neg hs)
      have g5 : (sizP r != 1) = true := by simp only [bne_iff_ne, ne_eq]; exact hs
      clear EE hs hLi
      generalize sizP r = sz at *
      go_wp2_with fail
      refine (HS.out _).mono ?_
      rintro e w1 ⟨rfl, rfl⟩
      go_wp2_with fail
      go_ret2
      exact ⟨by rw [E2.out]; rfl, rfl⟩
   have g4 : ¬ cap - 1 = 0 := by omega
   go_enter Tryz.func162, Tryz.ntmps162
   go_wp2_with fail
   refine (HL.out _).mono ?_
   rintro e w1 ⟨rfl, rfl⟩
   go_wp2_with fail
   go_loop [5, 39] (fun rv iv => GetR r0 L rv iv) (fun _ iv => L.length - (intOf iv).toNat)
   case atStart => exact ⟨0, r0, rfl, Nat.zero_le _, by rw [hr0.out], by omega, rfl⟩
   case round =>
    obtain ⟨i, r, rfl, hi, rfl, hr, ht⟩ := hrel
    have hi4 : i ≤ 3 := by omega
    have hrb : r < 33554432 := by
     have : 64 ^ i ≤ 64 ^ 3 := Nat.pow_le_pow_right (by omega) hi4
     omega
    have Ht := xoo ht
    have Hr := xoo hr
    clear ht hr
    by_cases hil : i < L.length
    · exact absurd hil (by omega)
    have hLi : i = L.length := by omega
    have EE : Hid (G = if sizP r = ((1 : Nat) : Int) then ((r : Int), 1) else (65533, 1)) := xoo (by rw [E.out, Ht.out, List.drop_eq_nil_of_le (by omega), xbm])
    have HS := xoo (fun W => xby r W)
    by_cases hs : sizP r = 1
    · have E2 : Hid (G = ((r : Int), 1)) := xoo (by rw [EE.out]; exact if_pos hs)
      rw [hs] at HS
      clear EE hs hLi
      go_wp2_with fail
      refine (HS.out _).mono ?_
      rintro e w1 ⟨rfl, rfl⟩
      go_wp2_with fail
      go_ret2
      exact ⟨by rw [E2.out]; rfl, rfl⟩
    have E2 : Hid (G = (65533, 1)) := xoo (by rw [EE.out]; exact if_neg hs)
    have g5 : (sizP r != 1) = true := by simp only [bne_iff_ne, ne_eq]; exact hs
    clear EE hs hLi
    generalize sizP r = sz at *
    go_wp2_with fail
    refine (HS.out _).mono ?_
    rintro e w1 ⟨rfl, rfl⟩
    go_wp2_with fail
    go_ret2
    exact ⟨by rw [E2.out]; rfl, rfl⟩
 have hq2 : lenP c.toNat = 2 ∨ lenP c.toNat = 3 ∨ lenP c.toNat = 4 := by omega
 clear hq h1
 rcases hq2 with h2 | h2 | h2
 · rw [h2] at HL Hh E hL
   have hr0 : Hid (r0 = c.toNat % 2 ^ (7 - 2)) := xoo (by rw [Hh.out]; rfl)
   have hr0b : r0 < 128 := by rw [hr0.out]; omega
   have hqn : 2 ≤ n := by omega
   have hLl : L.length = 2 - 1 := hL
   have g2 : decide ((n : Int) < 2) = false := by simp; omega
   have g4 : ¬ cap = 1 := by omega
   clear hL hbad h2 Hh
   go_enter Tryz.func162, Tryz.ntmps162
   go_wp2_with fail
   refine (HL.out _).mono ?_
   rintro e w1 ⟨rfl, rfl⟩
   go_wp2_with fail
   go_loop [5, 39] (fun rv iv => GetR r0 L rv iv) (fun _ iv => L.length - (intOf iv).toNat)
   case atStart => exact ⟨0, r0, rfl, Nat.zero_le _, by rw [hr0.out]; have h6 := xie c.toNat 5 (by omega) (by omega); exact congrArg (Value.int .i64) (by simpa using h6), by omega, rfl⟩
   case round =>
    obtain ⟨i, r, rfl, hi, rfl, hr, ht⟩ := hrel
    have hi4 : i ≤ 3 := by omega
    have hrb : r < 33554432 := by
     have : 64 ^ i ≤ 64 ^ 3 := Nat.pow_le_pow_right (by omega) hi4
     omega
    have Ht := xoo ht
    have Hr := xoo hr
    clear ht hr
    by_cases hil : i < L.length
    · obtain ⟨x, hx⟩ : ∃ x, L[i]? = some x := ⟨_, List.getElem?_eq_getElem hil⟩
      have cx := HcL.out i x hx
      have Hd : Hid (L.drop i = x :: L.drop (i + 1)) := xoo (by
       obtain ⟨h1, h2⟩ := List.getElem?_eq_some_iff.1 hx
       rw [List.drop_eq_getElem_cons h1, h2])
      have hx8 := x.toNat_lt
      have hil2 : i < 2 - 1 := by omega
      clear hx
      by_cases hx2 : x.toNat / 64 = 2
      · have g3 : ((x.toNat : Int) / 64 != 2) = false := by
         have : (x.toNat : Int) / 64 = 2 := by omega
         rw [this]; rfl
        have Hx2 := xoo hx2
        clear hx2
        go_wp2_with fail
        go_round
        case rel =>
         refine ⟨i + 1, r * 64 + x.toNat % 64, by go_num, by omega, ?_, ?_, ?_⟩
         · have := or_64 r (x.toNat % 64) (by omega) (by omega)
           rw [show ((x.toNat : Int) % 64) = ((x.toNat % 64 : Nat) : Int) by omega, this]
           exact congrArg (Value.int .i64) (by omega)
         · have h5 := Hr.out
           rw [Nat.pow_succ]; omega
         rw [Ht.out, Hd.out, xbm, if_pos Hx2.out]
        case measure => simp [intOf]; omega
      have g3 : ((x.toNat : Int) / 64 != 2) = true := by
       simp only [bne_iff_ne, ne_eq]; omega
      have EE : Hid (G = (65533, 1)) := xoo (by rw [E.out, Ht.out, Hd.out, xbm, if_neg hx2])
      clear hx2
      go_wp2_with fail
      go_ret2
      exact ⟨by rw [EE.out]; rfl, rfl⟩
    have hLi : i = L.length := by omega
    have EE : Hid (G = if sizP r = ((2 : Nat) : Int) then ((r : Int), 2) else (65533, 1)) := xoo (by rw [E.out, Ht.out, List.drop_eq_nil_of_le (by omega), xbm])
    have HS := xoo (fun W => xby r W)
    by_cases hs : sizP r = 2
    · have E2 : Hid (G = ((r : Int), 2)) := xoo (by rw [EE.out]; exact if_pos hs)
      rw [hs] at HS
      clear EE hs hLi
      go_wp2_with fail
      refine (HS.out _).mono ?_
      rintro e w1 ⟨rfl, rfl⟩
      go_wp2_with fail
      go_ret2
      exact ⟨by rw [E2.out]; rfl, rfl⟩
    have E2 : Hid (G = (65533, 1)) := xoo (by rw [EE.out]; exact if_neg hs)
    have g5 : (sizP r != 2) = true := by simp only [bne_iff_ne, ne_eq]; exact hs
    clear EE hs hLi
    generalize sizP r = sz at *
    go_wp2_with fail
    refine (HS.out _).mono ?_
    rintro e w1 ⟨rfl, rfl⟩
    go_wp2_with fail
    go_ret2
    exact ⟨by rw [E2.out]; rfl, rfl⟩
 · rw [h2] at HL Hh E hL
   have hr0 : Hid (r0 = c.toNat % 2 ^ (7 - 3)) := xoo (by rw [Hh.out]; rfl)
   have hr0b : r0 < 128 := by rw [hr0.out]; omega
   have hqn : 3 ≤ n := by omega
   have hLl : L.length = 3 - 1 := hL
   have g2 : decide ((n : Int) < 3) = false := by simp; omega
   have g4 : ¬ cap = 1 := by omega
   clear hL hbad h2 Hh
   go_enter Tryz.func162, Tryz.ntmps162
   go_wp2_with fail
   refine (HL.out _).mono ?_
   rintro e w1 ⟨rfl, rfl⟩
   go_wp2_with fail
   go_loop [5, 39] (fun rv iv => GetR r0 L rv iv) (fun _ iv => L.length - (intOf iv).toNat)
   case atStart => exact ⟨0, r0, rfl, Nat.zero_le _, by rw [hr0.out]; have h6 := xie c.toNat 4 (by omega) (by omega); exact congrArg (Value.int .i64) (by simpa using h6), by omega, rfl⟩
   case round =>
    obtain ⟨i, r, rfl, hi, rfl, hr, ht⟩ := hrel
    have hi4 : i ≤ 3 := by omega
    have hrb : r < 33554432 := by
     have : 64 ^ i ≤ 64 ^ 3 := Nat.pow_le_pow_right (by omega) hi4
     omega
    have Ht := xoo ht
    have Hr := xoo hr
    clear ht hr
    by_cases hil : i < L.length
    · obtain ⟨x, hx⟩ : ∃ x, L[i]? = some x := ⟨_, List.getElem?_eq_getElem hil⟩
      have cx := HcL.out i x hx
      have Hd : Hid (L.drop i = x :: L.drop (i + 1)) := xoo (by
       obtain ⟨h1, h2⟩ := List.getElem?_eq_some_iff.1 hx
       rw [List.drop_eq_getElem_cons h1, h2])
      have hx8 := x.toNat_lt
      have hil2 : i < 3 - 1 := by omega
      clear hx
      by_cases hx2 : x.toNat / 64 = 2
      · have g3 : ((x.toNat : Int) / 64 != 2) = false := by
         have : (x.toNat : Int) / 64 = 2 := by omega
         rw [this]; rfl
        have Hx2 := xoo hx2
        clear hx2
        go_wp2_with fail
        go_round
        case rel =>
         refine ⟨i + 1, r * 64 + x.toNat % 64, by go_num, by omega, ?_, ?_, ?_⟩
         · have := or_64 r (x.toNat % 64) (by omega) (by omega)
           rw [show ((x.toNat : Int) % 64) = ((x.toNat % 64 : Nat) : Int) by omega, this]
           exact congrArg (Value.int .i64) (by omega)
         · have h5 := Hr.out
           rw [Nat.pow_succ]; omega
         rw [Ht.out, Hd.out, xbm, if_pos Hx2.out]
        case measure => simp [intOf]; omega
      have g3 : ((x.toNat : Int) / 64 != 2) = true := by
       simp only [bne_iff_ne, ne_eq]; omega
      have EE : Hid (G = (65533, 1)) := xoo (by rw [E.out, Ht.out, Hd.out, xbm, if_neg hx2])
      clear hx2
      go_wp2_with fail
      go_ret2
      exact ⟨by rw [EE.out]; rfl, rfl⟩
    have hLi : i = L.length := by omega
    have EE : Hid (G = if sizP r = ((3 : Nat) : Int) then ((r : Int), 3) else (65533, 1)) := xoo (by rw [E.out, Ht.out, List.drop_eq_nil_of_le (by omega), xbm])
    have HS := xoo (fun W => xby r W)
    by_cases hs : sizP r = 3
    · have E2 : Hid (G = ((r : Int), 3)) := xoo (by rw [EE.out]; exact if_pos hs)
      rw [hs] at HS
      clear EE hs hLi
      go_wp2_with fail
      refine (HS.out _).mono ?_
      rintro e w1 ⟨rfl, rfl⟩
      go_wp2_with fail
      go_ret2
      exact ⟨by rw [E2.out]; rfl, rfl⟩
    have E2 : Hid (G = (65533, 1)) := xoo (by rw [EE.out]; exact if_neg hs)
    have g5 : (sizP r != 3) = true := by simp only [bne_iff_ne, ne_eq]; exact hs
    clear EE hs hLi
    generalize sizP r = sz at *
    go_wp2_with fail
    refine (HS.out _).mono ?_
    rintro e w1 ⟨rfl, rfl⟩
    go_wp2_with fail
    go_ret2
    exact ⟨by rw [E2.out]; rfl, rfl⟩
 rw [h2] at HL Hh E hL
 have hr0 : Hid (r0 = c.toNat % 2 ^ (7 - 4)) := xoo (by rw [Hh.out]; rfl)
 have hr0b : r0 < 128 := by rw [hr0.out]; omega
 have hqn : 4 ≤ n := by omega
 have hLl : L.length = 4 - 1 := hL
 have g2 : decide ((n : Int) < 4) = false := by simp; omega
 have g4 : ¬ cap = 1 := by omega
 clear hL hbad h2 Hh
 go_enter Tryz.func162, Tryz.ntmps162
 go_wp2_with fail
 refine (HL.out _).mono ?_
 rintro e w1 ⟨rfl, rfl⟩
 go_wp2_with fail
 go_loop [5, 39] (fun rv iv => GetR r0 L rv iv) (fun _ iv => L.length - (intOf iv).toNat)
 case atStart => exact ⟨0, r0, rfl, Nat.zero_le _, by rw [hr0.out]; have h6 := xie c.toNat 3 (by omega) (by omega); exact congrArg (Value.int .i64) (by simpa using h6), by omega, rfl⟩
 case round =>
  obtain ⟨i, r, rfl, hi, rfl, hr, ht⟩ := hrel
  have hi4 : i ≤ 3 := by omega
  have hrb : r < 33554432 := by
   have : 64 ^ i ≤ 64 ^ 3 := Nat.pow_le_pow_right (by omega) hi4
   omega
  have Ht := xoo ht
  have Hr := xoo hr
  clear ht hr
  by_cases hil : i < L.length
  · obtain ⟨x, hx⟩ : ∃ x, L[i]? = some x := ⟨_, List.getElem?_eq_getElem hil⟩
    have cx := HcL.out i x hx
    have Hd : Hid (L.drop i = x :: L.drop (i + 1)) := xoo (by
     obtain ⟨h1, h2⟩ := List.getElem?_eq_some_iff.1 hx
     rw [List.drop_eq_getElem_cons h1, h2])
    have hx8 := x.toNat_lt
    have hil2 : i < 4 - 1 := by omega
    clear hx
    by_cases hx2 : x.toNat / 64 = 2
    · have g3 : ((x.toNat : Int) / 64 != 2) = false := by
       have : (x.toNat : Int) / 64 = 2 := by omega
       rw [this]; rfl
      have Hx2 := xoo hx2
      clear hx2
      go_wp2_with fail
      go_round
      case rel =>
       refine ⟨i + 1, r * 64 + x.toNat % 64, by go_num, by omega, ?_, ?_, ?_⟩
       · have := or_64 r (x.toNat % 64) (by omega) (by omega)
         rw [show ((x.toNat : Int) % 64) = ((x.toNat % 64 : Nat) : Int) by omega, this]
         exact congrArg (Value.int .i64) (by omega)
       · have h5 := Hr.out
         rw [Nat.pow_succ]; omega
       rw [Ht.out, Hd.out, xbm, if_pos Hx2.out]
      case measure => simp [intOf]; omega
    have g3 : ((x.toNat : Int) / 64 != 2) = true := by
     simp only [bne_iff_ne, ne_eq]; omega
    have EE : Hid (G = (65533, 1)) := xoo (by rw [E.out, Ht.out, Hd.out, xbm, if_neg hx2])
    clear hx2
    go_wp2_with fail
    go_ret2
    exact ⟨by rw [EE.out]; rfl, rfl⟩
  have hLi : i = L.length := by omega
  have EE : Hid (G = if sizP r = ((4 : Nat) : Int) then ((r : Int), 4) else (65533, 1)) := xoo (by rw [E.out, Ht.out, List.drop_eq_nil_of_le (by omega), xbm])
  have HS := xoo (fun W => xby r W)
  by_cases hs : sizP r = 4
  · have E2 : Hid (G = ((r : Int), 4)) := xoo (by rw [EE.out]; exact if_pos hs)
    rw [hs] at HS
    clear EE hs hLi
    go_wp2_with fail
    refine (HS.out _).mono ?_
    rintro e w1 ⟨rfl, rfl⟩
    go_wp2_with fail
    go_ret2
    exact ⟨by rw [E2.out]; rfl, rfl⟩
  have E2 : Hid (G = (65533, 1)) := xoo (by rw [EE.out]; exact if_neg hs)
  have g5 : (sizP r != 4) = true := by simp only [bne_iff_ne, ne_eq]; exact hs
  clear EE hs hLi
  generalize sizP r = sz at *
  go_wp2_with fail
  refine (HS.out _).mono ?_
  rintro e w1 ⟨rfl, rfl⟩
  go_wp2_with fail
  go_ret2
  exact ⟨by rw [E2.out]; rfl, rfl⟩
def ptsP : Nat → List UInt8 → Option (List Int)
 | 0, _ => some []
 | f + 1, l => if l = [] then some [] else if sizP (getP l).1 = (getP l).2 then (ptsP f (l.drop (getP l).2)).map ((getP l).1 :: ·) else none
theorem xcx (c : UInt8) (l : List UInt8) : getP (c :: l) = if lenP c.toNat = 0 ∨ l.length + 1 < lenP c.toNat then (65533, 1) else
 match xbm (xbR c) (l.take (lenP c.toNat - 1)) with
 | none => (65533, 1)
 | some r => if sizP r = lenP c.toNat then ((r : Int), lenP c.toNat) else (65533, 1) := rfl
theorem xdt (c : UInt8) (l : List UInt8) : 1 ≤ (getP (c :: l)).2 ∧ (getP (c :: l)).2 ≤ 4 := by
 have hq : lenP c.toNat ≤ 4 := by unfold lenP; split <;> (try split) <;> (try split) <;> (try split) <;> omega
 rw [xcx]
 by_cases h : lenP c.toNat = 0 ∨ l.length + 1 < lenP c.toNat
 · rw [if_pos h]; simp
 rw [if_neg h]
 split
 · simp
 split
 · simp; omega
 simp
theorem xlJ (c : UInt8) (l : List UInt8) : (getP (c :: l)).2 ≤ l.length + 1 := by
 rw [xcx]
 by_cases h : lenP c.toNat = 0 ∨ l.length + 1 < lenP c.toNat
 · rw [if_pos h]; simp
 rw [if_neg h]
 split
 · simp
 split
 · simp; omega
 simp
def pts (l : List UInt8) : Option (List Int) := ptsP l.length l
theorem xds : (Tryz.prog.info? 3).map (fun i => (i.zero, i.size, i.bytes)) = some (some (.int .i64 0), 1, 8) := by kernel_rfl
def BS (X : Nat) (w : World) (v : Value) (rest : List UInt8) : Prop :=
 ∃ a cap, v = .slice a rest.length cap ∧ rest.length ≤ cap ∧ (rest ≠ [] → ∃ off, a = some ⟨X, off, none⟩ ∧ ∀ i x, rest[i]? = some x → w.cell? ⟨X, off + i, none⟩ = some (.int .u8 (x.toNat : Int)))
def PtsR (l : List UInt8) (X base : Nat) (w1 : World) (ov bv : Value) (wr : World) : Prop :=
 ∃ (f : Nat) (rest : List UInt8) (acc : List Int), rest.length ≤ f ∧ acc.length + rest.length ≤ l.length ∧ BS X wr bv rest ∧ wr.ownsRow base 3 1 ov acc.length (acc.map (Value.int .i64)) ∧ xa (fun k => base ≤ k) w1 wr ∧ pts l = (ptsP f rest).map (acc ++ ·)
def PtsE (base : Nat) (l : List UInt8) (e : Ending) (w' : World) : Prop :=
 match pts l with
 | none => e = .returned (.tuple #[.slice none 0 0, .bool false])
 | some rs => ∃ v, e = .returned (.tuple #[v, .bool true]) ∧ w'.ownsRow base 3 1 v rs.length (rs.map (Value.int .i64))
def xb2 : Value → Nat
 | .slice _ n _ => n
 | _ => 0
theorem xjH (l : List UInt8) (w : World) (hl : l.length ≤ 100000) :
 Calls Tryz.prog 127 #[.string ⟨l.toArray⟩] w fun e w' => PtsE w.heap.size l e w' ∧ xa (fun _ => False) w w' := by
 obtain ⟨i0, hi0, hz0, hz1, hz2⟩ := info_parts xds
 have Hs : Hid ((⟨l.toArray⟩ : ByteArray).data.toList = l) := rfl
 have Hz : Hid ((⟨l.toArray⟩ : ByteArray).size = l.length) := by show l.toArray.size = _; simp
 generalize (⟨l.toArray⟩ : ByteArray) = s at *
 go_enter Tryz.func127, Tryz.ntmps127
 go_upto_region 2 with fail
 have hconv := fun W => Lib.run_convert_string_bytes (P := Tryz.prog) W 9 26 5 s Tryz.underlying9 Tryz.underlying26 Tryz.underlying5
 go_wp2_with fail
 clear hconv
 have hW0 : xa (fun _ => False) w (Lib.bytesWorld w 5 s) := ⟨rfl, rfl, rfl, by rw [Lib.bytesWorld_size]; omega, fun k hk _ => Lib.bytesWorld_at_old w 5 s k hk⟩
 have hX0 : ∀ j x, l[j]? = some x → (Lib.bytesWorld w 5 s).cell? ⟨w.heap.size, 0 + j, none⟩ = some (.int .u8 (x.toNat : Int)) := fun j x hx => by
  have hj : j < l.length := (List.getElem?_eq_some_iff.1 hx).1
  have := Lib.bytesWorld_cell w 5 s j (by rw [Hz.out]; exact hj)
  rw [Hs.out, List.getD_eq_getElem?_getD, hx] at this
  rw [Nat.zero_add]; exact this
 have hsz : (Lib.bytesWorld w 5 s).heap.size = w.heap.size + 1 := Lib.bytesWorld_size _ _ _
 have hcp := grownCap_ge w s.size 0 5
 have hcp2 := grownCap_le_maxLen w s.size 0 5 (by rw [Hz.out]; unfold maxLen; omega)
 generalize grownCap w s.size 0 5 = cp at *
 generalize Lib.bytesWorld w 5 s = w1 at *
 unfold maxLen at hcp2
 rw [Hz.out] at hcp ⊢
 have hB0 : BS w.heap.size w1 (.slice (some ⟨w.heap.size, 0, none⟩) l.length cp) l := ⟨_, cp, rfl, hcp, fun _ => ⟨0, rfl, hX0⟩⟩
 clear hX0 Hs Hz
 have Hsz := xoo hsz
 clear hsz
 go_loopw [4, 5] (fun ov bv wr => PtsR l w.heap.size (w.heap.size + 1) w1 ov bv wr) (fun _ bv _ => xb2 bv)
 case atStart => exact ⟨l.length, l, [], Nat.le_refl _, by simp, hB0, World.ownsRow_nil _ _ _ _, xa.refl _ _, by unfold pts; simp⟩
 case round =>
  clear hB0
  obtain ⟨f, rest, acc, hf, hlen, hB, hown, hk, hp⟩ := hrel
  have HB := xoo hB
  obtain ⟨a, cap, rfl, hcap, hcell⟩ := hB
  obtain ⟨va, vc, rfl⟩ := xac hown
  have hsw : w.heap.size + 1 ≤ wr.heap.size := by have := hk.size; rw [Hsz.out] at this; exact this
  have hkw : xa (fun _ => False) w wr := (hW0.trans2 (T := fun k => w.heap.size + 1 ≤ k) hk (fun i hi e => by omega))
  have Hp := xoo hp
  clear hp
  cases rest with
  | nil =>
   have E : Hid (pts l = some acc) := xoo (by rw [Hp.out]; cases f <;> simp [ptsP])
   clear hcell
   go_wp2_with fail
   go_ret2
   refine ⟨?_, hkw⟩
   unfold PtsE
   rw [E.out]
   exact ⟨_, rfl, ⟨hown.1, hown.2.imp id (fun ⟨g, c, cur, h1, h2, h3⟩ => ⟨g, c, cur, h1, by omega, h3⟩)⟩⟩
  | cons c t =>
   obtain ⟨g, rfl⟩ : ∃ g, f = g + 1 := ⟨f - 1, by simp at hf; omega⟩
   obtain ⟨off, rfl, hcc⟩ := hcell (by simp)
   have HC := xoo hcc
   have hp1 := (xdt c t).1
   have hp2 := xlJ c t
   have E : Hid (pts l = (if sizP (getP (c :: t)).1 = (getP (c :: t)).2 then (ptsP g ((c :: t).drop (getP (c :: t)).2)).map ((getP (c :: t)).1 :: ·) else none).map (acc ++ ·)) := xoo (by rw [Hp.out, ptsP, if_neg (by simp)])
   have HG := xoo (xnv w.heap.size off cap (t.length + 1) c t wr rfl (by simpa using hcap) hcc)
   clear hcc hcell Hp
   generalize getP (c :: t) = G at *
   obtain ⟨r, n⟩ := G
   simp only at hp1 hp2 E HG
   have HS := xoo (fun W => xby r W)
   have hlc : (c :: t).length = t.length + 1 := rfl
   simp only [List.length_cons] at hcap hf hlen hlc
   by_cases hs : sizP r = n
   · have E2 : Hid (pts l = ((ptsP g ((c :: t).drop n)).map (r :: ·)).map (acc ++ ·)) := xoo (by rw [E.out, if_pos hs])
     rw [hs] at HS
     have hdl : ((c :: t).drop n).length = t.length + 1 - n := by simp
     have hdc : ∀ i x, ((c :: t).drop n)[i]? = some x → wr.cell? ⟨w.heap.size, off + n + i, none⟩ = some (.int .u8 (x.toNat : Int)) := fun i x hx => by
      rw [List.getElem?_drop] at hx
      rw [Nat.add_assoc]; exact HC.out (n + i) x hx
     have Hdl := xoo hdl
     have Hdc := xoo hdc
     clear hs E hdl hdc
     generalize (c :: t).drop n = rest' at *
     have hgo : ∀ (o' : Nat) (v' : Value) (w2 : World), w2.ownsRow (w.heap.size + 1) 3 1 v' (acc ++ [r]).length ((acc ++ [r]).map (Value.int .i64)) → xa (fun k => w.heap.size + 1 ≤ k) w1 w2 → xa (fun k => w.heap.size + 1 ≤ k) wr w2 → (n < cap → o' = off + n) → PtsR l w.heap.size (w.heap.size + 1) w1 v' (.slice (some ⟨w.heap.size, o', none⟩) (t.length + 1 - n) (cap - n)) w2 := by
      intro o' v' w2 h1 h2 h3 h4
      refine ⟨g, rest', acc ++ [r], by rw [Hdl.out]; omega, by rw [Hdl.out]; simp; omega, ?_, h1, h2, ?_⟩
      · refine ⟨some ⟨w.heap.size, o', none⟩, cap - n, by rw [Hdl.out], by rw [Hdl.out]; omega, fun hne => ?_⟩
        have h5 : 0 < rest'.length := List.length_pos_iff.2 hne
        rw [Hdl.out] at h5
        refine ⟨o', rfl, fun i x hx => ?_⟩
        rw [h4 (by omega)]
        exact h3.cell (Hdc.out i x hx) (by show ¬ w.heap.size + 1 ≤ w.heap.size; omega)
      rw [E2.out, Option.map_map]
      congr 1
      funext q; simp
     have HGo := xoo hgo
     clear hgo
     by_cases hcn : cap = n
     · subst hcn
       go_wp2_with fail
       refine HG.out.mono ?_
       rintro e w2 ⟨rfl, rfl⟩
       go_wp2_with fail
       refine (HS.out _).mono ?_
       rintro e w2 ⟨rfl, rfl⟩
       go_wp2_with (at_builtin; refine wpList_append_own _ rfl (.tmp 22) (.tmp 24) 23 rfl (w.heap.size + 1) 3 i0 (.int .i64 0) 1 8 Tryz.underlying23 hi0 hz0 hz1 hz2 rfl (by decide) _ _ _ rfl (xab hown _) ⟨wr.heap.size, 0, none⟩ 1 1 [.int .i64 r] rfl rfl (by exact xan _ [_] _) (by intro u hu; simp at hu; subst hu; rfl) ?d3 ?d4 ?d5 ?_)
       case d3 => unfold maxLen; omega
       case d4 => omega
       case d5 => simp; omega
       intro v' w2 hown' hgrow _
       have hk2 : xa (fun k => w.heap.size + 1 ≤ k) wr w2 := ((xa.refl _ wr).alloc _).grown hgrow (fun b hb => Or.inl (xaa hown b hb))
       have hown2 : w2.ownsRow (w.heap.size + 1) 3 1 v' (acc ++ [r]).length ((acc ++ [r]).map (Value.int .i64)) := by simpa using hown'
       have Hown2 := xoo hown2
       clear hown' hgrow hown2
       go_wp2_with fail
       go_roundw
       case rel => first | exact HGo.out _ _ _ Hown2.out (hk.trans hk2) hk2 (fun h => by first | rfl | omega) | (have h9 := HGo.out off _ _ Hown2.out (hk.trans hk2) hk2 (fun h => by omega); rw [show t.length + 1 - cap = 0 by omega, Nat.sub_self] at h9; exact h9)
       case measure => first | (simp [xb2]; done) | (simp [xb2]; omega)
     have hcn2 : n < cap := by omega
     go_wp2_with fail
     refine HG.out.mono ?_
     rintro e w2 ⟨rfl, rfl⟩
     go_wp2_with fail
     refine (HS.out _).mono ?_
     rintro e w2 ⟨rfl, rfl⟩
     go_wp2_with (at_builtin; refine wpList_append_own _ rfl (.tmp 22) (.tmp 24) 23 rfl (w.heap.size + 1) 3 i0 (.int .i64 0) 1 8 Tryz.underlying23 hi0 hz0 hz1 hz2 rfl (by decide) _ _ _ rfl (xab hown _) ⟨wr.heap.size, 0, none⟩ 1 1 [.int .i64 r] rfl rfl (by exact xan _ [_] _) (by intro u hu; simp at hu; subst hu; rfl) ?d3 ?d4 ?d5 ?_)
     case d3 => unfold maxLen; omega
     case d4 => omega
     case d5 => simp; omega
     intro v' w2 hown' hgrow _
     have hk2 : xa (fun k => w.heap.size + 1 ≤ k) wr w2 := ((xa.refl _ wr).alloc _).grown hgrow (fun b hb => Or.inl (xaa hown b hb))
     have hown2 : w2.ownsRow (w.heap.size + 1) 3 1 v' (acc ++ [r]).length ((acc ++ [r]).map (Value.int .i64)) := by simpa using hown'
     have Hown2 := xoo hown2
     clear hown' hgrow hown2
     go_wp2_with fail
     go_roundw
     case rel => first | exact HGo.out _ _ _ Hown2.out (hk.trans hk2) hk2 (fun h => by first | rfl | omega) | (have h9 := HGo.out off _ _ Hown2.out (hk.trans hk2) hk2 (fun h => by omega); rw [show t.length + 1 - cap = 0 by omega, Nat.sub_self] at h9; exact h9)
     case measure => first | (simp [xb2]; done) | (simp [xb2]; omega)
   have E2 : Hid (pts l = none) := xoo (by rw [E.out, if_neg hs]; rfl)
   have g1 : (sizP r != (n : Int)) = true := by simp only [bne_iff_ne, ne_eq]; exact hs
   clear hs E
   generalize sizP r = sz at *
   go_wp2_with fail
   refine HG.out.mono ?_
   rintro e w2 ⟨rfl, rfl⟩
   go_wp2_with fail
   refine (HS.out _).mono ?_
   rintro e w2 ⟨rfl, rfl⟩
   go_wp2_with fail
   go_ret2
   refine ⟨?_, hkw⟩
   unfold PtsE
   rw [E2.out]
   rfl
end Go.Proofs.YtbifklibdkjbeaaGreatDoor
