/-
  Several texts in one: parse.points: what it computes. The parser's state, and its smallest steps: peek, next, take, want. The document's digits of a number. The document's code points: Is, Size, value, Put. The document's Put. code.Put: a code point's octets. Printed by mk_put.py. What decode, split, mode, model compute, in plain words.
-/
import Derived.Test.YtjahiihmoglpfaaGreatDoorMg1
import Derived.Lib.ConvBytes
import Derived.Deep.Cut
import Derived.Outline
import Derived.Deep.QuietTactic
import Derived.BigQuiet
import Derived.Lib.ItoaNum
import Derived.IntWalk
import Derived.RegionTactic
import Derived.BigRegion
import Derived.Lib.Strings
namespace Go.Proofs.YtjahiihmoglpfaaGreatDoor
open Go.RowKit
set_option linter.unusedVariables false
set_option linter.unusedSimpArgs false
set_option maxRecDepth 100000
def ptsP : Nat → List UInt8 → Option (List Int)
 | 0, _ => some []
 | f + 1, l => if l = [] then some [] else if sizP (getP l).1 = (getP l).2 then (ptsP f (l.drop (getP l).2)).map ((getP l).1 :: ·) else none
theorem xfF (c : UInt8) (l : List UInt8) : getP (c :: l) = if lenP c.toNat = 0 ∨ l.length + 1 < lenP c.toNat then (65533, 1) else
 match xa4 (xb6 c) (l.take (lenP c.toNat - 1)) with
 | none => (65533, 1)
 | some r => if sizP r = lenP c.toNat then ((r : Int), lenP c.toNat) else (65533, 1) := rfl
theorem xbS (c : UInt8) (l : List UInt8) : 1 ≤ (getP (c :: l)).2 ∧ (getP (c :: l)).2 ≤ 4 := by
 have hq : lenP c.toNat ≤ 4 := by unfold lenP; split <;> (try split) <;> (try split) <;> (try split) <;> omega
 rw [xfF]
 by_cases h : lenP c.toNat = 0 ∨ l.length + 1 < lenP c.toNat
 · rw [if_pos h]; simp
 rw [if_neg h]
 split
 · simp
 split
 · simp; omega
 simp
theorem xet (c : UInt8) (l : List UInt8) : (getP (c :: l)).2 ≤ l.length + 1 := by
 rw [xfF]
 by_cases h : lenP c.toNat = 0 ∨ l.length + 1 < lenP c.toNat
 · rw [if_pos h]; simp
 rw [if_neg h]
 split
 · simp
 split
 · simp; omega
 simp
def pts (l : List UInt8) : Option (List Int) := ptsP l.length l
theorem xbM : (Tryz.prog.info? 3).map (fun i => (i.zero, i.size, i.bytes)) = some (some (.int .i64 0), 1, 8) := by kernel_rfl
def BS (X : Nat) (w : World) (v : Value) (rest : List UInt8) : Prop :=
 ∃ a cap, v = .slice a rest.length cap ∧ rest.length ≤ cap ∧ (rest ≠ [] → ∃ off, a = some ⟨X, off, none⟩ ∧ ∀ i x, rest[i]? = some x → w.cell? ⟨X, off + i, none⟩ = some (.int .u8 (x.toNat : Int)))
theorem BS.keeps {X : Nat} {w w' : World} {v : Value} {rest : List UInt8} {S : Nat → Prop} (h : BS X w v rest) (K : xaa S w w') (hX : ¬ S X) : BS X w' v rest := by
 obtain ⟨a, cap, rfl, h1, h2⟩ := h
 refine ⟨a, cap, rfl, h1, fun hne => ?_⟩
 obtain ⟨off, rfl, h3⟩ := h2 hne
 exact ⟨off, rfl, fun i x hx => K.cell (h3 i x hx) hX⟩
def PtsR (l : List UInt8) (X base : Nat) (w1 : World) (ov bv : Value) (wr : World) : Prop :=
 ∃ (f : Nat) (rest : List UInt8) (acc : List Int), rest.length ≤ f ∧ acc.length + rest.length ≤ l.length ∧ BS X wr bv rest ∧ wr.ownsRow base 3 1 ov acc.length (acc.map (Value.int .i64)) ∧ xaa (fun k => base ≤ k) w1 wr ∧ pts l = (ptsP f rest).map (acc ++ ·)
def PtsE (base : Nat) (l : List UInt8) (e : Ending) (w' : World) : Prop :=
 match pts l with
 | none => e = .returned (.tuple #[.slice none 0 0, .bool false])
 | some rs => ∃ v, e = .returned (.tuple #[v, .bool true]) ∧ w'.ownsRow base 3 1 v rs.length (rs.map (Value.int .i64))
def xaR : Value → Nat
 | .slice _ n _ => n
 | _ => 0
set_option maxHeartbeats 2000000 in
theorem xiQ (l : List UInt8) (w : World) (hl : l.length ≤ 100000) :
 Calls Tryz.prog 61 #[.string ⟨l.toArray⟩] w fun e w' => PtsE w.heap.size l e w' ∧ xaa (fun _ => False) w w' := by
 obtain ⟨i0, hi0, hz0, hz1, hz2⟩ := info_parts xbM
 have Hs : Hid ((⟨l.toArray⟩ : ByteArray).data.toList = l) := rfl
 have Hz : Hid ((⟨l.toArray⟩ : ByteArray).size = l.length) := by show l.toArray.size = _; simp
 generalize (⟨l.toArray⟩ : ByteArray) = s at *
 go_enter Tryz.func61, Tryz.ntmps61
 go_upto_region 2 with fail
 have hconv := fun W => Lib.run_convert_string_bytes (P := Tryz.prog) W 9 22 5 s Tryz.underlying9 Tryz.underlying22 Tryz.underlying5
 go_wp2_with fail
 clear hconv
 have hW0 : xaa (fun _ => False) w (Lib.bytesWorld w 5 s) := ⟨rfl, rfl, rfl, by rw [Lib.bytesWorld_size]; omega, fun k hk _ => Lib.bytesWorld_at_old w 5 s k hk⟩
 have hX0 : ∀ j x, l[j]? = some x → (Lib.bytesWorld w 5 s).cell? ⟨w.heap.size, 0 + j, none⟩ = some (.int .u8 (x.toNat : Int)) := fun j x hx => by
  have hj : j < l.length := (List.getElem?_eq_some_iff.1 hx).1
  have := Lib.bytesWorld_cell w 5 s j (by rw [Hz.out]; exact hj)
  rw [Hs.out, List.getD_eq_getElem?_getD, hx] at this
  rw [Nat.zero_add]; exact this
 have hsz : (Lib.bytesWorld w 5 s).heap.size = w.heap.size + 1 := Lib.bytesWorld_size _ _ _
 have hcp := grownCap_ge w s.size 0 5
 have hcp2 := grownCap_le_maxLen w s.size 0 5 (by rw [Hz.out]; unfold maxLen; omega)
 generalize grownCap w s.size 0 5 = cp at *
 generalize Lib.bytesWorld w 5 s = w1 at *
 unfold maxLen at hcp2
 rw [Hz.out] at hcp ⊢
 have hB0 : BS w.heap.size w1 (.slice (some ⟨w.heap.size, 0, none⟩) l.length cp) l := ⟨_, cp, rfl, hcp, fun _ => ⟨0, rfl, hX0⟩⟩
 clear hX0 Hs Hz
 have Hsz := xmA hsz
 clear hsz
 go_loopw [4, 5] (fun ov bv wr => PtsR l w.heap.size (w.heap.size + 1) w1 ov bv wr) (fun _ bv _ => xaR bv)
 case atStart => exact ⟨l.length, l, [], Nat.le_refl _, by simp, hB0, World.ownsRow_nil _ _ _ _, xaa.refl _ _, by unfold pts; simp⟩
 case round =>
  clear hB0
  obtain ⟨f, rest, acc, hf, hlen, hB, hown, hk, hp⟩ := hrel
  have HB := xmA hB
  obtain ⟨a, cap, rfl, hcap, hcell⟩ := hB
  obtain ⟨va, vc, rfl⟩ := xad hown
  have hsw : w.heap.size + 1 ≤ wr.heap.size := by have := hk.size; rw [Hsz.out] at this; exact this
  have hkw : xaa (fun _ => False) w wr := (hW0.trans2 (T := fun k => w.heap.size + 1 ≤ k) hk (fun i hi e => by omega))
  have Hp := xmA hp
  clear hp
  cases rest with
  | nil =>
   have E : Hid (pts l = some acc) := xmA (by rw [Hp.out]; cases f <;> simp [ptsP])
   clear hcell
   go_wp2_with fail
   go_ret2
   refine ⟨?_, hkw⟩
   unfold PtsE
   rw [E.out]
   exact ⟨_, rfl, ⟨hown.1, hown.2.imp id (fun ⟨g, c, cur, h1, h2, h3⟩ => ⟨g, c, cur, h1, by omega, h3⟩)⟩⟩
  | cons c t =>
   obtain ⟨g, rfl⟩ : ∃ g, f = g + 1 := ⟨f - 1, by simp at hf; omega⟩
   obtain ⟨off, rfl, hcc⟩ := hcell (by simp)
   have HC := xmA hcc
   have hp1 := (xbS c t).1
   have hp2 := xet c t
   have E : Hid (pts l = (if sizP (getP (c :: t)).1 = (getP (c :: t)).2 then (ptsP g ((c :: t).drop (getP (c :: t)).2)).map ((getP (c :: t)).1 :: ·) else none).map (acc ++ ·)) := xmA (by rw [Hp.out, ptsP, if_neg (by simp)])
   have HG := xmA (xcD w.heap.size off cap (t.length + 1) c t wr rfl (by simpa using hcap) hcc)
   clear hcc hcell Hp
   generalize getP (c :: t) = G at *
   obtain ⟨r, n⟩ := G
   simp only at hp1 hp2 E HG
   have HS := xmA (fun W => xbl r W)
   have hlc : (c :: t).length = t.length + 1 := rfl
   simp only [List.length_cons] at hcap hf hlen hlc
   by_cases hs : sizP r = n
   · have E2 : Hid (pts l = ((ptsP g ((c :: t).drop n)).map (r :: ·)).map (acc ++ ·)) := xmA (by rw [E.out, if_pos hs])
     rw [hs] at HS
     have hdl : ((c :: t).drop n).length = t.length + 1 - n := by simp
     have hdc : ∀ i x, ((c :: t).drop n)[i]? = some x → wr.cell? ⟨w.heap.size, off + n + i, none⟩ = some (.int .u8 (x.toNat : Int)) := fun i x hx => by
      rw [List.getElem?_drop] at hx
      rw [Nat.add_assoc]; exact HC.out (n + i) x hx
     have Hdl := xmA hdl
     have Hdc := xmA hdc
     clear hs E hdl hdc
     generalize (c :: t).drop n = rest' at *
     have hgo : ∀ (o' : Nat) (v' : Value) (w2 : World), w2.ownsRow (w.heap.size + 1) 3 1 v' (acc ++ [r]).length ((acc ++ [r]).map (Value.int .i64)) → xaa (fun k => w.heap.size + 1 ≤ k) w1 w2 → xaa (fun k => w.heap.size + 1 ≤ k) wr w2 → (n < cap → o' = off + n) → PtsR l w.heap.size (w.heap.size + 1) w1 v' (.slice (some ⟨w.heap.size, o', none⟩) (t.length + 1 - n) (cap - n)) w2 := by
      intro o' v' w2 h1 h2 h3 h4
      refine ⟨g, rest', acc ++ [r], by rw [Hdl.out]; omega, by rw [Hdl.out]; simp; omega, ?_, h1, h2, ?_⟩
      · refine ⟨some ⟨w.heap.size, o', none⟩, cap - n, by rw [Hdl.out], by rw [Hdl.out]; omega, fun hne => ?_⟩
        have h5 : 0 < rest'.length := List.length_pos_iff.2 hne
        rw [Hdl.out] at h5
        refine ⟨o', rfl, fun i x hx => ?_⟩
        rw [h4 (by omega)]
        exact h3.cell (Hdc.out i x hx) (by show ¬ w.heap.size + 1 ≤ w.heap.size; omega)
      rw [E2.out, Option.map_map]
      congr 1
      funext q; simp
     have HGo := xmA hgo
     clear hgo
     by_cases hcn : cap = n
     · subst hcn
       go_wp2_with fail
       refine HG.out.mono ?_
       rintro e w2 ⟨rfl, rfl⟩
       go_wp2_with fail
       refine (HS.out _).mono ?_
       rintro e w2 ⟨rfl, rfl⟩
       go_wp2_with (at_builtin; refine wpList_append_own _ rfl (.tmp 22) (.tmp 24) 23 rfl (w.heap.size + 1) 3 i0 (.int .i64 0) 1 8 Tryz.underlying23 hi0 hz0 hz1 hz2 rfl (by decide) _ _ _ rfl (xac hown _) ⟨wr.heap.size, 0, none⟩ 1 1 [.int .i64 r] rfl rfl (by exact xak _ [_] _) (by intro u hu; simp at hu; subst hu; rfl) ?d3 ?d4 ?d5 ?_)
       case d3 => unfold maxLen; omega
       case d4 => omega
       case d5 => simp; omega
       intro v' w2 hown' hgrow _
       have hk2 : xaa (fun k => w.heap.size + 1 ≤ k) wr w2 := ((xaa.refl _ wr).alloc _).grown hgrow (fun b hb => Or.inl (xab hown b hb))
       have hown2 : w2.ownsRow (w.heap.size + 1) 3 1 v' (acc ++ [r]).length ((acc ++ [r]).map (Value.int .i64)) := by simpa using hown'
       have Hown2 := xmA hown2
       clear hown' hgrow hown2
       go_wp2_with fail
       go_roundw
       case rel => first | exact HGo.out _ _ _ Hown2.out (hk.trans hk2) hk2 (fun h => by first | rfl | omega) | (have h9 := HGo.out off _ _ Hown2.out (hk.trans hk2) hk2 (fun h => by omega); rw [show t.length + 1 - cap = 0 by omega, Nat.sub_self] at h9; exact h9)
       case measure => first | (simp [xaR]; done) | (simp [xaR]; omega)
     have hcn2 : n < cap := by omega
     go_wp2_with fail
     refine HG.out.mono ?_
     rintro e w2 ⟨rfl, rfl⟩
     go_wp2_with fail
     refine (HS.out _).mono ?_
     rintro e w2 ⟨rfl, rfl⟩
     go_wp2_with (at_builtin; refine wpList_append_own _ rfl (.tmp 22) (.tmp 24) 23 rfl (w.heap.size + 1) 3 i0 (.int .i64 0) 1 8 Tryz.underlying23 hi0 hz0 hz1 hz2 rfl (by decide) _ _ _ rfl (xac hown _) ⟨wr.heap.size, 0, none⟩ 1 1 [.int .i64 r] rfl rfl (by exact xak _ [_] _) (by intro u hu; simp at hu; subst hu; rfl) ?d3 ?d4 ?d5 ?_)
     case d3 => unfold maxLen; omega
     case d4 => omega
     case d5 => simp; omega
     intro v' w2 hown' hgrow _
     have hk2 : xaa (fun k => w.heap.size + 1 ≤ k) wr w2 := ((xaa.refl _ wr).alloc _).grown hgrow (fun b hb => Or.inl (xab hown b hb))
     have hown2 : w2.ownsRow (w.heap.size + 1) 3 1 v' (acc ++ [r]).length ((acc ++ [r]).map (Value.int .i64)) := by simpa using hown'
     have Hown2 := xmA hown2
     clear hown' hgrow hown2
     go_wp2_with fail
     go_roundw
     case rel => first | exact HGo.out _ _ _ Hown2.out (hk.trans hk2) hk2 (fun h => by first | rfl | omega) | (have h9 := HGo.out off _ _ Hown2.out (hk.trans hk2) hk2 (fun h => by omega); rw [show t.length + 1 - cap = 0 by omega, Nat.sub_self] at h9; exact h9)
     case measure => first | (simp [xaR]; done) | (simp [xaR]; omega)
   have E2 : Hid (pts l = none) := xmA (by rw [E.out, if_neg hs]; rfl)
   have g1 : (sizP r != (n : Int)) = true := by simp only [bne_iff_ne, ne_eq]; exact hs
   clear hs E
   generalize sizP r = sz at *
   go_wp2_with fail
   refine HG.out.mono ?_
   rintro e w2 ⟨rfl, rfl⟩
   go_wp2_with fail
   refine (HS.out _).mono ?_
   rintro e w2 ⟨rfl, rfl⟩
   go_wp2_with fail
   go_ret2
   refine ⟨?_, hkw⟩
   unfold PtsE
   rw [E2.out]
   rfl
structure PS where
 pos : Nat
 deep : Int
 bad : Bool
def pk (rs : List Int) (s : PS) : Int := if s.bad then -1 else rs.getD s.pos (-1)
def nx (rs : List Int) (s : PS) : PS := ⟨s.pos + 1, s.deep, s.bad || decide (pk rs s < 0)⟩
def tkB (rs : List Int) (r : Int) (s : PS) : Bool := decide (pk rs s = r)
def tk (rs : List Int) (r : Int) (s : PS) : PS := if pk rs s = r then ⟨s.pos + 1, s.deep, s.bad⟩ else s
def wt (rs : List Int) (r : Int) (s : PS) : PS := if pk rs s = r then ⟨s.pos + 1, s.deep, s.bad⟩ else ⟨s.pos, s.deep, true⟩
def encI (n : Int) (_ : Nat) : Value := .int .i64 n
structure PaAt (w : World) (pb : Nat) (rv : Value) (rs : List Int) (s : PS) : Prop where
 c0 : w.cell? ⟨pb, 0, none⟩ = some rv
 c1 : w.cell? ⟨pb, 1, none⟩ = some (.int .i64 s.pos)
 c2 : w.cell? ⟨pb, 2, none⟩ = some (.int .i64 s.deep)
 c3 : w.cell? ⟨pb, 3, none⟩ = some (.bool s.bad)
 fr : ∀ o, w.frozen? ⟨pb, o, none⟩ = false
 sl : SlOf 1 encI w rv rs
 ne : rv.ownBlock ≠ some pb
 len : rs.length ≤ 100000
 pos : s.pos ≤ 1000000
 rng : ∀ r ∈ rs, 0 ≤ r ∧ r ≤ 1114111
 rb : ∀ b, rv.ownBlock = some b → b < w.heap.size
theorem PaAt.lt {w : World} {pb : Nat} {rv : Value} {rs : List Int} {s : PS} (h : PaAt w pb rv rs s) : pb < w.heap.size := xan h.c0
theorem PaAt.keeps {S : Nat → Prop} {w w' : World} {pb : Nat} {rv : Value} {rs : List Int} {s : PS} (h : PaAt w pb rv rs s) (K : xaa S w w') (h1 : ¬ S pb) (h2 : ∀ b, rv.ownBlock = some b → ¬ S b) : PaAt w' pb rv rs s :=
 ⟨K.cell h.c0 h1, K.cell h.c1 h1, K.cell h.c2 h1, K.cell h.c3 h1, fun o => K.frozen (h.fr o) h.lt h1, h.sl.keeps K h2, h.ne, h.len, h.pos, h.rng, fun b hb => Nat.lt_of_lt_of_le (h.rb b hb) K.size⟩
theorem PaAt.keepsF {w w' : World} {pb : Nat} {rv : Value} {rs : List Int} {s : PS} (h : PaAt w pb rv rs s) (K : xaa (fun _ => False) w w') : PaAt w' pb rv rs s := h.keeps K id (fun _ _ => id)
theorem PaAt.setPos {w : World} {pb : Nat} {rv : Value} {rs : List Int} {s : PS} (h : PaAt w pb rv rs s) (p : Nat) (hp : p ≤ 1000000) : PaAt (w.setCell ⟨pb, 1, none⟩ (.int .i64 p)) pb rv rs ⟨p, s.deep, s.bad⟩ := by
 have K : xaa (fun b => b = pb) w (w.setCell ⟨pb, 1, none⟩ (.int .i64 p)) := (xaa.refl (fun b => b = pb) _).set (p := ⟨pb, 1, none⟩) rfl _
 exact ⟨by rw [xaf (by simp)]; exact h.c0, xas h.c1, by rw [xaf (by simp)]; exact h.c2, by rw [xaf (by simp)]; exact h.c3,
  fun o => by rw [xbI]; exact h.fr o, h.sl.keeps K (fun b hb e => h.ne (by rw [hb, e])), h.ne, h.len, hp, h.rng, fun b hb => Nat.lt_of_lt_of_le (h.rb b hb) K.size⟩
theorem PaAt.setBad {w : World} {pb : Nat} {rv : Value} {rs : List Int} {s : PS} (h : PaAt w pb rv rs s) (x : Bool) : PaAt (w.setCell ⟨pb, 3, none⟩ (.bool x)) pb rv rs ⟨s.pos, s.deep, x⟩ := by
 have K : xaa (fun b => b = pb) w (w.setCell ⟨pb, 3, none⟩ (.bool x)) := (xaa.refl (fun b => b = pb) _).set (p := ⟨pb, 3, none⟩) rfl _
 exact ⟨by rw [xaf (by simp)]; exact h.c0, by rw [xaf (by simp)]; exact h.c1, by rw [xaf (by simp)]; exact h.c2, xas h.c3,
  fun o => by rw [xbI]; exact h.fr o, h.sl.keeps K (fun b hb e => h.ne (by rw [hb, e])), h.ne, h.len, h.pos, h.rng, fun b hb => Nat.lt_of_lt_of_le (h.rb b hb) K.size⟩
theorem PaAt.setDeep {w : World} {pb : Nat} {rv : Value} {rs : List Int} {s : PS} (h : PaAt w pb rv rs s) (d : Int) : PaAt (w.setCell ⟨pb, 2, none⟩ (.int .i64 d)) pb rv rs ⟨s.pos, d, s.bad⟩ := by
 have K : xaa (fun b => b = pb) w (w.setCell ⟨pb, 2, none⟩ (.int .i64 d)) := (xaa.refl (fun b => b = pb) _).set (p := ⟨pb, 2, none⟩) rfl _
 exact ⟨by rw [xaf (by simp)]; exact h.c0, by rw [xaf (by simp)]; exact h.c1, xas h.c2, by rw [xaf (by simp)]; exact h.c3,
  fun o => by rw [xbI]; exact h.fr o, h.sl.keeps K (fun b hb e => h.ne (by rw [hb, e])), h.ne, h.len, h.pos, h.rng, fun b hb => Nat.lt_of_lt_of_le (h.rb b hb) K.size⟩
set_option maxHeartbeats 1000000 in
theorem xbQ (w : World) (pb : Nat) (rv : Value) (rs : List Int) (s : PS) (h : PaAt w pb rv rs s) :
 Calls Tryz.prog 137 #[.pointer (some ⟨pb, 0, none⟩)] w fun e w' => e = .returned (.int .i64 (pk rs s)) ∧ xaa (fun _ => False) w w' := by
 obtain ⟨c0, c1, c2, c3, fr, sl, ne, hlen, hpos, hrng, hrb⟩ := h
 obtain ⟨a, cap, rfl, ⟨hlc, _⟩, _, hcc⟩ := sl
 obtain ⟨p, d, bad⟩ := s
 simp only at c1 c2 c3 hpos
 cases bad with
 | true =>
  have e : pk rs ⟨p, d, true⟩ = -1 := rfl
  rw [e]
  go_enter Tryz.func137, Tryz.ntmps137
  go_wp2_with fail
  go_quiet (fail)
  go_wp2_with fail
  go_ret
  exact ⟨rfl, (xaa.refl _ _).drawN _⟩
 | false =>
  by_cases hp : rs.length ≤ p
  · have e : pk rs ⟨p, d, false⟩ = -1 := by unfold pk; simp [List.getD_eq_getElem?_getD, List.getElem?_eq_none hp]
    have g1 : decide ((rs.length : Int) ≤ (p : Int)) = true := by simp; omega
    have g2 : decide (rs.length ≤ p) = true := by simpa using hp
    rw [e]
    go_enter Tryz.func137, Tryz.ntmps137
    go_wp2_with fail
    go_quiet (fail)
    go_wp2_with fail
    go_ret
    exact ⟨rfl, (xaa.refl _ _).drawN _⟩
  obtain ⟨r, hr⟩ : ∃ r, rs[p]? = some r := ⟨_, List.getElem?_eq_getElem (by omega)⟩
  have e : pk rs ⟨p, d, false⟩ = r := by unfold pk; simp [List.getD_eq_getElem?_getD, hr]
  obtain ⟨b, off, rfl, hcells⟩ := hcc (by omega)
  have x0 := hcells p r hr 0 (by omega)
  simp only [Nat.mul_one, Nat.add_zero, encI] at x0
  have g1 : decide ((rs.length : Int) ≤ (p : Int)) = false := by simp; omega
  have g2 : decide (rs.length ≤ p) = false := by simpa using hp
  have g3 : (p : Int) < (rs.length : Int) := by omega
  have g4 : (0 : Int) ≤ (p : Int) := by omega
  rw [e]
  clear e hcells hcc hr
  go_enter Tryz.func137, Tryz.ntmps137
  go_wp2_with fail
  go_quiet (fail)
  go_wp2_with fail
  go_quiet (fail)
  go_wp2_with fail
  go_ret
  exact ⟨rfl, ((xaa.refl _ _).drawN _).drawN _⟩
theorem xj1 {w : World} {pb : Nat} {rv : Value} {rs : List Int} {s : PS} (h : PaAt w pb rv rs s) : -1 ≤ pk rs s ∧ pk rs s ≤ 1114111 := by
 unfold pk
 split
 · omega
 rw [List.getD_eq_getElem?_getD]
 cases hh : rs[s.pos]? with
 | none => simp
 | some r => have := h.rng r (List.mem_of_getElem? hh); simp; omega
theorem xaL {rs : List Int} {s : PS} (h : 0 ≤ pk rs s) : s.pos < rs.length ∧ s.bad = false := by
 unfold pk at h
 cases hb : s.bad with
 | true => rw [hb] at h; simp at h
 | false =>
  refine ⟨?_, rfl⟩
  rw [hb] at h
  simp only [Bool.false_eq_true, if_false, List.getD_eq_getElem?_getD] at h
  rcases Nat.lt_or_ge s.pos rs.length with h1 | h1
  · exact h1
  rw [List.getElem?_eq_none h1] at h; simp at h
abbrev xao (pb : Nat) : Nat → Prop := fun b => b = pb
set_option maxHeartbeats 1000000 in
theorem xbG (w : World) (pb : Nat) (rv : Value) (rs : List Int) (s : PS) (h : PaAt w pb rv rs s) (hp : s.pos + 1 ≤ 1000000) :
 Calls Tryz.prog 195 #[.pointer (some ⟨pb, 0, none⟩)] w fun e w' => e = .returned (.int .i64 (pk rs s)) ∧ PaAt w' pb rv rs (nx rs s) ∧ xaa (xao pb) w w' := by
 have HP := xmA (xbQ w pb rv rs s h)
 have H := xmA h
 clear h
 have Hn : Hid (nx rs s = ⟨s.pos + 1, s.deep, s.bad || decide (pk rs s < 0)⟩) := rfl
 generalize nx rs s = s' at *
 generalize hr : pk rs s = r at *
 clear hr
 by_cases hr0 : r < 0
 · have E : Hid (s' = ⟨s.pos + 1, s.deep, true⟩) := xmA (by rw [Hn.out]; simp [hr0])
   go_enter Tryz.func195, Tryz.ntmps195
   go_wp2_with fail
   refine HP.out.mono ?_
   rintro e w1 ⟨rfl, hk1⟩
   have h1 := H.out.keepsF hk1
   have c3 := h1.c3
   have f3 := h1.fr 3
   have h2 := h1.setBad true
   have c1 := h2.c1
   have f1 := h2.fr 1
   have h3 := h2.setPos (s.pos + 1) hp
   have hk3 := ((hk1.mono (T := xao pb) (fun _ _ e => e.elim)).set (p := ⟨pb, 3, none⟩) rfl (.bool true)).set (p := ⟨pb, 1, none⟩) rfl (.int .i64 ((s.pos + 1 : Nat) : Int))
   have H3 := xmA h3
   have Hk3 := xmA hk3
   simp only at c1
   clear h1 h2 h3 hk1 hk3
   go_wp2_with fail
   go_ret
   exact ⟨rfl, by rw [E.out]; exact H3.out, Hk3.out⟩
 have E : Hid (s' = ⟨s.pos + 1, s.deep, s.bad⟩) := xmA (by rw [Hn.out]; simp [hr0])
 go_enter Tryz.func195, Tryz.ntmps195
 go_wp2_with fail
 refine HP.out.mono ?_
 rintro e w1 ⟨rfl, hk1⟩
 have h1 := H.out.keepsF hk1
 have c1 := h1.c1
 have f1 := h1.fr 1
 have h3 := h1.setPos (s.pos + 1) hp
 have hk3 := (hk1.mono (T := xao pb) (fun _ _ e => e.elim)).set (p := ⟨pb, 1, none⟩) rfl (.int .i64 ((s.pos + 1 : Nat) : Int))
 have H3 := xmA h3
 have Hk3 := xmA hk3
 clear h1 h3 hk1 hk3
 go_wp2_with fail
 go_ret
 exact ⟨rfl, by rw [E.out]; exact H3.out, Hk3.out⟩
def strL (l : List UInt8) : Value := .string ⟨l.toArray⟩
theorem back1 (w : World) (c : UInt8) : (convert 22 9 (.slice (some ⟨w.heap.size, 0, none⟩) 1 1)).run Tryz.prog (w.alloc (.cells #[.int .u8 (c.toNat : Int)] 5)) = .ok (.string ⟨#[c]⟩) (w.alloc (.cells #[.int .u8 (c.toNat : Int)] 5)) := by
 have := run_convert_bytes_back (P := Tryz.prog) (w.alloc (.cells #[.int .u8 (c.toNat : Int)] 5)) 22 9 5 ⟨w.heap.size, 0, none⟩ 1 [c] Tryz.underlying22 Tryz.underlying5 Tryz.underlying9 (fun j hj => by
  obtain rfl : j = 0 := by simp at hj; omega
  exact xak w [.int .u8 (c.toNat : Int)] 5 0 _ rfl)
 exact this
theorem str_app (a b : List UInt8) : (⟨a.toArray⟩ : ByteArray) ++ ⟨b.toArray⟩ = ⟨(a ++ b).toArray⟩ := by
 apply ByteArray.ext
 simp [ByteArray.data_append]
theorem rIs_any (r : Int) (w : World) : Calls Tryz.prog 126 #[.int .i64 r] w fun e w' => e = .returned (.bool (isB r)) ∧ w = w' := by
 by_cases h0 : 0 ≤ r
 · have g0 : decide (0 ≤ r) = true := by simpa using h0
   by_cases h1 : r ≤ 1114111
   · have g1 : decide (r ≤ 1114111) = true := by simpa using h1
     by_cases h2 : 55296 ≤ r
     · have g2 : decide (55296 ≤ r) = true := by simpa using h2
       by_cases h3 : r ≤ 57343
       · have g3 : decide (r ≤ 57343) = true := by simpa using h3
         rw [show isB r = false by simp [isB]; omega]
         go_enter Tryz.func126, Tryz.ntmps126
         go_wp2_with fail
         go_ret
         exact ⟨rfl, rfl⟩
       have g3 : decide (r ≤ 57343) = false := by simpa using h3
       rw [show isB r = true by simp [isB]; omega]
       go_enter Tryz.func126, Tryz.ntmps126
       go_wp2_with fail
       go_ret
       exact ⟨rfl, rfl⟩
     have g2 : decide (55296 ≤ r) = false := by simpa using h2
     rw [show isB r = true by simp [isB]; omega]
     go_enter Tryz.func126, Tryz.ntmps126
     go_wp2_with fail
     go_ret
     exact ⟨rfl, rfl⟩
   have g1 : decide (r ≤ 1114111) = false := by simpa using h1
   rw [show isB r = false by simp [isB]; omega]
   go_enter Tryz.func126, Tryz.ntmps126
   go_wp2_with fail
   go_ret
   exact ⟨rfl, rfl⟩
 have g0 : decide (0 ≤ r) = false := by simpa using h0
 rw [show isB r = false by simp [isB]; omega]
 go_enter Tryz.func126, Tryz.ntmps126
 go_wp2_with fail
 go_ret
 exact ⟨rfl, rfl⟩
def lowB (r : Nat) : Nat → List UInt8
 | 0 => []
 | i + 1 => UInt8.ofNat (128 + r / 64 ^ i % 64) :: lowB r i
def putP (r : Nat) : List UInt8 :=
 if r < 128 then [UInt8.ofNat r] else if r < 2048 then UInt8.ofNat (192 + r / 64) :: lowB r 1 else if r < 65536 then UInt8.ofNat (224 + r / 4096) :: lowB r 2 else UInt8.ofNat (240 + r / 262144) :: lowB r 3
theorem xcC : (Tryz.prog.info? 5).map (fun i => (i.zero, i.size, i.bytes)) = some (some (.int .u8 0), 1, 1) := by kernel_rfl
theorem xdU (w : World) (x : Value) (e : TypeId) : (w.alloc (.cells #[x] e)).ownsRow w.heap.size e 1 (.slice (some ⟨w.heap.size, 0, none⟩) 1 1) 1 [x] :=
 ⟨rfl, Or.inr ⟨_, 1, #[x], rfl, Nat.le_refl _, by simp [World.alloc, -World.alloc_eq], by omega, by unfold maxLen; omega, rfl, rfl⟩⟩
def u8V (c : UInt8) : Value := .int .u8 (c.toNat : Int)
def OwnB (base : Nat) (w : World) (v : Value) (l : List UInt8) : Prop := w.ownsRow base 5 1 v l.length (l.map u8V)
def PutE (w : World) (l : List UInt8) (e : Ending) (w' : World) : Prop := ∃ v, e = .returned v ∧ OwnB w.heap.size w' v l ∧ xaa (fun _ => False) w w'
theorem xcl {w w' : World} {base : Nat} {e : TypeId} {size : Nat} {v : Value} {n : Nat} {xs : List Value} (h : w.ownsRow base e size v n xs) (K : xaa (fun _ => False) w w') : w'.ownsRow base e size v n xs := by
 refine ⟨h.1, ?_⟩
 rcases h.2 with h0 | ⟨g, cap, cur, rfl, hg, hh, hr⟩
 · exact Or.inl h0
 exact Or.inr ⟨g, cap, cur, rfl, hg, K.heap hh id, hr⟩
theorem u8o (n : Nat) (h : n < 256) : Value.int .u8 (n : Int) = u8V (UInt8.ofNat n) := by
 unfold u8V; rw [UInt8.toNat_ofNat_of_lt' (by show n < 256; exact h)]
theorem u8i {z : Int} (n : Nat) (h : n < 256) (e : z = (n : Int)) : Value.int .u8 z = u8V (UInt8.ofNat n) := by rw [e, u8o n h]
set_option maxHeartbeats 1000000 in
theorem put1 (r : Nat) (w : World) (hb : isB (r : Int) = true) (h1 : r < 128) : Calls Tryz.prog 67 #[.int .i64 r] w fun e w' => PutE w (putP r) e w' := by
 have HI := xmA (fun W => xdd (r : Int) W)
 have HSz := xmA (fun W => xbl (r : Int) W)
 have hsz : sizP (r : Int) = 1 := by unfold sizP; rw [hb]; simp only [if_true]; rw [if_pos (by omega)]
 rw [hb] at HI
 rw [hsz] at HSz
 have HP : Hid ([Value.int .u8 (r : Int)] = (putP r).map u8V) := xmA (by unfold putP; rw [if_pos (by omega), u8o r (by omega)]; rfl)
 have u1 : IntKind.u8.wrap (r : Int) = (r : Int) := by rw [IntKind.wrap_u8]; omega
 clear hb hsz
 go_enter Tryz.func67, Tryz.ntmps67
 go_wp2_with fail
 refine (HI.out _).mono ?_
 rintro e w1 ⟨rfl, rfl⟩
 go_wp2_with fail
 refine (HSz.out _).mono ?_
 rintro e w1 ⟨rfl, rfl⟩
 go_wp2_with fail
 go_ret
 refine ⟨_, rfl, ?_, KI.out⟩
 unfold OwnB
 rw [← HP.out, show (putP r).length = 1 by have := congrArg List.length HP.out; simpa using this.symm]
 exact xdU _ _ _
set_option maxHeartbeats 4000000 in
theorem put2 (r : Nat) (w : World) (hb : isB (r : Int) = true) (h1 : 128 ≤ r) (h2 : r < 2048) : Calls Tryz.prog 67 #[.int .i64 r] w fun e w' => PutE w (putP r) e w' := by
 obtain ⟨i0, hi0, hz0, hz1, hz2⟩ := info_parts xcC
 have HI := xmA (fun W => xdd (r : Int) W)
 have HSz := xmA (fun W => xbl (r : Int) W)
 have hsz : sizP (r : Int) = 2 := by unfold sizP; rw [hb]; simp only [if_true]; rw [if_neg (by omega), if_pos (by omega)]
 rw [hb] at HI
 rw [hsz] at HSz
 have HP : Hid ([Value.int .u8 (192 + (r : Int) / 64), Value.int .u8 (128 + (r : Int) % 64)] = (putP r).map u8V) := xmA (by
  have e : putP r = [UInt8.ofNat (192 + r / 64), UInt8.ofNat (128 + r % 64)] := by
   unfold putP; rw [if_neg (by omega), if_pos (by omega)]; simp only [lowB, Nat.pow_zero, Nat.div_one, Nat.pow_one, show 64 ^ 2 = 4096 from rfl]
  rw [e]
  simp only [List.map_cons, List.map_nil]
  rw [u8i (192 + r / 64) (by omega) (by omega), u8i (128 + r % 64) (by omega) (by omega)])
 clear hb hsz
 go_enter Tryz.func67, Tryz.ntmps67
 go_wp2_with fail
 refine (HI.out _).mono ?_
 rintro e w1 ⟨rfl, rfl⟩
 go_wp2_with fail
 refine (HSz.out _).mono ?_
 rintro e w1 ⟨rfl, rfl⟩
 go_wp2_with fail
 go_region
 obtain ⟨W0, hW0⟩ : ∃ W, W = (w.alloc (.cells #[Value.int .u8 (192 + (r : Int) / 64)] 5)).drew := ⟨_, rfl⟩
 have O0 : Hid (W0.ownsRow w.heap.size 5 1 (.slice (some ⟨w.heap.size, 0, none⟩) 1 1) 1 [Value.int .u8 (192 + (r : Int) / 64)]) := xmA (by rw [hW0]; exact xdU w _ _)
 have K0 : Hid (xaa (fun _ => False) w W0) := xmA (by rw [hW0]; exact KI.out)
 have N0 : Hid (w.heap.size < W0.heap.size) := xmA (by rw [hW0]; simp)
 rw [← hW0]
 clear hW0
 go_wp2_with (at_builtin; refine wpList_append_own _ rfl (.tmp 47) (.tmp 52) 22 rfl w.heap.size 5 i0 (.int .u8 0) 1 1 Tryz.underlying22 hi0 hz0 hz1 hz2 rfl (by decide) _ _ _ rfl (O0.out.alloc _) ⟨W0.heap.size, 0, none⟩ 1 1 [Value.int .u8 (128 + (r : Int) % 64)] rfl rfl (by exact xak _ [_] _) (by intro u hu; simp at hu; subst hu; rfl) ?d3 ?d4 ?d5 ?_)
 case d3 => unfold maxLen; omega
 case d4 => omega
 case d5 => have := N0.out; simp; omega
 intro v1 W1 hown hgrow _
 have O1 : Hid (W1.ownsRow w.heap.size 5 1 v1 2 [Value.int .u8 (192 + (r : Int) / 64), Value.int .u8 (128 + (r : Int) % 64)]) := xmA hown
 have K1 : Hid (xaa (fun _ => False) w W1) := xmA (K0.out.trans2 (((xaa.refl (fun b => w.heap.size ≤ b) W0).alloc _).grown hgrow (fun b hb => Or.inl (xab O0.out b hb))) (fun b hb e => by omega))
 have N1 : Hid (w.heap.size < W1.heap.size) := xmA (by have := N0.out; have := ((((xaa.refl (fun b => w.heap.size ≤ b) W0).alloc (.cells #[Value.int .u8 (128 + (r : Int) % 64)] 5)).grown hgrow (fun b hb => Or.inl (xab O0.out b hb)))).size; omega)
 clear hown hgrow
 go_wp2_with fail
 go_ret
 refine ⟨_, rfl, ?_, K1.out⟩
 unfold OwnB
 rw [← HP.out, show (putP r).length = 2 by have := congrArg List.length HP.out; simpa using this.symm]
 exact O1.out
set_option maxHeartbeats 4000000 in
theorem put3 (r : Nat) (w : World) (hb : isB (r : Int) = true) (h1 : 2048 ≤ r) (h2 : r < 65536) : Calls Tryz.prog 67 #[.int .i64 r] w fun e w' => PutE w (putP r) e w' := by
 obtain ⟨i0, hi0, hz0, hz1, hz2⟩ := info_parts xcC
 have HI := xmA (fun W => xdd (r : Int) W)
 have HSz := xmA (fun W => xbl (r : Int) W)
 have hsz : sizP (r : Int) = 3 := by unfold sizP; rw [hb]; simp only [if_true]; rw [if_neg (by omega), if_neg (by omega), if_pos (by omega)]
 rw [hb] at HI
 rw [hsz] at HSz
 have HP : Hid ([Value.int .u8 (224 + (r : Int) / 4096), Value.int .u8 (128 + (r : Int) / 64 % 64), Value.int .u8 (128 + (r : Int) % 64)] = (putP r).map u8V) := xmA (by
  have e : putP r = [UInt8.ofNat (224 + r / 4096), UInt8.ofNat (128 + r / 64 % 64), UInt8.ofNat (128 + r % 64)] := by
   unfold putP; rw [if_neg (by omega), if_neg (by omega), if_pos (by omega)]; simp only [lowB, Nat.pow_zero, Nat.div_one, Nat.pow_one, show 64 ^ 2 = 4096 from rfl]
  rw [e]
  simp only [List.map_cons, List.map_nil]
  rw [u8i (224 + r / 4096) (by omega) (by omega), u8i (128 + r / 64 % 64) (by omega) (by omega), u8i (128 + r % 64) (by omega) (by omega)])
 clear hb hsz
 go_enter Tryz.func67, Tryz.ntmps67
 go_wp2_with fail
 refine (HI.out _).mono ?_
 rintro e w1 ⟨rfl, rfl⟩
 go_wp2_with fail
 refine (HSz.out _).mono ?_
 rintro e w1 ⟨rfl, rfl⟩
 go_wp2_with fail
 go_region
 obtain ⟨W0, hW0⟩ : ∃ W, W = (w.alloc (.cells #[Value.int .u8 (224 + (r : Int) / 4096)] 5)).drew := ⟨_, rfl⟩
 have O0 : Hid (W0.ownsRow w.heap.size 5 1 (.slice (some ⟨w.heap.size, 0, none⟩) 1 1) 1 [Value.int .u8 (224 + (r : Int) / 4096)]) := xmA (by rw [hW0]; exact xdU w _ _)
 have K0 : Hid (xaa (fun _ => False) w W0) := xmA (by rw [hW0]; exact KI.out)
 have N0 : Hid (w.heap.size < W0.heap.size) := xmA (by rw [hW0]; simp)
 rw [← hW0]
 clear hW0
 go_wp2_with (at_builtin; refine wpList_append_own _ rfl (.tmp 39) (.tmp 45) 22 rfl w.heap.size 5 i0 (.int .u8 0) 1 1 Tryz.underlying22 hi0 hz0 hz1 hz2 rfl (by decide) _ _ _ rfl (O0.out.alloc _) ⟨W0.heap.size, 0, none⟩ 1 1 [Value.int .u8 (128 + (r : Int) / 64 % 64)] rfl rfl (by exact xak _ [_] _) (by intro u hu; simp at hu; subst hu; rfl) ?d3 ?d4 ?d5 ?_)
 case d3 => unfold maxLen; omega
 case d4 => omega
 case d5 => have := N0.out; simp; omega
 intro v1 W1 hown hgrow _
 have O1 : Hid (W1.ownsRow w.heap.size 5 1 v1 2 [Value.int .u8 (224 + (r : Int) / 4096), Value.int .u8 (128 + (r : Int) / 64 % 64)]) := xmA hown
 have K1 : Hid (xaa (fun _ => False) w W1) := xmA (K0.out.trans2 (((xaa.refl (fun b => w.heap.size ≤ b) W0).alloc _).grown hgrow (fun b hb => Or.inl (xab O0.out b hb))) (fun b hb e => by omega))
 have N1 : Hid (w.heap.size < W1.heap.size) := xmA (by have := N0.out; have := ((((xaa.refl (fun b => w.heap.size ≤ b) W0).alloc (.cells #[Value.int .u8 (128 + (r : Int) / 64 % 64)] 5)).grown hgrow (fun b hb => Or.inl (xab O0.out b hb)))).size; omega)
 clear hown hgrow
 go_wp2_with (at_builtin; refine wpList_append_own _ rfl (.tmp 47) (.tmp 52) 22 rfl w.heap.size 5 i0 (.int .u8 0) 1 1 Tryz.underlying22 hi0 hz0 hz1 hz2 rfl (by decide) _ _ _ rfl (O1.out.alloc _) ⟨W1.heap.size, 0, none⟩ 1 1 [Value.int .u8 (128 + (r : Int) % 64)] rfl rfl (by exact xak _ [_] _) (by intro u hu; simp at hu; subst hu; rfl) ?d3 ?d4 ?d5 ?_)
 case d3 => unfold maxLen; omega
 case d4 => omega
 case d5 => have := N1.out; simp; omega
 intro v2 W2 hown hgrow _
 have O2 : Hid (W2.ownsRow w.heap.size 5 1 v2 3 [Value.int .u8 (224 + (r : Int) / 4096), Value.int .u8 (128 + (r : Int) / 64 % 64), Value.int .u8 (128 + (r : Int) % 64)]) := xmA hown
 have K2 : Hid (xaa (fun _ => False) w W2) := xmA (K1.out.trans2 (((xaa.refl (fun b => w.heap.size ≤ b) W1).alloc _).grown hgrow (fun b hb => Or.inl (xab O1.out b hb))) (fun b hb e => by omega))
 have N2 : Hid (w.heap.size < W2.heap.size) := xmA (by have := N1.out; have := ((((xaa.refl (fun b => w.heap.size ≤ b) W1).alloc (.cells #[Value.int .u8 (128 + (r : Int) % 64)] 5)).grown hgrow (fun b hb => Or.inl (xab O1.out b hb)))).size; omega)
 clear hown hgrow
 go_wp2_with fail
 go_ret
 refine ⟨_, rfl, ?_, K2.out⟩
 unfold OwnB
 rw [← HP.out, show (putP r).length = 3 by have := congrArg List.length HP.out; simpa using this.symm]
 exact O2.out
set_option maxHeartbeats 4000000 in
theorem put4 (r : Nat) (w : World) (hb : isB (r : Int) = true) (h1 : 65536 ≤ r) (h2 : r < 1114112) : Calls Tryz.prog 67 #[.int .i64 r] w fun e w' => PutE w (putP r) e w' := by
 obtain ⟨i0, hi0, hz0, hz1, hz2⟩ := info_parts xcC
 have HI := xmA (fun W => xdd (r : Int) W)
 have HSz := xmA (fun W => xbl (r : Int) W)
 have hsz : sizP (r : Int) = 4 := by unfold sizP; rw [hb]; simp only [if_true]; rw [if_neg (by omega), if_neg (by omega), if_neg (by omega)]
 rw [hb] at HI
 rw [hsz] at HSz
 have HP : Hid ([Value.int .u8 (240 + (r : Int) / 262144), Value.int .u8 (128 + (r : Int) / 4096 % 64), Value.int .u8 (128 + (r : Int) / 64 % 64), Value.int .u8 (128 + (r : Int) % 64)] = (putP r).map u8V) := xmA (by
  have e : putP r = [UInt8.ofNat (240 + r / 262144), UInt8.ofNat (128 + r / 4096 % 64), UInt8.ofNat (128 + r / 64 % 64), UInt8.ofNat (128 + r % 64)] := by
   unfold putP; rw [if_neg (by omega), if_neg (by omega), if_neg (by omega)]; simp only [lowB, Nat.pow_zero, Nat.div_one, Nat.pow_one, show 64 ^ 2 = 4096 from rfl]
  rw [e]
  simp only [List.map_cons, List.map_nil]
  rw [u8i (240 + r / 262144) (by omega) (by omega), u8i (128 + r / 4096 % 64) (by omega) (by omega), u8i (128 + r / 64 % 64) (by omega) (by omega), u8i (128 + r % 64) (by omega) (by omega)])
 clear hb hsz
 go_enter Tryz.func67, Tryz.ntmps67
 go_wp2_with fail
 refine (HI.out _).mono ?_
 rintro e w1 ⟨rfl, rfl⟩
 go_wp2_with fail
 refine (HSz.out _).mono ?_
 rintro e w1 ⟨rfl, rfl⟩
 go_wp2_with fail
 go_region
 obtain ⟨W0, hW0⟩ : ∃ W, W = (w.alloc (.cells #[Value.int .u8 (240 + (r : Int) / 262144)] 5)).drew := ⟨_, rfl⟩
 have O0 : Hid (W0.ownsRow w.heap.size 5 1 (.slice (some ⟨w.heap.size, 0, none⟩) 1 1) 1 [Value.int .u8 (240 + (r : Int) / 262144)]) := xmA (by rw [hW0]; exact xdU w _ _)
 have K0 : Hid (xaa (fun _ => False) w W0) := xmA (by rw [hW0]; exact KI.out)
 have N0 : Hid (w.heap.size < W0.heap.size) := xmA (by rw [hW0]; simp)
 rw [← hW0]
 clear hW0
 go_wp2_with (at_builtin; refine wpList_append_own _ rfl (.tmp 31) (.tmp 37) 22 rfl w.heap.size 5 i0 (.int .u8 0) 1 1 Tryz.underlying22 hi0 hz0 hz1 hz2 rfl (by decide) _ _ _ rfl (O0.out.alloc _) ⟨W0.heap.size, 0, none⟩ 1 1 [Value.int .u8 (128 + (r : Int) / 4096 % 64)] rfl rfl (by exact xak _ [_] _) (by intro u hu; simp at hu; subst hu; rfl) ?d3 ?d4 ?d5 ?_)
 case d3 => unfold maxLen; omega
 case d4 => omega
 case d5 => have := N0.out; simp; omega
 intro v1 W1 hown hgrow _
 have O1 : Hid (W1.ownsRow w.heap.size 5 1 v1 2 [Value.int .u8 (240 + (r : Int) / 262144), Value.int .u8 (128 + (r : Int) / 4096 % 64)]) := xmA hown
 have K1 : Hid (xaa (fun _ => False) w W1) := xmA (K0.out.trans2 (((xaa.refl (fun b => w.heap.size ≤ b) W0).alloc _).grown hgrow (fun b hb => Or.inl (xab O0.out b hb))) (fun b hb e => by omega))
 have N1 : Hid (w.heap.size < W1.heap.size) := xmA (by have := N0.out; have := ((((xaa.refl (fun b => w.heap.size ≤ b) W0).alloc (.cells #[Value.int .u8 (128 + (r : Int) / 4096 % 64)] 5)).grown hgrow (fun b hb => Or.inl (xab O0.out b hb)))).size; omega)
 clear hown hgrow
 go_wp2_with (at_builtin; refine wpList_append_own _ rfl (.tmp 39) (.tmp 45) 22 rfl w.heap.size 5 i0 (.int .u8 0) 1 1 Tryz.underlying22 hi0 hz0 hz1 hz2 rfl (by decide) _ _ _ rfl (O1.out.alloc _) ⟨W1.heap.size, 0, none⟩ 1 1 [Value.int .u8 (128 + (r : Int) / 64 % 64)] rfl rfl (by exact xak _ [_] _) (by intro u hu; simp at hu; subst hu; rfl) ?d3 ?d4 ?d5 ?_)
 case d3 => unfold maxLen; omega
 case d4 => omega
 case d5 => have := N1.out; simp; omega
 intro v2 W2 hown hgrow _
 have O2 : Hid (W2.ownsRow w.heap.size 5 1 v2 3 [Value.int .u8 (240 + (r : Int) / 262144), Value.int .u8 (128 + (r : Int) / 4096 % 64), Value.int .u8 (128 + (r : Int) / 64 % 64)]) := xmA hown
 have K2 : Hid (xaa (fun _ => False) w W2) := xmA (K1.out.trans2 (((xaa.refl (fun b => w.heap.size ≤ b) W1).alloc _).grown hgrow (fun b hb => Or.inl (xab O1.out b hb))) (fun b hb e => by omega))
 have N2 : Hid (w.heap.size < W2.heap.size) := xmA (by have := N1.out; have := ((((xaa.refl (fun b => w.heap.size ≤ b) W1).alloc (.cells #[Value.int .u8 (128 + (r : Int) / 64 % 64)] 5)).grown hgrow (fun b hb => Or.inl (xab O1.out b hb)))).size; omega)
 clear hown hgrow
 go_wp2_with (at_builtin; refine wpList_append_own _ rfl (.tmp 47) (.tmp 52) 22 rfl w.heap.size 5 i0 (.int .u8 0) 1 1 Tryz.underlying22 hi0 hz0 hz1 hz2 rfl (by decide) _ _ _ rfl (O2.out.alloc _) ⟨W2.heap.size, 0, none⟩ 1 1 [Value.int .u8 (128 + (r : Int) % 64)] rfl rfl (by exact xak _ [_] _) (by intro u hu; simp at hu; subst hu; rfl) ?d3 ?d4 ?d5 ?_)
 case d3 => unfold maxLen; omega
 case d4 => omega
 case d5 => have := N2.out; simp; omega
 intro v3 W3 hown hgrow _
 have O3 : Hid (W3.ownsRow w.heap.size 5 1 v3 4 [Value.int .u8 (240 + (r : Int) / 262144), Value.int .u8 (128 + (r : Int) / 4096 % 64), Value.int .u8 (128 + (r : Int) / 64 % 64), Value.int .u8 (128 + (r : Int) % 64)]) := xmA hown
 have K3 : Hid (xaa (fun _ => False) w W3) := xmA (K2.out.trans2 (((xaa.refl (fun b => w.heap.size ≤ b) W2).alloc _).grown hgrow (fun b hb => Or.inl (xab O2.out b hb))) (fun b hb e => by omega))
 have N3 : Hid (w.heap.size < W3.heap.size) := xmA (by have := N2.out; have := ((((xaa.refl (fun b => w.heap.size ≤ b) W2).alloc (.cells #[Value.int .u8 (128 + (r : Int) % 64)] 5)).grown hgrow (fun b hb => Or.inl (xab O2.out b hb)))).size; omega)
 clear hown hgrow
 go_wp2_with fail
 go_ret
 refine ⟨_, rfl, ?_, K3.out⟩
 unfold OwnB
 rw [← HP.out, show (putP r).length = 4 by have := congrArg List.length HP.out; simpa using this.symm]
 exact O3.out
theorem xfq (r : Nat) (w : World) (hb : isB (r : Int) = true) : Calls Tryz.prog 67 #[.int .i64 r] w fun e w' => PutE w (putP r) e w' := by
 have hr : r ≤ 1114111 := by simp [isB] at hb; omega
 by_cases h1 : r < 128
 · exact put1 r w hb h1
 by_cases h2 : r < 2048
 · exact put2 r w hb (by omega) h2
 by_cases h3 : r < 65536
 · exact put3 r w hb (by omega) h3
 exact put4 r w hb (by omega) (by omega)
theorem xgl {w : World} {base : Nat} {v : Value} {l : List UInt8} (h : OwnB base w v l) : (convert 22 9 v).run Tryz.prog w = .ok (strL l) w := by
 rcases h.2 with ⟨rfl, h0⟩ | ⟨g, cap, cur, rfl, _⟩
 · obtain rfl : l = [] := List.length_eq_zero_iff.1 h0
   rw [run_convert_bytes_string w _ _ 5 none 0 0 Tryz.underlying22 Tryz.underlying5 Tryz.underlying9]
   rfl
 exact run_convert_bytes_back w _ _ 5 ⟨g, 0, none⟩ cap l Tryz.underlying22 Tryz.underlying5 Tryz.underlying9 (fun j hj => by
  have := h.cells (g := g) rfl j (.int .u8 (l[j].toNat : Int)) (by simp [u8V, hj])
  exact this)
def xaE : List UInt8 → Int × Nat
 | a :: b :: t => if a = 239 ∧ b = 187 ∧ t.head? = some 191 then (1, 3) else if a = 255 ∧ b = 254 then (2, 2) else if a = 254 ∧ b = 255 then (3, 2) else (0, 0)
 | _ => (0, 0)
def xcd (l : List UInt8) : Bool := l == [] || l == [239] || l == [239, 187] || l == [255] || l == [254]
def xb9 (l : List UInt8) : Bool := decide (0 < (xaE l).2) || !xcd l
def xd : List UInt8 → Bool
 | [] => true
 | c :: t => if lenP c.toNat ≤ t.length + 1 then false else
  (getP (c :: (t ++ List.replicate (lenP c.toNat - (t.length + 1)) 128))).2 == lenP c.toNat || (getP (c :: (t ++ List.replicate (lenP c.toNat - (t.length + 1)) 191))).2 == lenP c.toNat
def xaC (kind : Int) : List UInt8 → List Nat
 | a :: b :: t => (if kind = 2 then b.toNat * 256 + a.toNat else a.toNat * 256 + b.toNat) :: xaC kind t
 | _ => []
def xa8 : List Nat → Nat × Nat
 | [] => (65533, 0)
 | [u] => if 55296 ≤ u ∧ u < 57344 then (65533, 1) else (u, 1)
 | u :: v :: _ => if 56320 ≤ u ∧ u < 57344 then (65533, 1) else if 55296 ≤ u ∧ u < 56320 then (if v < 56320 ∨ 57344 ≤ v then (65533, 1) else (65536 + (u - 55296) * 1024 + (v - 56320), 2)) else (u, 1)
def xg3 (all : Bool) (h : List UInt8) : Nat × Nat := if !all && xd h then (0, 0) else ((getP h).1.toNat, (getP h).2)
def xg1 (kind : Int) (all : Bool) (h : List UInt8) : Nat × Nat :=
 match xaC kind (h.take 4) with
 | [] => if all then (65533, h.length) else (0, 0)
 | [u] => if (decide (55296 ≤ u) && decide (u < 56320)) && !all then (0, 0) else ((xa8 [u]).1, 2 * (xa8 [u]).2)
 | u :: v :: r => ((xa8 (u :: v :: r)).1, 2 * (xa8 (u :: v :: r)).2)
def xaG (kind : Int) (all : Bool) (h : List UInt8) : Nat × Nat := if kind = 1 then xg3 all h else xg1 kind all h
def xbp (kind : Int) (all : Bool) : Nat → List UInt8 → List UInt8 × List UInt8
 | 0, h => ([], h)
 | n + 1, h => if h = [] then ([], []) else if (xaG kind all h).2 = 0 then ([], h) else
  let p := xbp kind all n (h.drop (xaG kind all h).2)
  (putP (xaG kind all h).1 ++ p.1, p.2)
structure Dec where
 kind : Int
 sure : Bool
 held : List UInt8
def xal (all : Bool) (d : Dec) : Dec :=
 if d.sure || (!all && !xb9 d.held) then d else
  ⟨if (xaE d.held).2 = 0 then 1 else (xaE d.held).1, true, d.held.drop (xaE d.held).2⟩
def xbk (all : Bool) (d : Dec) : List UInt8 × Dec :=
 if (xal all d).sure then
  ((xbp (xal all d).kind all (xal all d).held.length (xal all d).held).1, { xal all d with held := (xbp (xal all d).kind all (xal all d).held.length (xal all d).held).2 })
 else ([], xal all d)
def decN (kind : Int) : Dec := ⟨kind, kind != 0, []⟩
def decW (d : Dec) (b : List UInt8) : List UInt8 × Dec := xbk false { d with held := d.held ++ b }
structure Rc where
 n : Nat
 at' : Nat
 text : List UInt8
def nlP : List UInt8 → Nat
 | [] => 0
 | c :: t => if c = 10 then 0 else nlP t + 1
def noCr (l : List UInt8) : List UInt8 := Lib.trimSuffix l [13]
def splW (most : Nat) : Nat → List UInt8 → Nat → Nat → List Rc × Int × List UInt8 × Nat × Nat
 | 0, h, n, p => ([], 0, h, n, p)
 | f + 1, h, n, p =>
  if nlP h < h.length then
   if most < (noCr (h.take (nlP h))).length then ([], 10, [], n, p)
   else
    let q := splW most f (h.drop (nlP h + 1)) (n + 1) (p + (nlP h + 1))
    (⟨n, p, noCr (h.take (nlP h))⟩ :: q.1, q.2)
  else if most + 1 < h.length ∨ h.length = most + 1 ∧ h[h.length - 1]? ≠ some 13 then ([], 10, [], n, p) else ([], 0, h, n, p)
end Go.Proofs.YtjahiihmoglpfaaGreatDoor
