/-
  Several texts in one: parse.points: what it computes. The parser's state, and its smallest steps: peek, next, take, want. Sets of numbers as lists of ranges: the plain laws. No program in sight. The walks of the document's own words on sets (reedbedref08): Has, Same, Right, Ends. Trees as data, and where they lie in memory.
-/
import Derived.Test.YtpcbfmbpbegjgaaGreatMg1
import Derived.Lib.ConvBytes
import Derived.Deep.Cut
import Derived.Outline
import Derived.Deep.QuietTactic
import Derived.BigQuiet
import Derived.Lib.Hide
import Derived.Test.YtpcbfmbpbegjgaaGreatRows
import Derived.Deep.RegionWith
section
namespace Go.Proofs.YtpcbfmbpbegjgaaGreat
open Go.RowKit
set_option linter.unusedVariables false
set_option linter.unusedSimpArgs false
set_option maxRecDepth 100000

def ptsP : Nat → List UInt8 → Option (List Int)
  | 0, _ => some []
  | f + 1, l => if l = [] then some [] else if sizP (getP l).1 = (getP l).2 then (ptsP f (l.drop (getP l).2)).map ((getP l).1 :: ·) else none
theorem getP_eq (c : UInt8) (l : List UInt8) : getP (c :: l) = if lenP c.toNat = 0 ∨ l.length + 1 < lenP c.toNat then (65533, 1) else
    match tailP (headP c) (l.take (lenP c.toNat - 1)) with
    | none => (65533, 1)
    | some r => if sizP r = lenP c.toNat then ((r : Int), lenP c.toNat) else (65533, 1) := rfl
theorem getP_pos (c : UInt8) (l : List UInt8) : 1 ≤ (getP (c :: l)).2 ∧ (getP (c :: l)).2 ≤ 4 := by
  have hq : lenP c.toNat ≤ 4 := by unfold lenP; split <;> (try split) <;> (try split) <;> (try split) <;> omega
  rw [getP_eq]
  by_cases h : lenP c.toNat = 0 ∨ l.length + 1 < lenP c.toNat
  · rw [if_pos h]; simp
  · rw [if_neg h]
    split
    · simp
    · split
      · simp; omega
      · simp
theorem getP_le (c : UInt8) (l : List UInt8) : (getP (c :: l)).2 ≤ l.length + 1 := by
  rw [getP_eq]
  by_cases h : lenP c.toNat = 0 ∨ l.length + 1 < lenP c.toNat
  · rw [if_pos h]; simp
  · rw [if_neg h]
    split
    · simp
    · split
      · simp; omega
      · simp
/-- A text's code points; none: some octets are no code point's. -/
def pts (l : List UInt8) : Option (List Int) := ptsP l.length l
theorem info_int' : (Tryz.prog.info? 3).map (fun i => (i.zero, i.size, i.bytes)) = some (some (.int .i64 0), 1, 8) := by kernel_rfl
/-- What is left of the octets. -/
def BS (X : Nat) (w : World) (v : Value) (rest : List UInt8) : Prop :=
  ∃ a cap, v = .slice a rest.length cap ∧ rest.length ≤ cap ∧ (rest ≠ [] → ∃ off, a = some ⟨X, off, none⟩ ∧ ∀ i x, rest[i]? = some x → w.cell? ⟨X, off + i, none⟩ = some (.int .u8 (x.toNat : Int)))
theorem BS.keeps {X : Nat} {w w' : World} {v : Value} {rest : List UInt8} {S : Nat → Prop} (h : BS X w v rest) (K : Keeps S w w') (hX : ¬ S X) : BS X w' v rest := by
  obtain ⟨a, cap, rfl, h1, h2⟩ := h
  refine ⟨a, cap, rfl, h1, fun hne => ?_⟩
  obtain ⟨off, rfl, h3⟩ := h2 hne
  exact ⟨off, rfl, fun i x hx => K.cell (h3 i x hx) hX⟩
def PtsR (l : List UInt8) (X base : Nat) (w1 : World) (ov bv : Value) (wr : World) : Prop :=
  ∃ (f : Nat) (rest : List UInt8) (acc : List Int), rest.length ≤ f ∧ acc.length + rest.length ≤ l.length ∧ BS X wr bv rest ∧ wr.ownsRow base 3 1 ov acc.length (acc.map (Value.int .i64)) ∧ Keeps (fun k => base ≤ k) w1 wr ∧ pts l = (ptsP f rest).map (acc ++ ·)
/-- What points answers. -/
def PtsE (base : Nat) (l : List UInt8) (e : Ending) (w' : World) : Prop :=
  match pts l with
  | none => e = .returned (.tuple #[.slice none 0 0, .bool false])
  | some rs => ∃ v, e = .returned (.tuple #[v, .bool true]) ∧ w'.ownsRow base 3 1 v rs.length (rs.map (Value.int .i64))
def restLen : Value → Nat
  | .slice _ n _ => n
  | _ => 0

set_option maxHeartbeats 2000000 in
theorem points_any (l : List UInt8) (w : World) (hl : l.length ≤ 100000) :
    Calls Tryz.prog 44 #[.string ⟨l.toArray⟩] w fun e w' => PtsE w.heap.size l e w' ∧ Keeps (fun _ => False) w w' := by
  obtain ⟨i0, hi0, hz0, hz1, hz2⟩ := info_parts info_int'
  have Hs : Hid ((⟨l.toArray⟩ : ByteArray).data.toList = l) := rfl
  have Hz : Hid ((⟨l.toArray⟩ : ByteArray).size = l.length) := by show l.toArray.size = _; simp
  generalize (⟨l.toArray⟩ : ByteArray) = s at *
  go_enter Tryz.func44, Tryz.ntmps44
  go_upto_region 2 with fail
  have hconv := fun W => Lib.run_convert_string_bytes (P := Tryz.prog) W 9 42 5 s Tryz.underlying9 Tryz.underlying42 Tryz.underlying5
  go_wp2_with fail
  clear hconv
  have hW0 : Keeps (fun _ => False) w (Lib.bytesWorld w 5 s) := ⟨rfl, rfl, rfl, by rw [Lib.bytesWorld_size]; omega, fun k hk _ => Lib.bytesWorld_at_old w 5 s k hk⟩
  have hX0 : ∀ j x, l[j]? = some x → (Lib.bytesWorld w 5 s).cell? ⟨w.heap.size, 0 + j, none⟩ = some (.int .u8 (x.toNat : Int)) := fun j x hx => by
    have hj : j < l.length := (List.getElem?_eq_some_iff.1 hx).1
    have := Lib.bytesWorld_cell w 5 s j (by rw [Hz.out]; exact hj)
    rw [Hs.out, List.getD_eq_getElem?_getD, hx] at this
    rw [Nat.zero_add]; exact this
  have hsz : (Lib.bytesWorld w 5 s).heap.size = w.heap.size + 1 := Lib.bytesWorld_size _ _ _
  have hcp := grownCap_ge w s.size 0 5
  have hcp2 := grownCap_le_maxLen w s.size 0 5 (by rw [Hz.out]; unfold maxLen; omega)
  generalize grownCap w s.size 0 5 = cp at *
  generalize Lib.bytesWorld w 5 s = w1 at *
  unfold maxLen at hcp2
  rw [Hz.out] at hcp ⊢
  have hB0 : BS w.heap.size w1 (.slice (some ⟨w.heap.size, 0, none⟩) l.length cp) l := ⟨_, cp, rfl, hcp, fun _ => ⟨0, rfl, hX0⟩⟩
  clear hX0 Hs Hz
  have Hsz := Lib.hid hsz
  clear hsz
  go_loopw [4, 5] (fun ov bv wr => PtsR l w.heap.size (w.heap.size + 1) w1 ov bv wr) (fun _ bv _ => restLen bv)
  case atStart => exact ⟨l.length, l, [], Nat.le_refl _, by simp, hB0, World.ownsRow_nil _ _ _ _, Keeps.refl _ _, by unfold pts; simp⟩
  case round =>
    clear hB0
    obtain ⟨f, rest, acc, hf, hlen, hB, hown, hk, hp⟩ := hrel
    have HB := Lib.hid hB
    obtain ⟨a, cap, rfl, hcap, hcell⟩ := hB
    obtain ⟨va, vc, rfl⟩ := ownsRow_slice hown
    have hsw : w.heap.size + 1 ≤ wr.heap.size := by have := hk.size; rw [Hsz.out] at this; exact this
    have hkw : Keeps (fun _ => False) w wr := (hW0.trans2 (T := fun k => w.heap.size + 1 ≤ k) hk (fun i hi e => by omega))
    have Hp := Lib.hid hp
    clear hp
    cases rest with
    | nil =>
      have E : Hid (pts l = some acc) := Lib.hid (by rw [Hp.out]; cases f <;> simp [ptsP])
      clear hcell
      go_wp2_with fail
      go_ret2
      refine ⟨?_, hkw⟩
      unfold PtsE
      rw [E.out]
      exact ⟨_, rfl, ⟨hown.1, hown.2.imp id (fun ⟨g, c, cur, h1, h2, h3⟩ => ⟨g, c, cur, h1, by omega, h3⟩)⟩⟩
    | cons c t =>
      obtain ⟨g, rfl⟩ : ∃ g, f = g + 1 := ⟨f - 1, by simp at hf; omega⟩
      obtain ⟨off, rfl, hcc⟩ := hcell (by simp)
      have HC := Lib.hid hcc
      have hp1 := (getP_pos c t).1
      have hp2 := getP_le c t
      have E : Hid (pts l = (if sizP (getP (c :: t)).1 = (getP (c :: t)).2 then (ptsP g ((c :: t).drop (getP (c :: t)).2)).map ((getP (c :: t)).1 :: ·) else none).map (acc ++ ·)) := Lib.hid (by rw [Hp.out, ptsP, if_neg (by simp)])
      have HG := Lib.hid (get_some w.heap.size off cap (t.length + 1) c t wr rfl (by simpa using hcap) hcc)
      clear hcc hcell Hp
      generalize getP (c :: t) = G at *
      obtain ⟨r, n⟩ := G
      simp only at hp1 hp2 E HG
      have HS := Lib.hid (fun W => size_any r W)
      have hlc : (c :: t).length = t.length + 1 := rfl
      simp only [List.length_cons] at hcap hf hlen hlc
      by_cases hs : sizP r = n
      · have E2 : Hid (pts l = ((ptsP g ((c :: t).drop n)).map (r :: ·)).map (acc ++ ·)) := Lib.hid (by rw [E.out, if_pos hs])
        rw [hs] at HS
        have hdl : ((c :: t).drop n).length = t.length + 1 - n := by simp
        have hdc : ∀ i x, ((c :: t).drop n)[i]? = some x → wr.cell? ⟨w.heap.size, off + n + i, none⟩ = some (.int .u8 (x.toNat : Int)) := fun i x hx => by
          rw [List.getElem?_drop] at hx
          rw [Nat.add_assoc]; exact HC.out (n + i) x hx
        have Hdl := Lib.hid hdl
        have Hdc := Lib.hid hdc
        clear hs E hdl hdc
        generalize (c :: t).drop n = rest' at *
        have hgo : ∀ (o' : Nat) (v' : Value) (w2 : World), w2.ownsRow (w.heap.size + 1) 3 1 v' (acc ++ [r]).length ((acc ++ [r]).map (Value.int .i64)) → Keeps (fun k => w.heap.size + 1 ≤ k) w1 w2 → Keeps (fun k => w.heap.size + 1 ≤ k) wr w2 → (n < cap → o' = off + n) → PtsR l w.heap.size (w.heap.size + 1) w1 v' (.slice (some ⟨w.heap.size, o', none⟩) (t.length + 1 - n) (cap - n)) w2 := by
          intro o' v' w2 h1 h2 h3 h4
          refine ⟨g, rest', acc ++ [r], by rw [Hdl.out]; omega, by rw [Hdl.out]; simp; omega, ?_, h1, h2, ?_⟩
          · refine ⟨some ⟨w.heap.size, o', none⟩, cap - n, by rw [Hdl.out], by rw [Hdl.out]; omega, fun hne => ?_⟩
            have h5 : 0 < rest'.length := List.length_pos_iff.2 hne
            rw [Hdl.out] at h5
            refine ⟨o', rfl, fun i x hx => ?_⟩
            rw [h4 (by omega)]
            exact h3.cell (Hdc.out i x hx) (by show ¬ w.heap.size + 1 ≤ w.heap.size; omega)
          · rw [E2.out, Option.map_map]
            congr 1
            funext q; simp
        have HGo := Lib.hid hgo
        clear hgo
        by_cases hcn : cap = n
        · subst hcn
          go_wp2_with fail
          refine HG.out.mono ?_
          rintro e w2 ⟨rfl, rfl⟩
          go_wp2_with fail
          refine (HS.out _).mono ?_
          rintro e w2 ⟨rfl, rfl⟩
          go_wp2_with (at_builtin; refine wpList_append_own _ rfl (.tmp 22) (.tmp 24) 58 rfl (w.heap.size + 1) 3 i0 (.int .i64 0) 1 8 Tryz.underlying58 hi0 hz0 hz1 hz2 rfl (by decide) _ _ _ rfl (ownsRow_alloc hown _) ⟨wr.heap.size, 0, none⟩ 1 1 [.int .i64 r] rfl rfl (by exact cells_new _ [_] _) (by intro u hu; simp at hu; subst hu; rfl) ?d3 ?d4 ?d5 ?_)
          case d3 => unfold maxLen; omega
          case d4 => omega
          case d5 => simp; omega
          intro v' w2 hown' hgrow _
          have hk2 : Keeps (fun k => w.heap.size + 1 ≤ k) wr w2 := ((Keeps.refl _ wr).alloc _).grown hgrow (fun b hb => Or.inl (ownBlock_base hown b hb))
          have hown2 : w2.ownsRow (w.heap.size + 1) 3 1 v' (acc ++ [r]).length ((acc ++ [r]).map (Value.int .i64)) := by simpa using hown'
          have Hown2 := Lib.hid hown2
          clear hown' hgrow hown2
          go_wp2_with fail
          go_roundw
          case rel => first | exact HGo.out _ _ _ Hown2.out (hk.trans hk2) hk2 (fun h => by first | rfl | omega) | (have h9 := HGo.out off _ _ Hown2.out (hk.trans hk2) hk2 (fun h => by omega); rw [show t.length + 1 - cap = 0 by omega, Nat.sub_self] at h9; exact h9)
          case measure => first | (simp [restLen]; done) | (simp [restLen]; omega)
        · have hcn2 : n < cap := by omega
          go_wp2_with fail
          refine HG.out.mono ?_
          rintro e w2 ⟨rfl, rfl⟩
          go_wp2_with fail
          refine (HS.out _).mono ?_
          rintro e w2 ⟨rfl, rfl⟩
          go_wp2_with (at_builtin; refine wpList_append_own _ rfl (.tmp 22) (.tmp 24) 58 rfl (w.heap.size + 1) 3 i0 (.int .i64 0) 1 8 Tryz.underlying58 hi0 hz0 hz1 hz2 rfl (by decide) _ _ _ rfl (ownsRow_alloc hown _) ⟨wr.heap.size, 0, none⟩ 1 1 [.int .i64 r] rfl rfl (by exact cells_new _ [_] _) (by intro u hu; simp at hu; subst hu; rfl) ?d3 ?d4 ?d5 ?_)
          case d3 => unfold maxLen; omega
          case d4 => omega
          case d5 => simp; omega
          intro v' w2 hown' hgrow _
          have hk2 : Keeps (fun k => w.heap.size + 1 ≤ k) wr w2 := ((Keeps.refl _ wr).alloc _).grown hgrow (fun b hb => Or.inl (ownBlock_base hown b hb))
          have hown2 : w2.ownsRow (w.heap.size + 1) 3 1 v' (acc ++ [r]).length ((acc ++ [r]).map (Value.int .i64)) := by simpa using hown'
          have Hown2 := Lib.hid hown2
          clear hown' hgrow hown2
          go_wp2_with fail
          go_roundw
          case rel => first | exact HGo.out _ _ _ Hown2.out (hk.trans hk2) hk2 (fun h => by first | rfl | omega) | (have h9 := HGo.out off _ _ Hown2.out (hk.trans hk2) hk2 (fun h => by omega); rw [show t.length + 1 - cap = 0 by omega, Nat.sub_self] at h9; exact h9)
          case measure => first | (simp [restLen]; done) | (simp [restLen]; omega)
      · have E2 : Hid (pts l = none) := Lib.hid (by rw [E.out, if_neg hs]; rfl)
        have g1 : (sizP r != (n : Int)) = true := by simp only [bne_iff_ne, ne_eq]; exact hs
        clear hs E
        generalize sizP r = sz at *
        go_wp2_with fail
        refine HG.out.mono ?_
        rintro e w2 ⟨rfl, rfl⟩
        go_wp2_with fail
        refine (HS.out _).mono ?_
        rintro e w2 ⟨rfl, rfl⟩
        go_wp2_with fail
        go_ret2
        refine ⟨?_, hkw⟩
        unfold PtsE
        rw [E2.out]
        rfl
end Go.Proofs.YtpcbfmbpbegjgaaGreat
end
section
namespace Go.Proofs.YtpcbfmbpbegjgaaGreat
open Go.RowKit
set_option linter.unusedVariables false
set_option linter.unusedSimpArgs false
set_option maxRecDepth 100000

/-- Where the parser stands: its place, the depth of parentheses, has it failed? -/
structure PS where
  pos : Nat
  deep : Int
  bad : Bool
def pk (rs : List Int) (s : PS) : Int := if s.bad then -1 else rs.getD s.pos (-1)
def nx (rs : List Int) (s : PS) : PS := ⟨s.pos + 1, s.deep, s.bad || decide (pk rs s < 0)⟩
def tkB (rs : List Int) (r : Int) (s : PS) : Bool := decide (pk rs s = r)
def tk (rs : List Int) (r : Int) (s : PS) : PS := if pk rs s = r then ⟨s.pos + 1, s.deep, s.bad⟩ else s
def wt (rs : List Int) (r : Int) (s : PS) : PS := if pk rs s = r then ⟨s.pos + 1, s.deep, s.bad⟩ else ⟨s.pos, s.deep, true⟩
def encI (n : Int) (_ : Nat) : Value := .int .i64 n

/-- The parser at block pb. -/
structure PaAt (w : World) (pb : Nat) (rv : Value) (rs : List Int) (s : PS) : Prop where
  c0 : w.cell? ⟨pb, 0, none⟩ = some rv
  c1 : w.cell? ⟨pb, 1, none⟩ = some (.int .i64 s.pos)
  c2 : w.cell? ⟨pb, 2, none⟩ = some (.int .i64 s.deep)
  c3 : w.cell? ⟨pb, 3, none⟩ = some (.bool s.bad)
  fr : ∀ o, w.frozen? ⟨pb, o, none⟩ = false
  sl : SlOf 1 encI w rv rs
  ne : rv.ownBlock ≠ some pb
  len : rs.length ≤ 100000
  pos : s.pos ≤ 1000000
  rng : ∀ r ∈ rs, 0 ≤ r ∧ r ≤ 1114111
  rb : ∀ b, rv.ownBlock = some b → b < w.heap.size
theorem PaAt.lt {w : World} {pb : Nat} {rv : Value} {rs : List Int} {s : PS} (h : PaAt w pb rv rs s) : pb < w.heap.size := lt_of_cell h.c0
theorem PaAt.keeps {S : Nat → Prop} {w w' : World} {pb : Nat} {rv : Value} {rs : List Int} {s : PS} (h : PaAt w pb rv rs s) (K : Keeps S w w') (h1 : ¬ S pb) (h2 : ∀ b, rv.ownBlock = some b → ¬ S b) : PaAt w' pb rv rs s :=
  ⟨K.cell h.c0 h1, K.cell h.c1 h1, K.cell h.c2 h1, K.cell h.c3 h1, fun o => K.frozen (h.fr o) h.lt h1, h.sl.keeps K h2, h.ne, h.len, h.pos, h.rng, fun b hb => Nat.lt_of_lt_of_le (h.rb b hb) K.size⟩
theorem PaAt.keepsF {w w' : World} {pb : Nat} {rv : Value} {rs : List Int} {s : PS} (h : PaAt w pb rv rs s) (K : Keeps (fun _ => False) w w') : PaAt w' pb rv rs s := h.keeps K id (fun _ _ => id)
theorem PaAt.setPos {w : World} {pb : Nat} {rv : Value} {rs : List Int} {s : PS} (h : PaAt w pb rv rs s) (p : Nat) (hp : p ≤ 1000000) : PaAt (w.setCell ⟨pb, 1, none⟩ (.int .i64 p)) pb rv rs ⟨p, s.deep, s.bad⟩ := by
  have K : Keeps (fun b => b = pb) w (w.setCell ⟨pb, 1, none⟩ (.int .i64 p)) := (Keeps.refl (fun b => b = pb) _).set (p := ⟨pb, 1, none⟩) rfl _
  exact ⟨by rw [cell_set_other (by simp)]; exact h.c0, cell_set_same h.c1, by rw [cell_set_other (by simp)]; exact h.c2, by rw [cell_set_other (by simp)]; exact h.c3,
    fun o => by rw [frozen_set]; exact h.fr o, h.sl.keeps K (fun b hb e => h.ne (by rw [hb, e])), h.ne, h.len, hp, h.rng, fun b hb => Nat.lt_of_lt_of_le (h.rb b hb) K.size⟩
theorem PaAt.setBad {w : World} {pb : Nat} {rv : Value} {rs : List Int} {s : PS} (h : PaAt w pb rv rs s) (x : Bool) : PaAt (w.setCell ⟨pb, 3, none⟩ (.bool x)) pb rv rs ⟨s.pos, s.deep, x⟩ := by
  have K : Keeps (fun b => b = pb) w (w.setCell ⟨pb, 3, none⟩ (.bool x)) := (Keeps.refl (fun b => b = pb) _).set (p := ⟨pb, 3, none⟩) rfl _
  exact ⟨by rw [cell_set_other (by simp)]; exact h.c0, by rw [cell_set_other (by simp)]; exact h.c1, by rw [cell_set_other (by simp)]; exact h.c2, cell_set_same h.c3,
    fun o => by rw [frozen_set]; exact h.fr o, h.sl.keeps K (fun b hb e => h.ne (by rw [hb, e])), h.ne, h.len, h.pos, h.rng, fun b hb => Nat.lt_of_lt_of_le (h.rb b hb) K.size⟩
theorem PaAt.setDeep {w : World} {pb : Nat} {rv : Value} {rs : List Int} {s : PS} (h : PaAt w pb rv rs s) (d : Int) : PaAt (w.setCell ⟨pb, 2, none⟩ (.int .i64 d)) pb rv rs ⟨s.pos, d, s.bad⟩ := by
  have K : Keeps (fun b => b = pb) w (w.setCell ⟨pb, 2, none⟩ (.int .i64 d)) := (Keeps.refl (fun b => b = pb) _).set (p := ⟨pb, 2, none⟩) rfl _
  exact ⟨by rw [cell_set_other (by simp)]; exact h.c0, by rw [cell_set_other (by simp)]; exact h.c1, cell_set_same h.c2, by rw [cell_set_other (by simp)]; exact h.c3,
    fun o => by rw [frozen_set]; exact h.fr o, h.sl.keeps K (fun b hb e => h.ne (by rw [hb, e])), h.ne, h.len, h.pos, h.rng, fun b hb => Nat.lt_of_lt_of_le (h.rb b hb) K.size⟩

set_option maxHeartbeats 1000000 in
theorem peek_any (w : World) (pb : Nat) (rv : Value) (rs : List Int) (s : PS) (h : PaAt w pb rv rs s) :
    Calls Tryz.prog 85 #[.pointer (some ⟨pb, 0, none⟩)] w fun e w' => e = .returned (.int .i64 (pk rs s)) ∧ Keeps (fun _ => False) w w' := by
  obtain ⟨c0, c1, c2, c3, fr, sl, ne, hlen, hpos, hrng, hrb⟩ := h
  obtain ⟨a, cap, rfl, ⟨hlc, _⟩, _, hcc⟩ := sl
  obtain ⟨p, d, bad⟩ := s
  simp only at c1 c2 c3 hpos
  cases bad with
  | true =>
    have e : pk rs ⟨p, d, true⟩ = -1 := rfl
    rw [e]
    go_enter Tryz.func85, Tryz.ntmps85
    go_wp2_with fail
    go_quiet (fail)
    go_wp2_with fail
    go_ret
    exact ⟨rfl, (Keeps.refl _ _).drawN _⟩
  | false =>
    by_cases hp : rs.length ≤ p
    · have e : pk rs ⟨p, d, false⟩ = -1 := by unfold pk; simp [List.getD_eq_getElem?_getD, List.getElem?_eq_none hp]
      have g1 : decide ((rs.length : Int) ≤ (p : Int)) = true := by simp; omega
      have g2 : decide (rs.length ≤ p) = true := by simpa using hp
      rw [e]
      go_enter Tryz.func85, Tryz.ntmps85
      go_wp2_with fail
      go_quiet (fail)
      go_wp2_with fail
      go_ret
      exact ⟨rfl, (Keeps.refl _ _).drawN _⟩
    · obtain ⟨r, hr⟩ : ∃ r, rs[p]? = some r := ⟨_, List.getElem?_eq_getElem (by omega)⟩
      have e : pk rs ⟨p, d, false⟩ = r := by unfold pk; simp [List.getD_eq_getElem?_getD, hr]
      obtain ⟨b, off, rfl, hcells⟩ := hcc (by omega)
      have x0 := hcells p r hr 0 (by omega)
      simp only [Nat.mul_one, Nat.add_zero, encI] at x0
      have g1 : decide ((rs.length : Int) ≤ (p : Int)) = false := by simp; omega
      have g2 : decide (rs.length ≤ p) = false := by simpa using hp
      have g3 : (p : Int) < (rs.length : Int) := by omega
      have g4 : (0 : Int) ≤ (p : Int) := by omega
      rw [e]
      clear e hcells hcc hr
      go_enter Tryz.func85, Tryz.ntmps85
      go_wp2_with fail
      go_quiet (fail)
      go_wp2_with fail
      go_quiet (fail)
      go_wp2_with fail
      go_ret
      exact ⟨rfl, ((Keeps.refl _ _).drawN _).drawN _⟩
theorem pk_le {w : World} {pb : Nat} {rv : Value} {rs : List Int} {s : PS} (h : PaAt w pb rv rs s) : -1 ≤ pk rs s ∧ pk rs s ≤ 1114111 := by
  unfold pk
  split
  · omega
  · rw [List.getD_eq_getElem?_getD]
    cases hh : rs[s.pos]? with
    | none => simp
    | some r => have := h.rng r (List.mem_of_getElem? hh); simp; omega
theorem pk_room {rs : List Int} {s : PS} (h : 0 ≤ pk rs s) : s.pos < rs.length ∧ s.bad = false := by
  unfold pk at h
  cases hb : s.bad with
  | true => rw [hb] at h; simp at h
  | false =>
    refine ⟨?_, rfl⟩
    rw [hb] at h
    simp only [Bool.false_eq_true, if_false, List.getD_eq_getElem?_getD] at h
    rcases Nat.lt_or_ge s.pos rs.length with h1 | h1
    · exact h1
    · rw [List.getElem?_eq_none h1] at h; simp at h
abbrev OnlyP (pb : Nat) : Nat → Prop := fun b => b = pb

set_option maxHeartbeats 1000000 in
theorem next_any (w : World) (pb : Nat) (rv : Value) (rs : List Int) (s : PS) (h : PaAt w pb rv rs s) (hp : s.pos + 1 ≤ 1000000) :
    Calls Tryz.prog 111 #[.pointer (some ⟨pb, 0, none⟩)] w fun e w' => e = .returned (.int .i64 (pk rs s)) ∧ PaAt w' pb rv rs (nx rs s) ∧ Keeps (OnlyP pb) w w' := by
  have HP := Lib.hid (peek_any w pb rv rs s h)
  have H := Lib.hid h
  clear h
  have Hn : Hid (nx rs s = ⟨s.pos + 1, s.deep, s.bad || decide (pk rs s < 0)⟩) := rfl
  generalize nx rs s = s' at *
  generalize hr : pk rs s = r at *
  clear hr
  by_cases hr0 : r < 0
  · have E : Hid (s' = ⟨s.pos + 1, s.deep, true⟩) := Lib.hid (by rw [Hn.out]; simp [hr0])
    go_enter Tryz.func111, Tryz.ntmps111
    go_wp2_with fail
    refine HP.out.mono ?_
    rintro e w1 ⟨rfl, hk1⟩
    have h1 := H.out.keepsF hk1
    have c3 := h1.c3
    have f3 := h1.fr 3
    have h2 := h1.setBad true
    have c1 := h2.c1
    have f1 := h2.fr 1
    have h3 := h2.setPos (s.pos + 1) hp
    have hk3 := ((hk1.mono (T := OnlyP pb) (fun _ _ e => e.elim)).set (p := ⟨pb, 3, none⟩) rfl (.bool true)).set (p := ⟨pb, 1, none⟩) rfl (.int .i64 ((s.pos + 1 : Nat) : Int))
    have H3 := Lib.hid h3
    have Hk3 := Lib.hid hk3
    simp only at c1
    clear h1 h2 h3 hk1 hk3
    go_wp2_with fail
    go_ret
    exact ⟨rfl, by rw [E.out]; exact H3.out, Hk3.out⟩
  · have E : Hid (s' = ⟨s.pos + 1, s.deep, s.bad⟩) := Lib.hid (by rw [Hn.out]; simp [hr0])
    go_enter Tryz.func111, Tryz.ntmps111
    go_wp2_with fail
    refine HP.out.mono ?_
    rintro e w1 ⟨rfl, hk1⟩
    have h1 := H.out.keepsF hk1
    have c1 := h1.c1
    have f1 := h1.fr 1
    have h3 := h1.setPos (s.pos + 1) hp
    have hk3 := (hk1.mono (T := OnlyP pb) (fun _ _ e => e.elim)).set (p := ⟨pb, 1, none⟩) rfl (.int .i64 ((s.pos + 1 : Nat) : Int))
    have H3 := Lib.hid h3
    have Hk3 := Lib.hid hk3
    clear h1 h3 hk1 hk3
    go_wp2_with fail
    go_ret
    exact ⟨rfl, by rw [E.out]; exact H3.out, Hk3.out⟩
end Go.Proofs.YtpcbfmbpbegjgaaGreat
end
section
namespace Go.Proofs.YtpcbfmbpbegjgaaGreat
set_option linter.unusedVariables false
set_option linter.unusedSimpArgs false

/-- Is a number in one of the ranges? -/
def mem (l : List (Int × Int)) (r : Int) : Bool := l.any fun p => decide (p.1 ≤ r) && decide (r ≤ p.2)
theorem mem_iff (l : List (Int × Int)) (r : Int) : mem l r = true ↔ ∃ p ∈ l, p.1 ≤ r ∧ r ≤ p.2 := by simp [mem]
theorem mem_nil (r : Int) : mem [] r = false := rfl
theorem mem_append (a b : List (Int × Int)) (r : Int) : mem (a ++ b) r = (mem a r || mem b r) := by simp [mem]
theorem mem_one (p : Int × Int) (r : Int) : mem [p] r = (decide (p.1 ≤ r) && decide (r ≤ p.2)) := by simp [mem]
theorem mem_cons (p : Int × Int) (l : List (Int × Int)) (r : Int) : mem (p :: l) r = ((decide (p.1 ≤ r) && decide (r ≤ p.2)) || mem l r) := by simp [mem]
def inAll (r : Int) : Bool := decide (0 ≤ r) && decide (r ≤ 1114111)
def has (l : List (Int × Int)) (r : Int) : Bool := mem l r && inAll r

/-- A set: its ranges in order, with gaps between. -/
def Norm : List (Int × Int) → Prop
  | [] => True
  | p :: l => 0 ≤ p.1 ∧ p.1 ≤ p.2 ∧ p.2 ≤ 1114111 ∧ (∀ q ∈ l, p.2 + 2 ≤ q.1) ∧ Norm l
theorem Norm.tail {p : Int × Int} {l : List (Int × Int)} (h : Norm (p :: l)) : Norm l := h.2.2.2.2
theorem Norm.rng {l : List (Int × Int)} (h : Norm l) : ∀ p ∈ l, 0 ≤ p.1 ∧ p.1 ≤ p.2 ∧ p.2 ≤ 1114111 := by
  induction l with
  | nil => simp
  | cons q l ih =>
    intro p hp
    rcases List.mem_cons.1 hp with rfl | hp
    · exact ⟨h.1, h.2.1, h.2.2.1⟩
    · exact ih h.tail p hp
theorem Norm.mem_all {l : List (Int × Int)} (h : Norm l) (r : Int) (hr : mem l r = true) : 0 ≤ r ∧ r ≤ 1114111 := by
  obtain ⟨p, hp, h1, h2⟩ := (mem_iff l r).1 hr
  have := h.rng p hp
  omega
theorem Norm.has {l : List (Int × Int)} (h : Norm l) (r : Int) : has l r = mem l r := by
  unfold Go.Proofs.YtpcbfmbpbegjgaaGreat.has
  cases hm : mem l r
  · rfl
  · have := h.mem_all r hm
    simp [inAll, this.1, this.2]
theorem norm_append (l : List (Int × Int)) (q : Int × Int) (h : Norm l) (h1 : 0 ≤ q.1) (h2 : q.1 ≤ q.2) (h3 : q.2 ≤ 1114111) (hq : ∀ p ∈ l, p.2 + 2 ≤ q.1) : Norm (l ++ [q]) := by
  induction l with
  | nil => exact ⟨h1, h2, h3, by simp, trivial⟩
  | cons p l ih =>
    refine ⟨h.1, h.2.1, h.2.2.1, fun x hx => ?_, ih h.tail (fun p hp => hq p (List.mem_cons_of_mem _ hp))⟩
    rcases List.mem_append.1 hx with hx | hx
    · exact h.2.2.2.1 x hx
    · simp at hx; subst hx; exact hq p List.mem_cons_self
theorem norm_last (l : List (Int × Int)) (p : Int × Int) (h : Norm (l ++ [p])) : Norm l ∧ 0 ≤ p.1 ∧ p.1 ≤ p.2 ∧ p.2 ≤ 1114111 ∧ ∀ q ∈ l, q.2 + 2 ≤ p.1 := by
  induction l with
  | nil => exact ⟨trivial, h.1, h.2.1, h.2.2.1, by simp⟩
  | cons q l ih =>
    obtain ⟨a, b, c, d, e⟩ := ih h.tail
    refine ⟨⟨h.1, h.2.1, h.2.2.1, fun x hx => h.2.2.2.1 x (List.mem_append_left _ hx), a⟩, b, c, d, fun x hx => ?_⟩
    rcases List.mem_cons.1 hx with rfl | hx
    · exact h.2.2.2.1 p (by simp)
    · exact e x hx

/-- Two sets that have the same numbers are one list. -/
theorem norm_unique : ∀ (a b : List (Int × Int)), Norm a → Norm b → (∀ r, mem a r = mem b r) → a = b := by
  intro a
  induction a with
  | nil =>
    intro b _ hb h
    cases b with
    | nil => rfl
    | cons q b =>
      have := h q.1
      rw [mem_nil, mem_cons] at this
      have h2 := hb.2.1
      simp [h2] at this
  | cons p a ih =>
    intro b ha hb h
    cases b with
    | nil =>
      have := h p.1
      rw [mem_nil, mem_cons] at this
      have h2 := ha.2.1
      simp [h2] at this
    | cons q b =>
      have hlow : ∀ (p : Int × Int) (l : List (Int × Int)), Norm (p :: l) → ∀ r, mem (p :: l) r = true → p.1 ≤ r := by
        intro p l hn r hr
        obtain ⟨x, hx, h1, h2⟩ := (mem_iff _ r).1 hr
        rcases List.mem_cons.1 hx with rfl | hx
        · exact h1
        · have := hn.2.2.2.1 x hx; have := hn.2.1; omega
      have hfst : ∀ (p : Int × Int) (l : List (Int × Int)), Norm (p :: l) → ∀ r, p.1 ≤ r → r ≤ p.2 → mem (p :: l) r = true := by
        intro p l hn r h1 h2; rw [mem_cons]; simp [h1, h2]
      have hgap : ∀ (p : Int × Int) (l : List (Int × Int)), Norm (p :: l) → mem (p :: l) (p.2 + 1) = false := by
        intro p l hn
        cases hm : mem (p :: l) (p.2 + 1)
        · rfl
        · obtain ⟨x, hx, h1, h2⟩ := (mem_iff _ _).1 hm
          rcases List.mem_cons.1 hx with rfl | hx
          · omega
          · have := hn.2.2.2.1 x hx; omega
      have ha2 := ha.2.1
      have hb2 := hb.2.1
      have e1 : p.1 = q.1 := by
        have h1 := hlow q b hb p.1 (by rw [← h]; exact hfst p a ha p.1 (by omega) (by omega))
        have h2 := hlow p a ha q.1 (by rw [h]; exact hfst q b hb q.1 (by omega) (by omega))
        omega
      have e2 : p.2 = q.2 := by
        rcases Int.lt_trichotomy p.2 q.2 with hlt | he | hlt
        · have h1 := hgap p a ha
          rw [h, hfst q b hb (p.2 + 1) (by omega) (by omega)] at h1
          cases h1
        · exact he
        · have h1 := hgap q b hb
          rw [← h, hfst p a ha (q.2 + 1) (by omega) (by omega)] at h1
          cases h1
      have e : p = q := Prod.ext e1 e2
      subst e
      congr 1
      refine ih b ha.tail hb.tail fun r => ?_
      have hr := h r
      rw [mem_cons, mem_cons] at hr
      by_cases hin : p.1 ≤ r ∧ r ≤ p.2
      · have hz : ∀ l, Norm (p :: l) → mem l r = false := by
          intro l hn
          cases hm : mem l r
          · rfl
          · obtain ⟨x, hx, h1, h2⟩ := (mem_iff _ _).1 hm
            have := hn.2.2.2.1 x hx; omega
        rw [hz a ha, hz b hb]
      · have : (decide (p.1 ≤ r) && decide (r ≤ p.2)) = false := by simp; omega
        simpa [this] using hr

/-- What the statements' own look at a set comes to: range by range, against the one ahead. -/
def chain : List (Int × Int) → Prop
  | [] => True
  | [p] => 0 ≤ p.1 ∧ p.1 ≤ p.2 ∧ p.2 ≤ 1114111
  | p :: q :: l => 0 ≤ p.1 ∧ p.1 ≤ p.2 ∧ p.2 ≤ 1114111 ∧ p.2 + 2 ≤ q.1 ∧ chain (q :: l)
theorem chain_norm : ∀ l, chain l ↔ Norm l := by
  intro l
  induction l with
  | nil => exact Iff.rfl
  | cons p l ih =>
    cases l with
    | nil => simp [chain, Norm]
    | cons q l =>
      constructor
      · rintro ⟨a, b, c, d, e⟩
        have hn := ih.1 e
        refine ⟨a, b, c, fun x hx => ?_, hn⟩
        rcases List.mem_cons.1 hx with rfl | hx
        · exact d
        · have := hn.2.2.2.1 x hx; have := hn.2.1; omega
      · rintro ⟨a, b, c, d, e⟩
        exact ⟨a, b, c, d q List.mem_cons_self, ih.2 e⟩
/-- One range more behind: what the look at place i asks. -/
theorem norm_snoc (l : List (Int × Int)) (q : Int × Int) : Norm (l ++ [q]) ↔ Norm l ∧ 0 ≤ q.1 ∧ q.1 ≤ q.2 ∧ q.2 ≤ 1114111 ∧ ∀ p, l.getLast? = some p → p.2 + 2 ≤ q.1 := by
  constructor
  · intro h
    obtain ⟨a, b, c, d, e⟩ := norm_last l q h
    exact ⟨a, b, c, d, fun p hp => e p (List.mem_of_getLast? hp)⟩
  · rintro ⟨a, b, c, d, e⟩
    refine norm_append l q a b c d ?_
    intro p hp
    rcases List.eq_nil_or_concat l with rfl | ⟨m, x, rfl⟩
    · simp at hp
    · have hx := e x (by simp)
      simp only [List.concat_eq_append] at hp a
      obtain ⟨_, _, h2, _, h4⟩ := norm_last m x a
      rcases List.mem_append.1 hp with hp | hp
      · have := h4 p hp; omega
      · simp at hp; subst hp; exact hx

/-- How many numbers ranges have, one by one. -/
def sumR (l : List (Int × Int)) : Int := (l.map fun p => p.2 - p.1 + 1).sum
theorem sumR_nil : sumR [] = 0 := rfl
theorem sumR_cons (p : Int × Int) (l : List (Int × Int)) : sumR (p :: l) = p.2 - p.1 + 1 + sumR l := by simp [sumR]
theorem sumR_snoc (l : List (Int × Int)) (p : Int × Int) : sumR (l ++ [p]) = sumR l + (p.2 - p.1 + 1) := by simp [sumR]

/-- How many numbers below n there are. -/
def cnt (f : Int → Bool) : Nat → Int
  | 0 => 0
  | n + 1 => cnt f n + if f n then 1 else 0
theorem cnt_congr (f g : Int → Bool) (n : Nat) (h : ∀ r : Int, 0 ≤ r → r < n → f r = g r) : cnt f n = cnt g n := by
  induction n with
  | zero => rfl
  | succ n ih => simp only [cnt]; rw [ih (fun r h1 h2 => h r h1 (by omega)), h n (by omega) (by omega)]
theorem cnt_or_and (f g : Int → Bool) (n : Nat) : cnt (fun r => f r || g r) n + cnt (fun r => f r && g r) n = cnt f n + cnt g n := by
  induction n with
  | zero => rfl
  | succ n ih =>
    simp only [cnt]
    by_cases hf : f n = true <;> by_cases hg : g n = true <;> simp [hf, hg] <;> omega
theorem cnt_not (f : Int → Bool) (n : Nat) : cnt f n + cnt (fun r => !f r) n = n := by
  induction n with
  | zero => rfl
  | succ n ih =>
    simp only [cnt]
    by_cases hf : f n = true <;> simp [hf] <;> omega
theorem cnt_false (n : Nat) : cnt (fun _ => false) n = 0 := by
  induction n with
  | zero => rfl
  | succ n ih => simp [cnt, ih]
theorem cnt_range (a b : Int) (n : Nat) (ha : 0 ≤ a) (hab : a ≤ b + 1) (hb : b < n) : cnt (fun r => decide (a ≤ r) && decide (r ≤ b)) n = b - a + 1 := by
  have key : ∀ m : Nat, cnt (fun r => decide (a ≤ r) && decide (r ≤ b)) m = if (m : Int) ≤ a then 0 else if (m : Int) ≤ b + 1 then (m : Int) - a else b - a + 1 := by
    intro m
    induction m with
    | zero => simp [cnt]; omega
    | succ m ih =>
      simp only [cnt, ih]
      by_cases h1 : a ≤ (m : Int) <;> by_cases h2 : (m : Int) ≤ b <;> simp [h1, h2] <;> (repeat' split) <;> omega
  rw [key]
  split
  · omega
  · split <;> omega
theorem norm_cnt (l : List (Int × Int)) (h : Norm l) : cnt (mem l) 1114112 = sumR l := by
  induction l with
  | nil => exact cnt_false _
  | cons p l ih =>
    rw [sumR_cons, ← ih h.tail, ← cnt_range p.1 p.2 1114112 h.1 (by have := h.2.1; omega) (by have := h.2.2.1; omega)]
    rw [← cnt_or_and]
    have : cnt (fun r => (decide (p.1 ≤ r) && decide (r ≤ p.2)) && mem l r) 1114112 = 0 := by
      rw [← cnt_false 1114112]
      refine cnt_congr _ _ _ fun r _ _ => ?_
      by_cases hin : p.1 ≤ r ∧ r ≤ p.2
      · cases hm : mem l r
        · simp
        · obtain ⟨x, hx, h1, h2⟩ := (mem_iff _ _).1 hm
          have := h.2.2.2.1 x hx; omega
      · have : (decide (p.1 ≤ r) && decide (r ≤ p.2)) = false := by simp; omega
        simp [this]
    rw [this, Int.add_zero]
    exact cnt_congr _ _ _ fun r _ _ => mem_cons p l r
theorem sumR_nonneg (l : List (Int × Int)) (h : Norm l) : 0 ≤ sumR l ∧ sumR l ≤ 1114112 := by
  rw [← norm_cnt l h]
  have key : ∀ (f : Int → Bool) (n : Nat), 0 ≤ cnt f n ∧ cnt f n ≤ n := by
    intro f n
    induction n with
    | zero => simp [cnt]
    | succ n ih => simp only [cnt]; split <;> omega
  exact key _ _

/-- What makes 'out' the set made of ranges. -/
def IsOf (rs out : List (Int × Int)) : Prop := Norm out ∧ ∀ r, mem out r = has rs r
theorem IsOf.unique {rs a b : List (Int × Int)} (ha : IsOf rs a) (hb : IsOf rs b) : a = b := norm_unique a b ha.1 hb.1 fun r => by rw [ha.2, hb.2]
theorem IsOf.self {a : List (Int × Int)} (ha : Norm a) : IsOf a a := ⟨ha, fun r => (ha.has r).symm⟩
end Go.Proofs.YtpcbfmbpbegjgaaGreat
end
section
namespace Go.Proofs.YtpcbfmbpbegjgaaGreat
open Go.RowKit
set_option linter.unusedVariables false
set_option linter.unusedSimpArgs false
set_option maxRecDepth 100000

/-- A range's two cells. -/
def encR (p : Int × Int) (j : Nat) : Value := if j = 0 then .int .i64 p.1 else .int .i64 p.2
/-- v reads as the ranges l, whose ends are of 64 bits. -/
def RSl (w : World) (v : Value) (l : List (Int × Int)) : Prop := SlOf 2 encR w v l ∧ ∀ p ∈ l, in64 p.1 ∧ in64 p.2
theorem RSl.cells {w : World} {v : Value} {l : List (Int × Int)} (h : RSl w v l) : ∃ a cap, v = .slice a l.length cap ∧ l.length ≤ 4611686018427387904 ∧
    (0 < l.length → ∃ b off, a = some ⟨b, off, none⟩ ∧ ∀ i (p : Int × Int), l[i]? = some p → w.cell? ⟨b, off + i * 2, none⟩ = some (.int .i64 p.1) ∧ w.cell? ⟨b, off + i * 2 + 1, none⟩ = some (.int .i64 p.2) ∧ in64 p.1 ∧ in64 p.2) := by
  obtain ⟨⟨a, cap, rfl, ⟨hl, hln⟩, hl2, hc⟩, hr⟩ := h
  refine ⟨a, cap, rfl, hl2, fun h0 => ?_⟩
  obtain ⟨b, off, rfl, hcc⟩ := hc h0
  exact ⟨b, off, rfl, fun i p hp => ⟨hcc i p hp 0 (by omega), hcc i p hp 1 (by omega), hr p (List.mem_of_getElem? hp)⟩⟩

theorem refHas_any (l : List (Int × Int)) (v : Value) (r : Int) (w : World) (h : RSl w v l) :
    Calls Tryz.prog 83 #[v, .int .i64 r] w fun e w' => e = .returned (.bool (has l r)) ∧ w = w' := by
  obtain ⟨a, cap, rfl, hl, hc⟩ := h.cells
  have Hc := Lib.hid hc
  clear hc h
  go_enter Tryz.func83, Tryz.ntmps83
  go_wp2_with fail
  go_loop [5] (fun iv => ∃ i : Nat, iv = .int .i64 i ∧ i ≤ l.length ∧ has (l.take i) r = false) (fun iv => l.length - (intOf iv).toNat)
  case atStart => exact ⟨0, rfl, Nat.zero_le _, rfl⟩
  case round =>
    obtain ⟨i, rfl, hi, hno⟩ := hrel
    have Hno := Lib.hid hno
    clear hno
    by_cases hil : i < l.length
    · obtain ⟨b, off, rfl, hcc⟩ := Hc.out (by omega)
      obtain ⟨p, hp⟩ : ∃ p, l[i]? = some p := ⟨_, List.getElem?_eq_getElem hil⟩
      obtain ⟨c0, c1, _, _⟩ := hcc i p hp
      clear hcc
      have hsn : l.take (i + 1) = l.take i ++ [p] := by rw [List.take_add_one, hp]; rfl
      have Hp := Lib.hid hp
      have Hsn := Lib.hid hsn
      clear hp hsn
      by_cases h1 : p.1 ≤ r ∧ r ≤ p.2 ∧ 0 ≤ r ∧ r ≤ 1114111
      · obtain ⟨a1, a2, a3, a4⟩ := h1
        go_wp2_with fail
        go_ret
        refine ⟨?_, rfl⟩
        have : has l r = true := by
          unfold has; rw [Bool.and_eq_true, mem_iff]
          exact ⟨⟨p, List.mem_of_getElem? Hp.out, a1, a2⟩, by simp [inAll, a3, a4]⟩
        rw [this]; rfl
      · have hgo : has (l.take (i + 1)) r = false := by
          rw [Hsn.out]; unfold has; rw [mem_append, mem_one]
          have h0 := Hno.out
          unfold has at h0
          by_cases hin : p.1 ≤ r ∧ r ≤ p.2
          · have : inAll r = false := by simp [inAll]; omega
            simp [this]
          · have : (decide (p.1 ≤ r) && decide (r ≤ p.2)) = false := by simp; omega
            rw [this, Bool.or_false]; exact h0
        by_cases g1 : p.1 ≤ r
        · by_cases g2 : r ≤ p.2
          · by_cases g3 : 0 ≤ r
            · have g4 : 1114111 < r := by omega
              go_wp2_with fail
              go_round
              case rel => exact ⟨i + 1, by go_num, by omega, hgo⟩
              case measure => simp [intOf]; omega
            · go_wp2_with fail
              go_round
              case rel => exact ⟨i + 1, by go_num, by omega, hgo⟩
              case measure => simp [intOf]; omega
          · go_wp2_with fail
            go_round
            case rel => exact ⟨i + 1, by go_num, by omega, hgo⟩
            case measure => simp [intOf]; omega
        · go_wp2_with fail
          go_round
          case rel => exact ⟨i + 1, by go_num, by omega, hgo⟩
          case measure => simp [intOf]; omega
    · go_wp2_with fail
      go_ret
      have h0 := Hno.out
      rw [List.take_of_length_le (by omega)] at h0
      exact ⟨by rw [h0]; rfl, rfl⟩

theorem take_snoc_of {α : Type} {l : List α} {i : Nat} {x : α} (h : l[i]? = some x) : l.take (i + 1) = l.take i ++ [x] := by rw [List.take_add_one, h]; rfl

end Go.Proofs.YtpcbfmbpbegjgaaGreat
end
section
namespace Go.Proofs.YtpcbfmbpbegjgaaGreat
open Go.RowKit
set_option linter.unusedVariables false
set_option linter.unusedSimpArgs false
set_option maxRecDepth 100000

/-- A row of trees: each one's sign, set, counts, kids; and those behind it. -/
inductive F where
  | nil : F
  | cons (op : Int) (set : List (Int × Int)) (mn mx : Int) (kids rest : F) : F
  deriving DecidableEq
structure T where
  op : Int
  set : List (Int × Int)
  mn : Int
  mx : Int
  kids : F
  deriving DecidableEq
def F.toL : F → List T
  | .nil => []
  | .cons a b c d k r => ⟨a, b, c, d, k⟩ :: r.toL
def F.ofL : List T → F
  | [] => .nil
  | t :: l => .cons t.op t.set t.mn t.mx t.kids (F.ofL l)
theorem F.of_to (f : F) : F.ofL f.toL = f := by
  induction f with
  | nil => rfl
  | cons a b c d k r ih1 ih2 => simp only [F.toL, F.ofL, ih2]
theorem F.to_of (l : List T) : (F.ofL l).toL = l := by
  induction l with
  | nil => rfl
  | cons t l ih => simp only [F.ofL, F.toL, ih]
theorem F.ofL_inj {a b : List T} (h : F.ofL a = F.ofL b) : a = b := by rw [← F.to_of a, ← F.to_of b, h]

/-- A node's own five cells. -/
structure NV where
  op : Int
  sv : Value
  mn : Int
  mx : Int
  kv : Value
def encN (v : NV) (j : Nat) : Value := if j = 0 then .int .i64 v.op else if j = 1 then v.sv else if j = 2 then .int .i64 v.mn else if j = 3 then .int .i64 v.mx else v.kv
def NV.val (v : NV) : Value := .agg #[.int .i64 v.op, v.sv, .int .i64 v.mn, .int .i64 v.mx, v.kv]
theorem encN_cells (v : NV) : (List.range 5).map (encN v) = [.int .i64 v.op, v.sv, .int .i64 v.mn, .int .i64 v.mx, v.kv] := rfl

/-- The row of trees f lies in w: these are its nodes' cells; all their own blocks are of P. -/
def FAt (w : World) (P : Nat → Prop) : F → List NV → Prop
  | .nil, vs => vs = []
  | .cons op set mn mx kids rest, vs => ∃ v vs', vs = v :: vs' ∧ (v.op = op ∧ v.mn = mn ∧ v.mx = mx ∧ in64 mn ∧ in64 mx) ∧ (RSl w v.sv set ∧ (∀ b, v.sv.ownBlock = some b → P b)) ∧
      (∃ ks, (SlOf 5 encN w v.kv ks ∧ (∀ b, v.kv.ownBlock = some b → P b)) ∧ FAt w P kids ks) ∧ FAt w P rest vs'
structure TAt (w : World) (P : Nat → Prop) (v : NV) (t : T) : Prop where
  op : v.op = t.op
  mn : v.mn = t.mn
  mx : v.mx = t.mx
  nn : in64 t.mn
  nx : in64 t.mx
  set : RSl w v.sv t.set
  sb : ∀ b, v.sv.ownBlock = some b → P b
  kids : ∃ ks, SlOf 5 encN w v.kv ks ∧ FAt w P t.kids ks
  kb : ∀ b, v.kv.ownBlock = some b → P b
theorem FAt.cons_iff {w : World} {P : Nat → Prop} {t : T} {l : List T} {vs : List NV} : FAt w P (F.ofL (t :: l)) vs ↔ ∃ v vs', vs = v :: vs' ∧ TAt w P v t ∧ FAt w P (F.ofL l) vs' := by
  constructor
  · rintro ⟨v, vs', rfl, ⟨h1, h2, h3, g1, g2⟩, ⟨h4, h5⟩, ⟨ks, ⟨h6, h7⟩, h8⟩, h9⟩
    exact ⟨v, vs', rfl, ⟨h1, h2, h3, g1, g2, h4, h5, ⟨ks, h6, h8⟩, h7⟩, h9⟩
  · rintro ⟨v, vs', rfl, ⟨h1, h2, h3, g1, g2, h4, h5, ⟨ks, h6, h8⟩, h7⟩, h9⟩
    exact ⟨v, vs', rfl, ⟨h1, h2, h3, g1, g2⟩, ⟨h4, h5⟩, ⟨ks, ⟨h6, h7⟩, h8⟩, h9⟩
theorem RSl.keeps {S : Nat → Prop} {w w' : World} {v : Value} {l : List (Int × Int)} (h : RSl w v l) (K : Keeps S w w') (hs : ∀ b, v.ownBlock = some b → ¬ S b) : RSl w' v l := ⟨h.1.keeps K hs, h.2⟩
theorem FAt.keepsTo {S P Q : Nat → Prop} {w w' : World} (K : Keeps S w w') (hs : ∀ b, P b → ¬ S b) (hq : ∀ b, P b → Q b) : ∀ {f : F} {vs : List NV}, FAt w P f vs → FAt w' Q f vs := by
  intro f
  induction f with
  | nil => intro vs h; exact h
  | cons a b c d k r ih1 ih2 =>
    rintro vs ⟨v, vs', rfl, h1, ⟨h4, h5⟩, ⟨ks, ⟨h6, h7⟩, h8⟩, h9⟩
    exact ⟨v, vs', rfl, h1, ⟨h4.keeps K (fun b hb => hs b (h5 b hb)), fun b hb => hq b (h5 b hb)⟩, ⟨ks, ⟨h6.keeps K (fun b hb => hs b (h7 b hb)), fun b hb => hq b (h7 b hb)⟩, ih1 h8⟩, ih2 h9⟩
theorem TAt.keepsTo {S P Q : Nat → Prop} {w w' : World} {v : NV} {t : T} (h : TAt w P v t) (K : Keeps S w w') (hs : ∀ b, P b → ¬ S b) (hq : ∀ b, P b → Q b) : TAt w' Q v t := by
  obtain ⟨ks, h6, h8⟩ := h.kids
  exact ⟨h.op, h.mn, h.mx, h.nn, h.nx, h.set.keeps K (fun b hb => hs b (h.sb b hb)), fun b hb => hq b (h.sb b hb), ⟨ks, h6.keeps K (fun b hb => hs b (h.kb b hb)), h8.keepsTo K hs hq⟩, fun b hb => hq b (h.kb b hb)⟩
theorem FAt.len {w : World} {P : Nat → Prop} : ∀ {l : List T} {vs : List NV}, FAt w P (F.ofL l) vs → vs.length = l.length := by
  intro l
  induction l with
  | nil => intro vs h; rw [show vs = [] from h]; rfl
  | cons t l ih => intro vs h; obtain ⟨v, vs', rfl, _, h2⟩ := FAt.cons_iff.1 h; simp [ih h2]
theorem FAt.snoc {w : World} {P : Nat → Prop} {t : T} {v : NV} : ∀ {l : List T} {vs : List NV}, FAt w P (F.ofL l) vs → TAt w P v t → FAt w P (F.ofL (l ++ [t])) (vs ++ [v]) := by
  intro l
  induction l with
  | nil => intro vs h ht; rw [show vs = [] from h]; exact FAt.cons_iff.2 ⟨v, [], rfl, ht, rfl⟩
  | cons u l ih =>
    intro vs h ht
    obtain ⟨v', vs', rfl, h1, h2⟩ := FAt.cons_iff.1 h
    exact FAt.cons_iff.2 ⟨v', vs' ++ [v], rfl, h1, ih h2 ht⟩
theorem FAt.get {w : World} {P : Nat → Prop} : ∀ {l : List T} {vs : List NV} {i : Nat} {t : T}, FAt w P (F.ofL l) vs → l[i]? = some t → ∃ v, vs[i]? = some v ∧ TAt w P v t := by
  intro l
  induction l with
  | nil => intro vs i t h hi; simp at hi
  | cons u l ih =>
    intro vs i t h hi
    obtain ⟨v', vs', rfl, h1, h2⟩ := FAt.cons_iff.1 h
    cases i with
    | zero => simp at hi; subst hi; exact ⟨v', rfl, h1⟩
    | succ i => simp at hi; obtain ⟨v, h3, h4⟩ := ih h2 hi; exact ⟨v, by simpa using h3, h4⟩

end Go.Proofs.YtpcbfmbpbegjgaaGreat
end
