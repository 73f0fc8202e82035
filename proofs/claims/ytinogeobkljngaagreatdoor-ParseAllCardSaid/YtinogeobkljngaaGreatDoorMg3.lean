/-
  Several texts in one: parse.points: what it computes. The parser's state, and its smallest steps: peek, next, take, want.
-/
import Derived.Test.YtinogeobkljngaaGreatDoorPaGet2G
import Derived.Lib.ConvBytes
import Derived.Deep.Cut
import Derived.Outline
import Derived.Deep.QuietTactic
import Derived.BigQuiet
section
namespace Go.Proofs.YtinogeobkljngaaGreatDoor
open Go.RowKit
set_option linter.unusedVariables false
set_option linter.unusedSimpArgs false
set_option maxRecDepth 100000

def ptsP : Nat → List UInt8 → Option (List Int)
  | 0, _ => some []
  | f + 1, l => if l = [] then some [] else if sizP (getP l).1 = (getP l).2 then (ptsP f (l.drop (getP l).2)).map ((getP l).1 :: ·) else none
theorem getP_eq (c : UInt8) (l : List UInt8) : getP (c :: l) = if lenP c.toNat = 0 ∨ l.length + 1 < lenP c.toNat then (65533, 1) else
    match tailP (headP c) (l.take (lenP c.toNat - 1)) with
    | none => (65533, 1)
    | some r => if sizP r = lenP c.toNat then ((r : Int), lenP c.toNat) else (65533, 1) := rfl
theorem getP_pos (c : UInt8) (l : List UInt8) : 1 ≤ (getP (c :: l)).2 ∧ (getP (c :: l)).2 ≤ 4 := by
  have hq : lenP c.toNat ≤ 4 := by unfold lenP; split <;> (try split) <;> (try split) <;> (try split) <;> omega
  rw [getP_eq]
  by_cases h : lenP c.toNat = 0 ∨ l.length + 1 < lenP c.toNat
  · rw [if_pos h]; simp
  · rw [if_neg h]
    split
    · simp
    · split
      · simp; omega
      · simp
theorem getP_le (c : UInt8) (l : List UInt8) : (getP (c :: l)).2 ≤ l.length + 1 := by
  rw [getP_eq]
  by_cases h : lenP c.toNat = 0 ∨ l.length + 1 < lenP c.toNat
  · rw [if_pos h]; simp
  · rw [if_neg h]
    split
    · simp
    · split
      · simp; omega
      · simp
/-- A text's code points; none: some octets are no code point's. -/
def pts (l : List UInt8) : Option (List Int) := ptsP l.length l
theorem info_int' : (Tryz.prog.info? 3).map (fun i => (i.zero, i.size, i.bytes)) = some (some (.int .i64 0), 1, 8) := by kernel_rfl
/-- What is left of the octets. -/
def BS (X : Nat) (w : World) (v : Value) (rest : List UInt8) : Prop :=
  ∃ a cap, v = .slice a rest.length cap ∧ rest.length ≤ cap ∧ (rest ≠ [] → ∃ off, a = some ⟨X, off, none⟩ ∧ ∀ i x, rest[i]? = some x → w.cell? ⟨X, off + i, none⟩ = some (.int .u8 (x.toNat : Int)))
theorem BS.keeps {X : Nat} {w w' : World} {v : Value} {rest : List UInt8} {S : Nat → Prop} (h : BS X w v rest) (K : Keeps S w w') (hX : ¬ S X) : BS X w' v rest := by
  obtain ⟨a, cap, rfl, h1, h2⟩ := h
  refine ⟨a, cap, rfl, h1, fun hne => ?_⟩
  obtain ⟨off, rfl, h3⟩ := h2 hne
  exact ⟨off, rfl, fun i x hx => K.cell (h3 i x hx) hX⟩
def PtsR (l : List UInt8) (X base : Nat) (w1 : World) (ov bv : Value) (wr : World) : Prop :=
  ∃ (f : Nat) (rest : List UInt8) (acc : List Int), rest.length ≤ f ∧ acc.length + rest.length ≤ l.length ∧ BS X wr bv rest ∧ wr.ownsRow base 3 1 ov acc.length (acc.map (Value.int .i64)) ∧ Keeps (fun k => base ≤ k) w1 wr ∧ pts l = (ptsP f rest).map (acc ++ ·)
/-- What points answers. -/
def PtsE (base : Nat) (l : List UInt8) (e : Ending) (w' : World) : Prop :=
  match pts l with
  | none => e = .returned (.tuple #[.slice none 0 0, .bool false])
  | some rs => ∃ v, e = .returned (.tuple #[v, .bool true]) ∧ w'.ownsRow base 3 1 v rs.length (rs.map (Value.int .i64))
def restLen : Value → Nat
  | .slice _ n _ => n
  | _ => 0

set_option maxHeartbeats 2000000 in
theorem points_any (l : List UInt8) (w : World) (hl : l.length ≤ 100000) :
    Calls Tryz.prog 9 #[.string ⟨l.toArray⟩] w fun e w' => PtsE w.heap.size l e w' ∧ Keeps (fun _ => False) w w' := by
  obtain ⟨i0, hi0, hz0, hz1, hz2⟩ := info_parts info_int'
  have Hs : Hid ((⟨l.toArray⟩ : ByteArray).data.toList = l) := rfl
  have Hz : Hid ((⟨l.toArray⟩ : ByteArray).size = l.length) := by show l.toArray.size = _; simp
  generalize (⟨l.toArray⟩ : ByteArray) = s at *
  go_enter Tryz.func9, Tryz.ntmps9
  go_upto_region 2 with fail
  have hconv := fun W => Lib.run_convert_string_bytes (P := Tryz.prog) W 9 53 5 s Tryz.underlying9 Tryz.underlying53 Tryz.underlying5
  go_wp2_with fail
  clear hconv
  have hW0 : Keeps (fun _ => False) w (Lib.bytesWorld w 5 s) := ⟨rfl, rfl, rfl, by rw [Lib.bytesWorld_size]; omega, fun k hk _ => Lib.bytesWorld_at_old w 5 s k hk⟩
  have hX0 : ∀ j x, l[j]? = some x → (Lib.bytesWorld w 5 s).cell? ⟨w.heap.size, 0 + j, none⟩ = some (.int .u8 (x.toNat : Int)) := fun j x hx => by
    have hj : j < l.length := (List.getElem?_eq_some_iff.1 hx).1
    have := Lib.bytesWorld_cell w 5 s j (by rw [Hz.out]; exact hj)
    rw [Hs.out, List.getD_eq_getElem?_getD, hx] at this
    rw [Nat.zero_add]; exact this
  have hsz : (Lib.bytesWorld w 5 s).heap.size = w.heap.size + 1 := Lib.bytesWorld_size _ _ _
  have hcp := grownCap_ge w s.size 0 5
  have hcp2 := grownCap_le_maxLen w s.size 0 5 (by rw [Hz.out]; unfold maxLen; omega)
  generalize grownCap w s.size 0 5 = cp at *
  generalize Lib.bytesWorld w 5 s = w1 at *
  unfold maxLen at hcp2
  rw [Hz.out] at hcp ⊢
  have hB0 : BS w.heap.size w1 (.slice (some ⟨w.heap.size, 0, none⟩) l.length cp) l := ⟨_, cp, rfl, hcp, fun _ => ⟨0, rfl, hX0⟩⟩
  clear hX0 Hs Hz
  have Hsz := Lib.hid hsz
  clear hsz
  go_loopw [4, 5] (fun ov bv wr => PtsR l w.heap.size (w.heap.size + 1) w1 ov bv wr) (fun _ bv _ => restLen bv)
  case atStart => exact ⟨l.length, l, [], Nat.le_refl _, by simp, hB0, World.ownsRow_nil _ _ _ _, Keeps.refl _ _, by unfold pts; simp⟩
  case round =>
    clear hB0
    obtain ⟨f, rest, acc, hf, hlen, hB, hown, hk, hp⟩ := hrel
    have HB := Lib.hid hB
    obtain ⟨a, cap, rfl, hcap, hcell⟩ := hB
    obtain ⟨va, vc, rfl⟩ := ownsRow_slice hown
    have hsw : w.heap.size + 1 ≤ wr.heap.size := by have := hk.size; rw [Hsz.out] at this; exact this
    have hkw : Keeps (fun _ => False) w wr := (hW0.trans2 (T := fun k => w.heap.size + 1 ≤ k) hk (fun i hi e => by omega))
    have Hp := Lib.hid hp
    clear hp
    cases rest with
    | nil =>
      have E : Hid (pts l = some acc) := Lib.hid (by rw [Hp.out]; cases f <;> simp [ptsP])
      clear hcell
      go_wp2_with fail
      go_ret2
      refine ⟨?_, hkw⟩
      unfold PtsE
      rw [E.out]
      exact ⟨_, rfl, ⟨hown.1, hown.2.imp id (fun ⟨g, c, cur, h1, h2, h3⟩ => ⟨g, c, cur, h1, by omega, h3⟩)⟩⟩
    | cons c t =>
      obtain ⟨g, rfl⟩ : ∃ g, f = g + 1 := ⟨f - 1, by simp at hf; omega⟩
      obtain ⟨off, rfl, hcc⟩ := hcell (by simp)
      have HC := Lib.hid hcc
      have hp1 := (getP_pos c t).1
      have hp2 := getP_le c t
      have E : Hid (pts l = (if sizP (getP (c :: t)).1 = (getP (c :: t)).2 then (ptsP g ((c :: t).drop (getP (c :: t)).2)).map ((getP (c :: t)).1 :: ·) else none).map (acc ++ ·)) := Lib.hid (by rw [Hp.out, ptsP, if_neg (by simp)])
      have HG := Lib.hid (get_some w.heap.size off cap (t.length + 1) c t wr rfl (by simpa using hcap) hcc)
      clear hcc hcell Hp
      generalize getP (c :: t) = G at *
      obtain ⟨r, n⟩ := G
      simp only at hp1 hp2 E HG
      have HS := Lib.hid (fun W => size_any r W)
      have hlc : (c :: t).length = t.length + 1 := rfl
      simp only [List.length_cons] at hcap hf hlen hlc
      by_cases hs : sizP r = n
      · have E2 : Hid (pts l = ((ptsP g ((c :: t).drop n)).map (r :: ·)).map (acc ++ ·)) := Lib.hid (by rw [E.out, if_pos hs])
        rw [hs] at HS
        have hdl : ((c :: t).drop n).length = t.length + 1 - n := by simp
        have hdc : ∀ i x, ((c :: t).drop n)[i]? = some x → wr.cell? ⟨w.heap.size, off + n + i, none⟩ = some (.int .u8 (x.toNat : Int)) := fun i x hx => by
          rw [List.getElem?_drop] at hx
          rw [Nat.add_assoc]; exact HC.out (n + i) x hx
        have Hdl := Lib.hid hdl
        have Hdc := Lib.hid hdc
        clear hs E hdl hdc
        generalize (c :: t).drop n = rest' at *
        have hgo : ∀ (o' : Nat) (v' : Value) (w2 : World), w2.ownsRow (w.heap.size + 1) 3 1 v' (acc ++ [r]).length ((acc ++ [r]).map (Value.int .i64)) → Keeps (fun k => w.heap.size + 1 ≤ k) w1 w2 → Keeps (fun k => w.heap.size + 1 ≤ k) wr w2 → (n < cap → o' = off + n) → PtsR l w.heap.size (w.heap.size + 1) w1 v' (.slice (some ⟨w.heap.size, o', none⟩) (t.length + 1 - n) (cap - n)) w2 := by
          intro o' v' w2 h1 h2 h3 h4
          refine ⟨g, rest', acc ++ [r], by rw [Hdl.out]; omega, by rw [Hdl.out]; simp; omega, ?_, h1, h2, ?_⟩
          · refine ⟨some ⟨w.heap.size, o', none⟩, cap - n, by rw [Hdl.out], by rw [Hdl.out]; omega, fun hne => ?_⟩
            have h5 : 0 < rest'.length := List.length_pos_iff.2 hne
            rw [Hdl.out] at h5
            refine ⟨o', rfl, fun i x hx => ?_⟩
            rw [h4 (by omega)]
            exact h3.cell (Hdc.out i x hx) (by show ¬ w.heap.size + 1 ≤ w.heap.size; omega)
          · rw [E2.out, Option.map_map]
            congr 1
            funext q; simp
        have HGo := Lib.hid hgo
        clear hgo
        by_cases hcn : cap = n
        · subst hcn
          go_wp2_with fail
          refine HG.out.mono ?_
          rintro e w2 ⟨rfl, rfl⟩
          go_wp2_with fail
          refine (HS.out _).mono ?_
          rintro e w2 ⟨rfl, rfl⟩
          go_wp2_with (at_builtin; refine wpList_append_own _ rfl (.tmp 22) (.tmp 24) 35 rfl (w.heap.size + 1) 3 i0 (.int .i64 0) 1 8 Tryz.underlying35 hi0 hz0 hz1 hz2 rfl (by decide) _ _ _ rfl (ownsRow_alloc hown _) ⟨wr.heap.size, 0, none⟩ 1 1 [.int .i64 r] rfl rfl (by exact cells_new _ [_] _) (by intro u hu; simp at hu; subst hu; rfl) ?d3 ?d4 ?d5 ?_)
          case d3 => unfold maxLen; omega
          case d4 => omega
          case d5 => simp; omega
          intro v' w2 hown' hgrow _
          have hk2 : Keeps (fun k => w.heap.size + 1 ≤ k) wr w2 := ((Keeps.refl _ wr).alloc _).grown hgrow (fun b hb => Or.inl (ownBlock_base hown b hb))
          have hown2 : w2.ownsRow (w.heap.size + 1) 3 1 v' (acc ++ [r]).length ((acc ++ [r]).map (Value.int .i64)) := by simpa using hown'
          have Hown2 := Lib.hid hown2
          clear hown' hgrow hown2
          go_wp2_with fail
          go_roundw
          case rel => first | exact HGo.out _ _ _ Hown2.out (hk.trans hk2) hk2 (fun h => by first | rfl | omega) | (have h9 := HGo.out off _ _ Hown2.out (hk.trans hk2) hk2 (fun h => by omega); rw [show t.length + 1 - cap = 0 by omega, Nat.sub_self] at h9; exact h9)
          case measure => first | (simp [restLen]; done) | (simp [restLen]; omega)
        · have hcn2 : n < cap := by omega
          go_wp2_with fail
          refine HG.out.mono ?_
          rintro e w2 ⟨rfl, rfl⟩
          go_wp2_with fail
          refine (HS.out _).mono ?_
          rintro e w2 ⟨rfl, rfl⟩
          go_wp2_with (at_builtin; refine wpList_append_own _ rfl (.tmp 22) (.tmp 24) 35 rfl (w.heap.size + 1) 3 i0 (.int .i64 0) 1 8 Tryz.underlying35 hi0 hz0 hz1 hz2 rfl (by decide) _ _ _ rfl (ownsRow_alloc hown _) ⟨wr.heap.size, 0, none⟩ 1 1 [.int .i64 r] rfl rfl (by exact cells_new _ [_] _) (by intro u hu; simp at hu; subst hu; rfl) ?d3 ?d4 ?d5 ?_)
          case d3 => unfold maxLen; omega
          case d4 => omega
          case d5 => simp; omega
          intro v' w2 hown' hgrow _
          have hk2 : Keeps (fun k => w.heap.size + 1 ≤ k) wr w2 := ((Keeps.refl _ wr).alloc _).grown hgrow (fun b hb => Or.inl (ownBlock_base hown b hb))
          have hown2 : w2.ownsRow (w.heap.size + 1) 3 1 v' (acc ++ [r]).length ((acc ++ [r]).map (Value.int .i64)) := by simpa using hown'
          have Hown2 := Lib.hid hown2
          clear hown' hgrow hown2
          go_wp2_with fail
          go_roundw
          case rel => first | exact HGo.out _ _ _ Hown2.out (hk.trans hk2) hk2 (fun h => by first | rfl | omega) | (have h9 := HGo.out off _ _ Hown2.out (hk.trans hk2) hk2 (fun h => by omega); rw [show t.length + 1 - cap = 0 by omega, Nat.sub_self] at h9; exact h9)
          case measure => first | (simp [restLen]; done) | (simp [restLen]; omega)
      · have E2 : Hid (pts l = none) := Lib.hid (by rw [E.out, if_neg hs]; rfl)
        have g1 : (sizP r != (n : Int)) = true := by simp only [bne_iff_ne, ne_eq]; exact hs
        clear hs E
        generalize sizP r = sz at *
        go_wp2_with fail
        refine HG.out.mono ?_
        rintro e w2 ⟨rfl, rfl⟩
        go_wp2_with fail
        refine (HS.out _).mono ?_
        rintro e w2 ⟨rfl, rfl⟩
        go_wp2_with fail
        go_ret2
        refine ⟨?_, hkw⟩
        unfold PtsE
        rw [E2.out]
        rfl
end Go.Proofs.YtinogeobkljngaaGreatDoor
end
section
namespace Go.Proofs.YtinogeobkljngaaGreatDoor
open Go.RowKit
set_option linter.unusedVariables false
set_option linter.unusedSimpArgs false
set_option maxRecDepth 100000

/-- Where the parser stands: its place, the depth of parentheses, has it failed? -/
structure PS where
  pos : Nat
  deep : Int
  bad : Bool
def pk (rs : List Int) (s : PS) : Int := if s.bad then -1 else rs.getD s.pos (-1)
def nx (rs : List Int) (s : PS) : PS := ⟨s.pos + 1, s.deep, s.bad || decide (pk rs s < 0)⟩
def tkB (rs : List Int) (r : Int) (s : PS) : Bool := decide (pk rs s = r)
def tk (rs : List Int) (r : Int) (s : PS) : PS := if pk rs s = r then ⟨s.pos + 1, s.deep, s.bad⟩ else s
def wt (rs : List Int) (r : Int) (s : PS) : PS := if pk rs s = r then ⟨s.pos + 1, s.deep, s.bad⟩ else ⟨s.pos, s.deep, true⟩
def encI (n : Int) (_ : Nat) : Value := .int .i64 n

/-- The parser at block pb. -/
structure PaAt (w : World) (pb : Nat) (rv : Value) (rs : List Int) (s : PS) : Prop where
  c0 : w.cell? ⟨pb, 0, none⟩ = some rv
  c1 : w.cell? ⟨pb, 1, none⟩ = some (.int .i64 s.pos)
  c2 : w.cell? ⟨pb, 2, none⟩ = some (.int .i64 s.deep)
  c3 : w.cell? ⟨pb, 3, none⟩ = some (.bool s.bad)
  fr : ∀ o, w.frozen? ⟨pb, o, none⟩ = false
  sl : SlOf 1 encI w rv rs
  ne : rv.ownBlock ≠ some pb
  len : rs.length ≤ 100000
  pos : s.pos ≤ 1000000
  rng : ∀ r ∈ rs, 0 ≤ r ∧ r ≤ 1114111
  rb : ∀ b, rv.ownBlock = some b → b < w.heap.size
theorem PaAt.lt {w : World} {pb : Nat} {rv : Value} {rs : List Int} {s : PS} (h : PaAt w pb rv rs s) : pb < w.heap.size := lt_of_cell h.c0
theorem PaAt.keeps {S : Nat → Prop} {w w' : World} {pb : Nat} {rv : Value} {rs : List Int} {s : PS} (h : PaAt w pb rv rs s) (K : Keeps S w w') (h1 : ¬ S pb) (h2 : ∀ b, rv.ownBlock = some b → ¬ S b) : PaAt w' pb rv rs s :=
  ⟨K.cell h.c0 h1, K.cell h.c1 h1, K.cell h.c2 h1, K.cell h.c3 h1, fun o => K.frozen (h.fr o) h.lt h1, h.sl.keeps K h2, h.ne, h.len, h.pos, h.rng, fun b hb => Nat.lt_of_lt_of_le (h.rb b hb) K.size⟩
theorem PaAt.keepsF {w w' : World} {pb : Nat} {rv : Value} {rs : List Int} {s : PS} (h : PaAt w pb rv rs s) (K : Keeps (fun _ => False) w w') : PaAt w' pb rv rs s := h.keeps K id (fun _ _ => id)
theorem PaAt.setPos {w : World} {pb : Nat} {rv : Value} {rs : List Int} {s : PS} (h : PaAt w pb rv rs s) (p : Nat) (hp : p ≤ 1000000) : PaAt (w.setCell ⟨pb, 1, none⟩ (.int .i64 p)) pb rv rs ⟨p, s.deep, s.bad⟩ := by
  have K : Keeps (fun b => b = pb) w (w.setCell ⟨pb, 1, none⟩ (.int .i64 p)) := (Keeps.refl (fun b => b = pb) _).set (p := ⟨pb, 1, none⟩) rfl _
  exact ⟨by rw [cell_set_other (by simp)]; exact h.c0, cell_set_same h.c1, by rw [cell_set_other (by simp)]; exact h.c2, by rw [cell_set_other (by simp)]; exact h.c3,
    fun o => by rw [frozen_set]; exact h.fr o, h.sl.keeps K (fun b hb e => h.ne (by rw [hb, e])), h.ne, h.len, hp, h.rng, fun b hb => Nat.lt_of_lt_of_le (h.rb b hb) K.size⟩
theorem PaAt.setBad {w : World} {pb : Nat} {rv : Value} {rs : List Int} {s : PS} (h : PaAt w pb rv rs s) (x : Bool) : PaAt (w.setCell ⟨pb, 3, none⟩ (.bool x)) pb rv rs ⟨s.pos, s.deep, x⟩ := by
  have K : Keeps (fun b => b = pb) w (w.setCell ⟨pb, 3, none⟩ (.bool x)) := (Keeps.refl (fun b => b = pb) _).set (p := ⟨pb, 3, none⟩) rfl _
  exact ⟨by rw [cell_set_other (by simp)]; exact h.c0, by rw [cell_set_other (by simp)]; exact h.c1, by rw [cell_set_other (by simp)]; exact h.c2, cell_set_same h.c3,
    fun o => by rw [frozen_set]; exact h.fr o, h.sl.keeps K (fun b hb e => h.ne (by rw [hb, e])), h.ne, h.len, h.pos, h.rng, fun b hb => Nat.lt_of_lt_of_le (h.rb b hb) K.size⟩
theorem PaAt.setDeep {w : World} {pb : Nat} {rv : Value} {rs : List Int} {s : PS} (h : PaAt w pb rv rs s) (d : Int) : PaAt (w.setCell ⟨pb, 2, none⟩ (.int .i64 d)) pb rv rs ⟨s.pos, d, s.bad⟩ := by
  have K : Keeps (fun b => b = pb) w (w.setCell ⟨pb, 2, none⟩ (.int .i64 d)) := (Keeps.refl (fun b => b = pb) _).set (p := ⟨pb, 2, none⟩) rfl _
  exact ⟨by rw [cell_set_other (by simp)]; exact h.c0, by rw [cell_set_other (by simp)]; exact h.c1, cell_set_same h.c2, by rw [cell_set_other (by simp)]; exact h.c3,
    fun o => by rw [frozen_set]; exact h.fr o, h.sl.keeps K (fun b hb e => h.ne (by rw [hb, e])), h.ne, h.len, h.pos, h.rng, fun b hb => Nat.lt_of_lt_of_le (h.rb b hb) K.size⟩

set_option maxHeartbeats 1000000 in
theorem peek_any (w : World) (pb : Nat) (rv : Value) (rs : List Int) (s : PS) (h : PaAt w pb rv rs s) :
    Calls Tryz.prog 34 #[.pointer (some ⟨pb, 0, none⟩)] w fun e w' => e = .returned (.int .i64 (pk rs s)) ∧ Keeps (fun _ => False) w w' := by
  obtain ⟨c0, c1, c2, c3, fr, sl, ne, hlen, hpos, hrng, hrb⟩ := h
  obtain ⟨a, cap, rfl, ⟨hlc, _⟩, _, hcc⟩ := sl
  obtain ⟨p, d, bad⟩ := s
  simp only at c1 c2 c3 hpos
  cases bad with
  | true =>
    have e : pk rs ⟨p, d, true⟩ = -1 := rfl
    rw [e]
    go_enter Tryz.func34, Tryz.ntmps34
    go_wp2_with fail
    go_quiet (fail)
    go_wp2_with fail
    go_ret
    exact ⟨rfl, (Keeps.refl _ _).drawN _⟩
  | false =>
    by_cases hp : rs.length ≤ p
    · have e : pk rs ⟨p, d, false⟩ = -1 := by unfold pk; simp [List.getD_eq_getElem?_getD, List.getElem?_eq_none hp]
      have g1 : decide ((rs.length : Int) ≤ (p : Int)) = true := by simp; omega
      have g2 : decide (rs.length ≤ p) = true := by simpa using hp
      rw [e]
      go_enter Tryz.func34, Tryz.ntmps34
      go_wp2_with fail
      go_quiet (fail)
      go_wp2_with fail
      go_ret
      exact ⟨rfl, (Keeps.refl _ _).drawN _⟩
    · obtain ⟨r, hr⟩ : ∃ r, rs[p]? = some r := ⟨_, List.getElem?_eq_getElem (by omega)⟩
      have e : pk rs ⟨p, d, false⟩ = r := by unfold pk; simp [List.getD_eq_getElem?_getD, hr]
      obtain ⟨b, off, rfl, hcells⟩ := hcc (by omega)
      have x0 := hcells p r hr 0 (by omega)
      simp only [Nat.mul_one, Nat.add_zero, encI] at x0
      have g1 : decide ((rs.length : Int) ≤ (p : Int)) = false := by simp; omega
      have g2 : decide (rs.length ≤ p) = false := by simpa using hp
      have g3 : (p : Int) < (rs.length : Int) := by omega
      have g4 : (0 : Int) ≤ (p : Int) := by omega
      rw [e]
      clear e hcells hcc hr
      go_enter Tryz.func34, Tryz.ntmps34
      go_wp2_with fail
      go_quiet (fail)
      go_wp2_with fail
      go_quiet (fail)
      go_wp2_with fail
      go_ret
      exact ⟨rfl, ((Keeps.refl _ _).drawN _).drawN _⟩
theorem pk_le {w : World} {pb : Nat} {rv : Value} {rs : List Int} {s : PS} (h : PaAt w pb rv rs s) : -1 ≤ pk rs s ∧ pk rs s ≤ 1114111 := by
  unfold pk
  split
  · omega
  · rw [List.getD_eq_getElem?_getD]
    cases hh : rs[s.pos]? with
    | none => simp
    | some r => have := h.rng r (List.mem_of_getElem? hh); simp; omega
theorem pk_room {rs : List Int} {s : PS} (h : 0 ≤ pk rs s) : s.pos < rs.length ∧ s.bad = false := by
  unfold pk at h
  cases hb : s.bad with
  | true => rw [hb] at h; simp at h
  | false =>
    refine ⟨?_, rfl⟩
    rw [hb] at h
    simp only [Bool.false_eq_true, if_false, List.getD_eq_getElem?_getD] at h
    rcases Nat.lt_or_ge s.pos rs.length with h1 | h1
    · exact h1
    · rw [List.getElem?_eq_none h1] at h; simp at h
abbrev OnlyP (pb : Nat) : Nat → Prop := fun b => b = pb

set_option maxHeartbeats 1000000 in
theorem next_any (w : World) (pb : Nat) (rv : Value) (rs : List Int) (s : PS) (h : PaAt w pb rv rs s) (hp : s.pos + 1 ≤ 1000000) :
    Calls Tryz.prog 59 #[.pointer (some ⟨pb, 0, none⟩)] w fun e w' => e = .returned (.int .i64 (pk rs s)) ∧ PaAt w' pb rv rs (nx rs s) ∧ Keeps (OnlyP pb) w w' := by
  have HP := Lib.hid (peek_any w pb rv rs s h)
  have H := Lib.hid h
  clear h
  have Hn : Hid (nx rs s = ⟨s.pos + 1, s.deep, s.bad || decide (pk rs s < 0)⟩) := rfl
  generalize nx rs s = s' at *
  generalize hr : pk rs s = r at *
  clear hr
  by_cases hr0 : r < 0
  · have E : Hid (s' = ⟨s.pos + 1, s.deep, true⟩) := Lib.hid (by rw [Hn.out]; simp [hr0])
    go_enter Tryz.func59, Tryz.ntmps59
    go_wp2_with fail
    refine HP.out.mono ?_
    rintro e w1 ⟨rfl, hk1⟩
    have h1 := H.out.keepsF hk1
    have c3 := h1.c3
    have f3 := h1.fr 3
    have h2 := h1.setBad true
    have c1 := h2.c1
    have f1 := h2.fr 1
    have h3 := h2.setPos (s.pos + 1) hp
    have hk3 := ((hk1.mono (T := OnlyP pb) (fun _ _ e => e.elim)).set (p := ⟨pb, 3, none⟩) rfl (.bool true)).set (p := ⟨pb, 1, none⟩) rfl (.int .i64 ((s.pos + 1 : Nat) : Int))
    have H3 := Lib.hid h3
    have Hk3 := Lib.hid hk3
    simp only at c1
    clear h1 h2 h3 hk1 hk3
    go_wp2_with fail
    go_ret
    exact ⟨rfl, by rw [E.out]; exact H3.out, Hk3.out⟩
  · have E : Hid (s' = ⟨s.pos + 1, s.deep, s.bad⟩) := Lib.hid (by rw [Hn.out]; simp [hr0])
    go_enter Tryz.func59, Tryz.ntmps59
    go_wp2_with fail
    refine HP.out.mono ?_
    rintro e w1 ⟨rfl, hk1⟩
    have h1 := H.out.keepsF hk1
    have c1 := h1.c1
    have f1 := h1.fr 1
    have h3 := h1.setPos (s.pos + 1) hp
    have hk3 := (hk1.mono (T := OnlyP pb) (fun _ _ e => e.elim)).set (p := ⟨pb, 1, none⟩) rfl (.int .i64 ((s.pos + 1 : Nat) : Int))
    have H3 := Lib.hid h3
    have Hk3 := Lib.hid hk3
    clear h1 h3 hk1 hk3
    go_wp2_with fail
    go_ret
    exact ⟨rfl, by rw [E.out]; exact H3.out, Hk3.out⟩
end Go.Proofs.YtinogeobkljngaaGreatDoor
end
