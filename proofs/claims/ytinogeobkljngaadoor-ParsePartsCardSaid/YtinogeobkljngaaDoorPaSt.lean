/-
  The parser's state, and its smallest steps: peek, next, take, want.
-/
import Derived.Test.YtinogeobkljngaaDoorPaPts
import Derived.Deep.QuietTactic
import Derived.BigQuiet
namespace Go.Proofs.YtinogeobkljngaaDoor
open Go.RowKit
set_option linter.unusedVariables false
set_option linter.unusedSimpArgs false
set_option maxRecDepth 100000

/-- Where the parser stands: its place, the depth of parentheses, has it failed? -/
structure PS where
  pos : Nat
  deep : Int
  bad : Bool
def pk (rs : List Int) (s : PS) : Int := if s.bad then -1 else rs.getD s.pos (-1)
def nx (rs : List Int) (s : PS) : PS := ⟨s.pos + 1, s.deep, s.bad || decide (pk rs s < 0)⟩
def tkB (rs : List Int) (r : Int) (s : PS) : Bool := decide (pk rs s = r)
def tk (rs : List Int) (r : Int) (s : PS) : PS := if pk rs s = r then ⟨s.pos + 1, s.deep, s.bad⟩ else s
def wt (rs : List Int) (r : Int) (s : PS) : PS := if pk rs s = r then ⟨s.pos + 1, s.deep, s.bad⟩ else ⟨s.pos, s.deep, true⟩
def encI (n : Int) (_ : Nat) : Value := .int .i64 n

/-- The parser at block pb. -/
structure PaAt (w : World) (pb : Nat) (rv : Value) (rs : List Int) (s : PS) : Prop where
  c0 : w.cell? ⟨pb, 0, none⟩ = some rv
  c1 : w.cell? ⟨pb, 1, none⟩ = some (.int .i64 s.pos)
  c2 : w.cell? ⟨pb, 2, none⟩ = some (.int .i64 s.deep)
  c3 : w.cell? ⟨pb, 3, none⟩ = some (.bool s.bad)
  fr : ∀ o, w.frozen? ⟨pb, o, none⟩ = false
  sl : SlOf 1 encI w rv rs
  ne : rv.ownBlock ≠ some pb
  len : rs.length ≤ 100000
  pos : s.pos ≤ 1000000
  rng : ∀ r ∈ rs, 0 ≤ r ∧ r ≤ 1114111
  rb : ∀ b, rv.ownBlock = some b → b < w.heap.size
theorem PaAt.lt {w : World} {pb : Nat} {rv : Value} {rs : List Int} {s : PS} (h : PaAt w pb rv rs s) : pb < w.heap.size := lt_of_cell h.c0
theorem PaAt.keeps {S : Nat → Prop} {w w' : World} {pb : Nat} {rv : Value} {rs : List Int} {s : PS} (h : PaAt w pb rv rs s) (K : Keeps S w w') (h1 : ¬ S pb) (h2 : ∀ b, rv.ownBlock = some b → ¬ S b) : PaAt w' pb rv rs s :=
  ⟨K.cell h.c0 h1, K.cell h.c1 h1, K.cell h.c2 h1, K.cell h.c3 h1, fun o => K.frozen (h.fr o) h.lt h1, h.sl.keeps K h2, h.ne, h.len, h.pos, h.rng, fun b hb => Nat.lt_of_lt_of_le (h.rb b hb) K.size⟩
theorem PaAt.keepsF {w w' : World} {pb : Nat} {rv : Value} {rs : List Int} {s : PS} (h : PaAt w pb rv rs s) (K : Keeps (fun _ => False) w w') : PaAt w' pb rv rs s := h.keeps K id (fun _ _ => id)
theorem PaAt.setPos {w : World} {pb : Nat} {rv : Value} {rs : List Int} {s : PS} (h : PaAt w pb rv rs s) (p : Nat) (hp : p ≤ 1000000) : PaAt (w.setCell ⟨pb, 1, none⟩ (.int .i64 p)) pb rv rs ⟨p, s.deep, s.bad⟩ := by
  have K : Keeps (fun b => b = pb) w (w.setCell ⟨pb, 1, none⟩ (.int .i64 p)) := (Keeps.refl (fun b => b = pb) _).set (p := ⟨pb, 1, none⟩) rfl _
  exact ⟨by rw [cell_set_other (by simp)]; exact h.c0, cell_set_same h.c1, by rw [cell_set_other (by simp)]; exact h.c2, by rw [cell_set_other (by simp)]; exact h.c3,
    fun o => by rw [frozen_set]; exact h.fr o, h.sl.keeps K (fun b hb e => h.ne (by rw [hb, e])), h.ne, h.len, hp, h.rng, fun b hb => Nat.lt_of_lt_of_le (h.rb b hb) K.size⟩
theorem PaAt.setBad {w : World} {pb : Nat} {rv : Value} {rs : List Int} {s : PS} (h : PaAt w pb rv rs s) (x : Bool) : PaAt (w.setCell ⟨pb, 3, none⟩ (.bool x)) pb rv rs ⟨s.pos, s.deep, x⟩ := by
  have K : Keeps (fun b => b = pb) w (w.setCell ⟨pb, 3, none⟩ (.bool x)) := (Keeps.refl (fun b => b = pb) _).set (p := ⟨pb, 3, none⟩) rfl _
  exact ⟨by rw [cell_set_other (by simp)]; exact h.c0, by rw [cell_set_other (by simp)]; exact h.c1, by rw [cell_set_other (by simp)]; exact h.c2, cell_set_same h.c3,
    fun o => by rw [frozen_set]; exact h.fr o, h.sl.keeps K (fun b hb e => h.ne (by rw [hb, e])), h.ne, h.len, h.pos, h.rng, fun b hb => Nat.lt_of_lt_of_le (h.rb b hb) K.size⟩
theorem PaAt.setDeep {w : World} {pb : Nat} {rv : Value} {rs : List Int} {s : PS} (h : PaAt w pb rv rs s) (d : Int) : PaAt (w.setCell ⟨pb, 2, none⟩ (.int .i64 d)) pb rv rs ⟨s.pos, d, s.bad⟩ := by
  have K : Keeps (fun b => b = pb) w (w.setCell ⟨pb, 2, none⟩ (.int .i64 d)) := (Keeps.refl (fun b => b = pb) _).set (p := ⟨pb, 2, none⟩) rfl _
  exact ⟨by rw [cell_set_other (by simp)]; exact h.c0, by rw [cell_set_other (by simp)]; exact h.c1, cell_set_same h.c2, by rw [cell_set_other (by simp)]; exact h.c3,
    fun o => by rw [frozen_set]; exact h.fr o, h.sl.keeps K (fun b hb e => h.ne (by rw [hb, e])), h.ne, h.len, h.pos, h.rng, fun b hb => Nat.lt_of_lt_of_le (h.rb b hb) K.size⟩

set_option maxHeartbeats 1000000 in
theorem peek_any (w : World) (pb : Nat) (rv : Value) (rs : List Int) (s : PS) (h : PaAt w pb rv rs s) :
    Calls Tryd.prog 36 #[.pointer (some ⟨pb, 0, none⟩)] w fun e w' => e = .returned (.int .i64 (pk rs s)) ∧ Keeps (fun _ => False) w w' := by
  obtain ⟨c0, c1, c2, c3, fr, sl, ne, hlen, hpos, hrng, hrb⟩ := h
  obtain ⟨a, cap, rfl, ⟨hlc, _⟩, _, hcc⟩ := sl
  obtain ⟨p, d, bad⟩ := s
  simp only at c1 c2 c3 hpos
  cases bad with
  | true =>
    have e : pk rs ⟨p, d, true⟩ = -1 := rfl
    rw [e]
    go_enter Tryd.func36, Tryd.ntmps36
    go_wp2_with fail
    go_quiet (fail)
    go_wp2_with fail
    go_ret
    exact ⟨rfl, (Keeps.refl _ _).drawN _⟩
  | false =>
    by_cases hp : rs.length ≤ p
    · have e : pk rs ⟨p, d, false⟩ = -1 := by unfold pk; simp [List.getD_eq_getElem?_getD, List.getElem?_eq_none hp]
      have g1 : decide ((rs.length : Int) ≤ (p : Int)) = true := by simp; omega
      have g2 : decide (rs.length ≤ p) = true := by simpa using hp
      rw [e]
      go_enter Tryd.func36, Tryd.ntmps36
      go_wp2_with fail
      go_quiet (fail)
      go_wp2_with fail
      go_ret
      exact ⟨rfl, (Keeps.refl _ _).drawN _⟩
    · obtain ⟨r, hr⟩ : ∃ r, rs[p]? = some r := ⟨_, List.getElem?_eq_getElem (by omega)⟩
      have e : pk rs ⟨p, d, false⟩ = r := by unfold pk; simp [List.getD_eq_getElem?_getD, hr]
      obtain ⟨b, off, rfl, hcells⟩ := hcc (by omega)
      have x0 := hcells p r hr 0 (by omega)
      simp only [Nat.mul_one, Nat.add_zero, encI] at x0
      have g1 : decide ((rs.length : Int) ≤ (p : Int)) = false := by simp; omega
      have g2 : decide (rs.length ≤ p) = false := by simpa using hp
      have g3 : (p : Int) < (rs.length : Int) := by omega
      have g4 : (0 : Int) ≤ (p : Int) := by omega
      rw [e]
      clear e hcells hcc hr
      go_enter Tryd.func36, Tryd.ntmps36
      go_wp2_with fail
      go_quiet (fail)
      go_wp2_with fail
      go_quiet (fail)
      go_wp2_with fail
      go_ret
      exact ⟨rfl, ((Keeps.refl _ _).drawN _).drawN _⟩
theorem pk_le {w : World} {pb : Nat} {rv : Value} {rs : List Int} {s : PS} (h : PaAt w pb rv rs s) : -1 ≤ pk rs s ∧ pk rs s ≤ 1114111 := by
  unfold pk
  split
  · omega
  · rw [List.getD_eq_getElem?_getD]
    cases hh : rs[s.pos]? with
    | none => simp
    | some r => have := h.rng r (List.mem_of_getElem? hh); simp; omega
theorem pk_room {rs : List Int} {s : PS} (h : 0 ≤ pk rs s) : s.pos < rs.length ∧ s.bad = false := by
  unfold pk at h
  cases hb : s.bad with
  | true => rw [hb] at h; simp at h
  | false =>
    refine ⟨?_, rfl⟩
    rw [hb] at h
    simp only [Bool.false_eq_true, if_false, List.getD_eq_getElem?_getD] at h
    rcases Nat.lt_or_ge s.pos rs.length with h1 | h1
    · exact h1
    · rw [List.getElem?_eq_none h1] at h; simp at h
abbrev OnlyP (pb : Nat) : Nat → Prop := fun b => b = pb

set_option maxHeartbeats 1000000 in
theorem next_any (w : World) (pb : Nat) (rv : Value) (rs : List Int) (s : PS) (h : PaAt w pb rv rs s) (hp : s.pos + 1 ≤ 1000000) :
    Calls Tryd.prog 50 #[.pointer (some ⟨pb, 0, none⟩)] w fun e w' => e = .returned (.int .i64 (pk rs s)) ∧ PaAt w' pb rv rs (nx rs s) ∧ Keeps (OnlyP pb) w w' := by
  have HP := Lib.hid (peek_any w pb rv rs s h)
  have H := Lib.hid h
  clear h
  have Hn : Hid (nx rs s = ⟨s.pos + 1, s.deep, s.bad || decide (pk rs s < 0)⟩) := rfl
  generalize nx rs s = s' at *
  generalize hr : pk rs s = r at *
  clear hr
  by_cases hr0 : r < 0
  · have E : Hid (s' = ⟨s.pos + 1, s.deep, true⟩) := Lib.hid (by rw [Hn.out]; simp [hr0])
    go_enter Tryd.func50, Tryd.ntmps50
    go_wp2_with fail
    refine HP.out.mono ?_
    rintro e w1 ⟨rfl, hk1⟩
    have h1 := H.out.keepsF hk1
    have c3 := h1.c3
    have f3 := h1.fr 3
    have h2 := h1.setBad true
    have c1 := h2.c1
    have f1 := h2.fr 1
    have h3 := h2.setPos (s.pos + 1) hp
    have hk3 := ((hk1.mono (T := OnlyP pb) (fun _ _ e => e.elim)).set (p := ⟨pb, 3, none⟩) rfl (.bool true)).set (p := ⟨pb, 1, none⟩) rfl (.int .i64 ((s.pos + 1 : Nat) : Int))
    have H3 := Lib.hid h3
    have Hk3 := Lib.hid hk3
    simp only at c1
    clear h1 h2 h3 hk1 hk3
    go_wp2_with fail
    go_ret
    exact ⟨rfl, by rw [E.out]; exact H3.out, Hk3.out⟩
  · have E : Hid (s' = ⟨s.pos + 1, s.deep, s.bad⟩) := Lib.hid (by rw [Hn.out]; simp [hr0])
    go_enter Tryd.func50, Tryd.ntmps50
    go_wp2_with fail
    refine HP.out.mono ?_
    rintro e w1 ⟨rfl, hk1⟩
    have h1 := H.out.keepsF hk1
    have c1 := h1.c1
    have f1 := h1.fr 1
    have h3 := h1.setPos (s.pos + 1) hp
    have hk3 := (hk1.mono (T := OnlyP pb) (fun _ _ e => e.elim)).set (p := ⟨pb, 1, none⟩) rfl (.int .i64 ((s.pos + 1 : Nat) : Int))
    have H3 := Lib.hid h3
    have Hk3 := Lib.hid hk3
    clear h1 h3 hk1 hk3
    go_wp2_with fail
    go_ret
    exact ⟨rfl, by rw [E.out]; exact H3.out, Hk3.out⟩
end Go.Proofs.YtinogeobkljngaaDoor
