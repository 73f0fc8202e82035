/-
  Several texts in one: prog.Compile. prog.Right. match's threads: clear, put. The parser's functions on trees as plain words (atom, counted, pieces, alternatives), and where they end. The parser at texts of one piece: plain Lean. Tokens, the parser's steps, which texts are patterns, how deep parentheses stand: plain Lean. The document's tokens: where they lie in memory. The document's tokens in rows; where a parenthesis is closed; one node. The parser's atom, given its alternatives. The parser's atom: all its other cases. The document's Tree: the two rows of nodes that it gathers.
-/
import Derived.Test.YtgobcnheemocnaaGreatDoorMg22
import Derived.Deep.QuietTactic
import Derived.BigQuiet
import Derived.IntWalk
import Derived.Handy
import Derived.Maps.AppendAt
import Derived.Deep.AppendLies
section
namespace Go.Proofs.YtgobcnheemocnaaGreatDoor
open Go.RowKit
set_option linter.unusedVariables false
set_option linter.unusedSimpArgs false
set_option maxRecDepth 100000

/-- A program lies so. -/
structure PgAt (w : World) (P : Nat → Prop) (v : Value) (is : List Ins) : Prop where
  row : ∃ ivs, SlOf 4 encP w v ivs ∧ ivs.length = is.length ∧ ∀ (k : Nat) (iv : IV) (i : Ins), ivs[k]? = some iv → is[k]? = some i → InAt w P iv i
  blk : ∀ b, v.ownBlock = some b → P b
theorem PgAt.keepsTo {S P Q : Nat → Prop} {w w' : World} {v : Value} {is : List Ins} (h : PgAt w P v is) (K : Keeps S w w') (hs : ∀ b, P b → ¬ S b) (hq : ∀ b, P b → Q b) : PgAt w' Q v is := by
  obtain ⟨⟨ivs, h1, h2, h3⟩, h4⟩ := h
  exact ⟨⟨ivs, h1.keeps K (fun b hb => hs b (h4 b hb)), h2, fun k iv i a b => (h3 k iv i a b).keepsTo K hs hq⟩, fun b hb => hq b (h4 b hb)⟩
end Go.Proofs.YtgobcnheemocnaaGreatDoor
end
section
namespace Go.Proofs.YtgobcnheemocnaaGreatDoor
open Go.RowKit
set_option linter.unusedVariables false
set_option linter.unusedSimpArgs false
set_option maxRecDepth 100000

def okI (n : Nat) (i : Ins) : Prop := i.op = 0 ∨ ((i.op = 1 ∨ i.op = 3 ∨ i.op = 4) ∧ i.x < n) ∨ (i.op = 2 ∧ i.x < n ∧ i.y < n)
theorem there_any (x n : Nat) (a : Option Addr) (c b : Nat) (w : World) (hb : w.cell? ⟨b, 0, none⟩ = some (.slice a n c)) (hx : x < n) (hn : n ≤ 1000000) :
    Calls Tryz.prog 259 #[.int .i64 x, .pointer (some ⟨b, 0, none⟩)] w fun e w' => e = .returned (.bool true) ∧ w = w' := by
  have g : decide ((x : Int) < (n : Int)) = true := by simp; omega
  go_enter Tryz.func259, Tryz.ntmps259
  go_wp2_with fail
  go_ret
  exact ⟨rfl, rfl⟩
/-- One instruction's cells. -/
theorem PgAt.at {w : World} {P : Nat → Prop} {v : Value} {is : List Ins} (h : PgAt w P v is) {k : Nat} {i : Ins} (hk : is[k]? = some i) : ∃ b off c sa sc, v = .slice (some ⟨b, off, none⟩) is.length c ∧ b < w.heap.size ∧ RSl w (.slice sa i.set.length sc) i.set ∧ (∀ b', (Value.slice sa i.set.length sc).ownBlock = some b' → P b') ∧ P b ∧
    w.cell? ⟨b, off + k * 4, none⟩ = some (.int .i64 i.op) ∧ w.cell? ⟨b, off + k * 4 + 1, none⟩ = some (.slice sa i.set.length sc) ∧ w.cell? ⟨b, off + k * 4 + 2, none⟩ = some (.int .i64 (i.x : Int)) ∧ w.cell? ⟨b, off + k * 4 + 3, none⟩ = some (.int .i64 (i.y : Int)) := by
  obtain ⟨⟨ivs, ⟨a, c, e1, hcap, hl2, hcc⟩, hlen, hin⟩, hblk⟩ := h
  have hkl := (List.getElem?_eq_some_iff.1 hk).1
  obtain ⟨b, off, rfl, hc⟩ := hcc (by omega)
  obtain ⟨iv, hiv⟩ : ∃ iv, ivs[k]? = some iv := ⟨_, List.getElem?_eq_getElem (by omega)⟩
  have hI := hin k iv i hiv hk
  have z0 := hc k iv hiv 0 (by omega)
  have z1 := hc k iv hiv 1 (by omega)
  have z2 := hc k iv hiv 2 (by omega)
  have z3 := hc k iv hiv 3 (by omega)
  have e0 : encP iv 0 = .int .i64 iv.op := rfl
  have e1' : encP iv 1 = iv.sv := rfl
  have e2 : encP iv 2 = .int .i64 iv.x := rfl
  have e3 : encP iv 3 = .int .i64 iv.y := rfl
  rw [e0, hI.op] at z0
  rw [e1'] at z1
  rw [e2, hI.x] at z2
  rw [e3, hI.y] at z3
  obtain ⟨sa, sc, e9, _⟩ := hI.set.cells
  have h1 := hI.set
  have h2 := hI.sb
  rw [e9] at h1 h2 z1
  exact ⟨b, off, c, sa, sc, by rw [e1, hlen], lt_of_cell z0, h1, h2, hblk b (by rw [e1]; rfl), z0, z1, z2, z3⟩
theorem PgAt.form {w : World} {P : Nat → Prop} {v : Value} {is : List Ins} (h : PgAt w P v is) : ∃ a c, v = .slice a is.length c := by
  obtain ⟨⟨ivs, ⟨a, c, e1, _⟩, hlen, _⟩, _⟩ := h
  exact ⟨a, c, by rw [e1, hlen]⟩
set_option maxHeartbeats 4000000 in
theorem pright_any (is : List Ins) (P : Nat → Prop) (v : Value) (w : World) (h : PgAt w P v is) (hok : ∀ (k : Nat) (i : Ins), is[k]? = some i → okI is.length i) (h0 : 0 < is.length) (hn : is.length ≤ 4000) :
    Calls Tryz.prog 252 #[v] w fun e w' => e = .returned (.bool true) ∧ Keeps (fun _ => False) w w' := by
  obtain ⟨a, c, rfl⟩ := h.form
  have HPg := Lib.hid h
  have HOk := Lib.hid hok
  obtain ⟨wb, hwb⟩ : ∃ W, W = w.alloc (.cells #[.slice a is.length c] 142) := ⟨_, rfl⟩
  have kb : Keeps (fun _ => False) w wb := by rw [hwb]; exact (Keeps.refl _ _).alloc _
  have b0 : wb.cell? ⟨w.heap.size, 0, none⟩ = some (.slice a is.length c) := by rw [hwb]; simp [go_sem]
  have KB := Lib.hid kb
  have B0 := Lib.hid b0
  clear h hok kb
  go_enter Tryz.func252, Tryz.ntmps252
  go_wp2_with fail
  rw [← hwb]
  clear hwb b0
  go_loopw [9] (fun iv wr => ∃ i : Nat, iv = .int .i64 i ∧ i ≤ is.length ∧ Keeps (fun _ => False) wb wr) (fun iv _ => is.length - (intOf iv).toNat)
  case atStart => exact ⟨0, rfl, Nat.zero_le _, Keeps.refl _ _⟩
  case round =>
    obtain ⟨i, rfl, hi, hk⟩ := hrel
    have K := Lib.hid hk
    clear hk
    have b0 := K.out.cell B0.out id
    by_cases hil : i < is.length
    · obtain ⟨x, hx⟩ : ∃ x, is[i]? = some x := ⟨_, List.getElem?_eq_getElem hil⟩
      obtain ⟨b, off, c', sa, sc, e1, hb, hs, _, _, z0, z1, z2, z3⟩ := HPg.out.at hx
      obtain ⟨rfl, _, rfl⟩ := Value.slice.inj e1
      have ho := HOk.out i x hx
      have y0 := K.out.cell (KB.out.cell z0 id) id
      have y1 := K.out.cell (KB.out.cell z1 id) id
      have y2 := K.out.cell (KB.out.cell z2 id) id
      have y3 := K.out.cell (KB.out.cell z3 id) id
      have hbr : b < wr.heap.size := lt_of_cell y0
      clear hx hs z0 z1 z2 z3 e1
      obtain ⟨op, set, xx, yy⟩ := x
      simp only [okI] at ho y0 y1 y2 y3
      have ba := alloc_cell b0 (.cells #[.int .i64 op, .slice sa set.length sc, .int .i64 xx, .int .i64 yy] 173)
      have HTx := Lib.hid (fun hx => there_any xx is.length (some ⟨b, off, none⟩) c w.heap.size _ ba hx (by omega))
      have HTy := Lib.hid (fun hx => there_any yy is.length (some ⟨b, off, none⟩) c w.heap.size _ ba hx (by omega))
      have HK2 : Hid (Keeps (fun _ => False) wb (wr.alloc (.cells #[.int .i64 op, .slice sa set.length sc, .int .i64 xx, .int .i64 yy] 173))) := Lib.hid (K.out.alloc _)
      clear ba
      rcases ho with rfl | ⟨rfl | rfl | rfl, h1⟩ | ⟨rfl, h1, h2⟩
      · go_wp2_with fail
        go_roundw
        case rel => exact ⟨i + 1, by go_num, by omega, HK2.out⟩
        case measure => simp [intOf]; omega
      · go_wp2_with fail
        refine (HTx.out h1).mono ?_
        rintro e w3 ⟨rfl, rfl⟩
        go_wp2_with fail
        go_roundw
        case rel => exact ⟨i + 1, by go_num, by omega, HK2.out⟩
        case measure => simp [intOf]; omega
      · go_wp2_with fail
        refine (HTx.out h1).mono ?_
        rintro e w3 ⟨rfl, rfl⟩
        go_wp2_with fail
        go_roundw
        case rel => exact ⟨i + 1, by go_num, by omega, HK2.out⟩
        case measure => simp [intOf]; omega
      · go_wp2_with fail
        refine (HTx.out h1).mono ?_
        rintro e w3 ⟨rfl, rfl⟩
        go_wp2_with fail
        go_roundw
        case rel => exact ⟨i + 1, by go_num, by omega, HK2.out⟩
        case measure => simp [intOf]; omega
      · go_wp2_with fail
        refine (HTy.out h2).mono ?_
        rintro e w3 ⟨rfl, rfl⟩
        go_wp2_with fail
        refine (HTx.out h1).mono ?_
        rintro e w3 ⟨rfl, rfl⟩
        go_wp2_with fail
        go_roundw
        case rel => exact ⟨i + 1, by go_num, by omega, HK2.out⟩
        case measure => simp [intOf]; omega
    · have hd : decide ((0 : Int) < (is.length : Int)) = true := by simp; omega
      have KE := Lib.hid (KB.out.trans K.out)
      go_wp2_with fail
      go_ret
      exact ⟨rfl, KE.out⟩
end Go.Proofs.YtgobcnheemocnaaGreatDoor
end
section
namespace Go.Proofs.YtgobcnheemocnaaGreatDoor
open Go.RowKit
set_option linter.unusedVariables false
set_option linter.unusedSimpArgs false
set_option maxRecDepth 100000

def natV (k : Nat) : Value := .int .i64 (k : Int)
/-- A list of threads: at tb, its marks at mb; what is in the list; which are marked in this round. -/
structure Thr (B : Nat) (w : World) (tb mb n : Nat) (lv : Value) (L : List Nat) (M : Nat → Bool) (now : Nat) : Prop where
  bk : w.heap[tb]? = some (.cells #[lv, .slice (some ⟨mb, 0, none⟩) n n, .int .i64 now] 340 (0, 0))
  own : w.ownsRow B 3 1 lv L.length (L.map natV)
  mks : ∃ m : Nat → Nat, ∀ i, i < n → w.cell? ⟨mb, i, none⟩ = some (.int .i64 (m i)) ∧ w.frozen? ⟨mb, i, none⟩ = false ∧ m i ≤ now ∧ (M i = true ↔ m i = now)
  htb : B ≤ tb
  hmb : B ≤ mb
  lmb : mb < w.heap.size
  ne1 : tb ≠ mb
  ne2 : lv.ownBlock ≠ some tb
  ne3 : lv.ownBlock ≠ some mb
/-- Its blocks. -/
def inT (tb mb : Nat) (lv : Value) (b : Nat) : Prop := b = tb ∨ b = mb ∨ lv.ownBlock = some b
theorem Thr.ltb {B tb mb n now : Nat} {w : World} {lv : Value} {L : List Nat} {M : Nat → Bool} (h : Thr B w tb mb n lv L M now) : tb < w.heap.size := by
  rcases Nat.lt_or_ge tb w.heap.size with h1 | h1
  · exact h1
  · have := h.bk; rw [Array.getElem?_eq_none h1] at this; cases this
theorem Thr.inlt {B tb mb n now : Nat} {w : World} {lv : Value} {L : List Nat} {M : Nat → Bool} (h : Thr B w tb mb n lv L M now) {b : Nat} (hb : inT tb mb lv b) : b < w.heap.size ∧ B ≤ b := by
  rcases hb with rfl | rfl | hb
  · exact ⟨h.ltb, h.htb⟩
  · exact ⟨h.lmb, h.hmb⟩
  · exact ⟨own_lt h.own b hb, ownBlock_base h.own b hb⟩
theorem Thr.keeps {S : Nat → Prop} {B tb mb n now : Nat} {w w' : World} {lv : Value} {L : List Nat} {M : Nat → Bool} (h : Thr B w tb mb n lv L M now) (K : Keeps S w w') (hs : ∀ b, inT tb mb lv b → ¬ S b) : Thr B w' tb mb n lv L M now := by
  obtain ⟨m, hm⟩ := h.mks
  have hsz := K.size
  exact ⟨by rw [K.block tb h.ltb (hs tb (Or.inl rfl))]; exact h.bk, ownsRow_keeps h.own K (fun b hb => hs b (Or.inr (Or.inr hb))), ⟨m, fun i hi => by
    obtain ⟨a, b, c, d⟩ := hm i hi
    exact ⟨K.cell a (hs mb (Or.inr (Or.inl rfl))), K.frozen b h.lmb (hs mb (Or.inr (Or.inl rfl))), c, d⟩⟩, h.htb, h.hmb, by have := h.lmb; omega, h.ne1, h.ne2, h.ne3⟩
def updM (M : Nat → Bool) (i : Nat) : Nat → Bool := fun j => if j = i then true else M j
/-- An instruction, and all that are met from it at once. -/
inductive PtR (is : List Ins) (bg en : Bool) : Nat → List Nat × (Nat → Bool) → List Nat × (Nat → Bool) → Prop
  | seen {i : Nat} {L : List Nat} {M : Nat → Bool} (hi : i < is.length) (h : M i = true) : PtR is bg en i (L, M) (L, M)
  | leaf {i : Nat} {L : List Nat} {M : Nat → Bool} {x : Ins} (h : M i = false) (hx : is[i]? = some x) (ho : x.op = 0 ∨ x.op = 1) : PtR is bg en i (L, M) (L ++ [i], updM M i)
  | split {i : Nat} {L : List Nat} {M : Nat → Bool} {x : Ins} {s1 s2 : List Nat × (Nat → Bool)} (h : M i = false) (hx : is[i]? = some x) (ho : x.op = 2) (h1 : PtR is bg en x.x (L, updM M i) s1) (h2 : PtR is bg en x.y s1 s2) : PtR is bg en i (L, M) s2
  | skip {i : Nat} {L : List Nat} {M : Nat → Bool} {x : Ins} (h : M i = false) (hx : is[i]? = some x) (ho : x.op = 3 ∧ bg = false ∨ x.op = 4 ∧ en = false) : PtR is bg en i (L, M) (L, updM M i)
  | pass {i : Nat} {L : List Nat} {M : Nat → Bool} {x : Ins} {s1 : List Nat × (Nat → Bool)} (h : M i = false) (hx : is[i]? = some x) (ho : x.op = 3 ∧ bg = true ∨ x.op = 4 ∧ en = true) (h1 : PtR is bg en x.x (L, updM M i) s1) : PtR is bg en i (L, M) s1
/-- A mark is set. -/
theorem Thr.mark {B tb mb n now i : Nat} {w : World} {lv : Value} {L : List Nat} {M : Nat → Bool} (h : Thr B w tb mb n lv L M now) (hi : i < n) : Thr B (w.setCell ⟨mb, i, none⟩ (.int .i64 now)) tb mb n lv L (updM M i) now := by
  obtain ⟨m, hm⟩ := h.mks
  have kS : Keeps (fun b => b = mb) w (w.setCell ⟨mb, i, none⟩ (.int .i64 now)) := (Keeps.refl (fun b => b = mb) w).set (p := ⟨mb, i, none⟩) rfl _
  have hsz := kS.size
  refine ⟨by rw [kS.block tb h.ltb h.ne1]; exact h.bk, ownsRow_keeps h.own kS (fun b hb e => h.ne3 (by rw [← e]; exact hb)), ⟨fun j => if j = i then now else m j, fun j hj => ?_⟩, h.htb, h.hmb, by have := h.lmb; omega, h.ne1, h.ne2, h.ne3⟩
  obtain ⟨a, b, c, d⟩ := hm j hj
  obtain ⟨ai, bi, ci, di⟩ := hm i hi
  have hf : (w.setCell ⟨mb, i, none⟩ (.int .i64 now)).frozen? ⟨mb, j, none⟩ = false := by rw [frozen_set]; exact b
  by_cases hji : j = i
  · subst hji
    exact ⟨(cell_set_same a).trans (by simp), hf, by simp, by simp [updM]⟩
  · exact ⟨((cell_set_other (fun e => by have := (Addr.mk.inj e).2.1; omega)).trans a).trans (by simp [hji]), hf, by simp [hji]; exact c, by simp [updM, hji]; exact d⟩
/-- One more in the list. -/
theorem Thr.push {B tb mb n now i g cap H : Nat} {w wA w1 : World} {lv : Value} {L : List Nat} {M : Nat → Bool} (h : Thr B w tb mb n lv L M now) (KA : Keeps (fun _ => False) w wA)
    (hown1 : w1.ownsRow B 3 1 (.slice (some ⟨g, 0, none⟩) (L.length + 1) cap) (L.length + 1) (L.map natV ++ [natV i])) (hg : wA.grownBy w1 lv.ownBlock) (hat : lv.ownBlock = some g ∨ g = H) (hH : wA.heap.size = H) :
    Thr B (w1.setCell ⟨tb, 0, none⟩ (.slice (some ⟨g, 0, none⟩) (L.length + 1) cap)) tb mb n (.slice (some ⟨g, 0, none⟩) (L.length + 1) cap) (L ++ [i]) M now ∧
    Keeps (inT tb mb lv) w (w1.setCell ⟨tb, 0, none⟩ (.slice (some ⟨g, 0, none⟩) (L.length + 1) cap)) := by
  have hsA := KA.size
  have k1 : Keeps (fun b => lv.ownBlock = some b) wA w1 := (Keeps.refl _ _).grown hg (fun b hb => Or.inl hb)
  have hs1 := k1.size
  have kS : Keeps (fun b => b = tb) w1 (w1.setCell ⟨tb, 0, none⟩ (.slice (some ⟨g, 0, none⟩) (L.length + 1) cap)) := (Keeps.refl (fun b => b = tb) w1).set (p := ⟨tb, 0, none⟩) rfl _
  have hsS := kS.size
  have hltb := h.ltb
  have hlmb := h.lmb
  have hgt : g ≠ tb := by
    rcases hat with e | e
    · intro x; exact h.ne2 (x ▸ e)
    · omega
  have hgm : g ≠ mb := by
    rcases hat with e | e
    · intro x; exact h.ne3 (x ▸ e)
    · omega
  have hbk1 : w1.heap[tb]? = some (.cells #[lv, .slice (some ⟨mb, 0, none⟩) n n, .int .i64 now] 340 (0, 0)) := by
    rw [k1.block tb (by omega) h.ne2, KA.block tb hltb id]; exact h.bk
  obtain ⟨m, hm⟩ := h.mks
  refine ⟨⟨?_, ?_, ⟨m, fun j hj => ?_⟩, h.htb, h.hmb, by omega, h.ne1, fun e => hgt (Option.some.inj e), fun e => hgm (Option.some.inj e)⟩, ?_⟩
  · simp [World.setCell, Array.getElem?_modify, hbk1]
  · rw [List.length_append, List.map_append]
    exact ownsRow_keeps hown1 kS (fun b e1 e2 => by have h9 : g = b := Option.some.inj e1; omega)
  · obtain ⟨a, b, c, d⟩ := hm j hj
    exact ⟨kS.cell (k1.cell (KA.cell a id) h.ne3) (fun e => h.ne1 e.symm), kS.frozen (k1.frozen (KA.frozen b hlmb id) (by show mb < wA.heap.size; omega) h.ne3) (by show mb < w1.heap.size; omega) (fun e => h.ne1 e.symm), c, d⟩
  · exact ((KA.mono (T := inT tb mb lv) (fun _ _ e => e.elim)).trans2 k1 (fun b hb e => Or.inr (Or.inr e))).trans2 kS (fun b hb e => Or.inl e)
/-- The list is emptied, the next round begins. -/
theorem Thr.clr {B tb mb n now : Nat} {w : World} {a : Option Addr} {k c : Nat} {L : List Nat} {M : Nat → Bool} (h : Thr B w tb mb n (.slice a k c) L M now) :
    Thr B ((w.setCell ⟨tb, 0, none⟩ (.slice a 0 c)).setCell ⟨tb, 2, none⟩ (.int .i64 ((now + 1 : Nat) : Int))) tb mb n (.slice a 0 c) [] (fun _ => false) (now + 1) ∧
    Keeps (fun b => b = tb) w ((w.setCell ⟨tb, 0, none⟩ (.slice a 0 c)).setCell ⟨tb, 2, none⟩ (.int .i64 ((now + 1 : Nat) : Int))) := by
  have kS : Keeps (fun b => b = tb) w ((w.setCell ⟨tb, 0, none⟩ (.slice a 0 c)).setCell ⟨tb, 2, none⟩ (.int .i64 ((now + 1 : Nat) : Int))) := ((Keeps.refl (fun b => b = tb) w).set (p := ⟨tb, 0, none⟩) rfl _).set (p := ⟨tb, 2, none⟩) rfl _
  have hsS := kS.size
  have hltb := h.ltb
  have hlmb := h.lmb
  have hbk := h.bk
  have hne2 := h.ne2
  have hne3 := h.ne3
  obtain ⟨m, hm⟩ := h.mks
  have hown0 : w.ownsRow B 3 1 (.slice a 0 c) 0 [] := by
    refine ⟨rfl, ?_⟩
    rcases h.own.2 with ⟨e, _⟩ | ⟨g, cap, cur, e, h1, h2, h3, h4, h5, h6⟩
    · left; cases e; exact ⟨rfl, rfl⟩
    · right; cases e; exact ⟨g, c, cur, rfl, h1, h2, Nat.zero_le _, h4, h5, by simp⟩
  have hob : (Value.slice a 0 c).ownBlock = (Value.slice a k c).ownBlock := by cases a <;> rfl
  refine ⟨⟨?_, ?_, ⟨m, fun j hj => ?_⟩, h.htb, h.hmb, by omega, h.ne1, by rw [hob]; exact hne2, by rw [hob]; exact hne3⟩, kS⟩
  · simp [World.setCell, Array.getElem?_modify, hbk]
  · exact ownsRow_keeps hown0 kS (fun b e1 e2 => hne2 (by rw [← e2, ← hob]; exact e1))
  · obtain ⟨a', b', c', d'⟩ := hm j hj
    exact ⟨kS.cell a' (fun e => h.ne1 e.symm), kS.frozen b' hlmb (fun e => h.ne1 e.symm), by omega, by simp; omega⟩
set_option maxHeartbeats 2000000 in
theorem clear_any (B tb mb n now : Nat) (w : World) (lv : Value) (L : List Nat) (M : Nat → Bool) (h : Thr B w tb mb n lv L M now) (hn : now ≤ 1000000000000) :
    Calls Tryz.prog 263 #[.pointer (some ⟨tb, 0, none⟩)] w fun e w' => e = .returned (.tuple #[]) ∧ (∃ lv', Thr B w' tb mb n lv' [] (fun _ => false) (now + 1) ∧ lv'.ownBlock = lv.ownBlock) ∧ Keeps (fun b => b = tb) w w' := by
  obtain ⟨a, c, rfl⟩ := ownsRow_slice h.own
  have c0 : w.cell? ⟨tb, 0, none⟩ = some (.slice a L.length c) := by rw [Lib.cell_of_heap h.bk]; rfl
  have c2 : w.cell? ⟨tb, 2, none⟩ = some (.int .i64 now) := by rw [Lib.cell_of_heap h.bk]; rfl
  have f0 : w.frozen? ⟨tb, 0, none⟩ = false := Lib.frozen_of_heap h.bk 0
  have f2 : w.frozen? ⟨tb, 2, none⟩ = false := Lib.frozen_of_heap h.bk 2
  have HC := Lib.hid h.clr
  have hob : (Value.slice a 0 c).ownBlock = (Value.slice a L.length c).ownBlock := by cases a <;> rfl
  have HO := Lib.hid hob
  have hl0 : L.length ≤ c ∨ a = none := by
    rcases h.own.2 with ⟨e, _⟩ | ⟨g, cap, cur, e, h1, h2, h3, _⟩
    · right; exact (Value.slice.inj e).1
    · left; obtain ⟨_, _, rfl⟩ := Value.slice.inj e; exact h3
  clear h hob
  rcases a with _ | ad
  · go_enter Tryz.func263, Tryz.ntmps263
    go_wp2_with fail
    go_end0
    exact ⟨rfl, ⟨_, HC.out.1, HO.out⟩, HC.out.2⟩
  · go_enter Tryz.func263, Tryz.ntmps263
    go_wp2_with fail
    go_end0
    exact ⟨rfl, ⟨_, HC.out.1, HO.out⟩, HC.out.2⟩
end Go.Proofs.YtgobcnheemocnaaGreatDoor
end
section
namespace Go.Proofs.YtgobcnheemocnaaGreatDoor
open Go.RowKit
set_option linter.unusedVariables false
set_option linter.unusedSimpArgs false
set_option maxRecDepth 100000

/-! ### The parser's functions on trees -/
/-! ### Where they end -/
end Go.Proofs.YtgobcnheemocnaaGreatDoor
end
section
namespace Go.Proofs.YtgobcnheemocnaaGreatDoor
open Go.RowKit
set_option linter.unusedVariables false
set_option linter.unusedSimpArgs false
set_option maxRecDepth 100000

theorem getP_ascii (c : UInt8) (l : List UInt8) (h : c.toNat < 128) : getP (c :: l) = ((c.toNat : Int), 1) := by
  have h1 : lenP c.toNat = 1 := by unfold lenP; rw [if_pos h]
  rw [getP_eq, h1]
  have h2 : headP c = c.toNat := by unfold headP; rw [h1]; simp
  have h3 : sizP (c.toNat : Int) = 1 := by
    have : isB (c.toNat : Int) = true := by simp [isB]; omega
    unfold sizP; rw [this]; simp; omega
  simp [tailP, h2, h3]
/-! ### Counts -/
/-! ### The document's examples -/
end Go.Proofs.YtgobcnheemocnaaGreatDoor
end
section
namespace Go.Proofs.YtgobcnheemocnaaGreatDoor
section
open Go.RowKit
set_option linter.unusedVariables false
set_option linter.unusedSimpArgs false
set_option maxRecDepth 100000

end
end Go.Proofs.YtgobcnheemocnaaGreatDoor
namespace Go.Proofs.YtgobcnheemocnaaGreatDoor
section
open Go.RowKit
set_option linter.unusedVariables false
set_option linter.unusedSimpArgs false
set_option maxRecDepth 100000

/-! ### What a token is made of -/
end
end Go.Proofs.YtgobcnheemocnaaGreatDoor
namespace Go.Proofs.YtgobcnheemocnaaGreatDoor
section
open Go.RowKit
set_option linter.unusedVariables false
set_option linter.unusedSimpArgs false
set_option maxRecDepth 100000

variable {rs : List Int} (hr : ∀ r ∈ rs, 0 ≤ r ∧ r ≤ 1114111)
include hr in
include hr in
include hr in
include hr in
include hr in
include hr in
/-! ### Counts -/
end
end Go.Proofs.YtgobcnheemocnaaGreatDoor
namespace Go.Proofs.YtgobcnheemocnaaGreatDoor
section
open Go.RowKit
set_option linter.unusedVariables false
set_option linter.unusedSimpArgs false
set_option maxRecDepth 100000

def isSg (r : Int) : Prop := r = 46 ∨ r = 94 ∨ r = 36 ∨ r = 124 ∨ r = 40 ∨ r = 41 ∨ r = 91 ∨ r = 93 ∨ r = 123 ∨ r = 125 ∨ r = 42 ∨ r = 43 ∨ r = 63 ∨ r = 92
instance (r : Int) : Decidable (isSg r) := by unfold isSg; infer_instance
variable {rs : List Int} (hr : ∀ r ∈ rs, 0 ≤ r ∧ r ≤ 1114111)
include hr in
end
end Go.Proofs.YtgobcnheemocnaaGreatDoor
namespace Go.Proofs.YtgobcnheemocnaaGreatDoor
section
open Go.RowKit
set_option linter.unusedVariables false
set_option linter.unusedSimpArgs false
set_option maxRecDepth 100000

variable {rs : List Int} (hr : ∀ r ∈ rs, 0 ≤ r ∧ r ≤ 1114111)
include hr in
include hr in
include hr in
include hr in
include hr in
include hr in
include hr in
end
end Go.Proofs.YtgobcnheemocnaaGreatDoor
namespace Go.Proofs.YtgobcnheemocnaaGreatDoor
section
open Go.RowKit
set_option linter.unusedVariables false
set_option linter.unusedSimpArgs false
set_option maxRecDepth 100000

/-! ### On tokens -/
/-! ### On texts -/
end
end Go.Proofs.YtgobcnheemocnaaGreatDoor
namespace Go.Proofs.YtgobcnheemocnaaGreatDoor
section
open Go.RowKit
set_option linter.unusedVariables false
set_option linter.unusedSimpArgs false
set_option maxRecDepth 100000

theorem ptsP_fuel : ∀ (n m : Nat) (l : List UInt8), l.length ≤ n → l.length ≤ m → ptsP n l = ptsP m l := by
  intro n
  induction n with
  | zero =>
    intro m l hn hm
    obtain rfl : l = [] := List.length_eq_zero_iff.1 (by omega)
    cases m with
    | zero => rfl
    | succ m => rw [ptsP, ptsP, if_pos rfl]
  | succ n ih =>
    intro m l hn hm
    rcases l with _ | ⟨c, l⟩
    · cases m with
      | zero => simp [ptsP]
      | succ m => simp [ptsP]
    · obtain ⟨m, rfl⟩ : ∃ k, m = k + 1 := ⟨m - 1, by simp at hm; omega⟩
      rw [ptsP, ptsP]
      simp only [reduceCtorEq, if_false]
      split
      · have := getP_pos c l
        simp only [List.length_cons] at hn hm
        rw [ih m _ (by rw [List.length_drop, List.length_cons]; omega) (by rw [List.length_drop, List.length_cons]; omega)]
      · rfl
theorem pts_cons {c : UInt8} {l : List UInt8} : pts (c :: l) = if sizP (getP (c :: l)).1 = ((getP (c :: l)).2 : Int) then (pts ((c :: l).drop (getP (c :: l)).2)).map ((getP (c :: l)).1 :: ·) else none := by
  unfold pts
  rw [show (c :: l).length = l.length + 1 from rfl, ptsP, if_neg (by simp)]
  split
  · have := getP_pos c l
    rw [ptsP_fuel l.length _ _ (by rw [List.length_drop, List.length_cons]; omega) (Nat.le_refl _)]
  · rfl
end
end Go.Proofs.YtgobcnheemocnaaGreatDoor
end
section
namespace Go.Proofs.YtgobcnheemocnaaGreatDoor
open Go.RowKit
set_option linter.unusedVariables false
set_option linter.unusedSimpArgs false
set_option maxRecDepth 100000

end Go.Proofs.YtgobcnheemocnaaGreatDoor
end
section
namespace Go.Proofs.YtgobcnheemocnaaGreatDoor
open Go.RowKit
set_option linter.unusedVariables false
set_option linter.unusedSimpArgs false
set_option maxRecDepth 100000

end Go.Proofs.YtgobcnheemocnaaGreatDoor
end
section
namespace Go.Proofs.YtgobcnheemocnaaGreatDoor
open Go.RowKit
set_option linter.unusedVariables false
set_option linter.unusedSimpArgs false
set_option maxRecDepth 100000

end Go.Proofs.YtgobcnheemocnaaGreatDoor
end
section
namespace Go.Proofs.YtgobcnheemocnaaGreatDoor
open Go.RowKit
set_option linter.unusedVariables false
set_option linter.unusedSimpArgs false
set_option maxRecDepth 100000

end Go.Proofs.YtgobcnheemocnaaGreatDoor
end
section
namespace Go.Proofs.YtgobcnheemocnaaGreatDoor
open Go.RowKit
set_option linter.unusedVariables false
set_option linter.unusedSimpArgs false
set_option maxRecDepth 100000

theorem k5 {W : World} {G : Nat} {o m x : Int} {s k : Value} (h0 : W.cell? ⟨G, 0, none⟩ = some (.int .i64 o)) (h1 : W.cell? ⟨G, 1, none⟩ = some s) (h2 : W.cell? ⟨G, 2, none⟩ = some (.int .i64 m)) (h3 : W.cell? ⟨G, 3, none⟩ = some (.int .i64 x)) (h4 : W.cell? ⟨G, 4, none⟩ = some k) :
    ∀ j, j < 5 → W.cell? ⟨G, j, none⟩ = some (encN ⟨o, s, m, x, k⟩ j) := by
  intro j hj
  match j, hj with
  | 0, _ => exact h0
  | 1, _ => exact h1
  | 2, _ => exact h2
  | 3, _ => exact h3
  | 4, _ => exact h4
theorem cells_new1 (w : World) (o : Obj) (cs : List Value) (ty : TypeId) : ∀ j u, cs[j]? = some u → ((w.alloc o).alloc (.cells cs.toArray ty)).cell? ((⟨w.heap.size + 1, 0, none⟩ : Addr).add j) = some u := by
  intro j u h
  have := cells_new (w.alloc o) cs ty j u h
  simpa using this
end Go.Proofs.YtgobcnheemocnaaGreatDoor
end
