/-
  Several texts in one: farm.New, with one worker. No condition. Holds at one worker; texts that came in: small. No condition. Items: of texts. No condition.
-/
import Derived.Test.YtgobcnheemocnaaGreatDoorMg14
section
namespace Go.Proofs.YtgobcnheemocnaaGreatDoor
open Go
open Go.RowKit
set_option linter.unusedVariables false
set_option linter.unusedSimpArgs false
set_option maxRecDepth 100000

theorem info_wk : (Tryz.prog.info? 100).map (fun i => (i.zero, i.size, i.bytes)) = some (some (.pointer none), 1, 8) := by kernel_rfl
/-- What farm.New leaves: a farm, its one worker, its engine, all new and apart; the worker stands in the loom. -/
structure FarmIs (w w' : World) (S Sp : Nat → Prop) (ts : List Value) (pb ob ab lb fb wb xb g cp : Nat) (nm : ByteArray) (SL SE : Nat → Prop) : Prop where
  wk : WkAt w' wb pb ob fb nm ts.length false 0 itZ
  fm : FmAt w' fb pb xb ab (.slice (some ⟨g, 0, none⟩) 1 cp) 0 0 0 1
  al : w'.cell? ⟨g, 0, none⟩ = some (.pointer (some ⟨wb, 0, none⟩))
  pl : PlF w' pb Sp
  c19 : w'.cell? ⟨pb, 19, none⟩ = some (.pointer (some ⟨lb, 0, none⟩))
  lo : LoG w' lb SL (ts ++ [wvV wb])
  en : ObS en0 w' (.pointer (some ⟨xb, 0, none⟩)) SE
  kp : Keeps (fun k => k = pb ∨ S k) w w'
  nw : w.heap.size ≤ fb ∧ w.heap.size ≤ wb ∧ w.heap.size ≤ g ∧ fb ≠ wb ∧ g ≠ fb ∧ g ≠ wb ∧ fb < w'.heap.size ∧ wb < w'.heap.size ∧ g < w'.heap.size
  sl : ∀ b, SL b → (S b ∧ b < w.heap.size ∨ w.heap.size ≤ b) ∧ b < w'.heap.size ∧ b ≠ fb ∧ b ≠ wb ∧ b ≠ g ∧ ¬ SE b
  se : ∀ b, SE b → w.heap.size ≤ b ∧ b < w'.heap.size ∧ b ≠ fb ∧ b ≠ wb ∧ b ≠ g
  cp1 : 1 ≤ cp
section
variable {w : World} {pb ob fb xb ab lb : Nat} {S Sp : Nat → Prop}
set_option maxHeartbeats 8000000 in
theorem farmNew_any {ts : List Value} (h : PlN w pb lb Sp) (hl : LoG w lb S ts) (hts : ts.length ≤ 10) (hd : ∀ b, S b → ¬ Sp b) :
    Calls Tryz.prog 16 #[.pointer (some ⟨pb, 0, none⟩), .pointer (some ⟨ab, 0, none⟩), .pointer (some ⟨ob, 0, none⟩)] w fun e w' => ∃ (fb wb xb g cp : Nat) (nm : ByteArray) (SL SE : Nat → Prop), e = .returned (.tuple #[.pointer (some ⟨fb, 0, none⟩), .int .i64 0]) ∧ FarmIs w w' S Sp ts pb ob ab lb fb wb xb g cp nm SL SE := by
  have j5 := h.jb 5 _ rfl
  have j15 := h.jb 15 _ rfl
  have HC := Lib.hid (ecompile0_any w)
  have H := Lib.hid (And.intro h (And.intro hl (And.intro hts hd)))
  clear h hl hts hd
  go_enter Tryz.func16, Tryz.ntmps16
  go_wp2_with fail
  refine HC.out.mono ?_
  rintro e w1 ⟨xb, rfl, hO, k1⟩
  obtain ⟨w2, hw2⟩ : ∃ W, w1.alloc (.cells (fmC pb xb ab (.slice none 0 0) 0 0 0 1) 76) = W := ⟨_, rfl⟩
  have k2 : Keeps (fun _ => False) w1 w2 := by rw [← hw2]; exact (Keeps.refl _ _).alloc _
  have g2 : FmAt w2 w1.heap.size pb xb ab (.slice none 0 0) 0 0 0 1 := by rw [← hw2]; exact heap_alloc_new _ _
  have z2 : w2.heap.size = w1.heap.size + 1 := by rw [← hw2]; simp
  have K2 := k1.trans k2
  have h2 := H.out.1.keeps K2 (fun _ _ => id)
  have i15 := (H.out.1.keeps k1 (fun _ _ => id)).jb 15 _ rfl
  have j15 := h2.jb 15 _ rfl
  have H2 := Lib.hid (And.intro h2 (And.intro (H.out.2.1.low.keeps K2 (fun _ _ => id)) (And.intro (hO.keeps k2 (fun _ _ => id)) (And.intro g2 (And.intro K2 (And.intro z2 k1.size))))))
  have HI := Lib.hid (itoa0_any w2)
  unfold fmC at hw2
  have HW2 := Lib.hid hw2
  clear k1 hO hw2 HC j5 k2 g2 K2 h2 z2
  go_upto_region 7 with fail
  rw [HW2.out]
  clear i15 HW2
  go_wp2_with fail
  refine wp_loop_rounds 2 ?_
  rw [rounds_succ]
  go_wp2_with fail
  refine HI.out.mono ?_
  rintro e w3 ⟨⟨s, rfl, hs⟩, k3⟩
  have HK3 := Lib.hid k3
  clear k3 HI
  go_wp2_with fail
  refine (newStage_any w3 _).mono ?_
  rintro e w4 ⟨rfl, k4⟩
  generalize (⟨#[119, 111, 114, 107, 101, 114, 32]⟩ : ByteArray) ++ s = nm at *
  obtain ⟨w5, hw5⟩ : ∃ W, w4.alloc (.cells (wkC pb ob w1.heap.size nm (-1) false 0 itZ) 106) = W := ⟨_, rfl⟩
  have k5 : Keeps (fun _ => False) w4 w5 := by rw [← hw5]; exact (Keeps.refl _ _).alloc _
  have g5 : WkAt w5 w4.heap.size pb ob w1.heap.size nm (-1) false 0 itZ := by rw [← hw5]; exact heap_alloc_new _ _
  have z5 : w5.heap.size = w4.heap.size + 1 := by rw [← hw5]; simp
  have k45 := HK3.out.trans (k4.trans k5)
  have zz : w2.heap.size ≤ w4.heap.size := (HK3.out.trans k4).size
  have hl5 := H2.out.2.1.keeps k45 (fun _ _ => id)
  have h5 := H2.out.1.keeps k45 (fun _ _ => id)
  have HE := Lib.hid (enter_any g5 hl5 h5.c19 (fun e => by have := e.2; have := H2.out.2.2.2.2.2.1; have := H2.out.2.2.2.2.2.2; omega) H.out.2.2.1)
  unfold wkC itZ at hw5
  have HW5 := Lib.hid hw5
  clear hw5 g5 hl5 h5 k5 k4
  go_upto_region 11 with fail
  rw [HW5.out]
  clear HW5
  unfold wvV at HE
  go_wp2_with fail
  refine HE.out.mono ?_
  rintro e w6 ⟨rfl, g6, hl6, k6⟩
  obtain ⟨h2, _, hO2, g2, K2, z2, z1⟩ := H2.out
  have nf : ¬ (w1.heap.size = w4.heap.size ∨ (S w1.heap.size ∧ w1.heap.size < w.heap.size)) := by rintro (e | ⟨_, e⟩) <;> omega
  have f6 : FmAt w6 w1.heap.size pb xb ab (.slice none 0 0) 0 0 0 1 := k6.heap (k45.heap g2 id) nf
  have x3 : w6.cell? ⟨w1.heap.size, 3, none⟩ = some (.slice none 0 0) := by rw [cell_block f6]; rfl
  have hpl : pb < w.heap.size := lt_of_cell (a := ⟨pb, 24, none⟩) H.out.1.c24
  have K06 : Keeps S w w6 := ((K2.trans k45).mono (T := S) fun _ _ e => e.elim).trans2 k6 (fun i hi e => by
    rcases e with e | ⟨e, _⟩
    · have e : i = w4.heap.size := e
      omega
    · exact e)
  have h6 : PlN w6 pb lb (fun b => Sp b ∧ b < w.heap.size) := H.out.1.low.keeps K06 (fun b hb hS => H.out.2.2.2 b hS hb.1)
  have HK6 := Lib.hid K06
  clear K06
  have HO6 : ObS en0 w6 (.pointer (some ⟨xb, 0, none⟩)) (fun b => w.heap.size ≤ b ∧ b < w1.heap.size) := (hO2.keeps k45 (fun _ _ => id)).keeps k6 (fun b hb e => by
    rcases e with e | ⟨_, e⟩
    · have e : b = w4.heap.size := e
      omega
    · omega)
  have z6 := k6.size
  have H6 := Lib.hid (And.intro g6 (And.intro hl6 (And.intro f6 (And.intro h6 (And.intro HO6 k6)))))
  obtain ⟨i0, hi, hz0, hz1, hz2⟩ := info_parts info_wk
  have HI := Lib.hid (And.intro hi (And.intro hz0 (And.intro hz1 hz2)))
  clear g6 hl6 f6 h6 HO6 k6 hi hz0 hz1 hz2 h2 hO2 g2 nf HE
  go_wp2_with (refine wpList_one 74 100 i0 _ 8 Tryz.underlying74 HI.out.1 HI.out.2.1 HI.out.2.2.1 HI.out.2.2.2 rfl (by decide) rfl (.tmp 72) (.tmp 74) rfl (.slice none 0 0) 0 [] (.pointer (some ⟨w4.heap.size, 0, none⟩)) rfl (World.ownsRow_nil _ _ _ _) (by decide) rfl rfl ?_)
  intro v' w7 ho hf hk
  obtain ⟨g, cp, hcp, rfl⟩ : ∃ g cp, 1 ≤ cp ∧ v' = .slice (some ⟨g, 0, none⟩) 1 cp := by
    rcases ho.2 with ⟨_, e⟩ | ⟨g, cap, cur, e, _, _, hc, _⟩
    · cases e
    · exact ⟨g, cap, hc, e⟩
  have HCP := Lib.hid hcp
  clear hcp
  have cg : w7.cell? ⟨g, 0, none⟩ = some (.pointer (some ⟨w4.heap.size, 0, none⟩)) := ho.cells (g := g) rfl 0 _ rfl
  have hg : w6.heap.size ≤ g ∧ g < w7.heap.size := by
    rcases hf g rfl with e | e
    · cases e
    · exact e
  have K7 : Keeps (fun _ => False) w6 w7 := hk.mono fun _ _ e => by cases e
  have f7 := K7.heap H6.out.2.2.1 id
  have x7 : w7.cell? ⟨w1.heap.size, 3, none⟩ = some (.slice none 0 0) := by rw [cell_block f7]; rfl
  have y7 : w7.frozen? ⟨w1.heap.size, 3, none⟩ = false := frozen_block f7 3 none
  obtain ⟨w8, hw8⟩ : ∃ W, w7.setCell ⟨w1.heap.size, 3, none⟩ (.slice (some ⟨g, 0, none⟩) 1 cp) = W := ⟨_, rfl⟩
  have k8 : Keeps (fun k => k = w1.heap.size) w7 w8 := by rw [← hw8]; exact setQ _ _ _ _
  have f8 : FmAt w8 w1.heap.size pb xb ab (.slice (some ⟨g, 0, none⟩) 1 cp) 0 0 0 1 := by rw [← hw8]; exact cellQ_set 3 _ f7
  have HW8 := Lib.hid hw8
  have H8 := Lib.hid (And.intro f8 (And.intro cg (And.intro hg (And.intro K7 k8))))
  clear hw8 f8 cg f7 ho hf hk x3
  have h8 : PlN w8 pb lb (fun b => Sp b ∧ b < w.heap.size) := (H6.out.2.2.2.1.keeps K7 (fun _ _ => id)).keeps k8 (fun b hb e => by
    have e : b = w1.heap.size := e
    have := hb.2
    omega)
  have HP := Lib.hid (keep_any 43 (.pointer (some ⟨w1.heap.size, 0, none⟩)) h8)
  clear h8 K7 k8 j15
  have j15 := HP
  clear j15
  go_wp2_with fail
  rw [HW8.out]
  clear HW8 x7 y7
  rw [rounds_succ]
  go_wp2_with fail
  refine HP.out.mono ?_
  rintro e w9 ⟨rfl, hpl9, c19, k9⟩
  go_wp2_with fail
  go_ret2
  obtain ⟨g6, hl6, f6, _, HO6, k6⟩ := H6.out
  obtain ⟨f8, cg, ⟨hg1, hg2⟩, K7, k8⟩ := H8.out
  obtain ⟨_, _, _, _, _, z2, z1⟩ := H2.out
  have hnS : ¬ S pb := fun e => H.out.2.2.2 _ e H.out.1.sb
  have K79 : Keeps (fun k => k = w1.heap.size ∨ k = pb) w7 w9 := (k8.mono fun _ _ e => Or.inl e).trans (k9.mono fun _ _ e => Or.inr e)
  have K69 : Keeps (fun k => k = w1.heap.size ∨ k = pb) w6 w9 := (K7.mono fun _ _ e => e.elim).trans K79
  have s69 := K69.size
  have s79 := K79.size
  refine ⟨w1.heap.size, w4.heap.size, xb, g, cp, nm, GrP (fun k => S k ∧ k < w.heap.size) w5 w6, (fun b => w.heap.size ≤ b ∧ b < w1.heap.size), rfl, ?_⟩
  have hSL : ∀ b, GrP (fun k => S k ∧ k < w.heap.size) w5 w6 b → b ≠ w1.heap.size ∧ b ≠ pb := fun b hb => by
    rcases hb with ⟨hb, hb2⟩ | ⟨hb, hb2⟩
    · exact ⟨by omega, fun e => hnS (e ▸ hb)⟩
    · exact ⟨by omega, by omega⟩
  refine ⟨K69.heap g6 (fun e => by rcases e with e | e <;> omega), k9.heap f8 (fun e => by have e : w1.heap.size = pb := e; omega), K79.cell cg (fun e => by
    rcases e with e | e
    · have e : g = w1.heap.size := e
      omega
    · have e : g = pb := e
      omega), hpl9.mono (fun b hb => hb.1), c19, hl6.keeps K69 (fun b hb e => e.elim (hSL b hb).1 (hSL b hb).2), HO6.keeps K69 (fun b hb e => by rcases e with e | e <;> omega), ?_, ?_, ?_, ?_, HCP.out⟩
  · exact (HK6.out.mono (T := fun k => k = pb ∨ S k) fun _ _ e => Or.inr e).trans2 K69 (fun i hi e => by
      rcases e with e | e
      · omega
      · exact Or.inl e)
  · exact ⟨by omega, by omega, by omega, by omega, by omega, by omega, by omega, by omega, by omega⟩
  · intro b hb
    have h1 := hSL b hb
    rcases hb with ⟨hb, hb2⟩ | ⟨hb, hb2⟩
    · exact ⟨Or.inl ⟨hb, hb2⟩, by omega, h1.1, by omega, by omega, fun e => by omega⟩
    · exact ⟨Or.inr (by omega), by omega, h1.1, by omega, by omega, fun e => by omega⟩
  · rintro b ⟨h1, h2⟩
    exact ⟨h1, by omega, by omega, by omega, by omega⟩
end
end Go.Proofs.YtgobcnheemocnaaGreatDoor
end
section
namespace Go.Proofs.YtgobcnheemocnaaGreatDoor
open Go
open Go.RowKit
set_option linter.unusedVariables false
set_option linter.unusedSimpArgs false
set_option maxRecDepth 100000

section
variable {w : World} {wb pb ob fb xb ab g cp : Nat} {nm : ByteArray} {who : Int} {ov : Bool} {x : Itm} {op mo lo le : Int}
set_option maxHeartbeats 4000000 in
theorem holds_any (hf : FmAt w fb pb xb ab (.slice (some ⟨g, 0, none⟩) 1 cp) op mo lo le) (hg : w.cell? ⟨g, 0, none⟩ = some (.pointer (some ⟨wb, 0, none⟩))) (hc : 1 ≤ cp) (h : WkAt w wb pb ob fb nm who ov 0 x) :
    Calls Tryz.prog 23 #[.pointer (some ⟨fb, 0, none⟩)] w fun e w' => e = .returned (.int .i64 0) ∧ Keeps (fun _ => False) w w' := by
  have x3 : w.cell? ⟨fb, 3, none⟩ = some (.slice (some ⟨g, 0, none⟩) 1 cp) := by rw [cell_block hf]; rfl
  obtain ⟨_, _, _, _, _, c6, hq⟩ := h.c
  clear hf h hq
  go_enter Tryz.func23, Tryz.ntmps23
  go_wp2_with fail
  refine wp_loop_rounds 2 ?_
  rw [rounds_succ]
  go_wp2_with fail
  rw [rounds_succ]
  go_wp2_with fail
  go_ret
  exact ⟨rfl, Keeps.refl _ _⟩
end
/-- Texts that came in: their cells. -/
def TxAt (w : World) (v : Value) (l : List ByteArray) : Prop := ∃ a c, v = .slice a l.length c ∧ l.length ≤ c ∧ (0 < l.length → ∃ b off, a = some ⟨b, off, none⟩ ∧ ∀ (k : Nat) (s : ByteArray), l[k]? = some s → w.cell? ⟨b, off + k, none⟩ = some (.string s))
def smallB (l : List ByteArray) : Bool := decide (l.length ≤ 20) && l.all fun s => decide (s.size ≤ 30)
set_option maxHeartbeats 4000000 in
theorem small_any (l : List ByteArray) (v : Value) (w : World) (h : TxAt w v l) :
    Calls Tryz.prog 5 #[v] w fun e w' => e = .returned (.bool (smallB l)) ∧ Keeps (fun _ => False) w w' := by
  obtain ⟨a, c, rfl, hc, hh⟩ := h
  have HH := Lib.hid hh
  have HC := Lib.hid hc
  clear hh
  by_cases h20 : l.length ≤ 20
  · have hi : ¬ (20 : Int) < (l.length : Int) := by omega
    have hi2 : (l.length : Int) ≤ 20 := by omega
    have HB : Hid (smallB l = l.all fun s => decide (s.size ≤ 30)) := Lib.hid (by unfold smallB; simp [h20])
    go_enter Tryz.func5, Tryz.ntmps5
    go_wp2_with fail
    go_loopw [3] (fun iv wr => ∃ m : Nat, m ≤ l.length ∧ iv = .int .i64 m ∧ wr = w ∧ ∀ k s, k < m → l[k]? = some s → s.size ≤ 30) (fun iv _ => l.length - (intOf iv).toNat)
    case atStart => exact ⟨0, Nat.zero_le _, rfl, rfl, fun k s hk => absurd hk (Nat.not_lt_zero _)⟩
    case round =>
      obtain ⟨m, hm, rfl, rfl, hall⟩ := hrel
      by_cases hlt : m < l.length
      · obtain ⟨b, off, rfl, hk⟩ := HH.out (by omega)
        have hc0 := hk m l[m] (List.getElem?_eq_getElem hlt)
        have HS := Lib.hid (show l[m]? = some l[m] from List.getElem?_eq_getElem hlt)
        generalize l[m] = s at *
        have hlt2 : (m : Int) < (l.length : Int) := by omega
        have HA := Lib.hid hall
        clear hall hk
        by_cases hs : s.size ≤ 30
        · have hs2 : ¬ (30 : Int) < (s.size : Int) := by omega
          have hs3 : (s.size : Int) ≤ 30 := by omega
          go_wp2_with fail
          go_roundw
          case rel => exact ⟨m + 1, by omega, by go_num, (by first | rfl | trivial), fun k s2 hk2 hs4 => by
            by_cases e : k = m
            · subst e
              rw [HS.out] at hs4
              cases hs4
              exact hs
            · exact HA.out k s2 (by omega) hs4⟩
          case measure => (simp [intOf] <;> omega)
        · have hs2 : (30 : Int) < (s.size : Int) := by omega
          have HF : Hid (smallB l = false) := Lib.hid (by
            rw [HB.out, List.all_eq_false]
            exact ⟨s, List.mem_of_getElem? HS.out, by simpa using hs⟩)
          go_wp2_with fail
          go_ret
          exact ⟨by rw [HF.out]; rfl, Keeps.refl _ _⟩
      · obtain rfl : m = l.length := by omega
        have hlt2 : ¬ (l.length : Int) < (l.length : Int) := by omega
        have HT : Hid (smallB l = true) := Lib.hid (by
          rw [HB.out, List.all_eq_true]
          intro s hs
          obtain ⟨k, hk, e⟩ := List.getElem_of_mem hs
          exact decide_eq_true (hall k s hk (by rw [List.getElem?_eq_getElem hk, e])))
        clear hall
        go_wp2_with fail
        go_ret
        exact ⟨by rw [HT.out]; rfl, Keeps.refl _ _⟩
  · have hi : (20 : Int) < (l.length : Int) := by omega
    have HF : Hid (smallB l = false) := Lib.hid (by unfold smallB; simp [h20])
    go_enter Tryz.func5, Tryz.ntmps5
    go_wp2_with fail
    go_ret
    exact ⟨by rw [HF.out]; rfl, Keeps.refl _ _⟩
end Go.Proofs.YtgobcnheemocnaaGreatDoor
end
section
namespace Go.Proofs.YtgobcnheemocnaaGreatDoor
open Go
open Go.RowKit
set_option linter.unusedVariables false
set_option linter.unusedSimpArgs false
set_option maxRecDepth 100000

def itOf (i : Nat) (s : ByteArray) : Itm := ⟨i, -1, i, 0, s, none, 0, 0, 0⟩
/-- The first m items. -/
def itsN (l : List ByteArray) (m : Nat) : List Itm := (List.range m).map fun i => itOf i ((l[i]?).getD ⟨#[]⟩)
theorem itsN_len (l : List ByteArray) (m : Nat) : (itsN l m).length = m := by simp [itsN]
theorem itsN_succ (l : List ByteArray) (m : Nat) (s : ByteArray) (h : l[m]? = some s) : itsN l (m + 1) = itsN l m ++ [itOf m s] := by simp [itsN, List.range_succ, h]
/-- A row of items, one's own. -/
def ItOwn (W0 w : World) (v : Value) (L : List Itm) : Prop := w.ownsRow W0.heap.size 56 7 v L.length (itL L) ∧ Keeps (fun _ => False) W0 w
theorem wpList_one_it {w : World} {ops : Array Oper} {rest : List Oper} {o : Oper} {a : Act} {Q : Exit → Act → World → Prop} (hgd : o.guard = none) (s x : Operand)
    (ho : o.op = .call { callee := .builtin .append, args := #[s, x], argTypes := #[30, 30] })
    (W0 : World) (v : Value) (L : List Itm) (y : Itm) (hs : a.eval s = v) (hown : ItOwn W0 w v L)
    (hx : a.eval x = .slice (some ⟨w.heap.size, 0, none⟩) 1 1) (hl : L.length ≤ 1000)
    (h : ∀ v' w', ItOwn W0 w' v' (L ++ [y]) → wpList Tryz.prog ops Q rest (a.put o.dst v') w') :
    wpList Tryz.prog ops Q (o :: rest) a (w.alloc (.cells (itC y) 56)) := by
  obtain ⟨i0, hi, hz0, hz1, hz2⟩ := info_parts info_itG
  have hsz := hown.2.size
  have e1 : (L ++ [y]).length = L.length + 1 := by simp
  refine wpList_append_own _ hgd s x 30 ho W0.heap.size 56 i0 _ 7 80 Tryz.underlying30 hi hz0 hz1 hz2 rfl (by decide) v _ (itL L) hs (ownsRow_alloc hown.1 _) ⟨w.heap.size, 0, none⟩ 1 1 (itC y).toList hx rfl (cells_new w (itC y).toList _) (it_oneL y) (by unfold maxLen; omega) (by omega) (by simp; omega) (fun v' w' h1 h2 _ => h v' w' ⟨by rw [e1, itL_add]; exact h1, ?_⟩)
  exact (hown.2.alloc (.cells (itC y) 56)).trans2 ((Keeps.refl (fun b => W0.heap.size ≤ b) _).grown h2 (fun b hb => Or.inl (ownBlock_base hown.1 b hb))) (fun i hi e => by omega)
set_option maxHeartbeats 4000000 in
theorem items_any (l : List ByteArray) (v : Value) (w : World) (h : TxAt w v l) (hl : l.length ≤ 20) :
    Calls Tryz.prog 7 #[v] w fun e w' => ∃ u, e = .returned u ∧ ItOwn w w' u (itsN l l.length) := by
  obtain ⟨a, c, rfl, hc, hh⟩ := h
  have HH := Lib.hid hh
  clear hh
  have hl2 : (l.length : Int) ≤ 20 := by omega
  go_enter Tryz.func7, Tryz.ntmps7
  go_wp2_with fail
  go_loopw [3, 4] (fun ov iv wr => ∃ m : Nat, m ≤ l.length ∧ iv = .int .i64 m ∧ ItOwn w wr ov (itsN l m)) (fun _ iv _ => l.length - (intOf iv).toNat)
  case atStart => exact ⟨0, Nat.zero_le _, rfl, World.ownsRow_nil _ _ _ _, Keeps.refl _ _⟩
  case round =>
    obtain ⟨m, hm, rfl, hown⟩ := hrel
    by_cases hlt : m < l.length
    · obtain ⟨b, off, rfl, hk⟩ := HH.out (by omega)
      have hc0 := hown.2.cell (hk m l[m] (List.getElem?_eq_getElem hlt)) id
      have HS := Lib.hid (show l[m]? = some l[m] from List.getElem?_eq_getElem hlt)
      generalize l[m] = s at *
      have hlt2 : (m : Int) < (l.length : Int) := by omega
      have HO := Lib.hid hown
      have hll : (itsN l m).length ≤ 1000 := by rw [itsN_len]; omega
      have HLL := Lib.hid hll
      clear hown hk hll
      go_wp2_with (refine wpList_one_it rfl (.tmp 11) (.tmp 20) rfl w _ (itsN l m) (itOf m s) rfl HO.out rfl HLL.out ?_)
      intro v2 w2 ho2
      obtain ⟨a2, c2, rfl⟩ := ownsRow_slice ho2.1
      have HO2 := Lib.hid ho2
      clear ho2 HO
      go_wp2_with fail
      go_roundw
      case rel => exact ⟨m + 1, by omega, by go_num, by rw [itsN_succ l m s HS.out]; exact HO2.out⟩
      case measure => (simp [intOf] <;> omega)
    · obtain rfl : m = l.length := by omega
      have hlt2 : ¬ (l.length : Int) < (l.length : Int) := by omega
      have HO := Lib.hid hown
      clear hown
      go_wp2_with fail
      go_ret
      exact ⟨_, rfl, HO.out⟩
end Go.Proofs.YtgobcnheemocnaaGreatDoor
end
