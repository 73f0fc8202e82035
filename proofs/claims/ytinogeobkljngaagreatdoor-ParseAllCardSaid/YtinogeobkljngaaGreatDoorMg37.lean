/-
  Several texts in one: The document's points. A struct is stored into a block that is known whole: by one step, and the world behind it a letter.
-/
import Derived.Test.YtinogeobkljngaaGreatDoorMg36
import Derived.Test.YtinogeobkljngaaGreatDoorMg1
import Derived.Test.YtinogeobkljngaaGreatDoorProg
import Derived.Great.BuildSlice
import Derived.Laws.Tables
import Derived.Laws.Rows
section
namespace Go.Proofs.YtinogeobkljngaaGreatDoor
open Go.RowKit
set_option linter.unusedVariables false
set_option linter.unusedSimpArgs false
set_option maxRecDepth 100000

def RPts (l : List UInt8) (base : Nat) (w : World) (sv ov : Value) (wr : World) : Prop :=
  ∃ (rest : List UInt8) (acc : List Int), sv = .string ⟨rest.toArray⟩ ∧ acc.length + rest.length ≤ l.length ∧ wr.ownsRow base 3 1 ov acc.length (acc.map (Value.int .i64)) ∧ Keeps (fun _ => False) w wr ∧ pts l = (pts rest).map (acc ++ ·)
def strLen : Value → Nat
  | .string s => s.size
  | _ => 0
theorem putP_wrong : putP 65533 = [239, 191, 189] := by decide +kernel
theorem extr_take (l : List UInt8) (n : Nat) : (⟨l.toArray⟩ : ByteArray).extract 0 n = ⟨(l.take n).toArray⟩ := by
  apply ByteArray.ext
  simp [ByteArray.data_extract]
theorem extr_drop (l : List UInt8) (n : Nat) : (⟨l.toArray⟩ : ByteArray).extract n l.length = ⟨(l.drop n).toArray⟩ := by
  apply ByteArray.ext
  simp [ByteArray.data_extract, List.extract_eq_take_drop]
  rw [List.take_of_length_le (by simp)]
set_option maxHeartbeats 4000000 in
theorem rPoints_any (l : List UInt8) (w : World) (hl : l.length ≤ 1000) :
    Calls Tryz.prog 11 #[.string ⟨l.toArray⟩] w fun e w' => PtsE w.heap.size l e w' ∧ Keeps (fun _ => False) w w' := by
  obtain ⟨i0, hi0, hz0, hz1, hz2⟩ := info_parts info_int'
  go_enter Tryz.func11, Tryz.ntmps11
  go_wp2_with fail
  go_loopw [0, 4] (fun sv ov wr => RPts l w.heap.size w sv ov wr) (fun sv _ _ => strLen sv)
  case atStart => exact ⟨l, [], rfl, by simp, World.ownsRow_nil _ _ _ _, Keeps.refl _ _, by simp⟩
  case round =>
    obtain ⟨rest, acc, rfl, hlen, hown, hkw, hp⟩ := hrel
    have K := Lib.hid hkw
    have OW := Lib.hid hown
    have Hp := Lib.hid hp
    obtain ⟨va, vc, rfl⟩ := ownsRow_slice hown
    have hsw := hkw.size
    clear hp hown hkw
    cases rest with
    | nil =>
      have E : Hid (pts l = some acc) := Lib.hid (by rw [Hp.out]; simp [pts, ptsP])
      go_wp2_with fail
      go_ret2
      refine ⟨?_, K.out⟩
      unfold PtsE
      rw [E.out]
      exact ⟨_, rfl, OW.out⟩
    | cons c t =>
      have hpc := pts_cons (c := c) (l := t)
      have hgn := getN_eq (c := c) (t := t) 4 1 (by omega) (by omega) (fun k k1 k2 _ => by omega)
      simp only [List.length_cons] at hlen
      have HG := Lib.hid (fun W => rGet_any c t W (by omega))
      by_cases hv : sizP (getP (c :: t)).1 = ((getP (c :: t)).2 : Int)
      · rw [if_pos hv] at hpc hgn
        rw [hgn] at HG
        obtain ⟨g1, g2, g3, g4, g5⟩ := put_get hv
        unfold getQ at g4
        simp only [Bool.and_eq_true, decide_eq_true_eq] at g4
        obtain ⟨V, hV⟩ : ∃ V, valP ((c :: t).take (getP (c :: t)).2) = V := ⟨_, rfl⟩
        rw [hV] at g4 g5
        obtain ⟨n, hn⟩ : ∃ n, (getP (c :: t)).2 = n := ⟨_, rfl⟩
        rw [← g5, hn] at HG
        rw [← g5, hn] at hpc
        rw [hn] at g1 g2 g3 g4
        have E2 : Hid (pts l = ((pts ((c :: t).drop n)).map ((V : Int) :: ·)).map (acc ++ ·)) := Lib.hid (by rw [Hp.out, hpc])
        have hE1 := extr_take (c :: t) n
        have hE2 := extr_drop (c :: t) n
        rw [← g4.2] at hE1
        have hdl : ((c :: t).drop n).length = t.length + 1 - n := by simp
        obtain ⟨rest', hrest⟩ : ∃ r, (c :: t).drop n = r := ⟨_, rfl⟩
        rw [hrest] at hE2 hdl E2
        have hr0 : V ≤ 1114111 := by have := g4.1; simp [isB] at this; omega
        have KP0 := Lib.hid (fun W => rPut_any V W g4.1)
        generalize putP V = PV at *
        have hn3 : n ≤ t.length + 1 := by simpa using g3
        have hI1 : (0 : Int) ≤ (n : Int) := by omega
        have hI2 : (n : Int) ≤ (t.length : Int) + 1 := by omega
        clear hpc hgn hv g4 g5 hV hn hrest g3
        go_wp2_with fail
        refine (HG.out _).mono ?_
        rintro e w2 ⟨rfl, k2⟩
        have hkd : Keeps (fun _ => False) w2 w2.drew := (Keeps.refl _ _).drew
        have KP : ∀ W, Keeps (fun _ => False) w2 W → Calls Tryz.prog 24 #[.int .i64 V] W fun e w' => e = .returned (.string ⟨PV.toArray⟩) ∧ Keeps (fun _ => False) w2 w' := fun W kW => (KP0.out W).mono fun e w' ⟨e1, e2⟩ => ⟨e1, kW.trans e2⟩
        have K2 := Lib.hid k2
        clear k2
        go_wp2_with fail
        go_region_held3 (fun w' => Keeps (fun _ => False) w2 w') (first | exact hkd | assumption) (first | (go_at_call 24; refine (KP _ ?_).mono ?_; (first | exact hkd | assumption); rintro e w' ⟨rfl, hkn⟩))
        have K3 : Hid (Keeps (fun _ => False) wr w') := Lib.hid (K2.out.trans hkn)
        have hs3 := K3.out.size
        go_wp2_with (at_builtin; refine wpList_append_own _ rfl (.tmp 21) (.tmp 23) 35 rfl w.heap.size 3 i0 (.int .i64 0) 1 8 Tryz.underlying35 hi0 hz0 hz1 hz2 rfl (by decide) _ _ _ rfl (ownsRow_alloc (ownsRow_keeps OW.out K3.out (fun _ _ => id)) _) ⟨w'.heap.size, 0, none⟩ 1 1 [.int .i64 V] rfl rfl (by exact cells_new _ [_] _) (by intro u hu; simp at hu; subst hu; rfl) ?d3 ?d4 ?d5 ?_)
        case d3 => unfold maxLen; omega
        case d4 => omega
        case d5 => simp; omega
        intro v' w4 hown' hgrow _
        have hk4 : Keeps (fun k => w.heap.size ≤ k) wr w4 := ((K3.out.mono (fun _ _ e => e.elim)).alloc (.cells #[.int .i64 V] 3)).grown hgrow (fun b hb => Or.inl (ownBlock_base OW.out b hb))
        have K4 : Hid (Keeps (fun _ => False) w w4) := Lib.hid (K.out.trans2 hk4 (fun i hi e => by omega))
        have O4 : Hid (w4.ownsRow w.heap.size 3 1 v' (acc ++ [(V : Int)]).length ((acc ++ [(V : Int)]).map (Value.int .i64))) := Lib.hid (by simpa using hown')
        clear hown' hgrow hk4
        go_wp2_with fail
        go_roundw
        case rel => exact ⟨rest', acc ++ [(V : Int)], congrArg Value.string hE2, by simp; omega, O4.out, K4.out, by rw [E2.out, Option.map_map]; congr 1; funext q; simp⟩
        case measure => simp [strLen, ByteArray.size]; omega
      · rw [if_neg hv] at hpc hgn
        rw [hgn] at HG
        have E2 : Hid (pts l = none) := Lib.hid (by rw [Hp.out, hpc]; rfl)
        have KP0 := Lib.hid (fun W => rPut_any 65533 W (by decide))
        rw [putP_wrong] at KP0
        have hE1 := extr_take (c :: t) 1
        simp only [List.take_succ_cons, List.take_zero] at hE1
        have hne : (([239, 191, 189] : List UInt8) == [c]) = false := by simp
        have hg1 : 1 ≤ t.length + 1 := by omega
        have hI2 : (1 : Int) ≤ (t.length : Int) + 1 := by omega
        have hI3 : (0 : Int) ≤ (t.length : Int) := by omega
        clear hpc hgn hv
        go_wp2_with fail
        refine (HG.out _).mono ?_
        rintro e w2 ⟨rfl, k2⟩
        have hkd : Keeps (fun _ => False) w2 w2.drew := (Keeps.refl _ _).drew
        have KP : ∀ W, Keeps (fun _ => False) w2 W → Calls Tryz.prog 24 #[.int .i64 65533] W fun e w' => e = .returned (.string ⟨#[239, 191, 189]⟩) ∧ Keeps (fun _ => False) w2 w' := fun W kW => (KP0.out W).mono fun e w' ⟨e1, e2⟩ => ⟨e1, kW.trans e2⟩
        have K2 := Lib.hid k2
        clear k2
        go_wp2_with fail
        go_region_held3 (fun w' => Keeps (fun _ => False) w2 w') (first | exact hkd | assumption) (first | (go_at_call 24; refine (KP _ ?_).mono ?_; (first | exact hkd | assumption); rintro e w' ⟨rfl, hkn⟩))
        go_wp2_with fail
        go_ret2
        refine ⟨?_, (K.out.trans K2.out).trans (by assumption)⟩
        unfold PtsE
        rw [E2.out]
        rfl
end Go.Proofs.YtinogeobkljngaaGreatDoor
end
section
namespace Go.Proofs.YtinogeobkljngaaGreatDoor
open Go.RowKit
set_option linter.unusedVariables false
set_option linter.unusedSimpArgs false
set_option maxRecDepth 100000

theorem Keeps.setRow {S : Nat → Prop} {a b : World} (h : Keeps S a b) {g : Nat} (hg : S g) (cs : Array Value) : Keeps S a (b.setRow g cs) :=
  ⟨h.os, h.tape, h.output, by have := h.size; simp; omega, fun k hk hs => by
    have hne : g ≠ k := fun e => hs (e ▸ hg)
    have : (b.setRow g cs).heap[k]? = b.heap[k]? := by
      unfold World.setRow
      simp [Array.getElem?_modify, hne]
    rw [this]; exact h.block k hk hs⟩
theorem wpList_store_gen {P : Program} {ops : Array Oper} {rest : List Oper} {o : Oper} {a : Act} {w : World} {Q : Exit → Act → World → Prop} (hgd : o.guard = none) (ty : TypeId) (x y : Operand) (ho : o.op = .store ty x y)
    (hd : o.dst = none) (g : Nat) (cells : Array Value) (hx : a.eval x = .pointer (some ⟨g, 0, none⟩)) (hy : a.eval y = .agg cells)
    (t : TypeId) (old : Array Value) (hg : w.heap[g]? = some (.cells old t (0, 0))) (hi : (P.info? ty).map (·.size) = some cells.size)
    (hold : old.size = cells.size) (h1 : cells.all (·.oneCell') = true)
    (h : ∀ w6 : World, w6.heap[g]? = some (.cells cells t (0, 0)) → Keeps (fun b => b = g) w w6 → wpList P ops Q rest a w6) : wpList P ops Q (o :: rest) a w :=
  wpList_store_rowTo hgd ty x y ho hd g cells hx hy t old hg hi hold h1 (h _ (setRow_heap w g old cells t (0, 0) hg) (Keeps.setRow (S := fun b => b = g) (Keeps.refl _ _) rfl cells))
theorem five {w : World} {b : Nat} {v0 v1 v2 v3 v4 : Value} {T : TypeId} (h : w.heap[b]? = some (.cells #[v0, v1, v2, v3, v4] T (0, 0))) :
    w.cell? ⟨b, 0, none⟩ = some v0 ∧ w.cell? ⟨b, 1, none⟩ = some v1 ∧ w.cell? ⟨b, 2, none⟩ = some v2 ∧ w.cell? ⟨b, 3, none⟩ = some v3 ∧ w.cell? ⟨b, 4, none⟩ = some v4 :=
  ⟨by rw [cell_block h]; rfl, by rw [cell_block h]; rfl, by rw [cell_block h]; rfl, by rw [cell_block h]; rfl, by rw [cell_block h]; rfl⟩
theorem size_node : (Tryz.prog.info? 26).map (·.size) = some 5 := by kernel_rfl
end Go.Proofs.YtinogeobkljngaaGreatDoor
end
