/-
  strings.Builder's WriteString and Grow, strings.Join: what they compute (turned from the shelf's own proofs: this dump's copyCheck is another one).
-/
import Derived.Test.YtibfioekmpnkgaaDoorTextB
import Derived.Lib.Join
import Derived.Lib.MakeNoZero
import Derived.Lib.Builder
import Derived.Lib.Case
import Derived.BigCall
import Derived.BigGuard
import Derived.RegionTactic
import Derived.BigRegion
import Derived.Test.YtibfioekmpnkgaaDoorShelf
namespace Go.Proofs.YtibfioekmpnkgaaDoor
open Go.RowKit
set_option linter.unusedVariables false
set_option linter.unusedSimpArgs false
set_option maxRecDepth 100000

set_option maxHeartbeats 2000000 in
theorem writeString_any (base b : Nat) (bs : List Value) (s : ByteArray) (w : World) (h : Bld base b bs w) (hlen : bs.length + s.size ≤ 140737488355328) (hBw : base ≤ w.heap.size) :
    Calls Tryd.prog 14 #[.pointer (some ⟨b, 0, none⟩), .string s] w fun e w' => e = .returned (.tuple #[.int .i64 s.size, .nilIface]) ∧ Bld base b (bs ++ Lib.strCells s) w' ∧ Keeps (fun k => k = b ∨ base ≤ k) w w' := by
  obtain ⟨i0, hi, hz0, hz1, hz2⟩ := info_parts info_u8
  have hlt := h.lt
  go_enter Tryd.func14, Tryd.ntmps14
  go_wp2_with fail
  refine (copyCheck_any base b bs _ h).mono ?_
  rintro e w1 ⟨rfl, h1, hk1⟩
  obtain ⟨v, hbk, hown, hne⟩ := h1
  have c0 : w1.cell? ⟨b, 0, none⟩ = some (.pointer (some ⟨b, 0, none⟩)) := by rw [Lib.cell_of_heap hbk]; rfl
  have c1 : w1.cell? ⟨b, 1, none⟩ = some v := by rw [Lib.cell_of_heap hbk]; rfl
  have hs1 := hk1.size
  obtain ⟨va, vc, rfl⟩ := ownsRow_slice hown
  go_wp2_with (at_builtin; refine Lib.wpList_append_own_string _ rfl _ _ 37 9 rfl base 5 i0 Tryd.underlying37 Tryd.underlying9 hi hz0 hz1 hz2 _ _ _ rfl hown s rfl ?c3 ?c4 ?c5 ?_)
  case c3 => unfold maxLen; omega
  case c4 => omega
  case c5 => omega
  intro v' w2 hown' hgrow _
  have hlt1 : b < w1.heap.size := by omega
  have hb2 : w2.heap[b]? = some (.cells #[.pointer (some ⟨b, 0, none⟩), .slice va bs.length vc] 44 (0, 0)) := by
    rw [hgrow.block b (by omega) (fun e => hne e.symm)]
    exact hbk
  have d0 : w2.cell? ⟨b, 0, none⟩ = some (.pointer (some ⟨b, 0, none⟩)) := by rw [Lib.cell_of_heap hb2]; rfl
  have d1 : w2.cell? ⟨b, 1, none⟩ = some (.slice va bs.length vc) := by rw [Lib.cell_of_heap hb2]; rfl
  have f1 : w2.frozen? ⟨b, 1, none⟩ = false := Lib.frozen_of_heap hb2 1
  have K2 : Keeps (fun k => k = b ∨ base ≤ k) w w2 := ((hk1.mono (fun _ _ e => Or.inl e))).grown hgrow (fun k hk => Or.inl (Or.inr (ownBlock_base hown k hk)))
  obtain ⟨va', vc', rfl⟩ := ownsRow_slice hown'
  go_wp2
  go_ret2
  exact ⟨rfl, (BldU.put rfl hb2 (by simpa [Lib.strCells_length] using hown')).bld, K2.set (p := ⟨b, 1, none⟩) (Or.inl rfl) _⟩

theorem cellsByte : Tryd.prog.cellsOf 5 = 1 := by kernel_rfl
theorem sizeByte : (Tryd.prog.info? 5).map (·.size) = some 1 := by kernel_rfl
set_option maxHeartbeats 2000000 in
set_option maxRecDepth 1000000 in
theorem grow_fresh (base b n : Nat) (w : World) (hbk : w.heap[b]? = some (.cells #[.pointer (some ⟨b, 0, none⟩), .slice none 0 0] 44 (0, 0))) (hBw : base ≤ w.heap.size) (hn : n ≤ 281474976710656) :
    Calls Tryd.prog 27 #[.pointer (some ⟨b, 0, none⟩), .int .i64 n] w fun e w' => e = .returned (.tuple #[]) ∧ BldU base b [] w' ∧ Keeps (fun k => k = b) w w' := by
  obtain ⟨cs, hrun, hle, hmax⟩ := Lib.run_makeNoZero (P := Tryd.prog) w.drew #[3] 37 5 Tryd.underlying37 n hn
  have hw : IntKind.i64.wrap (IntKind.i64.wrap 0 + (n : Int)) = n := by
    rw [IntKind.wrap_i64, IntKind.wrap_i64]
    omega
  have hcall : (callFunc 30 #[.int .i64 (IntKind.i64.wrap (IntKind.i64.wrap 0 + (n : Int)))]).run Tryd.prog w.drew = .ok (.value (.slice (some ⟨w.drew.heap.size, 0, none⟩) n cs.size)) (w.drew.drew.drew.alloc (.cells cs 5)) := by
    rw [hw, run_callFunc_extern Tryd.func30 (by kernel_rfl) (by kernel_rfl) (by kernel_rfl) (e := Extern.BytealgMakeNoZero.makeNoZero #[3] #[37]) (by kernel_rfl), hrun]
    rfl
  have hlt : b < w.heap.size := (Array.getElem?_eq_some_iff.1 hbk).1
  have c1 : w.drew.cell? ⟨b, 1, none⟩ = some (.slice none 0 0) := by
    have : w.drew.heap[b]? = _ := hbk
    rw [Lib.cell_of_heap this]; rfl
  have hb2 : (w.alloc (.cells cs 5)).heap[b]? = some (.cells #[.pointer (some ⟨b, 0, none⟩), .slice none 0 0] 44 (0, 0)) := (Lib.alloc_old w _ b hlt).trans hbk
  have c2 : (w.alloc (.cells cs 5)).cell? ⟨b, 1, none⟩ = some (.slice none 0 0) := by
    rw [Lib.cell_of_heap hb2]; rfl
  have f2 : (w.alloc (.cells cs 5)).frozen? ⟨b, 1, none⟩ = false := Lib.frozen_of_heap hb2 1
  have hcopy : ∀ W : World, (Builtin.copy_ #[37, 37] 3 #[.slice (some ⟨w.heap.size, 0, none⟩) 0 cs.size, .slice none 0 0]).run Tryd.prog W = .ok (goInt 0) W :=
    fun W => run_copy_none W 37 37 3 5 _ _ 0 cs.size 0 0 Tryd.underlying37 sizeByte rfl
  have hown : (w.alloc (.cells cs 5)).ownsRow base 5 1 (.slice (some ⟨w.heap.size, 0, none⟩) 0 cs.size) ([] : List Value).length [] :=
    ⟨rfl, .inr ⟨w.heap.size, cs.size, cs, rfl, hBw, heap_alloc_new w _, Nat.zero_le _, hmax (by unfold maxLen; omega), by simp, by simp⟩⟩
  have hfin := BldU.put (b := b) rfl hb2 hown
  have hK : Keeps (fun k => k = b) w ((w.alloc (.cells cs 5)).setCell ⟨b, 1, none⟩ (.slice (some ⟨w.heap.size, 0, none⟩) 0 cs.size)) := ((Keeps.refl (fun k => k = b) _).alloc _).set (p := ⟨b, 1, none⟩) rfl _
  rw [World.setCell_alloc_past _ _ _ _ hlt] at hfin hK
  have hfin2 : BldU base b [] ((w.setCell ⟨b, 1, none⟩ (.slice (some ⟨w.heap.size, 0, none⟩) 0 cs.size)).alloc (.cells cs 5)).drew.drew.drew := hfin
  have hK2 := hK.drew.drew.drew
  clear hw hfin hK
  go_enter Tryd.func27, Tryd.ntmps27
  go_wp2
  go_region
  all_goals (go_wp2; go_end0; exact ⟨rfl, hfin2, hK2⟩)
end Go.Proofs.YtibfioekmpnkgaaDoor
