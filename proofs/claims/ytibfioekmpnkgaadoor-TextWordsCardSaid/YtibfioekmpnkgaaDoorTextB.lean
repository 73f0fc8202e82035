/-
  strings.Builder in a block of the call's own: what its methods do, with what else stays as it was.
-/
import Derived.Test.YtibfioekmpnkgaaDoorLib
import Derived.Test.YtibfioekmpnkgaaDoorProg
import Derived.Lib.Builder
import Derived.Lib.AppendStr
import Derived.Lib.UnsafeStr
import Derived.Laws.Externs
import Derived.Laws.IdiomCopy
namespace Go.Proofs.YtibfioekmpnkgaaDoor
open Go.RowKit
set_option linter.unusedVariables false
set_option linter.unusedSimpArgs false
set_option maxRecDepth 100000

/-- A builder at block b holds the cells bs; its row lies from base on, in another block. -/
def Bld (base b : Nat) (bs : List Value) (w : World) : Prop :=
  ∃ p v, (p = .pointer none ∨ p = .pointer (some ⟨b, 0, none⟩)) ∧ w.heap[b]? = some (.cells #[p, v] 44 (0, 0)) ∧ w.ownsRow base 5 1 v bs.length bs ∧ v.ownBlock ≠ some b

theorem sizeBuilder : (Tryd.prog.info? 44).map (·.size) = some 2 := by kernel_rfl
theorem liesBuilder : liesAt Tryd.prog Tryd.prog.depth 44 (2 / Tryd.prog.cellsOf 44) 0 44 1 = true := by kernel_rfl
theorem info_u8 : (Tryd.prog.info? 5).map (fun i => (i.zero, i.size, i.bytes)) = some (some (.int .u8 0), 1, 1) := by kernel_rfl
set_option maxHeartbeats 1000000 in
theorem copyCheck_used (b : Nat) (w : World) (h0 : w.cell? ⟨b, 0, none⟩ = some (.pointer (some ⟨b, 0, none⟩))) :
    Calls Tryd.prog 24 #[.pointer (some ⟨b, 0, none⟩)] w fun e w' => e = .returned (.tuple #[]) ∧ w' = w := by
  obtain ⟨j, hj, _⟩ := Option.map_eq_some_iff.1 sizeBuilder
  go_enter Tryd.func24, Tryd.ntmps24
  go_wp2
  rw [Lib.run_neq_ptr_same w _ Tryd.underlying42 hj]
  go_wp2
  go_end0
  exact ⟨rfl, rfl⟩

set_option maxHeartbeats 1000000 in
theorem copyCheck_fresh (b : Nat) (w : World) (h0 : w.cell? ⟨b, 0, none⟩ = some (.pointer none)) (hsh : w.shape? b = some (44, 2)) (hfz : w.frozen? ⟨b, 0, none⟩ = false) :
    Calls Tryd.prog 24 #[.pointer (some ⟨b, 0, none⟩)] w fun e w' => e = .returned (.tuple #[]) ∧ w' = w.setCell ⟨b, 0, none⟩ (.pointer (some ⟨b, 0, none⟩)) := by
  obtain ⟨j, hj, hjs⟩ := Option.map_eq_some_iff.1 sizeBuilder
  go_enter Tryd.func24, Tryd.ntmps24
  go_wp2
  rw [Lib.run_to_unsafe w ⟨b, 0, none⟩ Tryd.underlying42 Tryd.underlying85 hj (by rw [hjs]; decide) hsh (Nat.zero_lt_succ 1)]
  simp only [Result.andThen]
  rw [Oper.upon_value]
  go_wp2
  rw [run_callFunc_extern Tryd.func28 (by kernel_rfl) (by kernel_rfl) (by kernel_rfl) (e := Extern.AbiNoEscape.same) (by kernel_rfl)]
  rw [Lib.run_noEscape]
  simp only [Result.andThen]
  rw [Oper.upon_value]
  go_wp2
  rw [Lib.run_from_unsafe w ⟨b, 0, none⟩ Tryd.underlying85 Tryd.underlying42 hj hsh liesBuilder]
  simp only [Result.andThen]
  rw [Oper.upon_value]
  go_wp2
  go_end0
  exact ⟨rfl, rfl⟩

theorem Bld.lt {base b : Nat} {bs : List Value} {w : World} (h : Bld base b bs w) : b < w.heap.size := by
  obtain ⟨p, v, _, hb, _⟩ := h
  exact (Array.getElem?_eq_some_iff.1 hb).1
/-- The builder is used: it has its own address. -/
def BldU (base b : Nat) (bs : List Value) (w : World) : Prop :=
  ∃ v, w.heap[b]? = some (.cells #[.pointer (some ⟨b, 0, none⟩), v] 44 (0, 0)) ∧ w.ownsRow base 5 1 v bs.length bs ∧ v.ownBlock ≠ some b
theorem BldU.bld {base b : Nat} {bs : List Value} {w : World} (h : BldU base b bs w) : Bld base b bs w := by
  obtain ⟨v, a, b, c⟩ := h; exact ⟨_, v, Or.inr rfl, a, b, c⟩
theorem ownsRow_keeps {base : Nat} {e : TypeId} {size n : Nat} {v : Value} {xs : List Value} {S : Nat → Prop} {w w' : World} (h : w.ownsRow base e size v n xs) (K : Keeps S w w') (hs : ∀ k, v.ownBlock = some k → ¬ S k) : w'.ownsRow base e size v n xs := by
  obtain ⟨h1, h2⟩ := h
  refine ⟨h1, ?_⟩
  rcases h2 with h2 | ⟨g, cap, cur, rfl, hg, hh, hc⟩
  · exact Or.inl h2
  · exact Or.inr ⟨g, cap, cur, rfl, hg, K.heap hh (hs g rfl), hc⟩
theorem Bld.keeps {base b : Nat} {bs : List Value} {S : Nat → Prop} {w w' : World} (h : Bld base b bs w) (K : Keeps S w w') (hb : ¬ S b) (hs : ∀ k, base ≤ k → ¬ S k) : Bld base b bs w' := by
  obtain ⟨p, v, hp, h1, h2, h3⟩ := h
  exact ⟨p, v, hp, K.heap h1 hb, ownsRow_keeps h2 K (fun k hk => hs k (ownBlock_base h2 k hk)), h3⟩
theorem Bld.keepsF {base b : Nat} {bs : List Value} {w w' : World} (h : Bld base b bs w) (K : Keeps (fun _ => False) w w') : Bld base b bs w' := h.keeps K id (fun _ _ => id)
theorem Bld.fresh {w w' : World} {b base : Nat} (h : w.heap[b]? = some (.cells #[.pointer none, .slice none 0 0] 44 (0, 0))) : Bld base b [] w :=
  ⟨_, _, Or.inl rfl, h, World.ownsRow_nil _ _ _ _, by simp [Value.ownBlock]⟩

theorem copyCheck_any (base b : Nat) (bs : List Value) (w : World) (h : Bld base b bs w) :
    Calls Tryd.prog 24 #[.pointer (some ⟨b, 0, none⟩)] w fun e w' => e = .returned (.tuple #[]) ∧ BldU base b bs w' ∧ Keeps (fun k => k = b) w w' := by
  have hlt := h.lt
  obtain ⟨p, v, hp, hb, ho, hn⟩ := h
  rcases hp with rfl | rfl
  · refine (copyCheck_fresh b w (by rw [Lib.cell_of_heap hb]; rfl) (by simp [World.shape?, hb]) (by simp [World.frozen?, hb])).mono ?_
    rintro e w' ⟨rfl, rfl⟩
    have K : Keeps (fun k => k = b) w (w.setCell ⟨b, 0, none⟩ (.pointer (some ⟨b, 0, none⟩))) := (Keeps.refl (fun k => k = b) _).set (p := ⟨b, 0, none⟩) rfl _
    refine ⟨rfl, ⟨v, ?_, ownsRow_keeps ho K (fun k hk e => hn (by rw [hk, e])), hn⟩, K⟩
    simp [World.setCell, Array.getElem?_modify, hb]
  · refine (copyCheck_used b w (by rw [Lib.cell_of_heap hb]; rfl)).mono ?_
    rintro e w' ⟨rfl, rfl⟩
    exact ⟨rfl, ⟨v, hb, ho, hn⟩, Keeps.refl _ _⟩

theorem BldU.put {base b : Nat} {p v v' : Value} {bs : List Value} {w : World} (hp : p = .pointer (some ⟨b, 0, none⟩)) (hb : w.heap[b]? = some (.cells #[p, v] 44 (0, 0))) (hown : w.ownsRow base 5 1 v' bs.length bs) :
    BldU base b bs (w.setCell ⟨b, 1, none⟩ v') := by
  subst hp
  have hne := Lib.ownBlock_ne hown hb (by decide)
  refine ⟨v', ?_, ?_, hne⟩
  · simp [World.setCell, Array.getElem?_modify, hb]
  · exact ownsRow_keeps hown ((Keeps.refl (fun k => k = b) _).set (p := ⟨b, 1, none⟩) rfl _) (fun k hk e => hne (by rw [hk, e]))

set_option maxHeartbeats 2000000 in
theorem writeByte_any (base b : Nat) (bs : List Value) (c : Int) (w : World) (h : Bld base b bs w) (hlen : bs.length + 1 ≤ 140737488355328) (hBw : base ≤ w.heap.size) :
    Calls Tryd.prog 19 #[.pointer (some ⟨b, 0, none⟩), .int .u8 c] w fun e w' => e = .returned .nilIface ∧ Bld base b (bs ++ [.int .u8 c]) w' ∧ Keeps (fun k => k = b ∨ base ≤ k) w w' := by
  obtain ⟨i0, hi, hz0, hz1, hz2⟩ := info_parts info_u8
  have hlt := h.lt
  go_enter Tryd.func19, Tryd.ntmps19
  go_wp2_with fail
  refine (copyCheck_any base b bs _ h).mono ?_
  rintro e w1 ⟨rfl, h1, hk1⟩
  obtain ⟨v, hbk, hown, hne⟩ := h1
  have c0 : w1.cell? ⟨b, 0, none⟩ = some (.pointer (some ⟨b, 0, none⟩)) := by rw [Lib.cell_of_heap hbk]; rfl
  have c1 : w1.cell? ⟨b, 1, none⟩ = some v := by rw [Lib.cell_of_heap hbk]; rfl
  have hs1 := hk1.size
  obtain ⟨va, vc, rfl⟩ := ownsRow_slice hown
  go_wp2_with (at_builtin; refine wpList_append_own _ rfl _ _ 37 rfl base 5 i0 (.int .u8 0) 1 1 Tryd.underlying37 hi hz0 hz1 hz2 rfl (by decide) _ _ _ rfl (hown.alloc _) ⟨w1.heap.size, 0, none⟩ 1 1 [.int .u8 c] rfl rfl ?c1 ?c2 ?c3 ?c4 ?c5 ?_)
  case c1 =>
    intro j u hj
    match j, hj with
    | 0, hj => simp at hj; subst hj; simp [Addr.add]
  case c2 => intro u hu; simp at hu; subst hu; rfl
  case c3 => unfold maxLen; omega
  case c4 => omega
  case c5 => simp; omega
  intro v' w2 hown' hgrow _
  have hlt1 : b < w1.heap.size := by omega
  have hb2 : w2.heap[b]? = some (.cells #[.pointer (some ⟨b, 0, none⟩), .slice va bs.length vc] 44 (0, 0)) := by
    rw [hgrow.block b (by simp; omega) (fun e => hne e.symm), Below.heap_alloc _ _ _ hlt1]
    exact hbk
  have d0 : w2.cell? ⟨b, 0, none⟩ = some (.pointer (some ⟨b, 0, none⟩)) := by rw [Lib.cell_of_heap hb2]; rfl
  have d1 : w2.cell? ⟨b, 1, none⟩ = some (.slice va bs.length vc) := by rw [Lib.cell_of_heap hb2]; rfl
  have f1 : w2.frozen? ⟨b, 1, none⟩ = false := Lib.frozen_of_heap hb2 1
  have K2 : Keeps (fun k => k = b ∨ base ≤ k) w w2 := ((hk1.mono (fun _ _ e => Or.inl e)).alloc _).grown hgrow (fun k hk => Or.inl (Or.inr (ownBlock_base hown k hk)))
  obtain ⟨va', vc', rfl⟩ := ownsRow_slice hown'
  go_wp2
  go_ret
  exact ⟨rfl, (BldU.put rfl hb2 (by simpa using hown')).bld, K2.set (p := ⟨b, 1, none⟩) (Or.inl rfl) _⟩
end Go.Proofs.YtibfioekmpnkgaaDoor
