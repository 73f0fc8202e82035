/-
  strings.Builder in a block of the call's own: what its methods do, with what else stays as it was.
-/
import Derived.Test.YtcgieejgmcgicaaGreatDoorLib
import Derived.Test.YtcgieejgmcgicaaGreatDoorProg
import Derived.Lib.Builder
import Derived.Lib.AppendStr
import Derived.Lib.UnsafeStr
import Derived.Laws.Externs
import Derived.Laws.IdiomCopy
namespace Go.Proofs.YtcgieejgmcgicaaGreatDoor
open Go.RowKit
set_option linter.unusedVariables false
set_option linter.unusedSimpArgs false
set_option maxRecDepth 100000

/-- A builder at block b holds the cells bs; its row lies from base on, in another block. -/
def Bld (base b : Nat) (bs : List Value) (w : World) : Prop :=
  ∃ p v, (p = .pointer none ∨ p = .pointer (some ⟨b, 0, none⟩)) ∧ w.heap[b]? = some (.cells #[p, v] 345 (0, 0)) ∧ w.ownsRow base 5 1 v bs.length bs ∧ v.ownBlock ≠ some b

theorem sizeBuilder : (Tryz.prog.info? 345).map (·.size) = some 2 := by kernel_rfl
theorem liesBuilder : liesAt Tryz.prog Tryz.prog.depth 345 (2 / Tryz.prog.cellsOf 345) 0 345 1 = true := by kernel_rfl
theorem info_u8 : (Tryz.prog.info? 5).map (fun i => (i.zero, i.size, i.bytes)) = some (some (.int .u8 0), 1, 1) := by kernel_rfl
set_option maxHeartbeats 1000000 in
theorem copyCheck_used (b : Nat) (w : World) (h0 : w.cell? ⟨b, 0, none⟩ = some (.pointer (some ⟨b, 0, none⟩))) :
    Calls Tryz.prog 239 #[.pointer (some ⟨b, 0, none⟩)] w fun e w' => e = .returned (.tuple #[]) ∧ w' = w := by
  obtain ⟨j, hj, _⟩ := Option.map_eq_some_iff.1 sizeBuilder
  go_enter Tryz.func239, Tryz.ntmps239
  go_wp2
  rw [Lib.run_neq_ptr_same w _ Tryz.underlying343 hj]
  go_wp2
  go_end0
  exact ⟨rfl, rfl⟩

set_option maxHeartbeats 1000000 in
theorem copyCheck_fresh (b : Nat) (w : World) (h0 : w.cell? ⟨b, 0, none⟩ = some (.pointer none)) (hsh : w.shape? b = some (345, 2)) (hfz : w.frozen? ⟨b, 0, none⟩ = false) :
    Calls Tryz.prog 239 #[.pointer (some ⟨b, 0, none⟩)] w fun e w' => e = .returned (.tuple #[]) ∧ w' = w.setCell ⟨b, 0, none⟩ (.pointer (some ⟨b, 0, none⟩)) := by
  obtain ⟨j, hj, hjs⟩ := Option.map_eq_some_iff.1 sizeBuilder
  go_enter Tryz.func239, Tryz.ntmps239
  go_wp2
  rw [Lib.run_to_unsafe w ⟨b, 0, none⟩ Tryz.underlying343 Tryz.underlying414 hj (by rw [hjs]; decide) hsh (Nat.zero_lt_succ 1)]
  simp only [Result.andThen]
  rw [Oper.upon_value]
  go_wp2
  rw [run_callFunc_extern Tryz.func261 (by kernel_rfl) (by kernel_rfl) (by kernel_rfl) (e := Extern.AbiNoEscape.same) (by kernel_rfl)]
  rw [Lib.run_noEscape]
  simp only [Result.andThen]
  rw [Oper.upon_value]
  go_wp2
  rw [Lib.run_from_unsafe w ⟨b, 0, none⟩ Tryz.underlying414 Tryz.underlying343 hj hsh liesBuilder]
  simp only [Result.andThen]
  rw [Oper.upon_value]
  go_wp2
  go_end0
  exact ⟨rfl, rfl⟩

theorem Bld.lt {base b : Nat} {bs : List Value} {w : World} (h : Bld base b bs w) : b < w.heap.size := by
  obtain ⟨p, v, _, hb, _⟩ := h
  exact (Array.getElem?_eq_some_iff.1 hb).1
/-- The builder is used: it has its own address. -/
def BldU (base b : Nat) (bs : List Value) (w : World) : Prop :=
  ∃ v, w.heap[b]? = some (.cells #[.pointer (some ⟨b, 0, none⟩), v] 345 (0, 0)) ∧ w.ownsRow base 5 1 v bs.length bs ∧ v.ownBlock ≠ some b
theorem BldU.bld {base b : Nat} {bs : List Value} {w : World} (h : BldU base b bs w) : Bld base b bs w := by
  obtain ⟨v, a, b, c⟩ := h; exact ⟨_, v, Or.inr rfl, a, b, c⟩
theorem bOwnsRow_keeps {base : Nat} {e : TypeId} {size n : Nat} {v : Value} {xs : List Value} {S : Nat → Prop} {w w' : World} (h : w.ownsRow base e size v n xs) (K : Keeps S w w') (hs : ∀ k, v.ownBlock = some k → ¬ S k) : w'.ownsRow base e size v n xs := by
  obtain ⟨h1, h2⟩ := h
  refine ⟨h1, ?_⟩
  rcases h2 with h2 | ⟨g, cap, cur, rfl, hg, hh, hc⟩
  · exact Or.inl h2
  · exact Or.inr ⟨g, cap, cur, rfl, hg, K.heap hh (hs g rfl), hc⟩
theorem Bld.keeps {base b : Nat} {bs : List Value} {S : Nat → Prop} {w w' : World} (h : Bld base b bs w) (K : Keeps S w w') (hb : ¬ S b) (hs : ∀ k, base ≤ k → ¬ S k) : Bld base b bs w' := by
  obtain ⟨p, v, hp, h1, h2, h3⟩ := h
  exact ⟨p, v, hp, K.heap h1 hb, bOwnsRow_keeps h2 K (fun k hk => hs k (ownBlock_base h2 k hk)), h3⟩
theorem Bld.keepsF {base b : Nat} {bs : List Value} {w w' : World} (h : Bld base b bs w) (K : Keeps (fun _ => False) w w') : Bld base b bs w' := h.keeps K id (fun _ _ => id)
theorem Bld.fresh {w w' : World} {b base : Nat} (h : w.heap[b]? = some (.cells #[.pointer none, .slice none 0 0] 345 (0, 0))) : Bld base b [] w :=
  ⟨_, _, Or.inl rfl, h, World.ownsRow_nil _ _ _ _, by simp [Value.ownBlock]⟩

theorem copyCheck_any (base b : Nat) (bs : List Value) (w : World) (h : Bld base b bs w) :
    Calls Tryz.prog 239 #[.pointer (some ⟨b, 0, none⟩)] w fun e w' => e = .returned (.tuple #[]) ∧ BldU base b bs w' ∧ Keeps (fun k => k = b) w w' := by
  have hlt := h.lt
  obtain ⟨p, v, hp, hb, ho, hn⟩ := h
  rcases hp with rfl | rfl
  · refine (copyCheck_fresh b w (by rw [Lib.cell_of_heap hb]; rfl) (by simp [World.shape?, hb]) (by simp [World.frozen?, hb])).mono ?_
    rintro e w' ⟨rfl, rfl⟩
    have K : Keeps (fun k => k = b) w (w.setCell ⟨b, 0, none⟩ (.pointer (some ⟨b, 0, none⟩))) := (Keeps.refl (fun k => k = b) _).set (p := ⟨b, 0, none⟩) rfl _
    refine ⟨rfl, ⟨v, ?_, bOwnsRow_keeps ho K (fun k hk e => hn (by rw [hk, e])), hn⟩, K⟩
    simp [World.setCell, Array.getElem?_modify, hb]
  · refine (copyCheck_used b w (by rw [Lib.cell_of_heap hb]; rfl)).mono ?_
    rintro e w' ⟨rfl, rfl⟩
    exact ⟨rfl, ⟨v, hb, ho, hn⟩, Keeps.refl _ _⟩

theorem BldU.put {base b : Nat} {p v v' : Value} {bs : List Value} {w : World} (hp : p = .pointer (some ⟨b, 0, none⟩)) (hb : w.heap[b]? = some (.cells #[p, v] 345 (0, 0))) (hown : w.ownsRow base 5 1 v' bs.length bs) :
    BldU base b bs (w.setCell ⟨b, 1, none⟩ v') := by
  subst hp
  have hne := Lib.ownBlock_ne hown hb (by decide)
  refine ⟨v', ?_, ?_, hne⟩
  · simp [World.setCell, Array.getElem?_modify, hb]
  · exact bOwnsRow_keeps hown ((Keeps.refl (fun k => k = b) _).set (p := ⟨b, 1, none⟩) rfl _) (fun k hk e => hne (by rw [hk, e]))

end Go.Proofs.YtcgieejgmcgicaaGreatDoor
