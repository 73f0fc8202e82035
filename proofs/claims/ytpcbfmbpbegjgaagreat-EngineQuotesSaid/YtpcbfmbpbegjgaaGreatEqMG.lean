/-
  A program's instructions in memory; slices.Clone, (*maker).put.
-/
import Derived.Test.YtpcbfmbpbegjgaaGreatMg2
import Derived.Test.YtpcbfmbpbegjgaaGreatPaClsG
import Derived.Deep.AppendLies
import Derived.Lib.SliceRun
import Derived.Deep.RegionLaw
import Derived.BigRegion
namespace Go.Proofs.YtpcbfmbpbegjgaaGreat
open Go.RowKit
set_option linter.unusedVariables false
set_option linter.unusedSimpArgs false
set_option maxRecDepth 100000

/-- An instruction: its sign, set, where it goes on. -/
structure Ins where
  op : Int
  set : List (Int × Int)
  x : Nat
  y : Nat
  deriving DecidableEq
structure IV where
  op : Int
  sv : Value
  x : Int
  y : Int
def encP (v : IV) (j : Nat) : Value := if j = 0 then .int .i64 v.op else if j = 1 then v.sv else if j = 2 then .int .i64 v.x else .int .i64 v.y
theorem encP_cells (v : IV) : (List.range 4).map (encP v) = [.int .i64 v.op, v.sv, .int .i64 v.x, .int .i64 v.y] := rfl
/-- An instruction lies so. -/
structure InAt (w : World) (P : Nat → Prop) (v : IV) (i : Ins) : Prop where
  op : v.op = i.op
  x : v.x = (i.x : Int)
  y : v.y = (i.y : Int)
  set : RSl w v.sv i.set
  sb : ∀ b, v.sv.ownBlock = some b → P b
theorem InAt.keepsTo {S P Q : Nat → Prop} {w w' : World} {v : IV} {i : Ins} (h : InAt w P v i) (K : Keeps S w w') (hs : ∀ b, P b → ¬ S b) (hq : ∀ b, P b → Q b) : InAt w' Q v i :=
  ⟨h.op, h.x, h.y, h.set.keeps K (fun b hb => hs b (h.sb b hb)), fun b hb => hq b (h.sb b hb)⟩
theorem info_inst : (Tryz.prog.info? 104).map (fun i => (i.zero, i.size, i.bytes)) = some (some (.agg #[.int .i64 0, .slice none 0 0, .int .i64 0, .int .i64 0]), 4, 48) := by kernel_rfl
/-- A maker at mb, with its instructions; the rows lie from base on. -/
def MkAt (base : Nat) (w : World) (mb : Nat) (is : List Ins) : Prop :=
  ∃ v ivs, w.heap[mb]? = some (.cells #[v] 101 (0, 0)) ∧ w.ownsRow base 104 4 v is.length (cellsOf 4 encP ivs) ∧ ivs.length = is.length ∧
    ∀ (k : Nat) (iv : IV) (i : Ins), ivs[k]? = some iv → is[k]? = some i → InAt w (fun b => base ≤ b ∧ b < w.heap.size ∧ v.ownBlock ≠ some b) iv i
theorem rsl_nil (w : World) : RSl w (.slice none 0 0) [] := ⟨SlOf.nil 2 encR w, fun p hp => by simp at hp⟩
theorem own_zero (w : World) (e : TypeId) (size : Nat) : (w.alloc (.cells #[] e)).ownsRow w.heap.size e size (.slice (some ⟨w.heap.size, 0, none⟩) 0 0) 0 [] :=
  ⟨by simp, Or.inr ⟨_, 0, #[], rfl, Nat.le_refl _, by simp [World.alloc, -World.alloc_eq], by omega, by unfold maxLen; omega, by simp, by simp⟩⟩
/-- What Clone answers. -/
def CloE (l : List (Int × Int)) (w : World) (e : Ending) (w' : World) : Prop := ∃ u, e = .returned u ∧ RSl w' u l ∧ (∀ b, u.ownBlock = some b → w.heap.size ≤ b ∧ b < w'.heap.size) ∧ Keeps (fun _ => False) w w'
set_option maxHeartbeats 2000000 in
theorem clone_any (l : List (Int × Int)) (v : Value) (w : World) (h : RSl w v l) (h0 : v = .slice none 0 0 ∨ l ≠ []) (hl : l.length ≤ 1000) :
    Calls Tryz.prog 87 #[v] w fun e w' => CloE l w e w' := by
  rcases h0 with rfl | h0
  · obtain rfl : l = [] := by
      obtain ⟨a, c, e1, _⟩ := h.1
      obtain ⟨_, e2, _⟩ := Value.slice.inj e1
      exact List.length_eq_zero_iff.1 e2.symm
    clear h hl
    have hE := fun W => Lib.run_eql_slice_nil (P := Tryz.prog) W 24 87 none 0 0 0 0 Tryz.underlying24
    go_enter Tryz.func87, Tryz.ntmps87
    go_wp2_with fail
    go_ret
    exact ⟨_, rfl, rsl_nil _, fun b hb => by simp [Value.ownBlock] at hb, Keeps.refl _ _⟩
  · obtain ⟨i0, hi0, hz0, hz1, hz2⟩ := info_parts info_range
    obtain ⟨a, cap, rfl, hlen, hcl⟩ := h.cells
    obtain ⟨b, off, rfl, hcc⟩ := hcl (List.length_pos_iff.2 h0)
    have hsl := h.1
    have hb : b < w.heap.size := by
      obtain ⟨p, hp⟩ : ∃ p, l[0]? = some p := ⟨_, List.getElem?_eq_getElem (List.length_pos_iff.2 h0)⟩
      exact lt_of_cell (hcc 0 p hp).1
    have hcells : ∀ (j : Nat) (u : Value), (cellsOf 2 encR l)[j]? = some u → (w.alloc (.cells #[] 87)).cell? ((⟨b, off, none⟩ : Addr).add j) = some u := by
      intro j u hu
      have hj : j < l.length * 2 := by have := (List.getElem?_eq_some_iff.1 hu).1; rwa [cellsOf_length] at this
      obtain ⟨p, hp⟩ : ∃ p, l[j / 2]? = some p := ⟨_, List.getElem?_eq_getElem (by omega)⟩
      have h1 := cellsOf_get 2 encR l (j / 2) p hp (j % 2) (Nat.mod_lt _ (by omega))
      rw [show j / 2 * 2 + j % 2 = j by omega, hu] at h1
      have h2 : w.cell? ⟨b, off + j, none⟩ = some u := by
        obtain ⟨a', c', e1, _, _, hc'⟩ := hsl
        obtain ⟨b', off', e3, hc2⟩ := hc' (List.length_pos_iff.2 h0)
        obtain ⟨e4, _⟩ := Value.slice.inj e1
        rw [e3] at e4
        cases e4
        have := hc2 (j / 2) p hp (j % 2) (Nat.mod_lt _ (by omega))
        rw [show off + j / 2 * 2 + j % 2 = off + j by omega] at this
        rw [this]; exact h1.symm
      have h3 := alloc_cell h2 (.cells #[] 87)
      rcases j with _ | j
      · simpa [Addr.add] using h3
      · simpa [Addr.add] using h3
    have HC := Lib.hid hcells
    have hE := fun W => Lib.run_eql_slice_nil (P := Tryz.prog) W 24 87 (some ⟨b, off, none⟩) l.length cap 0 0 Tryz.underlying24
    have HR := Lib.hid h.2
    clear hcells hsl hcc hcl h
    go_enter Tryz.func87, Tryz.ntmps87
    go_wp2_with (at_builtin; refine wpList_append_own _ rfl (.tmp 5) (.tmp 6) 24 rfl w.heap.size 87 i0 _ 2 16 Tryz.underlying24 hi0 hz0 hz1 hz2 rfl (by decide) _ 0 [] rfl (own_zero w _ 2) ⟨b, off, none⟩ l.length cap (cellsOf 2 encR l) rfl (by rw [cellsOf_length]) HC.out (cells_one _) (by unfold maxLen; omega) (by omega) (by simp) ?_)
    intro v' w2 hown hgrow _
    have hk2 : Keeps (fun _ => False) w w2 := ((Keeps.refl (fun _ => False) w).alloc _).trans2 ((Keeps.refl (fun b => w.heap.size ≤ b) _).grown hgrow (fun b hb => Or.inl (by have := Option.some.inj hb; rw [← this]; exact Nat.le_refl _))) (fun i hi e => by omega)
    have HO := Lib.hid hown
    have HK := Lib.hid hk2
    clear hown hgrow hk2
    go_wp2_with fail
    go_ret
    exact ⟨_, rfl, ⟨SlOf.ofOwn HO.out (by omega), HR.out⟩, fun b hb => ⟨ownBlock_base HO.out b hb, own_lt HO.out b hb⟩, HK.out⟩
end Go.Proofs.YtpcbfmbpbegjgaaGreat
