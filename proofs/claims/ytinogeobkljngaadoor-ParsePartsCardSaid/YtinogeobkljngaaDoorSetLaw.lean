/-
  For the laws on sets: the law's own awake, ranges that are new, ranges that came in.
-/
import Derived.Test.YtinogeobkljngaaDoorSetOr
import Derived.Test.YtinogeobkljngaaDoorSetFun2
import Derived.Deep.SlicePairs
import Derived.ChangeArms
import Derived.Deep.RegionHeld3
namespace Go.Proofs.YtinogeobkljngaaDoor
open Go.RowKit
set_option linter.unusedVariables false
set_option linter.unusedSimpArgs false
set_option maxRecDepth 100000

theorem rsl_new (w : World) (l : List (Int × Int)) (n : Nat) (hn : l.length = n) (T : TypeId) (hl : l.length ≤ 1000) (h : ∀ p ∈ l, in64 p.1 ∧ in64 p.2) : RSl (w.alloc (.cells (cellsOf 2 encR l).toArray T)) (.slice (some ⟨w.heap.size, 0, none⟩) n n) l := by
  subst hn
  refine ⟨⟨_, _, rfl, ⟨Nat.le_refl _, (fun h => by cases h)⟩, by omega, fun h0 => ⟨_, 0, rfl, fun i x hx j hj => ?_⟩⟩, h⟩
  rw [cell_new]
  have := cellsOf_get 2 encR l i x hx j hj
  simpa using this

theorem wpList_append_rsl {w : World} {ops : Array Oper} {rest : List Oper} {o : Oper} {a : Act} {Q : Exit → Act → World → Prop} (hgd : o.guard = none) (s x : Operand)
    (ho : o.op = .call { callee := .builtin .append, args := #[s, x], argTypes := #[23, 23] })
    (base : Nat) (v : Value) (n : Nat) (xs : List Value) (hs : a.eval s = v) (hown : w.ownsRow base 36 2 v n xs)
    (xv : Value) (l : List (Int × Int)) (hx : a.eval x = xv) (hr : RSl w xv l) (h63 : n + l.length ≤ 1000000) (hbase : base ≤ w.heap.size)
    (h : ∀ v' w', w'.ownsRow base 36 2 v' (n + l.length) (xs ++ cellsOf 2 encR l) → w.grownBy w' v.ownBlock → wpList Tryd.prog ops Q rest (a.put o.dst v') w') : wpList Tryd.prog ops Q (o :: rest) a w := by
  obtain ⟨i0, hi, hz0, hz1, hz2⟩ := info_parts info_range
  rcases hr.1.news (by omega) with ⟨rfl, rfl⟩ | ⟨ad, c, rfl, hnews⟩
  · refine wpList_append_own_none hgd s x 23 ho base 36 i0 2 Tryd.underlying23 hi v n xs hs hown hx (hs ▸ h v w ?_ ?_)
    · simpa [cellsOf] using hown
    · exact ⟨rfl, rfl, rfl, Nat.le_refl _, fun _ _ _ => rfl⟩
  · exact wpList_append_own _ hgd s x 23 ho base 36 i0 _ 2 16 Tryd.underlying23 hi hz0 hz1 hz2 rfl (by decide) v n xs hs hown ad _ c _ hx (cellsOf_length _ _ _) hnews (encR_one _) (by unfold maxLen; omega) (by omega) hbase
      (fun v' w' h1 h2 _ => h v' w' h1 h2)

theorem rsl_open {H : Type} {enc : TypeId × Value → H} {w : World} {base : Nat} {spare : Nat → Bool} {held : Bool} {a : Option Addr} {len cap : Nat} {x : DataW H × List MemPlace} (hl : len ≤ 100)
    (h : ∃ fuel, DataW.trod enc Tryd.prog w base spare held fuel 23 (Value.slice a len cap).cells.toList = some x) : ∃ l : List (Int × Int), l.length = len ∧ RSl w (.slice a len cap) l := by
  obtain ⟨fuel, hf⟩ := h
  rcases Deep.open_slice_pairs Tryd.underlying23 Tryd.underlying36 (by kernel_rfl) rfl rfl (by kernel_rfl) (by kernel_rfl) hf with ⟨hcs, _⟩ | ⟨a', len', cap', m, n, V0, V1, D0, D1, P0, P1, hcs, _, hlc, hcm, hm, _, hx⟩
  · simp [Value.cells] at hcs
    obtain ⟨rfl, rfl, rfl⟩ := hcs
    exact ⟨[], rfl, SlOf.nil _ _ _, by simp⟩
  · simp [Value.cells] at hcs
    obtain ⟨rfl, rfl, rfl⟩ := hcs
    have hlm : len ≤ m := by rw [hm]; split <;> omega
    have hv : ∀ i, i < len → ∃ x y : Int, V0 i = .int .i64 x ∧ V1 i = .int .i64 y ∧ in64 x ∧ in64 y := by
      intro i hi
      obtain ⟨_, _, h0, h1⟩ := hx i (by omega)
      obtain ⟨x, e0, _, w0⟩ := DataW.trod_int Tryd.underlying3 h0
      obtain ⟨y, e1, _, w1⟩ := DataW.trod_int Tryd.underlying3 h1
      simp [Lit.wf, IntKind.min, IntKind.max, IntKind.signed, IntKind.bits] at w0 w1
      simp at e0 e1
      exact ⟨x, y, e0, e1, by unfold in64; omega, by unfold in64; omega⟩
    have hsp : len ≠ 0 → a'.spot = none := by
      intro hne
      have h1 := (hx 0 (by omega)).1
      simpa [Addr.add] using World.cell?_spot h1
    refine ⟨(List.range len).map fun i => (intOf (V0 i), intOf (V1 i)), by simp, ⟨some a', cap, by simp, ⟨by simpa using hlc, (fun h => by cases h)⟩, by simp; omega, fun h0 => ?_⟩, ?_⟩
    · obtain ⟨b, off, spot⟩ := a'
      simp at h0
      have := hsp (by omega)
      simp at this
      subst this
      refine ⟨b, off, rfl, fun i p hp j hj => ?_⟩
      have hi : i < len := by
        rcases Nat.lt_or_ge i len with h | h
        · exact h
        · rw [List.getElem?_eq_none (by simpa using h)] at hp; cases hp
      simp [hi] at hp
      subst hp
      obtain ⟨x, y, e0, e1, _, _⟩ := hv i hi
      obtain ⟨c0, c1, _, _⟩ := hx i (by omega)
      have hadd : ∀ k, (⟨b, off, none⟩ : Addr).add k = ⟨b, off + k, none⟩ := by intro k; unfold Addr.add; split <;> simp_all
      rw [hadd] at c0 c1
      have : j = 0 ∨ j = 1 := by omega
      rcases this with rfl | rfl
      · rw [Nat.add_zero, c0, e0]; rfl
      · rw [Nat.add_assoc, c1, e1]; rfl
    · intro p hp
      obtain ⟨i, hi, rfl⟩ := List.mem_map.1 hp
      obtain ⟨x, y, e0, e1, a0, a1⟩ := hv i (by simpa using hi)
      simp only [e0, e1]
      exact ⟨a0, a1⟩
end Go.Proofs.YtinogeobkljngaaDoor
