/-
  A slice of acts that came in, opened.
-/
import Derived.Test.YtibfioekmpnkgaaRingLaw
namespace Go.Proofs.Ytibfioekmpnkgaa
open Go.RowKit
set_option linter.unusedVariables false
set_option linter.unusedSimpArgs false
set_option maxRecDepth 100000

section
variable {H : Type} {enc : TypeId × Value → H} {w : World} {base : Nat} {spare : Nat → Bool} {held : Bool}

theorem int64_wf {n : Int} (h : (Lit.int .i64 n).wf = true) : in64 n := by
  simp [Lit.wf, IntKind.min, IntKind.max, IntKind.signed, IntKind.bits] at h
  unfold in64; omega

theorem hits_open {a : Option Addr} {len cap fuel : Nat} {x : DataW H × List MemPlace} (hl : len ≤ 100)
    (h : DataW.trod enc Try.prog w base spare held fuel 32 [.slice a len cap] = some x) : ∃ hs : List (Int × Int), SlOf 2 encR w (.slice a len cap) hs ∧ hs.length ≤ 1000 := by
  rcases Deep.open_slice_pairs Try.underlying32 Try.underlying99 (by kernel_rfl) rfl rfl (by kernel_rfl) (by kernel_rfl) h with ⟨hcs, _⟩ | ⟨a', len', cap', m, n, V0, V1, D0, D1, P0, P1, hcs, _, hlc, hcm, hm, _, hx⟩
  · simp at hcs
    obtain ⟨rfl, rfl, rfl⟩ := hcs
    exact ⟨[], SlOf.nil _ _ _, by simp⟩
  · simp at hcs
    obtain ⟨rfl, rfl, rfl⟩ := hcs
    have hlm : len ≤ m := by rw [hm]; split <;> omega
    have hv : ∀ i, i < len → ∃ x y : Int, V0 i = .int .i64 x ∧ V1 i = .int .i64 y := by
      intro i hi
      obtain ⟨_, _, h0, h1⟩ := hx i (by omega)
      obtain ⟨x, e0, _, _⟩ := DataW.trod_int Try.underlying3 h0
      obtain ⟨y, e1, _, _⟩ := DataW.trod_int Try.underlying3 h1
      simp at e0 e1
      exact ⟨x, y, e0, e1⟩
    have hsp : len ≠ 0 → a'.spot = none := by
      intro hne
      have h1 := (hx 0 (by omega)).1
      simpa [Addr.add] using World.cell?_spot h1
    refine ⟨(List.range len).map fun i => (intOf (V0 i), intOf (V1 i)), ⟨some a', cap, by simp, ⟨by simpa using hlc, (fun h => by cases h)⟩, by simp; omega, fun h0 => ?_⟩, by simp; omega⟩
    obtain ⟨b, off, spot⟩ := a'
    simp at h0
    have := hsp (by omega)
    simp at this
    subst this
    refine ⟨b, off, rfl, fun i p hp j hj => ?_⟩
    have hi : i < len := by
      rcases Nat.lt_or_ge i len with h | h
      · exact h
      · rw [List.getElem?_eq_none (by simpa using h)] at hp; cases hp
    simp [hi] at hp
    subst hp
    obtain ⟨x, y, e0, e1⟩ := hv i hi
    obtain ⟨c0, c1, _, _⟩ := hx i (by omega)
    have hadd : ∀ k, (⟨b, off, none⟩ : Addr).add k = ⟨b, off + k, none⟩ := by intro k; unfold Addr.add; split <;> simp_all
    rw [hadd] at c0 c1
    have : j = 0 ∨ j = 1 := by omega
    rcases this with rfl | rfl
    · rw [Nat.add_zero, c0, e0]; rfl
    · rw [Nat.add_assoc, c1, e1]; rfl

theorem item_open {cs : List Value} {fuel : Nat} {x : DataW H × List MemPlace} (h : DataW.trod enc Try.prog w base spare held fuel 34 cs = some x) :
    ∃ y : ItemV, cs = (List.range 7).map y.cell ∧ in64 y.N ∧ (y.hl ≤ 100 → HasHits w y) := by
  obtain ⟨xs, n, _, _, hlen, hxl, hf⟩ := DataW.trod_struct Try.underlying34 h
  have hc7 : cs.length = 7 := by rw [hlen]; kernel_rfl
  have k3 : Try.prog.cellsOf 3 = 1 := by kernel_rfl
  have kr : Try.prog.cellsOf 31 = 3 := by kernel_rfl
  have kh : Try.prog.cellsOf 32 = 1 := by kernel_rfl
  have ke : Try.prog.cellsOf 25 = 1 := by kernel_rfl
  have ks : Try.prog.cellsOf 9 = 1 := by kernel_rfl
  have hx5 : xs.length = 5 := by rw [hxl]; rfl
  match cs, hc7, xs, hx5 with
  | [v0, v1, v2, v3, v4, v5, v6], _, [x0, x1, x2, x3, x4], _ =>
    have g0 := hf 0 _ rfl
    have g1 := hf 1 _ rfl
    have g2 := hf 2 _ rfl
    have g3 := hf 3 _ rfl
    have g4 := hf 4 _ rfl
    simp [k3, kr, kh, ke] at g0 g1 g2 g3 g4
    obtain ⟨N, e0, _, w0⟩ := DataW.trod_int Try.underlying3 g0
    obtain ⟨B, e1, _, _⟩ := DataW.trod_int Try.underlying3 g1
    obtain ⟨E, e6, _, _⟩ := DataW.trod_int Try.underlying25 g4
    obtain ⟨ys, n2, _, _, _, hyl, hg⟩ := DataW.trod_struct Try.underlying31 g2
    have hy3 : ys.length = 3 := by rw [hyl]; rfl
    match ys, hy3 with
    | [y0, y1, y2], _ =>
      have q0 := hg 0 _ rfl
      have q1 := hg 1 _ rfl
      have q2 := hg 2 _ rfl
      simp [k3, ks] at q0 q1 q2
      obtain ⟨R, e2, _, _⟩ := DataW.trod_int Try.underlying3 q0
      obtain ⟨T, e3, _, _⟩ := DataW.trod_int Try.underlying3 q1
      obtain ⟨S, e4, _, _⟩ := DataW.trod_string Try.underlying9 q2
      simp at e0 e1 e2 e3 e4 e6
      subst e0 e1 e2 e3 e4 e6
      rcases DataW.trod_slice Try.underlying32 g3 with ⟨e5, _⟩ | ⟨a, len, cap, _, _, _, _, e5, _⟩
      · simp at e5
        subst e5
        exact ⟨⟨N, B, R, T, S, none, 0, 0, E⟩, rfl, int64_wf w0, fun _ => ⟨[], SlOf.nil _ _ _, by simp⟩⟩
      · simp at e5
        subst e5
        exact ⟨⟨N, B, R, T, S, some a, len, cap, E⟩, rfl, int64_wf w0, fun hl => hits_open hl g3⟩
end

/-- An act's eight cells. -/
def encA (p : Int × ItemV) (j : Nat) : Value := if j = 0 then .int .i64 p.1 else p.2.cell (j - 1)
section
variable {H : Type} {enc : TypeId × Value → H} {w : World} {base : Nat} {spare : Nat → Bool} {held : Bool}
theorem act_open {cs : List Value} {fuel : Nat} {x : DataW H × List MemPlace} (h : DataW.trod enc Try.prog w base spare held fuel 45 cs = some x) :
    ∃ p : Int × ItemV, cs = (List.range 8).map (encA p) ∧ in64 p.1 ∧ in64 p.2.N ∧ (p.2.hl ≤ 100 → HasHits w p.2) := by
  obtain ⟨xs, n, _, _, hlen, hxl, hf⟩ := DataW.trod_struct Try.underlying45 h
  have hc8 : cs.length = 8 := by rw [hlen]; kernel_rfl
  have k3 : Try.prog.cellsOf 3 = 1 := by kernel_rfl
  have ki : Try.prog.cellsOf 34 = 7 := by kernel_rfl
  have hx2 : xs.length = 2 := by rw [hxl]; rfl
  match cs, hc8, xs, hx2 with
  | [v0, v1, v2, v3, v4, v5, v6, v7], _, [x0, x1], _ =>
    have g0 := hf 0 _ rfl
    have g1 := hf 1 _ rfl
    simp [k3, ki] at g0 g1
    obtain ⟨K, e0, _, w0⟩ := DataW.trod_int Try.underlying3 g0
    obtain ⟨y, e1, hy, hh⟩ := item_open g1
    simp at e0
    subst e0
    refine ⟨(K, y), ?_, int64_wf w0, hy, hh⟩
    rw [e1]; rfl

theorem acts_open {a : Option Addr} {len cap : Nat} {x : DataW H × List MemPlace} (hl : len ≤ 100)
    (h : ∃ fuel, DataW.trod enc Try.prog w base spare held fuel 39 (Value.slice a len cap).cells.toList = some x) :
    ∃ l : List (Int × ItemV), l.length = len ∧ SlOf 8 encA w (.slice a len cap) l ∧ ∀ p ∈ l, in64 p.1 ∧ in64 p.2.N ∧ (p.2.hl ≤ 100 → HasHits w p.2) := by
  obtain ⟨fuel, hf⟩ := h
  rcases Deep.open_slice Try.underlying39 hf with ⟨hcs, _⟩ | ⟨a', len', cap', m, n, D, Pl, hcs, _, hlc, hcm, hm, _, hx⟩
  · simp [Value.cells] at hcs
    obtain ⟨rfl, rfl, rfl⟩ := hcs
    exact ⟨[], rfl, SlOf.nil _ _ _, by simp⟩
  · simp [Value.cells] at hcs
    obtain ⟨rfl, rfl, rfl⟩ := hcs
    have hlm : len ≤ m := by rw [hm]; split <;> omega
    have k8 : Try.prog.cellsOf 45 = 8 := by kernel_rfl
    have hv : ∀ i, i < len → ∃ p : Int × ItemV, w.cells? base (a'.add (i * 8)) 8 = some ((List.range 8).map (encA p)) ∧ in64 p.1 ∧ in64 p.2.N ∧ (p.2.hl ≤ 100 → HasHits w p.2) := by
      intro i hi
      obtain ⟨cs, h1, h2⟩ := hx i (by omega)
      obtain ⟨p, rfl, r⟩ := act_open h2
      rw [k8] at h1
      exact ⟨p, h1, r⟩
    have hq : ∃ q : Nat → Int × ItemV, ∀ i, i < len → w.cells? base (a'.add (i * 8)) 8 = some ((List.range 8).map (encA (q i))) ∧ in64 (q i).1 ∧ in64 (q i).2.N ∧ ((q i).2.hl ≤ 100 → HasHits w (q i).2) := by
      refine ⟨fun i => if h : i < len then Classical.choose (hv i h) else (0, zeroI), fun i hi => ?_⟩
      simp only [dif_pos hi]
      exact Classical.choose_spec (hv i hi)
    obtain ⟨q, hq⟩ := hq
    have hcell : ∀ i, i < len → ∀ j, j < 8 → w.cell? ((a'.add (i * 8)).add j) = some (encA (q i) j) := by
      intro i hi j hj
      obtain ⟨_, _, hc⟩ := World.cells?_some (hq i hi).1
      have := hc j hj
      simpa [hj] using this
    refine ⟨(List.range len).map q, by simp, ⟨some a', cap, by simp, ⟨by simpa using hlc, (fun h => by cases h)⟩, by simp; omega, fun h0 => ?_⟩, ?_⟩
    · obtain ⟨b, off, spot⟩ := a'
      simp at h0
      have h1 := hcell 0 h0 0 (by omega)
      have hsp : spot = none := by simpa [Addr.add] using World.cell?_spot h1
      subst hsp
      refine ⟨b, off, rfl, fun i p hp j hj => ?_⟩
      have hi : i < len := by
        rcases Nat.lt_or_ge i len with h | h
        · exact h
        · rw [List.getElem?_eq_none (by simpa using h)] at hp; cases hp
      simp [hi] at hp
      subst hp
      have := hcell i hi j hj
      have hadd : ∀ o k, (⟨b, o, none⟩ : Addr).add k = ⟨b, o + k, none⟩ := by intro o k; unfold Addr.add; split <;> simp_all
      rw [hadd, hadd] at this
      exact this
    · intro p hp
      obtain ⟨i, hi, rfl⟩ := List.mem_map.1 hp
      exact (hq i (by simpa using hi)).2
end
end Go.Proofs.Ytibfioekmpnkgaa
