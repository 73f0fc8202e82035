/-
  TraceRows: marks that came in, opened; the law whole, for whatever came in.
-/
import Derived.Test.YtcgieejgmcgicaaGreatDoorTrE
import Derived.Deep.SlicePairs
import Derived.ChangeArms
import Derived.Deep.Strs
namespace Go.Proofs.YtcgieejgmcgicaaGreatDoor
open Go.RowKit
set_option linter.unusedVariables false
set_option linter.unusedSimpArgs false
set_option maxRecDepth 100000

set_option maxHeartbeats 4000000 in
theorem rows_many (a : Option Addr) (n cap : Nat) (nm : ByteArray) (w : World) (hl : ¬ n ≤ 200) :
    Calls Tryz.prog 6 #[.slice a n cap, .string nm] w fun e w' => e = .returned (.bool true) ∧ Keeps (fun _ => False) w w' := by
  have hd : decide ((200 : Int) < (n : Int)) = true := by simp; omega
  go_enter Tryz.func6, Tryz.ntmps6
  go_wp2_with fail
  refine (awake26 _).mono ?_
  rintro e w1 ⟨rfl, k1⟩
  go_wp2_with fail
  refine (awake26 _).mono ?_
  rintro e w2 ⟨rfl, k2⟩
  go_wp2_with fail
  go_ret
  exact ⟨rfl, k1.trans k2⟩

section
variable {H : Type} {enc : TypeId × Value → H} {w : World} {base : Nat} {spare : Nat → Bool} {held : Bool}
theorem mark_open {cs : List Value} {fuel : Nat} {x : DataW H × List MemPlace} (h : DataW.trod enc Tryz.prog w base spare held fuel 119 cs = some x) :
    ∃ m : Mk, cs = (List.range 3).map (encM m) ∧ m.who.size ≤ maxLen := by
  obtain ⟨xs, n, _, _, hlen, hxl, hf⟩ := DataW.trod_struct Tryz.underlying119 h
  have hc3 : cs.length = 3 := by rw [hlen]; kernel_rfl
  have k3 : Tryz.prog.cellsOf 3 = 1 := by kernel_rfl
  have ks : Tryz.prog.cellsOf 9 = 1 := by kernel_rfl
  have ke : Tryz.prog.cellsOf 54 = 1 := by kernel_rfl
  have hx3 : xs.length = 3 := by rw [hxl]; rfl
  match cs, hc3, xs, hx3 with
  | [v0, v1, v2], _, [x0, x1, x2], _ =>
    have g0 := hf 0 _ rfl
    have g1 := hf 1 _ rfl
    have g2 := hf 2 _ rfl
    simp [k3, ks, ke] at g0 g1 g2
    obtain ⟨s, e0, _, hs⟩ := DataW.trod_string Tryz.underlying9 g0
    obtain ⟨b, e1, _, _⟩ := DataW.trod_int Tryz.underlying3 g1
    obtain ⟨c, e2, _, _⟩ := DataW.trod_int Tryz.underlying54 g2
    simp at e0 e1 e2
    subst e0 e1 e2
    exact ⟨⟨s, b, c⟩, rfl, hs⟩

theorem marks_open {a : Option Addr} {len cap : Nat} {x : DataW H × List MemPlace} (hl : len ≤ 200)
    (h : ∃ fuel, DataW.trod enc Tryz.prog w base spare held fuel 64 (Value.slice a len cap).cells.toList = some x) :
    ∃ l : List Mk, l.length = len ∧ MSl w (.slice a len cap) l ∧ ∀ m ∈ l, m.who.size ≤ maxLen := by
  obtain ⟨fuel, hf⟩ := h
  rcases Deep.open_slice Tryz.underlying64 hf with ⟨hcs, _⟩ | ⟨a', len', cap', m, n, D, Pl, hcs, _, hlc, hcm, hm, _, hx⟩
  · simp [Value.cells] at hcs
    obtain ⟨rfl, rfl, rfl⟩ := hcs
    exact ⟨[], rfl, SlOf.nil _ _ _, by simp⟩
  · simp [Value.cells] at hcs
    obtain ⟨rfl, rfl, rfl⟩ := hcs
    have hlm : len ≤ m := by rw [hm]; split <;> omega
    have k3 : Tryz.prog.cellsOf 119 = 3 := by kernel_rfl
    have hv : ∀ i, i < len → ∃ p : Mk, w.cells? base (a'.add (i * 3)) 3 = some ((List.range 3).map (encM p)) ∧ p.who.size ≤ maxLen := by
      intro i hi
      obtain ⟨cs, h1, h2⟩ := hx i (by omega)
      obtain ⟨p, rfl, r⟩ := mark_open h2
      rw [k3] at h1
      exact ⟨p, h1, r⟩
    have hq : ∃ q : Nat → Mk, ∀ i, i < len → w.cells? base (a'.add (i * 3)) 3 = some ((List.range 3).map (encM (q i))) ∧ (q i).who.size ≤ maxLen := by
      refine ⟨fun i => if h : i < len then Classical.choose (hv i h) else default, fun i hi => ?_⟩
      simp only [dif_pos hi]
      exact Classical.choose_spec (hv i hi)
    obtain ⟨q, hq⟩ := hq
    have hcell : ∀ i, i < len → ∀ j, j < 3 → w.cell? ((a'.add (i * 3)).add j) = some (encM (q i) j) := by
      intro i hi j hj
      obtain ⟨_, _, hc⟩ := World.cells?_some (hq i hi).1
      have := hc j hj
      simpa [hj] using this
    refine ⟨(List.range len).map q, by simp, ⟨some a', cap, by simp, ⟨by simpa using hlc, (fun h => by cases h)⟩, by simp; omega, fun h0 => ?_⟩, ?_⟩
    · obtain ⟨b, off, spot⟩ := a'
      simp at h0
      have h1 := hcell 0 h0 0 (by omega)
      have hsp : spot = none := by simpa [Addr.add] using World.cell?_spot h1
      subst hsp
      refine ⟨b, off, rfl, fun i p hp j hj => ?_⟩
      have hi : i < len := by
        rcases Nat.lt_or_ge i len with h | h
        · exact h
        · rw [List.getElem?_eq_none (by simpa using h)] at hp; cases hp
      simp [hi] at hp
      subst hp
      have := hcell i hi j hj
      have hadd : ∀ o k, (⟨b, o, none⟩ : Addr).add k = ⟨b, o + k, none⟩ := by intro o k; unfold Addr.add; split <;> simp_all
      rw [hadd, hadd] at this
      exact this
    · intro p hp
      obtain ⟨i, hi, rfl⟩ := List.mem_map.1 hp
      exact (hq i (by simpa using hi)).2
theorem rows_law {a : Option Addr} {len cap : Nat} {x : DataW H × List MemPlace} (nm : ByteArray) (hnm : nm.size ≤ maxLen)
    (h : ∃ fuel, DataW.trod enc Tryz.prog w base spare held fuel 64 (Value.slice a len cap).cells.toList = some x) :
    Calls Tryz.prog 6 #[.slice a len cap, .string nm] w fun e w' => e = .returned (.bool true) ∧ Keeps (fun _ => False) w w' := by
  by_cases hl : len ≤ 200
  · obtain ⟨l, hll, hm, hs⟩ := marks_open hl h
    exact rows_short l _ nm w hm hs hnm (by omega)
  · exact rows_many a len cap nm w hl
end
end Go.Proofs.YtcgieejgmcgicaaGreatDoor
