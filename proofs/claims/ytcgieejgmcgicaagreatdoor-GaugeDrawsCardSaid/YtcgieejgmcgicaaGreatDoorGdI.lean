/-
  GaugeDraws: a row of numbers that came in, opened; the law whole, for whatever came in.
-/
import Derived.Test.YtcgieejgmcgicaaGreatDoorGdH
import Derived.Deep.Slices
import Derived.ChangeArms
namespace Go.Proofs.YtcgieejgmcgicaaGreatDoor
open Go.RowKit
set_option linter.unusedVariables false
set_option linter.unusedSimpArgs false
set_option maxRecDepth 100000

set_option maxHeartbeats 4000000 in
theorem draws_many (a : Option Addr) (n cap : Nat) (w : World) (hl : ¬ n ≤ 30) :
    Calls Tryz.prog 8 #[.slice a n cap] w fun e w' => e = .returned (.bool true) ∧ Keeps (fun _ => False) w w' := by
  have hd : decide ((30 : Int) < (n : Int)) = true := by simp; omega
  go_enter Tryz.func8, Tryz.ntmps8
  go_wp2_with fail
  refine (awake30 _).mono ?_
  rintro e w1 ⟨rfl, k1⟩
  go_wp2_with fail
  refine (awake30 _).mono ?_
  rintro e w2 ⟨rfl, k2⟩
  go_wp2_with fail
  go_ret
  exact ⟨rfl, k1.trans k2⟩
section
variable {H : Type} {enc : TypeId × Value → H} {w : World} {base : Nat} {spare : Nat → Bool} {held : Bool}
theorem ints_open {a : Option Addr} {len cap : Nat} {x : DataW H × List MemPlace} (hl : len ≤ 30)
    (h : ∃ fuel, DataW.trod enc Tryz.prog w base spare held fuel 23 (Value.slice a len cap).cells.toList = some x) :
    ∃ l : List Int, l.length = len ∧ ISl w (.slice a len cap) l ∧ ∀ m ∈ l, in64 m := by
  obtain ⟨fuel, hf⟩ := h
  rcases Deep.open_slice Tryz.underlying23 hf with ⟨hcs, _⟩ | ⟨a', len', cap', m, n, D, Pl, hcs, _, hlc, hcm, hm, _, hx⟩
  · simp [Value.cells] at hcs
    obtain ⟨rfl, rfl, rfl⟩ := hcs
    exact ⟨[], rfl, SlOf.nil _ _ _, by simp⟩
  · simp [Value.cells] at hcs
    obtain ⟨rfl, rfl, rfl⟩ := hcs
    have hlm : len ≤ m := by rw [hm]; split <;> omega
    have k1 : Tryz.prog.cellsOf 3 = 1 := by kernel_rfl
    have hv : ∀ i, i < len → ∃ p : Int, w.cells? base (a'.add (i * 1)) 1 = some [.int .i64 p] ∧ in64 p := by
      intro i hi
      obtain ⟨cs, h1, h2⟩ := hx i (by omega)
      obtain ⟨p, rfl, _, r⟩ := DataW.trod_int Tryz.underlying3 h2
      rw [k1] at h1
      refine ⟨p, h1, ?_⟩
      have e1 : IntKind.i64.min = -9223372036854775808 := by decide
      have e2 : IntKind.i64.max = 9223372036854775807 := by decide
      simp [Lit.wf] at r
      unfold in64; omega
    have hq : ∃ q : Nat → Int, ∀ i, i < len → w.cells? base (a'.add (i * 1)) 1 = some [.int .i64 (q i)] ∧ in64 (q i) := by
      refine ⟨fun i => if h : i < len then Classical.choose (hv i h) else default, fun i hi => ?_⟩
      simp only [dif_pos hi]
      exact Classical.choose_spec (hv i hi)
    obtain ⟨q, hq⟩ := hq
    have hcell : ∀ i, i < len → w.cell? ((a'.add (i * 1)).add 0) = some (.int .i64 (q i)) := by
      intro i hi
      obtain ⟨_, _, hc⟩ := World.cells?_some (hq i hi).1
      have := hc 0 (by omega)
      simpa using this
    refine ⟨(List.range len).map q, by simp, ⟨some a', cap, by simp, ⟨by simpa using hlc, (fun h => by cases h)⟩, by simp; omega, fun h0 => ?_⟩, ?_⟩
    · obtain ⟨b, off, spot⟩ := a'
      simp at h0
      have h1 := hcell 0 h0
      have hsp : spot = none := by simpa [Addr.add] using World.cell?_spot h1
      subst hsp
      refine ⟨b, off, rfl, fun i p hp j hj => ?_⟩
      have hi : i < len := by
        rcases Nat.lt_or_ge i len with h | h
        · exact h
        · rw [List.getElem?_eq_none (by simpa using h)] at hp; cases hp
      simp [hi] at hp
      subst hp
      have := hcell i hi
      have hadd : ∀ o k, (⟨b, o, none⟩ : Addr).add k = ⟨b, o + k, none⟩ := by intro o k; unfold Addr.add; split <;> simp_all
      rw [hadd, hadd] at this
      obtain rfl : j = 0 := by omega
      exact this
    · intro p hp
      obtain ⟨i, hi, rfl⟩ := List.mem_map.1 hp
      exact (hq i (by simpa using hi)).2
theorem draws_row {a : Option Addr} {len cap : Nat} {x : DataW H × List MemPlace} (ht : TabW w)
    (h : ∃ fuel, DataW.trod enc Tryz.prog w base spare held fuel 23 (Value.slice a len cap).cells.toList = some x) :
    Calls Tryz.prog 8 #[.slice a len cap] w fun e w' => e = .returned (.bool true) ∧ Keeps (fun _ => False) w w' := by
  by_cases hl : len ≤ 30
  · obtain ⟨l, hll, hm, hs⟩ := ints_open hl h
    exact draws_law l _ w hm hs ht
  · exact draws_many a len cap w hl
end
end Go.Proofs.YtcgieejgmcgicaaGreatDoor
