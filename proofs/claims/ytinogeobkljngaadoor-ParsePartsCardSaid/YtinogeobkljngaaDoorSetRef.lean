/-
  The walks of the document's own words on sets (reedbedref08): Has, Same, Right, Ends.
-/
import Derived.Test.YtinogeobkljngaaDoorSl
import Derived.Test.YtinogeobkljngaaDoorSetPlain
import Derived.Test.YtinogeobkljngaaDoorRows
import Derived.Deep.QuietTactic
import Derived.BigQuiet
import Derived.Deep.RegionWith
namespace Go.Proofs.YtinogeobkljngaaDoor
open Go.RowKit
set_option linter.unusedVariables false
set_option linter.unusedSimpArgs false
set_option maxRecDepth 100000

/-- A range's two cells. -/
def encR (p : Int × Int) (j : Nat) : Value := if j = 0 then .int .i64 p.1 else .int .i64 p.2
/-- v reads as the ranges l, whose ends are of 64 bits. -/
def RSl (w : World) (v : Value) (l : List (Int × Int)) : Prop := SlOf 2 encR w v l ∧ ∀ p ∈ l, in64 p.1 ∧ in64 p.2
theorem RSl.cells {w : World} {v : Value} {l : List (Int × Int)} (h : RSl w v l) : ∃ a cap, v = .slice a l.length cap ∧ l.length ≤ 4611686018427387904 ∧
    (0 < l.length → ∃ b off, a = some ⟨b, off, none⟩ ∧ ∀ i (p : Int × Int), l[i]? = some p → w.cell? ⟨b, off + i * 2, none⟩ = some (.int .i64 p.1) ∧ w.cell? ⟨b, off + i * 2 + 1, none⟩ = some (.int .i64 p.2) ∧ in64 p.1 ∧ in64 p.2) := by
  obtain ⟨⟨a, cap, rfl, ⟨hl, hln⟩, hl2, hc⟩, hr⟩ := h
  refine ⟨a, cap, rfl, hl2, fun h0 => ?_⟩
  obtain ⟨b, off, rfl, hcc⟩ := hc h0
  exact ⟨b, off, rfl, fun i p hp => ⟨hcc i p hp 0 (by omega), hcc i p hp 1 (by omega), hr p (List.mem_of_getElem? hp)⟩⟩

theorem take_snoc_of {α : Type} {l : List α} {i : Nat} {x : α} (h : l[i]? = some x) : l.take (i + 1) = l.take i ++ [x] := by rw [List.take_add_one, h]; rfl

theorem refSame_any (a b : List (Int × Int)) (v u : Value) (w : World) (ha : RSl w v a) (hb : RSl w u b) :
    Calls Tryd.prog 20 #[v, u] w fun e w' => e = .returned (.bool (decide (a = b))) ∧ ∃ n, w' = w.drewN n := by
  obtain ⟨aa, ca, rfl, hla, hca⟩ := ha.cells
  obtain ⟨ab, cb, rfl, hlb, hcb⟩ := hb.cells
  clear ha hb
  by_cases hlen : a.length = b.length
  · have Hca := Lib.hid hca
    have Hcb := Lib.hid hcb
    clear hca hcb
    have hne : ((a.length : Int) != (b.length : Int)) = false := by simp [hlen]
    have Hlen := Lib.hid hlen
    clear hlen
    go_enter Tryd.func20, Tryd.ntmps20
    go_wp2_with fail
    go_loopw [5] (fun iv wr => ∃ (i n : Nat), iv = .int .i64 i ∧ i ≤ a.length ∧ a.take i = b.take i ∧ wr = w.drewN n) (fun iv _ => a.length - (intOf iv).toNat)
    case atStart => exact ⟨0, 0, rfl, Nat.zero_le _, rfl, rfl⟩
    case round =>
      obtain ⟨i, n, rfl, hi, heq, rfl⟩ := hrel
      have Heq := Lib.hid heq
      clear heq
      by_cases hil : i < a.length
      · have hib : i < b.length := by have := Hlen.out; omega
        obtain ⟨x, ox, rfl, hcx⟩ := Hca.out (by omega)
        obtain ⟨y, oy, rfl, hcy⟩ := Hcb.out (by omega)
        obtain ⟨p, hp⟩ : ∃ p, a[i]? = some p := ⟨_, List.getElem?_eq_getElem hil⟩
        obtain ⟨q, hq⟩ : ∃ q, b[i]? = some q := ⟨_, List.getElem?_eq_getElem hib⟩
        obtain ⟨c0, c1, _, _⟩ := hcx i p hp
        obtain ⟨d0, d1, _, _⟩ := hcy i q hq
        have hsa := take_snoc_of hp
        have hsb := take_snoc_of hq
        have HS := Lib.hid (And.intro (And.intro hp hq) (And.intro hsa hsb))
        clear hcx hcy hp hq hsa hsb
        by_cases hpq : p = q
        · subst hpq
          go_wp2_with fail
          go_quiet (fail)
          go_wp2_with fail
          go_roundw
          case rel => exact ⟨i + 1, _, by go_num, by omega, by rw [HS.out.2.1, HS.out.2.2, Heq.out], rfl⟩
          case measure => simp [intOf]; omega
        · have hfin : decide (a = b) = false := by
            simp only [decide_eq_false_iff_not]; intro e; subst e
            exact hpq (Option.some.inj (HS.out.1.1.symm.trans HS.out.1.2))
          have Hfin := Lib.hid hfin
          have Hpq := Lib.hid hpq
          clear hpq hfin
          by_cases h1 : p.1 = q.1
          · have e1 : (p.1 == q.1) = true := by simp [h1]
            have e2 : (p.2 == q.2) = false := by simp only [beq_eq_false_iff_ne]; intro h2; exact Hpq.out (Prod.ext h1 h2)
            clear h1
            go_wp2_with fail
            go_quiet (fail)
            go_wp2_with fail
            go_ret
            exact ⟨by rw [Hfin.out]; rfl, _, World.drewN_drewN _ _ _⟩
          · have e1 : (p.1 == q.1) = false := by simp [h1]
            clear h1
            go_wp2_with fail
            go_quiet (fail)
            go_wp2_with fail
            go_ret
            exact ⟨by rw [Hfin.out]; rfl, _, World.drewN_drewN _ _ _⟩
      · go_wp2_with fail
        go_ret
        have h1 := Heq.out
        have h2 := Hlen.out
        rw [List.take_of_length_le (by omega), List.take_of_length_le (by omega)] at h1
        exact ⟨by simp [h1], _, rfl⟩
  · have hne : ((a.length : Int) != (b.length : Int)) = true := by simp; omega
    have : decide (a = b) = false := by simp; intro h; exact hlen (by rw [h])
    rw [this]
    go_enter Tryd.func20, Tryd.ntmps20
    go_wp2_with fail
    go_ret
    exact ⟨rfl, 0, rfl⟩

end Go.Proofs.YtinogeobkljngaaDoor
