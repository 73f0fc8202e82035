/-
  The walks of the document's own words on sets (reedbedref08): Has, Same, Right, Ends.
-/
import Derived.Test.YtibfioekmpnkgaaSl
import Derived.Test.YtibfioekmpnkgaaSetPlain
import Derived.Test.YtibfioekmpnkgaaRows
import Derived.Deep.QuietTactic
import Derived.BigQuiet
import Derived.Deep.RegionWith
namespace Go.Proofs.Ytibfioekmpnkgaa
open Go.RowKit
set_option linter.unusedVariables false
set_option linter.unusedSimpArgs false
set_option maxRecDepth 100000

/-- A range's two cells. -/
def encR (p : Int × Int) (j : Nat) : Value := if j = 0 then .int .i64 p.1 else .int .i64 p.2
/-- v reads as the ranges l, whose ends are of 64 bits. -/
def RSl (w : World) (v : Value) (l : List (Int × Int)) : Prop := SlOf 2 encR w v l ∧ ∀ p ∈ l, in64 p.1 ∧ in64 p.2
theorem RSl.cells {w : World} {v : Value} {l : List (Int × Int)} (h : RSl w v l) : ∃ a cap, v = .slice a l.length cap ∧ l.length ≤ 4611686018427387904 ∧
    (0 < l.length → ∃ b off, a = some ⟨b, off, none⟩ ∧ ∀ i (p : Int × Int), l[i]? = some p → w.cell? ⟨b, off + i * 2, none⟩ = some (.int .i64 p.1) ∧ w.cell? ⟨b, off + i * 2 + 1, none⟩ = some (.int .i64 p.2) ∧ in64 p.1 ∧ in64 p.2) := by
  obtain ⟨⟨a, cap, rfl, ⟨hl, hln⟩, hl2, hc⟩, hr⟩ := h
  refine ⟨a, cap, rfl, hl2, fun h0 => ?_⟩
  obtain ⟨b, off, rfl, hcc⟩ := hc h0
  exact ⟨b, off, rfl, fun i p hp => ⟨hcc i p hp 0 (by omega), hcc i p hp 1 (by omega), hr p (List.mem_of_getElem? hp)⟩⟩

theorem refHas_any (l : List (Int × Int)) (v : Value) (r : Int) (w : World) (h : RSl w v l) :
    Calls Try.prog 30 #[v, .int .i64 r] w fun e w' => e = .returned (.bool (has l r)) ∧ w = w' := by
  obtain ⟨a, cap, rfl, hl, hc⟩ := h.cells
  have Hc := Lib.hid hc
  clear hc h
  go_enter Try.func30, Try.ntmps30
  go_wp2_with fail
  go_loop [5] (fun iv => ∃ i : Nat, iv = .int .i64 i ∧ i ≤ l.length ∧ has (l.take i) r = false) (fun iv => l.length - (intOf iv).toNat)
  case atStart => exact ⟨0, rfl, Nat.zero_le _, rfl⟩
  case round =>
    obtain ⟨i, rfl, hi, hno⟩ := hrel
    have Hno := Lib.hid hno
    clear hno
    by_cases hil : i < l.length
    · obtain ⟨b, off, rfl, hcc⟩ := Hc.out (by omega)
      obtain ⟨p, hp⟩ : ∃ p, l[i]? = some p := ⟨_, List.getElem?_eq_getElem hil⟩
      obtain ⟨c0, c1, _, _⟩ := hcc i p hp
      clear hcc
      have hsn : l.take (i + 1) = l.take i ++ [p] := by rw [List.take_add_one, hp]; rfl
      have Hp := Lib.hid hp
      have Hsn := Lib.hid hsn
      clear hp hsn
      by_cases h1 : p.1 ≤ r ∧ r ≤ p.2 ∧ 0 ≤ r ∧ r ≤ 1114111
      · obtain ⟨a1, a2, a3, a4⟩ := h1
        go_wp2_with fail
        go_ret
        refine ⟨?_, rfl⟩
        have : has l r = true := by
          unfold has; rw [Bool.and_eq_true, mem_iff]
          exact ⟨⟨p, List.mem_of_getElem? Hp.out, a1, a2⟩, by simp [inAll, a3, a4]⟩
        rw [this]; rfl
      · have hgo : has (l.take (i + 1)) r = false := by
          rw [Hsn.out]; unfold has; rw [mem_append, mem_one]
          have h0 := Hno.out
          unfold has at h0
          by_cases hin : p.1 ≤ r ∧ r ≤ p.2
          · have : inAll r = false := by simp [inAll]; omega
            simp [this]
          · have : (decide (p.1 ≤ r) && decide (r ≤ p.2)) = false := by simp; omega
            rw [this, Bool.or_false]; exact h0
        by_cases g1 : p.1 ≤ r
        · by_cases g2 : r ≤ p.2
          · by_cases g3 : 0 ≤ r
            · have g4 : 1114111 < r := by omega
              go_wp2_with fail
              go_round
              case rel => exact ⟨i + 1, by go_num, by omega, hgo⟩
              case measure => simp [intOf]; omega
            · go_wp2_with fail
              go_round
              case rel => exact ⟨i + 1, by go_num, by omega, hgo⟩
              case measure => simp [intOf]; omega
          · go_wp2_with fail
            go_round
            case rel => exact ⟨i + 1, by go_num, by omega, hgo⟩
            case measure => simp [intOf]; omega
        · go_wp2_with fail
          go_round
          case rel => exact ⟨i + 1, by go_num, by omega, hgo⟩
          case measure => simp [intOf]; omega
    · go_wp2_with fail
      go_ret
      have h0 := Hno.out
      rw [List.take_of_length_le (by omega)] at h0
      exact ⟨by rw [h0]; rfl, rfl⟩

theorem take_snoc_of {α : Type} {l : List α} {i : Nat} {x : α} (h : l[i]? = some x) : l.take (i + 1) = l.take i ++ [x] := by rw [List.take_add_one, h]; rfl

theorem refSame_any (a b : List (Int × Int)) (v u : Value) (w : World) (ha : RSl w v a) (hb : RSl w u b) :
    Calls Try.prog 28 #[v, u] w fun e w' => e = .returned (.bool (decide (a = b))) ∧ ∃ n, w' = w.drewN n := by
  obtain ⟨aa, ca, rfl, hla, hca⟩ := ha.cells
  obtain ⟨ab, cb, rfl, hlb, hcb⟩ := hb.cells
  clear ha hb
  by_cases hlen : a.length = b.length
  · have Hca := Lib.hid hca
    have Hcb := Lib.hid hcb
    clear hca hcb
    have hne : ((a.length : Int) != (b.length : Int)) = false := by simp [hlen]
    have Hlen := Lib.hid hlen
    clear hlen
    go_enter Try.func28, Try.ntmps28
    go_wp2_with fail
    go_loopw [5] (fun iv wr => ∃ (i n : Nat), iv = .int .i64 i ∧ i ≤ a.length ∧ a.take i = b.take i ∧ wr = w.drewN n) (fun iv _ => a.length - (intOf iv).toNat)
    case atStart => exact ⟨0, 0, rfl, Nat.zero_le _, rfl, rfl⟩
    case round =>
      obtain ⟨i, n, rfl, hi, heq, rfl⟩ := hrel
      have Heq := Lib.hid heq
      clear heq
      by_cases hil : i < a.length
      · have hib : i < b.length := by have := Hlen.out; omega
        obtain ⟨x, ox, rfl, hcx⟩ := Hca.out (by omega)
        obtain ⟨y, oy, rfl, hcy⟩ := Hcb.out (by omega)
        obtain ⟨p, hp⟩ : ∃ p, a[i]? = some p := ⟨_, List.getElem?_eq_getElem hil⟩
        obtain ⟨q, hq⟩ : ∃ q, b[i]? = some q := ⟨_, List.getElem?_eq_getElem hib⟩
        obtain ⟨c0, c1, _, _⟩ := hcx i p hp
        obtain ⟨d0, d1, _, _⟩ := hcy i q hq
        have hsa := take_snoc_of hp
        have hsb := take_snoc_of hq
        have HS := Lib.hid (And.intro (And.intro hp hq) (And.intro hsa hsb))
        clear hcx hcy hp hq hsa hsb
        by_cases hpq : p = q
        · subst hpq
          go_wp2_with fail
          go_quiet (fail)
          go_wp2_with fail
          go_roundw
          case rel => exact ⟨i + 1, _, by go_num, by omega, by rw [HS.out.2.1, HS.out.2.2, Heq.out], rfl⟩
          case measure => simp [intOf]; omega
        · have hfin : decide (a = b) = false := by
            simp only [decide_eq_false_iff_not]; intro e; subst e
            exact hpq (Option.some.inj (HS.out.1.1.symm.trans HS.out.1.2))
          have Hfin := Lib.hid hfin
          have Hpq := Lib.hid hpq
          clear hpq hfin
          by_cases h1 : p.1 = q.1
          · have e1 : (p.1 == q.1) = true := by simp [h1]
            have e2 : (p.2 == q.2) = false := by simp only [beq_eq_false_iff_ne]; intro h2; exact Hpq.out (Prod.ext h1 h2)
            clear h1
            go_wp2_with fail
            go_quiet (fail)
            go_wp2_with fail
            go_ret
            exact ⟨by rw [Hfin.out]; rfl, _, World.drewN_drewN _ _ _⟩
          · have e1 : (p.1 == q.1) = false := by simp [h1]
            clear h1
            go_wp2_with fail
            go_quiet (fail)
            go_wp2_with fail
            go_ret
            exact ⟨by rw [Hfin.out]; rfl, _, World.drewN_drewN _ _ _⟩
      · go_wp2_with fail
        go_ret
        have h1 := Heq.out
        have h2 := Hlen.out
        rw [List.take_of_length_le (by omega), List.take_of_length_le (by omega)] at h1
        exact ⟨by simp [h1], _, rfl⟩
  · have hne : ((a.length : Int) != (b.length : Int)) = true := by simp; omega
    have : decide (a = b) = false := by simp; intro h; exact hlen (by rw [h])
    rw [this]
    go_enter Try.func28, Try.ntmps28
    go_wp2_with fail
    go_ret
    exact ⟨rfl, 0, rfl⟩

theorem refRight_any (l : List (Int × Int)) (v : Value) (w : World) (h : RSl w v l) :
    Calls Try.prog 26 #[v] w fun e w' => ∃ s : Bool, e = .returned (.bool s) ∧ (s = true ↔ Norm l) ∧ ∃ n, w' = w.drewN n := by
  obtain ⟨a, cap, rfl, hl, hc⟩ := h.cells
  have Hc := Lib.hid hc
  clear hc h
  go_enter Try.func26, Try.ntmps26
  go_wp2_with fail
  go_loopw [3] (fun iv wr => ∃ (i n : Nat), iv = .int .i64 i ∧ i ≤ l.length ∧ Norm (l.take i) ∧ wr = w.drewN n) (fun iv _ => l.length - (intOf iv).toNat)
  case atStart => exact ⟨0, 0, rfl, Nat.zero_le _, trivial, rfl⟩
  case round =>
    obtain ⟨i, n, rfl, hi, hno, rfl⟩ := hrel
    have Hno := Lib.hid hno
    clear hno
    by_cases hil : i < l.length
    · obtain ⟨b, off, rfl, hcc⟩ := Hc.out (by omega)
      obtain ⟨p, hp⟩ : ∃ p, l[i]? = some p := ⟨_, List.getElem?_eq_getElem hil⟩
      obtain ⟨c0, c1, ⟨ip1, ip2⟩, ⟨ip3, ip4⟩⟩ := hcc i p hp
      have hsn := take_snoc_of hp
      have hnot : ¬ Norm (l.take (i + 1)) → ¬ Norm l := by
        intro hh hn
        apply hh
        have key : ∀ (m : List (Int × Int)) (j : Nat), Norm m → Norm (m.take j) := by
          intro m
          induction m with
          | nil => intro j _; simp [Norm]
          | cons q m ih =>
            intro j hm
            cases j with
            | zero => trivial
            | succ j => exact ⟨hm.1, hm.2.1, hm.2.2.1, fun x hx => hm.2.2.2.1 x (List.mem_of_mem_take hx), ih j hm.tail⟩
        exact key l _ hn
      rw [hsn, norm_snoc] at hnot
      have hyes : (0 ≤ p.1 ∧ p.1 ≤ p.2 ∧ p.2 ≤ 1114111 ∧ ∀ q, (l.take i).getLast? = some q → q.2 + 2 ≤ p.1) → Norm (l.take (i + 1)) := by
        intro hh; rw [hsn, norm_snoc]; exact ⟨Hno.out, hh⟩
      have HS := Lib.hid (And.intro hnot hyes)
      clear hnot hyes hsn
      -- the one ahead
      have hprev : 0 < i → ∃ q : Int × Int, w.cell? ⟨b, off + (i - 1) * 2 + 1, none⟩ = some (.int .i64 q.2) ∧ (l.take i).getLast? = some q ∧ 0 ≤ q.2 ∧ q.2 ≤ 1114111 := by
        intro h0
        obtain ⟨q, hq⟩ : ∃ q, l[i - 1]? = some q := ⟨_, List.getElem?_eq_getElem (by omega)⟩
        have hlast : (l.take i).getLast? = some q := by
          have := take_snoc_of hq
          rw [show i - 1 + 1 = i by omega] at this
          rw [this]; simp
        have hm := Hno.out.rng q (List.mem_of_getLast? hlast)
        exact ⟨q, (hcc (i - 1) q hq).2.1, hlast, by omega, by omega⟩
      have hfirst : i = 0 → (l.take i).getLast? = none := by intro h; subst h; rfl
      clear hcc hp
      have Hprev := Lib.hid hprev
      have Hfirst := Lib.hid hfirst
      clear hprev hfirst
      by_cases g1 : p.1 < 0
      · go_wp2_with fail
        go_quiet (fail)
        go_wp2_with fail
        go_ret
        exact ⟨false, rfl, by simp; exact HS.out.1 (by rintro ⟨_, h, _⟩; omega), _, World.drewN_drewN _ _ _⟩
      have d1 : decide (p.1 < 0) = false := by simp; omega
      by_cases g2 : 1114111 < p.2
      · go_wp2_with fail
        go_quiet (fail)
        go_wp2_with fail
        go_ret
        exact ⟨false, rfl, by simp; exact HS.out.1 (by rintro ⟨_, _, _, h, _⟩; omega), _, World.drewN_drewN _ _ _⟩
      have d2 : decide ((1114111 : Int) < p.2) = false := by simp; omega
      by_cases g3 : p.2 < p.1
      · go_wp2_with fail
        go_quiet (fail)
        go_wp2_with fail
        go_ret
        exact ⟨false, rfl, by simp; exact HS.out.1 (by rintro ⟨_, _, h, _⟩; omega), _, World.drewN_drewN _ _ _⟩
      have d3 : decide (p.2 < p.1) = false := by simp; omega
      by_cases g4 : 0 < i
      · obtain ⟨q, cq, hlast, hq1, hq2⟩ := Hprev.out g4
        have Hlast := Lib.hid hlast
        clear hlast
        by_cases g5 : p.1 < q.2 + 2
        · go_wp2_with fail
          go_quiet (fail)
          go_wp2_with fail
          go_ret
          exact ⟨false, rfl, by simp; exact HS.out.1 (by rintro ⟨_, _, _, _, h⟩; have := h q Hlast.out; omega), _, World.drewN_drewN _ _ _⟩
        · have d5 : decide (p.1 < q.2 + 2) = false := by simp; omega
          go_wp2_with fail
          go_quiet (fail)
          go_wp2_with fail
          go_roundw
          case rel => exact ⟨i + 1, _, by go_num, by omega, HS.out.2 ⟨by omega, by omega, by omega, fun x hx => by rw [Hlast.out] at hx; cases hx; omega⟩, rfl⟩
          case measure => simp [intOf]; omega
      · have d4 : decide ((0 : Int) < (i : Int)) = false := by simp; omega
        go_wp2_with fail
        go_quiet (fail)
        go_wp2_with fail
        go_roundw
        case rel => exact ⟨i + 1, _, by go_num, by omega, HS.out.2 ⟨by omega, by omega, by omega, fun x hx => by rw [Hfirst.out (by omega)] at hx; cases hx⟩, rfl⟩
        case measure => simp [intOf]; omega
    · go_wp2_with fail
      go_ret
      have h0 := Hno.out
      rw [List.take_of_length_le (by omega)] at h0
      exact ⟨true, rfl, by simp [h0], _, rfl⟩
end Go.Proofs.Ytibfioekmpnkgaa
