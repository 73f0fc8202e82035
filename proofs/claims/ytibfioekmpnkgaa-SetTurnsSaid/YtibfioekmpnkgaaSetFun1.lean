/-
  The walks of set.Right and set.Has, and of what they call of slices.
-/
import Derived.Test.YtibfioekmpnkgaaSetOf
namespace Go.Proofs.Ytibfioekmpnkgaa
open Go.RowKit
set_option linter.unusedVariables false
set_option linter.unusedSimpArgs false
set_option maxRecDepth 100000

theorem ROwn.read {w0 w : World} {v : Value} {l : List (Int × Int)} (h : ROwn w0 w v l) (hl : l.length ≤ 4611686018427387904) (hr : ∀ p ∈ l, in64 p.1 ∧ in64 p.2) : RSl w v l := ⟨SlOf.ofOwn h.1 hl, hr⟩
theorem norm64 {l : List (Int × Int)} (h : Norm l) : ∀ p ∈ l, in64 p.1 ∧ in64 p.2 := fun p hp => by have := h.rng p hp; unfold in64; omega
theorem RSl.keep {w w' : World} {v : Value} {l : List (Int × Int)} (h : RSl w v l) (K : Keeps (fun _ => False) w w') : RSl w' v l := ⟨h.1.keep K, h.2⟩

theorem equal_any (a b : List (Int × Int)) (v u : Value) (w : World) (ha : RSl w v a) (hb : RSl w u b) :
    Calls Try.prog 48 #[v, u] w fun e w' => e = .returned (.bool (decide (a = b))) ∧ ∃ n, w' = w.drewN n := by
  obtain ⟨aa, ca, rfl, hla, hca⟩ := ha.cells
  obtain ⟨ab, cb, rfl, hlb, hcb⟩ := hb.cells
  clear ha hb
  by_cases hlen : a.length = b.length
  · have Hca := Lib.hid hca
    have Hcb := Lib.hid hcb
    clear hca hcb
    have hne : ((a.length : Int) != (b.length : Int)) = false := by simp [hlen]
    have Hlen := Lib.hid hlen
    clear hlen
    go_enter Try.func48, Try.ntmps48
    go_wp2_with fail
    go_loopw [13] (fun iv wr => ∃ (i n : Nat), iv = .int .i64 i ∧ i ≤ a.length ∧ a.take i = b.take i ∧ wr = w.drewN n) (fun iv _ => a.length - (intOf iv).toNat)
    case atStart => exact ⟨0, 0, rfl, Nat.zero_le _, rfl, rfl⟩
    case round =>
      obtain ⟨i, n, rfl, hi, heq, rfl⟩ := hrel
      have Heq := Lib.hid heq
      clear heq
      by_cases hil : i < a.length
      · have hib : i < b.length := by have := Hlen.out; omega
        obtain ⟨x, ox, rfl, hcx⟩ := Hca.out (by omega)
        obtain ⟨y, oy, rfl, hcy⟩ := Hcb.out (by omega)
        obtain ⟨p, hp⟩ : ∃ p, a[i]? = some p := ⟨_, List.getElem?_eq_getElem hil⟩
        obtain ⟨q, hq⟩ : ∃ q, b[i]? = some q := ⟨_, List.getElem?_eq_getElem hib⟩
        obtain ⟨c0, c1, _, _⟩ := hcx i p hp
        obtain ⟨d0, d1, _, _⟩ := hcy i q hq
        have hsa := take_snoc_of hp
        have hsb := take_snoc_of hq
        have HS := Lib.hid (And.intro (And.intro hp hq) (And.intro hsa hsb))
        clear hcx hcy hp hq hsa hsb
        by_cases hpq : p = q
        · subst hpq
          go_wp2_with fail
          go_quiet (fail)
          go_wp2_with fail
          go_roundw
          case rel => exact ⟨i + 1, _, by go_num, by omega, by rw [HS.out.2.1, HS.out.2.2, Heq.out], rfl⟩
          case measure => simp [intOf]; omega
        · have hfin : decide (a = b) = false := by
            simp only [decide_eq_false_iff_not]; intro e; subst e
            exact hpq (Option.some.inj (HS.out.1.1.symm.trans HS.out.1.2))
          have Hfin := Lib.hid hfin
          have Hpq := Lib.hid hpq
          clear hpq hfin
          by_cases h1 : p.1 = q.1
          · have e1 : (p.1 == q.1) = true := by simp [h1]
            have e2 : (p.2 == q.2) = false := by simp only [beq_eq_false_iff_ne]; intro h2; exact Hpq.out (Prod.ext h1 h2)
            clear h1
            go_wp2_with fail
            go_quiet (fail)
            go_wp2_with fail
            go_ret
            exact ⟨by rw [Hfin.out]; rfl, _, World.drewN_drewN _ _ _⟩
          · have e1 : (p.1 == q.1) = false := by simp [h1]
            clear h1
            go_wp2_with fail
            go_quiet (fail)
            go_wp2_with fail
            go_ret
            exact ⟨by rw [Hfin.out]; rfl, _, World.drewN_drewN _ _ _⟩
      · go_wp2_with fail
        go_ret
        have h1 := Heq.out
        have h2 := Hlen.out
        rw [List.take_of_length_le (by omega), List.take_of_length_le (by omega)] at h1
        exact ⟨by simp [h1], _, rfl⟩
  · have hne : ((a.length : Int) != (b.length : Int)) = true := by simp; omega
    have hfin : decide (a = b) = false := by simp; intro h; exact hlen (by rw [h])
    have Hfin := Lib.hid hfin
    clear hfin
    go_enter Try.func48, Try.ntmps48
    go_wp2_with fail
    go_ret
    exact ⟨by rw [Hfin.out]; rfl, 0, rfl⟩

theorem right_any (l : List (Int × Int)) (v : Value) (w : World) (h : RSl w v l) (hl : l.length ≤ 100000) :
    Calls Try.prog 27 #[v] w fun e w' => ∃ s : Bool, e = .returned (.bool s) ∧ (s = true ↔ Norm l) ∧ Keeps (fun _ => False) w w' := by
  go_enter Try.func27, Try.ntmps27
  go_wp2_with fail
  refine (of_walk l v _ h hl).mono ?_
  rintro e w1 ⟨u, out, rfl, hof, hown, hlo⟩
  go_wp2_with fail
  refine (equal_any out l u v _ (hown.read (by omega) (norm64 hof.1)) (h.keep hown.2)).mono ?_
  rintro e w2 ⟨rfl, n, rfl⟩
  go_wp2_with fail
  go_ret
  refine ⟨_, rfl, ?_, hown.2.drawN n⟩
  rw [decide_eq_true_eq]
  constructor
  · intro e; rw [← e]; exact hof.1
  · intro hn; exact hof.unique (IsOf.self hn)

theorem hasClosure (p : Int × Int) (r : Int) (c : Nat) (w : World) (hc : w.cell? ⟨c, 0, none⟩ = some (.int .i64 r)) :
    Calls Try.prog 50 #[.agg #[.int .i64 p.1, .int .i64 p.2], .pointer (some ⟨c, 0, none⟩)] w fun e w' => e = .returned (.bool (decide (p.1 ≤ r) && decide (r ≤ p.2))) ∧ Keeps (fun _ => False) w w' := by
  have hc1 : ∀ o, (w.alloc o).cell? ⟨c, 0, none⟩ = some (.int .i64 r) := alloc_cell hc
  by_cases h1 : p.1 ≤ r
  · have HV := Lib.hid (show (decide (p.1 ≤ r) && decide (r ≤ p.2)) = decide (r ≤ p.2) by simp [h1])
    go_enter Try.func50, Try.ntmps50
    go_wp2_with fail
    go_ret
    exact ⟨by first | (rw [HV.out]; rfl) | rfl, (Keeps.refl _ _).alloc _⟩
  · have HV := Lib.hid (show (decide (p.1 ≤ r) && decide (r ≤ p.2)) = false by simp [h1])
    have hd : decide (p.1 ≤ r) = false := by simpa using h1
    go_enter Try.func50, Try.ntmps50
    go_wp2_with fail
    go_ret
    exact ⟨by first | (rw [HV.out]; rfl) | rfl, (Keeps.refl _ _).alloc _⟩

theorem indexFunc_any (l : List (Int × Int)) (v : Value) (r : Int) (c : Nat) (w : World) (h : RSl w v l) (hc : w.cell? ⟨c, 0, none⟩ = some (.int .i64 r)) :
    Calls Try.prog 60 #[v, .func (.func 50) #[] #[.pointer (some ⟨c, 0, none⟩)]] w
      fun e w' => ∃ x : Int, e = .returned (.int .i64 x) ∧ (0 ≤ x ↔ mem l r = true) ∧ Keeps (fun _ => False) w w' := by
  obtain ⟨a, cap, rfl, hl, hcl⟩ := h.cells
  have Hc := Lib.hid hcl
  clear hcl h
  go_enter Try.func60, Try.ntmps60
  go_wp2_with fail
  go_loopw [8] (fun iv wr => ∃ i : Nat, iv = .int .i64 i ∧ i ≤ l.length ∧ mem (l.take i) r = false ∧ Keeps (fun _ => False) w wr) (fun iv _ => l.length - (intOf iv).toNat)
  case atStart => exact ⟨0, rfl, Nat.zero_le _, rfl, Keeps.refl _ _⟩
  case round =>
    obtain ⟨i, rfl, hi, hno, hkw⟩ := hrel
    have Hno := Lib.hid hno
    clear hno
    by_cases hil : i < l.length
    · obtain ⟨b, off, rfl, hcc⟩ := Hc.out (by omega)
      obtain ⟨p, hp⟩ : ∃ p, l[i]? = some p := ⟨_, List.getElem?_eq_getElem hil⟩
      obtain ⟨c0, c1, _, _⟩ := hcc i p hp
      have d0 := hkw.cell c0 id
      have d1 := hkw.cell c1 id
      have hcr := hkw.cell hc id
      clear hcc c0 c1
      have hsn := take_snoc_of hp
      have Hp := Lib.hid hp
      have Hsn := Lib.hid hsn
      clear hp hsn
      go_wp2_with fail
      refine (hasClosure p r c _ hcr).mono ?_
      rintro e w1 ⟨rfl, hk1⟩
      have hkw1 := hkw.trans hk1
      cases hb : (decide (p.1 ≤ r) && decide (r ≤ p.2))
      · have hgo : mem (l.take (i + 1)) r = false := by rw [Hsn.out, mem_append, mem_one, hb, Hno.out]; rfl
        clear hb
        go_wp2_with fail
        go_roundw
        case rel => exact ⟨i + 1, by go_num, by omega, hgo, hkw1⟩
        case measure => simp [intOf]; omega
      · have hyes : mem l r = true := by
          rw [mem_iff]
          rw [Bool.and_eq_true, decide_eq_true_eq, decide_eq_true_eq] at hb
          exact ⟨p, List.mem_of_getElem? Hp.out, hb.1, hb.2⟩
        have Hy := Lib.hid hyes
        clear hb hyes
        go_wp2_with fail
        go_ret
        exact ⟨i, rfl, by rw [Hy.out]; simp, hkw1⟩
    · go_wp2_with fail
      go_ret
      have h0 := Hno.out
      rw [List.take_of_length_le (by omega)] at h0
      exact ⟨-1, rfl, by rw [h0]; simp, hkw⟩

theorem containsFunc_any (l : List (Int × Int)) (v : Value) (r : Int) (c : Nat) (w : World) (h : RSl w v l) (hc : w.cell? ⟨c, 0, none⟩ = some (.int .i64 r)) :
    Calls Try.prog 49 #[v, .func (.func 50) #[] #[.pointer (some ⟨c, 0, none⟩)]] w
      fun e w' => e = .returned (.bool (mem l r)) ∧ Keeps (fun _ => False) w w' := by
  go_enter Try.func49, Try.ntmps49
  go_wp2_with fail
  refine (indexFunc_any l v r c _ h hc).mono ?_
  rintro e w1 ⟨x, rfl, hx, hk⟩
  have HX := Lib.hid (show mem l r = decide (0 ≤ x) by rw [Bool.eq_iff_iff, decide_eq_true_eq, hx])
  clear hx
  go_wp2_with fail
  go_ret
  exact ⟨by rw [HX.out]; rfl, hk⟩

theorem has_any (l : List (Int × Int)) (v : Value) (r : Int) (w : World) (h : RSl w v l) :
    Calls Try.prog 31 #[v, .int .i64 r] w fun e w' => e = .returned (.bool (has l r)) ∧ Keeps (fun _ => False) w w' := by
  by_cases h0 : 0 ≤ r
  · by_cases h1 : r ≤ 1114111
    · have HV := Lib.hid (show has l r = mem l r by unfold has; simp [inAll, h0, h1])
      go_enter Try.func31, Try.ntmps31
      go_wp2_with fail
      refine (containsFunc_any l v r w.heap.size _ ?_ ?_).mono ?_
      · exact h.keep ((Keeps.refl _ _).alloc _)
      · rw [cell_block (cs := #[.int .i64 r]) (T := 3) (fz := (0, 0)) (by show (w.heap.push _)[_]? = _; simp)]; rfl
      rintro e w1 ⟨rfl, hk⟩
      go_wp2_with fail
      go_ret
      exact ⟨by rw [HV.out]; rfl, ((Keeps.refl _ _).alloc _).trans hk⟩
    · have HV := Lib.hid (show has l r = false by unfold has; simp [inAll]; intro _ _; omega)
      have hd : decide (r ≤ 1114111) = false := by simpa using h1
      go_enter Try.func31, Try.ntmps31
      go_wp2_with fail
      go_ret
      exact ⟨by first | (rw [HV.out]; rfl) | rfl, (Keeps.refl _ _).alloc _⟩
  · have HV := Lib.hid (show has l r = false by unfold has; simp [inAll]; intro _ _; omega)
    have hd : decide (0 ≤ r) = false := by simpa using h0
    go_enter Try.func31, Try.ntmps31
    go_wp2_with fail
    go_ret
    exact ⟨by first | (rw [HV.out]; rfl) | rfl, (Keeps.refl _ _).alloc _⟩
end Go.Proofs.Ytibfioekmpnkgaa
