/-
  TraceRows: the walks of trace.Span, trace.First and of the document's words on them. No condition.
-/
import Derived.Test.YtcgieejgmcgicaaGreatDoorTrA
import Derived.Test.YtcgieejgmcgicaaGreatDoorChecked
import Derived.Deep.QuietTactic
import Derived.BigQuiet
import Derived.Deep.RegionWith
import Derived.Handy
namespace Go.Proofs.YtcgieejgmcgicaaGreatDoor
open Go.RowKit
set_option linter.unusedVariables false
set_option linter.unusedSimpArgs false
set_option maxRecDepth 100000

/-- A mark: whose step, how many lines, the cause. -/
structure Mk where
  who : ByteArray
  lines : Int
  cause : Int
instance : Inhabited Mk := ⟨⟨ByteArray.empty, 0, 0⟩⟩
def encM (m : Mk) (j : Nat) : Value := if j = 0 then .string m.who else if j = 1 then .int .i64 m.lines else .int .i64 m.cause
abbrev MSl (w : World) (v : Value) (l : List Mk) : Prop := SlOf 3 encM w v l
def whoAt (l : List Mk) (i : Nat) : ByteArray := (l.getD i default).who
def causeAt (l : List Mk) (i : Nat) : Int := (l.getD i default).cause
def isAt (l : List Mk) (nm : ByteArray) (i : Nat) : Bool := (whoAt l i).toList == nm.toList
theorem MSl.cells {w : World} {v : Value} {l : List Mk} (h : MSl w v l) : ∃ a cap, v = .slice a l.length cap ∧ l.length ≤ 4611686018427387904 ∧
    (0 < l.length → ∃ b off, a = some ⟨b, off, none⟩ ∧ b < w.heap.size ∧ ∀ i, i < l.length → w.cell? ⟨b, off + i * 3, none⟩ = some (.string (whoAt l i)) ∧ (∃ n, w.cell? ⟨b, off + i * 3 + 1, none⟩ = some (.int .i64 n)) ∧ w.cell? ⟨b, off + i * 3 + 2, none⟩ = some (.int .i64 (causeAt l i))) := by
  obtain ⟨a, cap, rfl, ⟨hl, hln⟩, hl2, hc⟩ := h
  refine ⟨a, cap, rfl, hl2, fun h0 => ?_⟩
  obtain ⟨b, off, rfl, hcc⟩ := hc h0
  have g : ∀ i (hi : i < l.length), l[i]? = some l[i] ∧ l.getD i default = l[i] := fun i hi => ⟨List.getElem?_eq_getElem hi, by simp [List.getD, List.getElem?_eq_getElem hi]⟩
  refine ⟨b, off, rfl, ?_, fun i hi => ?_⟩
  · have := hcc 0 _ (g 0 h0).1 0 (by omega)
    exact lt_of_cell this
  · obtain ⟨g1, g2⟩ := g i hi
    unfold whoAt causeAt
    rw [g2]
    exact ⟨hcc i _ g1 0 (by omega), ⟨_, hcc i _ g1 1 (by omega)⟩, hcc i _ g1 2 (by omega)⟩

set_option maxHeartbeats 1000000 in
theorem span_any (l : List Mk) (v : Value) (nm : ByteArray) (w : World) (h : MSl w v l) :
    Calls Tryz.prog 25 #[v, .string nm] w fun e w' => e = .returned (.tuple #[.int .i64 (spanU (isAt l nm) l.length).1, .int .i64 (spanU (isAt l nm) l.length).2]) ∧ Keeps (fun _ => False) w w' := by
  obtain ⟨a, cap, rfl, hl, hc⟩ := MSl.cells h
  have Hc := Lib.hid hc
  clear hc h
  go_enter Tryz.func25, Tryz.ntmps25
  go_wp2_with fail
  go_loopw [6, 7, 12] (fun f g i wr => ∃ k : Nat, k ≤ l.length ∧ i = .int .i64 k ∧ f = .int .i64 (spanU (isAt l nm) k).1 ∧ g = .int .i64 (spanU (isAt l nm) k).2 ∧ Keeps (fun _ => False) w wr) (fun _ _ i _ => l.length - (intOf i).toNat)
  case atStart => exact ⟨0, Nat.zero_le _, rfl, rfl, rfl, Keeps.refl _ _⟩
  case round =>
    obtain ⟨k, hk, rfl, rfl, rfl, hkp⟩ := hrel
    have hbd := spanU_bd (isAt l nm) k
    have Hs : Hid (spanU (isAt l nm) (k + 1) = if isAt l nm k = true then ((if (spanU (isAt l nm) k).1 < 0 then (k : Int) else (spanU (isAt l nm) k).1), (k : Int)) else spanU (isAt l nm) k) := Lib.hid rfl
    obtain ⟨F, HF⟩ : ∃ F, F = (spanU (isAt l nm) k).1 := ⟨_, rfl⟩
    obtain ⟨G, HG⟩ : ∃ G, G = (spanU (isAt l nm) k).2 := ⟨_, rfl⟩
    rw [← HF, ← HG] at hbd ⊢
    have HF' := Lib.hid HF
    have HG' := Lib.hid HG
    clear HF HG
    obtain ⟨b1, b2, b3, b4⟩ := hbd
    by_cases hlt : k < l.length
    · obtain ⟨b, off, rfl, hb, hcc⟩ := Hc.out (by omega)
      obtain ⟨c0, ⟨n, c1⟩, c2⟩ := hcc k hlt
      clear hcc
      have d0 := hkp.cell c0 id
      have d1 := hkp.cell c1 id
      have d2 := hkp.cell c2 id
      clear c0 c1 c2
      have Hq : Hid (isAt l nm k = ((whoAt l k).toList == nm.toList)) := Lib.hid rfl
      by_cases hq : (whoAt l k).toList = nm.toList
      · by_cases hf : F < 0
        · go_wp2_with fail
          go_roundw
          case rel => exact ⟨k + 1, by omega, by go_num, by rw [Hs.out, Hq.out, hq]; simp [← HF'.out, hf], by rw [Hs.out, Hq.out, hq]; simp, by (repeat' (with_reducible first | exact Keeps.refl _ _ | assumption | refine Keeps.drawN ?_ _ | refine Keeps.drew ?_ | refine Keeps.setCell ?_ ?_ _ | refine Keeps.alloc ?_ _)) <;> (first | exact Or.inr (Nat.le_refl _) | exact Or.inl rfl | exact Or.inl (Or.inl rfl) | exact Or.inl (Or.inr rfl) | (right; simp; done) | (right; simp; omega))⟩
          case measure => (simp [intOf] <;> omega)
        · go_wp2_with fail
          go_roundw
          case rel => exact ⟨k + 1, by omega, by go_num, by rw [Hs.out, Hq.out, hq]; simp [← HF'.out, hf], by rw [Hs.out, Hq.out, hq]; simp, by (repeat' (with_reducible first | exact Keeps.refl _ _ | assumption | refine Keeps.drawN ?_ _ | refine Keeps.drew ?_ | refine Keeps.setCell ?_ ?_ _ | refine Keeps.alloc ?_ _)) <;> (first | exact Or.inr (Nat.le_refl _) | exact Or.inl rfl | exact Or.inl (Or.inl rfl) | exact Or.inl (Or.inr rfl) | (right; simp; done) | (right; simp; omega))⟩
          case measure => (simp [intOf] <;> omega)
      · have hqb : ((whoAt l k).toList == nm.toList) = false := by simpa using hq
        go_wp2_with fail
        go_roundw
        case rel => exact ⟨k + 1, by omega, by go_num, by rw [Hs.out, Hq.out]; simp [hq, ← HF'.out], by rw [Hs.out, Hq.out]; simp [hq, ← HG'.out], by (repeat' (with_reducible first | exact Keeps.refl _ _ | assumption | refine Keeps.drawN ?_ _ | refine Keeps.drew ?_ | refine Keeps.setCell ?_ ?_ _ | refine Keeps.alloc ?_ _)) <;> (first | exact Or.inr (Nat.le_refl _) | exact Or.inl rfl | exact Or.inl (Or.inl rfl) | exact Or.inl (Or.inr rfl) | (right; simp; done) | (right; simp; omega))⟩
        case measure => (simp [intOf] <;> omega)
    · have : k = l.length := by omega
      subst this
      go_wp2_with fail
      go_ret2
      exact ⟨by rw [HF'.out, HG'.out]; rfl, hkp⟩

set_option maxHeartbeats 1000000 in
theorem rspan_any (l : List Mk) (v : Value) (nm : ByteArray) (w : World) (h : MSl w v l) :
    Calls Tryz.prog 26 #[v, .string nm] w fun e w' => e = .returned (.tuple #[.int .i64 (spanD (isAt l nm) l.length l.length).1, .int .i64 (spanD (isAt l nm) l.length l.length).2]) ∧ w = w' := by
  obtain ⟨a, cap, rfl, hl, hc⟩ := MSl.cells h
  have Hc := Lib.hid hc
  clear hc h
  go_enter Tryz.func26, Tryz.ntmps26
  go_wp2_with fail
  go_loop [6, 7, 8] (fun f g i => ∃ d : Nat, d ≤ l.length ∧ i = .int .i64 ((l.length : Int) - 1 - d) ∧ f = .int .i64 (spanD (isAt l nm) l.length d).1 ∧ g = .int .i64 (spanD (isAt l nm) l.length d).2) (fun _ _ i => (intOf i + 1).toNat)
  case atStart => exact ⟨0, Nat.zero_le _, by simp, rfl, rfl⟩
  case round =>
    obtain ⟨d, hd, rfl, rfl, rfl⟩ := hrel
    have hbd := spanD_bd (isAt l nm) l.length d hd
    have Hs : Hid (spanD (isAt l nm) l.length (d + 1) = if isAt l nm (l.length - 1 - d) = true then (((l.length - 1 - d : Nat) : Int), (if (spanD (isAt l nm) l.length d).2 < 0 then ((l.length - 1 - d : Nat) : Int) else (spanD (isAt l nm) l.length d).2)) else spanD (isAt l nm) l.length d) := Lib.hid rfl
    obtain ⟨F, HF⟩ : ∃ F, F = (spanD (isAt l nm) l.length d).1 := ⟨_, rfl⟩
    obtain ⟨G, HG⟩ : ∃ G, G = (spanD (isAt l nm) l.length d).2 := ⟨_, rfl⟩
    rw [← HF, ← HG] at hbd ⊢
    have HF' := Lib.hid HF
    have HG' := Lib.hid HG
    clear HF HG
    obtain ⟨b1, b2, b3, b4⟩ := hbd
    by_cases hlt : d < l.length
    · obtain ⟨i, hi⟩ : ∃ i : Nat, i = l.length - 1 - d := ⟨_, rfl⟩
      have hcast : (l.length : Int) - 1 - d = (i : Int) := by omega
      rw [hcast]
      rw [← hi] at Hs
      have Hi : Hid (d + 1 + i = l.length) := Lib.hid (by omega)
      have hil : i < l.length := by omega
      obtain ⟨b, off, rfl, hb, hcc⟩ := Hc.out (by omega)
      obtain ⟨c0, _, c2⟩ := hcc i hil
      clear hcc hi hcast
      have Hq : Hid (isAt l nm i = ((whoAt l i).toList == nm.toList)) := Lib.hid rfl
      by_cases hq : (whoAt l i).toList = nm.toList
      · by_cases hf : G < 0
        · go_wp2_with fail
          go_round
          case rel => exact ⟨d + 1, by omega, by have := Hi.out; simp; omega, by rw [Hs.out, Hq.out, hq]; simp, by rw [Hs.out, Hq.out, hq]; simp [← HG'.out, hf]⟩
          case measure => (simp [intOf] <;> omega)
        · go_wp2_with fail
          go_round
          case rel => exact ⟨d + 1, by omega, by have := Hi.out; simp; omega, by rw [Hs.out, Hq.out, hq]; simp, by rw [Hs.out, Hq.out, hq]; simp [← HG'.out, hf]⟩
          case measure => (simp [intOf] <;> omega)
      · have hqb : ((whoAt l i).toList == nm.toList) = false := by simpa using hq
        go_wp2_with fail
        go_round
        case rel => exact ⟨d + 1, by omega, by have := Hi.out; simp; omega, by rw [Hs.out, Hq.out]; simp [hq, ← HF'.out], by rw [Hs.out, Hq.out]; simp [hq, ← HG'.out]⟩
        case measure => (simp [intOf] <;> omega)
    · have hdl : d = l.length := by omega
      have hneg : (l.length : Int) - 1 - d = -1 := by omega
      rw [hneg]
      subst hdl
      go_wp2_with fail
      go_ret2
      exact ⟨by rw [HF'.out, HG'.out]; rfl, rfl⟩

set_option maxHeartbeats 1000000 in
theorem rcount_any (l : List Mk) (v : Value) (nm : ByteArray) (w : World) (h : MSl w v l) :
    Calls Tryz.prog 30 #[v, .string nm] w fun e w' => e = .returned (.int .i64 (cnt (isAt l nm) l.length)) ∧ w = w' := by
  obtain ⟨a, cap, rfl, hl, hc⟩ := MSl.cells h
  have Hc := Lib.hid hc
  clear hc h
  go_enter Tryz.func30, Tryz.ntmps30
  go_wp2_with fail
  go_loop [5, 6] (fun n i => ∃ k : Nat, k ≤ l.length ∧ i = .int .i64 k ∧ n = .int .i64 (cnt (isAt l nm) k)) (fun _ i => l.length - (intOf i).toNat)
  case atStart => exact ⟨0, Nat.zero_le _, rfl, rfl⟩
  case round =>
    obtain ⟨k, hk, rfl, rfl⟩ := hrel
    have hle := cnt_le (isAt l nm) k
    have Hs : Hid (cnt (isAt l nm) (k + 1) = cnt (isAt l nm) k + if isAt l nm k = true then 1 else 0) := Lib.hid rfl
    by_cases hlt : k < l.length
    · obtain ⟨b, off, rfl, hb, hcc⟩ := Hc.out (by omega)
      obtain ⟨c0, _, _⟩ := hcc k hlt
      clear hcc
      have Hq : Hid (isAt l nm k = ((whoAt l k).toList == nm.toList)) := Lib.hid rfl
      by_cases hq : (whoAt l k).toList = nm.toList
      · go_wp2_with fail
        go_round
        case rel => exact ⟨k + 1, by omega, by go_num, by rw [Hs.out, Hq.out, hq]; simp⟩
        case measure => (simp [intOf] <;> omega)
      · have hqb : ((whoAt l k).toList == nm.toList) = false := by simpa using hq
        go_wp2_with fail
        go_round
        case rel => exact ⟨k + 1, by omega, by go_num, by rw [Hs.out, Hq.out]; simp [hq]⟩
        case measure => (simp [intOf] <;> omega)
    · have : k = l.length := by omega
      subst this
      go_wp2_with fail
      go_ret
      exact ⟨rfl, rfl⟩

/-- The first place below n, from k on, where q holds; -1: there is none. -/
def firstN (q : Nat → Bool) (n : Nat) : Nat → Nat → Int
  | 0, _ => -1
  | f + 1, k => if k < n then (if q k = true then (k : Int) else firstN q n f (k + 1)) else -1
theorem firstN_step (q : Nat → Bool) (n f k : Nat) (hk : k < n) (hf : n - k ≤ f) : firstN q n f k = if q k = true then (k : Int) else firstN q n (f - 1) (k + 1) := by
  cases f with
  | zero => omega
  | succ f => simp only [firstN, if_pos hk]; rfl
theorem firstN_end (q : Nat → Bool) (n f k : Nat) (hk : ¬ k < n) : firstN q n f k = -1 := by
  cases f with
  | zero => rfl
  | succ f => simp only [firstN, if_neg hk]
def fallsAt (l : List Mk) (i : Nat) : Bool := causeAt l i != 0
def firstAt (l : List Mk) : Int := firstN (fallsAt l) l.length l.length 0

set_option maxHeartbeats 1000000 in
theorem rfirst_any (l : List Mk) (v : Value) (w : World) (h : MSl w v l) :
    Calls Tryz.prog 32 #[v] w fun e w' => e = .returned (.int .i64 (firstAt l)) ∧ w = w' := by
  obtain ⟨a, cap, rfl, hl, hc⟩ := MSl.cells h
  have Hc := Lib.hid hc
  clear hc h
  go_enter Tryz.func32, Tryz.ntmps32
  go_wp2_with fail
  go_loop [3] (fun i => ∃ k : Nat, k ≤ l.length ∧ i = .int .i64 k ∧ firstN (fallsAt l) l.length (l.length - k) k = firstAt l) (fun i => l.length - (intOf i).toNat)
  case atStart => exact ⟨0, Nat.zero_le _, rfl, rfl⟩
  case round =>
    obtain ⟨k, hk, rfl, hF⟩ := hrel
    have HF := Lib.hid hF
    clear hF
    by_cases hlt : k < l.length
    · obtain ⟨b, off, rfl, hb, hcc⟩ := Hc.out (by omega)
      obtain ⟨_, _, c2⟩ := hcc k hlt
      clear hcc
      have Hst := Lib.hid (firstN_step (fallsAt l) l.length (l.length - k) k hlt (Nat.le_refl _))
      have Hq : Hid (fallsAt l k = (causeAt l k != 0)) := Lib.hid rfl
      by_cases hq : causeAt l k = 0
      · go_wp2_with fail
        go_round
        case rel =>
          refine ⟨k + 1, by omega, by go_num, ?_⟩
          rw [← HF.out, Hst.out, Hq.out, hq]
          simp [Nat.sub_sub]
        case measure => (simp [intOf] <;> omega)
      · have hqb : (causeAt l k != 0) = true := by simpa using hq
        go_wp2_with fail
        go_ret
        refine ⟨?_, rfl⟩
        rw [← HF.out, Hst.out, Hq.out, hqb]; rfl
    · have : k = l.length := by omega
      subst this
      go_wp2_with fail
      go_ret
      refine ⟨?_, rfl⟩
      rw [← HF.out, firstN_end _ _ _ _ (by omega)]; rfl

theorem falls_any (s : ByteArray) (n c : Int) (w : World) :
    Calls Tryz.prog 63 #[.agg #[.string s, .int .i64 n, .int .i64 c]] w fun e w' => e = .returned (.bool (c != 0)) ∧ Keeps (fun _ => False) w w' := by
  go_enter Tryz.func63, Tryz.ntmps63
  go_wp2_with fail
  go_ret
  exact ⟨rfl, by (repeat' (with_reducible first | exact Keeps.refl _ _ | assumption | refine Keeps.drawN ?_ _ | refine Keeps.drew ?_ | refine Keeps.setCell ?_ ?_ _ | refine Keeps.alloc ?_ _)) <;> (first | exact Or.inr (Nat.le_refl _) | exact Or.inl rfl | exact Or.inl (Or.inl rfl) | exact Or.inl (Or.inr rfl) | (right; simp; done) | (right; simp; omega))⟩

set_option maxHeartbeats 1000000 in
theorem ixfalls_any (l : List Mk) (v : Value) (w : World) (h : MSl w v l) :
    Calls Tryz.prog 62 #[v, .func (.func 63) #[] #[]] w fun e w' => e = .returned (.int .i64 (firstAt l)) ∧ Keeps (fun _ => False) w w' := by
  obtain ⟨a, cap, rfl, hl, hc⟩ := MSl.cells h
  have Hc := Lib.hid hc
  clear hc h
  go_enter Tryz.func62, Tryz.ntmps62
  go_wp2_with fail
  go_loopw [5, 8] (fun j i wr => ∃ k : Nat, k ≤ l.length ∧ i = .int .i64 k ∧ firstN (fallsAt l) l.length (l.length - k) k = firstAt l ∧ Keeps (fun _ => False) w wr) (fun _ i _ => l.length - (intOf i).toNat)
  case atStart => exact ⟨0, Nat.zero_le _, rfl, rfl, Keeps.refl _ _⟩
  case round =>
    obtain ⟨k, hk, rfl, hF, hkp⟩ := hrel
    have HF := Lib.hid hF
    clear hF
    by_cases hlt : k < l.length
    · obtain ⟨b, off, rfl, hb, hcc⟩ := Hc.out (by omega)
      obtain ⟨c0, ⟨n, c1⟩, c2⟩ := hcc k hlt
      clear hcc
      have d0 := hkp.cell c0 id
      have d1 := hkp.cell c1 id
      have d2 := hkp.cell c2 id
      clear c0 c1 c2
      have Hst := Lib.hid (firstN_step (fallsAt l) l.length (l.length - k) k hlt (Nat.le_refl _))
      have Hq : Hid (fallsAt l k = (causeAt l k != 0)) := Lib.hid rfl
      by_cases hq : causeAt l k = 0
      · go_wp2_with fail
        refine (falls_any _ _ _ _).mono ?_
        rintro e w1 ⟨rfl, hk1⟩
        go_wp2_with fail
        go_roundw
        case rel =>
          refine ⟨k + 1, by omega, by go_num, ?_, hkp.trans hk1⟩
          rw [← HF.out, Hst.out, Hq.out, hq]
          simp [Nat.sub_sub]
        case measure => (simp [intOf] <;> omega)
      · have hqb : (causeAt l k != 0) = true := by simpa using hq
        go_wp2_with fail
        refine (falls_any _ _ _ _).mono ?_
        rintro e w1 ⟨rfl, hk1⟩
        go_wp2_with fail
        go_ret
        refine ⟨?_, hkp.trans hk1⟩
        rw [← HF.out, Hst.out, Hq.out, hqb]; rfl
    · have : k = l.length := by omega
      subst this
      go_wp2_with fail
      go_ret
      refine ⟨?_, hkp⟩
      rw [← HF.out, firstN_end _ _ _ _ (by omega)]; rfl
theorem first_any (l : List Mk) (v : Value) (w : World) (h : MSl w v l) :
    Calls Tryz.prog 31 #[v] w fun e w' => e = .returned (.int .i64 (firstAt l)) ∧ Keeps (fun _ => False) w w' := by
  go_enter Tryz.func31, Tryz.ntmps31
  go_wp2_with fail
  refine (ixfalls_any l v w h).mono ?_
  rintro e w1 ⟨rfl, hk1⟩
  go_wp2_with fail
  go_ret
  exact ⟨rfl, hk1⟩
end Go.Proofs.YtcgieejgmcgicaaGreatDoor
