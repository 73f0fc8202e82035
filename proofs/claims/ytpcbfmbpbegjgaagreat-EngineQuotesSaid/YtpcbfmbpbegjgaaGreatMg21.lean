/-
  Several texts in one: The document's Put. code.Put: a code point's octets. Printed by mk_put.py. Where a text stands in another: the borders' way, in plain Lean. lit's borders.
-/
import Derived.Test.YtpcbfmbpbegjgaaGreatMg20
import Derived.RegionTactic
import Derived.BigRegion
import Derived.Test.YtpcbfmbpbegjgaaGreatMg1
import Derived.Test.YtpcbfmbpbegjgaaGreatProg
import Derived.BigQuiet
import Derived.Deep.QuietTactic
import Derived.IntWalk
import Derived.Handy
section
namespace Go.Proofs.YtpcbfmbpbegjgaaGreat
open Go.RowKit
set_option linter.unusedVariables false
set_option linter.unusedSimpArgs false
set_option maxRecDepth 100000

/-! ### Octets of a code point -/
def lowB (r : Nat) : Nat → List UInt8
  | 0 => []
  | i + 1 => UInt8.ofNat (128 + r / 64 ^ i % 64) :: lowB r i
theorem lowB_len (r i : Nat) : (lowB r i).length = i := by induction i with | zero => rfl | succ i ih => simp [lowB, ih]
def putP (r : Nat) : List UInt8 :=
  if r < 128 then [UInt8.ofNat r] else if r < 2048 then UInt8.ofNat (192 + r / 64) :: lowB r 1 else if r < 65536 then UInt8.ofNat (224 + r / 4096) :: lowB r 2 else UInt8.ofNat (240 + r / 262144) :: lowB r 3
def PutR (r : Nat) (k : Nat) (rv sv iv : Value) : Prop := ∃ i : Nat, iv = .int .i64 i ∧ 1 ≤ i ∧ i ≤ k ∧ rv = .int .i64 ((r / 64 ^ (i - 1) : Nat) : Int) ∧ sv = .string ⟨(lowB r (i - 1)).toArray⟩
theorem u8_of {n : Nat} (h : n < 256) : ((UInt8.ofNat n).toNat : Int) = (n : Int) := by rw [UInt8.toNat_ofNat_of_lt' (by show n < 256; exact h)]
set_option maxHeartbeats 4000000 in
theorem rPut_any (r : Nat) (w : World) (hb : isB (r : Int) = true) : Calls Tryz.prog 20 #[.int .i64 r] w fun e w' => e = .returned (strL (putP r)) ∧ Keeps (fun _ => False) w w' := by
  have hr : r ≤ 1114111 := by simp [isB] at hb; omega
  have HI := Lib.hid (fun W => rIs_any (r : Int) W)
  have HSz := Lib.hid (fun W => rSize_any (r : Int) W hb)
  have hsz : sizP (r : Int) = if (r : Int) < 128 then 1 else if (r : Int) < 2048 then 2 else if (r : Int) < 65536 then 3 else 4 := by unfold sizP; rw [hb]; rfl
  rw [hb] at HI
  clear hb
  by_cases h1 : r < 128
  · rw [if_pos (by omega)] at hsz
    rw [hsz] at HSz
    have HD : Hid (putP r = [UInt8.ofNat r]) := Lib.hid (by unfold putP; rw [if_pos h1])
    have hcv := back1 w (UInt8.ofNat r)
    rw [u8_of (by omega)] at hcv
    have u1 : IntKind.u8.wrap (r : Int) = (r : Int) := by rw [IntKind.wrap_u8]; omega
    clear hsz
    generalize UInt8.ofNat r = c at *
    generalize putP r = D at *
    go_enter Tryz.func20, Tryz.ntmps20
    go_wp2_with fail
    refine (HI.out _).mono ?_
    rintro e w1 ⟨rfl, rfl⟩
    go_wp2_with fail
    refine (HSz.out _).mono ?_
    rintro e w1 ⟨rfl, rfl⟩
    go_wp2_with fail
    go_ret
    exact ⟨by rw [HD.out]; rfl, by (repeat' (with_reducible first | exact Keeps.refl _ _ | assumption | refine Keeps.drawN ?_ _ | refine Keeps.drew ?_ | refine Keeps.setCell ?_ ?_ _ | refine Keeps.alloc ?_ _)) <;> (first | exact Or.inr (Nat.le_refl _) | exact Or.inl rfl | exact Or.inl (Or.inl rfl) | exact Or.inl (Or.inr rfl) | (right; simp; done) | (right; simp; omega))⟩
  · rw [if_neg (by omega)] at hsz
    obtain ⟨k, F, hk, hF, hput, hk2, hfb⟩ : ∃ k F : Nat, sizP (r : Int) = (k : Int) ∧ ((k = 2 ∧ F = 192) ∨ (k = 3 ∧ F = 224) ∨ (k = 4 ∧ F = 240)) ∧ putP r = UInt8.ofNat (F + r / 64 ^ (k - 1)) :: lowB r (k - 1) ∧ 2 ≤ k ∧ F + r / 64 ^ (k - 1) < 256 := by
      by_cases h2 : r < 2048
      · rw [if_pos (by omega)] at hsz
        exact ⟨2, 192, hsz, Or.inl ⟨rfl, rfl⟩, by unfold putP; rw [if_neg h1, if_pos h2], by omega, by simp; omega⟩
      · rw [if_neg (by omega)] at hsz
        by_cases h3 : r < 65536
        · rw [if_pos (by omega)] at hsz
          exact ⟨3, 224, hsz, Or.inr (Or.inl ⟨rfl, rfl⟩), by unfold putP; rw [if_neg h1, if_neg h2, if_pos h3], by omega, by simp; omega⟩
        · rw [if_neg (by omega)] at hsz
          exact ⟨4, 240, hsz, Or.inr (Or.inr ⟨rfl, rfl⟩), by unfold putP; rw [if_neg h1, if_neg h2, if_neg h3], by omega, by simp; omega⟩
    have hk4 : k ≤ 4 := by omega
    rw [hk] at HSz
    have gk1 : ((k : Int) == 1) = false := beq_eq_false_iff_ne.2 (by omega)
    have HPut := Lib.hid hput
    have HFB := Lib.hid hfb
    have HF := Lib.hid hF
    clear hsz hk hput hfb hF
    go_enter Tryz.func20, Tryz.ntmps20
    go_wp2_with fail
    refine (HI.out _).mono ?_
    rintro e w1 ⟨rfl, rfl⟩
    go_wp2_with fail
    refine (HSz.out _).mono ?_
    rintro e w1 ⟨rfl, rfl⟩
    go_wp2_with fail
    go_loopw [0, 4, 5] (fun rv sv iv wr => PutR r k rv sv iv ∧ Keeps (fun _ => False) w wr) (fun _ _ iv _ => k + 1 - (intOf iv).toNat)
    case atStart => exact ⟨⟨1, rfl, by omega, by omega, by simp, rfl⟩, Keeps.refl _ _⟩
    case round =>
      obtain ⟨⟨i, rfl, hi1, hi2, rfl, rfl⟩, hkw⟩ := hrel
      have K := Lib.hid hkw
      have hlb := lowB_len r (i - 1)
      clear hkw
      by_cases hik : i < k
      · have hcv := back1 wr (UInt8.ofNat (128 + r / 64 ^ (i - 1) % 64))
        have hmod : r / 64 ^ (i - 1) % 64 < 64 := Nat.mod_lt _ (by omega)
        rw [u8_of (by omega)] at hcv
        have e2 : r / 64 ^ (i - 1) / 64 = r / 64 ^ i := by
          rw [Nat.div_div_eq_div_mul]; congr 1
          obtain ⟨j, rfl⟩ : ∃ j, i = j + 1 := ⟨i - 1, by omega⟩
          rw [Nat.add_sub_cancel, Nat.pow_succ]
        have e3 : lowB r i = UInt8.ofNat (128 + r / 64 ^ (i - 1) % 64) :: lowB r (i - 1) := by
          obtain ⟨j, rfl⟩ : ∃ j, i = j + 1 := ⟨i - 1, by omega⟩
          rfl
        have hq : r / 64 ^ (i - 1) ≤ 1114111 := Nat.le_trans (Nat.div_le_self _ _) hr
        have E2 := Lib.hid e2
        have E3 := Lib.hid e3
        clear e2 e3
        generalize UInt8.ofNat (128 + r / 64 ^ (i - 1) % 64) = c at *
        generalize hQ : r / 64 ^ (i - 1) = Q at *
        generalize lowB r (i - 1) = LB at *
        push_cast at hcv
        obtain ⟨M, hM⟩ : ∃ M, (Q : Int) % 64 = M := ⟨_, rfl⟩
        obtain ⟨D, hD⟩ : ∃ D, Q / 64 = D := ⟨_, rfl⟩
        have hM1 : 0 ≤ M ∧ M ≤ 63 := by omega
        have t1 : (Q : Int).tmod 64 = M := by rw [Int.tmod_eq_emod_of_nonneg (by omega), hM]
        have t2 : (Q : Int).tdiv 64 = (D : Int) := by rw [Int.tdiv_eq_ediv_of_nonneg (by omega), ← hD]; omega
        rw [hM] at hcv
        rw [hD] at E2
        have hD1 : D ≤ 1114111 := by omega
        have e6 : wrap64 M = M := by unfold wrap64; omega
        have e7 : wrap64 (128 + M) = 128 + M := by unfold wrap64; omega
        have e8 : (128 + M) % 256 = 128 + M := by omega
        clear hM hD hmod
        clear hQ
        go_wp2_with fail
        go_roundw
        case rel =>
          refine ⟨⟨i + 1, by go_num, by omega, by omega, ?_, ?_⟩, K.out.alloc _⟩
          · rw [Nat.add_sub_cancel, ← E2.out]
          · rw [Nat.add_sub_cancel, E3.out]; first | rfl | (refine congrArg Value.string ?_; apply ByteArray.ext; simp [ByteArray.data_append])
        case measure => simp [intOf]; omega
      · have he : i = k := by omega
        subst he
        have hcv := back1 wr (UInt8.ofNat (F + r / 64 ^ (i - 1)))
        rw [u8_of HFB.out] at hcv
        have hfb := HFB.out
        have hF := HF.out
        rw [Int.natCast_add] at hcv
        generalize UInt8.ofNat (F + r / 64 ^ (i - 1)) = c at *
        generalize r / 64 ^ (i - 1) = Q at *
        generalize lowB r (i - 1) = LB at *
        rcases hF with ⟨rfl, rfl⟩ | ⟨rfl, rfl⟩ | ⟨rfl, rfl⟩
        · rw [show ((192 : Nat) : Int) = 192 from rfl] at hcv
          have e7 : wrap64 (192 + (Q : Int)) = 192 + (Q : Int) := by unfold wrap64; omega
          have e8 : (192 + (Q : Int)) % 256 = 192 + (Q : Int) := by omega
          go_wp2_with fail
          go_ret
          refine ⟨?_, K.out.alloc _⟩
          rw [HPut.out]; unfold strL
          first | rfl | (refine congrArg Ending.returned (congrArg Value.string ?_); apply ByteArray.ext; simp [ByteArray.data_append])
        · rw [show ((224 : Nat) : Int) = 224 from rfl] at hcv
          have e7 : wrap64 (224 + (Q : Int)) = 224 + (Q : Int) := by unfold wrap64; omega
          have e8 : (224 + (Q : Int)) % 256 = 224 + (Q : Int) := by omega
          go_wp2_with fail
          go_ret
          refine ⟨?_, K.out.alloc _⟩
          rw [HPut.out]; unfold strL
          first | rfl | (refine congrArg Ending.returned (congrArg Value.string ?_); apply ByteArray.ext; simp [ByteArray.data_append])
        · rw [show ((240 : Nat) : Int) = 240 from rfl] at hcv
          have e7 : wrap64 (240 + (Q : Int)) = 240 + (Q : Int) := by unfold wrap64; omega
          have e8 : (240 + (Q : Int)) % 256 = 240 + (Q : Int) := by omega
          go_wp2_with fail
          go_ret
          refine ⟨?_, K.out.alloc _⟩
          rw [HPut.out]; unfold strL
          first | rfl | (refine congrArg Ending.returned (congrArg Value.string ?_); apply ByteArray.ext; simp [ByteArray.data_append])
end Go.Proofs.YtpcbfmbpbegjgaaGreat
end
section
namespace Go.Proofs.YtpcbfmbpbegjgaaGreat
open Go.RowKit
set_option linter.unusedVariables false
set_option linter.unusedSimpArgs false
set_option maxRecDepth 100000

theorem info_u8p : (Tryz.prog.info? 5).map (fun i => (i.zero, i.size, i.bytes)) = some (some (.int .u8 0), 1, 1) := by kernel_rfl
theorem own_oneB (w : World) (x : Value) (e : TypeId) : (w.alloc (.cells #[x] e)).ownsRow w.heap.size e 1 (.slice (some ⟨w.heap.size, 0, none⟩) 1 1) 1 [x] :=
  ⟨rfl, Or.inr ⟨_, 1, #[x], rfl, Nat.le_refl _, by simp [World.alloc, -World.alloc_eq], by omega, by unfold maxLen; omega, rfl, rfl⟩⟩
def u8V (c : UInt8) : Value := .int .u8 (c.toNat : Int)
/-- Octets in a row of one's own. -/
def OwnB (base : Nat) (w : World) (v : Value) (l : List UInt8) : Prop := w.ownsRow base 5 1 v l.length (l.map u8V)
/-- What Put answers. -/
def PutE (w : World) (l : List UInt8) (e : Ending) (w' : World) : Prop := ∃ v, e = .returned v ∧ OwnB w.heap.size w' v l ∧ Keeps (fun _ => False) w w'
theorem own_keepB {w w' : World} {base : Nat} {e : TypeId} {size : Nat} {v : Value} {n : Nat} {xs : List Value} (h : w.ownsRow base e size v n xs) (K : Keeps (fun _ => False) w w') : w'.ownsRow base e size v n xs := by
  refine ⟨h.1, ?_⟩
  rcases h.2 with h0 | ⟨g, cap, cur, rfl, hg, hh, hr⟩
  · exact Or.inl h0
  · exact Or.inr ⟨g, cap, cur, rfl, hg, K.heap hh id, hr⟩
theorem u8o (n : Nat) (h : n < 256) : Value.int .u8 (n : Int) = u8V (UInt8.ofNat n) := by
  unfold u8V; rw [UInt8.toNat_ofNat_of_lt' (by show n < 256; exact h)]
theorem u8i {z : Int} (n : Nat) (h : n < 256) (e : z = (n : Int)) : Value.int .u8 z = u8V (UInt8.ofNat n) := by rw [e, u8o n h]
set_option maxHeartbeats 1000000 in
theorem put1 (r : Nat) (w : World) (hb : isB (r : Int) = true) (h1 : r < 128) : Calls Tryz.prog 49 #[.int .i64 r] w fun e w' => PutE w (putP r) e w' := by
  have HI := Lib.hid (fun W => is_any (r : Int) W)
  have HSz := Lib.hid (fun W => size_any (r : Int) W)
  have hsz : sizP (r : Int) = 1 := by unfold sizP; rw [hb]; simp only [if_true]; rw [if_pos (by omega)]
  rw [hb] at HI
  rw [hsz] at HSz
  have HP : Hid ([Value.int .u8 (r : Int)] = (putP r).map u8V) := Lib.hid (by unfold putP; rw [if_pos (by omega), u8o r (by omega)]; rfl)
  have u1 : IntKind.u8.wrap (r : Int) = (r : Int) := by rw [IntKind.wrap_u8]; omega
  clear hb hsz
  go_enter Tryz.func49, Tryz.ntmps49
  go_wp2_with fail
  refine (HI.out _).mono ?_
  rintro e w1 ⟨rfl, rfl⟩
  go_wp2_with fail
  refine (HSz.out _).mono ?_
  rintro e w1 ⟨rfl, rfl⟩
  go_wp2_with fail
  go_ret
  refine ⟨_, rfl, ?_, by (repeat' (with_reducible first | exact Keeps.refl _ _ | assumption | refine Keeps.drawN ?_ _ | refine Keeps.drew ?_ | refine Keeps.setCell ?_ ?_ _ | refine Keeps.alloc ?_ _)) <;> (first | exact Or.inr (Nat.le_refl _) | exact Or.inl rfl | exact Or.inl (Or.inl rfl) | exact Or.inl (Or.inr rfl) | (right; simp; done) | (right; simp; omega))⟩
  unfold OwnB
  rw [← HP.out, show (putP r).length = 1 by have := congrArg List.length HP.out; simpa using this.symm]
  exact own_oneB _ _ _

set_option maxHeartbeats 4000000 in
theorem put2 (r : Nat) (w : World) (hb : isB (r : Int) = true) (h1 : 128 ≤ r) (h2 : r < 2048) : Calls Tryz.prog 49 #[.int .i64 r] w fun e w' => PutE w (putP r) e w' := by
  obtain ⟨i0, hi0, hz0, hz1, hz2⟩ := info_parts info_u8p
  have HI := Lib.hid (fun W => is_any (r : Int) W)
  have HSz := Lib.hid (fun W => size_any (r : Int) W)
  have hsz : sizP (r : Int) = 2 := by unfold sizP; rw [hb]; simp only [if_true]; rw [if_neg (by omega), if_pos (by omega)]
  rw [hb] at HI
  rw [hsz] at HSz
  have HP : Hid ([Value.int .u8 (192 + (r : Int) / 64), Value.int .u8 (128 + (r : Int) % 64)] = (putP r).map u8V) := Lib.hid (by
    have e : putP r = [UInt8.ofNat (192 + r / 64), UInt8.ofNat (128 + r % 64)] := by
      unfold putP; rw [if_neg (by omega), if_pos (by omega)]; simp only [lowB, Nat.pow_zero, Nat.div_one, Nat.pow_one, show 64 ^ 2 = 4096 from rfl]
    rw [e]
    simp only [List.map_cons, List.map_nil]
    rw [u8i (192 + r / 64) (by omega) (by omega), u8i (128 + r % 64) (by omega) (by omega)])
  clear hb hsz
  go_enter Tryz.func49, Tryz.ntmps49
  go_wp2_with fail
  refine (HI.out _).mono ?_
  rintro e w1 ⟨rfl, rfl⟩
  go_wp2_with fail
  refine (HSz.out _).mono ?_
  rintro e w1 ⟨rfl, rfl⟩
  go_wp2_with fail
  go_region
  obtain ⟨W0, hW0⟩ : ∃ W, W = (w.alloc (.cells #[Value.int .u8 (192 + (r : Int) / 64)] 5)).drew := ⟨_, rfl⟩
  have O0 : Hid (W0.ownsRow w.heap.size 5 1 (.slice (some ⟨w.heap.size, 0, none⟩) 1 1) 1 [Value.int .u8 (192 + (r : Int) / 64)]) := Lib.hid (by rw [hW0]; exact own_oneB w _ _)
  have K0 : Hid (Keeps (fun _ => False) w W0) := Lib.hid (by rw [hW0]; (repeat' (with_reducible first | exact Keeps.refl _ _ | assumption | refine Keeps.drawN ?_ _ | refine Keeps.drew ?_ | refine Keeps.setCell ?_ ?_ _ | refine Keeps.alloc ?_ _)) <;> (first | exact Or.inr (Nat.le_refl _) | exact Or.inl rfl | exact Or.inl (Or.inl rfl) | exact Or.inl (Or.inr rfl) | (right; simp; done) | (right; simp; omega)))
  have N0 : Hid (w.heap.size < W0.heap.size) := Lib.hid (by rw [hW0]; simp)
  rw [← hW0]
  clear hW0
  go_wp2_with (at_builtin; refine wpList_append_own _ rfl (.tmp 47) (.tmp 52) 42 rfl w.heap.size 5 i0 (.int .u8 0) 1 1 Tryz.underlying42 hi0 hz0 hz1 hz2 rfl (by decide) _ _ _ rfl (O0.out.alloc _) ⟨W0.heap.size, 0, none⟩ 1 1 [Value.int .u8 (128 + (r : Int) % 64)] rfl rfl (by exact cells_new _ [_] _) (by intro u hu; simp at hu; subst hu; rfl) ?d3 ?d4 ?d5 ?_)
  case d3 => unfold maxLen; omega
  case d4 => omega
  case d5 => have := N0.out; simp; omega
  intro v1 W1 hown hgrow _
  have O1 : Hid (W1.ownsRow w.heap.size 5 1 v1 2 [Value.int .u8 (192 + (r : Int) / 64), Value.int .u8 (128 + (r : Int) % 64)]) := Lib.hid hown
  have K1 : Hid (Keeps (fun _ => False) w W1) := Lib.hid (K0.out.trans2 (((Keeps.refl (fun b => w.heap.size ≤ b) W0).alloc _).grown hgrow (fun b hb => Or.inl (ownBlock_base O0.out b hb))) (fun b hb e => by omega))
  have N1 : Hid (w.heap.size < W1.heap.size) := Lib.hid (by have := N0.out; have := ((((Keeps.refl (fun b => w.heap.size ≤ b) W0).alloc (.cells #[Value.int .u8 (128 + (r : Int) % 64)] 5)).grown hgrow (fun b hb => Or.inl (ownBlock_base O0.out b hb)))).size; omega)
  clear hown hgrow
  go_wp2_with fail
  go_ret
  refine ⟨_, rfl, ?_, K1.out⟩
  unfold OwnB
  rw [← HP.out, show (putP r).length = 2 by have := congrArg List.length HP.out; simpa using this.symm]
  exact O1.out

set_option maxHeartbeats 4000000 in
theorem put3 (r : Nat) (w : World) (hb : isB (r : Int) = true) (h1 : 2048 ≤ r) (h2 : r < 65536) : Calls Tryz.prog 49 #[.int .i64 r] w fun e w' => PutE w (putP r) e w' := by
  obtain ⟨i0, hi0, hz0, hz1, hz2⟩ := info_parts info_u8p
  have HI := Lib.hid (fun W => is_any (r : Int) W)
  have HSz := Lib.hid (fun W => size_any (r : Int) W)
  have hsz : sizP (r : Int) = 3 := by unfold sizP; rw [hb]; simp only [if_true]; rw [if_neg (by omega), if_neg (by omega), if_pos (by omega)]
  rw [hb] at HI
  rw [hsz] at HSz
  have HP : Hid ([Value.int .u8 (224 + (r : Int) / 4096), Value.int .u8 (128 + (r : Int) / 64 % 64), Value.int .u8 (128 + (r : Int) % 64)] = (putP r).map u8V) := Lib.hid (by
    have e : putP r = [UInt8.ofNat (224 + r / 4096), UInt8.ofNat (128 + r / 64 % 64), UInt8.ofNat (128 + r % 64)] := by
      unfold putP; rw [if_neg (by omega), if_neg (by omega), if_pos (by omega)]; simp only [lowB, Nat.pow_zero, Nat.div_one, Nat.pow_one, show 64 ^ 2 = 4096 from rfl]
    rw [e]
    simp only [List.map_cons, List.map_nil]
    rw [u8i (224 + r / 4096) (by omega) (by omega), u8i (128 + r / 64 % 64) (by omega) (by omega), u8i (128 + r % 64) (by omega) (by omega)])
  clear hb hsz
  go_enter Tryz.func49, Tryz.ntmps49
  go_wp2_with fail
  refine (HI.out _).mono ?_
  rintro e w1 ⟨rfl, rfl⟩
  go_wp2_with fail
  refine (HSz.out _).mono ?_
  rintro e w1 ⟨rfl, rfl⟩
  go_wp2_with fail
  go_region
  obtain ⟨W0, hW0⟩ : ∃ W, W = (w.alloc (.cells #[Value.int .u8 (224 + (r : Int) / 4096)] 5)).drew := ⟨_, rfl⟩
  have O0 : Hid (W0.ownsRow w.heap.size 5 1 (.slice (some ⟨w.heap.size, 0, none⟩) 1 1) 1 [Value.int .u8 (224 + (r : Int) / 4096)]) := Lib.hid (by rw [hW0]; exact own_oneB w _ _)
  have K0 : Hid (Keeps (fun _ => False) w W0) := Lib.hid (by rw [hW0]; (repeat' (with_reducible first | exact Keeps.refl _ _ | assumption | refine Keeps.drawN ?_ _ | refine Keeps.drew ?_ | refine Keeps.setCell ?_ ?_ _ | refine Keeps.alloc ?_ _)) <;> (first | exact Or.inr (Nat.le_refl _) | exact Or.inl rfl | exact Or.inl (Or.inl rfl) | exact Or.inl (Or.inr rfl) | (right; simp; done) | (right; simp; omega)))
  have N0 : Hid (w.heap.size < W0.heap.size) := Lib.hid (by rw [hW0]; simp)
  rw [← hW0]
  clear hW0
  go_wp2_with (at_builtin; refine wpList_append_own _ rfl (.tmp 39) (.tmp 45) 42 rfl w.heap.size 5 i0 (.int .u8 0) 1 1 Tryz.underlying42 hi0 hz0 hz1 hz2 rfl (by decide) _ _ _ rfl (O0.out.alloc _) ⟨W0.heap.size, 0, none⟩ 1 1 [Value.int .u8 (128 + (r : Int) / 64 % 64)] rfl rfl (by exact cells_new _ [_] _) (by intro u hu; simp at hu; subst hu; rfl) ?d3 ?d4 ?d5 ?_)
  case d3 => unfold maxLen; omega
  case d4 => omega
  case d5 => have := N0.out; simp; omega
  intro v1 W1 hown hgrow _
  have O1 : Hid (W1.ownsRow w.heap.size 5 1 v1 2 [Value.int .u8 (224 + (r : Int) / 4096), Value.int .u8 (128 + (r : Int) / 64 % 64)]) := Lib.hid hown
  have K1 : Hid (Keeps (fun _ => False) w W1) := Lib.hid (K0.out.trans2 (((Keeps.refl (fun b => w.heap.size ≤ b) W0).alloc _).grown hgrow (fun b hb => Or.inl (ownBlock_base O0.out b hb))) (fun b hb e => by omega))
  have N1 : Hid (w.heap.size < W1.heap.size) := Lib.hid (by have := N0.out; have := ((((Keeps.refl (fun b => w.heap.size ≤ b) W0).alloc (.cells #[Value.int .u8 (128 + (r : Int) / 64 % 64)] 5)).grown hgrow (fun b hb => Or.inl (ownBlock_base O0.out b hb)))).size; omega)
  clear hown hgrow
  go_wp2_with (at_builtin; refine wpList_append_own _ rfl (.tmp 47) (.tmp 52) 42 rfl w.heap.size 5 i0 (.int .u8 0) 1 1 Tryz.underlying42 hi0 hz0 hz1 hz2 rfl (by decide) _ _ _ rfl (O1.out.alloc _) ⟨W1.heap.size, 0, none⟩ 1 1 [Value.int .u8 (128 + (r : Int) % 64)] rfl rfl (by exact cells_new _ [_] _) (by intro u hu; simp at hu; subst hu; rfl) ?d3 ?d4 ?d5 ?_)
  case d3 => unfold maxLen; omega
  case d4 => omega
  case d5 => have := N1.out; simp; omega
  intro v2 W2 hown hgrow _
  have O2 : Hid (W2.ownsRow w.heap.size 5 1 v2 3 [Value.int .u8 (224 + (r : Int) / 4096), Value.int .u8 (128 + (r : Int) / 64 % 64), Value.int .u8 (128 + (r : Int) % 64)]) := Lib.hid hown
  have K2 : Hid (Keeps (fun _ => False) w W2) := Lib.hid (K1.out.trans2 (((Keeps.refl (fun b => w.heap.size ≤ b) W1).alloc _).grown hgrow (fun b hb => Or.inl (ownBlock_base O1.out b hb))) (fun b hb e => by omega))
  have N2 : Hid (w.heap.size < W2.heap.size) := Lib.hid (by have := N1.out; have := ((((Keeps.refl (fun b => w.heap.size ≤ b) W1).alloc (.cells #[Value.int .u8 (128 + (r : Int) % 64)] 5)).grown hgrow (fun b hb => Or.inl (ownBlock_base O1.out b hb)))).size; omega)
  clear hown hgrow
  go_wp2_with fail
  go_ret
  refine ⟨_, rfl, ?_, K2.out⟩
  unfold OwnB
  rw [← HP.out, show (putP r).length = 3 by have := congrArg List.length HP.out; simpa using this.symm]
  exact O2.out

set_option maxHeartbeats 4000000 in
theorem put4 (r : Nat) (w : World) (hb : isB (r : Int) = true) (h1 : 65536 ≤ r) (h2 : r < 1114112) : Calls Tryz.prog 49 #[.int .i64 r] w fun e w' => PutE w (putP r) e w' := by
  obtain ⟨i0, hi0, hz0, hz1, hz2⟩ := info_parts info_u8p
  have HI := Lib.hid (fun W => is_any (r : Int) W)
  have HSz := Lib.hid (fun W => size_any (r : Int) W)
  have hsz : sizP (r : Int) = 4 := by unfold sizP; rw [hb]; simp only [if_true]; rw [if_neg (by omega), if_neg (by omega), if_neg (by omega)]
  rw [hb] at HI
  rw [hsz] at HSz
  have HP : Hid ([Value.int .u8 (240 + (r : Int) / 262144), Value.int .u8 (128 + (r : Int) / 4096 % 64), Value.int .u8 (128 + (r : Int) / 64 % 64), Value.int .u8 (128 + (r : Int) % 64)] = (putP r).map u8V) := Lib.hid (by
    have e : putP r = [UInt8.ofNat (240 + r / 262144), UInt8.ofNat (128 + r / 4096 % 64), UInt8.ofNat (128 + r / 64 % 64), UInt8.ofNat (128 + r % 64)] := by
      unfold putP; rw [if_neg (by omega), if_neg (by omega), if_neg (by omega)]; simp only [lowB, Nat.pow_zero, Nat.div_one, Nat.pow_one, show 64 ^ 2 = 4096 from rfl]
    rw [e]
    simp only [List.map_cons, List.map_nil]
    rw [u8i (240 + r / 262144) (by omega) (by omega), u8i (128 + r / 4096 % 64) (by omega) (by omega), u8i (128 + r / 64 % 64) (by omega) (by omega), u8i (128 + r % 64) (by omega) (by omega)])
  clear hb hsz
  go_enter Tryz.func49, Tryz.ntmps49
  go_wp2_with fail
  refine (HI.out _).mono ?_
  rintro e w1 ⟨rfl, rfl⟩
  go_wp2_with fail
  refine (HSz.out _).mono ?_
  rintro e w1 ⟨rfl, rfl⟩
  go_wp2_with fail
  go_region
  obtain ⟨W0, hW0⟩ : ∃ W, W = (w.alloc (.cells #[Value.int .u8 (240 + (r : Int) / 262144)] 5)).drew := ⟨_, rfl⟩
  have O0 : Hid (W0.ownsRow w.heap.size 5 1 (.slice (some ⟨w.heap.size, 0, none⟩) 1 1) 1 [Value.int .u8 (240 + (r : Int) / 262144)]) := Lib.hid (by rw [hW0]; exact own_oneB w _ _)
  have K0 : Hid (Keeps (fun _ => False) w W0) := Lib.hid (by rw [hW0]; (repeat' (with_reducible first | exact Keeps.refl _ _ | assumption | refine Keeps.drawN ?_ _ | refine Keeps.drew ?_ | refine Keeps.setCell ?_ ?_ _ | refine Keeps.alloc ?_ _)) <;> (first | exact Or.inr (Nat.le_refl _) | exact Or.inl rfl | exact Or.inl (Or.inl rfl) | exact Or.inl (Or.inr rfl) | (right; simp; done) | (right; simp; omega)))
  have N0 : Hid (w.heap.size < W0.heap.size) := Lib.hid (by rw [hW0]; simp)
  rw [← hW0]
  clear hW0
  go_wp2_with (at_builtin; refine wpList_append_own _ rfl (.tmp 31) (.tmp 37) 42 rfl w.heap.size 5 i0 (.int .u8 0) 1 1 Tryz.underlying42 hi0 hz0 hz1 hz2 rfl (by decide) _ _ _ rfl (O0.out.alloc _) ⟨W0.heap.size, 0, none⟩ 1 1 [Value.int .u8 (128 + (r : Int) / 4096 % 64)] rfl rfl (by exact cells_new _ [_] _) (by intro u hu; simp at hu; subst hu; rfl) ?d3 ?d4 ?d5 ?_)
  case d3 => unfold maxLen; omega
  case d4 => omega
  case d5 => have := N0.out; simp; omega
  intro v1 W1 hown hgrow _
  have O1 : Hid (W1.ownsRow w.heap.size 5 1 v1 2 [Value.int .u8 (240 + (r : Int) / 262144), Value.int .u8 (128 + (r : Int) / 4096 % 64)]) := Lib.hid hown
  have K1 : Hid (Keeps (fun _ => False) w W1) := Lib.hid (K0.out.trans2 (((Keeps.refl (fun b => w.heap.size ≤ b) W0).alloc _).grown hgrow (fun b hb => Or.inl (ownBlock_base O0.out b hb))) (fun b hb e => by omega))
  have N1 : Hid (w.heap.size < W1.heap.size) := Lib.hid (by have := N0.out; have := ((((Keeps.refl (fun b => w.heap.size ≤ b) W0).alloc (.cells #[Value.int .u8 (128 + (r : Int) / 4096 % 64)] 5)).grown hgrow (fun b hb => Or.inl (ownBlock_base O0.out b hb)))).size; omega)
  clear hown hgrow
  go_wp2_with (at_builtin; refine wpList_append_own _ rfl (.tmp 39) (.tmp 45) 42 rfl w.heap.size 5 i0 (.int .u8 0) 1 1 Tryz.underlying42 hi0 hz0 hz1 hz2 rfl (by decide) _ _ _ rfl (O1.out.alloc _) ⟨W1.heap.size, 0, none⟩ 1 1 [Value.int .u8 (128 + (r : Int) / 64 % 64)] rfl rfl (by exact cells_new _ [_] _) (by intro u hu; simp at hu; subst hu; rfl) ?d3 ?d4 ?d5 ?_)
  case d3 => unfold maxLen; omega
  case d4 => omega
  case d5 => have := N1.out; simp; omega
  intro v2 W2 hown hgrow _
  have O2 : Hid (W2.ownsRow w.heap.size 5 1 v2 3 [Value.int .u8 (240 + (r : Int) / 262144), Value.int .u8 (128 + (r : Int) / 4096 % 64), Value.int .u8 (128 + (r : Int) / 64 % 64)]) := Lib.hid hown
  have K2 : Hid (Keeps (fun _ => False) w W2) := Lib.hid (K1.out.trans2 (((Keeps.refl (fun b => w.heap.size ≤ b) W1).alloc _).grown hgrow (fun b hb => Or.inl (ownBlock_base O1.out b hb))) (fun b hb e => by omega))
  have N2 : Hid (w.heap.size < W2.heap.size) := Lib.hid (by have := N1.out; have := ((((Keeps.refl (fun b => w.heap.size ≤ b) W1).alloc (.cells #[Value.int .u8 (128 + (r : Int) / 64 % 64)] 5)).grown hgrow (fun b hb => Or.inl (ownBlock_base O1.out b hb)))).size; omega)
  clear hown hgrow
  go_wp2_with (at_builtin; refine wpList_append_own _ rfl (.tmp 47) (.tmp 52) 42 rfl w.heap.size 5 i0 (.int .u8 0) 1 1 Tryz.underlying42 hi0 hz0 hz1 hz2 rfl (by decide) _ _ _ rfl (O2.out.alloc _) ⟨W2.heap.size, 0, none⟩ 1 1 [Value.int .u8 (128 + (r : Int) % 64)] rfl rfl (by exact cells_new _ [_] _) (by intro u hu; simp at hu; subst hu; rfl) ?d3 ?d4 ?d5 ?_)
  case d3 => unfold maxLen; omega
  case d4 => omega
  case d5 => have := N2.out; simp; omega
  intro v3 W3 hown hgrow _
  have O3 : Hid (W3.ownsRow w.heap.size 5 1 v3 4 [Value.int .u8 (240 + (r : Int) / 262144), Value.int .u8 (128 + (r : Int) / 4096 % 64), Value.int .u8 (128 + (r : Int) / 64 % 64), Value.int .u8 (128 + (r : Int) % 64)]) := Lib.hid hown
  have K3 : Hid (Keeps (fun _ => False) w W3) := Lib.hid (K2.out.trans2 (((Keeps.refl (fun b => w.heap.size ≤ b) W2).alloc _).grown hgrow (fun b hb => Or.inl (ownBlock_base O2.out b hb))) (fun b hb e => by omega))
  have N3 : Hid (w.heap.size < W3.heap.size) := Lib.hid (by have := N2.out; have := ((((Keeps.refl (fun b => w.heap.size ≤ b) W2).alloc (.cells #[Value.int .u8 (128 + (r : Int) % 64)] 5)).grown hgrow (fun b hb => Or.inl (ownBlock_base O2.out b hb)))).size; omega)
  clear hown hgrow
  go_wp2_with fail
  go_ret
  refine ⟨_, rfl, ?_, K3.out⟩
  unfold OwnB
  rw [← HP.out, show (putP r).length = 4 by have := congrArg List.length HP.out; simpa using this.symm]
  exact O3.out

theorem put_any (r : Nat) (w : World) (hb : isB (r : Int) = true) : Calls Tryz.prog 49 #[.int .i64 r] w fun e w' => PutE w (putP r) e w' := by
  have hr : r ≤ 1114111 := by simp [isB] at hb; omega
  by_cases h1 : r < 128
  · exact put1 r w hb h1
  by_cases h2 : r < 2048
  · exact put2 r w hb (by omega) h2
  by_cases h3 : r < 65536
  · exact put3 r w hb (by omega) h3
  · exact put4 r w hb (by omega) (by omega)
/-- Octets as a text. -/
theorem ownB_text {w : World} {base : Nat} {v : Value} {l : List UInt8} (h : OwnB base w v l) : (convert 42 9 v).run Tryz.prog w = .ok (strL l) w := by
  rcases h.2 with ⟨rfl, h0⟩ | ⟨g, cap, cur, rfl, _⟩
  · obtain rfl : l = [] := List.length_eq_zero_iff.1 h0
    rw [run_convert_bytes_string w _ _ 5 none 0 0 Tryz.underlying42 Tryz.underlying5 Tryz.underlying9]
    rfl
  · exact run_convert_bytes_back w _ _ 5 ⟨g, 0, none⟩ cap l Tryz.underlying42 Tryz.underlying5 Tryz.underlying9 (fun j hj => by
      have := h.cells (g := g) rfl j (.int .u8 (l[j].toNat : Int)) (by simp [u8V, hj])
      exact this)

end Go.Proofs.YtpcbfmbpbegjgaaGreat
end
section
namespace Go.Proofs.YtpcbfmbpbegjgaaGreat
open Go.RowKit
set_option linter.unusedVariables false
set_option linter.unusedSimpArgs false

/-- The first k of p are what t has ahead of i, from f on. -/
def SufM (p t : Nat → UInt8) (f i k : Nat) : Prop := f + k ≤ i ∧ ∀ x, x < k → p x = t (i - k + x)
/-- The longest. -/
structure Lgst (m : Nat) (p t : Nat → UInt8) (f i k : Nat) : Prop where
  suf : SufM p t f i k
  le : k ≤ m
  max : ∀ k', SufM p t f i k' → k' ≤ m → k' ≤ k
/-- Within the search for it. -/
structure Inn (m : Nat) (p t : Nat → UInt8) (f i k : Nat) : Prop where
  suf : SufM p t f i k
  le : k ≤ m
  max : ∀ k', SufM p t f i k' → k' < m → p k' = t i → k' ≤ k
theorem Lgst.inn {m : Nat} {p t : Nat → UInt8} {f i k : Nat} (h : Lgst m p t f i k) : Inn m p t f i k := ⟨h.suf, h.le, fun k' a b _ => h.max k' a (by omega)⟩
theorem Lgst.start (m : Nat) (p t : Nat → UInt8) (f : Nat) : Lgst m p t f f 0 := ⟨⟨by omega, fun x hx => by omega⟩, by omega, fun k' h _ => by have := h.1; omega⟩
theorem Inn.step {m : Nat} {p t : Nat → UInt8} {f i k b : Nat} (h : Inn m p t f i k) (h0 : 0 < k) (hk : k = m ∨ p k ≠ t i) (hb : Lgst m p p 1 k b) : Inn m p t f i b := by
  have s1 := h.suf.1
  have b1 := hb.suf.1
  refine ⟨⟨by omega, fun x hx => ?_⟩, hb.le, fun k' hs hm he => ?_⟩
  · rw [hb.suf.2 x hx, h.suf.2 (k - b + x) (by omega)]; congr 1; omega
  · have h1 := h.max k' hs hm he
    have h2 : k' ≠ k := by
      rintro rfl
      rcases hk with rfl | hk
      · omega
      · exact hk he
    refine hb.max k' ⟨by omega, fun x hx => ?_⟩ (by omega)
    rw [hs.2 x hx, h.suf.2 (k - k' + x) (by omega)]; congr 1; omega
theorem Inn.hit {m : Nat} {p t : Nat → UInt8} {f i k : Nat} (h : Inn m p t f i k) (hm : k < m) (he : p k = t i) : Lgst m p t f (i + 1) (k + 1) := by
  have s1 := h.suf.1
  refine ⟨⟨by omega, fun x hx => ?_⟩, by omega, fun k' hs hk => ?_⟩
  · by_cases hx2 : x < k
    · rw [h.suf.2 x hx2]; congr 1; omega
    · obtain rfl : x = k := by omega
      rw [he]; congr 1; omega
  · rcases k' with _ | j
    · omega
    · have h1 := hs.1
      have := h.max j ⟨by omega, fun x hx => by rw [hs.2 x (by omega)]; congr 1; omega⟩ (by omega) (by rw [hs.2 j (by omega)]; congr 1; omega)
      omega
theorem Inn.miss {m : Nat} {p t : Nat → UInt8} {f i : Nat} (h : Inn m p t f i 0) (he : p 0 ≠ t i) : Lgst m p t f (i + 1) 0 := by
  have s1 := h.suf.1
  refine ⟨⟨by omega, fun x hx => by omega⟩, by omega, fun k' hs hk => ?_⟩
  rcases k' with _ | j
  · omega
  · have h1 := hs.1
    have h2 := h.max j ⟨by omega, fun x hx => by rw [hs.2 x (by omega)]; congr 1; omega⟩ (by omega) (by rw [hs.2 j (by omega)]; congr 1; omega)
    obtain rfl : j = 0 := by omega
    exact absurd (by rw [hs.2 0 (by omega)]; congr 1) he
/-- It stands at a. -/
def mtB (m n : Nat) (p t : Nat → UInt8) (a : Nat) : Bool := decide (a + m ≤ n) && (List.range m).all fun x => decide (p x = t (a + x))
theorem mtB_iff {m n : Nat} {p t : Nat → UInt8} {a : Nat} : mtB m n p t a = true ↔ a + m ≤ n ∧ ∀ x, x < m → p x = t (a + x) := by
  unfold mtB; simp [List.all_eq_true]
theorem Lgst.full {m n : Nat} {p t : Nat → UInt8} {f i k : Nat} (h : Lgst m p t f i k) (hi : i ≤ n) : k = m ↔ f + m ≤ i ∧ mtB m n p t (i - m) = true := by
  rw [mtB_iff]
  constructor
  · rintro rfl
    have := h.suf.1
    exact ⟨this, by omega, h.suf.2⟩
  · rintro ⟨h1, h2, h3⟩
    have := h.max m ⟨h1, h3⟩ (Nat.le_refl _)
    have := h.le
    omega
/-- The first place from f on. -/
def IdxAt (mt : Nat → Bool) (n f : Nat) (z : Int) : Prop :=
  (z = -1 ∧ ∀ a, f ≤ a → a ≤ n → mt a = false) ∨ ∃ a : Nat, z = a ∧ f ≤ a ∧ a ≤ n ∧ mt a = true ∧ ∀ b, f ≤ b → b < a → mt b = false
/-- At how many places ahead of c. -/
def cntM (mt : Nat → Bool) (c : Nat) : Nat := (List.range c).countP mt
theorem cntM_succ (mt : Nat → Bool) (c : Nat) : cntM mt (c + 1) = cntM mt c + if mt c = true then 1 else 0 := by
  unfold cntM; rw [List.range_succ, List.countP_append]; simp [List.countP_cons]
theorem cntM_le (mt : Nat → Bool) (c : Nat) : cntM mt c ≤ c := by unfold cntM; exact Nat.le_trans List.countP_le_length (by simp)
theorem cntM_skip (mt : Nat → Bool) (a : Nat) : ∀ d, (∀ b, a ≤ b → b < a + d → mt b = false) → cntM mt (a + d) = cntM mt a := by
  intro d
  induction d with
  | zero => intro _; rfl
  | succ d ih =>
    intro h
    rw [← Nat.add_assoc, cntM_succ, ih (fun b h1 h2 => h b h1 (by omega)), h (a + d) (by omega) (by omega)]; simp
theorem cntM_to (mt : Nat → Bool) {a b : Nat} (hab : a ≤ b) (h : ∀ c, a ≤ c → c < b → mt c = false) : cntM mt b = cntM mt a := by
  obtain ⟨d, rfl⟩ : ∃ d, b = a + d := ⟨b - a, by omega⟩
  exact cntM_skip mt a d h
theorem idx_none {mt : Nat → Bool} {n f : Nat} {z : Int} (h : IdxAt mt n f z) (hz : z < 0) : ∀ a, f ≤ a → a ≤ n → mt a = false := by
  rcases h with ⟨_, h⟩ | ⟨a, h, _⟩
  · exact h
  · omega
theorem idx_some {mt : Nat → Bool} {n f : Nat} {z : Int} (h : IdxAt mt n f z) (hz : 0 ≤ z) : ∃ a : Nat, z = a ∧ f ≤ a ∧ a ≤ n ∧ mt a = true ∧ ∀ b, f ≤ b → b < a → mt b = false := by
  rcases h with ⟨h, _⟩ | h
  · omega
  · exact h
/-- All places, where each is one (of one octet again and again). -/
theorem cntM_all {mt : Nat → Bool} {c : Nat} (h : ∀ a, a < c → mt a = true) : cntM mt c = c := by
  induction c with
  | zero => rfl
  | succ c ih => rw [cntM_succ, ih (fun a ha => h a (by omega)), h c (by omega)]; simp
theorem cntM_zeros {m n : Nat} {p t : Nat → UInt8} (h : ∀ x, p x = t 0) (h2 : ∀ x, t x = t 0) : cntM (mtB m n p t) (n + 1) = n + 1 - m := by
  by_cases hm : m ≤ n
  · rw [cntM_to (a := n + 1 - m) (mtB m n p t) (by omega) (fun c h1 h2 => by unfold mtB; simp; intro h3; omega)]
    exact cntM_all fun a ha => mtB_iff.2 ⟨by omega, fun x _ => by rw [h, h2 (a + x)]⟩
  · rw [cntM_to (a := 0) (mtB m n p t) (by omega) (fun c h1 h2 => by unfold mtB; simp; intro h3; omega)]
    have : n + 1 - m = 0 := by omega
    rw [this]; rfl
end Go.Proofs.YtpcbfmbpbegjgaaGreat
end
section
namespace Go.Proofs.YtpcbfmbpbegjgaaGreat
open Go.RowKit
set_option linter.unusedVariables false
set_option linter.unusedSimpArgs false
set_option maxRecDepth 100000

theorem idxC {l : List UInt8} {i : Nat} {c : UInt8} (hc : l[i]? = some c) : ∀ (h : i < (⟨l.toArray⟩ : ByteArray).size), (⟨l.toArray⟩ : ByteArray)[i]'h = c := fun h => by
  have := (List.getElem?_eq_some_iff.1 hc).2
  simpa [ByteArray.getElem_eq_getElem_data] using this
def atB (l : List UInt8) (x : Nat) : UInt8 := l.getD x 0
theorem atB_some {l : List UInt8} {i : Nat} {c : UInt8} (hc : l[i]? = some c) : atB l i = c := by unfold atB; rw [List.getD_eq_getElem?_getD, hc]; rfl
/-- The numbers of the borders lie there. -/
structure BdAt (W : World) (g n : Nat) (b : Nat → Nat) : Prop where
  cell : ∀ j, j ≤ n → W.cell? ⟨g, j, none⟩ = some (.int .i64 (b j))
  frz : ∀ x, W.frozen? ⟨g, x, none⟩ = false
theorem BdAt.lt {W : World} {g n : Nat} {b : Nat → Nat} (h : BdAt W g n b) : g < W.heap.size := lt_of_cell (h.cell 0 (by omega))
theorem BdAt.keep {W W' : World} {g n : Nat} {b : Nat → Nat} (h : BdAt W g n b) (K : Keeps (fun _ => False) W W') : BdAt W' g n b :=
  ⟨fun j hj => K.cell (h.cell j hj) id, fun x => K.frozen (h.frz x) h.lt id⟩
theorem BdAt.set {W : World} {g n : Nat} {b : Nat → Nat} (h : BdAt W g n b) {j k : Nat} (hj : j ≤ n) : BdAt (W.setCell ⟨g, j, none⟩ (.int .i64 k)) g n (fun x => if x = j then k else b x) := by
  refine ⟨fun x hx => ?_, fun x => by rw [frozen_set]; exact h.frz x⟩
  by_cases hxj : x = j
  · subst hxj; simp only [if_pos]; exact cell_set_same (h.cell x hx)
  · rw [if_neg hxj, cell_set_other (by intro e; injection e with _ e; exact hxj e.symm)]; exact h.cell x hx
theorem info_intC : (Tryz.prog.info? 3).map (fun i => (i.zero, i.size, i.bytes)) = some (some (.int .i64 0), 1, 8) := by kernel_rfl
/-- At the outer loop's head: up to i. -/
def BdR (p : List UInt8) (w : World) (g : Nat) (kv iv : Value) (wr : World) : Prop :=
  ∃ (k i : Nat) (b : Nat → Nat), kv = .int .i64 k ∧ iv = .int .i64 i ∧ 1 ≤ i ∧ i ≤ p.length ∧ BdAt wr g p.length b ∧ (∀ j, 1 ≤ j → j ≤ i → Lgst p.length (atB p) (atB p) 1 j (b j)) ∧ b i = k ∧ (∀ j, i < j → b j = 0) ∧ Keeps (fun b => b = g) w wr
/-- Within. -/
def BdI (p : List UInt8) (wr : World) (i : Nat) (kv : Value) (wk : World) : Prop :=
  ∃ k : Nat, kv = .int .i64 k ∧ Inn p.length (atB p) (atB p) 1 i k ∧ Keeps (fun _ => False) wr wk
def BdE (p : List UInt8) (w : World) (e : Ending) (w' : World) : Prop :=
  ∃ g b, e = .returned (.slice (some ⟨g, 0, none⟩) (p.length + 1) (p.length + 1)) ∧ w.heap.size ≤ g ∧ BdAt w' g p.length b ∧ (∀ j, 1 ≤ j → j ≤ p.length → Lgst p.length (atB p) (atB p) 1 j (b j)) ∧ Keeps (fun _ => False) w w'
theorem bd_next {p : List UInt8} {w3 wk : World} {g i k' : Nat} {b : Nat → Nat} {kv iv : Value} (hB : BdAt wk g p.length b) (hL : ∀ j, 1 ≤ j → j ≤ i → Lgst p.length (atB p) (atB p) 1 j (b j))
    (hN : Lgst p.length (atB p) (atB p) 1 (i + 1) k') (h0 : ∀ j, i < j → b j = 0) (hK : Keeps (fun b => b = g) w3 wk) (hi : i < p.length) (hk : kv = .int .i64 k') (hiv : iv = .int .i64 ((i + 1 : Nat) : Int)) :
    BdR p w3 g kv iv (wk.setCell ⟨g, i + 1, none⟩ (.int .i64 k')) := by
  refine ⟨k', i + 1, _, hk, hiv, by omega, by omega, hB.set (by omega), fun j h1 h2 => ?_, by simp, fun j hj => ?_, hK.set (p := ⟨g, i + 1, none⟩) rfl _⟩
  · by_cases hj : j = i + 1
    · subst hj; simpa using hN
    · rw [if_neg hj]; exact hL j h1 (by omega)
  · rw [if_neg (by omega)]; exact h0 j (by omega)
set_option maxHeartbeats 4000000 in
theorem borders_any (p : List UInt8) (w : World) (h0 : 0 < p.length) (hp : p.length ≤ 1000) : Calls Tryz.prog 81 #[.string ⟨p.toArray⟩] w fun e w' => BdE p w e w' := by
  obtain ⟨i0, hi, hz0, hz1, hz2⟩ := info_parts info_intC
  go_enter Tryz.func81, Tryz.ntmps81
  go_wp2_with (at_make; refine wpList_make_full _ rfl _ _ 58 rfl w.heap.size 3 i0 _ 1 Tryz.underlying58 hi hz0 hz1 .i64 .i64 _ _ (p.length + 1) rfl rfl ?k1 ?k2 ?k3 ?k4 ?k5 ?_)
  case k1 => first | rfl | omega | (simp; done)
  case k2 => first | rfl | omega | (simp; done)
  case k3 => rw [hz2]; omega
  case k4 => unfold maxLen; omega
  case k5 => exact Nat.le_refl _
  intro w3 hown hg3
  have hk3 : Keeps (fun _ => False) w w3 := (Keeps.refl _ _).grown hg3 (by simp)
  have hB : BdAt w3 w.heap.size p.length (fun _ => 0) := by
    refine ⟨fun j hj => ?_, hown.frozenAt⟩
    rw [hown.cellAt j (by omega), toList_madeCells_one]
    simp [List.getElem?_replicate]; omega
  have HB := Lib.hid hB
  have HK := Lib.hid hk3
  clear hB hk3 hown hg3
  obtain ⟨g, hg⟩ : ∃ g, w.heap.size = g := ⟨_, rfl⟩
  have Hg := Lib.hid hg
  rw [hg] at HB ⊢
  clear hg
  go_wp2_with fail
  go_loopw [4, 5] (fun kv iv wr => BdR p w3 g kv iv wr) (fun _ iv _ => p.length + 1 - (intOf iv).toNat)
  case atStart => 
    refine ⟨0, 1, fun _ => 0, rfl, rfl, by omega, by omega, HB.out, ?_, rfl, fun _ _ => rfl, Keeps.refl _ _⟩
    intro j h1 h2
    obtain rfl : 1 = j := by omega
    exact Lgst.start _ _ _ _
  case round =>
    obtain ⟨k, i, b, rfl, rfl, hi1, hi2, hB, hL, hbi, hb0, hK⟩ := hrel
    by_cases hil : i < p.length
    · have hLi := hL i hi1 (Nat.le_refl _)
      rw [hbi] at hLi
      have hki := hLi.suf.1
      have HLi := Lib.hid hLi.inn
      have HB1 := Lib.hid hB
      have HL := Lib.hid hL
      have Hb0 := Lib.hid hb0
      have HK1 := Lib.hid hK
      obtain ⟨d, hd⟩ : ∃ d, p[i]? = some d := ⟨_, List.getElem?_eq_getElem hil⟩
      have hdi := idxC hd
      have Hd := Lib.hid (atB_some hd)
      have hid : decide ((i : Int) < (p.length : Int)) = true := by simpa using hil
      have hid0 : (i : Int) < (p.length : Int) := by omega
      obtain ⟨wR, hwR⟩ : ∃ W, W = wr := ⟨wr, rfl⟩
      subst hwR
      clear hd hLi hbi hB hL hb0 hK
      go_wp2_with fail
      go_loopw [4] (fun kv wk => BdI p wR i kv wk) (fun kv _ => (intOf kv).toNat)
      case atStart => exact ⟨k, rfl, HLi.out, Keeps.refl _ _⟩
      case round =>
        obtain ⟨k2, rfl, hI, hk2⟩ := hrel
        have hk2i := hI.suf.1
        have hk2l : k2 < p.length := by omega
        obtain ⟨c, hc⟩ : ∃ c, p[k2]? = some c := ⟨_, List.getElem?_eq_getElem hk2l⟩
        have hci := idxC hc
        have Hc := Lib.hid (atB_some hc)
        have HI := Lib.hid hI
        have HBk := Lib.hid (HB1.out.keep hk2)
        have HK2 := Lib.hid hk2
        have h1 : (k2 : Int) < (p.length : Int) := by omega
        clear hc hI hk2
        have hfr := HBk.out.frz
        have hcn := HBk.out.cell (i + 1) (by omega)
        have hix : (i : Int) + 1 < (p.length : Int) + 1 := by omega
        by_cases hcd : c = d
        · subst hcd
          have HN := Lib.hid (HI.out.hit hk2l (by rw [Hc.out, Hd.out]))
          by_cases hz : k2 = 0
          · subst hz
            go_wp2_with fail
            go_quiet (fail)
            go_wp2_with fail
            go_quiet (fail)
            go_wp2_with fail
            go_roundw
            case rel => exact bd_next (k' := 0 + 1) (HBk.out.keep ((Keeps.refl _ _).drawN _)) HL.out HN.out Hb0.out ((HK1.out.trans (HK2.out.mono (fun _ _ e => e.elim))).drawN _) hil (by go_num) (by go_num)
            case measure => simp [intOf]; omega
          · have hz0 : decide (0 < k2) = true := by simp; omega
            go_wp2_with fail
            go_quiet (fail)
            go_wp2_with fail
            go_quiet (fail)
            go_wp2_with fail
            go_roundw
            case rel => exact bd_next (k' := k2 + 1) (HBk.out.keep ((Keeps.refl _ _).drawN _)) HL.out HN.out Hb0.out ((HK1.out.trans (HK2.out.mono (fun _ _ e => e.elim))).drawN _) hil (by go_num) (by go_num)
            case measure => simp [intOf]; omega
        · have hne : ((c.toNat : Int) != (d.toNat : Int)) = true := by
            simp; intro e; exact hcd (UInt8.toNat_inj.1 (by omega))
          have hne2 : ((c.toNat : Int) == (d.toNat : Int)) = false := by
            simp; intro e; exact hcd (UInt8.toNat_inj.1 (by omega))
          by_cases hz : k2 = 0
          · subst hz
            have HN := Lib.hid (HI.out.miss (by rw [Hc.out, Hd.out]; exact hcd))
            go_wp2_with fail
            go_quiet (fail)
            go_wp2_with fail
            go_quiet (fail)
            go_wp2_with fail
            go_roundw
            case rel => exact bd_next (k' := 0) (HBk.out.keep ((Keeps.refl _ _).drawN _)) HL.out HN.out Hb0.out ((HK1.out.trans (HK2.out.mono (fun _ _ e => e.elim))).drawN _) hil (by go_num) (by go_num)
            case measure => simp [intOf]; omega
          · have hz0 : decide (0 < k2) = true := by simp; omega
            have hLk := HL.out k2 (by omega) (by omega)
            have hbk := hLk.suf.1
            have HS := Lib.hid (HI.out.step (by omega) (Or.inr (by rw [Hc.out, Hd.out]; exact hcd)) hLk)
            have hck := HBk.out.cell k2 (by omega)
            have hix2 : (k2 : Int) < (p.length : Int) + 1 := by omega
            clear hLk
            go_wp2_with fail
            go_quiet (fail)
            go_wp2_with fail
            go_roundw
            case rel => exact ⟨b k2, by go_num, HS.out, HK2.out.drawN _⟩
            case measure => simp [intOf]; omega
    · obtain rfl : i = p.length := by omega
      have hdn : decide ((p.length : Int) < (p.length : Int)) = false := by simp
      have HL := Lib.hid hL
      have HB1 := Lib.hid hB
      have HK1 := Lib.hid hK
      clear hL hB hK hb0 hbi
      go_wp2_with fail
      go_ret
      exact ⟨g, b, rfl, by rw [← Hg.out]; exact Nat.le_refl _, HB1.out, HL.out, HK.out.trans2 HK1.out (fun b hb e => by have := Hg.out; omega)⟩
end Go.Proofs.YtpcbfmbpbegjgaaGreat
end
