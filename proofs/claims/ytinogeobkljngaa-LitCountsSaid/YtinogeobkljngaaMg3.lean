/-
  Several texts in one: The document's Put. code.Put: a code point's octets. Printed by mk_put.py.
-/
import Derived.Test.YtinogeobkljngaaMg2
import Derived.RegionTactic
import Derived.BigRegion
section
namespace Go.Proofs.Ytinogeobkljngaa
open Go.RowKit
set_option linter.unusedVariables false
set_option linter.unusedSimpArgs false
set_option maxRecDepth 100000

/-! ### Octets of a code point -/
def lowB (r : Nat) : Nat → List UInt8
  | 0 => []
  | i + 1 => UInt8.ofNat (128 + r / 64 ^ i % 64) :: lowB r i
theorem lowB_len (r i : Nat) : (lowB r i).length = i := by induction i with | zero => rfl | succ i ih => simp [lowB, ih]
def putP (r : Nat) : List UInt8 :=
  if r < 128 then [UInt8.ofNat r] else if r < 2048 then UInt8.ofNat (192 + r / 64) :: lowB r 1 else if r < 65536 then UInt8.ofNat (224 + r / 4096) :: lowB r 2 else UInt8.ofNat (240 + r / 262144) :: lowB r 3
def PutR (r : Nat) (k : Nat) (rv sv iv : Value) : Prop := ∃ i : Nat, iv = .int .i64 i ∧ 1 ≤ i ∧ i ≤ k ∧ rv = .int .i64 ((r / 64 ^ (i - 1) : Nat) : Int) ∧ sv = .string ⟨(lowB r (i - 1)).toArray⟩
theorem u8_of {n : Nat} (h : n < 256) : ((UInt8.ofNat n).toNat : Int) = (n : Int) := by rw [UInt8.toNat_ofNat_of_lt' (by show n < 256; exact h)]
set_option maxHeartbeats 4000000 in
theorem rPut_any (r : Nat) (w : World) (hb : isB (r : Int) = true) : Calls Try.prog 23 #[.int .i64 r] w fun e w' => e = .returned (strL (putP r)) ∧ Keeps (fun _ => False) w w' := by
  have hr : r ≤ 1114111 := by simp [isB] at hb; omega
  have HI := Lib.hid (fun W => rIs_any (r : Int) W)
  have HSz := Lib.hid (fun W => rSize_any (r : Int) W hb)
  have hsz : sizP (r : Int) = if (r : Int) < 128 then 1 else if (r : Int) < 2048 then 2 else if (r : Int) < 65536 then 3 else 4 := by unfold sizP; rw [hb]; rfl
  rw [hb] at HI
  clear hb
  by_cases h1 : r < 128
  · rw [if_pos (by omega)] at hsz
    rw [hsz] at HSz
    have HD : Hid (putP r = [UInt8.ofNat r]) := Lib.hid (by unfold putP; rw [if_pos h1])
    have hcv := back1 w (UInt8.ofNat r)
    rw [u8_of (by omega)] at hcv
    have u1 : IntKind.u8.wrap (r : Int) = (r : Int) := by rw [IntKind.wrap_u8]; omega
    clear hsz
    generalize UInt8.ofNat r = c at *
    generalize putP r = D at *
    go_enter Try.func23, Try.ntmps23
    go_wp2_with fail
    refine (HI.out _).mono ?_
    rintro e w1 ⟨rfl, rfl⟩
    go_wp2_with fail
    refine (HSz.out _).mono ?_
    rintro e w1 ⟨rfl, rfl⟩
    go_wp2_with fail
    go_ret
    exact ⟨by rw [HD.out]; rfl, by (repeat' (with_reducible first | exact Keeps.refl _ _ | assumption | refine Keeps.drawN ?_ _ | refine Keeps.drew ?_ | refine Keeps.setCell ?_ ?_ _ | refine Keeps.alloc ?_ _)) <;> (first | exact Or.inr (Nat.le_refl _) | exact Or.inl rfl | exact Or.inl (Or.inl rfl) | exact Or.inl (Or.inr rfl) | (right; simp; done) | (right; simp; omega))⟩
  · rw [if_neg (by omega)] at hsz
    obtain ⟨k, F, hk, hF, hput, hk2, hfb⟩ : ∃ k F : Nat, sizP (r : Int) = (k : Int) ∧ ((k = 2 ∧ F = 192) ∨ (k = 3 ∧ F = 224) ∨ (k = 4 ∧ F = 240)) ∧ putP r = UInt8.ofNat (F + r / 64 ^ (k - 1)) :: lowB r (k - 1) ∧ 2 ≤ k ∧ F + r / 64 ^ (k - 1) < 256 := by
      by_cases h2 : r < 2048
      · rw [if_pos (by omega)] at hsz
        exact ⟨2, 192, hsz, Or.inl ⟨rfl, rfl⟩, by unfold putP; rw [if_neg h1, if_pos h2], by omega, by simp; omega⟩
      · rw [if_neg (by omega)] at hsz
        by_cases h3 : r < 65536
        · rw [if_pos (by omega)] at hsz
          exact ⟨3, 224, hsz, Or.inr (Or.inl ⟨rfl, rfl⟩), by unfold putP; rw [if_neg h1, if_neg h2, if_pos h3], by omega, by simp; omega⟩
        · rw [if_neg (by omega)] at hsz
          exact ⟨4, 240, hsz, Or.inr (Or.inr ⟨rfl, rfl⟩), by unfold putP; rw [if_neg h1, if_neg h2, if_neg h3], by omega, by simp; omega⟩
    have hk4 : k ≤ 4 := by omega
    rw [hk] at HSz
    have gk1 : ((k : Int) == 1) = false := beq_eq_false_iff_ne.2 (by omega)
    have HPut := Lib.hid hput
    have HFB := Lib.hid hfb
    have HF := Lib.hid hF
    clear hsz hk hput hfb hF
    go_enter Try.func23, Try.ntmps23
    go_wp2_with fail
    refine (HI.out _).mono ?_
    rintro e w1 ⟨rfl, rfl⟩
    go_wp2_with fail
    refine (HSz.out _).mono ?_
    rintro e w1 ⟨rfl, rfl⟩
    go_wp2_with fail
    go_loopw [0, 4, 5] (fun rv sv iv wr => PutR r k rv sv iv ∧ Keeps (fun _ => False) w wr) (fun _ _ iv _ => k + 1 - (intOf iv).toNat)
    case atStart => exact ⟨⟨1, rfl, by omega, by omega, by simp, rfl⟩, Keeps.refl _ _⟩
    case round =>
      obtain ⟨⟨i, rfl, hi1, hi2, rfl, rfl⟩, hkw⟩ := hrel
      have K := Lib.hid hkw
      have hlb := lowB_len r (i - 1)
      clear hkw
      by_cases hik : i < k
      · have hcv := back1 wr (UInt8.ofNat (128 + r / 64 ^ (i - 1) % 64))
        have hmod : r / 64 ^ (i - 1) % 64 < 64 := Nat.mod_lt _ (by omega)
        rw [u8_of (by omega)] at hcv
        have e2 : r / 64 ^ (i - 1) / 64 = r / 64 ^ i := by
          rw [Nat.div_div_eq_div_mul]; congr 1
          obtain ⟨j, rfl⟩ : ∃ j, i = j + 1 := ⟨i - 1, by omega⟩
          rw [Nat.add_sub_cancel, Nat.pow_succ]
        have e3 : lowB r i = UInt8.ofNat (128 + r / 64 ^ (i - 1) % 64) :: lowB r (i - 1) := by
          obtain ⟨j, rfl⟩ : ∃ j, i = j + 1 := ⟨i - 1, by omega⟩
          rfl
        have hq : r / 64 ^ (i - 1) ≤ 1114111 := Nat.le_trans (Nat.div_le_self _ _) hr
        have E2 := Lib.hid e2
        have E3 := Lib.hid e3
        clear e2 e3
        generalize UInt8.ofNat (128 + r / 64 ^ (i - 1) % 64) = c at *
        generalize hQ : r / 64 ^ (i - 1) = Q at *
        generalize lowB r (i - 1) = LB at *
        push_cast at hcv
        obtain ⟨M, hM⟩ : ∃ M, (Q : Int) % 64 = M := ⟨_, rfl⟩
        obtain ⟨D, hD⟩ : ∃ D, Q / 64 = D := ⟨_, rfl⟩
        have hM1 : 0 ≤ M ∧ M ≤ 63 := by omega
        have t1 : (Q : Int).tmod 64 = M := by rw [Int.tmod_eq_emod_of_nonneg (by omega), hM]
        have t2 : (Q : Int).tdiv 64 = (D : Int) := by rw [Int.tdiv_eq_ediv_of_nonneg (by omega), ← hD]; omega
        rw [hM] at hcv
        rw [hD] at E2
        have hD1 : D ≤ 1114111 := by omega
        have e6 : wrap64 M = M := by unfold wrap64; omega
        have e7 : wrap64 (128 + M) = 128 + M := by unfold wrap64; omega
        have e8 : (128 + M) % 256 = 128 + M := by omega
        clear hM hD hmod
        clear hQ
        go_wp2_with fail
        go_roundw
        case rel =>
          refine ⟨⟨i + 1, by go_num, by omega, by omega, ?_, ?_⟩, K.out.alloc _⟩
          · rw [Nat.add_sub_cancel, ← E2.out]
          · rw [Nat.add_sub_cancel, E3.out]; first | rfl | (refine congrArg Value.string ?_; apply ByteArray.ext; simp [ByteArray.data_append])
        case measure => simp [intOf]; omega
      · have he : i = k := by omega
        subst he
        have hcv := back1 wr (UInt8.ofNat (F + r / 64 ^ (i - 1)))
        rw [u8_of HFB.out] at hcv
        have hfb := HFB.out
        have hF := HF.out
        rw [Int.natCast_add] at hcv
        generalize UInt8.ofNat (F + r / 64 ^ (i - 1)) = c at *
        generalize r / 64 ^ (i - 1) = Q at *
        generalize lowB r (i - 1) = LB at *
        rcases hF with ⟨rfl, rfl⟩ | ⟨rfl, rfl⟩ | ⟨rfl, rfl⟩
        · rw [show ((192 : Nat) : Int) = 192 from rfl] at hcv
          have e7 : wrap64 (192 + (Q : Int)) = 192 + (Q : Int) := by unfold wrap64; omega
          have e8 : (192 + (Q : Int)) % 256 = 192 + (Q : Int) := by omega
          go_wp2_with fail
          go_ret
          refine ⟨?_, K.out.alloc _⟩
          rw [HPut.out]; unfold strL
          first | rfl | (refine congrArg Ending.returned (congrArg Value.string ?_); apply ByteArray.ext; simp [ByteArray.data_append])
        · rw [show ((224 : Nat) : Int) = 224 from rfl] at hcv
          have e7 : wrap64 (224 + (Q : Int)) = 224 + (Q : Int) := by unfold wrap64; omega
          have e8 : (224 + (Q : Int)) % 256 = 224 + (Q : Int) := by omega
          go_wp2_with fail
          go_ret
          refine ⟨?_, K.out.alloc _⟩
          rw [HPut.out]; unfold strL
          first | rfl | (refine congrArg Ending.returned (congrArg Value.string ?_); apply ByteArray.ext; simp [ByteArray.data_append])
        · rw [show ((240 : Nat) : Int) = 240 from rfl] at hcv
          have e7 : wrap64 (240 + (Q : Int)) = 240 + (Q : Int) := by unfold wrap64; omega
          have e8 : (240 + (Q : Int)) % 256 = 240 + (Q : Int) := by omega
          go_wp2_with fail
          go_ret
          refine ⟨?_, K.out.alloc _⟩
          rw [HPut.out]; unfold strL
          first | rfl | (refine congrArg Ending.returned (congrArg Value.string ?_); apply ByteArray.ext; simp [ByteArray.data_append])
end Go.Proofs.Ytinogeobkljngaa
end
section
namespace Go.Proofs.Ytinogeobkljngaa
open Go.RowKit
set_option linter.unusedVariables false
set_option linter.unusedSimpArgs false
set_option maxRecDepth 100000

theorem info_u8p : (Try.prog.info? 5).map (fun i => (i.zero, i.size, i.bytes)) = some (some (.int .u8 0), 1, 1) := by kernel_rfl
theorem own_oneB (w : World) (x : Value) (e : TypeId) : (w.alloc (.cells #[x] e)).ownsRow w.heap.size e 1 (.slice (some ⟨w.heap.size, 0, none⟩) 1 1) 1 [x] :=
  ⟨rfl, Or.inr ⟨_, 1, #[x], rfl, Nat.le_refl _, by simp [World.alloc, -World.alloc_eq], by omega, by unfold maxLen; omega, rfl, rfl⟩⟩
def u8V (c : UInt8) : Value := .int .u8 (c.toNat : Int)
/-- Octets in a row of one's own. -/
def OwnB (base : Nat) (w : World) (v : Value) (l : List UInt8) : Prop := w.ownsRow base 5 1 v l.length (l.map u8V)
/-- What Put answers. -/
def PutE (w : World) (l : List UInt8) (e : Ending) (w' : World) : Prop := ∃ v, e = .returned v ∧ OwnB w.heap.size w' v l ∧ Keeps (fun _ => False) w w'
theorem own_keepB {w w' : World} {base : Nat} {e : TypeId} {size : Nat} {v : Value} {n : Nat} {xs : List Value} (h : w.ownsRow base e size v n xs) (K : Keeps (fun _ => False) w w') : w'.ownsRow base e size v n xs := by
  refine ⟨h.1, ?_⟩
  rcases h.2 with h0 | ⟨g, cap, cur, rfl, hg, hh, hr⟩
  · exact Or.inl h0
  · exact Or.inr ⟨g, cap, cur, rfl, hg, K.heap hh id, hr⟩
theorem u8o (n : Nat) (h : n < 256) : Value.int .u8 (n : Int) = u8V (UInt8.ofNat n) := by
  unfold u8V; rw [UInt8.toNat_ofNat_of_lt' (by show n < 256; exact h)]
theorem u8i {z : Int} (n : Nat) (h : n < 256) (e : z = (n : Int)) : Value.int .u8 z = u8V (UInt8.ofNat n) := by rw [e, u8o n h]
set_option maxHeartbeats 1000000 in
theorem put1 (r : Nat) (w : World) (hb : isB (r : Int) = true) (h1 : r < 128) : Calls Try.prog 17 #[.int .i64 r] w fun e w' => PutE w (putP r) e w' := by
  have HI := Lib.hid (fun W => is_any (r : Int) W)
  have HSz := Lib.hid (fun W => size_any (r : Int) W)
  have hsz : sizP (r : Int) = 1 := by unfold sizP; rw [hb]; simp only [if_true]; rw [if_pos (by omega)]
  rw [hb] at HI
  rw [hsz] at HSz
  have HP : Hid ([Value.int .u8 (r : Int)] = (putP r).map u8V) := Lib.hid (by unfold putP; rw [if_pos (by omega), u8o r (by omega)]; rfl)
  have u1 : IntKind.u8.wrap (r : Int) = (r : Int) := by rw [IntKind.wrap_u8]; omega
  clear hb hsz
  go_enter Try.func17, Try.ntmps17
  go_wp2_with fail
  refine (HI.out _).mono ?_
  rintro e w1 ⟨rfl, rfl⟩
  go_wp2_with fail
  refine (HSz.out _).mono ?_
  rintro e w1 ⟨rfl, rfl⟩
  go_wp2_with fail
  go_ret
  refine ⟨_, rfl, ?_, by (repeat' (with_reducible first | exact Keeps.refl _ _ | assumption | refine Keeps.drawN ?_ _ | refine Keeps.drew ?_ | refine Keeps.setCell ?_ ?_ _ | refine Keeps.alloc ?_ _)) <;> (first | exact Or.inr (Nat.le_refl _) | exact Or.inl rfl | exact Or.inl (Or.inl rfl) | exact Or.inl (Or.inr rfl) | (right; simp; done) | (right; simp; omega))⟩
  unfold OwnB
  rw [← HP.out, show (putP r).length = 1 by have := congrArg List.length HP.out; simpa using this.symm]
  exact own_oneB _ _ _

set_option maxHeartbeats 4000000 in
theorem put2 (r : Nat) (w : World) (hb : isB (r : Int) = true) (h1 : 128 ≤ r) (h2 : r < 2048) : Calls Try.prog 17 #[.int .i64 r] w fun e w' => PutE w (putP r) e w' := by
  obtain ⟨i0, hi0, hz0, hz1, hz2⟩ := info_parts info_u8p
  have HI := Lib.hid (fun W => is_any (r : Int) W)
  have HSz := Lib.hid (fun W => size_any (r : Int) W)
  have hsz : sizP (r : Int) = 2 := by unfold sizP; rw [hb]; simp only [if_true]; rw [if_neg (by omega), if_pos (by omega)]
  rw [hb] at HI
  rw [hsz] at HSz
  have HP : Hid ([Value.int .u8 (192 + (r : Int) / 64), Value.int .u8 (128 + (r : Int) % 64)] = (putP r).map u8V) := Lib.hid (by
    have e : putP r = [UInt8.ofNat (192 + r / 64), UInt8.ofNat (128 + r % 64)] := by
      unfold putP; rw [if_neg (by omega), if_pos (by omega)]; simp only [lowB, Nat.pow_zero, Nat.div_one, Nat.pow_one, show 64 ^ 2 = 4096 from rfl]
    rw [e]
    simp only [List.map_cons, List.map_nil]
    rw [u8i (192 + r / 64) (by omega) (by omega), u8i (128 + r % 64) (by omega) (by omega)])
  clear hb hsz
  go_enter Try.func17, Try.ntmps17
  go_wp2_with fail
  refine (HI.out _).mono ?_
  rintro e w1 ⟨rfl, rfl⟩
  go_wp2_with fail
  refine (HSz.out _).mono ?_
  rintro e w1 ⟨rfl, rfl⟩
  go_wp2_with fail
  go_region
  obtain ⟨W0, hW0⟩ : ∃ W, W = (w.alloc (.cells #[Value.int .u8 (192 + (r : Int) / 64)] 5)).drew := ⟨_, rfl⟩
  have O0 : Hid (W0.ownsRow w.heap.size 5 1 (.slice (some ⟨w.heap.size, 0, none⟩) 1 1) 1 [Value.int .u8 (192 + (r : Int) / 64)]) := Lib.hid (by rw [hW0]; exact own_oneB w _ _)
  have K0 : Hid (Keeps (fun _ => False) w W0) := Lib.hid (by rw [hW0]; (repeat' (with_reducible first | exact Keeps.refl _ _ | assumption | refine Keeps.drawN ?_ _ | refine Keeps.drew ?_ | refine Keeps.setCell ?_ ?_ _ | refine Keeps.alloc ?_ _)) <;> (first | exact Or.inr (Nat.le_refl _) | exact Or.inl rfl | exact Or.inl (Or.inl rfl) | exact Or.inl (Or.inr rfl) | (right; simp; done) | (right; simp; omega)))
  have N0 : Hid (w.heap.size < W0.heap.size) := Lib.hid (by rw [hW0]; simp)
  rw [← hW0]
  clear hW0
  go_wp2_with (at_builtin; refine wpList_append_own _ rfl (.tmp 47) (.tmp 52) 25 rfl w.heap.size 5 i0 (.int .u8 0) 1 1 Try.underlying25 hi0 hz0 hz1 hz2 rfl (by decide) _ _ _ rfl (O0.out.alloc _) ⟨W0.heap.size, 0, none⟩ 1 1 [Value.int .u8 (128 + (r : Int) % 64)] rfl rfl (by exact cells_new _ [_] _) (by intro u hu; simp at hu; subst hu; rfl) ?d3 ?d4 ?d5 ?_)
  case d3 => unfold maxLen; omega
  case d4 => omega
  case d5 => have := N0.out; simp; omega
  intro v1 W1 hown hgrow _
  have O1 : Hid (W1.ownsRow w.heap.size 5 1 v1 2 [Value.int .u8 (192 + (r : Int) / 64), Value.int .u8 (128 + (r : Int) % 64)]) := Lib.hid hown
  have K1 : Hid (Keeps (fun _ => False) w W1) := Lib.hid (K0.out.trans2 (((Keeps.refl (fun b => w.heap.size ≤ b) W0).alloc _).grown hgrow (fun b hb => Or.inl (ownBlock_base O0.out b hb))) (fun b hb e => by omega))
  have N1 : Hid (w.heap.size < W1.heap.size) := Lib.hid (by have := N0.out; have := ((((Keeps.refl (fun b => w.heap.size ≤ b) W0).alloc (.cells #[Value.int .u8 (128 + (r : Int) % 64)] 5)).grown hgrow (fun b hb => Or.inl (ownBlock_base O0.out b hb)))).size; omega)
  clear hown hgrow
  go_wp2_with fail
  go_ret
  refine ⟨_, rfl, ?_, K1.out⟩
  unfold OwnB
  rw [← HP.out, show (putP r).length = 2 by have := congrArg List.length HP.out; simpa using this.symm]
  exact O1.out

set_option maxHeartbeats 4000000 in
theorem put3 (r : Nat) (w : World) (hb : isB (r : Int) = true) (h1 : 2048 ≤ r) (h2 : r < 65536) : Calls Try.prog 17 #[.int .i64 r] w fun e w' => PutE w (putP r) e w' := by
  obtain ⟨i0, hi0, hz0, hz1, hz2⟩ := info_parts info_u8p
  have HI := Lib.hid (fun W => is_any (r : Int) W)
  have HSz := Lib.hid (fun W => size_any (r : Int) W)
  have hsz : sizP (r : Int) = 3 := by unfold sizP; rw [hb]; simp only [if_true]; rw [if_neg (by omega), if_neg (by omega), if_pos (by omega)]
  rw [hb] at HI
  rw [hsz] at HSz
  have HP : Hid ([Value.int .u8 (224 + (r : Int) / 4096), Value.int .u8 (128 + (r : Int) / 64 % 64), Value.int .u8 (128 + (r : Int) % 64)] = (putP r).map u8V) := Lib.hid (by
    have e : putP r = [UInt8.ofNat (224 + r / 4096), UInt8.ofNat (128 + r / 64 % 64), UInt8.ofNat (128 + r % 64)] := by
      unfold putP; rw [if_neg (by omega), if_neg (by omega), if_pos (by omega)]; simp only [lowB, Nat.pow_zero, Nat.div_one, Nat.pow_one, show 64 ^ 2 = 4096 from rfl]
    rw [e]
    simp only [List.map_cons, List.map_nil]
    rw [u8i (224 + r / 4096) (by omega) (by omega), u8i (128 + r / 64 % 64) (by omega) (by omega), u8i (128 + r % 64) (by omega) (by omega)])
  clear hb hsz
  go_enter Try.func17, Try.ntmps17
  go_wp2_with fail
  refine (HI.out _).mono ?_
  rintro e w1 ⟨rfl, rfl⟩
  go_wp2_with fail
  refine (HSz.out _).mono ?_
  rintro e w1 ⟨rfl, rfl⟩
  go_wp2_with fail
  go_region
  obtain ⟨W0, hW0⟩ : ∃ W, W = (w.alloc (.cells #[Value.int .u8 (224 + (r : Int) / 4096)] 5)).drew := ⟨_, rfl⟩
  have O0 : Hid (W0.ownsRow w.heap.size 5 1 (.slice (some ⟨w.heap.size, 0, none⟩) 1 1) 1 [Value.int .u8 (224 + (r : Int) / 4096)]) := Lib.hid (by rw [hW0]; exact own_oneB w _ _)
  have K0 : Hid (Keeps (fun _ => False) w W0) := Lib.hid (by rw [hW0]; (repeat' (with_reducible first | exact Keeps.refl _ _ | assumption | refine Keeps.drawN ?_ _ | refine Keeps.drew ?_ | refine Keeps.setCell ?_ ?_ _ | refine Keeps.alloc ?_ _)) <;> (first | exact Or.inr (Nat.le_refl _) | exact Or.inl rfl | exact Or.inl (Or.inl rfl) | exact Or.inl (Or.inr rfl) | (right; simp; done) | (right; simp; omega)))
  have N0 : Hid (w.heap.size < W0.heap.size) := Lib.hid (by rw [hW0]; simp)
  rw [← hW0]
  clear hW0
  go_wp2_with (at_builtin; refine wpList_append_own _ rfl (.tmp 39) (.tmp 45) 25 rfl w.heap.size 5 i0 (.int .u8 0) 1 1 Try.underlying25 hi0 hz0 hz1 hz2 rfl (by decide) _ _ _ rfl (O0.out.alloc _) ⟨W0.heap.size, 0, none⟩ 1 1 [Value.int .u8 (128 + (r : Int) / 64 % 64)] rfl rfl (by exact cells_new _ [_] _) (by intro u hu; simp at hu; subst hu; rfl) ?d3 ?d4 ?d5 ?_)
  case d3 => unfold maxLen; omega
  case d4 => omega
  case d5 => have := N0.out; simp; omega
  intro v1 W1 hown hgrow _
  have O1 : Hid (W1.ownsRow w.heap.size 5 1 v1 2 [Value.int .u8 (224 + (r : Int) / 4096), Value.int .u8 (128 + (r : Int) / 64 % 64)]) := Lib.hid hown
  have K1 : Hid (Keeps (fun _ => False) w W1) := Lib.hid (K0.out.trans2 (((Keeps.refl (fun b => w.heap.size ≤ b) W0).alloc _).grown hgrow (fun b hb => Or.inl (ownBlock_base O0.out b hb))) (fun b hb e => by omega))
  have N1 : Hid (w.heap.size < W1.heap.size) := Lib.hid (by have := N0.out; have := ((((Keeps.refl (fun b => w.heap.size ≤ b) W0).alloc (.cells #[Value.int .u8 (128 + (r : Int) / 64 % 64)] 5)).grown hgrow (fun b hb => Or.inl (ownBlock_base O0.out b hb)))).size; omega)
  clear hown hgrow
  go_wp2_with (at_builtin; refine wpList_append_own _ rfl (.tmp 47) (.tmp 52) 25 rfl w.heap.size 5 i0 (.int .u8 0) 1 1 Try.underlying25 hi0 hz0 hz1 hz2 rfl (by decide) _ _ _ rfl (O1.out.alloc _) ⟨W1.heap.size, 0, none⟩ 1 1 [Value.int .u8 (128 + (r : Int) % 64)] rfl rfl (by exact cells_new _ [_] _) (by intro u hu; simp at hu; subst hu; rfl) ?d3 ?d4 ?d5 ?_)
  case d3 => unfold maxLen; omega
  case d4 => omega
  case d5 => have := N1.out; simp; omega
  intro v2 W2 hown hgrow _
  have O2 : Hid (W2.ownsRow w.heap.size 5 1 v2 3 [Value.int .u8 (224 + (r : Int) / 4096), Value.int .u8 (128 + (r : Int) / 64 % 64), Value.int .u8 (128 + (r : Int) % 64)]) := Lib.hid hown
  have K2 : Hid (Keeps (fun _ => False) w W2) := Lib.hid (K1.out.trans2 (((Keeps.refl (fun b => w.heap.size ≤ b) W1).alloc _).grown hgrow (fun b hb => Or.inl (ownBlock_base O1.out b hb))) (fun b hb e => by omega))
  have N2 : Hid (w.heap.size < W2.heap.size) := Lib.hid (by have := N1.out; have := ((((Keeps.refl (fun b => w.heap.size ≤ b) W1).alloc (.cells #[Value.int .u8 (128 + (r : Int) % 64)] 5)).grown hgrow (fun b hb => Or.inl (ownBlock_base O1.out b hb)))).size; omega)
  clear hown hgrow
  go_wp2_with fail
  go_ret
  refine ⟨_, rfl, ?_, K2.out⟩
  unfold OwnB
  rw [← HP.out, show (putP r).length = 3 by have := congrArg List.length HP.out; simpa using this.symm]
  exact O2.out

set_option maxHeartbeats 4000000 in
theorem put4 (r : Nat) (w : World) (hb : isB (r : Int) = true) (h1 : 65536 ≤ r) (h2 : r < 1114112) : Calls Try.prog 17 #[.int .i64 r] w fun e w' => PutE w (putP r) e w' := by
  obtain ⟨i0, hi0, hz0, hz1, hz2⟩ := info_parts info_u8p
  have HI := Lib.hid (fun W => is_any (r : Int) W)
  have HSz := Lib.hid (fun W => size_any (r : Int) W)
  have hsz : sizP (r : Int) = 4 := by unfold sizP; rw [hb]; simp only [if_true]; rw [if_neg (by omega), if_neg (by omega), if_neg (by omega)]
  rw [hb] at HI
  rw [hsz] at HSz
  have HP : Hid ([Value.int .u8 (240 + (r : Int) / 262144), Value.int .u8 (128 + (r : Int) / 4096 % 64), Value.int .u8 (128 + (r : Int) / 64 % 64), Value.int .u8 (128 + (r : Int) % 64)] = (putP r).map u8V) := Lib.hid (by
    have e : putP r = [UInt8.ofNat (240 + r / 262144), UInt8.ofNat (128 + r / 4096 % 64), UInt8.ofNat (128 + r / 64 % 64), UInt8.ofNat (128 + r % 64)] := by
      unfold putP; rw [if_neg (by omega), if_neg (by omega), if_neg (by omega)]; simp only [lowB, Nat.pow_zero, Nat.div_one, Nat.pow_one, show 64 ^ 2 = 4096 from rfl]
    rw [e]
    simp only [List.map_cons, List.map_nil]
    rw [u8i (240 + r / 262144) (by omega) (by omega), u8i (128 + r / 4096 % 64) (by omega) (by omega), u8i (128 + r / 64 % 64) (by omega) (by omega), u8i (128 + r % 64) (by omega) (by omega)])
  clear hb hsz
  go_enter Try.func17, Try.ntmps17
  go_wp2_with fail
  refine (HI.out _).mono ?_
  rintro e w1 ⟨rfl, rfl⟩
  go_wp2_with fail
  refine (HSz.out _).mono ?_
  rintro e w1 ⟨rfl, rfl⟩
  go_wp2_with fail
  go_region
  obtain ⟨W0, hW0⟩ : ∃ W, W = (w.alloc (.cells #[Value.int .u8 (240 + (r : Int) / 262144)] 5)).drew := ⟨_, rfl⟩
  have O0 : Hid (W0.ownsRow w.heap.size 5 1 (.slice (some ⟨w.heap.size, 0, none⟩) 1 1) 1 [Value.int .u8 (240 + (r : Int) / 262144)]) := Lib.hid (by rw [hW0]; exact own_oneB w _ _)
  have K0 : Hid (Keeps (fun _ => False) w W0) := Lib.hid (by rw [hW0]; (repeat' (with_reducible first | exact Keeps.refl _ _ | assumption | refine Keeps.drawN ?_ _ | refine Keeps.drew ?_ | refine Keeps.setCell ?_ ?_ _ | refine Keeps.alloc ?_ _)) <;> (first | exact Or.inr (Nat.le_refl _) | exact Or.inl rfl | exact Or.inl (Or.inl rfl) | exact Or.inl (Or.inr rfl) | (right; simp; done) | (right; simp; omega)))
  have N0 : Hid (w.heap.size < W0.heap.size) := Lib.hid (by rw [hW0]; simp)
  rw [← hW0]
  clear hW0
  go_wp2_with (at_builtin; refine wpList_append_own _ rfl (.tmp 31) (.tmp 37) 25 rfl w.heap.size 5 i0 (.int .u8 0) 1 1 Try.underlying25 hi0 hz0 hz1 hz2 rfl (by decide) _ _ _ rfl (O0.out.alloc _) ⟨W0.heap.size, 0, none⟩ 1 1 [Value.int .u8 (128 + (r : Int) / 4096 % 64)] rfl rfl (by exact cells_new _ [_] _) (by intro u hu; simp at hu; subst hu; rfl) ?d3 ?d4 ?d5 ?_)
  case d3 => unfold maxLen; omega
  case d4 => omega
  case d5 => have := N0.out; simp; omega
  intro v1 W1 hown hgrow _
  have O1 : Hid (W1.ownsRow w.heap.size 5 1 v1 2 [Value.int .u8 (240 + (r : Int) / 262144), Value.int .u8 (128 + (r : Int) / 4096 % 64)]) := Lib.hid hown
  have K1 : Hid (Keeps (fun _ => False) w W1) := Lib.hid (K0.out.trans2 (((Keeps.refl (fun b => w.heap.size ≤ b) W0).alloc _).grown hgrow (fun b hb => Or.inl (ownBlock_base O0.out b hb))) (fun b hb e => by omega))
  have N1 : Hid (w.heap.size < W1.heap.size) := Lib.hid (by have := N0.out; have := ((((Keeps.refl (fun b => w.heap.size ≤ b) W0).alloc (.cells #[Value.int .u8 (128 + (r : Int) / 4096 % 64)] 5)).grown hgrow (fun b hb => Or.inl (ownBlock_base O0.out b hb)))).size; omega)
  clear hown hgrow
  go_wp2_with (at_builtin; refine wpList_append_own _ rfl (.tmp 39) (.tmp 45) 25 rfl w.heap.size 5 i0 (.int .u8 0) 1 1 Try.underlying25 hi0 hz0 hz1 hz2 rfl (by decide) _ _ _ rfl (O1.out.alloc _) ⟨W1.heap.size, 0, none⟩ 1 1 [Value.int .u8 (128 + (r : Int) / 64 % 64)] rfl rfl (by exact cells_new _ [_] _) (by intro u hu; simp at hu; subst hu; rfl) ?d3 ?d4 ?d5 ?_)
  case d3 => unfold maxLen; omega
  case d4 => omega
  case d5 => have := N1.out; simp; omega
  intro v2 W2 hown hgrow _
  have O2 : Hid (W2.ownsRow w.heap.size 5 1 v2 3 [Value.int .u8 (240 + (r : Int) / 262144), Value.int .u8 (128 + (r : Int) / 4096 % 64), Value.int .u8 (128 + (r : Int) / 64 % 64)]) := Lib.hid hown
  have K2 : Hid (Keeps (fun _ => False) w W2) := Lib.hid (K1.out.trans2 (((Keeps.refl (fun b => w.heap.size ≤ b) W1).alloc _).grown hgrow (fun b hb => Or.inl (ownBlock_base O1.out b hb))) (fun b hb e => by omega))
  have N2 : Hid (w.heap.size < W2.heap.size) := Lib.hid (by have := N1.out; have := ((((Keeps.refl (fun b => w.heap.size ≤ b) W1).alloc (.cells #[Value.int .u8 (128 + (r : Int) / 64 % 64)] 5)).grown hgrow (fun b hb => Or.inl (ownBlock_base O1.out b hb)))).size; omega)
  clear hown hgrow
  go_wp2_with (at_builtin; refine wpList_append_own _ rfl (.tmp 47) (.tmp 52) 25 rfl w.heap.size 5 i0 (.int .u8 0) 1 1 Try.underlying25 hi0 hz0 hz1 hz2 rfl (by decide) _ _ _ rfl (O2.out.alloc _) ⟨W2.heap.size, 0, none⟩ 1 1 [Value.int .u8 (128 + (r : Int) % 64)] rfl rfl (by exact cells_new _ [_] _) (by intro u hu; simp at hu; subst hu; rfl) ?d3 ?d4 ?d5 ?_)
  case d3 => unfold maxLen; omega
  case d4 => omega
  case d5 => have := N2.out; simp; omega
  intro v3 W3 hown hgrow _
  have O3 : Hid (W3.ownsRow w.heap.size 5 1 v3 4 [Value.int .u8 (240 + (r : Int) / 262144), Value.int .u8 (128 + (r : Int) / 4096 % 64), Value.int .u8 (128 + (r : Int) / 64 % 64), Value.int .u8 (128 + (r : Int) % 64)]) := Lib.hid hown
  have K3 : Hid (Keeps (fun _ => False) w W3) := Lib.hid (K2.out.trans2 (((Keeps.refl (fun b => w.heap.size ≤ b) W2).alloc _).grown hgrow (fun b hb => Or.inl (ownBlock_base O2.out b hb))) (fun b hb e => by omega))
  have N3 : Hid (w.heap.size < W3.heap.size) := Lib.hid (by have := N2.out; have := ((((Keeps.refl (fun b => w.heap.size ≤ b) W2).alloc (.cells #[Value.int .u8 (128 + (r : Int) % 64)] 5)).grown hgrow (fun b hb => Or.inl (ownBlock_base O2.out b hb)))).size; omega)
  clear hown hgrow
  go_wp2_with fail
  go_ret
  refine ⟨_, rfl, ?_, K3.out⟩
  unfold OwnB
  rw [← HP.out, show (putP r).length = 4 by have := congrArg List.length HP.out; simpa using this.symm]
  exact O3.out

theorem put_any (r : Nat) (w : World) (hb : isB (r : Int) = true) : Calls Try.prog 17 #[.int .i64 r] w fun e w' => PutE w (putP r) e w' := by
  have hr : r ≤ 1114111 := by simp [isB] at hb; omega
  by_cases h1 : r < 128
  · exact put1 r w hb h1
  by_cases h2 : r < 2048
  · exact put2 r w hb (by omega) h2
  by_cases h3 : r < 65536
  · exact put3 r w hb (by omega) h3
  · exact put4 r w hb (by omega) (by omega)
/-- Octets as a text. -/
theorem ownB_text {w : World} {base : Nat} {v : Value} {l : List UInt8} (h : OwnB base w v l) : (convert 25 9 v).run Try.prog w = .ok (strL l) w := by
  rcases h.2 with ⟨rfl, h0⟩ | ⟨g, cap, cur, rfl, _⟩
  · obtain rfl : l = [] := List.length_eq_zero_iff.1 h0
    rw [run_convert_bytes_string w _ _ 5 none 0 0 Try.underlying25 Try.underlying5 Try.underlying9]
    rfl
  · exact run_convert_bytes_back w _ _ 5 ⟨g, 0, none⟩ cap l Try.underlying25 Try.underlying5 Try.underlying9 (fun j hj => by
      have := h.cells (g := g) rfl j (.int .u8 (l[j].toNat : Int)) (by simp [u8V, hj])
      exact this)

end Go.Proofs.Ytinogeobkljngaa
end
