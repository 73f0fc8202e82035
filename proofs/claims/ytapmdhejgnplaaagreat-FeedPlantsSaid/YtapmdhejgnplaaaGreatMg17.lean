/-
  The document's Put.
-/
import Derived.Test.YtapmdhejgnplaaaGreatMg16
import Derived.RegionTactic
import Derived.BigRegion
import Derived.Test.YtapmdhejgnplaaaGreatMg1
import Derived.Test.YtapmdhejgnplaaaGreatProg
import Derived.BigQuiet
import Derived.Deep.QuietTactic
import Derived.IntWalk
import Derived.Handy
import Derived.Conc.PipeWords
import Derived.Test.YtapmdhejgnplaaaGreatPaSimMG
import Derived.Deep.RegionHeld3
import Derived.Deep.CutRange
import Derived.Test.YtapmdhejgnplaaaGreatMg10
import Derived.Test.YtapmdhejgnplaaaGreatMg12
import Derived.Test.YtapmdhejgnplaaaGreatMg15
import Derived.Lib.Builder
import Derived.Lib.AppendStr
import Derived.Lib.UnsafeStr
import Derived.Laws.Externs
import Derived.Laws.IdiomCopy
import Derived.Test.YtapmdhejgnplaaaGreatShelf
import Derived.Shelf.Strings.BuilderF
import Derived.Lib.RepeatB
import Derived.Deep.LoopGhost
import Derived.Deep.DeepCutAuto
import Derived.Deep.CutBlock
namespace Go.Proofs.YtapmdhejgnplaaaGreat
open Go.RowKit Go.Proofs.Tryz
set_option linter.unusedVariables false
set_option linter.unusedSimpArgs false
set_option maxRecDepth 100000
set_option maxHeartbeats 8000000
def lowB (r : Nat) : Nat -> List UInt8
 | 0 => []
 | i + 1 => UInt8.ofNat (128 + r / 64 ^ i % 64) :: lowB r i
theorem xdu (r i : Nat) : (lowB r i).length = i := by induction i with | zero => rfl | succ i ih => simp [lowB, ih]
def putP (r : Nat) : List UInt8 :=
 if r < 128 then [UInt8.ofNat r] else if r < 2048 then UInt8.ofNat (192 + r / 64) :: lowB r 1 else if r < 65536 then UInt8.ofNat (224 + r / 4096) :: lowB r 2 else UInt8.ofNat (240 + r / 262144) :: lowB r 3
def PutR (r : Nat) (k : Nat) (rv sv iv : Value) : Prop := ∃ i : Nat, iv = .int .i64 i /\ 1 <= i /\ i <= k /\ rv = .int .i64 ((r / 64 ^ (i - 1) : Nat) : Int) /\ sv = .string ⟨(lowB r (i - 1)).toArray⟩
theorem u8_of {n : Nat} (h : n < 256) : ((UInt8.ofNat n).toNat : Int) = (n : Int) := by rw [UInt8.toNat_ofNat_of_lt' (by show n < 256; exact h)]
theorem xf1 (r : Nat) (w : World) (hb : isB (r : Int) = true) : Calls prog 64 #[.int .i64 r] w fun e w' => e = .returned (strL (putP r)) /\ KF w w' := by
 have hr : r <= 1114111 := by simp [isB] at hb; omega
 have HI := xa (fun W => xf2 (r : Int) W)
 have HSz := xa (fun W => xk9 (r : Int) W hb)
 have hsz : sizP (r : Int) = if (r : Int) < 128 then 1 else if (r : Int) < 2048 then 2 else if (r : Int) < 65536 then 3 else 4 := by unfold sizP; rw [hb]; rfl
 rw [hb] at HI
 clear hb
 by_cases h1 : r < 128
 · rw [if_pos (by omega)] at hsz
   rw [hsz] at HSz
   have HD : Hid (putP r = [UInt8.ofNat r]) := xa (by unfold putP; rw [if_pos h1])
   have hcv := back1 w (UInt8.ofNat r)
   rw [u8_of (by omega)] at hcv
   have u1 : IntKind.u8.wrap (r : Int) = (r : Int) := by rw [IntKind.wrap_u8]; omega
   clear hsz
   generalize UInt8.ofNat r = c at *
   generalize putP r = D at *
   go_enter func64, ntmps64
   go_wp2_with fail
   refine (HI.out _).mono ?_
   rintro e w1 ⟨rfl, rfl⟩
   go_wp2_with fail
   refine (HSz.out _).mono ?_
   rintro e w1 ⟨rfl, rfl⟩
   go_wp2
   go_ret
   exact ⟨by rw [HD.out]; rfl, KI.out⟩
 rw [if_neg (by omega)] at hsz
 obtain ⟨k, F, hk, hF, hput, hk2, hfb⟩ : ∃ k F : Nat, sizP (r : Int) = (k : Int) /\ ((k = 2 /\ F = 192) \/ (k = 3 /\ F = 224) \/ (k = 4 /\ F = 240)) /\ putP r = UInt8.ofNat (F + r / 64 ^ (k - 1)) :: lowB r (k - 1) /\ 2 <= k /\ F + r / 64 ^ (k - 1) < 256 := by
  by_cases h2 : r < 2048
  · rw [if_pos (by omega)] at hsz
    exact ⟨2, 192, hsz, Or.inl ⟨rfl, rfl⟩, by unfold putP; rw [if_neg h1, if_pos h2], by omega, by simp; omega⟩
  rw [if_neg (by omega)] at hsz
  by_cases h3 : r < 65536
  · rw [if_pos (by omega)] at hsz
    exact ⟨3, 224, hsz, Or.inr (Or.inl ⟨rfl, rfl⟩), by unfold putP; rw [if_neg h1, if_neg h2, if_pos h3], by omega, by simp; omega⟩
  rw [if_neg (by omega)] at hsz
  exact ⟨4, 240, hsz, Or.inr (Or.inr ⟨rfl, rfl⟩), by unfold putP; rw [if_neg h1, if_neg h2, if_neg h3], by omega, by simp; omega⟩
 have hk4 : k <= 4 := by omega
 rw [hk] at HSz
 have gk1 : ((k : Int) == 1) = false := beq_eq_false_iff_ne.2 (by omega)
 have HPut := xa hput
 have HFB := xa hfb
 have HF := xa hF
 clear hsz hk hput hfb hF
 go_enter func64, ntmps64
 go_wp2_with fail
 refine (HI.out _).mono ?_
 rintro e w1 ⟨rfl, rfl⟩
 go_wp2_with fail
 refine (HSz.out _).mono ?_
 rintro e w1 ⟨rfl, rfl⟩
 go_wp2_with fail
 go_loopw [0, 4, 5] (fun rv sv iv wr => PutR r k rv sv iv /\ KF w wr) (fun _ _ iv _ => k + 1 - (intOf iv).toNat)
 case atStart => exact ⟨⟨1, rfl, by omega, by omega, by simp, rfl⟩, xaa.refl _ _⟩
 case round =>
  obtain ⟨⟨i, rfl, hi1, hi2, rfl, rfl⟩, hkw⟩ := hrel
  have K := xa hkw
  have hlb := xdu r (i - 1)
  clear hkw
  by_cases hik : i < k
  · have hcv := back1 wr (UInt8.ofNat (128 + r / 64 ^ (i - 1) % 64))
    have hmod : r / 64 ^ (i - 1) % 64 < 64 := Nat.mod_lt _ (by omega)
    rw [u8_of (by omega)] at hcv
    have e2 : r / 64 ^ (i - 1) / 64 = r / 64 ^ i := by
     rw [Nat.div_div_eq_div_mul]; congr 1
     obtain ⟨j, rfl⟩ : ∃ j, i = j + 1 := ⟨i - 1, by omega⟩
     rw [Nat.add_sub_cancel, Nat.pow_succ]
    have e3 : lowB r i = UInt8.ofNat (128 + r / 64 ^ (i - 1) % 64) :: lowB r (i - 1) := by
     obtain ⟨j, rfl⟩ : ∃ j, i = j + 1 := ⟨i - 1, by omega⟩
     rfl
    have hq : r / 64 ^ (i - 1) <= 1114111 := Nat.le_trans (Nat.div_le_self _ _) hr
    have E2 := xa e2
    have E3 := xa e3
    clear e2 e3
    generalize UInt8.ofNat (128 + r / 64 ^ (i - 1) % 64) = c at *
    generalize hQ : r / 64 ^ (i - 1) = Q at *
    generalize lowB r (i - 1) = LB at *
    push_cast at hcv
    obtain ⟨M, hM⟩ : ∃ M, (Q : Int) % 64 = M := ⟨_, rfl⟩
    obtain ⟨D, hD⟩ : ∃ D, Q / 64 = D := ⟨_, rfl⟩
    have hM1 : 0 <= M /\ M <= 63 := by omega
    have t1 : (Q : Int).tmod 64 = M := by rw [Int.tmod_eq_emod_of_nonneg (by omega), hM]
    have t2 : (Q : Int).tdiv 64 = (D : Int) := by rw [Int.tdiv_eq_ediv_of_nonneg (by omega), <- hD]; omega
    rw [hM] at hcv
    rw [hD] at E2
    have hD1 : D <= 1114111 := by omega
    have e6 : wrap64 M = M := by unfold wrap64; omega
    have e7 : wrap64 (128 + M) = 128 + M := by unfold wrap64; omega
    have e8 : (128 + M) % 256 = 128 + M := by omega
    clear hM hD hmod
    clear hQ
    go_wp2
    go_roundw
    case rel =>
     refine ⟨⟨i + 1, by go_num, by omega, by omega, ?_, ?_⟩, K.out.alloc _⟩
     · rw [Nat.add_sub_cancel, <- E2.out]
     rw [Nat.add_sub_cancel, E3.out]; first | rfl | (refine congrArg Value.string ?_; apply ByteArray.ext; simp [ByteArray.data_append])
    case measure => simp [intOf]; omega
  have he : i = k := by omega
  subst he
  have hcv := back1 wr (UInt8.ofNat (F + r / 64 ^ (i - 1)))
  rw [u8_of HFB.out] at hcv
  have hfb := HFB.out
  have hF := HF.out
  rw [Int.natCast_add] at hcv
  generalize UInt8.ofNat (F + r / 64 ^ (i - 1)) = c at *
  generalize r / 64 ^ (i - 1) = Q at *
  generalize lowB r (i - 1) = LB at *
  rcases hF with ⟨rfl, rfl⟩ | ⟨rfl, rfl⟩ | ⟨rfl, rfl⟩
  · rw [show ((192 : Nat) : Int) = 192 from rfl] at hcv
    have e7 : wrap64 (192 + (Q : Int)) = 192 + (Q : Int) := by unfold wrap64; omega
    have e8 : (192 + (Q : Int)) % 256 = 192 + (Q : Int) := by omega
    go_wp2
    go_ret
    refine ⟨?_, K.out.alloc _⟩
    rw [HPut.out]; unfold strL
    first | rfl | (refine congrArg Ending.returned (congrArg Value.string ?_); apply ByteArray.ext; simp [ByteArray.data_append])
  · rw [show ((224 : Nat) : Int) = 224 from rfl] at hcv
    have e7 : wrap64 (224 + (Q : Int)) = 224 + (Q : Int) := by unfold wrap64; omega
    have e8 : (224 + (Q : Int)) % 256 = 224 + (Q : Int) := by omega
    go_wp2
    go_ret
    refine ⟨?_, K.out.alloc _⟩
    rw [HPut.out]; unfold strL
    first | rfl | (refine congrArg Ending.returned (congrArg Value.string ?_); apply ByteArray.ext; simp [ByteArray.data_append])
  rw [show ((240 : Nat) : Int) = 240 from rfl] at hcv
  have e7 : wrap64 (240 + (Q : Int)) = 240 + (Q : Int) := by unfold wrap64; omega
  have e8 : (240 + (Q : Int)) % 256 = 240 + (Q : Int) := by omega
  go_wp2
  go_ret
  refine ⟨?_, K.out.alloc _⟩
  rw [HPut.out]; unfold strL
  first | rfl | (refine congrArg Ending.returned (congrArg Value.string ?_); apply ByteArray.ext; simp [ByteArray.data_append])
theorem xf8 : (prog.info? 5).map (fun i => (i.zero, i.size, i.bytes)) = some (some (.int .u8 0), 1, 1) := by kernel_rfl
theorem xeb (w : World) (x : Value) (e : TypeId) : (w.alloc (.cells #[x] e)).ownsRow w.heap.size e 1 (.slice (some ⟨w.heap.size, 0, none⟩) 1 1) 1 [x] :=
 ⟨rfl, Or.inr ⟨_, 1, #[x], rfl, Nat.le_refl _, by simp [World.alloc, -World.alloc_eq], by omega, by unfold maxLen; omega, rfl, rfl⟩⟩
def u8V (c : UInt8) : Value := .int .u8 (c.toNat : Int)
def OwnB (base : Nat) (w : World) (v : Value) (l : List UInt8) : Prop := w.ownsRow base 5 1 v l.length (l.map u8V)
def PutE (w : World) (l : List UInt8) (e : Ending) (w' : World) : Prop := ∃ v, e = .returned v /\ OwnB w.heap.size w' v l /\ KF w w'
theorem u8o (n : Nat) (h : n < 256) : Value.int .u8 (n : Int) = u8V (UInt8.ofNat n) := by
 unfold u8V; rw [UInt8.toNat_ofNat_of_lt' (by show n < 256; exact h)]
theorem u8i {z : Int} (n : Nat) (h : n < 256) (e : z = (n : Int)) : Value.int .u8 z = u8V (UInt8.ofNat n) := by rw [e, u8o n h]
theorem put1 (r : Nat) (w : World) (hb : isB (r : Int) = true) (h1 : r < 128) : Calls prog 76 #[.int .i64 r] w fun e w' => PutE w (putP r) e w' := by
 have HI := xa (fun W => xeQ (r : Int) W)
 have HSz := xa (fun W => xbx (r : Int) W)
 have hsz : sizP (r : Int) = 1 := by unfold sizP; rw [hb]; simp only [if_true]; rw [if_pos (by omega)]
 rw [hb] at HI
 rw [hsz] at HSz
 have HP : Hid ([Value.int .u8 (r : Int)] = (putP r).map u8V) := xa (by unfold putP; rw [if_pos (by omega), u8o r (by omega)]; rfl)
 have u1 : IntKind.u8.wrap (r : Int) = (r : Int) := by rw [IntKind.wrap_u8]; omega
 clear hb hsz
 go_enter func76, ntmps76
 go_wp2_with fail
 refine (HI.out _).mono ?_
 rintro e w1 ⟨rfl, rfl⟩
 go_wp2_with fail
 refine (HSz.out _).mono ?_
 rintro e w1 ⟨rfl, rfl⟩
 go_wp2
 go_ret
 refine ⟨_, rfl, ?_, KI.out⟩
 unfold OwnB
 rw [<- HP.out, show (putP r).length = 1 by have := congrArg List.length HP.out; simpa using this.symm]
 exact xeb _ _ _
theorem put2 (r : Nat) (w : World) (hb : isB (r : Int) = true) (h1 : 128 <= r) (h2 : r < 2048) : Calls prog 76 #[.int .i64 r] w fun e w' => PutE w (putP r) e w' := by
 obtain ⟨i0, hi0, hz0, hz1, hz2⟩ := info_parts xf8
 have HI := xa (fun W => xeQ (r : Int) W)
 have HSz := xa (fun W => xbx (r : Int) W)
 have hsz : sizP (r : Int) = 2 := by unfold sizP; rw [hb]; simp only [if_true]; rw [if_neg (by omega), if_pos (by omega)]
 rw [hb] at HI
 rw [hsz] at HSz
 have HP : Hid ([Value.int .u8 (192 + (r : Int) / 64), Value.int .u8 (128 + (r : Int) % 64)] = (putP r).map u8V) := xa (by
  have e : putP r = [UInt8.ofNat (192 + r / 64), UInt8.ofNat (128 + r % 64)] := by
   unfold putP; rw [if_neg (by omega), if_pos (by omega)]; simp only [lowB, Nat.pow_zero, Nat.div_one, Nat.pow_one, show 64 ^ 2 = 4096 from rfl]
  rw [e]
  simp only [List.map_cons, List.map_nil]
  rw [u8i (192 + r / 64) (by omega) (by omega), u8i (128 + r % 64) (by omega) (by omega)])
 clear hb hsz
 go_enter func76, ntmps76
 go_wp2_with fail
 refine (HI.out _).mono ?_
 rintro e w1 ⟨rfl, rfl⟩
 go_wp2_with fail
 refine (HSz.out _).mono ?_
 rintro e w1 ⟨rfl, rfl⟩
 go_wp2_with fail
 go_region
 obtain ⟨W0, hW0⟩ : ∃ W, W = (w.alloc (.cells #[Value.int .u8 (192 + (r : Int) / 64)] 5)).drew := ⟨_, rfl⟩
 have O0 : Hid (W0.ownsRow w.heap.size 5 1 (.slice (some ⟨w.heap.size, 0, none⟩) 1 1) 1 [Value.int .u8 (192 + (r : Int) / 64)]) := xa (by rw [hW0]; exact xeb w _ _)
 have K0 : Hid (KF w W0) := xa (by rw [hW0]; exact KI.out)
 have N0 : Hid (w.heap.size < W0.heap.size) := xa (by rw [hW0]; simp)
 rw [<- hW0]
 clear hW0
 go_wp2_with (at_builtin; refine wpList_append_own _ rfl (.tmp 47) (.tmp 52) 22 rfl w.heap.size 5 i0 (.int .u8 0) 1 1 underlying22 hi0 hz0 hz1 hz2 rfl (by decide) _ _ _ rfl (O0.out.alloc _) ⟨W0.heap.size, 0, none⟩ 1 1 [Value.int .u8 (128 + (r : Int) % 64)] rfl rfl (by exact xaq _ [_] _) (by intro u hu; simp at hu; subst hu; rfl) ?d3 ?d4 ?d5 ?_)
 case d3 => unfold maxLen; omega
 case d4 => omega
 case d5 => have := N0.out; simp; omega
 intro v1 W1 hown hgrow _
 have O1 : Hid (W1.ownsRow w.heap.size 5 1 v1 2 [Value.int .u8 (192 + (r : Int) / 64), Value.int .u8 (128 + (r : Int) % 64)]) := xa hown
 have K1 : Hid (KF w W1) := xa (K0.out.trans2 (((xaa.refl (fun b => w.heap.size <= b) W0).alloc _).grown hgrow (fun b hb => Or.inl (xab O0.out b hb))) (fun b hb e => by omega))
 have N1 : Hid (w.heap.size < W1.heap.size) := xa (by have := N0.out; have := ((((xaa.refl (fun b => w.heap.size <= b) W0).alloc (.cells #[Value.int .u8 (128 + (r : Int) % 64)] 5)).grown hgrow (fun b hb => Or.inl (xab O0.out b hb)))).size; omega)
 clear hown hgrow
 go_wp2
 go_ret
 refine ⟨_, rfl, ?_, K1.out⟩
 unfold OwnB
 rw [<- HP.out, show (putP r).length = 2 by have := congrArg List.length HP.out; simpa using this.symm]
 exact O1.out
theorem put3 (r : Nat) (w : World) (hb : isB (r : Int) = true) (h1 : 2048 <= r) (h2 : r < 65536) : Calls prog 76 #[.int .i64 r] w fun e w' => PutE w (putP r) e w' := by
 obtain ⟨i0, hi0, hz0, hz1, hz2⟩ := info_parts xf8
 have HI := xa (fun W => xeQ (r : Int) W)
 have HSz := xa (fun W => xbx (r : Int) W)
 have hsz : sizP (r : Int) = 3 := by unfold sizP; rw [hb]; simp only [if_true]; rw [if_neg (by omega), if_neg (by omega), if_pos (by omega)]
 rw [hb] at HI
 rw [hsz] at HSz
 have HP : Hid ([Value.int .u8 (224 + (r : Int) / 4096), Value.int .u8 (128 + (r : Int) / 64 % 64), Value.int .u8 (128 + (r : Int) % 64)] = (putP r).map u8V) := xa (by
  have e : putP r = [UInt8.ofNat (224 + r / 4096), UInt8.ofNat (128 + r / 64 % 64), UInt8.ofNat (128 + r % 64)] := by
   unfold putP; rw [if_neg (by omega), if_neg (by omega), if_pos (by omega)]; simp only [lowB, Nat.pow_zero, Nat.div_one, Nat.pow_one, show 64 ^ 2 = 4096 from rfl]
  rw [e]
  simp only [List.map_cons, List.map_nil]
  rw [u8i (224 + r / 4096) (by omega) (by omega), u8i (128 + r / 64 % 64) (by omega) (by omega), u8i (128 + r % 64) (by omega) (by omega)])
 clear hb hsz
 go_enter func76, ntmps76
 go_wp2_with fail
 refine (HI.out _).mono ?_
 rintro e w1 ⟨rfl, rfl⟩
 go_wp2_with fail
 refine (HSz.out _).mono ?_
 rintro e w1 ⟨rfl, rfl⟩
 go_wp2_with fail
 go_region
 obtain ⟨W0, hW0⟩ : ∃ W, W = (w.alloc (.cells #[Value.int .u8 (224 + (r : Int) / 4096)] 5)).drew := ⟨_, rfl⟩
 have O0 : Hid (W0.ownsRow w.heap.size 5 1 (.slice (some ⟨w.heap.size, 0, none⟩) 1 1) 1 [Value.int .u8 (224 + (r : Int) / 4096)]) := xa (by rw [hW0]; exact xeb w _ _)
 have K0 : Hid (KF w W0) := xa (by rw [hW0]; exact KI.out)
 have N0 : Hid (w.heap.size < W0.heap.size) := xa (by rw [hW0]; simp)
 rw [<- hW0]
 clear hW0
 go_wp2_with (at_builtin; refine wpList_append_own _ rfl (.tmp 39) (.tmp 45) 22 rfl w.heap.size 5 i0 (.int .u8 0) 1 1 underlying22 hi0 hz0 hz1 hz2 rfl (by decide) _ _ _ rfl (O0.out.alloc _) ⟨W0.heap.size, 0, none⟩ 1 1 [Value.int .u8 (128 + (r : Int) / 64 % 64)] rfl rfl (by exact xaq _ [_] _) (by intro u hu; simp at hu; subst hu; rfl) ?d3 ?d4 ?d5 ?_)
 case d3 => unfold maxLen; omega
 case d4 => omega
 case d5 => have := N0.out; simp; omega
 intro v1 W1 hown hgrow _
 have O1 : Hid (W1.ownsRow w.heap.size 5 1 v1 2 [Value.int .u8 (224 + (r : Int) / 4096), Value.int .u8 (128 + (r : Int) / 64 % 64)]) := xa hown
 have K1 : Hid (KF w W1) := xa (K0.out.trans2 (((xaa.refl (fun b => w.heap.size <= b) W0).alloc _).grown hgrow (fun b hb => Or.inl (xab O0.out b hb))) (fun b hb e => by omega))
 have N1 : Hid (w.heap.size < W1.heap.size) := xa (by have := N0.out; have := ((((xaa.refl (fun b => w.heap.size <= b) W0).alloc (.cells #[Value.int .u8 (128 + (r : Int) / 64 % 64)] 5)).grown hgrow (fun b hb => Or.inl (xab O0.out b hb)))).size; omega)
 clear hown hgrow
 go_wp2_with (at_builtin; refine wpList_append_own _ rfl (.tmp 47) (.tmp 52) 22 rfl w.heap.size 5 i0 (.int .u8 0) 1 1 underlying22 hi0 hz0 hz1 hz2 rfl (by decide) _ _ _ rfl (O1.out.alloc _) ⟨W1.heap.size, 0, none⟩ 1 1 [Value.int .u8 (128 + (r : Int) % 64)] rfl rfl (by exact xaq _ [_] _) (by intro u hu; simp at hu; subst hu; rfl) ?d3 ?d4 ?d5 ?_)
 case d3 => unfold maxLen; omega
 case d4 => omega
 case d5 => have := N1.out; simp; omega
 intro v2 W2 hown hgrow _
 have O2 : Hid (W2.ownsRow w.heap.size 5 1 v2 3 [Value.int .u8 (224 + (r : Int) / 4096), Value.int .u8 (128 + (r : Int) / 64 % 64), Value.int .u8 (128 + (r : Int) % 64)]) := xa hown
 have K2 : Hid (KF w W2) := xa (K1.out.trans2 (((xaa.refl (fun b => w.heap.size <= b) W1).alloc _).grown hgrow (fun b hb => Or.inl (xab O1.out b hb))) (fun b hb e => by omega))
 have N2 : Hid (w.heap.size < W2.heap.size) := xa (by have := N1.out; have := ((((xaa.refl (fun b => w.heap.size <= b) W1).alloc (.cells #[Value.int .u8 (128 + (r : Int) % 64)] 5)).grown hgrow (fun b hb => Or.inl (xab O1.out b hb)))).size; omega)
 clear hown hgrow
 go_wp2
 go_ret
 refine ⟨_, rfl, ?_, K2.out⟩
 unfold OwnB
 rw [<- HP.out, show (putP r).length = 3 by have := congrArg List.length HP.out; simpa using this.symm]
 exact O2.out
theorem put4 (r : Nat) (w : World) (hb : isB (r : Int) = true) (h1 : 65536 <= r) (h2 : r < 1114112) : Calls prog 76 #[.int .i64 r] w fun e w' => PutE w (putP r) e w' := by
 obtain ⟨i0, hi0, hz0, hz1, hz2⟩ := info_parts xf8
 have HI := xa (fun W => xeQ (r : Int) W)
 have HSz := xa (fun W => xbx (r : Int) W)
 have hsz : sizP (r : Int) = 4 := by unfold sizP; rw [hb]; simp only [if_true]; rw [if_neg (by omega), if_neg (by omega), if_neg (by omega)]
 rw [hb] at HI
 rw [hsz] at HSz
 have HP : Hid ([Value.int .u8 (240 + (r : Int) / 262144), Value.int .u8 (128 + (r : Int) / 4096 % 64), Value.int .u8 (128 + (r : Int) / 64 % 64), Value.int .u8 (128 + (r : Int) % 64)] = (putP r).map u8V) := xa (by
  have e : putP r = [UInt8.ofNat (240 + r / 262144), UInt8.ofNat (128 + r / 4096 % 64), UInt8.ofNat (128 + r / 64 % 64), UInt8.ofNat (128 + r % 64)] := by
   unfold putP; rw [if_neg (by omega), if_neg (by omega), if_neg (by omega)]; simp only [lowB, Nat.pow_zero, Nat.div_one, Nat.pow_one, show 64 ^ 2 = 4096 from rfl]
  rw [e]
  simp only [List.map_cons, List.map_nil]
  rw [u8i (240 + r / 262144) (by omega) (by omega), u8i (128 + r / 4096 % 64) (by omega) (by omega), u8i (128 + r / 64 % 64) (by omega) (by omega), u8i (128 + r % 64) (by omega) (by omega)])
 clear hb hsz
 go_enter func76, ntmps76
 go_wp2_with fail
 refine (HI.out _).mono ?_
 rintro e w1 ⟨rfl, rfl⟩
 go_wp2_with fail
 refine (HSz.out _).mono ?_
 rintro e w1 ⟨rfl, rfl⟩
 go_wp2_with fail
 go_region
 obtain ⟨W0, hW0⟩ : ∃ W, W = (w.alloc (.cells #[Value.int .u8 (240 + (r : Int) / 262144)] 5)).drew := ⟨_, rfl⟩
 have O0 : Hid (W0.ownsRow w.heap.size 5 1 (.slice (some ⟨w.heap.size, 0, none⟩) 1 1) 1 [Value.int .u8 (240 + (r : Int) / 262144)]) := xa (by rw [hW0]; exact xeb w _ _)
 have K0 : Hid (KF w W0) := xa (by rw [hW0]; exact KI.out)
 have N0 : Hid (w.heap.size < W0.heap.size) := xa (by rw [hW0]; simp)
 rw [<- hW0]
 clear hW0
 go_wp2_with (at_builtin; refine wpList_append_own _ rfl (.tmp 31) (.tmp 37) 22 rfl w.heap.size 5 i0 (.int .u8 0) 1 1 underlying22 hi0 hz0 hz1 hz2 rfl (by decide) _ _ _ rfl (O0.out.alloc _) ⟨W0.heap.size, 0, none⟩ 1 1 [Value.int .u8 (128 + (r : Int) / 4096 % 64)] rfl rfl (by exact xaq _ [_] _) (by intro u hu; simp at hu; subst hu; rfl) ?d3 ?d4 ?d5 ?_)
 case d3 => unfold maxLen; omega
 case d4 => omega
 case d5 => have := N0.out; simp; omega
 intro v1 W1 hown hgrow _
 have O1 : Hid (W1.ownsRow w.heap.size 5 1 v1 2 [Value.int .u8 (240 + (r : Int) / 262144), Value.int .u8 (128 + (r : Int) / 4096 % 64)]) := xa hown
 have K1 : Hid (KF w W1) := xa (K0.out.trans2 (((xaa.refl (fun b => w.heap.size <= b) W0).alloc _).grown hgrow (fun b hb => Or.inl (xab O0.out b hb))) (fun b hb e => by omega))
 have N1 : Hid (w.heap.size < W1.heap.size) := xa (by have := N0.out; have := ((((xaa.refl (fun b => w.heap.size <= b) W0).alloc (.cells #[Value.int .u8 (128 + (r : Int) / 4096 % 64)] 5)).grown hgrow (fun b hb => Or.inl (xab O0.out b hb)))).size; omega)
 clear hown hgrow
 go_wp2_with (at_builtin; refine wpList_append_own _ rfl (.tmp 39) (.tmp 45) 22 rfl w.heap.size 5 i0 (.int .u8 0) 1 1 underlying22 hi0 hz0 hz1 hz2 rfl (by decide) _ _ _ rfl (O1.out.alloc _) ⟨W1.heap.size, 0, none⟩ 1 1 [Value.int .u8 (128 + (r : Int) / 64 % 64)] rfl rfl (by exact xaq _ [_] _) (by intro u hu; simp at hu; subst hu; rfl) ?d3 ?d4 ?d5 ?_)
 case d3 => unfold maxLen; omega
 case d4 => omega
 case d5 => have := N1.out; simp; omega
 intro v2 W2 hown hgrow _
 have O2 : Hid (W2.ownsRow w.heap.size 5 1 v2 3 [Value.int .u8 (240 + (r : Int) / 262144), Value.int .u8 (128 + (r : Int) / 4096 % 64), Value.int .u8 (128 + (r : Int) / 64 % 64)]) := xa hown
 have K2 : Hid (KF w W2) := xa (K1.out.trans2 (((xaa.refl (fun b => w.heap.size <= b) W1).alloc _).grown hgrow (fun b hb => Or.inl (xab O1.out b hb))) (fun b hb e => by omega))
 have N2 : Hid (w.heap.size < W2.heap.size) := xa (by have := N1.out; have := ((((xaa.refl (fun b => w.heap.size <= b) W1).alloc (.cells #[Value.int .u8 (128 + (r : Int) / 64 % 64)] 5)).grown hgrow (fun b hb => Or.inl (xab O1.out b hb)))).size; omega)
 clear hown hgrow
 go_wp2_with (at_builtin; refine wpList_append_own _ rfl (.tmp 47) (.tmp 52) 22 rfl w.heap.size 5 i0 (.int .u8 0) 1 1 underlying22 hi0 hz0 hz1 hz2 rfl (by decide) _ _ _ rfl (O2.out.alloc _) ⟨W2.heap.size, 0, none⟩ 1 1 [Value.int .u8 (128 + (r : Int) % 64)] rfl rfl (by exact xaq _ [_] _) (by intro u hu; simp at hu; subst hu; rfl) ?d3 ?d4 ?d5 ?_)
 case d3 => unfold maxLen; omega
 case d4 => omega
 case d5 => have := N2.out; simp; omega
 intro v3 W3 hown hgrow _
 have O3 : Hid (W3.ownsRow w.heap.size 5 1 v3 4 [Value.int .u8 (240 + (r : Int) / 262144), Value.int .u8 (128 + (r : Int) / 4096 % 64), Value.int .u8 (128 + (r : Int) / 64 % 64), Value.int .u8 (128 + (r : Int) % 64)]) := xa hown
 have K3 : Hid (KF w W3) := xa (K2.out.trans2 (((xaa.refl (fun b => w.heap.size <= b) W2).alloc _).grown hgrow (fun b hb => Or.inl (xab O2.out b hb))) (fun b hb e => by omega))
 have N3 : Hid (w.heap.size < W3.heap.size) := xa (by have := N2.out; have := ((((xaa.refl (fun b => w.heap.size <= b) W2).alloc (.cells #[Value.int .u8 (128 + (r : Int) % 64)] 5)).grown hgrow (fun b hb => Or.inl (xab O2.out b hb)))).size; omega)
 clear hown hgrow
 go_wp2
 go_ret
 refine ⟨_, rfl, ?_, K3.out⟩
 unfold OwnB
 rw [<- HP.out, show (putP r).length = 4 by have := congrArg List.length HP.out; simpa using this.symm]
 exact O3.out
theorem put_any (r : Nat) (w : World) (hb : isB (r : Int) = true) : Calls prog 76 #[.int .i64 r] w fun e w' => PutE w (putP r) e w' := by
 have hr : r <= 1114111 := by simp [isB] at hb; omega
 by_cases h1 : r < 128
 · exact put1 r w hb h1
 by_cases h2 : r < 2048
 · exact put2 r w hb (by omega) h2
 by_cases h3 : r < 65536
 · exact put3 r w hb (by omega) h3
 exact put4 r w hb (by omega) (by omega)
theorem xln {w : World} {base : Nat} {v : Value} {l : List UInt8} (h : OwnB base w v l) : (convert 22 9 v).run prog w = .ok (strL l) w := by
 rcases h.2 with ⟨rfl, h0⟩ | ⟨g, cap, cur, rfl, _⟩
 · obtain rfl : l = [] := List.length_eq_zero_iff.1 h0
   rw [run_convert_bytes_string w _ _ 5 none 0 0 underlying22 underlying5 underlying9]
   rfl
 exact run_convert_bytes_back w _ _ 5 ⟨g, 0, none⟩ cap l underlying22 underlying5 underlying9 (fun j hj => by
  have := h.cells (g := g) rfl j (.int .u8 (l[j].toNat : Int)) (by simp [u8V, hj])
  exact this)

theorem idxC {l : List UInt8} {i : Nat} {c : UInt8} (hc : l[i]? = some c) : ∀ (h : i < (⟨l.toArray⟩ : ByteArray).size), (⟨l.toArray⟩ : ByteArray)[i]'h = c := fun h => by
 have := (List.getElem?_eq_some_iff.1 hc).2
 simpa [ByteArray.getElem_eq_getElem_data] using this


def getQ (l : List UInt8) (n : Nat) : Bool := isB (valP (l.take n) : Int) && decide (putP (valP (l.take n)) = l.take n)
def getN : Nat -> Nat -> List UInt8 -> Int × Nat
 | 0, _, _ => (65533, 1)
 | f + 1, n, l => if n <= 4 /\ n <= l.length then (if getQ l n then ((valP (l.take n) : Int), n) else getN f (n + 1) l) else (65533, 1)
theorem u8n {n : Nat} (h : n < 256) : (UInt8.ofNat n).toNat = n := by rw [UInt8.toNat_ofNat_of_lt' (by show n < 256; exact h)]
theorem u8eq {c : UInt8} {n : Nat} (h : c.toNat = n) : c = UInt8.ofNat n := by rw [<- h]; simp
theorem xhB {r : Nat} (h : isB (r : Int) = true) : sizP (r : Int) = if r < 128 then 1 else if r < 2048 then 2 else if r < 65536 then 3 else 4 := by
 unfold sizP; rw [h]; simp only [if_true]
 repeat' split
 all_goals first | rfl | omega
theorem get_put {c : UInt8} {t : List UInt8} {r : Nat} (hb : isB (r : Int) = true) (n : Nat) (hn : n <= (c :: t).length) (hp : putP r = (c :: t).take n) : getP (c :: t) = ((r : Int), n) := by
 have hr : r <= 1114111 := by simp [isB] at hb; omega
 have hs := xhB hb
 have hlen := congrArg List.length hp
 rw [List.length_take, Nat.min_eq_left hn] at hlen
 unfold putP at hp hlen
 by_cases h1 : r < 128
 · rw [if_pos h1] at hp hlen
   obtain rfl : n = 1 := by simpa using hlen.symm
   simp only [List.take_succ_cons, List.take_zero, List.cons.injEq, and_true] at hp
   have hc : c.toNat = r := by rw [<- hp, u8n (by omega)]
   rw [xkc c t (by omega), hc]
 rw [if_neg h1] at hp hlen hs
 by_cases h2 : r < 2048
 · rw [if_pos h2] at hp hlen hs
   obtain rfl : n = 2 := by simpa [xdu] using hlen.symm
   rcases t with _ | ⟨b1, t⟩
   · simp at hn
   simp only [List.take_succ_cons, List.take_zero, lowB, List.cons.injEq, and_true] at hp
   obtain ⟨e0, e1⟩ := hp
   have c0 : c.toNat = 192 + r / 64 := by rw [<- e0, u8n (by omega)]
   have c1 : b1.toNat = 128 + r % 64 := by rw [<- e1, u8n (by simp; omega)]; simp
   have hl : lenP c.toNat = 2 := by unfold lenP; rw [if_neg (by omega), if_pos (by omega)]
   rw [xcA, hl, if_neg (by simp)]
   have ht : xbk (xbP c) ((b1 :: t).take (2 - 1)) = some r := by
    unfold xbP
    rw [hl, if_pos (by omega)]
    simp only [show 2 - 1 = 1 from rfl, List.take_succ_cons, List.take_zero, xbk]
    rw [if_pos (by omega)]
    congr 1
    rw [c0, c1]; simp; omega
   rw [ht]
   simp only
   rw [if_pos (by rw [hs]; rfl)]
 rw [if_neg h2] at hp hlen hs
 by_cases h3 : r < 65536
 · rw [if_pos h3] at hp hlen hs
   obtain rfl : n = 3 := by simpa [xdu] using hlen.symm
   rcases t with _ | ⟨b1, _ | ⟨b2, t⟩⟩
   · simp at hn
   · simp at hn
   simp only [List.take_succ_cons, List.take_zero, lowB, List.cons.injEq, and_true] at hp
   obtain ⟨e0, e1, e2⟩ := hp
   have c0 : c.toNat = 224 + r / 4096 := by rw [<- e0, u8n (by omega)]
   have c1 : b1.toNat = 128 + r / 64 % 64 := by rw [<- e1, u8n (by simp; omega), Nat.pow_one]
   have c2 : b2.toNat = 128 + r % 64 := by rw [<- e2, u8n (by simp; omega)]; simp
   have hl : lenP c.toNat = 3 := by unfold lenP; rw [if_neg (by omega), if_neg (by omega), if_pos (by omega)]
   rw [xcA, hl, if_neg (by simp)]
   have ht : xbk (xbP c) ((b1 :: b2 :: t).take (3 - 1)) = some r := by
    unfold xbP
    rw [hl, if_pos (by omega)]
    simp only [show 3 - 1 = 2 from rfl, List.take_succ_cons, List.take_zero, xbk]
    rw [if_pos (by omega), if_pos (by omega)]
    congr 1
    rw [c0, c1, c2]; simp; omega
   rw [ht]
   simp only
   rw [if_pos (by rw [hs]; rfl)]
 rw [if_neg h3] at hp hlen hs
 obtain rfl : n = 4 := by simpa [xdu] using hlen.symm
 rcases t with _ | ⟨b1, _ | ⟨b2, _ | ⟨b3, t⟩⟩⟩
 · simp at hn
 · simp at hn
 · simp at hn
 simp only [List.take_succ_cons, List.take_zero, lowB, List.cons.injEq, and_true] at hp
 obtain ⟨e0, e1, e2, e3⟩ := hp
 have c0 : c.toNat = 240 + r / 262144 := by rw [<- e0, u8n (by omega)]
 have c1 : b1.toNat = 128 + r / 4096 % 64 := by rw [<- e1, u8n (by simp; omega)]
 have c2 : b2.toNat = 128 + r / 64 % 64 := by rw [<- e2, u8n (by simp; omega), Nat.pow_one]
 have c3 : b3.toNat = 128 + r % 64 := by rw [<- e3, u8n (by simp; omega)]; simp
 have hl : lenP c.toNat = 4 := by unfold lenP; rw [if_neg (by omega), if_neg (by omega), if_neg (by omega), if_pos (by omega)]
 rw [xcA, hl, if_neg (by simp)]
 have ht : xbk (xbP c) ((b1 :: b2 :: b3 :: t).take (4 - 1)) = some r := by
  unfold xbP
  rw [hl, if_pos (by omega)]
  simp only [show 4 - 1 = 3 from rfl, List.take_succ_cons, List.take_zero, xbk]
  rw [if_pos (by omega), if_pos (by omega), if_pos (by omega)]
  congr 1
  rw [c0, c1, c2, c3]; simp; omega
 rw [ht]
 simp only
 rw [if_pos (by rw [hs]; rfl)]
theorem xla {c : UInt8} {t : List UInt8} (h : sizP (getP (c :: t)).1 = ((getP (c :: t)).2 : Int)) : 1 <= (getP (c :: t)).2 /\ (getP (c :: t)).2 <= 4 /\ (getP (c :: t)).2 <= (c :: t).length /\ getQ (c :: t) (getP (c :: t)).2 = true /\ ((valP ((c :: t).take (getP (c :: t)).2) : Nat) : Int) = (getP (c :: t)).1 := by
 have h65 : ¬ sizP 65533 = ((1 : Nat) : Int) := by decide
 have hc256 := c.toNat_lt
 have hpos := xdy c t
 have hle := xlX c t
 refine ⟨hpos.1, hpos.2, by simpa using hle, ?_⟩
 by_cases h0 : lenP c.toNat = 0 \/ t.length + 1 < lenP c.toNat
 · rw [xcA, if_pos h0] at h; exact absurd h h65
 have e := xcA c t
 rw [if_neg h0] at e
 cases ht : xbk (xbP c) (t.take (lenP c.toNat - 1)) with
 | none => rw [ht] at e; rw [e] at h; exact absurd h h65
 | some r =>
  rw [ht] at e
  simp only at e
  by_cases hs : sizP r = lenP c.toNat
  · rw [if_pos hs] at e
    rw [e]
    simp only
    have hl4 := xnt c.toNat
    have hbr : isB (r : Int) = true := by
     unfold sizP at hs
     cases hb : isB (r : Int) with
     | true => rfl
     | false => rw [hb] at hs; simp at hs; omega
    have hsz := xhB hbr
    suffices hv : valP ((c :: t).take (lenP c.toNat)) = r /\ putP r = (c :: t).take (lenP c.toNat) by
     refine ⟨?_, by rw [hv.1]⟩
     unfold getQ
     rw [hv.1, hbr, hv.2]; simp
    rcases (by omega : lenP c.toNat = 1 \/ lenP c.toNat = 2 \/ lenP c.toNat = 3 \/ lenP c.toNat = 4) with hl | hl | hl | hl
    · have hc := xns hl
      have hh : xbP c = c.toNat := by unfold xbP; rw [hl]; simp
      rw [hl] at ht ⊢
      simp only [Nat.sub_self, List.take_zero, xbk, Option.some.injEq] at ht
      rw [hh] at ht
      subst ht
      refine ⟨by simp only [List.take_succ_cons, List.take_zero, valP, List.foldl_nil, valH]; rw [if_neg (by omega), if_neg (by omega), if_neg (by omega)], ?_⟩
      unfold putP
      rw [if_pos hc]; simp
    · have hcr : 194 <= c.toNat /\ c.toNat < 224 := by unfold lenP at hl; (repeat' split at hl) <;> omega
      have hh : xbP c = c.toNat % 32 := by unfold xbP; rw [hl]; simp
      rw [hl] at ht hs ⊢
      rcases t with _ | ⟨b1, t⟩
      · simp at h0; omega
      simp only [show 2 - 1 = 1 from rfl, List.take_succ_cons, List.take_zero, xbk] at ht ⊢
      split at ht
      · rename_i g1
        obtain rfl := Option.some.inj ht
        rw [hh] at *
        rw [hsz] at hs
        refine ⟨by simp only [valP, valH, List.foldl_cons, List.foldl_nil]; rw [if_neg (by omega), if_neg (by omega), if_pos (by omega)]; omega, ?_⟩
        unfold putP
        rw [if_neg (by intro hh; rw [if_pos hh] at hs; simp at hs), if_pos (by split at hs <;> (try split at hs) <;> (try split at hs) <;> simp at hs <;> omega)]
        simp only [lowB, List.cons.injEq, and_true]
        exact ⟨(u8eq (by omega)).symm, (u8eq (by simp; omega)).symm⟩
      cases ht
    · have hcr : 224 <= c.toNat /\ c.toNat < 240 := by unfold lenP at hl; (repeat' split at hl) <;> omega
      have hh : xbP c = c.toNat % 16 := by unfold xbP; rw [hl]; simp
      rw [hl] at ht hs ⊢
      rcases t with _ | ⟨b1, _ | ⟨b2, t⟩⟩
      · simp at h0; omega
      · simp at h0; omega
      simp only [show 3 - 1 = 2 from rfl, List.take_succ_cons, List.take_zero, xbk] at ht ⊢
      split at ht
      · rename_i g1
        split at ht
        · rename_i g2
          obtain rfl := Option.some.inj ht
          rw [hh] at *
          rw [hsz] at hs
          refine ⟨by simp only [valP, valH, List.foldl_cons, List.foldl_nil]; rw [if_neg (by omega), if_pos (by omega)]; omega, ?_⟩
          unfold putP
          rw [if_neg (by intro hh; rw [if_pos hh] at hs; simp at hs), if_neg (by intro hh; split at hs <;> simp at hs <;> (try split at hs) <;> simp at hs <;> omega), if_pos (by split at hs <;> (try split at hs) <;> (try split at hs) <;> simp at hs <;> omega)]
          simp only [lowB, List.cons.injEq, and_true]
          exact ⟨(u8eq (by omega)).symm, (u8eq (by simp; omega)).symm, (u8eq (by simp; omega)).symm⟩
        cases ht
      cases ht
    have hcr : 240 <= c.toNat /\ c.toNat < 245 := by unfold lenP at hl; (repeat' split at hl) <;> omega
    have hh : xbP c = c.toNat % 8 := by unfold xbP; rw [hl]; simp
    rw [hl] at ht hs ⊢
    rcases t with _ | ⟨b1, _ | ⟨b2, _ | ⟨b3, t⟩⟩⟩
    · simp at h0; omega
    · simp at h0; omega
    · simp at h0; omega
    simp only [show 4 - 1 = 3 from rfl, List.take_succ_cons, List.take_zero, xbk] at ht ⊢
    split at ht
    · rename_i g1
      split at ht
      · rename_i g2
        split at ht
        · rename_i g3
          obtain rfl := Option.some.inj ht
          rw [hh] at *
          rw [hsz] at hs
          refine ⟨by simp only [valP, valH, List.foldl_cons, List.foldl_nil]; rw [if_pos (by omega)]; omega, ?_⟩
          unfold putP
          rw [if_neg (by intro hh; rw [if_pos hh] at hs; simp at hs), if_neg (by intro hh; split at hs <;> simp at hs <;> (try split at hs) <;> simp at hs <;> omega), if_neg (by intro hh; split at hs <;> (try split at hs) <;> (try split at hs) <;> simp at hs <;> omega)]
          simp only [lowB, List.cons.injEq, and_true]
          exact ⟨(u8eq (by omega)).symm, (u8eq (by simp; omega)).symm, (u8eq (by simp; omega)).symm, (u8eq (by simp; omega)).symm⟩
        cases ht
      cases ht
    cases ht
  rw [if_neg hs] at e; rw [e] at h; exact absurd h h65
theorem xnF {c : UInt8} {t : List UInt8} {n : Nat} (hn : n <= (c :: t).length) (h : getQ (c :: t) n = true) : getP (c :: t) = ((valP ((c :: t).take n) : Int), n) /\ sizP (getP (c :: t)).1 = ((getP (c :: t)).2 : Int) := by
 unfold getQ at h
 simp only [Bool.and_eq_true, decide_eq_true_eq] at h
 have h1 := get_put h.1 n hn h.2
 refine ⟨h1, ?_⟩
 rw [h1]
 simp only
 rw [xhB h.1]
 have hl := congrArg List.length h.2
 rw [List.length_take, Nat.min_eq_left hn] at hl
 unfold putP at hl
 (repeat' split at hl) <;> simp [xdu] at hl <;> subst hl <;> (repeat' split) <;> first | rfl | omega
theorem getN_eq {c : UInt8} {t : List UInt8} : ∀ (f n : Nat), 1 <= n -> 5 <= f + n -> (∀ k, 1 <= k -> k < n -> k <= (c :: t).length -> getQ (c :: t) k = false) -> getN f n (c :: t) = if sizP (getP (c :: t)).1 = ((getP (c :: t)).2 : Int) then getP (c :: t) else (65533, 1) := by
 have hno : ∀ n, 1 <= n -> ¬ (n <= 4 /\ n <= (c :: t).length) -> (∀ k, 1 <= k -> k < n -> k <= (c :: t).length -> getQ (c :: t) k = false) -> ¬ sizP (getP (c :: t)).1 = ((getP (c :: t)).2 : Int) := by
  intro n h1 h2 h3 hv
  obtain ⟨g1, g2, g3, g4, _⟩ := xla hv
  have := h3 _ g1 (by omega) g3
  rw [this] at g4; cases g4
 intro f
 induction f with
 | zero =>
  intro n h1 h2 h3
  rw [if_neg (hno n h1 (by omega) h3)]; rfl
 | succ f ih =>
  intro n h1 h2 h3
  rw [getN]
  by_cases hc : n <= 4 /\ n <= (c :: t).length
  · rw [if_pos hc]
    cases hq : getQ (c :: t) n with
    | true =>
     obtain ⟨g1, g2⟩ := xnF hc.2 hq
     rw [if_pos rfl, if_pos g2, g1]
    | false =>
     rw [if_neg (by simp)]
     exact ih (n + 1) (by omega) (by omega) (fun k k1 k2 k3 => by
      by_cases hk : k = n
      · rw [hk]; exact hq
      exact h3 k k1 (by omega) k3)
  rw [if_neg hc, if_neg (hno n h1 hc h3)]
theorem xmX (c : UInt8) (t : List UInt8) (w : World) (hl : t.length <= 1000) : Calls prog 63 #[.string ⟨(c :: t).toArray⟩] w fun e w' => e = .returned (.tuple #[.int .i64 (getN 4 1 (c :: t)).1, .int .i64 (getN 4 1 (c :: t)).2]) /\ KF w w' := by
 obtain ⟨l, hle⟩ : ∃ l, c :: t = l := ⟨_, rfl⟩
 rw [hle]
 have hlen : l.length <= 1001 /\ 1 <= l.length := by rw [<- hle]; simp; omega
 obtain ⟨R, hR⟩ : ∃ R, getN 4 1 l = R := ⟨_, rfl⟩
 rw [hR]
 have HR := xa hR
 have HLE := xa hle
 have g0 : ((l.length : Int) == 0) = false := beq_eq_false_iff_ne.2 (by omega)
 clear hR hle hl
 go_enter func63, ntmps63
 go_wp2_with fail
 go_loopw [4] (fun nv wr => ∃ (f n : Nat), nv = .int .i64 n /\ 1 <= n /\ n <= 5 /\ f + n = 5 /\ getN f n l = R /\ KF w wr) (fun nv _ => 6 - (intOf nv).toNat)
 case atStart => exact ⟨4, 1, rfl, by omega, by omega, by omega, HR.out, xaa.refl _ _⟩
 case round =>
  obtain ⟨f, n, rfl, hn1, hn5, hfn, hg, hkw⟩ := hrel
  have K := xa hkw
  have HG := xa hg
  clear hkw hg
  by_cases h4 : n <= 4
  · by_cases hnl : n <= l.length
    · obtain ⟨f, rfl⟩ : ∃ k, f = k + 1 := ⟨f - 1, by omega⟩
      have hg := HG.out
      rw [getN, if_pos ⟨h4, hnl⟩] at hg
      have ht : ∃ u, l.take n = c :: u /\ u.length <= 3 := by
       obtain ⟨m, hm⟩ : ∃ m, n = m + 1 := ⟨n - 1, by omega⟩
       exact ⟨t.take m, by rw [<- HLE.out, hm, List.take_succ_cons], by rw [List.length_take]; omega⟩
      obtain ⟨u, hu, hul⟩ := ht
      rw [hu] at hg
      have hE : (⟨l.toArray⟩ : ByteArray).extract 0 n = ⟨(c :: u).toArray⟩ := by
       apply ByteArray.ext
       rw [<- hu]
       simp [ByteArray.data_extract]
      have hsl : n <= (⟨l.toArray⟩ : ByteArray).size := by simpa [ByteArray.size] using hnl
      have HV := xa (fun W => xkE c u W hul)
      obtain ⟨V, hV⟩ : ∃ V, valP (c :: u) = V := ⟨_, rfl⟩
      rw [hV] at HV
      have hq : getQ l n = (isB (V : Int) && decide (putP V = c :: u)) := by unfold getQ; rw [hu, hV]
      rw [hq, hV] at hg
      have HG2 := xa hg
      have KI : ∀ W, KF wr W -> Calls prog 82 #[.int .i64 V] W fun e w' => e = .returned (.bool (isB (V : Int))) /\ KF wr w' := fun W kW => (xf2 (V : Int) W).mono fun e w' ⟨e1, e2⟩ => ⟨e1, by rw [<- e2]; exact kW⟩
      have KP : isB (V : Int) = true -> ∀ W, KF wr W -> Calls prog 64 #[.int .i64 V] W fun e w' => e = .returned (.string ⟨(putP V).toArray⟩) /\ KF wr w' := fun hb W kW => (xf1 V W hb).mono fun e w' ⟨e1, e2⟩ => ⟨e1, kW.trans e2⟩
      have hkd : KF wr wr.drew := (xaa.refl _ _).drew
      clear hg hu hq hV
      cases hb : isB (V : Int) with
      | false =>
       have KQ : ∀ W, Calls prog 82 #[.int .i64 V] W fun e w' => e = .returned (.bool false) /\ w' = W := fun W => by
        have := xf2 (V : Int) W
        rw [hb] at this
        exact this.mono fun e w' ⟨e1, e2⟩ => ⟨e1, e2.symm⟩
       rw [hb] at KI HG2
       simp only [Bool.false_and, Bool.false_eq_true, if_false] at HG2
       clear KP hb
       go_wp2_with fail
       refine (HV.out _).mono ?_
       rintro e w2 ⟨rfl, rfl⟩
       go_wp2_with fail
       go_quiet (first | (go_at_call 82; exact Calls.quiet_of_same (KQ _)))
       go_wp2
       go_roundw
       case rel => exact ⟨f, n + 1, by go_num, by omega, by omega, by omega, HG2.out, K.out.drawN _⟩
       case measure => simp [intOf]; omega
      | true =>
       have KP2 := KP hb
       rw [hb] at KI HG2
       simp only [Bool.true_and] at HG2
       clear KP hb
       generalize putP V = PV at *
       by_cases hpv : PV = c :: u
       · subst hpv
         simp only [decide_true, if_true] at HG2
         go_wp2_with fail
         refine (HV.out _).mono ?_
         rintro e w2 ⟨rfl, rfl⟩
         go_wp2_with fail
         go_region_held3 (fun w' => KF wr w') (first | exact hkd | assumption) (first | (go_at_call 82; refine (KI _ ?_).mono ?_; (first | exact hkd | assumption); rintro e w' ⟨rfl, hkn⟩) | (go_at_call 64; refine (KP2 _ ?_).mono ?_; (first | exact hkd | assumption); rintro e w' ⟨rfl, hkn⟩))
         go_wp2
         go_ret2
         exact ⟨by rw [<- HG2.out]; rfl, K.out.trans (by assumption)⟩
       have hpq : (PV == c :: u) = false := by simpa using hpv
       have hpd : decide (PV = c :: u) = false := by simpa using hpv
       rw [hpd] at HG2
       simp only [Bool.false_eq_true, if_false] at HG2
       clear hpv hpd
       go_wp2_with fail
       refine (HV.out _).mono ?_
       rintro e w2 ⟨rfl, rfl⟩
       go_wp2_with fail
       go_region_held3 (fun w' => KF wr w') (first | exact hkd | assumption) (first | (go_at_call 82; refine (KI _ ?_).mono ?_; (first | exact hkd | assumption); rintro e w' ⟨rfl, hkn⟩) | (go_at_call 64; refine (KP2 _ ?_).mono ?_; (first | exact hkd | assumption); rintro e w' ⟨rfl, hkn⟩))
       go_wp2
       go_roundw
       case rel => exact ⟨f, n + 1, by go_num, by omega, by omega, by omega, HG2.out, K.out.trans (by assumption)⟩
       case measure => simp [intOf]; omega
    have hE : R = (65533, 1) := by
     have := HG.out
     cases f with
     | zero => exact this.symm
     | succ f => rw [getN, if_neg (by omega)] at this; exact this.symm
    subst hE
    go_wp2
    go_ret2
    exact ⟨rfl, K.out⟩
  have hE : R = (65533, 1) := by
   have := HG.out
   cases f with
   | zero => exact this.symm
   | succ f => rw [getN, if_neg (by omega)] at this; exact this.symm
  subst hE
  go_wp2
  go_ret2
  exact ⟨rfl, K.out⟩
def RPts (l : List UInt8) (base : Nat) (w : World) (sv ov : Value) (wr : World) : Prop :=
 ∃ (rest : List UInt8) (acc : List Int), sv = .string ⟨rest.toArray⟩ /\ acc.length + rest.length <= l.length /\ wr.ownsRow base 3 1 ov acc.length (acc.map (Value.int .i64)) /\ KF w wr /\ pts l = (pts rest).map (acc ++ ·)
def xof : Value -> Nat
 | .string s => s.size
 | _ => 0
theorem xjG : putP 65533 = [239, 191, 189] := by decide +kernel
theorem xeU (l : List UInt8) (n : Nat) : (⟨l.toArray⟩ : ByteArray).extract 0 n = ⟨(l.take n).toArray⟩ := by
 apply ByteArray.ext
 simp [ByteArray.data_extract]
theorem xlZ (l : List UInt8) (n : Nat) : (⟨l.toArray⟩ : ByteArray).extract n l.length = ⟨(l.drop n).toArray⟩ := by
 apply ByteArray.ext
 simp [ByteArray.data_extract, List.extract_eq_take_drop]
 rw [List.take_of_length_le (by simp)]
theorem xhI (l : List UInt8) (w : World) (hl : l.length <= 1000) :
 Calls prog 56 #[.string ⟨l.toArray⟩] w fun e w' => PtsE w.heap.size l e w' /\ KF w w' := by
 obtain ⟨i0, hi0, hz0, hz1, hz2⟩ := info_parts xdx
 go_enter func56, ntmps56
 go_wp2_with fail
 go_loopw [0, 4] (fun sv ov wr => RPts l w.heap.size w sv ov wr) (fun sv _ _ => xof sv)
 case atStart => exact ⟨l, [], rfl, by simp, World.ownsRow_nil _ _ _ _, xaa.refl _ _, by simp⟩
 case round =>
  obtain ⟨rest, acc, rfl, hlen, hown, hkw, hp⟩ := hrel
  have K := xa hkw
  have OW := xa hown
  have Hp := xa hp
  obtain ⟨va, vc, rfl⟩ := xad hown
  have hsw := hkw.size
  clear hp hown hkw
  cases rest with
  | nil =>
   have E : Hid (pts l = some acc) := xa (by rw [Hp.out]; simp [pts, ptsP])
   go_wp2
   go_ret2
   refine ⟨?_, K.out⟩
   unfold PtsE
   rw [E.out]
   exact ⟨_, rfl, OW.out⟩
  | cons c t =>
   have hpc := xm1 (c := c) (l := t)
   have hgn := getN_eq (c := c) (t := t) 4 1 (by omega) (by omega) (fun k k1 k2 _ => by omega)
   simp only [List.length_cons] at hlen
   have HG := xa (fun W => xmX c t W (by omega))
   by_cases hv : sizP (getP (c :: t)).1 = ((getP (c :: t)).2 : Int)
   · rw [if_pos hv] at hpc hgn
     rw [hgn] at HG
     obtain ⟨g1, g2, g3, g4, g5⟩ := xla hv
     unfold getQ at g4
     simp only [Bool.and_eq_true, decide_eq_true_eq] at g4
     obtain ⟨V, hV⟩ : ∃ V, valP ((c :: t).take (getP (c :: t)).2) = V := ⟨_, rfl⟩
     rw [hV] at g4 g5
     obtain ⟨n, hn⟩ : ∃ n, (getP (c :: t)).2 = n := ⟨_, rfl⟩
     rw [<- g5, hn] at HG
     rw [<- g5, hn] at hpc
     rw [hn] at g1 g2 g3 g4
     have E2 : Hid (pts l = ((pts ((c :: t).drop n)).map ((V : Int) :: ·)).map (acc ++ ·)) := xa (by rw [Hp.out, hpc])
     have hE1 := xeU (c :: t) n
     have hE2 := xlZ (c :: t) n
     rw [<- g4.2] at hE1
     have hdl : ((c :: t).drop n).length = t.length + 1 - n := by simp
     obtain ⟨rest', hrest⟩ : ∃ r, (c :: t).drop n = r := ⟨_, rfl⟩
     rw [hrest] at hE2 hdl E2
     have hr0 : V <= 1114111 := by have := g4.1; simp [isB] at this; omega
     have KP0 := xa (fun W => xf1 V W g4.1)
     generalize putP V = PV at *
     have hn3 : n <= t.length + 1 := by simpa using g3
     have hI1 : (0 : Int) <= (n : Int) := by omega
     have hI2 : (n : Int) <= (t.length : Int) + 1 := by omega
     clear hpc hgn hv g4 g5 hV hn hrest g3
     go_wp2_with fail
     refine (HG.out _).mono ?_
     rintro e w2 ⟨rfl, k2⟩
     have hkd : KF w2 w2.drew := (xaa.refl _ _).drew
     have KP : ∀ W, KF w2 W -> Calls prog 64 #[.int .i64 V] W fun e w' => e = .returned (.string ⟨PV.toArray⟩) /\ KF w2 w' := fun W kW => (KP0.out W).mono fun e w' ⟨e1, e2⟩ => ⟨e1, kW.trans e2⟩
     have K2 := xa k2
     clear k2
     go_wp2_with fail
     go_region_held3 (fun w' => KF w2 w') (first | exact hkd | assumption) (first | (go_at_call 64; refine (KP _ ?_).mono ?_; (first | exact hkd | assumption); rintro e w' ⟨rfl, hkn⟩))
     have K3 : Hid (KF wr w') := xa (K2.out.trans hkn)
     have hs3 := K3.out.size
     go_wp2_with (at_builtin; refine wpList_append_own _ rfl (.tmp 21) (.tmp 23) 23 rfl w.heap.size 3 i0 (.int .i64 0) 1 8 underlying23 hi0 hz0 hz1 hz2 rfl (by decide) _ _ _ rfl (xac (xag OW.out K3.out (fun _ _ => id)) _) ⟨w'.heap.size, 0, none⟩ 1 1 [.int .i64 V] rfl rfl (by exact xaq _ [_] _) (by intro u hu; simp at hu; subst hu; rfl) ?d3 ?d4 ?d5 ?_)
     case d3 => unfold maxLen; omega
     case d4 => omega
     case d5 => simp; omega
     intro v' w4 hown' hgrow _
     have hk4 : xaa (fun k => w.heap.size <= k) wr w4 := ((K3.out.mono (fun _ _ e => e.elim)).alloc (.cells #[.int .i64 V] 3)).grown hgrow (fun b hb => Or.inl (xab OW.out b hb))
     have K4 : Hid (KF w w4) := xa (K.out.trans2 hk4 (fun i hi e => by omega))
     have O4 : Hid (w4.ownsRow w.heap.size 3 1 v' (acc ++ [(V : Int)]).length ((acc ++ [(V : Int)]).map (Value.int .i64))) := xa (by simpa using hown')
     clear hown' hgrow hk4
     go_wp2
     go_roundw
     case rel => exact ⟨rest', acc ++ [(V : Int)], congrArg Value.string hE2, by simp; omega, O4.out, K4.out, by rw [E2.out, Option.map_map]; congr 1; funext q; simp⟩
     case measure => simp [xof, ByteArray.size]; omega
   rw [if_neg hv] at hpc hgn
   rw [hgn] at HG
   have E2 : Hid (pts l = none) := xa (by rw [Hp.out, hpc]; rfl)
   have KP0 := xa (fun W => xf1 65533 W (by decide))
   rw [xjG] at KP0
   have hE1 := xeU (c :: t) 1
   simp only [List.take_succ_cons, List.take_zero] at hE1
   have hne : (([239, 191, 189] : List UInt8) == [c]) = false := by simp
   have hg1 : 1 <= t.length + 1 := by omega
   have hI2 : (1 : Int) <= (t.length : Int) + 1 := by omega
   have hI3 : (0 : Int) <= (t.length : Int) := by omega
   clear hpc hgn hv
   go_wp2_with fail
   refine (HG.out _).mono ?_
   rintro e w2 ⟨rfl, k2⟩
   have hkd : KF w2 w2.drew := (xaa.refl _ _).drew
   have KP : ∀ W, KF w2 W -> Calls prog 64 #[.int .i64 65533] W fun e w' => e = .returned (.string ⟨#[239, 191, 189]⟩) /\ KF w2 w' := fun W kW => (KP0.out W).mono fun e w' ⟨e1, e2⟩ => ⟨e1, kW.trans e2⟩
   have K2 := xa k2
   clear k2
   go_wp2_with fail
   go_region_held3 (fun w' => KF w2 w') (first | exact hkd | assumption) (first | (go_at_call 64; refine (KP _ ?_).mono ?_; (first | exact hkd | assumption); rintro e w' ⟨rfl, hkn⟩))
   go_wp2
   go_ret2
   refine ⟨?_, (K.out.trans K2.out).trans (by assumption)⟩
   unfold PtsE
   rw [E2.out]
   rfl
def PreE (r : List UInt8 × Bool) (w : World) (e : Ending) (w' : World) : Prop := e = .returned (.tuple #[strL r.1, .bool r.2]) /\ KF w w'
def PreC (t : T) (r : List UInt8 × Bool) : Prop := ∀ (P : Nat -> Prop) (v : NV) (w : World), TAt w P v t -> Calls prog 61 #[v.val] w fun e w' => PreE r w e w'
theorem xl6 (s : List UInt8) (b : Bool) (w : World) : Calls prog 98 #[strL s, .bool b] w fun e w' => PreE (if 200 < s.length then (s.take 200, false) else (s, b)) w e w' := by
 unfold strL
 by_cases h : 200 < s.length
 · have g : decide ((200 : Int) < (s.length : Int)) = true := by simp; omega
   rw [if_pos h]
   go_enter func98, ntmps98
   go_wp2
   go_ret2
   refine ⟨?_, xaa.refl _ _⟩
   simp [strL]
   exact xeU s 200
 have g : decide ((200 : Int) < (s.length : Int)) = false := by simp; omega
 rw [if_neg h]
 go_enter func98, ntmps98
 go_wp2
 go_ret2
 exact ⟨rfl, xaa.refl _ _⟩
def catP : List (List UInt8 × Bool) -> List UInt8 -> List UInt8 × Bool
 | [], all => (all, true)
 | (s, b) :: r, all => if b = false \/ 200 < (all ++ s).length then (if 200 < (all ++ s).length then ((all ++ s).take 200, false) else (all ++ s, false)) else catP r (all ++ s)
theorem xmg {res : List (List UInt8 × Bool)} {i : Nat} {s : List UInt8} {b : Bool} (all : List UInt8) (h : res[i]? = some (s, b)) : catP (res.drop i) all = if b = false \/ 200 < (all ++ s).length then (if 200 < (all ++ s).length then ((all ++ s).take 200, false) else (all ++ s, false)) else catP (res.drop (i + 1)) (all ++ s) := by
 obtain ⟨h1, h2⟩ := List.getElem?_eq_some_iff.1 h
 rw [List.drop_eq_getElem_cons h1, h2]; rfl
def CatR (n : Nat) (res : List (List UInt8 × Bool)) (w : World) (iv av : Value) (wr : World) : Prop :=
 ∃ (i : Nat) (all : List UInt8), iv = .int .i64 i /\ i <= n /\ av = strL all /\ all.length <= 200 /\ catP (res.drop i) all = catP res [] /\ KF w wr
theorem cat_any (P : Nat -> Prop) (L : List T) (res : List (List UInt8 × Bool)) (a : Option Addr) (c : Nat) (w : World) (ha : KRow w P a L) (hl : L.length <= 4611686018427387904) (hn : res.length = L.length)
 (ih : ∀ (i : Nat) (k : T) (r : List UInt8 × Bool), L[i]? = some k -> res[i]? = some r -> PreC k r /\ r.1.length <= 1000) :
 Calls prog 77 #[.slice a L.length c] w fun e w' => PreE (catP res []) w e w' := by
 have IH := xa ih
 have HA := xa ha
 have HN := xa hn
 have HC := xa (fun s b W => xl6 s b W)
 obtain ⟨RR, hRR⟩ : ∃ R, catP res [] = R := ⟨_, rfl⟩
 rw [hRR]
 have HR := xa hRR
 clear ih ha hn hRR
 go_enter func77, ntmps77
 go_wp2_with fail
 go_loopw [11, 4] (fun iv av wr => CatR L.length res w iv av wr) (fun iv _ _ => L.length - (intOf iv).toNat)
 case atStart => exact ⟨0, [], rfl, Nat.zero_le _, rfl, by simp, rfl, xaa.refl _ _⟩
 case round =>
  obtain ⟨i, all, rfl, hi, rfl, hal, hct, hk⟩ := hrel
  have K := xa hk
  have CT := xa hct
  clear hk hct
  by_cases hil : i < L.length
  · obtain ⟨k, hki⟩ : ∃ k, L[i]? = some k := ⟨_, List.getElem?_eq_getElem hil⟩
    obtain ⟨⟨s, bw⟩, hri⟩ : ∃ r, res[i]? = some r := ⟨_, List.getElem?_eq_getElem (by rw [HN.out]; exact hil)⟩
    obtain ⟨b, off, uo, d1, f1, g1, um, ux, d2, f2, g2, rfl, hu, hlt, x0, x1, x2, x3, x4⟩ := (HA.out.keep K.out).at hki
    have hih := IH.out i k (s, bw) hki hri
    have hsl : s.length <= 1000 := hih.2
    have HS : Hid (∀ W, KF wr W -> Calls prog 61 #[.agg #[.int .i64 uo, .slice d1 f1 g1, .int .i64 um, .int .i64 ux, .slice d2 f2 g2]] W fun e w' => PreE (s, bw) W e w') := xa (fun W kW =>
     hih.1 P ⟨uo, .slice d1 f1 g1, um, ux, .slice d2 f2 g2⟩ W (hu.keepsTo kW (fun _ _ => id) (fun _ h => h)))
    have CS := xa (xmg all hri)
    clear hki hri hu hih
    have hap := str_app all s
    unfold strL
    go_wp2_with fail
    refine (HS.out _ (KI.out)).mono ?_
    rintro e w2 ⟨rfl, k2⟩
    have K2 : Hid (KF w w2) := xa (K.out.trans (xaa.trans (KI.out) k2))
    clear k2
    unfold strL
    by_cases hgt : 200 < (all ++ s).length
    · have g : decide ((200 : Int) < ((all.length : Int) + (s.length : Int))) = true := by simp at hgt ⊢; omega
      have E : Hid (RR = ((all ++ s).take 200, false)) := xa (by rw [<- HR.out, <- CT.out, CS.out, if_pos (Or.inr hgt), if_pos hgt])
      have HCC := xa (fun W => HC.out (all ++ s) false W)
      rw [if_pos hgt] at HCC
      unfold strL at HCC
      clear hgt
      cases bw
      all_goals
       go_wp2_with fail
       refine (HCC.out _).mono ?_
       rintro e w3 ⟨rfl, k3⟩
       have K3 := xa (K2.out.trans k3)
       clear k3
       unfold strL
       go_wp2
       go_ret2
       exact ⟨by rw [E.out]; rfl, K3.out⟩
    have g : decide ((200 : Int) < ((all.length : Int) + (s.length : Int))) = false := by simp at hgt ⊢; omega
    cases bw
    · have E : Hid (RR = (all ++ s, false)) := xa (by rw [<- HR.out, <- CT.out, CS.out, if_pos (Or.inl rfl), if_neg hgt])
      have HCC := xa (fun W => HC.out (all ++ s) false W)
      rw [if_neg hgt] at HCC
      unfold strL at HCC
      clear hgt
      go_wp2_with fail
      refine (HCC.out _).mono ?_
      rintro e w3 ⟨rfl, k3⟩
      have K3 := xa (K2.out.trans k3)
      clear k3
      unfold strL
      go_wp2
      go_ret2
      exact ⟨by rw [E.out]; rfl, K3.out⟩
    have E : Hid (catP (res.drop (i + 1)) (all ++ s) = RR) := xa (by rw [<- HR.out, <- CT.out, CS.out, if_neg (by simp at hgt ⊢; omega)])
    have hal2 : (all ++ s).length <= 200 := by omega
    clear hgt
    go_wp2
    go_roundw
    case rel => exact ⟨i + 1, all ++ s, by go_num, by omega, rfl, hal2, by rw [E.out, HR.out], K2.out⟩
    case measure => simp [intOf]; omega
  have he : i = L.length := by omega
  subst he
  have E : Hid (RR = (all, true)) := xa (by rw [<- HR.out, <- CT.out, List.drop_eq_nil_of_le (by rw [HN.out]; omega)]; rfl)
  unfold strL
  go_wp2
  go_ret2
  exact ⟨by rw [E.out]; rfl, K.out⟩
def xbG : List UInt8 -> List UInt8 -> List UInt8
 | x :: a, y :: b => if x = y then x :: xbG a b else []
 | _, _ => []
theorem xdW : ∀ (a b : List UInt8), (xbG a b).length <= a.length
 | [], _ => Nat.le_refl _
 | x :: a, [] => Nat.zero_le _
 | x :: a, y :: b => by
  have := xdW a b
  rw [xbG]; split <;> simp only [List.length_cons, List.length_nil] <;> omega
def LikR (a b : List UInt8) (w : World) (nv : Value) (wr : World) : Prop :=
 ∃ n : Nat, nv = .int .i64 n /\ n <= a.length /\ n <= b.length /\ xbG a b = a.take n ++ xbG (a.drop n) (b.drop n) /\ KF w wr
theorem xmv (a b : List UInt8) (w : World) (ha : a.length <= 100000) (hb : b.length <= 100000) : Calls prog 99 #[strL a, strL b] w fun e w' => e = .returned (strL (xbG a b)) /\ KF w w' := by
 unfold strL
 go_enter func99, ntmps99
 go_wp2_with fail
 go_loopw [5] (fun nv wr => LikR a b w nv wr) (fun nv _ => a.length - (intOf nv).toNat)
 case atStart => exact ⟨0, rfl, Nat.zero_le _, Nat.zero_le _, by simp, xaa.refl _ _⟩
 case round =>
  obtain ⟨n, rfl, hna, hnb, hl, hk⟩ := hrel
  have K := xa hk
  have HL := xa hl
  clear hk hl
  by_cases h1 : n < a.length
  · by_cases h2 : n < b.length
    · obtain ⟨x, hx⟩ : ∃ x, a[n]? = some x := ⟨_, List.getElem?_eq_getElem h1⟩
      obtain ⟨y, hy⟩ : ∃ y, b[n]? = some y := ⟨_, List.getElem?_eq_getElem h2⟩
      have ix := idxC hx
      have iy := idxC hy
      have da : a.drop n = x :: a.drop (n + 1) := by
       obtain ⟨p1, p2⟩ := List.getElem?_eq_some_iff.1 hx
       rw [List.drop_eq_getElem_cons p1, p2]
      have db : b.drop n = y :: b.drop (n + 1) := by
       obtain ⟨p1, p2⟩ := List.getElem?_eq_some_iff.1 hy
       rw [List.drop_eq_getElem_cons p1, p2]
      by_cases hxy : x = y
      · subst hxy
        have HS : Hid (xbG a b = a.take (n + 1) ++ xbG (a.drop (n + 1)) (b.drop (n + 1))) := xa (by
         rw [HL.out, da, db, xbG, if_pos rfl, List.take_add_one, hx]
         simp)
        clear da db hx hy
        go_wp2_with fail
        go_quiet (fail)
        go_wp2
        go_roundw
        case rel => exact ⟨n + 1, by go_num, by omega, by omega, HS.out, K.out.drawN _⟩
        case measure => simp [intOf]; omega
      have gxy : ((x.toNat : Int) == (y.toNat : Int)) = false := beq_eq_false_iff_ne.2 (fun e => hxy (UInt8.toNat_inj.1 (by omega)))
      have HS : Hid (xbG a b = a.take n) := xa (by rw [HL.out, da, db, xbG, if_neg hxy, List.append_nil])
      have hex : (⟨a.toArray⟩ : ByteArray).extract 0 n = ⟨(a.take n).toArray⟩ := by
       apply ByteArray.ext
       simp [ByteArray.data_extract, List.extract_eq_take_drop]
      clear da db hx hy
      go_wp2_with fail
      go_quiet (fail)
      go_wp2
      go_ret
      exact ⟨by rw [HS.out, <- hex]; rfl, K.out.drawN _⟩
    have hbn : n = b.length := by omega
    have HS : Hid (xbG a b = a.take n) := xa (by
     rw [HL.out, show b.drop n = [] from List.drop_eq_nil_of_le (by omega)]
     cases a.drop n <;> simp [xbG])
    have hex : (⟨a.toArray⟩ : ByteArray).extract 0 n = ⟨(a.take n).toArray⟩ := by
     apply ByteArray.ext
     simp [ByteArray.data_extract, List.extract_eq_take_drop]
    clear hbn
    go_wp2_with fail
    go_quiet (fail)
    go_wp2
    go_ret
    exact ⟨by rw [HS.out, <- hex]; rfl, K.out.drawN _⟩
  have HS : Hid (xbG a b = a.take n) := xa (by
   rw [HL.out, show a.drop n = [] from List.drop_eq_nil_of_le (by omega)]
   simp [xbG])
  have hex : (⟨a.toArray⟩ : ByteArray).extract 0 n = ⟨(a.take n).toArray⟩ := by
   apply ByteArray.ext
   simp [ByteArray.data_extract, List.extract_eq_take_drop]
  go_wp2_with fail
  go_quiet (fail)
  go_wp2
  go_ret
  exact ⟨by rw [HS.out, <- hex]; rfl, K.out.drawN _⟩
def xbe (r t : List UInt8 × Bool) : List UInt8 × Bool := (xbG r.1 t.1, r.2 && (t.2 && (r.1 == t.1)))
def LaR (n : Nat) (rest : List (List UInt8 × Bool)) (R : List UInt8 × Bool) (w : World) (iv sv bv : Value) (wr : World) : Prop :=
 ∃ (i : Nat) (r : List UInt8 × Bool), iv = .int .i64 i /\ i <= n /\ sv = strL r.1 /\ bv = .bool r.2 /\ (rest.drop i).foldl xbe r = R /\ r.1.length <= 1000 /\ KF w wr
theorem xnN {q : List (List UInt8 × Bool)} {i : Nat} {p : List UInt8 × Bool} (h : q[i]? = some p) : q.drop i = p :: q.drop (i + 1) := by
 obtain ⟨h1, h2⟩ := List.getElem?_eq_some_iff.1 h
 rw [List.drop_eq_getElem_cons h1, h2]
theorem alt_any (P : Nat -> Prop) (k0 : T) (L : List T) (r0 : List UInt8 × Bool) (rest : List (List UInt8 × Bool)) (a : Option Addr) (c : Nat) (w : World) (ha : KRow w P a (k0 :: L)) (hL : L.length <= 4000) (hn : rest.length = L.length) (hc : L.length + 1 <= c)
 (h0 : PreC k0 r0 /\ r0.1.length <= 1000) (ih : ∀ (i : Nat) (k : T) (r : List UInt8 × Bool), L[i]? = some k -> rest[i]? = some r -> PreC k r /\ r.1.length <= 1000) :
 Calls prog 78 #[.slice a (L.length + 1) c] w fun e w' => PreE (rest.foldl xbe r0) w e w' := by
 obtain ⟨b, off, uo, d1, f1, g1, um, ux, d2, f2, g2, rfl, hu, hlt, x0, x1, x2, x3, x4⟩ := ha.at (i := 0) rfl
 simp only [Nat.zero_mul, Nat.add_zero] at x0 x1 x2 x3 x4
 have HS : Hid (∀ W, KF w W -> Calls prog 61 #[.agg #[.int .i64 uo, .slice d1 f1 g1, .int .i64 um, .int .i64 ux, .slice d2 f2 g2]] W fun e w' => PreE r0 W e w') := xa (fun W kW =>
  h0.1 P ⟨uo, .slice d1 f1 g1, um, ux, .slice d2 f2 g2⟩ W (hu.keepsTo kW (fun _ _ => id) (fun _ h => h)))
 have HA := xa ha
 have IH := xa ih
 have HN := xa hn
 obtain ⟨R, hR⟩ : ∃ R, rest.foldl xbe r0 = R := ⟨_, rfl⟩
 have HR := xa hR
 rw [hR]
 have hr0 := h0.2
 clear ha hu ih hn hR h0
 go_enter func78, ntmps78
 go_wp2_with fail
 refine (HS.out _ (KI.out)).mono ?_
 rintro e w2 ⟨rfl, k2⟩
 have K2 := xa k2
 clear k2 x0 x1 x2 x3 x4 HS
 unfold strL
 have hend : ∀ (i : Nat) (r : List UInt8 × Bool), i = L.length -> (rest.drop i).foldl xbe r = R -> r = R := fun i r hi h => by
  rw [List.drop_eq_nil_of_le (by rw [HN.out]; omega)] at h; exact h
 have HEnd := xa hend
 clear hend
 by_cases hc1 : c = 1
 · subst hc1
   have hL0 : L.length = 0 := by omega
   rw [hL0]
   go_wp2_with fail
   go_loopw [20, 4, 5] (fun iv sv bv wr => LaR 0 rest R w iv sv bv wr) (fun iv _ _ _ => 0 - (intOf iv).toNat)
   case atStart => exact ⟨0, r0, rfl, Nat.zero_le _, rfl, rfl, HR.out, hr0, K2.out⟩
   case round =>
    obtain ⟨i, r, rfl, hi, rfl, rfl, hf, hrl, hk⟩ := hrel
    obtain rfl : i = 0 := by omega
    have HE := xa (HEnd.out 0 r (by omega) hf)
    have K := xa hk
    clear hf hk
    unfold strL
    go_wp2
    go_ret2
    exact ⟨by rw [<- HE.out]; rfl, K.out⟩
 have hc2 : 1 < c := by omega
 go_wp2_with fail
 go_loopw [20, 4, 5] (fun iv sv bv wr => LaR L.length rest R w iv sv bv wr) (fun iv _ _ _ => L.length - (intOf iv).toNat)
 case atStart => exact ⟨0, r0, rfl, Nat.zero_le _, rfl, rfl, HR.out, hr0, K2.out⟩
 case round =>
  clear HR K2 hr0
  obtain ⟨i, r, rfl, hi, rfl, rfl, hf, hrl, hk⟩ := hrel
  have HF := xa hf
  have K := xa hk
  clear hf hk
  by_cases hil : i < L.length
  · obtain ⟨k, hki⟩ : ∃ k, L[i]? = some k := ⟨_, List.getElem?_eq_getElem hil⟩
    obtain ⟨t, hti⟩ : ∃ t, rest[i]? = some t := ⟨_, List.getElem?_eq_getElem (by rw [HN.out]; exact hil)⟩
    obtain ⟨b', off', uo', d1', f1', g1', um', ux', d2', f2', g2', hbb, hu', hlt', y0, y1, y2, y3, y4⟩ := HA.out.at (i := i + 1) (by simpa using hki)
    cases hbb
    obtain ⟨hp, htl⟩ := IH.out i k t hki hti
    have HS' : Hid (∀ W, KF w W -> Calls prog 61 #[.agg #[.int .i64 uo', .slice d1' f1' g1', .int .i64 um', .int .i64 ux', .slice d2' f2' g2']] W fun e w' => PreE t W e w') := xa (fun W kW =>
     hp P ⟨uo', .slice d1' f1' g1', um', ux', .slice d2' f2' g2'⟩ W (hu'.keepsTo kW (fun _ _ => id) (fun _ h => h)))
    have HF2 : Hid ((rest.drop (i + 1)).foldl xbe (xbe r t) = R) := xa (by have h := HF.out; rw [xnN hti] at h; exact h)
    have z0 := K.out.cell y0 id
    have z1 := K.out.cell y1 id
    have z2 := K.out.cell y2 id
    have z3 := K.out.cell y3 id
    have z4 := K.out.cell y4 id
    have e5 : off + (i + 1) * 5 = off + 5 + i * 5 := by omega
    rw [e5] at z0 z1 z2 z3 z4
    have hl2 : b < wr.heap.size := xal z0
    have hal := xdW r.1 t.1
    have HAl := xa (fun W => xmv r.1 t.1 W (by omega) (by omega))
    clear y0 y1 y2 y3 y4 hki hti hu' hp e5 HF
    obtain ⟨s, wh⟩ := r
    obtain ⟨t1, too⟩ := t
    simp only at hal hrl htl HAl
    unfold strL at HAl ⊢
    go_wp2_with fail
    refine (HS'.out _ (K.out.trans (KI.out))).mono ?_
    rintro e w3 ⟨rfl, k3⟩
    have K3 : Hid (KF w w3) := xa (xaa.trans (K.out.trans (KI.out)) k3)
    clear k3 z0 z1 z2 z3 z4
    unfold strL
    cases wh with
    | false =>
     go_wp2_with fail
     refine (HAl.out _).mono ?_
     rintro e w4 ⟨rfl, k4⟩
     have K4 := xa (K3.out.trans k4)
     clear k4
     go_wp2
     go_roundw
     case rel => exact ⟨i + 1, xbe (s, false) (t1, too), by go_num, by omega, rfl, rfl, HF2.out, by simp only [xbe]; omega, K4.out⟩
     case measure => simp [intOf]; omega
    | true =>
     cases too with
     | false =>
      go_wp2_with fail
      refine (HAl.out _).mono ?_
      rintro e w4 ⟨rfl, k4⟩
      have K4 := xa (K3.out.trans k4)
      clear k4
      go_wp2
      go_roundw
      case rel => exact ⟨i + 1, xbe (s, true) (t1, false), by go_num, by omega, rfl, rfl, HF2.out, by simp only [xbe]; omega, K4.out⟩
      case measure => simp [intOf]; omega
     | true =>
      obtain ⟨q, hq⟩ : ∃ q, (s == t1) = q := ⟨_, rfl⟩
      have HQ := xa hq
      go_wp2_with fail
      refine (HAl.out _).mono ?_
      rintro e w4 ⟨rfl, k4⟩
      have K4 := xa (K3.out.trans k4)
      clear k4
      go_wp2
      go_roundw
      case rel => exact ⟨i + 1, xbe (s, true) (t1, true), by go_num, by omega, rfl, by simp [xbe, HQ.out], HF2.out, by simp only [xbe]; omega, K4.out⟩
      case measure => simp [intOf]; omega
  obtain rfl : i = L.length := by omega
  have HE := xa (HEnd.out _ r rfl HF.out)
  clear HF
  unfold strL
  go_wp2
  go_ret2
  exact ⟨by rw [<- HE.out]; rfl, K.out⟩

theorem xm0 {y : Nat} : (putP y).length <= 4 := by unfold putP; split <;> (try split) <;> (try split) <;> simp [lowB]
theorem prx_one (t : T) (h : t.op = 1) (hs : t.set.length <= 4000) (y : Nat) (ho : ofL t.set = [((y : Int), (y : Int))]) (hb : isB (y : Int) = true) : PreC t (putP y, true) := by
 intro P v w ht
 have HSt := xa ht.set
 obtain ⟨a1, n1, c1, a2, c2, e1, e2, hl, hc⟩ := ht.krow
 have o1 : v.op = 1 := ht.op.trans h
 obtain ⟨vo, vsv, vm, vx, vk⟩ := v
 obtain rfl := e1
 obtain rfl := e2
 obtain rfl := o1
 have HI := xa (fun W => xeQ (y : Int) W)
 have HP := xa (fun W => put_any y W hb)
 rw [hb] at HI
 clear hl hc ht hb
 generalize t.kids.toL.length = KL at *
 generalize t.set = s at *
 generalize putP y = R at *
 show Calls prog 61 #[.agg #[.int .i64 1, .slice a1 n1 c1, .int .i64 vm, .int .i64 vx, .slice a2 KL c2]] w _
 go_enter func61, ntmps61
 go_wp2_with fail
 refine (xiL s _ _ (HSt.out.keeps (S := fun _ => False) (KI.out) (fun _ _ => id)) (by omega)).mono ?_
 rintro e w2 ⟨out, x, ok, rfl, hof, hyes, hno, k2⟩
 have hout : out = [((y : Int), (y : Int))] := (xfw hof).symm.trans ho
 cases ok
 · exact absurd hout ((hno rfl).2 _)
 obtain rfl : x = y := by
  have := hyes rfl
  rw [hout] at this
  simpa using this.symm
 have K2 : Hid (KF w w2) := xa (xaa.trans (KI.out) k2)
 clear hof hyes hno hout k2 ho
 go_wp2_with fail
 refine (HI.out _).mono ?_
 rintro e w3 ⟨rfl, rfl⟩
 go_wp2_with fail
 refine (HP.out _).mono ?_
 rintro e w4 ⟨v4, rfl, hO, k4⟩
 have hcv := xln hO
 have K4 := xa (K2.out.trans k4)
 clear k4 hO
 unfold strL at hcv
 go_wp2
 go_ret2
 exact ⟨rfl, K4.out⟩
theorem xm3 (t : T) (h : t.op = 1) (hs : t.set.length <= 4000) (ho : ∀ y : Int, ofL t.set = [(y, y)] -> isB y = false) : PreC t ([], false) := by
 intro P v w ht
 have HSt := xa ht.set
 obtain ⟨a1, n1, c1, a2, c2, e1, e2, hl, hc⟩ := ht.krow
 have o1 : v.op = 1 := ht.op.trans h
 obtain ⟨vo, vsv, vm, vx, vk⟩ := v
 obtain rfl := e1
 obtain rfl := e2
 obtain rfl := o1
 clear hl hc ht
 generalize t.kids.toL.length = KL at *
 generalize t.set = s at *
 show Calls prog 61 #[.agg #[.int .i64 1, .slice a1 n1 c1, .int .i64 vm, .int .i64 vx, .slice a2 KL c2]] w _
 go_enter func61, ntmps61
 go_wp2_with fail
 refine (xiL s _ _ (HSt.out.keeps (S := fun _ => False) (KI.out) (fun _ _ => id)) (by omega)).mono ?_
 rintro e w2 ⟨out, x, ok, rfl, hof, hyes, hno, k2⟩
 have K2 : Hid (KF w w2) := xa (xaa.trans (KI.out) k2)
 cases ok
 · clear hof hyes hno k2 ho
   go_wp2
   go_ret2
   exact ⟨rfl, K2.out⟩
 have hb := ho x ((xfw hof).trans (hyes rfl))
 have HI := xa (fun W => xeQ x W)
 rw [hb] at HI
 clear hof hyes hno k2 ho hb
 go_wp2_with fail
 refine (HI.out _).mono ?_
 rintro e w3 ⟨rfl, rfl⟩
 go_wp2
 go_ret2
 exact ⟨rfl, K2.out⟩
theorem xm2 (t : T) (h : t.op = 0) : PreC t ([], true) := by
 intro P v w ht
 obtain ⟨a1, n1, c1, a2, c2, e1, e2, hl, hc⟩ := ht.krow
 have o1 : v.op = 0 := ht.op.trans h
 obtain ⟨vo, vsv, vm, vx, vk⟩ := v
 obtain rfl := e1
 obtain rfl := e2
 obtain rfl := o1
 clear hl hc ht
 generalize t.kids.toL.length = KL at *
 show Calls prog 61 #[.agg #[.int .i64 0, .slice a1 n1 c1, .int .i64 vm, .int .i64 vx, .slice a2 KL c2]] w _
 go_enter func61, ntmps61
 go_wp2
 go_ret2
 exact ⟨rfl, KI.out⟩
theorem xld (t : T) (h : t.op = 2) : PreC t ([], false) := by
 intro P v w ht
 obtain ⟨a1, n1, c1, a2, c2, e1, e2, hl, hc⟩ := ht.krow
 have o1 : v.op = 2 := ht.op.trans h
 obtain ⟨vo, vsv, vm, vx, vk⟩ := v
 obtain rfl := e1
 obtain rfl := e2
 obtain rfl := o1
 clear hl hc ht
 generalize t.kids.toL.length = KL at *
 show Calls prog 61 #[.agg #[.int .i64 2, .slice a1 n1 c1, .int .i64 vm, .int .i64 vx, .slice a2 KL c2]] w _
 go_enter func61, ntmps61
 go_wp2
 go_ret2
 exact ⟨rfl, KI.out⟩
theorem prx_end (t : T) (h : t.op = 3) : PreC t ([], false) := by
 intro P v w ht
 obtain ⟨a1, n1, c1, a2, c2, e1, e2, hl, hc⟩ := ht.krow
 have o1 : v.op = 3 := ht.op.trans h
 obtain ⟨vo, vsv, vm, vx, vk⟩ := v
 obtain rfl := e1
 obtain rfl := e2
 obtain rfl := o1
 clear hl hc ht
 generalize t.kids.toL.length = KL at *
 show Calls prog 61 #[.agg #[.int .i64 3, .slice a1 n1 c1, .int .i64 vm, .int .i64 vx, .slice a2 KL c2]] w _
 go_enter func61, ntmps61
 go_wp2
 go_ret2
 exact ⟨rfl, KI.out⟩
theorem prx_cat (t : T) (h : t.op = 4) (res : List (List UInt8 × Bool)) (hn : res.length = t.kids.toL.length) (ih : ∀ (i : Nat) (k : T) (r : List UInt8 × Bool), t.kids.toL[i]? = some k -> res[i]? = some r -> PreC k r /\ r.1.length <= 1000) : PreC t (catP res []) := by
 intro P v w ht
 obtain ⟨a1, n1, c1, a2, c2, e1, e2, hl, hc⟩ := ht.krow
 generalize t.kids.toL = L at *
 have HK := xa (fun W (K : KF w W) => cat_any P L res a2 c2 W (hc.keep K) hl hn ih)
 have o1 : v.op = 4 := ht.op.trans h
 obtain ⟨vo, vsv, vm, vx, vk⟩ := v
 obtain rfl := e1
 obtain rfl := e2
 obtain rfl := o1
 clear hl hc ht ih hn
 generalize catP res [] = R at *
 show Calls prog 61 #[.agg #[.int .i64 4, .slice a1 n1 c1, .int .i64 vm, .int .i64 vx, .slice a2 L.length c2]] w _
 go_enter func61, ntmps61
 go_wp2_with fail
 refine (HK.out _ (KI.out)).mono ?_
 rintro e w2 ⟨rfl, k2⟩
 have K2 : Hid (KF w w2) := xa (xaa.trans (KI.out) k2)
 clear k2
 unfold strL
 go_wp2
 go_ret2
 exact ⟨rfl, K2.out⟩
theorem TAt.kcap' {w : World} {P : Nat -> Prop} {v : NV} {t : T} (h : TAt w P v t) {a : Option Addr} {n c : Nat} (e : v.kv = .slice a n c) : n <= c := by
 obtain ⟨ks, ⟨a2, c2, e2, hcap, _⟩, _⟩ := h.kids
 rw [e] at e2
 cases e2
 exact hcap.1
theorem prx_alt (t : T) (h : t.op = 5) (k0 : T) (L : List T) (hL : t.kids.toL = k0 :: L) (hl4 : L.length <= 4000) (r0 : List UInt8 × Bool) (rest : List (List UInt8 × Bool)) (hn : rest.length = L.length) (h0 : PreC k0 r0 /\ r0.1.length <= 1000) (ih : ∀ (i : Nat) (k : T) (r : List UInt8 × Bool), L[i]? = some k -> rest[i]? = some r -> PreC k r /\ r.1.length <= 1000) : PreC t (rest.foldl xbe r0) := by
 intro P v w ht
 obtain ⟨a1, n1, c1, a2, c2, e1, e2, hl, hc⟩ := ht.krow
 have hcp := ht.kcap' e2
 rw [hL] at e2 hc hcp
 simp only [List.length_cons] at hcp
 have HK := xa (fun W (K : KF w W) => alt_any P k0 L r0 rest a2 c2 W (hc.keep K) hl4 hn hcp h0 ih)
 have o1 : v.op = 5 := ht.op.trans h
 obtain ⟨vo, vsv, vm, vx, vk⟩ := v
 obtain rfl := e1
 obtain rfl := e2
 obtain rfl := o1
 clear hl hc ht ih hn hcp h0
 generalize rest.foldl xbe r0 = R at *
 show Calls prog 61 #[.agg #[.int .i64 5, .slice a1 n1 c1, .int .i64 vm, .int .i64 vx, .slice a2 (L.length + 1) c2]] w _
 go_enter func61, ntmps61
 go_wp2_with fail
 refine (HK.out _ (KI.out)).mono ?_
 rintro e w2 ⟨rfl, k2⟩
 have K2 : Hid (KF w w2) := xa (xaa.trans (KI.out) k2)
 clear k2
 unfold strL
 go_wp2
 go_ret2
 exact ⟨rfl, K2.out⟩
theorem xe6 : ∀ (rest : List (List UInt8 × Bool)) (r : List UInt8 × Bool), (rest.foldl xbe r).1.length <= r.1.length
 | [], _ => Nat.le_refl _
 | t :: rest, r => Nat.le_trans (xe6 rest (xbe r t)) (xdW r.1 t.1)
theorem xi9 : ∀ (res : List (List UInt8 × Bool)) (all : List UInt8), all.length <= 200 -> (catP res all).1.length <= 200
 | [], all, h => h
 | (s, b) :: r, all, h => by
  rw [catP]
  split
  · split
    · simp only [List.length_take]; omega
    simp only at *; omega
  rename_i hn
  have : ¬ 200 < (all ++ s).length := fun x => hn (Or.inr x)
  exact xi9 r _ (by omega)
theorem xes : (prog.info? 230).map (·.size) = some 2 := by kernel_rfl
theorem xhX : liesAt prog prog.depth 230 (2 / prog.cellsOf 230) 0 230 1 = true := by kernel_rfl
theorem info_u8 : (prog.info? 5).map (fun i => (i.zero, i.size, i.bytes)) = some (some (.int .u8 0), 1, 1) := by kernel_rfl
theorem xfb (b : Nat) (w : World) (h0 : w.cell? ⟨b, 0, none⟩ = some (.pointer (some ⟨b, 0, none⟩))) :
 Calls prog 127 #[.pointer (some ⟨b, 0, none⟩)] w fun e w' => e = .returned (.tuple #[]) /\ w' = w := by
 obtain ⟨j, hj, _⟩ := Option.map_eq_some_iff.1 xes
 go_enter func127, ntmps127
 go_wp2
 rw [Lib.run_neq_ptr_same w _ underlying228 hj]
 go_wp2
 go_end0
 exact ⟨rfl, rfl⟩
theorem xeX (b : Nat) (w : World) (h0 : w.cell? ⟨b, 0, none⟩ = some (.pointer none)) (hsh : w.shape? b = some (230, 2)) (hfz : w.frozen? ⟨b, 0, none⟩ = false) :
 Calls prog 127 #[.pointer (some ⟨b, 0, none⟩)] w fun e w' => e = .returned (.tuple #[]) /\ w' = w.setCell ⟨b, 0, none⟩ (.pointer (some ⟨b, 0, none⟩)) := by
 obtain ⟨j, hj, hjs⟩ := Option.map_eq_some_iff.1 xes
 go_enter func127, ntmps127
 go_wp2
 rw [Lib.run_to_unsafe w ⟨b, 0, none⟩ underlying228 underlying260 hj (by rw [hjs]; decide) hsh (Nat.zero_lt_succ 1)]
 simp only [Result.andThen]
 rw [Oper.upon_value]
 go_wp2
 rw [run_callFunc_extern func148 (by kernel_rfl) (by kernel_rfl) (by kernel_rfl) (e := Extern.AbiNoEscape.same) (by kernel_rfl)]
 rw [Lib.run_noEscape]
 simp only [Result.andThen]
 rw [Oper.upon_value]
 go_wp2
 rw [Lib.run_from_unsafe w ⟨b, 0, none⟩ underlying260 underlying228 hj hsh xhX]
 simp only [Result.andThen]
 rw [Oper.upon_value]
 go_wp2
 go_end0
 exact ⟨rfl, rfl⟩
theorem xfc (B b : Nat) (bs : List Value) (w : World) (h : Lib.IsBuilderF 230 5 B b bs w) :
 Calls prog 127 #[.pointer (some ⟨b, 0, none⟩)] w fun e w' => e = .returned (.tuple #[]) /\ (Lib.BuilderAtF 230 5 B b (.pointer (some ⟨b, 0, none⟩)) bs w' /\ Below B w w') := by
 rcases h with h | h
 · refine (xeX b w h.cell0 h.shape h.frozen0).mono ?_
   rintro e w' ⟨rfl, rfl⟩
   exact ⟨rfl, h.used _, (Below.refl B w).setCell (p := ⟨b, 0, none⟩) h.1 _⟩
 refine (xfb b w h.cell0).mono ?_
 rintro e w' ⟨rfl, rfl⟩
 exact ⟨rfl, h, Below.refl B _⟩
theorem xcl (B b : Nat) (bs : List Value) (s : ByteArray) (w : World) (h : Lib.IsBuilderF 230 5 B b bs w) (hlen : bs.length + s.size <= 140737488355328) (hBw : B <= w.heap.size) :
 Calls prog 116 #[.pointer (some ⟨b, 0, none⟩), .string s] w fun e w' => e = .returned (.tuple #[.int .i64 s.size, .nilIface]) /\ (Lib.BuilderAtF 230 5 B b (.pointer (some ⟨b, 0, none⟩)) (bs ++ Lib.strCells s) w' /\ Below B w w') := by
 obtain ⟨i0, hi, hz0, hz1, hz2⟩ := info_parts info_u8
 go_enter func116, ntmps116
 go_wp2_with fail
 refine (xfc B b bs _ h).mono ?_
 rintro e w1 ⟨rfl, h1, hb1⟩
 obtain ⟨hB, v, hbk, hown, hne⟩ := h1
 have c0 : w1.cell? ⟨b, 0, none⟩ = some (.pointer (some ⟨b, 0, none⟩)) := by rw [Lib.cell_of_heap hbk]; rfl
 have c1 : w1.cell? ⟨b, 1, none⟩ = some v := by rw [Lib.cell_of_heap hbk]; rfl
 go_wp2_with (at_builtin; refine Lib.wpList_append_own_stringF _ rfl _ _ 22 9 rfl B 5 i0 underlying22 underlying9 hi hz0 hz1 hz2 _ _ _ rfl hown s rfl ?c3 ?c4 ?c5 ?_)
 case c3 => unfold maxLen; omega
 case c4 => omega
 case c5 => have := hb1.size; omega
 intro v' w2 hown' hgrow _
 have hlt : b < w1.heap.size := by
  rcases Nat.lt_or_ge b w1.heap.size with h' | h'
  · exact h'
  simp [Array.getElem?_eq_none h'] at hbk
 have hb2 : w2.heap[b]? = some (.cells #[.pointer (some ⟨b, 0, none⟩), v] 230 (0, 0)) := by
  rw [hgrow.block b hlt (fun e => hne e.symm)]
  exact hbk
 have d0 : w2.cell? ⟨b, 0, none⟩ = some (.pointer (some ⟨b, 0, none⟩)) := by rw [Lib.cell_of_heap hb2]; rfl
 have d1 : w2.cell? ⟨b, 1, none⟩ = some v := by rw [Lib.cell_of_heap hb2]; rfl
 have f1 : w2.frozen? ⟨b, 1, none⟩ = false := Lib.frozen_of_heap hb2 1
 obtain ⟨ao, n', cap, rfl⟩ : ∃ ao n' cap, v' = .slice ao n' cap := by
  rcases hown'.2 with ⟨hv, _⟩ | ⟨g, cap, cur, fz, hv, _⟩
  · exact ⟨_, _, _, hv⟩
  exact ⟨_, _, _, hv⟩
 go_wp2
 go_ret2
 refine ⟨rfl, ?_, ?_⟩
 · exact Lib.BuilderAtF.put (T := 230) (e := 5) hB hb2 (bs' := bs ++ Lib.strCells s) (by simpa [Lib.strCells_length] using hown') (by decide)
 exact (hb1.grown hgrow (by have := hb1.size; omega) (fun k hk => (hown.lt k hk).1)).setCell (p := ⟨b, 1, none⟩) hB _
theorem min_3 (W : World) (x y z : Int) : (Builtin.min_ #[3, 3, 3] 3 #[.int .i64 x, .int .i64 y, .int .i64 z]).run prog W = .ok (.int .i64 (if z < (if y < x then y else x) then z else (if y < x then y else x))) W := by
 simp [Builtin.min_, Builtin.min2]
def hpB (X s : ByteArray) : Bool := decide (s.size <= X.size) && ((X.extract 0 s.size).toList == s.toList)
theorem xnB (X s : ByteArray) (w : World) (hX : X.size <= 100000) (hs : s.size <= 100000) : Calls prog 126 #[.string X, .string s] w fun e w' => e = .returned (.bool (hpB X s)) /\ w = w' := by
 obtain ⟨b, hb⟩ : ∃ b, hpB X s = b := ⟨_, rfl⟩
 rw [hb]
 have HB := xa hb
 clear hb
 by_cases h : s.size <= X.size
 · have g : decide ((s.size : Int) <= (X.size : Int)) = true := by simp; omega
   have HE : Hid (((X.extract 0 s.size).toList == s.toList) = b) := xa (by rw [<- HB.out]; unfold hpB; simp [h])
   go_enter func126, ntmps126
   go_wp2
   go_ret
   exact ⟨by rw [<- HE.out]; rfl, rfl⟩
 have g : decide ((s.size : Int) <= (X.size : Int)) = false := by simp; omega
 have HE : Hid (false = b) := xa (by rw [<- HB.out]; unfold hpB; simp [h])
 go_enter func126, ntmps126
 go_wp2
 go_ret
 exact ⟨by rw [<- HE.out]; rfl, rfl⟩
theorem xh1 (X s : ByteArray) (w : World) (hX : X.size <= 100000) (hs : s.size <= 100000) : Calls prog 114 #[.string X, .string s] w fun e w' => e = .returned (.bool (hpB X s)) /\ w = w' := by
 have HP := xa (fun W => xnB X s W hX hs)
 generalize hpB X s = b at *
 go_enter func114, ntmps114
 go_wp2_with fail
 refine (HP.out _).mono ?_
 rintro e w2 ⟨rfl, rfl⟩
 go_wp2
 go_ret
 exact ⟨rfl, rfl⟩
section
set_option maxRecDepth 1000000
theorem hpB_pre (X s : ByteArray) (h : hpB X s = true) : Lib.hasPrefix X.data.toList s.data.toList = true := by
 rw [<- Lib.hasPrefix_of_take, <- Lib.size_eq, <- Lib.size_eq]
 unfold hpB at h
 rw [Lib.extract_toList, Lib.toList_data] at h
 simpa using h
theorem xlY (X : ByteArray) (x : UInt8) (m : Nat) (hX : X.data.toList = List.replicate m x) (s : ByteArray) (c n : Nat) (hn : s.size * c = n) (hle : n <= m) (hp : hpB X s = true) : X.extract 0 n = ⟨(Lib.repeatL s.data.toList c).toArray⟩ := by
 have := Lib.fast_ok X.data.toList x m hX s c n hn hle (hpB_pre X s hp)
 rwa [show (⟨X.data.toList.toArray⟩ : ByteArray) = X from rfl] at this
theorem xjx (s : ByteArray) (c : Nat) (w : World) (hs : 1 <= s.size /\ s.size <= 1000) (hc : 2 <= c /\ c <= 1000) :
 Calls prog 100 #[.string s, .int .i64 c] w fun e w' => e = .returned (.string ⟨(Lib.repeatL s.data.toList c).toArray⟩) /\ KF w w' := by
 obtain ⟨n, hn⟩ : ∃ n, s.size * c = n := ⟨_, rfl⟩
 have hnb : n <= 1000000 := by rw [<- hn]; exact Nat.le_trans (Nat.mul_le_mul hs.2 hc.2) (by decide)
 have HM := xa (fun W => Tryz.bits_Mul s.size c (by omega) (by omega) W)
 rw [hn, Nat.div_eq_of_lt (by omega), Nat.mod_eq_of_lt (by omega)] at HM
 have HN := xa hn
 have HP := xa (fun X W hX => xh1 X s W hX (by omega))
 clear hn
 go_enter func100, ntmps100
 go_upto_block 1 with (go_at_call 113; refine (HM.out _).mono ?_; rintro e w' ⟨rfl, hw⟩; rw [hw])
 clear HM
 go_cut [] (fun wx => w = wx)
 case first =>
  go_upto_if 43 with fail
  go_cut [43] (fun s43 wx => w = wx /\ ∃ B : Bool, s43 = .bool B)
  case first =>
   go_wp2
   all_goals (go_meet; exact ⟨rfl, _, rfl⟩)
  case rest =>
   obtain ⟨rfl, B, rfl⟩ := hcut
   cases B
   · go_wp2
     go_meet
     rfl
   go_wp2_with (go_at_call 114; refine (HP.out _ _ (by decide)).mono ?_; rintro e w' ⟨rfl, rfl⟩)
   all_goals (first
    | (go_meet; rfl)
    | (go_ret; first
        | exact ⟨by rw [xlY _ 32 128 (by rfl) s c n HN.out (by omega) (by assumption)] <;> rfl, xaa.refl _ _⟩
        | exact ⟨by rw [xlY _ 45 128 (by rfl) s c n HN.out (by omega) (by assumption)] <;> rfl, xaa.refl _ _⟩
        | exact ⟨by rw [xlY _ 48 64 (by rfl) s c n HN.out (by omega) (by assumption)] <;> rfl, xaa.refl _ _⟩
        | exact ⟨by rw [xlY _ 61 128 (by rfl) s c n HN.out (by omega) (by assumption)] <;> rfl, xaa.refl _ _⟩
        | exact ⟨by rw [xlY _ 9 64 (by rfl) s c n HN.out (by omega) (by assumption)] <;> rfl, xaa.refl _ _⟩))
 case rest =>
  obtain rfl := hcut
  clear HP
  have hq8 : wrap64 (8192 / (s.size : Int) * (s.size : Int)) = ((8192 / s.size * s.size : Nat) : Int) := by
   have e : (8192 : Int) / (s.size : Int) * (s.size : Int) = ((8192 / s.size * s.size : Nat) : Int) := by
    rw [Int.natCast_mul, Int.natCast_ediv]; rfl
   have hle : 8192 / s.size * s.size <= 8192 := Nat.div_mul_le_self 8192 s.size
   rw [e]; unfold wrap64; omega
  have hq0 : 1 <= 8192 / s.size := (Nat.le_div_iff_mul_le (by omega)).2 (by omega)
  go_upto_if 96 with fail
  go_cut [8] (fun s8 wx => w = wx /\ ∃ m : Nat, 1 <= m /\ s8 = .int .i64 ((m * s.size : Nat) : Int))
  case first =>
   go_wp2
   · go_meet
     exact ⟨rfl, 1, Nat.le_refl _, by rw [Nat.one_mul]⟩
   · go_meet
     exact ⟨rfl, 8192 / s.size, hq0, by rw [hq8]⟩
   go_meet
   exact ⟨rfl, c, by omega, by rw [Nat.mul_comm, HN.out]⟩
  case rest =>
   obtain ⟨rfl, m, hm1, rfl⟩ := hcut
   clear hq8 hq0
   obtain ⟨CM, hCM⟩ : ∃ CM, m * s.size = CM := ⟨_, rfl⟩
   rw [hCM]
   have HCM := xa hCM
   clear hCM
   go_wp2_with fail
   refine (Tryz.Builder_Grow_fresh w.heap.size w.heap.size n _ (Nat.le_refl _) (heap_alloc_new w _) (by simp) (by omega)).mono ?_
   rintro e w2 ⟨rfl, hB, hb2⟩
   have B2 : Hid (Below w.heap.size w w2) := xa (((Below.refl _ w).alloc (Nat.le_refl _) _).trans hb2)
   have H2 : Hid (Lib.IsBuilderF 230 5 w.heap.size w.heap.size [] w2) := xa (Or.inr (Lib.BuilderAtF.of hB))
   clear hB hb2
   go_wp2_with fail
   refine (xcl w.heap.size w.heap.size [] s _ H2.out (by simp; omega) (by have := B2.out.size; omega)).mono ?_
   rintro e w3 ⟨rfl, hB, hb3⟩
   have B3 := xa (B2.out.trans hb3)
   have H3 : Hid (Lib.IsBuilderF 230 5 w.heap.size w.heap.size (Lib.byteCells (Lib.repeatL s.data.toList 1)) w3) := xa (Or.inr (by rw [List.nil_append, Lib.strCells_eq] at hB; rw [Lib.repeatL_one]; exact hB))
   clear hB hb3
   go_wp2_with fail
   go_loopg [] (c - 1) (fun g wx => ∃ q : Nat, 1 <= q /\ q + g = c /\ Lib.IsBuilderF 230 5 w.heap.size w.heap.size (Lib.byteCells (Lib.repeatL s.data.toList q)) wx /\ Below w.heap.size w wx)
   case atStart => exact ⟨1, Nat.le_refl _, by omega, H3.out, B3.out⟩
   case round =>
    clear H3 B3 H2 B2
    obtain ⟨q, hq1, hqg, hB, hK⟩ := hrel
    obtain ⟨Q, hQ⟩ : ∃ Q, q * s.size = Q := ⟨_, rfl⟩
    have hlr : (Lib.repeatL s.data.toList q).length = Q := by rw [Lib.repeatL_length, <- Lib.size_eq, hQ]
    have hlq : (Lib.byteCells (Lib.repeatL s.data.toList q)).length = Q := by rw [Lib.byteCells_length, hlr]
    have hnc : c * s.size = n := by rw [Nat.mul_comm]; exact HN.out
    have hsz := hK.size
    have HB := xa hB
    have KB := xa hK
    have HLen : Hid (Calls prog 117 #[.pointer (some ⟨w.heap.size, 0, none⟩)] wr fun e w' => e = .returned (.int .i64 (Q : Nat)) /\ w' = wr) := xa (by
     have := Tryz.Builder_Len_f w.heap.size w.heap.size _ wr HB.out
     rwa [hlq] at this)
    have HLR := xa hlr
    have HLQ := xa hlq
    have HQ := xa hQ
    have HNC := xa hnc
    clear hB hK hlr hlq hQ hnc
    cases gk with
    | zero =>
     obtain rfl : q = c := by omega
     have hQn : ¬ ((Q : Int) < (n : Int)) := by have e1 := HQ.out; have e2 := HNC.out; omega
     go_wp2_with fail
     refine HLen.out.mono ?_
     rintro e w4 ⟨rfl, rfl⟩
     go_wp2_with fail
     refine (Tryz.Builder_String_any_f w.heap.size w.heap.size _ _ HB.out hsz).mono ?_
     rintro e w5 ⟨rfl, hB5, hb5⟩
     have KB5 := xa (KB.out.trans hb5)
     clear hB5 hb5
     go_wp2
     go_ret
     exact ⟨rfl, xaa.ofBelowAll KB5.out _⟩
    | succ g =>
     obtain ⟨k, hk1, hkq, hkc, hmin⟩ := Lib.chunk_ok c q m s.size hq1 (by omega) hm1
     rw [HNC.out, HQ.out, HCM.out] at hmin
     obtain ⟨CH, hCH⟩ : ∃ CH, k * s.size = CH := ⟨_, rfl⟩
     rw [hCH] at hmin
     have hQn : (Q : Int) < (n : Int) := by
      have h1 : (q + 1) * s.size <= c * s.size := Nat.mul_le_mul_right _ (by omega)
      rw [Nat.succ_mul, HQ.out, HNC.out] at h1
      omega
     have hCQ : CH <= Q := by rw [<- hCH, <- HQ.out]; exact Nat.mul_le_mul_right _ hkq
     have hsum : Q + CH <= n := by
      have h1 : (q + k) * s.size <= c * s.size := Nat.mul_le_mul_right _ hkc
      rw [Nat.add_mul, HQ.out, hCH, HNC.out] at h1
      exact h1
     have hm3 := fun W => min_3 W ((n : Int) - (Q : Int)) (Q : Int) (CM : Int)
     have hme : (if (CM : Int) < (if (Q : Int) < (n : Int) - (Q : Int) then (Q : Int) else (n : Int) - (Q : Int)) then (CM : Int) else (if (Q : Int) < (n : Int) - (Q : Int) then (Q : Int) else (n : Int) - (Q : Int))) = (CH : Int) := by
      split <;> (try split) <;> omega
     rw [hme] at hm3
     obtain ⟨S, hS⟩ : ∃ S : ByteArray, (⟨(Lib.repeatL s.data.toList q).toArray⟩ : ByteArray) = S := ⟨_, rfl⟩
     have hSd : S.data.toList = Lib.repeatL s.data.toList q := by rw [<- hS]
     have hSz : S.size = Q := by rw [Lib.size_eq, hSd, HLR.out]
     have HSd := xa hSd
     have HCH := xa hCH
     clear hmin hme hCH hSd
     have HStr : Hid (Calls prog 118 #[.pointer (some ⟨w.heap.size, 0, none⟩)] wr fun e w' => e = .returned (.string S) /\ Lib.IsBuilderF 230 5 w.heap.size w.heap.size (Lib.byteCells (Lib.repeatL s.data.toList q)) w' /\ Below w.heap.size wr w') := xa (by
      have := Tryz.Builder_String_any_f w.heap.size w.heap.size _ _ HB.out hsz
      rwa [hS] at this)
     clear hS
     go_wp2_with fail
     refine HLen.out.mono ?_
     rintro e w4 ⟨rfl, rfl⟩
     go_wp2_with fail
     refine HLen.out.mono ?_
     rintro e w5 ⟨rfl, rfl⟩
     go_wp2_with fail
     refine HLen.out.mono ?_
     rintro e w6 ⟨rfl, rfl⟩
     go_wp2_with fail
     refine HStr.out.mono ?_
     rintro e w7 ⟨rfl, hB7, hb7⟩
     have KB7 := xa (KB.out.trans hb7)
     have HB7 := xa hB7
     clear hB7 hb7 hm3
     go_wp2_with fail
     refine (xcl w.heap.size w.heap.size _ (S.extract 0 CH) _ HB7.out (by rw [HLQ.out, Lib.size_eq, Lib.extract_data, HSd.out]; simp only [List.drop_zero, Nat.sub_zero, List.length_take, HLR.out]; omega) (by have := KB7.out.size; omega)).mono ?_
     rintro e w8 ⟨rfl, hB8, hb8⟩
     have KB8 := xa (KB7.out.trans hb8)
     have HB8 := xa hB8
     clear hB8 hb8
     go_wp2_with fail
     go_roundg (c - (q + k))
     case measure => omega
     case rel =>
      refine ⟨q + k, by omega, by omega, Or.inr ?_, KB8.out⟩
      have h8 := HB8.out
      rw [Lib.strCells_eq, <- Lib.byteCells_append, Lib.extract_data, HSd.out] at h8
      simp only [List.drop_zero, Nat.sub_zero] at h8
      rw [<- HCH.out, Lib.size_eq, Lib.step_ok _ _ _ hkq] at h8
      exact h8
end
end Go.Proofs.YtapmdhejgnplaaaGreat
