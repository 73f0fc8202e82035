/-
  Several texts in one: lit.Prefix at leaves, at Cat and Alt. strings.Builder in a block of the call's own: what its methods do, with what else stays as it was. strings.Builder as strings.Repeat uses it. strings.HasPrefix. strings.Repeat at any text that is not empty, twice or more often: that many copies. strings.Repeat at every text, once or more often. lit.Prefix at Rep. lit.Prefix comes to an end at every tree that the parser makes: some text of at most 200 octets. How trees are shown, as plain words. Trees that are shown alike are the same: plain Lean.
-/
import Derived.Test.YtbifklibdkjbeaaGreatDoorMg19
import Derived.Test.YtbifklibdkjbeaaGreatDoorMg15
import Derived.Test.YtbifklibdkjbeaaGreatDoorMg1
import Derived.Test.YtbifklibdkjbeaaGreatDoorProg
import Derived.Lib.Builder
import Derived.Lib.AppendStr
import Derived.Lib.UnsafeStr
import Derived.Laws.Externs
import Derived.Laws.IdiomCopy
import Derived.Test.YtbifklibdkjbeaaGreatDoorShelf
import Derived.Test.YtbifklibdkjbeaaGreatDoorMg18
import Derived.Shelf.Strings.BuilderF
import Derived.BigQuiet
import Derived.Deep.QuietTactic
import Derived.Handy
import Derived.Lib.RepeatB
import Derived.Deep.LoopGhost
import Derived.Deep.DeepCutAuto
import Derived.Deep.CutBlock
import Derived.Deep.RegionHeld3
import Derived.Test.YtbifklibdkjbeaaGreatDoorMg9
import Derived.Lib.Join
namespace Go.Proofs.YtbifklibdkjbeaaGreatDoor
open Go.RowKit
set_option linter.unusedVariables false
set_option linter.unusedSimpArgs false
set_option maxRecDepth 100000
set_option maxHeartbeats 4000000
theorem xm1 {y : Nat} : (putP y).length ≤ 4 := by unfold putP; split <;> (try split) <;> (try split) <;> simp [lowB]
theorem prx_one (t : T) (h : t.op = 1) (hs : t.set.length ≤ 4000) (y : Nat) (ho : ofL t.set = [((y : Int), (y : Int))]) (hb : isB (y : Int) = true) : PreC t (putP y, true) := by
 intro P v w ht
 have HSt := xoo ht.set
 obtain ⟨a1, n1, c1, a2, c2, e1, e2, hl, hc⟩ := ht.krow
 have o1 : v.op = 1 := ht.op.trans h
 obtain ⟨vo, vsv, vm, vx, vk⟩ := v
 obtain rfl := e1
 obtain rfl := e2
 obtain rfl := o1
 have HI := xoo (fun W => xeK (y : Int) W)
 have HP := xoo (fun W => put_any y W hb)
 rw [hb] at HI
 clear hl hc ht hb
 generalize t.kids.toL.length = KL at *
 generalize t.set = s at *
 generalize putP y = R at *
 show Calls Tryz.prog 93 #[.agg #[.int .i64 1, .slice a1 n1 c1, .int .i64 vm, .int .i64 vx, .slice a2 KL c2]] w _
 go_enter Tryz.func93, Tryz.ntmps93
 go_wp2_with fail
 refine (xiF s _ _ (HSt.out.keeps (S := fun _ => False) (KI.out) (fun _ _ => id)) (by omega)).mono ?_
 rintro e w2 ⟨out, x, ok, rfl, hof, hyes, hno, k2⟩
 have hout : out = [((y : Int), (y : Int))] := (xfw hof).symm.trans ho
 cases ok
 · exact absurd hout ((hno rfl).2 _)
 obtain rfl : x = y := by
  have := hyes rfl
  rw [hout] at this
  simpa using this.symm
 have K2 : Hid (xa (fun _ => False) w w2) := xoo (xa.trans (KI.out) k2)
 clear hof hyes hno hout k2 ho
 go_wp2_with fail
 refine (HI.out _).mono ?_
 rintro e w3 ⟨rfl, rfl⟩
 go_wp2_with fail
 refine (HP.out _).mono ?_
 rintro e w4 ⟨v4, rfl, hO, k4⟩
 have hcv := xla hO
 have K4 := xoo (K2.out.trans k4)
 clear k4 hO
 unfold strL at hcv
 go_wp2_with fail
 go_ret2
 exact ⟨rfl, K4.out⟩
theorem xm4 (t : T) (h : t.op = 1) (hs : t.set.length ≤ 4000) (ho : ∀ y : Int, ofL t.set = [(y, y)] → isB y = false) : PreC t ([], false) := by
 intro P v w ht
 have HSt := xoo ht.set
 obtain ⟨a1, n1, c1, a2, c2, e1, e2, hl, hc⟩ := ht.krow
 have o1 : v.op = 1 := ht.op.trans h
 obtain ⟨vo, vsv, vm, vx, vk⟩ := v
 obtain rfl := e1
 obtain rfl := e2
 obtain rfl := o1
 clear hl hc ht
 generalize t.kids.toL.length = KL at *
 generalize t.set = s at *
 show Calls Tryz.prog 93 #[.agg #[.int .i64 1, .slice a1 n1 c1, .int .i64 vm, .int .i64 vx, .slice a2 KL c2]] w _
 go_enter Tryz.func93, Tryz.ntmps93
 go_wp2_with fail
 refine (xiF s _ _ (HSt.out.keeps (S := fun _ => False) (KI.out) (fun _ _ => id)) (by omega)).mono ?_
 rintro e w2 ⟨out, x, ok, rfl, hof, hyes, hno, k2⟩
 have K2 : Hid (xa (fun _ => False) w w2) := xoo (xa.trans (KI.out) k2)
 cases ok
 · clear hof hyes hno k2 ho
   go_wp2_with fail
   go_ret2
   exact ⟨rfl, K2.out⟩
 have hb := ho x ((xfw hof).trans (hyes rfl))
 have HI := xoo (fun W => xeK x W)
 rw [hb] at HI
 clear hof hyes hno k2 ho hb
 go_wp2_with fail
 refine (HI.out _).mono ?_
 rintro e w3 ⟨rfl, rfl⟩
 go_wp2_with fail
 go_ret2
 exact ⟨rfl, K2.out⟩
theorem xm3 (t : T) (h : t.op = 0) : PreC t ([], true) := by
 intro P v w ht
 obtain ⟨a1, n1, c1, a2, c2, e1, e2, hl, hc⟩ := ht.krow
 have o1 : v.op = 0 := ht.op.trans h
 obtain ⟨vo, vsv, vm, vx, vk⟩ := v
 obtain rfl := e1
 obtain rfl := e2
 obtain rfl := o1
 clear hl hc ht
 generalize t.kids.toL.length = KL at *
 show Calls Tryz.prog 93 #[.agg #[.int .i64 0, .slice a1 n1 c1, .int .i64 vm, .int .i64 vx, .slice a2 KL c2]] w _
 go_enter Tryz.func93, Tryz.ntmps93
 go_wp2_with fail
 go_ret2
 exact ⟨rfl, KI.out⟩
theorem xk4 (t : T) (h : t.op = 2) : PreC t ([], false) := by
 intro P v w ht
 obtain ⟨a1, n1, c1, a2, c2, e1, e2, hl, hc⟩ := ht.krow
 have o1 : v.op = 2 := ht.op.trans h
 obtain ⟨vo, vsv, vm, vx, vk⟩ := v
 obtain rfl := e1
 obtain rfl := e2
 obtain rfl := o1
 clear hl hc ht
 generalize t.kids.toL.length = KL at *
 show Calls Tryz.prog 93 #[.agg #[.int .i64 2, .slice a1 n1 c1, .int .i64 vm, .int .i64 vx, .slice a2 KL c2]] w _
 go_enter Tryz.func93, Tryz.ntmps93
 go_wp2_with fail
 go_ret2
 exact ⟨rfl, KI.out⟩
theorem prx_end (t : T) (h : t.op = 3) : PreC t ([], false) := by
 intro P v w ht
 obtain ⟨a1, n1, c1, a2, c2, e1, e2, hl, hc⟩ := ht.krow
 have o1 : v.op = 3 := ht.op.trans h
 obtain ⟨vo, vsv, vm, vx, vk⟩ := v
 obtain rfl := e1
 obtain rfl := e2
 obtain rfl := o1
 clear hl hc ht
 generalize t.kids.toL.length = KL at *
 show Calls Tryz.prog 93 #[.agg #[.int .i64 3, .slice a1 n1 c1, .int .i64 vm, .int .i64 vx, .slice a2 KL c2]] w _
 go_enter Tryz.func93, Tryz.ntmps93
 go_wp2_with fail
 go_ret2
 exact ⟨rfl, KI.out⟩
theorem prx_cat (t : T) (h : t.op = 4) (res : List (List UInt8 × Bool)) (hn : res.length = t.kids.toL.length) (ih : ∀ (i : Nat) (k : T) (r : List UInt8 × Bool), t.kids.toL[i]? = some k → res[i]? = some r → PreC k r ∧ r.1.length ≤ 1000) : PreC t (catP res []) := by
 intro P v w ht
 obtain ⟨a1, n1, c1, a2, c2, e1, e2, hl, hc⟩ := ht.krow
 generalize t.kids.toL = L at *
 have HK := xoo (fun W (K : xa (fun _ => False) w W) => cat_any P L res a2 c2 W (hc.keep K) hl hn ih)
 have o1 : v.op = 4 := ht.op.trans h
 obtain ⟨vo, vsv, vm, vx, vk⟩ := v
 obtain rfl := e1
 obtain rfl := e2
 obtain rfl := o1
 clear hl hc ht ih hn
 generalize catP res [] = R at *
 show Calls Tryz.prog 93 #[.agg #[.int .i64 4, .slice a1 n1 c1, .int .i64 vm, .int .i64 vx, .slice a2 L.length c2]] w _
 go_enter Tryz.func93, Tryz.ntmps93
 go_wp2_with fail
 refine (HK.out _ (KI.out)).mono ?_
 rintro e w2 ⟨rfl, k2⟩
 have K2 : Hid (xa (fun _ => False) w w2) := xoo (xa.trans (KI.out) k2)
 clear k2
 unfold strL
 go_wp2_with fail
 go_ret2
 exact ⟨rfl, K2.out⟩
theorem TAt.kcap' {w : World} {P : Nat → Prop} {v : NV} {t : T} (h : TAt w P v t) {a : Option Addr} {n c : Nat} (e : v.kv = .slice a n c) : n ≤ c := by
 obtain ⟨ks, ⟨a2, c2, e2, hcap, _⟩, _⟩ := h.kids
 rw [e] at e2
 cases e2
 exact hcap.1
theorem prx_alt (t : T) (h : t.op = 5) (k0 : T) (L : List T) (hL : t.kids.toL = k0 :: L) (hl4 : L.length ≤ 4000) (r0 : List UInt8 × Bool) (rest : List (List UInt8 × Bool)) (hn : rest.length = L.length) (h0 : PreC k0 r0 ∧ r0.1.length ≤ 1000) (ih : ∀ (i : Nat) (k : T) (r : List UInt8 × Bool), L[i]? = some k → rest[i]? = some r → PreC k r ∧ r.1.length ≤ 1000) : PreC t (rest.foldl xbg r0) := by
 intro P v w ht
 obtain ⟨a1, n1, c1, a2, c2, e1, e2, hl, hc⟩ := ht.krow
 have hcp := ht.kcap' e2
 rw [hL] at e2 hc hcp
 simp only [List.length_cons] at hcp
 have HK := xoo (fun W (K : xa (fun _ => False) w W) => alt_any P k0 L r0 rest a2 c2 W (hc.keep K) hl4 hn hcp h0 ih)
 have o1 : v.op = 5 := ht.op.trans h
 obtain ⟨vo, vsv, vm, vx, vk⟩ := v
 obtain rfl := e1
 obtain rfl := e2
 obtain rfl := o1
 clear hl hc ht ih hn hcp h0
 generalize rest.foldl xbg r0 = R at *
 show Calls Tryz.prog 93 #[.agg #[.int .i64 5, .slice a1 n1 c1, .int .i64 vm, .int .i64 vx, .slice a2 (L.length + 1) c2]] w _
 go_enter Tryz.func93, Tryz.ntmps93
 go_wp2_with fail
 refine (HK.out _ (KI.out)).mono ?_
 rintro e w2 ⟨rfl, k2⟩
 have K2 : Hid (xa (fun _ => False) w w2) := xoo (xa.trans (KI.out) k2)
 clear k2
 unfold strL
 go_wp2_with fail
 go_ret2
 exact ⟨rfl, K2.out⟩
theorem xe3 : ∀ (rest : List (List UInt8 × Bool)) (r : List UInt8 × Bool), (rest.foldl xbg r).1.length ≤ r.1.length
 | [], _ => Nat.le_refl _
 | t :: rest, r => Nat.le_trans (xe3 rest (xbg r t)) (xdR r.1 t.1)
theorem xi8 : ∀ (res : List (List UInt8 × Bool)) (all : List UInt8), all.length ≤ 200 → (catP res all).1.length ≤ 200
 | [], all, h => h
 | (s, b) :: r, all, h => by
  rw [catP]
  split
  · split
    · simp only [List.length_take]; omega
    simp only at *; omega
  rename_i hn
  have : ¬ 200 < (all ++ s).length := fun x => hn (Or.inr x)
  exact xi8 r _ (by omega)
theorem xen : (Tryz.prog.info? 360).map (·.size) = some 2 := by kernel_rfl
theorem xhT : liesAt Tryz.prog Tryz.prog.depth 360 (2 / Tryz.prog.cellsOf 360) 0 360 1 = true := by kernel_rfl
theorem info_u8 : (Tryz.prog.info? 5).map (fun i => (i.zero, i.size, i.bytes)) = some (some (.int .u8 0), 1, 1) := by kernel_rfl
theorem xe8 (b : Nat) (w : World) (h0 : w.cell? ⟨b, 0, none⟩ = some (.pointer (some ⟨b, 0, none⟩))) :
 Calls Tryz.prog 224 #[.pointer (some ⟨b, 0, none⟩)] w fun e w' => e = .returned (.tuple #[]) ∧ w' = w := by
 obtain ⟨j, hj, _⟩ := Option.map_eq_some_iff.1 xen
 go_enter Tryz.func224, Tryz.ntmps224
 go_wp2
 rw [Lib.run_neq_ptr_same w _ Tryz.underlying358 hj]
 go_wp2
 go_end0
 exact ⟨rfl, rfl⟩
theorem xeR (b : Nat) (w : World) (h0 : w.cell? ⟨b, 0, none⟩ = some (.pointer none)) (hsh : w.shape? b = some (360, 2)) (hfz : w.frozen? ⟨b, 0, none⟩ = false) :
 Calls Tryz.prog 224 #[.pointer (some ⟨b, 0, none⟩)] w fun e w' => e = .returned (.tuple #[]) ∧ w' = w.setCell ⟨b, 0, none⟩ (.pointer (some ⟨b, 0, none⟩)) := by
 obtain ⟨j, hj, hjs⟩ := Option.map_eq_some_iff.1 xen
 go_enter Tryz.func224, Tryz.ntmps224
 go_wp2
 rw [Lib.run_to_unsafe w ⟨b, 0, none⟩ Tryz.underlying358 Tryz.underlying393 hj (by rw [hjs]; decide) hsh (Nat.zero_lt_succ 1)]
 simp only [Result.andThen]
 rw [Oper.upon_value]
 go_wp2
 rw [run_callFunc_extern Tryz.func248 (by kernel_rfl) (by kernel_rfl) (by kernel_rfl) (e := Extern.AbiNoEscape.same) (by kernel_rfl)]
 rw [Lib.run_noEscape]
 simp only [Result.andThen]
 rw [Oper.upon_value]
 go_wp2
 rw [Lib.run_from_unsafe w ⟨b, 0, none⟩ Tryz.underlying393 Tryz.underlying358 hj hsh xhT]
 simp only [Result.andThen]
 rw [Oper.upon_value]
 go_wp2
 go_end0
 exact ⟨rfl, rfl⟩
theorem xe9 (B b : Nat) (bs : List Value) (w : World) (h : Lib.IsBuilderF 360 5 B b bs w) :
 Calls Tryz.prog 224 #[.pointer (some ⟨b, 0, none⟩)] w fun e w' => e = .returned (.tuple #[]) ∧ (Lib.BuilderAtF 360 5 B b (.pointer (some ⟨b, 0, none⟩)) bs w' ∧ Below B w w') := by
 rcases h with h | h
 · refine (xeR b w h.cell0 h.shape h.frozen0).mono ?_
   rintro e w' ⟨rfl, rfl⟩
   exact ⟨rfl, h.used _, (Below.refl B w).setCell (p := ⟨b, 0, none⟩) h.1 _⟩
 refine (xe8 b w h.cell0).mono ?_
 rintro e w' ⟨rfl, rfl⟩
 exact ⟨rfl, h, Below.refl B _⟩
theorem xcl (B b : Nat) (bs : List Value) (s : ByteArray) (w : World) (h : Lib.IsBuilderF 360 5 B b bs w) (hlen : bs.length + s.size ≤ 140737488355328) (hBw : B ≤ w.heap.size) :
 Calls Tryz.prog 205 #[.pointer (some ⟨b, 0, none⟩), .string s] w fun e w' => e = .returned (.tuple #[.int .i64 s.size, .nilIface]) ∧ (Lib.BuilderAtF 360 5 B b (.pointer (some ⟨b, 0, none⟩)) (bs ++ Lib.strCells s) w' ∧ Below B w w') := by
 obtain ⟨i0, hi, hz0, hz1, hz2⟩ := info_parts info_u8
 go_enter Tryz.func205, Tryz.ntmps205
 go_wp2_with fail
 refine (xe9 B b bs _ h).mono ?_
 rintro e w1 ⟨rfl, h1, hb1⟩
 obtain ⟨hB, v, hbk, hown, hne⟩ := h1
 have c0 : w1.cell? ⟨b, 0, none⟩ = some (.pointer (some ⟨b, 0, none⟩)) := by rw [Lib.cell_of_heap hbk]; rfl
 have c1 : w1.cell? ⟨b, 1, none⟩ = some v := by rw [Lib.cell_of_heap hbk]; rfl
 go_wp2_with (at_builtin; refine Lib.wpList_append_own_stringF _ rfl _ _ 26 9 rfl B 5 i0 Tryz.underlying26 Tryz.underlying9 hi hz0 hz1 hz2 _ _ _ rfl hown s rfl ?c3 ?c4 ?c5 ?_)
 case c3 => unfold maxLen; omega
 case c4 => omega
 case c5 => have := hb1.size; omega
 intro v' w2 hown' hgrow _
 have hlt : b < w1.heap.size := by
  rcases Nat.lt_or_ge b w1.heap.size with h' | h'
  · exact h'
  simp [Array.getElem?_eq_none h'] at hbk
 have hb2 : w2.heap[b]? = some (.cells #[.pointer (some ⟨b, 0, none⟩), v] 360 (0, 0)) := by
  rw [hgrow.block b hlt (fun e => hne e.symm)]
  exact hbk
 have d0 : w2.cell? ⟨b, 0, none⟩ = some (.pointer (some ⟨b, 0, none⟩)) := by rw [Lib.cell_of_heap hb2]; rfl
 have d1 : w2.cell? ⟨b, 1, none⟩ = some v := by rw [Lib.cell_of_heap hb2]; rfl
 have f1 : w2.frozen? ⟨b, 1, none⟩ = false := Lib.frozen_of_heap hb2 1
 obtain ⟨ao, n', cap, rfl⟩ : ∃ ao n' cap, v' = .slice ao n' cap := by
  rcases hown'.2 with ⟨hv, _⟩ | ⟨g, cap, cur, fz, hv, _⟩
  · exact ⟨_, _, _, hv⟩
  exact ⟨_, _, _, hv⟩
 go_wp2
 go_ret2
 refine ⟨rfl, ?_, ?_⟩
 · exact Lib.BuilderAtF.put (T := 360) (e := 5) hB hb2 (bs' := bs ++ Lib.strCells s) (by simpa [Lib.strCells_length] using hown') (by decide)
 exact (hb1.grown hgrow (by have := hb1.size; omega) (fun k hk => (hown.lt k hk).1)).setCell (p := ⟨b, 1, none⟩) hB _
theorem min_3 (W : World) (x y z : Int) : (Builtin.min_ #[3, 3, 3] 3 #[.int .i64 x, .int .i64 y, .int .i64 z]).run Tryz.prog W = .ok (.int .i64 (if z < (if y < x then y else x) then z else (if y < x then y else x))) W := by
 simp [Builtin.min_, Builtin.min2]
def hpB (X s : ByteArray) : Bool := decide (s.size ≤ X.size) && ((X.extract 0 s.size).toList == s.toList)
theorem xnt (X s : ByteArray) (w : World) (hX : X.size ≤ 100000) (hs : s.size ≤ 100000) : Calls Tryz.prog 223 #[.string X, .string s] w fun e w' => e = .returned (.bool (hpB X s)) ∧ w = w' := by
 obtain ⟨b, hb⟩ : ∃ b, hpB X s = b := ⟨_, rfl⟩
 rw [hb]
 have HB := xoo hb
 clear hb
 by_cases h : s.size ≤ X.size
 · have g : decide ((s.size : Int) ≤ (X.size : Int)) = true := by simp; omega
   have HE : Hid (((X.extract 0 s.size).toList == s.toList) = b) := xoo (by rw [← HB.out]; unfold hpB; simp [h])
   go_enter Tryz.func223, Tryz.ntmps223
   go_wp2_with fail
   go_ret
   exact ⟨by rw [← HE.out]; rfl, rfl⟩
 have g : decide ((s.size : Int) ≤ (X.size : Int)) = false := by simp; omega
 have HE : Hid (false = b) := xoo (by rw [← HB.out]; unfold hpB; simp [h])
 go_enter Tryz.func223, Tryz.ntmps223
 go_wp2_with fail
 go_ret
 exact ⟨by rw [← HE.out]; rfl, rfl⟩
theorem xhX (X s : ByteArray) (w : World) (hX : X.size ≤ 100000) (hs : s.size ≤ 100000) : Calls Tryz.prog 203 #[.string X, .string s] w fun e w' => e = .returned (.bool (hpB X s)) ∧ w = w' := by
 have HP := xoo (fun W => xnt X s W hX hs)
 generalize hpB X s = b at *
 go_enter Tryz.func203, Tryz.ntmps203
 go_wp2_with fail
 refine (HP.out _).mono ?_
 rintro e w2 ⟨rfl, rfl⟩
 go_wp2_with fail
 go_ret
 exact ⟨rfl, rfl⟩
section
set_option maxRecDepth 1000000
theorem hpB_pre (X s : ByteArray) (h : hpB X s = true) : Lib.hasPrefix X.data.toList s.data.toList = true := by
 rw [← Lib.hasPrefix_of_take, ← Lib.size_eq, ← Lib.size_eq]
 unfold hpB at h
 rw [Lib.extract_toList, Lib.toList_data] at h
 simpa using h
theorem xlL (X : ByteArray) (x : UInt8) (m : Nat) (hX : X.data.toList = List.replicate m x) (s : ByteArray) (c n : Nat) (hn : s.size * c = n) (hle : n ≤ m) (hp : hpB X s = true) : X.extract 0 n = ⟨(Lib.repeatL s.data.toList c).toArray⟩ := by
 have := Lib.fast_ok X.data.toList x m hX s c n hn hle (hpB_pre X s hp)
 rwa [show (⟨X.data.toList.toArray⟩ : ByteArray) = X from rfl] at this
theorem xjw (s : ByteArray) (c : Nat) (w : World) (hs : 1 ≤ s.size ∧ s.size ≤ 1000) (hc : 2 ≤ c ∧ c ≤ 1000) :
 Calls Tryz.prog 173 #[.string s, .int .i64 c] w fun e w' => e = .returned (.string ⟨(Lib.repeatL s.data.toList c).toArray⟩) ∧ xa (fun _ => False) w w' := by
 obtain ⟨n, hn⟩ : ∃ n, s.size * c = n := ⟨_, rfl⟩
 have hnb : n ≤ 1000000 := by rw [← hn]; exact Nat.le_trans (Nat.mul_le_mul hs.2 hc.2) (by decide)
 have HM := xoo (fun W => Tryz.bits_Mul s.size c (by omega) (by omega) W)
 rw [hn, Nat.div_eq_of_lt (by omega), Nat.mod_eq_of_lt (by omega)] at HM
 have HN := xoo hn
 have HP := xoo (fun X W hX => xhX X s W hX (by omega))
 clear hn
 go_enter Tryz.func173, Tryz.ntmps173
 go_upto_block 1 with (go_at_call 202; refine (HM.out _).mono ?_; rintro e w' ⟨rfl, hw⟩; rw [hw])
 clear HM
 go_cut [] (fun wx => w = wx)
 case first =>
  go_upto_if 43 with fail
  go_cut [43] (fun s43 wx => w = wx ∧ ∃ B : Bool, s43 = .bool B)
  case first =>
   go_wp2
   all_goals (go_meet; exact ⟨rfl, _, rfl⟩)
  case rest =>
   obtain ⟨rfl, B, rfl⟩ := hcut
   cases B
   · go_wp2
     go_meet
     rfl
   go_wp2_with (go_at_call 203; refine (HP.out _ _ (by decide)).mono ?_; rintro e w' ⟨rfl, rfl⟩)
   all_goals (first
    | (go_meet; rfl)
    | (go_ret; first
        | exact ⟨by rw [xlL _ 32 128 (by rfl) s c n HN.out (by omega) (by assumption)] <;> rfl, xa.refl _ _⟩
        | exact ⟨by rw [xlL _ 45 128 (by rfl) s c n HN.out (by omega) (by assumption)] <;> rfl, xa.refl _ _⟩
        | exact ⟨by rw [xlL _ 48 64 (by rfl) s c n HN.out (by omega) (by assumption)] <;> rfl, xa.refl _ _⟩
        | exact ⟨by rw [xlL _ 61 128 (by rfl) s c n HN.out (by omega) (by assumption)] <;> rfl, xa.refl _ _⟩
        | exact ⟨by rw [xlL _ 9 64 (by rfl) s c n HN.out (by omega) (by assumption)] <;> rfl, xa.refl _ _⟩))
 case rest =>
  obtain rfl := hcut
  clear HP
  have hq8 : wrap64 (8192 / (s.size : Int) * (s.size : Int)) = ((8192 / s.size * s.size : Nat) : Int) := by
   have e : (8192 : Int) / (s.size : Int) * (s.size : Int) = ((8192 / s.size * s.size : Nat) : Int) := by
    rw [Int.natCast_mul, Int.natCast_ediv]; rfl
   have hle : 8192 / s.size * s.size ≤ 8192 := Nat.div_mul_le_self 8192 s.size
   rw [e]; unfold wrap64; omega
  have hq0 : 1 ≤ 8192 / s.size := (Nat.le_div_iff_mul_le (by omega)).2 (by omega)
  go_upto_if 96 with fail
  go_cut [8] (fun s8 wx => w = wx ∧ ∃ m : Nat, 1 ≤ m ∧ s8 = .int .i64 ((m * s.size : Nat) : Int))
  case first =>
   go_wp2
   · go_meet
     exact ⟨rfl, 1, Nat.le_refl _, by rw [Nat.one_mul]⟩
   · go_meet
     exact ⟨rfl, 8192 / s.size, hq0, by rw [hq8]⟩
   go_meet
   exact ⟨rfl, c, by omega, by rw [Nat.mul_comm, HN.out]⟩
  case rest =>
   obtain ⟨rfl, m, hm1, rfl⟩ := hcut
   clear hq8 hq0
   obtain ⟨CM, hCM⟩ : ∃ CM, m * s.size = CM := ⟨_, rfl⟩
   rw [hCM]
   have HCM := xoo hCM
   clear hCM
   go_wp2_with fail
   refine (Tryz.Builder_Grow_fresh w.heap.size w.heap.size n _ (Nat.le_refl _) (heap_alloc_new w _) (by simp) (by omega)).mono ?_
   rintro e w2 ⟨rfl, hB, hb2⟩
   have B2 : Hid (Below w.heap.size w w2) := xoo (((Below.refl _ w).alloc (Nat.le_refl _) _).trans hb2)
   have H2 : Hid (Lib.IsBuilderF 360 5 w.heap.size w.heap.size [] w2) := xoo (Or.inr (Lib.BuilderAtF.of hB))
   clear hB hb2
   go_wp2_with fail
   refine (xcl w.heap.size w.heap.size [] s _ H2.out (by simp; omega) (by have := B2.out.size; omega)).mono ?_
   rintro e w3 ⟨rfl, hB, hb3⟩
   have B3 := xoo (B2.out.trans hb3)
   have H3 : Hid (Lib.IsBuilderF 360 5 w.heap.size w.heap.size (Lib.byteCells (Lib.repeatL s.data.toList 1)) w3) := xoo (Or.inr (by rw [List.nil_append, Lib.strCells_eq] at hB; rw [Lib.repeatL_one]; exact hB))
   clear hB hb3
   go_wp2_with fail
   go_loopg [] (c - 1) (fun g wx => ∃ q : Nat, 1 ≤ q ∧ q + g = c ∧ Lib.IsBuilderF 360 5 w.heap.size w.heap.size (Lib.byteCells (Lib.repeatL s.data.toList q)) wx ∧ Below w.heap.size w wx)
   case atStart => exact ⟨1, Nat.le_refl _, by omega, H3.out, B3.out⟩
   case round =>
    clear H3 B3 H2 B2
    obtain ⟨q, hq1, hqg, hB, hK⟩ := hrel
    obtain ⟨Q, hQ⟩ : ∃ Q, q * s.size = Q := ⟨_, rfl⟩
    have hlr : (Lib.repeatL s.data.toList q).length = Q := by rw [Lib.repeatL_length, ← Lib.size_eq, hQ]
    have hlq : (Lib.byteCells (Lib.repeatL s.data.toList q)).length = Q := by rw [Lib.byteCells_length, hlr]
    have hnc : c * s.size = n := by rw [Nat.mul_comm]; exact HN.out
    have hsz := hK.size
    have HB := xoo hB
    have KB := xoo hK
    have HLen : Hid (Calls Tryz.prog 206 #[.pointer (some ⟨w.heap.size, 0, none⟩)] wr fun e w' => e = .returned (.int .i64 (Q : Nat)) ∧ w' = wr) := xoo (by
     have := Tryz.Builder_Len_f w.heap.size w.heap.size _ wr HB.out
     rwa [hlq] at this)
    have HLR := xoo hlr
    have HLQ := xoo hlq
    have HQ := xoo hQ
    have HNC := xoo hnc
    clear hB hK hlr hlq hQ hnc
    cases gk with
    | zero =>
     obtain rfl : q = c := by omega
     have hQn : ¬ ((Q : Int) < (n : Int)) := by have e1 := HQ.out; have e2 := HNC.out; omega
     go_wp2_with fail
     refine HLen.out.mono ?_
     rintro e w4 ⟨rfl, rfl⟩
     go_wp2_with fail
     refine (Tryz.Builder_String_any_f w.heap.size w.heap.size _ _ HB.out hsz).mono ?_
     rintro e w5 ⟨rfl, hB5, hb5⟩
     have KB5 := xoo (KB.out.trans hb5)
     clear hB5 hb5
     go_wp2_with fail
     go_ret
     exact ⟨rfl, xa.ofBelowAll KB5.out _⟩
    | succ g =>
     obtain ⟨k, hk1, hkq, hkc, hmin⟩ := Lib.chunk_ok c q m s.size hq1 (by omega) hm1
     rw [HNC.out, HQ.out, HCM.out] at hmin
     obtain ⟨CH, hCH⟩ : ∃ CH, k * s.size = CH := ⟨_, rfl⟩
     rw [hCH] at hmin
     have hQn : (Q : Int) < (n : Int) := by
      have h1 : (q + 1) * s.size ≤ c * s.size := Nat.mul_le_mul_right _ (by omega)
      rw [Nat.succ_mul, HQ.out, HNC.out] at h1
      omega
     have hCQ : CH ≤ Q := by rw [← hCH, ← HQ.out]; exact Nat.mul_le_mul_right _ hkq
     have hsum : Q + CH ≤ n := by
      have h1 : (q + k) * s.size ≤ c * s.size := Nat.mul_le_mul_right _ hkc
      rw [Nat.add_mul, HQ.out, hCH, HNC.out] at h1
      exact h1
     have hm3 := fun W => min_3 W ((n : Int) - (Q : Int)) (Q : Int) (CM : Int)
     have hme : (if (CM : Int) < (if (Q : Int) < (n : Int) - (Q : Int) then (Q : Int) else (n : Int) - (Q : Int)) then (CM : Int) else (if (Q : Int) < (n : Int) - (Q : Int) then (Q : Int) else (n : Int) - (Q : Int))) = (CH : Int) := by
      split <;> (try split) <;> omega
     rw [hme] at hm3
     obtain ⟨S, hS⟩ : ∃ S : ByteArray, (⟨(Lib.repeatL s.data.toList q).toArray⟩ : ByteArray) = S := ⟨_, rfl⟩
     have hSd : S.data.toList = Lib.repeatL s.data.toList q := by rw [← hS]
     have hSz : S.size = Q := by rw [Lib.size_eq, hSd, HLR.out]
     have HSd := xoo hSd
     have HCH := xoo hCH
     clear hmin hme hCH hSd
     have HStr : Hid (Calls Tryz.prog 207 #[.pointer (some ⟨w.heap.size, 0, none⟩)] wr fun e w' => e = .returned (.string S) ∧ Lib.IsBuilderF 360 5 w.heap.size w.heap.size (Lib.byteCells (Lib.repeatL s.data.toList q)) w' ∧ Below w.heap.size wr w') := xoo (by
      have := Tryz.Builder_String_any_f w.heap.size w.heap.size _ _ HB.out hsz
      rwa [hS] at this)
     clear hS
     go_wp2_with fail
     refine HLen.out.mono ?_
     rintro e w4 ⟨rfl, rfl⟩
     go_wp2_with fail
     refine HLen.out.mono ?_
     rintro e w5 ⟨rfl, rfl⟩
     go_wp2_with fail
     refine HLen.out.mono ?_
     rintro e w6 ⟨rfl, rfl⟩
     go_wp2_with fail
     refine HStr.out.mono ?_
     rintro e w7 ⟨rfl, hB7, hb7⟩
     have KB7 := xoo (KB.out.trans hb7)
     have HB7 := xoo hB7
     clear hB7 hb7 hm3
     go_wp2_with fail
     refine (xcl w.heap.size w.heap.size _ (S.extract 0 CH) _ HB7.out (by rw [HLQ.out, Lib.size_eq, Lib.extract_data, HSd.out]; simp only [List.drop_zero, Nat.sub_zero, List.length_take, HLR.out]; omega) (by have := KB7.out.size; omega)).mono ?_
     rintro e w8 ⟨rfl, hB8, hb8⟩
     have KB8 := xoo (KB7.out.trans hb8)
     have HB8 := xoo hB8
     clear hB8 hb8
     go_wp2_with fail
     go_roundg (c - (q + k))
     case measure => omega
     case rel =>
      refine ⟨q + k, by omega, by omega, Or.inr ?_, KB8.out⟩
      have h8 := HB8.out
      rw [Lib.strCells_eq, ← Lib.byteCells_append, Lib.extract_data, HSd.out] at h8
      simp only [List.drop_zero, Nat.sub_zero] at h8
      rw [← HCH.out, Lib.size_eq, Lib.step_ok _ _ _ hkq] at h8
      exact h8
end
section
set_option maxRecDepth 1000000
theorem xhE (s : ByteArray) (w : World) :
 Calls Tryz.prog 173 #[.string s, .int .i64 1] w fun e w' => e = .returned (.string s) ∧ xa (fun _ => False) w w' := by
 go_enter Tryz.func173, Tryz.ntmps173
 go_wp2_with fail
 go_ret
 exact ⟨rfl, xa.refl _ _⟩
theorem xhD (c : Nat) (w : World) (hc : 2 ≤ c ∧ c ≤ 1000) :
 Calls Tryz.prog 173 #[.string ⟨#[]⟩, .int .i64 c] w fun e w' => e = .returned (.string ⟨#[]⟩) ∧ xa (fun _ => False) w w' := by
 have HM := xoo (fun W => Tryz.bits_Mul 0 c (by omega) (by omega) W)
 rw [Nat.zero_mul, Nat.zero_div, Nat.zero_mod] at HM
 have gc0 : ((c : Int) == 0) = false := beq_eq_false_iff_ne.2 (by omega)
 have gc1 : ((c : Int) == 1) = false := beq_eq_false_iff_ne.2 (by omega)
 go_enter Tryz.func173, Tryz.ntmps173
 go_wp2_with fail
 refine (HM.out _).mono ?_
 rintro e w0 ⟨rfl, rfl⟩
 go_wp2_with fail
 go_ret
 exact ⟨rfl, xa.refl _ _⟩
theorem xjv (l : List UInt8) (c : Nat) (w : World) (hs : l.length ≤ 1000) (hc : 1 ≤ c ∧ c ≤ 1000) :
 Calls Tryz.prog 173 #[strL l, .int .i64 c] w fun e w' => e = .returned (strL (Lib.repeatL l c)) ∧ xa (fun _ => False) w w' := by
 rcases Nat.lt_or_ge c 2 with h | h
 · obtain rfl : c = 1 := by omega
   rw [Lib.repeatL_one]
   exact xhE _ w
 rcases l with _ | ⟨x, t⟩
 · rw [Lib.repeatL_nil]
   exact xhD c w ⟨h, hc.2⟩
 exact xjw ⟨(x :: t).toArray⟩ c w ⟨by simp [ByteArray.size], by simpa [ByteArray.size] using hs⟩ ⟨h, hc.2⟩
end
def repP (m : Nat) (x : Int) (r : List UInt8 × Bool) : List UInt8 × Bool :=
 if m = 0 then ([], (x == 0) && r.2)
 else if r.2 = false then (r.1, false)
 else if 200 < (Lib.repeatL r.1 m).length then ((Lib.repeatL r.1 m).take 200, false) else (Lib.repeatL r.1 m, x == (m : Int))
theorem xmT (m : Nat) (x : Int) (r : List UInt8 × Bool) (h : r.1.length ≤ 200) : (repP m x r).1.length ≤ 200 := by
 unfold repP
 split
 · simp
 split
 · exact h
 split
 · simp only [List.length_take]; omega
 simp only; omega
theorem rep_gen (P : Nat → Prop) (a1 a : Option Addr) (n1 c1 c m : Nat) (x : Int) (k : T) (r : List UInt8 × Bool) (w : World) (ha : KRow w P a [k]) (hk : PreC k r) (hr : r.1.length ≤ 1000) (hm : m ≤ 1000) :
 Calls Tryz.prog 136 #[.agg #[.int .i64 6, .slice a1 n1 c1, .int .i64 m, .int .i64 x, .slice a 1 c]] w fun e w' => PreE (repP m x r) w e w' := by
 obtain ⟨b, off, uo, d1, f1, g1, um, ux, d2, f2, g2, rfl, hu, hlt, x0, x1, x2, x3, x4⟩ := ha.at (i := 0) rfl
 simp only [Nat.zero_mul, Nat.add_zero] at x0 x1 x2 x3 x4
 have HS : Hid (∀ W, xa (fun _ => False) w W → Calls Tryz.prog 93 #[.agg #[.int .i64 uo, .slice d1 f1 g1, .int .i64 um, .int .i64 ux, .slice d2 f2 g2]] W fun e w' => PreE r W e w') := xoo (fun W kW =>
  hk P ⟨uo, .slice d1 f1 g1, um, ux, .slice d2 f2 g2⟩ W (hu.keepsTo kW (fun _ _ => id) (fun _ h => h)))
 obtain ⟨s, q⟩ := r
 simp only at hr
 clear ha hu hk
 by_cases h0 : m = 0
 · subst h0
   have e1 : repP 0 x (s, q) = ([], (x == 0) && q) := by simp [repP]
   rw [e1]
   clear e1
   generalize hx0 : (x == 0) = x0' at *
   cases x0' <;> cases q
   all_goals
    go_enter Tryz.func136, Tryz.ntmps136
    go_wp2_with fail
    refine (HS.out _ (KI.out)).mono ?_
    rintro e w2 ⟨rfl, k2⟩
    have c2 : w2.cell? ⟨w.heap.size, 2, none⟩ = some (.int .i64 0) := k2.cell (by simp [go_sem]) id
    have c3 : w2.cell? ⟨w.heap.size, 3, none⟩ = some (.int .i64 x) := k2.cell (by simp [go_sem]) id
    have hK2 : xa (fun _ => False) w w2 := xa.trans (KI.out) k2
    clear k2
    unfold strL
    go_wp2_with fail
    go_ret2
    exact ⟨rfl, hK2⟩
 have hm0 : ((m : Int) == 0) = false := beq_eq_false_iff_ne.2 (by omega)
 cases q
 · have e1 : repP m x (s, false) = (s, false) := by simp [repP, h0]
   rw [e1]
   clear e1
   go_enter Tryz.func136, Tryz.ntmps136
   go_wp2_with fail
   refine (HS.out _ (KI.out)).mono ?_
   rintro e w2 ⟨rfl, k2⟩
   have c2 : w2.cell? ⟨w.heap.size, 2, none⟩ = some (.int .i64 m) := k2.cell (by simp [go_sem]) id
   have hK2 : xa (fun _ => False) w w2 := xa.trans (KI.out) k2
   clear k2
   unfold strL
   go_wp2_with fail
   go_ret2
   exact ⟨rfl, hK2⟩
 obtain ⟨R, hR⟩ : ∃ R, Lib.repeatL s m = R := ⟨_, rfl⟩
 obtain ⟨z, hz⟩ : ∃ z, (x == (m : Int)) = z := ⟨_, rfl⟩
 have e1 : repP m x (s, true) = (if 200 < R.length then (R.take 200, false) else (R, z)) := by simp [repP, h0, hR, hz]
 rw [e1]
 have HR := xoo (fun W => xjv s m W hr ⟨by omega, hm⟩)
 rw [hR] at HR
 have HC := xoo (fun W => xme R z W)
 generalize (if 200 < R.length then (R.take 200, false) else (R, z)) = E at *
 unfold strL at HC HR
 clear e1 hR
 go_enter Tryz.func136, Tryz.ntmps136
 go_wp2_with fail
 refine (HS.out _ (KI.out)).mono ?_
 rintro e w2 ⟨rfl, k2⟩
 have c2 : w2.cell? ⟨w.heap.size, 2, none⟩ = some (.int .i64 m) := k2.cell (by simp [go_sem]) id
 have c3 : w2.cell? ⟨w.heap.size, 3, none⟩ = some (.int .i64 x) := k2.cell (by simp [go_sem]) id
 have hK2 : xa (fun _ => False) w w2 := xa.trans (KI.out) k2
 have hk0 : xa (fun _ => False) w2 w2.drew := (xa.refl _ _).drew
 have HR2 := xoo (fun W (K : xa (fun _ => False) w2 W) => (HR.out W).mono (fun e w' h => (⟨h.1, K.trans h.2⟩ : _ ∧ xa (fun _ => False) w2 w')))
 have HC2 := xoo (fun W (K : xa (fun _ => False) w2 W) => (HC.out W).mono (fun e w' h => (⟨h.1, K.trans h.2⟩ : _ ∧ xa (fun _ => False) w2 w')))
 clear HR HC
 have e2 : w2.drew.cell? ⟨w.heap.size, 2, none⟩ = some (.int .i64 m) := c2
 have e3 : w2.drew.cell? ⟨w.heap.size, 3, none⟩ = some (.int .i64 x) := c3
 clear k2
 unfold strL
 go_wp2_with fail
 go_region_held3 (fun w' => w'.cell? ⟨w.heap.size, 2, none⟩ = some (.int .i64 m) ∧ w'.cell? ⟨w.heap.size, 3, none⟩ = some (.int .i64 x) ∧ xa (fun _ => False) w2 w') (first | exact ⟨e2, e3, hk0⟩ | exact ⟨xa.cell (by assumption) c2 id, xa.cell (by assumption) c3 id, by assumption⟩)
  (first | (go_at_call 173; refine (HR2.out _ ?_).mono ?_; exact (by assumption : _ ∧ _ ∧ _).2.2; rintro e w' ⟨rfl, hkn⟩) | (go_at_call 171; refine (HC2.out _ ?_).mono ?_; exact (by assumption : _ ∧ _ ∧ _).2.2; rintro e w' ⟨rfl, hkn⟩))
 all_goals
  go_wp2_with fail
  go_ret2
  exact ⟨rfl, hK2.trans hkn⟩
theorem prx_rep (t k : T) (h : t.op = 6) (hk : t.kids.toL = [k]) (m : Nat) (hm : t.mn = (m : Int)) (hm2 : m ≤ 1000) (r : List UInt8 × Bool) (hr : PreC k r ∧ r.1.length ≤ 1000) : PreC t (repP m t.mx r) := by
 intro P v w ht
 obtain ⟨a1, n1, c1, a2, c2, e1, e2, hl, hc⟩ := ht.krow
 rw [hk] at e2 hc
 have HK := xoo (fun W (K : xa (fun _ => False) w W) => rep_gen P a1 a2 n1 c1 c2 m t.mx k r W (hc.keep K) hr.1 hr.2 hm2)
 have o1 : v.op = 6 := ht.op.trans h
 have o2 : v.mn = m := ht.mn.trans hm
 have o3 : v.mx = t.mx := ht.mx
 obtain ⟨vo, vsv, vm, vx, vk⟩ := v
 simp only at o1 o2 o3 e1 e2
 subst e1 e2 o1 o2 o3
 clear hl hc ht
 generalize repP m t.mx r = R at *
 generalize t.mx = x at *
 show Calls Tryz.prog 93 #[.agg #[.int .i64 6, .slice a1 n1 c1, .int .i64 m, .int .i64 x, .slice a2 1 c2]] w _
 go_enter Tryz.func93, Tryz.ntmps93
 go_wp2_with fail
 refine (HK.out _ (KI.out)).mono ?_
 rintro e w2 ⟨rfl, k2⟩
 have K2 : Hid (xa (fun _ => False) w w2) := xoo (xa.trans (KI.out) k2)
 clear k2
 unfold strL
 go_wp2_with fail
 go_ret2
 exact ⟨rfl, K2.out⟩
theorem xiv : ∀ (L : List T), (∀ (i : Nat) (k : T), L[i]? = some k → ∃ r, PreC k r ∧ r.1.length ≤ 200) → ∃ res : List (List UInt8 × Bool), res.length = L.length ∧ ∀ (i : Nat) (k : T) (r : List UInt8 × Bool), L[i]? = some k → res[i]? = some r → PreC k r ∧ r.1.length ≤ 200
 | [], _ => ⟨[], rfl, fun i k r h => by simp at h⟩
 | k :: L, h => by
  obtain ⟨r, hr⟩ := h 0 k rfl
  obtain ⟨res, hn, hall⟩ := xiv L (fun i k' hk' => h (i + 1) k' (by simpa using hk'))
  refine ⟨r :: res, by simp [hn], fun i k' r' h1 h2 => ?_⟩
  cases i with
  | zero => simp at h1 h2; subst h1 h2; exact hr
  | succ i => simp at h1 h2; exact hall i k' r' h1 h2
theorem pre_all {t : T} (hW : WG t) : ∃ r : List UInt8 × Bool, PreC t r ∧ r.1.length ≤ 200 := by
 induction hW with
 | @mk t h hk ih =>
  obtain ⟨res, hres, hall⟩ := xiv t.kids.toL ih
  have hall2 : ∀ (i : Nat) (k : T) (r : List UInt8 × Bool), t.kids.toL[i]? = some k → res[i]? = some r → PreC k r ∧ r.1.length ≤ 1000 := fun i k r h1 h2 => ⟨(hall i k r h1 h2).1, Nat.le_trans (hall i k r h1 h2).2 (by decide)⟩
  obtain ⟨⟨hs, hkn⟩, ho | ho | ho | ho | ho | ⟨ho, h5⟩ | ⟨ho, ⟨k, hk1⟩, h6, h7, h8⟩⟩ := h
  · exact ⟨_, xm3 t ho, by simp⟩
  · by_cases hb : ∃ y : Nat, ofL t.set = [((y : Int), (y : Int))] ∧ isB (y : Int) = true
    · obtain ⟨y, h1, h2⟩ := hb
      exact ⟨_, prx_one t ho hs y h1 h2, Nat.le_trans xm1 (by decide)⟩
    refine ⟨_, xm4 t ho hs (fun y hy => ?_), by simp⟩
    cases hB : isB y with
    | false => rfl
    | true =>
     exfalso
     have hy0 : 0 ≤ y := by
      unfold isB at hB
      simp at hB
      omega
     exact hb ⟨y.toNat, by rw [Int.toNat_of_nonneg hy0]; exact hy, by rw [Int.toNat_of_nonneg hy0]; exact hB⟩
  · exact ⟨_, xk4 t ho, by simp⟩
  · exact ⟨_, prx_end t ho, by simp⟩
  · exact ⟨_, prx_cat t ho res hres hall2, xi8 res [] (by simp)⟩
  · obtain ⟨k0, L, hL⟩ : ∃ k0 L, t.kids.toL = k0 :: L := by
     cases hq : t.kids.toL with
     | nil => rw [hq] at h5; simp at h5
     | cons k0 L => exact ⟨k0, L, rfl⟩
    obtain ⟨r0, rest, hr⟩ : ∃ r0 rest, res = r0 :: rest := by
     cases res with
     | nil => rw [hL] at hres; simp at hres
     | cons r0 rest => exact ⟨r0, rest, rfl⟩
    subst hr
    rw [hL] at hres hall hall2 hkn
    refine ⟨_, prx_alt t ho k0 L hL (by simp at hkn; omega) r0 rest (by simpa using hres) (hall2 0 k0 r0 rfl rfl) (fun i k r h1 h2 => hall2 (i + 1) k r (by simpa using h1) (by simpa using h2)), ?_⟩
    exact Nat.le_trans (xe3 rest r0) (hall 0 k0 r0 rfl rfl).2
  obtain ⟨r, hr⟩ : ∃ r, res = [r] := by
   rw [hk1] at hres
   rcases res with _ | ⟨p, _ | ⟨p2, q⟩⟩
   · simp at hres
   · exact ⟨p, rfl⟩
   simp at hres
  subst hr
  have h0 := hall 0 k r (by rw [hk1]; rfl) rfl
  refine ⟨_, prx_rep t k ho hk1 t.mn.toNat (Int.toNat_of_nonneg h6.1).symm (by omega) r ⟨h0.1, Nat.le_trans h0.2 (by decide)⟩, xmT _ _ _ h0.2⟩

def WFn (t : T) : Prop :=
 t = xa3 ∨ (∃ s, t = xbx s) ∨ t = ⟨2, [], 0, 0, .nil⟩ ∨ t = ⟨3, [], 0, 0, .nil⟩ ∨ (∃ l, t = ⟨4, [], 0, 0, F.ofL l⟩) ∨ (∃ l, t = ⟨5, [], 0, 0, F.ofL l⟩) ∨ ∃ mn mx l, t = ⟨6, [], mn, mx, F.ofL l⟩
def WF : F → Prop
 | .nil => True
 | .cons op s mn mx k r => WFn ⟨op, s, mn, mx, k⟩ ∧ WF k ∧ WF r
def WFT (t : T) : Prop := WFn t ∧ WF t.kids
theorem WF.of {l : List T} : WF (F.ofL l) ↔ ∀ t ∈ l, WFT t := by
 induction l with
 | nil => simp [F.ofL, WF]
 | cons t l ih =>
  simp only [F.ofL, WF, ih, List.mem_cons, forall_eq_or_imp]
  constructor
  · rintro ⟨h1, h2, h3⟩; exact ⟨⟨h1, h2⟩, h3⟩
  rintro ⟨⟨h1, h2⟩, h3⟩; exact ⟨h1, h2, h3⟩
end Go.Proofs.YtbifklibdkjbeaaGreatDoor
