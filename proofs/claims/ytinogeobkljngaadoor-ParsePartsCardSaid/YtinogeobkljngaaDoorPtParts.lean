/-
  The law on parts: its walk.
-/
import Derived.Test.YtinogeobkljngaaDoorPtAwake
import Derived.Test.YtinogeobkljngaaDoorPtDeep
import Derived.Test.YtinogeobkljngaaDoorPaSmR
namespace Go.Proofs.YtinogeobkljngaaDoor
open Go.RowKit
set_option linter.unusedVariables false
set_option linter.unusedSimpArgs false
set_option maxRecDepth 100000

/-- A node's five cells at the head of a block. -/
structure NC (w : World) (b : Nat) (v : NV) : Prop where
  c0 : w.cell? ⟨b, 0, none⟩ = some (.int .i64 v.op)
  c1 : w.cell? ⟨b, 1, none⟩ = some v.sv
  c2 : w.cell? ⟨b, 2, none⟩ = some (.int .i64 v.mn)
  c3 : w.cell? ⟨b, 3, none⟩ = some (.int .i64 v.mx)
  c4 : w.cell? ⟨b, 4, none⟩ = some v.kv
theorem NC.keep {w w' : World} {b : Nat} {v : NV} (h : NC w b v) (K : Keeps (fun _ => False) w w') : NC w' b v := ⟨K.cell h.c0 id, K.cell h.c1 id, K.cell h.c2 id, K.cell h.c3 id, K.cell h.c4 id⟩
theorem NC.new (w : World) (v : NV) : NC (w.alloc (.cells #[.int .i64 v.op, v.sv, .int .i64 v.mn, .int .i64 v.mx, v.kv] 26)) w.heap.size v := ⟨by simp [go_sem], by simp [go_sem], by simp [go_sem], by simp [go_sem], by simp [go_sem]⟩
theorem keeps_alloc (w : World) (o : Obj) : Keeps (fun _ => False) w (w.alloc o) := (Keeps.refl _ _).alloc o
/-- A node over two, laid at once. -/
theorem two_lit (w : World) (op : Int) {va vb : NV} {ta tb : T} (ha : TAt w (fun _ => True) va ta) (hb : TAt w (fun _ => True) vb tb) :
    TAt (w.alloc (.cells #[.int .i64 va.op, va.sv, .int .i64 va.mn, .int .i64 va.mx, va.kv, .int .i64 vb.op, vb.sv, .int .i64 vb.mn, .int .i64 vb.mx, vb.kv] 26)) (fun _ => True) ⟨op, .slice none 0 0, 0, 0, .slice (some ⟨w.heap.size, 0, none⟩) 2 2⟩ ⟨op, [], 0, 0, F.ofL [ta, tb]⟩ := by
  have K := keeps_alloc w (.cells #[.int .i64 va.op, va.sv, .int .i64 va.mn, .int .i64 va.mx, va.kv, .int .i64 vb.op, vb.sv, .int .i64 vb.mn, .int .i64 vb.mx, vb.kv] 26)
  refine ⟨rfl, rfl, rfl, zero64, zero64, ⟨SlOf.nil _ _ _, fun p hp => by cases hp⟩, fun _ _ => trivial, ⟨[va, vb], ⟨_, 2, rfl, ⟨by simp, (fun h => by cases h)⟩, by simp, fun _ => ⟨w.heap.size, 0, rfl, fun i x hx j hj => ?_⟩⟩, FAt.cons_iff.2 ⟨va, [vb], rfl, ha.keepsTo K (fun _ _ => id) (fun _ h => h), FAt.cons_iff.2 ⟨vb, [], rfl, hb.keepsTo K (fun _ _ => id) (fun _ h => h), rfl⟩⟩⟩, fun _ _ => trivial⟩
  rcases i with _ | _ | i
  · obtain rfl : va = x := by simpa using hx
    match j, hj with
    | 0, _ => simp [go_sem, encN]
    | 1, _ => simp [go_sem, encN]
    | 2, _ => simp [go_sem, encN]
    | 3, _ => simp [go_sem, encN]
    | 4, _ => simp [go_sem, encN]
  · obtain rfl : vb = x := by simpa using hx
    match j, hj with
    | 0, _ => simp [go_sem, encN]
    | 1, _ => simp [go_sem, encN]
    | 2, _ => simp [go_sem, encN]
    | 3, _ => simp [go_sem, encN]
    | 4, _ => simp [go_sem, encN]
  · simp at hx

theorem parts_long (l m : List UInt8) (w : World) (ht : TabW w) (hl : l.length ≤ 9223372036854775807) (hm : m.length ≤ 9223372036854775807) (h : 60 < l.length ∨ 60 < m.length) :
    Calls Tryd.prog 3 #[.string ⟨l.toArray⟩, .string ⟨m.toArray⟩] w fun e w' => e = .returned (.bool true) ∧ Keeps (fun _ => False) w w' := by
  have HT := Lib.hid ht
  clear ht
  rcases (by omega : 60 < l.length ∨ (¬ 60 < l.length ∧ 60 < m.length)) with h1 | ⟨h1, h2⟩
  · have g0 : decide ((60 : Int) < (l.length : Int)) = true := by simp; omega
    have g1 : decide (60 < l.length) = true := by simpa using h1
    go_enter Tryd.func3, Tryd.ntmps3
    go_wp2_with fail
    refine (parseAwake_any _ HT.out).mono ?_
    rintro e w1 ⟨rfl, k1⟩
    go_wp2_with fail
    refine (parseAwake_any _ (HT.out.keeps k1)).mono ?_
    rintro e w2 ⟨rfl, k2⟩
    go_wp2_with fail
    go_ret
    exact ⟨rfl, k1.trans k2⟩
  · have g0 : decide ((60 : Int) < (l.length : Int)) = false := by simp; omega
    have g1 : decide (60 < l.length) = false := by simpa using h1
    have g2 : decide ((60 : Int) < (m.length : Int)) = true := by simp; omega
    have g3 : decide (60 < m.length) = true := by simpa using h2
    go_enter Tryd.func3, Tryd.ntmps3
    go_wp2_with fail
    refine (parseAwake_any _ HT.out).mono ?_
    rintro e w1 ⟨rfl, k1⟩
    go_wp2_with fail
    refine (parseAwake_any _ (HT.out.keeps k1)).mono ?_
    rintro e w2 ⟨rfl, k2⟩
    go_wp2_with fail
    go_ret
    exact ⟨rfl, k1.trans k2⟩

set_option maxHeartbeats 16000000 in
theorem parts_bad1 (l m : List UInt8) (w : World) (ht : TabW w) (hl : l.length ≤ 60) (hm : m.length ≤ 60) (ta tb : T) (ea eb : Int) (hpa : parseP l = (ta, ea)) (hpb : parseP m = (tb, eb)) (he : ea ≠ 0) :
    Calls Tryd.prog 3 #[.string ⟨l.toArray⟩, .string ⟨m.toArray⟩] w fun e w' => e = .returned (.bool true) ∧ Keeps (fun _ => False) w w' := by
  have HT := Lib.hid ht
  have g0 : decide ((60 : Int) < (l.length : Int)) = false := by simp; omega
  have g1 : decide (60 < l.length) = false := by simp; omega
  have g2 : decide ((60 : Int) < (m.length : Int)) = false := by simp; omega
  have g3 : decide (60 < m.length) = false := by simp; omega
  have HPl := Lib.hid (fun W => parse_any l W (by omega))
  have HPm := Lib.hid (fun W => parse_any m W (by omega))
  rw [hpa] at HPl
  rw [hpb] at HPm
  have f1 : (ea != 0) = true := by simpa using he
  clear ht hpa hpb he
  go_enter Tryd.func3, Tryd.ntmps3
  go_wp2_with fail
  refine (parseAwake_any _ HT.out).mono ?_
  rintro e w1 ⟨rfl, k1⟩
  have K1 := Lib.hid k1
  clear k1
  go_wp2_with fail
  refine (HPl.out _).mono ?_
  rintro e w2 ⟨vA, rfl, hvA, kkA⟩
  obtain ⟨oA, aA, nA, cA, mA, xA, bA, kA, dA, rfl⟩ := NV.form hvA
  have KA := Lib.hid (K1.out.trans kkA)
  have TA := Lib.hid (hvA.keepsTo (Q := fun _ => True) (Keeps.refl (fun _ => False) _) (fun _ _ => id) (fun _ _ => trivial))
  -- its own block
  have NA := Lib.hid (NC.new w2 ⟨oA, .slice aA nA cA, mA, xA, .slice bA kA dA⟩)
  have kaA := keeps_alloc w2 (.cells #[.int .i64 oA, .slice aA nA cA, .int .i64 mA, .int .i64 xA, .slice bA kA dA] 26)
  have TA := Lib.hid (TA.out.keepsTo (Q := fun _ => True) kaA (fun _ _ => id) (fun _ h => h))
  have KA := Lib.hid (KA.out.trans kaA)
  clear hvA kkA kaA
  unfold NV.val
  go_wp2_with fail
  refine (HPm.out _).mono ?_
  rintro e w3 ⟨vB, rfl, hvB, kkB⟩
  obtain ⟨oB, aB, nB, cB, mB, xB, bB, kB, dB, rfl⟩ := NV.form hvB
  have NA := Lib.hid (NA.out.keep kkB)
  have TA := Lib.hid (TA.out.keepsTo (Q := fun _ => True) kkB (fun _ _ => id) (fun _ h => h))
  have KB := Lib.hid (KA.out.trans kkB)
  have TB := Lib.hid (hvB.keepsTo (Q := fun _ => True) (Keeps.refl (fun _ => False) _) (fun _ _ => id) (fun _ _ => trivial))
  -- its own block
  have NB := Lib.hid (NC.new w3 ⟨oB, .slice aB nB cB, mB, xB, .slice bB kB dB⟩)
  have kaB := keeps_alloc w3 (.cells #[.int .i64 oB, .slice aB nB cB, .int .i64 mB, .int .i64 xB, .slice bB kB dB] 26)
  have NA := Lib.hid (NA.out.keep kaB)
  have TA := Lib.hid (TA.out.keepsTo (Q := fun _ => True) kaB (fun _ _ => id) (fun _ h => h))
  have TB := Lib.hid (TB.out.keepsTo (Q := fun _ => True) kaB (fun _ _ => id) (fun _ h => h))
  have KB := Lib.hid (KB.out.trans kaB)
  clear hvB kkB kaB
  unfold NV.val
  go_wp2_with fail
  go_ret
  exact ⟨rfl, KB.out⟩

set_option maxHeartbeats 16000000 in
theorem parts_bad2 (l m : List UInt8) (w : World) (ht : TabW w) (hl : l.length ≤ 60) (hm : m.length ≤ 60) (ta tb : T) (ea eb : Int) (hpa : parseP l = (ta, ea)) (hpb : parseP m = (tb, eb)) (he : ea = 0) (hf : eb ≠ 0) :
    Calls Tryd.prog 3 #[.string ⟨l.toArray⟩, .string ⟨m.toArray⟩] w fun e w' => e = .returned (.bool true) ∧ Keeps (fun _ => False) w w' := by
  have HT := Lib.hid ht
  have g0 : decide ((60 : Int) < (l.length : Int)) = false := by simp; omega
  have g1 : decide (60 < l.length) = false := by simp; omega
  have g2 : decide ((60 : Int) < (m.length : Int)) = false := by simp; omega
  have g3 : decide (60 < m.length) = false := by simp; omega
  have HPl := Lib.hid (fun W => parse_any l W (by omega))
  have HPm := Lib.hid (fun W => parse_any m W (by omega))
  rw [hpa] at HPl
  rw [hpb] at HPm
  subst he
  have f1 : (eb != 0) = true := by simpa using hf
  clear ht hpa hpb hf
  go_enter Tryd.func3, Tryd.ntmps3
  go_wp2_with fail
  refine (parseAwake_any _ HT.out).mono ?_
  rintro e w1 ⟨rfl, k1⟩
  have K1 := Lib.hid k1
  clear k1
  go_wp2_with fail
  refine (HPl.out _).mono ?_
  rintro e w2 ⟨vA, rfl, hvA, kkA⟩
  obtain ⟨oA, aA, nA, cA, mA, xA, bA, kA, dA, rfl⟩ := NV.form hvA
  have KA := Lib.hid (K1.out.trans kkA)
  have TA := Lib.hid (hvA.keepsTo (Q := fun _ => True) (Keeps.refl (fun _ => False) _) (fun _ _ => id) (fun _ _ => trivial))
  -- its own block
  have NA := Lib.hid (NC.new w2 ⟨oA, .slice aA nA cA, mA, xA, .slice bA kA dA⟩)
  have kaA := keeps_alloc w2 (.cells #[.int .i64 oA, .slice aA nA cA, .int .i64 mA, .int .i64 xA, .slice bA kA dA] 26)
  have TA := Lib.hid (TA.out.keepsTo (Q := fun _ => True) kaA (fun _ _ => id) (fun _ h => h))
  have KA := Lib.hid (KA.out.trans kaA)
  clear hvA kkA kaA
  unfold NV.val
  go_wp2_with fail
  refine (HPm.out _).mono ?_
  rintro e w3 ⟨vB, rfl, hvB, kkB⟩
  obtain ⟨oB, aB, nB, cB, mB, xB, bB, kB, dB, rfl⟩ := NV.form hvB
  have NA := Lib.hid (NA.out.keep kkB)
  have TA := Lib.hid (TA.out.keepsTo (Q := fun _ => True) kkB (fun _ _ => id) (fun _ h => h))
  have KB := Lib.hid (KA.out.trans kkB)
  have TB := Lib.hid (hvB.keepsTo (Q := fun _ => True) (Keeps.refl (fun _ => False) _) (fun _ _ => id) (fun _ _ => trivial))
  -- its own block
  have NB := Lib.hid (NC.new w3 ⟨oB, .slice aB nB cB, mB, xB, .slice bB kB dB⟩)
  have kaB := keeps_alloc w3 (.cells #[.int .i64 oB, .slice aB nB cB, .int .i64 mB, .int .i64 xB, .slice bB kB dB] 26)
  have NA := Lib.hid (NA.out.keep kaB)
  have TA := Lib.hid (TA.out.keepsTo (Q := fun _ => True) kaB (fun _ _ => id) (fun _ h => h))
  have TB := Lib.hid (TB.out.keepsTo (Q := fun _ => True) kaB (fun _ _ => id) (fun _ h => h))
  have KB := Lib.hid (KB.out.trans kaB)
  clear hvB kkB kaB
  unfold NV.val
  go_wp2_with fail
  go_ret
  exact ⟨rfl, KB.out⟩

set_option maxHeartbeats 16000000 in
theorem parts_deep1 (l m : List UInt8) (w : World) (ht : TabW w) (hl : l.length ≤ 60) (hm : m.length ≤ 60) (ta tb : T) (ea eb : Int) (hpa : parseP l = (ta, ea)) (hpb : parseP m = (tb, eb)) (he : ea = 0) (hf : eb = 0) (h1 : 9 < deepB l) :
    Calls Tryd.prog 3 #[.string ⟨l.toArray⟩, .string ⟨m.toArray⟩] w fun e w' => e = .returned (.bool true) ∧ Keeps (fun _ => False) w w' := by
  have HT := Lib.hid ht
  have g0 : decide ((60 : Int) < (l.length : Int)) = false := by simp; omega
  have g1 : decide (60 < l.length) = false := by simp; omega
  have g2 : decide ((60 : Int) < (m.length : Int)) = false := by simp; omega
  have g3 : decide (60 < m.length) = false := by simp; omega
  have HPl := Lib.hid (fun W => parse_any l W (by omega))
  have HPm := Lib.hid (fun W => parse_any m W (by omega))
  rw [hpa] at HPl
  rw [hpb] at HPm
  subst he
  subst hf
  have hA := patB hpa
  have hB := patB hpb
  have HX := Lib.hid (fun W => parse_any (40 :: (l ++ 41 :: 40 :: (m ++ [41]))) W (by simp; omega))
  have HY := Lib.hid (fun W => parse_any (40 :: (l ++ 41 :: 124 :: 40 :: (m ++ [41]))) W (by simp; omega))
  have HZ := Lib.hid (fun W => parse_any (40 :: (l ++ [41])) W (by simp; omega))
  rw [parts_x hA hB hl hm, if_neg (by omega)] at HX
  rw [parts_y hA hB hl hm, if_neg (by omega)] at HY
  rw [parts_z hA (by omega), if_neg (by omega)] at HZ
  have HDl := Lib.hid (fun W => deep_any l W (by omega))
  have HDm := Lib.hid (fun W => deep_any m W (by omega))
  have u1 : decide ((9 : Int) < deepB l) = true := by simp; omega
  have EX : (⟨#[40]⟩ ++ ⟨l.toArray⟩ ++ ⟨#[41, 40]⟩ ++ ⟨m.toArray⟩ ++ ⟨#[41]⟩ : ByteArray) = ⟨(40 :: (l ++ 41 :: 40 :: (m ++ [41]))).toArray⟩ := by apply ByteArray.ext; simp [ByteArray.data_append]
  have EY : (⟨#[40]⟩ ++ ⟨l.toArray⟩ ++ ⟨#[41, 124, 40]⟩ ++ ⟨m.toArray⟩ ++ ⟨#[41]⟩ : ByteArray) = ⟨(40 :: (l ++ 41 :: 124 :: 40 :: (m ++ [41]))).toArray⟩ := by apply ByteArray.ext; simp [ByteArray.data_append]
  have EZ : (⟨#[40]⟩ ++ ⟨l.toArray⟩ ++ ⟨#[41]⟩ : ByteArray) = ⟨(40 :: (l ++ [41])).toArray⟩ := by apply ByteArray.ext; simp [ByteArray.data_append]
  have EX := Lib.hid EX
  have EY := Lib.hid EY
  have EZ := Lib.hid EZ
  clear ht hpa hpb hA hB h1
  generalize deepB l = DL at *
  generalize deepB m = DM at *
  go_enter Tryd.func3, Tryd.ntmps3
  go_wp2_with fail
  refine (parseAwake_any _ HT.out).mono ?_
  rintro e w1 ⟨rfl, k1⟩
  have K1 := Lib.hid k1
  clear k1
  go_wp2_with fail
  refine (HPl.out _).mono ?_
  rintro e w2 ⟨vA, rfl, hvA, kkA⟩
  obtain ⟨oA, aA, nA, cA, mA, xA, bA, kA, dA, rfl⟩ := NV.form hvA
  have KA := Lib.hid (K1.out.trans kkA)
  have TA := Lib.hid (hvA.keepsTo (Q := fun _ => True) (Keeps.refl (fun _ => False) _) (fun _ _ => id) (fun _ _ => trivial))
  -- its own block
  have NA := Lib.hid (NC.new w2 ⟨oA, .slice aA nA cA, mA, xA, .slice bA kA dA⟩)
  have kaA := keeps_alloc w2 (.cells #[.int .i64 oA, .slice aA nA cA, .int .i64 mA, .int .i64 xA, .slice bA kA dA] 26)
  have TA := Lib.hid (TA.out.keepsTo (Q := fun _ => True) kaA (fun _ _ => id) (fun _ h => h))
  have KA := Lib.hid (KA.out.trans kaA)
  clear hvA kkA kaA
  unfold NV.val
  go_wp2_with fail
  refine (HPm.out _).mono ?_
  rintro e w3 ⟨vB, rfl, hvB, kkB⟩
  obtain ⟨oB, aB, nB, cB, mB, xB, bB, kB, dB, rfl⟩ := NV.form hvB
  have NA := Lib.hid (NA.out.keep kkB)
  have TA := Lib.hid (TA.out.keepsTo (Q := fun _ => True) kkB (fun _ _ => id) (fun _ h => h))
  have KB := Lib.hid (KA.out.trans kkB)
  have TB := Lib.hid (hvB.keepsTo (Q := fun _ => True) (Keeps.refl (fun _ => False) _) (fun _ _ => id) (fun _ _ => trivial))
  -- its own block
  have NB := Lib.hid (NC.new w3 ⟨oB, .slice aB nB cB, mB, xB, .slice bB kB dB⟩)
  have kaB := keeps_alloc w3 (.cells #[.int .i64 oB, .slice aB nB cB, .int .i64 mB, .int .i64 xB, .slice bB kB dB] 26)
  have NA := Lib.hid (NA.out.keep kaB)
  have TA := Lib.hid (TA.out.keepsTo (Q := fun _ => True) kaB (fun _ _ => id) (fun _ h => h))
  have TB := Lib.hid (TB.out.keepsTo (Q := fun _ => True) kaB (fun _ _ => id) (fun _ h => h))
  have KB := Lib.hid (KB.out.trans kaB)
  clear hvB kkB kaB
  unfold NV.val
  go_wp2_with fail
  refine (HX.out _).mono ?_
  rintro e w4 ⟨vX, rfl, hvX, kkX⟩
  obtain ⟨oX, aX, nX, cX, mX, xX, bX, kX, dX, rfl⟩ := NV.form hvX
  have NA := Lib.hid (NA.out.keep kkX)
  have TA := Lib.hid (TA.out.keepsTo (Q := fun _ => True) kkX (fun _ _ => id) (fun _ h => h))
  have NB := Lib.hid (NB.out.keep kkX)
  have TB := Lib.hid (TB.out.keepsTo (Q := fun _ => True) kkX (fun _ _ => id) (fun _ h => h))
  have KX := Lib.hid (KB.out.trans kkX)
  have TX := Lib.hid (hvX.keepsTo (Q := fun _ => True) (Keeps.refl (fun _ => False) _) (fun _ _ => id) (fun _ _ => trivial))
  -- its own block
  have NX := Lib.hid (NC.new w4 ⟨oX, .slice aX nX cX, mX, xX, .slice bX kX dX⟩)
  have kaX := keeps_alloc w4 (.cells #[.int .i64 oX, .slice aX nX cX, .int .i64 mX, .int .i64 xX, .slice bX kX dX] 26)
  have NA := Lib.hid (NA.out.keep kaX)
  have TA := Lib.hid (TA.out.keepsTo (Q := fun _ => True) kaX (fun _ _ => id) (fun _ h => h))
  have NB := Lib.hid (NB.out.keep kaX)
  have TB := Lib.hid (TB.out.keepsTo (Q := fun _ => True) kaX (fun _ _ => id) (fun _ h => h))
  have TX := Lib.hid (TX.out.keepsTo (Q := fun _ => True) kaX (fun _ _ => id) (fun _ h => h))
  have KX := Lib.hid (KX.out.trans kaX)
  clear hvX kkX kaX
  unfold NV.val
  go_wp2_with fail
  refine (HY.out _).mono ?_
  rintro e w5 ⟨vY, rfl, hvY, kkY⟩
  obtain ⟨oY, aY, nY, cY, mY, xY, bY, kY, dY, rfl⟩ := NV.form hvY
  have NA := Lib.hid (NA.out.keep kkY)
  have TA := Lib.hid (TA.out.keepsTo (Q := fun _ => True) kkY (fun _ _ => id) (fun _ h => h))
  have NB := Lib.hid (NB.out.keep kkY)
  have TB := Lib.hid (TB.out.keepsTo (Q := fun _ => True) kkY (fun _ _ => id) (fun _ h => h))
  have NX := Lib.hid (NX.out.keep kkY)
  have TX := Lib.hid (TX.out.keepsTo (Q := fun _ => True) kkY (fun _ _ => id) (fun _ h => h))
  have KY := Lib.hid (KX.out.trans kkY)
  have TY := Lib.hid (hvY.keepsTo (Q := fun _ => True) (Keeps.refl (fun _ => False) _) (fun _ _ => id) (fun _ _ => trivial))
  -- its own block
  have NY := Lib.hid (NC.new w5 ⟨oY, .slice aY nY cY, mY, xY, .slice bY kY dY⟩)
  have kaY := keeps_alloc w5 (.cells #[.int .i64 oY, .slice aY nY cY, .int .i64 mY, .int .i64 xY, .slice bY kY dY] 26)
  have NA := Lib.hid (NA.out.keep kaY)
  have TA := Lib.hid (TA.out.keepsTo (Q := fun _ => True) kaY (fun _ _ => id) (fun _ h => h))
  have NB := Lib.hid (NB.out.keep kaY)
  have TB := Lib.hid (TB.out.keepsTo (Q := fun _ => True) kaY (fun _ _ => id) (fun _ h => h))
  have NX := Lib.hid (NX.out.keep kaY)
  have TX := Lib.hid (TX.out.keepsTo (Q := fun _ => True) kaY (fun _ _ => id) (fun _ h => h))
  have TY := Lib.hid (TY.out.keepsTo (Q := fun _ => True) kaY (fun _ _ => id) (fun _ h => h))
  have KY := Lib.hid (KY.out.trans kaY)
  clear hvY kkY kaY
  unfold NV.val
  go_wp2_with fail
  refine (HZ.out _).mono ?_
  rintro e w6 ⟨vZ, rfl, hvZ, kkZ⟩
  obtain ⟨oZ, aZ, nZ, cZ, mZ, xZ, bZ, kZ, dZ, rfl⟩ := NV.form hvZ
  have NA := Lib.hid (NA.out.keep kkZ)
  have TA := Lib.hid (TA.out.keepsTo (Q := fun _ => True) kkZ (fun _ _ => id) (fun _ h => h))
  have NB := Lib.hid (NB.out.keep kkZ)
  have TB := Lib.hid (TB.out.keepsTo (Q := fun _ => True) kkZ (fun _ _ => id) (fun _ h => h))
  have NX := Lib.hid (NX.out.keep kkZ)
  have TX := Lib.hid (TX.out.keepsTo (Q := fun _ => True) kkZ (fun _ _ => id) (fun _ h => h))
  have NY := Lib.hid (NY.out.keep kkZ)
  have TY := Lib.hid (TY.out.keepsTo (Q := fun _ => True) kkZ (fun _ _ => id) (fun _ h => h))
  have KZ := Lib.hid (KY.out.trans kkZ)
  have TZ := Lib.hid (hvZ.keepsTo (Q := fun _ => True) (Keeps.refl (fun _ => False) _) (fun _ _ => id) (fun _ _ => trivial))
  -- its own block
  have NZ := Lib.hid (NC.new w6 ⟨oZ, .slice aZ nZ cZ, mZ, xZ, .slice bZ kZ dZ⟩)
  have kaZ := keeps_alloc w6 (.cells #[.int .i64 oZ, .slice aZ nZ cZ, .int .i64 mZ, .int .i64 xZ, .slice bZ kZ dZ] 26)
  have NA := Lib.hid (NA.out.keep kaZ)
  have TA := Lib.hid (TA.out.keepsTo (Q := fun _ => True) kaZ (fun _ _ => id) (fun _ h => h))
  have NB := Lib.hid (NB.out.keep kaZ)
  have TB := Lib.hid (TB.out.keepsTo (Q := fun _ => True) kaZ (fun _ _ => id) (fun _ h => h))
  have NX := Lib.hid (NX.out.keep kaZ)
  have TX := Lib.hid (TX.out.keepsTo (Q := fun _ => True) kaZ (fun _ _ => id) (fun _ h => h))
  have NY := Lib.hid (NY.out.keep kaZ)
  have TY := Lib.hid (TY.out.keepsTo (Q := fun _ => True) kaZ (fun _ _ => id) (fun _ h => h))
  have TZ := Lib.hid (TZ.out.keepsTo (Q := fun _ => True) kaZ (fun _ _ => id) (fun _ h => h))
  have KZ := Lib.hid (KZ.out.trans kaZ)
  clear hvZ kkZ kaZ
  unfold NV.val
  go_wp2_with fail
  refine (HDl.out _).mono ?_
  rintro e w7 ⟨rfl, rfl⟩
  go_wp2_with fail
  go_ret
  exact ⟨rfl, KZ.out⟩

set_option maxHeartbeats 16000000 in
theorem parts_deep2 (l m : List UInt8) (w : World) (ht : TabW w) (hl : l.length ≤ 60) (hm : m.length ≤ 60) (ta tb : T) (ea eb : Int) (hpa : parseP l = (ta, ea)) (hpb : parseP m = (tb, eb)) (he : ea = 0) (hf : eb = 0) (h1 : deepB l ≤ 9) (h2 : 9 < deepB m) :
    Calls Tryd.prog 3 #[.string ⟨l.toArray⟩, .string ⟨m.toArray⟩] w fun e w' => e = .returned (.bool true) ∧ Keeps (fun _ => False) w w' := by
  have HT := Lib.hid ht
  have g0 : decide ((60 : Int) < (l.length : Int)) = false := by simp; omega
  have g1 : decide (60 < l.length) = false := by simp; omega
  have g2 : decide ((60 : Int) < (m.length : Int)) = false := by simp; omega
  have g3 : decide (60 < m.length) = false := by simp; omega
  have HPl := Lib.hid (fun W => parse_any l W (by omega))
  have HPm := Lib.hid (fun W => parse_any m W (by omega))
  rw [hpa] at HPl
  rw [hpb] at HPm
  subst he
  subst hf
  have hA := patB hpa
  have hB := patB hpb
  have HX := Lib.hid (fun W => parse_any (40 :: (l ++ 41 :: 40 :: (m ++ [41]))) W (by simp; omega))
  have HY := Lib.hid (fun W => parse_any (40 :: (l ++ 41 :: 124 :: 40 :: (m ++ [41]))) W (by simp; omega))
  have HZ := Lib.hid (fun W => parse_any (40 :: (l ++ [41])) W (by simp; omega))
  rw [parts_x hA hB hl hm, if_neg (by omega)] at HX
  rw [parts_y hA hB hl hm, if_neg (by omega)] at HY
  rw [parts_z hA (by omega), if_pos (by omega)] at HZ
  have HDl := Lib.hid (fun W => deep_any l W (by omega))
  have HDm := Lib.hid (fun W => deep_any m W (by omega))
  have u1 : decide ((9 : Int) < deepB l) = false := by simp; omega
  have u2 : decide ((9 : Int) < deepB m) = true := by simp; omega
  have EX : (⟨#[40]⟩ ++ ⟨l.toArray⟩ ++ ⟨#[41, 40]⟩ ++ ⟨m.toArray⟩ ++ ⟨#[41]⟩ : ByteArray) = ⟨(40 :: (l ++ 41 :: 40 :: (m ++ [41]))).toArray⟩ := by apply ByteArray.ext; simp [ByteArray.data_append]
  have EY : (⟨#[40]⟩ ++ ⟨l.toArray⟩ ++ ⟨#[41, 124, 40]⟩ ++ ⟨m.toArray⟩ ++ ⟨#[41]⟩ : ByteArray) = ⟨(40 :: (l ++ 41 :: 124 :: 40 :: (m ++ [41]))).toArray⟩ := by apply ByteArray.ext; simp [ByteArray.data_append]
  have EZ : (⟨#[40]⟩ ++ ⟨l.toArray⟩ ++ ⟨#[41]⟩ : ByteArray) = ⟨(40 :: (l ++ [41])).toArray⟩ := by apply ByteArray.ext; simp [ByteArray.data_append]
  have EX := Lib.hid EX
  have EY := Lib.hid EY
  have EZ := Lib.hid EZ
  clear ht hpa hpb hA hB h1 h2
  generalize deepB l = DL at *
  generalize deepB m = DM at *
  go_enter Tryd.func3, Tryd.ntmps3
  go_wp2_with fail
  refine (parseAwake_any _ HT.out).mono ?_
  rintro e w1 ⟨rfl, k1⟩
  have K1 := Lib.hid k1
  clear k1
  go_wp2_with fail
  refine (HPl.out _).mono ?_
  rintro e w2 ⟨vA, rfl, hvA, kkA⟩
  obtain ⟨oA, aA, nA, cA, mA, xA, bA, kA, dA, rfl⟩ := NV.form hvA
  have KA := Lib.hid (K1.out.trans kkA)
  have TA := Lib.hid (hvA.keepsTo (Q := fun _ => True) (Keeps.refl (fun _ => False) _) (fun _ _ => id) (fun _ _ => trivial))
  -- its own block
  have NA := Lib.hid (NC.new w2 ⟨oA, .slice aA nA cA, mA, xA, .slice bA kA dA⟩)
  have kaA := keeps_alloc w2 (.cells #[.int .i64 oA, .slice aA nA cA, .int .i64 mA, .int .i64 xA, .slice bA kA dA] 26)
  have TA := Lib.hid (TA.out.keepsTo (Q := fun _ => True) kaA (fun _ _ => id) (fun _ h => h))
  have KA := Lib.hid (KA.out.trans kaA)
  clear hvA kkA kaA
  unfold NV.val
  go_wp2_with fail
  refine (HPm.out _).mono ?_
  rintro e w3 ⟨vB, rfl, hvB, kkB⟩
  obtain ⟨oB, aB, nB, cB, mB, xB, bB, kB, dB, rfl⟩ := NV.form hvB
  have NA := Lib.hid (NA.out.keep kkB)
  have TA := Lib.hid (TA.out.keepsTo (Q := fun _ => True) kkB (fun _ _ => id) (fun _ h => h))
  have KB := Lib.hid (KA.out.trans kkB)
  have TB := Lib.hid (hvB.keepsTo (Q := fun _ => True) (Keeps.refl (fun _ => False) _) (fun _ _ => id) (fun _ _ => trivial))
  -- its own block
  have NB := Lib.hid (NC.new w3 ⟨oB, .slice aB nB cB, mB, xB, .slice bB kB dB⟩)
  have kaB := keeps_alloc w3 (.cells #[.int .i64 oB, .slice aB nB cB, .int .i64 mB, .int .i64 xB, .slice bB kB dB] 26)
  have NA := Lib.hid (NA.out.keep kaB)
  have TA := Lib.hid (TA.out.keepsTo (Q := fun _ => True) kaB (fun _ _ => id) (fun _ h => h))
  have TB := Lib.hid (TB.out.keepsTo (Q := fun _ => True) kaB (fun _ _ => id) (fun _ h => h))
  have KB := Lib.hid (KB.out.trans kaB)
  clear hvB kkB kaB
  unfold NV.val
  go_wp2_with fail
  refine (HX.out _).mono ?_
  rintro e w4 ⟨vX, rfl, hvX, kkX⟩
  obtain ⟨oX, aX, nX, cX, mX, xX, bX, kX, dX, rfl⟩ := NV.form hvX
  have NA := Lib.hid (NA.out.keep kkX)
  have TA := Lib.hid (TA.out.keepsTo (Q := fun _ => True) kkX (fun _ _ => id) (fun _ h => h))
  have NB := Lib.hid (NB.out.keep kkX)
  have TB := Lib.hid (TB.out.keepsTo (Q := fun _ => True) kkX (fun _ _ => id) (fun _ h => h))
  have KX := Lib.hid (KB.out.trans kkX)
  have TX := Lib.hid (hvX.keepsTo (Q := fun _ => True) (Keeps.refl (fun _ => False) _) (fun _ _ => id) (fun _ _ => trivial))
  -- its own block
  have NX := Lib.hid (NC.new w4 ⟨oX, .slice aX nX cX, mX, xX, .slice bX kX dX⟩)
  have kaX := keeps_alloc w4 (.cells #[.int .i64 oX, .slice aX nX cX, .int .i64 mX, .int .i64 xX, .slice bX kX dX] 26)
  have NA := Lib.hid (NA.out.keep kaX)
  have TA := Lib.hid (TA.out.keepsTo (Q := fun _ => True) kaX (fun _ _ => id) (fun _ h => h))
  have NB := Lib.hid (NB.out.keep kaX)
  have TB := Lib.hid (TB.out.keepsTo (Q := fun _ => True) kaX (fun _ _ => id) (fun _ h => h))
  have TX := Lib.hid (TX.out.keepsTo (Q := fun _ => True) kaX (fun _ _ => id) (fun _ h => h))
  have KX := Lib.hid (KX.out.trans kaX)
  clear hvX kkX kaX
  unfold NV.val
  go_wp2_with fail
  refine (HY.out _).mono ?_
  rintro e w5 ⟨vY, rfl, hvY, kkY⟩
  obtain ⟨oY, aY, nY, cY, mY, xY, bY, kY, dY, rfl⟩ := NV.form hvY
  have NA := Lib.hid (NA.out.keep kkY)
  have TA := Lib.hid (TA.out.keepsTo (Q := fun _ => True) kkY (fun _ _ => id) (fun _ h => h))
  have NB := Lib.hid (NB.out.keep kkY)
  have TB := Lib.hid (TB.out.keepsTo (Q := fun _ => True) kkY (fun _ _ => id) (fun _ h => h))
  have NX := Lib.hid (NX.out.keep kkY)
  have TX := Lib.hid (TX.out.keepsTo (Q := fun _ => True) kkY (fun _ _ => id) (fun _ h => h))
  have KY := Lib.hid (KX.out.trans kkY)
  have TY := Lib.hid (hvY.keepsTo (Q := fun _ => True) (Keeps.refl (fun _ => False) _) (fun _ _ => id) (fun _ _ => trivial))
  -- its own block
  have NY := Lib.hid (NC.new w5 ⟨oY, .slice aY nY cY, mY, xY, .slice bY kY dY⟩)
  have kaY := keeps_alloc w5 (.cells #[.int .i64 oY, .slice aY nY cY, .int .i64 mY, .int .i64 xY, .slice bY kY dY] 26)
  have NA := Lib.hid (NA.out.keep kaY)
  have TA := Lib.hid (TA.out.keepsTo (Q := fun _ => True) kaY (fun _ _ => id) (fun _ h => h))
  have NB := Lib.hid (NB.out.keep kaY)
  have TB := Lib.hid (TB.out.keepsTo (Q := fun _ => True) kaY (fun _ _ => id) (fun _ h => h))
  have NX := Lib.hid (NX.out.keep kaY)
  have TX := Lib.hid (TX.out.keepsTo (Q := fun _ => True) kaY (fun _ _ => id) (fun _ h => h))
  have TY := Lib.hid (TY.out.keepsTo (Q := fun _ => True) kaY (fun _ _ => id) (fun _ h => h))
  have KY := Lib.hid (KY.out.trans kaY)
  clear hvY kkY kaY
  unfold NV.val
  go_wp2_with fail
  refine (HZ.out _).mono ?_
  rintro e w6 ⟨vZ, rfl, hvZ, kkZ⟩
  obtain ⟨oZ, aZ, nZ, cZ, mZ, xZ, bZ, kZ, dZ, rfl⟩ := NV.form hvZ
  have NA := Lib.hid (NA.out.keep kkZ)
  have TA := Lib.hid (TA.out.keepsTo (Q := fun _ => True) kkZ (fun _ _ => id) (fun _ h => h))
  have NB := Lib.hid (NB.out.keep kkZ)
  have TB := Lib.hid (TB.out.keepsTo (Q := fun _ => True) kkZ (fun _ _ => id) (fun _ h => h))
  have NX := Lib.hid (NX.out.keep kkZ)
  have TX := Lib.hid (TX.out.keepsTo (Q := fun _ => True) kkZ (fun _ _ => id) (fun _ h => h))
  have NY := Lib.hid (NY.out.keep kkZ)
  have TY := Lib.hid (TY.out.keepsTo (Q := fun _ => True) kkZ (fun _ _ => id) (fun _ h => h))
  have KZ := Lib.hid (KY.out.trans kkZ)
  have TZ := Lib.hid (hvZ.keepsTo (Q := fun _ => True) (Keeps.refl (fun _ => False) _) (fun _ _ => id) (fun _ _ => trivial))
  -- its own block
  have NZ := Lib.hid (NC.new w6 ⟨oZ, .slice aZ nZ cZ, mZ, xZ, .slice bZ kZ dZ⟩)
  have kaZ := keeps_alloc w6 (.cells #[.int .i64 oZ, .slice aZ nZ cZ, .int .i64 mZ, .int .i64 xZ, .slice bZ kZ dZ] 26)
  have NA := Lib.hid (NA.out.keep kaZ)
  have TA := Lib.hid (TA.out.keepsTo (Q := fun _ => True) kaZ (fun _ _ => id) (fun _ h => h))
  have NB := Lib.hid (NB.out.keep kaZ)
  have TB := Lib.hid (TB.out.keepsTo (Q := fun _ => True) kaZ (fun _ _ => id) (fun _ h => h))
  have NX := Lib.hid (NX.out.keep kaZ)
  have TX := Lib.hid (TX.out.keepsTo (Q := fun _ => True) kaZ (fun _ _ => id) (fun _ h => h))
  have NY := Lib.hid (NY.out.keep kaZ)
  have TY := Lib.hid (TY.out.keepsTo (Q := fun _ => True) kaZ (fun _ _ => id) (fun _ h => h))
  have TZ := Lib.hid (TZ.out.keepsTo (Q := fun _ => True) kaZ (fun _ _ => id) (fun _ h => h))
  have KZ := Lib.hid (KZ.out.trans kaZ)
  clear hvZ kkZ kaZ
  unfold NV.val
  go_wp2_with fail
  refine (HDm.out _).mono ?_
  rintro e w7 ⟨rfl, rfl⟩
  go_wp2_with fail
  refine (HDl.out _).mono ?_
  rintro e w7 ⟨rfl, rfl⟩
  obtain ⟨qA0, qA1, qA2, qA3, qA4⟩ := NA.out
  simp only at qA0 qA1 qA2 qA3 qA4
  obtain ⟨qZ0, qZ1, qZ2, qZ3, qZ4⟩ := NZ.out
  simp only at qZ0 qZ1 qZ2 qZ3 qZ4
  have HS := Lib.hid (refTreeSame_any ta ta _ _ ⟨oZ, .slice aZ nZ cZ, mZ, xZ, .slice bZ kZ dZ⟩ ⟨oA, .slice aA nA cA, mA, xA, .slice bA kA dA⟩ _ TZ.out TA.out)
  rw [show decide (ta = ta) = true from decide_eq_true rfl] at HS
  unfold NV.val at HS
  go_wp2_with fail
  refine HS.out.mono ?_
  rintro e w8 ⟨rfl, k8⟩
  go_wp2_with fail
  go_ret
  exact ⟨rfl, KZ.out.trans k8⟩

set_option maxHeartbeats 16000000 in
theorem parts_ok (l m : List UInt8) (w : World) (ht : TabW w) (hl : l.length ≤ 60) (hm : m.length ≤ 60) (ta tb : T) (ea eb : Int) (hpa : parseP l = (ta, ea)) (hpb : parseP m = (tb, eb)) (he : ea = 0) (hf : eb = 0) (h1 : deepB l ≤ 9) (h2 : deepB m ≤ 9) :
    Calls Tryd.prog 3 #[.string ⟨l.toArray⟩, .string ⟨m.toArray⟩] w fun e w' => e = .returned (.bool true) ∧ Keeps (fun _ => False) w w' := by
  have HT := Lib.hid ht
  have g0 : decide ((60 : Int) < (l.length : Int)) = false := by simp; omega
  have g1 : decide (60 < l.length) = false := by simp; omega
  have g2 : decide ((60 : Int) < (m.length : Int)) = false := by simp; omega
  have g3 : decide (60 < m.length) = false := by simp; omega
  have HPl := Lib.hid (fun W => parse_any l W (by omega))
  have HPm := Lib.hid (fun W => parse_any m W (by omega))
  rw [hpa] at HPl
  rw [hpb] at HPm
  subst he
  subst hf
  have hA := patB hpa
  have hB := patB hpb
  have HX := Lib.hid (fun W => parse_any (40 :: (l ++ 41 :: 40 :: (m ++ [41]))) W (by simp; omega))
  have HY := Lib.hid (fun W => parse_any (40 :: (l ++ 41 :: 124 :: 40 :: (m ++ [41]))) W (by simp; omega))
  have HZ := Lib.hid (fun W => parse_any (40 :: (l ++ [41])) W (by simp; omega))
  rw [parts_x hA hB hl hm, if_pos (by omega)] at HX
  rw [parts_y hA hB hl hm, if_pos (by omega)] at HY
  rw [parts_z hA (by omega), if_pos (by omega)] at HZ
  have HDl := Lib.hid (fun W => deep_any l W (by omega))
  have HDm := Lib.hid (fun W => deep_any m W (by omega))
  have u1 : decide ((9 : Int) < deepB l) = false := by simp; omega
  have u2 : decide ((9 : Int) < deepB m) = false := by simp; omega
  have EX : (⟨#[40]⟩ ++ ⟨l.toArray⟩ ++ ⟨#[41, 40]⟩ ++ ⟨m.toArray⟩ ++ ⟨#[41]⟩ : ByteArray) = ⟨(40 :: (l ++ 41 :: 40 :: (m ++ [41]))).toArray⟩ := by apply ByteArray.ext; simp [ByteArray.data_append]
  have EY : (⟨#[40]⟩ ++ ⟨l.toArray⟩ ++ ⟨#[41, 124, 40]⟩ ++ ⟨m.toArray⟩ ++ ⟨#[41]⟩ : ByteArray) = ⟨(40 :: (l ++ 41 :: 124 :: 40 :: (m ++ [41]))).toArray⟩ := by apply ByteArray.ext; simp [ByteArray.data_append]
  have EZ : (⟨#[40]⟩ ++ ⟨l.toArray⟩ ++ ⟨#[41]⟩ : ByteArray) = ⟨(40 :: (l ++ [41])).toArray⟩ := by apply ByteArray.ext; simp [ByteArray.data_append]
  have EX := Lib.hid EX
  have EY := Lib.hid EY
  have EZ := Lib.hid EZ
  clear ht hpa hpb hA hB h1 h2
  generalize deepB l = DL at *
  generalize deepB m = DM at *
  go_enter Tryd.func3, Tryd.ntmps3
  go_wp2_with fail
  refine (parseAwake_any _ HT.out).mono ?_
  rintro e w1 ⟨rfl, k1⟩
  have K1 := Lib.hid k1
  clear k1
  go_wp2_with fail
  refine (HPl.out _).mono ?_
  rintro e w2 ⟨vA, rfl, hvA, kkA⟩
  obtain ⟨oA, aA, nA, cA, mA, xA, bA, kA, dA, rfl⟩ := NV.form hvA
  have KA := Lib.hid (K1.out.trans kkA)
  have TA := Lib.hid (hvA.keepsTo (Q := fun _ => True) (Keeps.refl (fun _ => False) _) (fun _ _ => id) (fun _ _ => trivial))
  -- its own block
  have NA := Lib.hid (NC.new w2 ⟨oA, .slice aA nA cA, mA, xA, .slice bA kA dA⟩)
  have kaA := keeps_alloc w2 (.cells #[.int .i64 oA, .slice aA nA cA, .int .i64 mA, .int .i64 xA, .slice bA kA dA] 26)
  have TA := Lib.hid (TA.out.keepsTo (Q := fun _ => True) kaA (fun _ _ => id) (fun _ h => h))
  have KA := Lib.hid (KA.out.trans kaA)
  clear hvA kkA kaA
  unfold NV.val
  go_wp2_with fail
  refine (HPm.out _).mono ?_
  rintro e w3 ⟨vB, rfl, hvB, kkB⟩
  obtain ⟨oB, aB, nB, cB, mB, xB, bB, kB, dB, rfl⟩ := NV.form hvB
  have NA := Lib.hid (NA.out.keep kkB)
  have TA := Lib.hid (TA.out.keepsTo (Q := fun _ => True) kkB (fun _ _ => id) (fun _ h => h))
  have KB := Lib.hid (KA.out.trans kkB)
  have TB := Lib.hid (hvB.keepsTo (Q := fun _ => True) (Keeps.refl (fun _ => False) _) (fun _ _ => id) (fun _ _ => trivial))
  -- its own block
  have NB := Lib.hid (NC.new w3 ⟨oB, .slice aB nB cB, mB, xB, .slice bB kB dB⟩)
  have kaB := keeps_alloc w3 (.cells #[.int .i64 oB, .slice aB nB cB, .int .i64 mB, .int .i64 xB, .slice bB kB dB] 26)
  have NA := Lib.hid (NA.out.keep kaB)
  have TA := Lib.hid (TA.out.keepsTo (Q := fun _ => True) kaB (fun _ _ => id) (fun _ h => h))
  have TB := Lib.hid (TB.out.keepsTo (Q := fun _ => True) kaB (fun _ _ => id) (fun _ h => h))
  have KB := Lib.hid (KB.out.trans kaB)
  clear hvB kkB kaB
  unfold NV.val
  go_wp2_with fail
  refine (HX.out _).mono ?_
  rintro e w4 ⟨vX, rfl, hvX, kkX⟩
  obtain ⟨oX, aX, nX, cX, mX, xX, bX, kX, dX, rfl⟩ := NV.form hvX
  have NA := Lib.hid (NA.out.keep kkX)
  have TA := Lib.hid (TA.out.keepsTo (Q := fun _ => True) kkX (fun _ _ => id) (fun _ h => h))
  have NB := Lib.hid (NB.out.keep kkX)
  have TB := Lib.hid (TB.out.keepsTo (Q := fun _ => True) kkX (fun _ _ => id) (fun _ h => h))
  have KX := Lib.hid (KB.out.trans kkX)
  have TX := Lib.hid (hvX.keepsTo (Q := fun _ => True) (Keeps.refl (fun _ => False) _) (fun _ _ => id) (fun _ _ => trivial))
  -- its own block
  have NX := Lib.hid (NC.new w4 ⟨oX, .slice aX nX cX, mX, xX, .slice bX kX dX⟩)
  have kaX := keeps_alloc w4 (.cells #[.int .i64 oX, .slice aX nX cX, .int .i64 mX, .int .i64 xX, .slice bX kX dX] 26)
  have NA := Lib.hid (NA.out.keep kaX)
  have TA := Lib.hid (TA.out.keepsTo (Q := fun _ => True) kaX (fun _ _ => id) (fun _ h => h))
  have NB := Lib.hid (NB.out.keep kaX)
  have TB := Lib.hid (TB.out.keepsTo (Q := fun _ => True) kaX (fun _ _ => id) (fun _ h => h))
  have TX := Lib.hid (TX.out.keepsTo (Q := fun _ => True) kaX (fun _ _ => id) (fun _ h => h))
  have KX := Lib.hid (KX.out.trans kaX)
  clear hvX kkX kaX
  unfold NV.val
  go_wp2_with fail
  refine (HY.out _).mono ?_
  rintro e w5 ⟨vY, rfl, hvY, kkY⟩
  obtain ⟨oY, aY, nY, cY, mY, xY, bY, kY, dY, rfl⟩ := NV.form hvY
  have NA := Lib.hid (NA.out.keep kkY)
  have TA := Lib.hid (TA.out.keepsTo (Q := fun _ => True) kkY (fun _ _ => id) (fun _ h => h))
  have NB := Lib.hid (NB.out.keep kkY)
  have TB := Lib.hid (TB.out.keepsTo (Q := fun _ => True) kkY (fun _ _ => id) (fun _ h => h))
  have NX := Lib.hid (NX.out.keep kkY)
  have TX := Lib.hid (TX.out.keepsTo (Q := fun _ => True) kkY (fun _ _ => id) (fun _ h => h))
  have KY := Lib.hid (KX.out.trans kkY)
  have TY := Lib.hid (hvY.keepsTo (Q := fun _ => True) (Keeps.refl (fun _ => False) _) (fun _ _ => id) (fun _ _ => trivial))
  -- its own block
  have NY := Lib.hid (NC.new w5 ⟨oY, .slice aY nY cY, mY, xY, .slice bY kY dY⟩)
  have kaY := keeps_alloc w5 (.cells #[.int .i64 oY, .slice aY nY cY, .int .i64 mY, .int .i64 xY, .slice bY kY dY] 26)
  have NA := Lib.hid (NA.out.keep kaY)
  have TA := Lib.hid (TA.out.keepsTo (Q := fun _ => True) kaY (fun _ _ => id) (fun _ h => h))
  have NB := Lib.hid (NB.out.keep kaY)
  have TB := Lib.hid (TB.out.keepsTo (Q := fun _ => True) kaY (fun _ _ => id) (fun _ h => h))
  have NX := Lib.hid (NX.out.keep kaY)
  have TX := Lib.hid (TX.out.keepsTo (Q := fun _ => True) kaY (fun _ _ => id) (fun _ h => h))
  have TY := Lib.hid (TY.out.keepsTo (Q := fun _ => True) kaY (fun _ _ => id) (fun _ h => h))
  have KY := Lib.hid (KY.out.trans kaY)
  clear hvY kkY kaY
  unfold NV.val
  go_wp2_with fail
  refine (HZ.out _).mono ?_
  rintro e w6 ⟨vZ, rfl, hvZ, kkZ⟩
  obtain ⟨oZ, aZ, nZ, cZ, mZ, xZ, bZ, kZ, dZ, rfl⟩ := NV.form hvZ
  have NA := Lib.hid (NA.out.keep kkZ)
  have TA := Lib.hid (TA.out.keepsTo (Q := fun _ => True) kkZ (fun _ _ => id) (fun _ h => h))
  have NB := Lib.hid (NB.out.keep kkZ)
  have TB := Lib.hid (TB.out.keepsTo (Q := fun _ => True) kkZ (fun _ _ => id) (fun _ h => h))
  have NX := Lib.hid (NX.out.keep kkZ)
  have TX := Lib.hid (TX.out.keepsTo (Q := fun _ => True) kkZ (fun _ _ => id) (fun _ h => h))
  have NY := Lib.hid (NY.out.keep kkZ)
  have TY := Lib.hid (TY.out.keepsTo (Q := fun _ => True) kkZ (fun _ _ => id) (fun _ h => h))
  have KZ := Lib.hid (KY.out.trans kkZ)
  have TZ := Lib.hid (hvZ.keepsTo (Q := fun _ => True) (Keeps.refl (fun _ => False) _) (fun _ _ => id) (fun _ _ => trivial))
  -- its own block
  have NZ := Lib.hid (NC.new w6 ⟨oZ, .slice aZ nZ cZ, mZ, xZ, .slice bZ kZ dZ⟩)
  have kaZ := keeps_alloc w6 (.cells #[.int .i64 oZ, .slice aZ nZ cZ, .int .i64 mZ, .int .i64 xZ, .slice bZ kZ dZ] 26)
  have NA := Lib.hid (NA.out.keep kaZ)
  have TA := Lib.hid (TA.out.keepsTo (Q := fun _ => True) kaZ (fun _ _ => id) (fun _ h => h))
  have NB := Lib.hid (NB.out.keep kaZ)
  have TB := Lib.hid (TB.out.keepsTo (Q := fun _ => True) kaZ (fun _ _ => id) (fun _ h => h))
  have NX := Lib.hid (NX.out.keep kaZ)
  have TX := Lib.hid (TX.out.keepsTo (Q := fun _ => True) kaZ (fun _ _ => id) (fun _ h => h))
  have NY := Lib.hid (NY.out.keep kaZ)
  have TY := Lib.hid (TY.out.keepsTo (Q := fun _ => True) kaZ (fun _ _ => id) (fun _ h => h))
  have TZ := Lib.hid (TZ.out.keepsTo (Q := fun _ => True) kaZ (fun _ _ => id) (fun _ h => h))
  have KZ := Lib.hid (KZ.out.trans kaZ)
  clear hvZ kkZ kaZ
  unfold NV.val
  go_wp2_with fail
  refine (HDm.out _).mono ?_
  rintro e w7 ⟨rfl, rfl⟩
  go_wp2_with fail
  refine (HDl.out _).mono ?_
  rintro e w7 ⟨rfl, rfl⟩
  obtain ⟨wa, hwa⟩ : ∃ W, w6.alloc (.cells #[.int .i64 oZ, .slice aZ nZ cZ, .int .i64 mZ, .int .i64 xZ, .slice bZ kZ dZ] 26) = W := ⟨_, rfl⟩
  rw [hwa] at NA NB NX NY NZ TA TB TX TY TZ KZ ⊢
  clear hwa
  obtain ⟨qA0, qA1, qA2, qA3, qA4⟩ := NA.out
  simp only at qA0 qA1 qA2 qA3 qA4
  obtain ⟨qB0, qB1, qB2, qB3, qB4⟩ := NB.out
  simp only at qB0 qB1 qB2 qB3 qB4
  obtain ⟨qX0, qX1, qX2, qX3, qX4⟩ := NX.out
  simp only at qX0 qX1 qX2 qX3 qX4
  have L1 := Lib.hid (two_lit wa 4 TA.out TB.out)
  have k7 := keeps_alloc wa (.cells #[.int .i64 oA, .slice aA nA cA, .int .i64 mA, .int .i64 xA, .slice bA kA dA, .int .i64 oB, .slice aB nB cB, .int .i64 mB, .int .i64 xB, .slice bB kB dB] 26)
  have HS1 := Lib.hid (refTreeSame_any ⟨4, [], 0, 0, F.ofL [ta, tb]⟩ ⟨4, [], 0, 0, F.ofL [ta, tb]⟩ _ _ ⟨oX, .slice aX nX cX, mX, xX, .slice bX kX dX⟩ _ _ (TX.out.keepsTo (Q := fun _ => True) k7 (fun _ _ => id) (fun _ h => h)) L1.out)
  rw [decide_eq_true rfl] at HS1
  unfold NV.val at HS1
  simp only at HS1
  have K7 := Lib.hid k7
  clear k7 L1
  go_wp2_with fail
  refine HS1.out.mono ?_
  rintro e w8 ⟨rfl, k8⟩
  have K8 := Lib.hid (K7.out.trans k8)
  clear k8 qA0 qA1 qA2 qA3 qA4 qB0 qB1 qB2 qB3 qB4 qX0 qX1 qX2 qX3 qX4
  obtain ⟨qA0, qA1, qA2, qA3, qA4⟩ := NA.out.keep K8.out
  simp only at qA0 qA1 qA2 qA3 qA4
  obtain ⟨qB0, qB1, qB2, qB3, qB4⟩ := NB.out.keep K8.out
  simp only at qB0 qB1 qB2 qB3 qB4
  obtain ⟨qY0, qY1, qY2, qY3, qY4⟩ := NY.out.keep K8.out
  simp only at qY0 qY1 qY2 qY3 qY4
  have L2 := Lib.hid (two_lit w8 5 (TA.out.keepsTo (Q := fun _ => True) K8.out (fun _ _ => id) (fun _ h => h)) (TB.out.keepsTo (Q := fun _ => True) K8.out (fun _ _ => id) (fun _ h => h)))
  have k9 := keeps_alloc w8 (.cells #[.int .i64 oA, .slice aA nA cA, .int .i64 mA, .int .i64 xA, .slice bA kA dA, .int .i64 oB, .slice aB nB cB, .int .i64 mB, .int .i64 xB, .slice bB kB dB] 26)
  have HS2 := Lib.hid (refTreeSame_any ⟨5, [], 0, 0, F.ofL [ta, tb]⟩ ⟨5, [], 0, 0, F.ofL [ta, tb]⟩ _ _ ⟨oY, .slice aY nY cY, mY, xY, .slice bY kY dY⟩ _ _ (TY.out.keepsTo (Q := fun _ => True) (K8.out.trans k9) (fun _ _ => id) (fun _ h => h)) L2.out)
  rw [decide_eq_true rfl] at HS2
  unfold NV.val at HS2
  simp only at HS2
  have K9 := Lib.hid (K8.out.trans k9)
  clear k9 L2
  go_wp2_with fail
  refine HS2.out.mono ?_
  rintro e w10 ⟨rfl, k10⟩
  have K10 := Lib.hid (K9.out.trans k10)
  clear k10 qA0 qA1 qA2 qA3 qA4 qB0 qB1 qB2 qB3 qB4 qY0 qY1 qY2 qY3 qY4
  obtain ⟨qA0, qA1, qA2, qA3, qA4⟩ := NA.out.keep K10.out
  simp only at qA0 qA1 qA2 qA3 qA4
  obtain ⟨qZ0, qZ1, qZ2, qZ3, qZ4⟩ := NZ.out.keep K10.out
  simp only at qZ0 qZ1 qZ2 qZ3 qZ4
  have HS3 := Lib.hid (refTreeSame_any ta ta _ _ ⟨oZ, .slice aZ nZ cZ, mZ, xZ, .slice bZ kZ dZ⟩ ⟨oA, .slice aA nA cA, mA, xA, .slice bA kA dA⟩ _ (TZ.out.keepsTo (Q := fun _ => True) K10.out (fun _ _ => id) (fun _ h => h)) (TA.out.keepsTo (Q := fun _ => True) K10.out (fun _ _ => id) (fun _ h => h)))
  rw [show decide (ta = ta) = true from decide_eq_true rfl] at HS3
  unfold NV.val at HS3
  go_wp2_with fail
  refine HS3.out.mono ?_
  rintro e w11 ⟨rfl, k11⟩
  go_wp2_with fail
  go_ret
  exact ⟨rfl, (KZ.out.trans K10.out).trans k11⟩

theorem parts_main (s t : ByteArray) (hs : s.size ≤ 9223372036854775807) (ht' : t.size ≤ 9223372036854775807) (w : World) (ht : TabW w) :
    Calls Tryd.prog 3 #[.string s, .string t] w fun e w' => e = .returned (.bool true) ∧ Keeps (fun _ => False) w w' := by
  obtain ⟨⟨l⟩⟩ := s
  obtain ⟨⟨m⟩⟩ := t
  have hl : l.length ≤ 9223372036854775807 := hs
  have hm : m.length ≤ 9223372036854775807 := ht'
  by_cases h : 60 < l.length ∨ 60 < m.length
  · exact parts_long l m w ht hl hm h
  · obtain ⟨ta, ea, hpa⟩ : ∃ a b, parseP l = (a, b) := ⟨_, _, rfl⟩
    obtain ⟨tb, eb, hpb⟩ : ∃ a b, parseP m = (a, b) := ⟨_, _, rfl⟩
    by_cases he : ea = 0
    · by_cases hf : eb = 0
      · by_cases h1 : deepB l ≤ 9
        · by_cases h2 : deepB m ≤ 9
          · exact parts_ok l m w ht (by omega) (by omega) ta tb ea eb hpa hpb he hf h1 h2
          · exact parts_deep2 l m w ht (by omega) (by omega) ta tb ea eb hpa hpb he hf h1 (by omega)
        · exact parts_deep1 l m w ht (by omega) (by omega) ta tb ea eb hpa hpb he hf (by omega)
      · exact parts_bad2 l m w ht (by omega) (by omega) ta tb ea eb hpa hpb he hf
    · exact parts_bad1 l m w ht (by omega) (by omega) ta tb ea eb hpa hpb he
end Go.Proofs.YtinogeobkljngaaDoor
