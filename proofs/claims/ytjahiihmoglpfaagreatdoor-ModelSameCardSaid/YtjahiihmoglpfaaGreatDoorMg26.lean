/-
  Several texts in one: strings.Cut at an end of a line; split's record, Write, Close. split's Write. split's Close, New. mode's each.
-/
import Derived.Test.YtjahiihmoglpfaaGreatDoorMg3
import Derived.Test.YtjahiihmoglpfaaGreatDoorShelf
import Derived.Deep.AppendLies
import Derived.Deep.RegionHeld3
import Derived.Handy
import Derived.Test.YtjahiihmoglpfaaGreatDoorMg22
import Derived.Deep.RegionWith
import Derived.Test.YtjahiihmoglpfaaGreatDoorMg25
namespace Go.Proofs.YtjahiihmoglpfaaGreatDoor
open Go.RowKit
set_option linter.unusedVariables false
set_option linter.unusedSimpArgs false
set_option maxRecDepth 100000
instance KI.s1 {a b : World} {g i : Nat} {n : Option Nat} {v : Value} [h : KI (fun x => x = g) a b] : KI (fun x => x = g) a (b.setCell ⟨g, i, n⟩ v) := ⟨h.out.setCell (Or.inl rfl) v⟩
theorem xkt : ∀ (l : List UInt8), (nlP l < l.length → Lib.indexByte l 10 = (nlP l : Int)) ∧ (¬ nlP l < l.length → Lib.indexByte l 10 = -1)
 | [] => ⟨fun h => by simp at h, fun _ => rfl⟩
 | c :: t => by
  obtain ⟨h1, h2⟩ := xkt t
  unfold Lib.indexByte nlP
  by_cases hc : c = 10
  · subst hc; exact ⟨fun _ => rfl, fun h => by simp at h⟩
  have hb : (c == 10) = false := by simpa using hc
  simp only [hb, Bool.false_eq_true, if_false, if_neg hc, List.length_cons]
  constructor
  · intro h
    rw [h1 (by omega)]
    have : ((nlP t : Int) == -1) = false := by rw [beq_eq_false_iff_ne]; omega
    simp [this]
  intro h
  rw [h2 (by omega)]
  rfl
theorem extr_a (l : List UInt8) (n : Nat) : (⟨l.toArray⟩ : ByteArray).extract 0 n = ⟨(l.take n).toArray⟩ := by
 apply ByteArray.ext
 simp [ByteArray.data_extract, List.extract_eq_take_drop]
theorem xmw (l : List UInt8) (n : Nat) : (⟨l.toArray⟩ : ByteArray).extract n l.length = ⟨(l.drop n).toArray⟩ := by
 apply ByteArray.ext
 simp [ByteArray.data_extract, List.extract_eq_take_drop]
 rw [List.take_of_length_le (by simp)]
set_option maxHeartbeats 4000000 in
theorem xkH (l : List UInt8) (w : World) (hl : l.length ≤ 1000000) (hn : nlP l < l.length) : Calls Tryz.prog 112 #[.string ⟨l.toArray⟩, .string ⟨#[10]⟩] w fun e w' => e = .returned (.tuple #[strL (l.take (nlP l)), strL (l.drop (nlP l + 1)), .bool true]) ∧ xaa (fun _ => False) w w' := by
 have HI := xmA (fun W => Tryz.stringslite_Index_one ⟨l.toArray⟩ 10 W)
 have HX := xmA ((xkt l).1 hn)
 have E1 := xmA (extr_a l (nlP l))
 have E2 := xmA (xmw l (nlP l + 1))
 generalize nlP l = k at *
 go_enter Tryz.func112, Tryz.ntmps112
 go_wp2_with fail
 refine (HI.out _).mono ?_
 rintro e w2 ⟨rfl, rfl⟩
 rw [HX.out]
 have hww : IntKind.i64.wrap ((k : Int) + 1) = (k : Int) + 1 := IntWalk.i64_in _ (by omega)
 go_wp2_with fail
 go_quiet (fail)
 go_wp2_with fail
 go_ret3
 exact ⟨by unfold strL; rw [← E1.out, ← E2.out]; rfl, KI.out⟩
set_option maxHeartbeats 4000000 in
theorem xl6 (l : List UInt8) (w : World) (hl : l.length ≤ 1000000) (hn : ¬ nlP l < l.length) : Calls Tryz.prog 112 #[.string ⟨l.toArray⟩, .string ⟨#[10]⟩] w fun e w' => e = .returned (.tuple #[strL l, strL [], .bool false]) ∧ xaa (fun _ => False) w w' := by
 have HI := xmA (fun W => Tryz.stringslite_Index_one ⟨l.toArray⟩ 10 W)
 have HX := xmA ((xkt l).2 hn)
 clear hn
 go_enter Tryz.func112, Tryz.ntmps112
 go_wp2_with fail
 refine (HI.out _).mono ?_
 rintro e w2 ⟨rfl, rfl⟩
 rw [HX.out]
 go_wp2_with fail
 go_ret3
 exact ⟨rfl, KI.out⟩
set_option maxHeartbeats 4000000 in
theorem cut_yes (l : List UInt8) (w : World) (hl : l.length ≤ 1000000) (hn : nlP l < l.length) : Calls Tryz.prog 71 #[.string ⟨l.toArray⟩, .string ⟨#[10]⟩] w fun e w' => e = .returned (.tuple #[strL (l.take (nlP l)), strL (l.drop (nlP l + 1)), .bool true]) ∧ xaa (fun _ => False) w w' := by
 have HI := xmA (fun W => xkH l W hl hn)
 clear hn
 go_enter Tryz.func71, Tryz.ntmps71
 go_wp2_with fail
 refine (HI.out _).mono ?_
 rintro e w2 ⟨rfl, k2⟩
 go_wp2_with fail
 go_ret3
 exact ⟨rfl, k2⟩
theorem cut_no (l : List UInt8) (w : World) (hl : l.length ≤ 1000000) (hn : ¬ nlP l < l.length) : Calls Tryz.prog 71 #[.string ⟨l.toArray⟩, .string ⟨#[10]⟩] w fun e w' => e = .returned (.tuple #[strL l, strL [], .bool false]) ∧ xaa (fun _ => False) w w' := by
 have HI := xmA (fun W => xl6 l W hl hn)
 clear hn
 go_enter Tryz.func71, Tryz.ntmps71
 go_wp2_with fail
 refine (HI.out _).mono ?_
 rintro e w2 ⟨rfl, k2⟩
 go_wp2_with fail
 go_ret3
 exact ⟨rfl, k2⟩
def xaT (w : World) (sb most : Nat) (h : List UInt8) (n p : Nat) (over : Bool) : Prop :=
 w.heap[sb]? = some (.cells #[.int .i64 most, .string ⟨h.toArray⟩, .int .i64 n, .int .i64 p, .bool over] 139 (0, 0))
theorem xaT.keeps {S : Nat → Prop} {w w' : World} {sb most : Nat} {h : List UInt8} {n p : Nat} {over : Bool} (H : xaT w sb most h n p over) (K : xaa S w w') (hs : ¬ S sb) : xaT w' sb most h n p over := K.heap H hs
theorem xaT.cells {w : World} {sb most : Nat} {h : List UInt8} {n p : Nat} {over : Bool} (H : xaT w sb most h n p over) :
 w.cell? ⟨sb, 0, none⟩ = some (.int .i64 most) ∧ w.cell? ⟨sb, 1, none⟩ = some (.string ⟨h.toArray⟩) ∧ w.cell? ⟨sb, 2, none⟩ = some (.int .i64 n) ∧ w.cell? ⟨sb, 3, none⟩ = some (.int .i64 p) ∧ w.cell? ⟨sb, 4, none⟩ = some (.bool over) ∧ (∀ k, w.frozen? ⟨sb, k, none⟩ = false) ∧ sb < w.heap.size :=
 ⟨by rw [Lib.cell_of_heap H]; rfl, by rw [Lib.cell_of_heap H]; rfl, by rw [Lib.cell_of_heap H]; rfl, by rw [Lib.cell_of_heap H]; rfl, by rw [Lib.cell_of_heap H]; rfl, fun k => Lib.frozen_of_heap H k, (Array.getElem?_eq_some_iff.1 H).1⟩
theorem xaT.put {w : World} {sb most : Nat} {h : List UInt8} {n p : Nat} {over : Bool} (H : xaT w sb most h n p over) (h' : List UInt8) (n' p' : Nat) (over' : Bool) :
 xaT ((((w.setCell ⟨sb, 2, none⟩ (.int .i64 n')).setCell ⟨sb, 3, none⟩ (.int .i64 p')).setCell ⟨sb, 1, none⟩ (.string ⟨h'.toArray⟩))) sb most h' n' p' over := by
 unfold xaT at H ⊢
 simp [World.setCell, Array.getElem?_modify, H]
theorem xaT.shut {w : World} {sb most : Nat} {h : List UInt8} {n p : Nat} {over : Bool} (H : xaT w sb most h n p over) :
 xaT ((w.setCell ⟨sb, 4, none⟩ (.bool true)).setCell ⟨sb, 1, none⟩ (.string ⟨#[]⟩)) sb most [] n p true := by
 unfold xaT at H ⊢
 simp [World.setCell, Array.getElem?_modify, H]
theorem xaT.held {w : World} {sb most : Nat} {h : List UInt8} {n p : Nat} {over : Bool} (H : xaT w sb most h n p over) (h' : List UInt8) :
 xaT (w.setCell ⟨sb, 1, none⟩ (.string ⟨h'.toArray⟩)) sb most h' n p over := by
 unfold xaT at H ⊢
 simp [World.setCell, Array.getElem?_modify, H]
set_option maxHeartbeats 4000000 in
theorem xev (sb most : Nat) (h : List UInt8) (n p : Nat) (over : Bool) (w : World) (H : xaT w sb most h n p over) :
 Calls Tryz.prog 74 #[.pointer (some ⟨sb, 0, none⟩)] w fun e w' => e = .returned (.tuple #[]) ∧ xaT w' sb most [] n p true ∧ xaa (fun b => b = sb) w w' := by
 obtain ⟨c0, c1, c2, c3, c4, fz, hlt⟩ := H.cells
 have f1 := fz 1
 have f4 := fz 4
 have HS := xmA H.shut
 clear fz H
 go_enter Tryz.func74, Tryz.ntmps74
 go_wp2_with fail
 go_returns
 exact ⟨rfl, HS.out, KI.out⟩
def st3 (W : World) (b : Nat) (x y z : Value) : World := ((W.setCell ⟨b, 0, none⟩ x).setCell ⟨b, 1, none⟩ y).setCell ⟨b, 2, none⟩ z
theorem xf4 {W : World} {b : Nat} {u0 u1 u2 : Value} {T : TypeId} (h : W.heap[b]? = some (.cells #[u0, u1, u2] T (0, 0))) (x y z : Value) :
 (st3 W b x y z).cell? ⟨b, 0, none⟩ = some x ∧ (st3 W b x y z).cell? ⟨b, 1, none⟩ = some y ∧ (st3 W b x y z).cell? ⟨b, 2, none⟩ = some z ∧ xaa (fun k => k = b) W (st3 W b x y z) := by
 have hb : (st3 W b x y z).heap[b]? = some (.cells #[x, y, z] T (0, 0)) := by
  unfold st3
  simp [World.setCell, Array.getElem?_modify, h]
 exact ⟨by rw [Lib.cell_of_heap hb]; rfl, by rw [Lib.cell_of_heap hb]; rfl, by rw [Lib.cell_of_heap hb]; rfl, (((xaa.refl (fun k => k = b) W).set (p := ⟨b, 0, none⟩) rfl _).set (p := ⟨b, 1, none⟩) rfl _).set (p := ⟨b, 2, none⟩) rfl _⟩
def xbe (r : Rc) (j : Nat) : Value := if j = 0 then .int .i64 r.n else if j = 1 then .int .i64 r.at' else .string ⟨r.text.toArray⟩
def rcV (r : Rc) : Value := .agg #[.int .i64 r.n, .int .i64 r.at', .string ⟨r.text.toArray⟩]
set_option maxHeartbeats 4000000 in
theorem xee (sb most : Nat) (h t : List UInt8) (n p : Nat) (k : Int) (w : World) (H : xaT w sb most h n p false) (hl : most < t.length) :
 Calls Tryz.prog 72 #[.pointer (some ⟨sb, 0, none⟩), .string ⟨t.toArray⟩, .int .i64 k] w fun e w' => e = .returned (.tuple #[.agg #[.int .i64 0, .int .i64 0, .string ⟨#[]⟩], .int .i64 10]) ∧ xaT w' sb most [] n p true ∧ xaa (fun b => b = sb) w w' := by
 obtain ⟨c0, c1, c2, c3, c4, fz, hlt⟩ := H.cells
 have g1 : decide ((most : Int) < (t.length : Int)) = true := by simp; omega
 have HE := xmA (fun (W : World) (K : xaa (fun _ => False) w W) => xev sb most h n p false W (H.keeps K id))
 clear fz H
 go_enter Tryz.func72, Tryz.ntmps72
 go_wp2_with fail
 refine (HE.out _ (KI.out)).mono ?_
 rintro e w2 ⟨rfl, hS, k2⟩
 have K2 := xmA (xaa.trans (xaa.alloc (xaa.refl (fun b => b = sb) w) _) k2)
 have HS := xmA hS
 have hb : w2.heap[w.heap.size]? = some (.cells #[.int .i64 0, .int .i64 0, .string ⟨#[]⟩] 39 (0, 0)) := k2.heap (heap_alloc_new w _) (by show ¬ w.heap.size = sb; omega)
 have z0 : w2.cell? ⟨w.heap.size, 0, none⟩ = some (.int .i64 0) := by rw [Lib.cell_of_heap hb]; rfl
 have z1 : w2.cell? ⟨w.heap.size, 1, none⟩ = some (.int .i64 0) := by rw [Lib.cell_of_heap hb]; rfl
 have z2 : w2.cell? ⟨w.heap.size, 2, none⟩ = some (.string ⟨#[]⟩) := by rw [Lib.cell_of_heap hb]; rfl
 have y0 : w2.frozen? ⟨w.heap.size, 0, none⟩ = false := Lib.frozen_of_heap hb 0
 have y1 : w2.frozen? ⟨w.heap.size, 1, none⟩ = false := Lib.frozen_of_heap hb 1
 have y2 : w2.frozen? ⟨w.heap.size, 2, none⟩ = false := Lib.frozen_of_heap hb 2
 have HF := xmA (xf4 hb (.int .i64 0) (.int .i64 0) (.string ⟨#[]⟩))
 clear hS k2 hb
 go_wp2_with fail
 obtain ⟨r0, r1, r2, kE⟩ := HF.out
 obtain ⟨wE, hWE⟩ : ∃ W, st3 w2 w.heap.size (.int .i64 0) (.int .i64 0) (.string ⟨#[]⟩) = W := ⟨_, rfl⟩
 rw [hWE] at r0 r1 r2 kE
 unfold st3 at hWE
 rw [hWE]
 clear hWE HF z0 z1 z2 y0 y1 y2
 have HKE := xmA kE
 clear kE
 refine bodyPost_ret (by simp [results, Tryz.results72, go_sem, r0, r1, r2]; try rfl) rfl ?_
 refine ⟨rfl, HS.out.keeps HKE.out (by show ¬ sb = w.heap.size; omega), ?_⟩
 exact K2.out.trans2 HKE.out (fun i hi e => by omega)
set_option maxHeartbeats 4000000 in
theorem xge (sb most : Nat) (h t : List UInt8) (n p k : Nat) (w : World) (H : xaT w sb most h n p false) (hl : t.length ≤ most) (hk : k ≤ h.length) (hn : n + p + k ≤ 1000000000) (hm : most ≤ 1000000) (hh : h.length ≤ 1000000) :
 Calls Tryz.prog 72 #[.pointer (some ⟨sb, 0, none⟩), .string ⟨t.toArray⟩, .int .i64 k] w fun e w' => e = .returned (.tuple #[rcV ⟨n, p, t⟩, .int .i64 0]) ∧ xaT w' sb most (h.drop k) (n + 1) (p + k) false ∧ xaa (fun b => b = sb) w w' := by
 obtain ⟨c0, c1, c2, c3, c4, fz, hlt⟩ := H.cells
 have g1 : decide ((most : Int) < (t.length : Int)) = false := by simp; omega
 have f1 := fz 1
 have f2 := fz 2
 have f3 := fz 3
 have E := xmA (xmw h k)
 have h1 : IntKind.i64.wrap ((n : Int) + 1) = (n : Int) + 1 := IntWalk.i64_in _ (by omega)
 have h2 : IntKind.i64.wrap ((p : Int) + (k : Int)) = (p : Int) + (k : Int) := IntWalk.i64_in _ (by omega)
 have HP : Hid (xaT (((w.setCell ⟨sb, 2, none⟩ (.int .i64 ((n : Int) + 1))).setCell ⟨sb, 3, none⟩ (.int .i64 ((p : Int) + (k : Int)))).setCell ⟨sb, 1, none⟩ (.string ((⟨h.toArray⟩ : ByteArray).extract k h.length))) sb most (h.drop k) (n + 1) (p + k) false) := xmA (by
  rw [E.out, ← Int.natCast_add]
  exact H.put (h.drop k) (n + 1) (p + k) false)
 clear fz H
 go_enter Tryz.func72, Tryz.ntmps72
 go_wp2_with fail
 go_region
 go_wp2_with fail
 go_returns
 refine ⟨rfl, ?_, KI.out⟩
 exact (HP.out.keeps (S := fun _ => False) (KI.out) id)
theorem xhu : (Tryz.prog.info? 39).map (fun i => (i.zero, i.size, i.bytes)) = some (some (.agg #[.int .i64 0, .int .i64 0, .string ⟨#[]⟩]), 3, 32) := by kernel_rfl
theorem xjn (w : World) (o : Obj) (l : List Value) (T : TypeId) : ∀ (j : Nat) (u : Value), l[j]? = some u → ((w.alloc o).alloc (.cells l.toArray T)).cell? ((⟨w.heap.size + 1, 0, none⟩ : Addr).add j) = some u := by
 intro j u hj
 have h1 := xak (w.alloc o) l T j u hj
 rw [show (w.alloc o).heap.size = w.heap.size + 1 by simp] at h1
 exact h1
def lenW (sb : Nat) (w : World) : Nat := match w.cell? ⟨sb, 1, none⟩ with
 | some (.string s) => s.size
 | _ => 0
theorem xaT.lenW {w : World} {sb most : Nat} {h : List UInt8} {n p : Nat} {over : Bool} (H : xaT w sb most h n p over) : lenW sb w = h.length := by
 unfold Go.Proofs.YtjahiihmoglpfaaGreatDoor.lenW
 rw [H.cells.2.1]
 show h.toArray.size = _
 simp
def SpR (sb most : Nat) (H : List UInt8) (n0 p0 base : Nat) (w0 : World) (ov : Value) (wr : World) : Prop :=
 ∃ (h : List UInt8) (n p : Nat) (acc : List Rc), xaT wr sb most h n p false ∧ splA most H n0 p0 = (acc ++ (splA most h n p).1, (splA most h n p).2) ∧ wr.ownsRow base 39 3 ov acc.length (cellsOf 3 xbe acc) ∧ xaa (fun b => b = sb) w0 wr ∧
  h.length + acc.length ≤ H.length ∧ n + h.length ≤ n0 + H.length ∧ p + h.length = p0 + H.length
def SwE (sb most : Nat) (r : List Rc × Int × List UInt8 × Nat × Nat) (w : World) (e : Ending) (w' : World) : Prop :=
 ∃ v, e = .returned (.tuple #[v, .int .i64 r.2.1]) ∧ w'.ownsRow w.heap.size 39 3 v r.1.length (cellsOf 3 xbe r.1) ∧ xaT w' sb most r.2.2.1 r.2.2.2.1 r.2.2.2.2 (r.2.1 != 0) ∧ xaa (fun b => b = sb) w w'
theorem xaV {S : Nat → Prop} {w w' : World} {base : Nat} {e : TypeId} {size n : Nat} {v : Value} {xs : List Value} (h : w.ownsRow base e size v n xs) (K : xaa S w w') (hs : ∀ b, S b → b < base) : w'.ownsRow base e size v n xs :=
 xae h K (fun b hb hS => by have := xab h b hb; have := hs b hS; omega)
set_option maxHeartbeats 8000000 in
theorem xeP (sb most : Nat) (h0 t0 : List UInt8) (n p : Nat) (w : World) (H : xaT w sb most h0 n p false) (hb : h0.length + t0.length ≤ 100000) (hn : n ≤ 100000000) (hp : p ≤ 100000000) (hm : most ≤ 100000) :
 Calls Tryz.prog 39 #[.pointer (some ⟨sb, 0, none⟩), .string ⟨t0.toArray⟩] w (SwE sb most (splA most (h0 ++ t0) n p) w) := by
 obtain ⟨i0, hi, hz0, hz1, hz2⟩ := info_parts xhu
 obtain ⟨c0, c1, c2, c3, c4, fz, hlt⟩ := H.cells
 have f1 := fz 1
 have HS0 := xmA (H.held (h0 ++ t0))
 have hH : (h0 ++ t0).length ≤ 100000 := by simpa using hb
 have hcat : (⟨h0.toArray⟩ : ByteArray) ++ ⟨t0.toArray⟩ = ⟨(h0 ++ t0).toArray⟩ := by apply ByteArray.ext; simp
 clear fz H
 go_enter Tryz.func39, Tryz.ntmps39
 go_wp2_with fail
 have hS0 := HS0.out
 obtain ⟨w1, hw1⟩ : ∃ W, w.setCell ⟨sb, 1, none⟩ (.string ⟨(h0 ++ t0).toArray⟩) = W := ⟨_, rfl⟩
 have hk1 : xaa (fun b => b = sb) w w1 := by rw [← hw1]; exact (xaa.refl (fun b => b = sb) w).set rfl _
 rw [hw1] at hS0 ⊢
 clear hw1 HS0 c0 c1 c2 c3 c4 f1
 generalize h0 ++ t0 = L at *
 clear hb hcat
 have HS := xmA hS0
 have HK1 := xmA hk1
 have hs1 := hk1.size
 clear hS0 hk1
 go_loopw [6] (fun ov wr => SpR sb most L n p w.heap.size w ov wr) (fun _ wr => lenW sb wr)
 case atStart => exact ⟨L, n, p, [], HS.out, by simp, ⟨rfl, Or.inl ⟨rfl, rfl⟩⟩, HK1.out, by simp, Nat.le_refl _, rfl⟩
 case round =>
  clear HS
  obtain ⟨h, n1, p1, acc, hS, hsp, hO, hk, hl1, hl2, hl3⟩ := hrel
  obtain ⟨c0, c1, c2, c3, c4, fz, hlt1⟩ := hS.cells
  have HS := xmA hS
  have HO := xmA hO
  have HK := xmA hk
  have HSP := xmA hsp
  have HLW := xmA hS.lenW
  obtain ⟨oa, oc, rfl⟩ := xad hO
  have hsz := hk.size
  clear hS hO hk hsp
  by_cases hn1 : nlP h < h.length
  · have HC := xmA (fun W => cut_yes h W (by omega) hn1)
    have HT := xmA (fun W => Tryz.strings_TrimSuffix ⟨(h.take (nlP h)).toArray⟩ ⟨#[13]⟩ W (by show (h.take (nlP h)).toArray.size ≤ _; simp; omega))
    have hln := xci most h n1 p1 hn1
    have hnc : Lib.trimSuffix (h.take (nlP h)) [13] = noCr (h.take (nlP h)) := rfl
    have hncl := (xhm (h.take (nlP h))).1
    have htl : (h.take (nlP h)).length = nlP h := by rw [List.length_take]; omega
    have hdl : (h.drop (nlP h + 1)).length = h.length - (nlP h + 1) := by rw [List.length_drop]
    by_cases hlo : most < (noCr (h.take (nlP h))).length
    · rw [if_pos hlo] at hln
      have HF : Hid (splA most L n p = (acc, 10, [], n1, p1)) := xmA (by rw [HSP.out, hln]; simp)
      have HR := xmA (fun (W : World) (K : xaa (fun _ => False) wr W) => xee sb most h (noCr (h.take (nlP h))) n1 p1 ((nlP h : Int) + 1) W (HS.out.keeps K id) hlo)
      have HT' : Hid (∀ W, Calls Tryz.prog 73 #[.string ⟨(h.take (nlP h)).toArray⟩, .string ⟨#[13]⟩] W fun e w' => e = .returned (strL (noCr (h.take (nlP h)))) ∧ w' = W) := HT
      clear HT hnc hln hlo HSP hdl
      generalize noCr (h.take (nlP h)) = tx at *
      generalize h.drop (nlP h + 1) = hd at *
      generalize h.take (nlP h) = ht at *
      generalize nlP h = k at *
      have hww : IntKind.i64.wrap ((k : Int) + 1) = (k : Int) + 1 := IntWalk.i64_in _ (by omega)
      unfold strL at HT' HC
      go_wp2_with fail
      refine (HC.out _).mono ?_
      rintro e w2 ⟨rfl, k2⟩
      have K2 := xmA k2
      clear k2
      go_wp2_with fail
      refine (HT'.out _).mono ?_
      rintro e w3 ⟨rfl, rfl⟩
      go_wp2_with fail
      refine (HR.out _ K2.out).mono ?_
      rintro e w4 ⟨rfl, hS4, k4⟩
      have HS4 := xmA hS4
      have hK4 : xaa (fun b => b = sb) w w4 := HK.out.trans2 (T := fun b => b = sb) (xaa.trans (K2.out.mono (fun _ _ h => h.elim)) k4) (fun i hi e => e)
      have HO4 := xmA (xaV HO.out ((K2.out.mono (T := fun b => b = sb) (fun _ _ h => h.elim)).trans k4) (fun b hb => by omega))
      have HK4 := xmA hK4
      clear hS4 k4 hK4
      go_wp2_with fail
      go_ret2
      rw [HF.out]
      refine ⟨_, rfl, xac HO4.out _, HS4.out.keeps (S := fun _ => False) (KI.out) id, HK4.out.trans (KI.out)⟩
    rw [if_neg hlo] at hln
    have hlo' : (noCr (h.take (nlP h))).length ≤ most := by omega
    have hle : nlP h + 1 ≤ h.length := by omega
    have HR0 := xmA (fun (W : World) (K : xaa (fun _ => False) wr W) => xge sb most h (noCr (h.take (nlP h))) n1 p1 (nlP h + 1) W (HS.out.keeps K id) hlo' hle (by omega) (by omega) (by omega))
    have HR : Hid (∀ W, xaa (fun _ => False) wr W → Calls Tryz.prog 72 #[.pointer (some ⟨sb, 0, none⟩), .string ⟨(noCr (h.take (nlP h))).toArray⟩, .int .i64 ((nlP h : Int) + 1)] W fun e w' => e = .returned (.tuple #[.agg #[.int .i64 n1, .int .i64 p1, .string ⟨(noCr (h.take (nlP h))).toArray⟩], .int .i64 0]) ∧ xaT w' sb most (h.drop (nlP h + 1)) (n1 + 1) (p1 + (nlP h + 1)) false ∧ xaa (fun b => b = sb) W w') := HR0
    have HT' : Hid (∀ W, Calls Tryz.prog 73 #[.string ⟨(h.take (nlP h)).toArray⟩, .string ⟨#[13]⟩] W fun e w' => e = .returned (strL (noCr (h.take (nlP h)))) ∧ w' = W) := HT
    have HF : Hid (splA most L n p = ((acc ++ [⟨n1, p1, noCr (h.take (nlP h))⟩]) ++ (splA most (h.drop (nlP h + 1)) (n1 + 1) (p1 + (nlP h + 1))).1, (splA most (h.drop (nlP h + 1)) (n1 + 1) (p1 + (nlP h + 1))).2)) := xmA (by rw [HSP.out, hln]; simp)
    clear HR0 HT hnc hln hlo hlo' HSP
    generalize noCr (h.take (nlP h)) = tx at *
    generalize h.drop (nlP h + 1) = hd at *
    generalize h.take (nlP h) = ht at *
    generalize nlP h = k at *
    have hww : IntKind.i64.wrap ((k : Int) + 1) = (k : Int) + 1 := IntWalk.i64_in _ (by omega)
    unfold strL at HT' HC
    go_wp2_with fail
    refine (HC.out _).mono ?_
    rintro e w2 ⟨rfl, k2⟩
    have K2 := xmA k2
    clear k2
    go_wp2_with fail
    refine (HT'.out _).mono ?_
    rintro e w3 ⟨rfl, rfl⟩
    go_wp2_with fail
    refine (HR.out _ K2.out).mono ?_
    rintro e w4 ⟨rfl, hS4, k4⟩
    have HS4 := xmA hS4
    have hK4 : xaa (fun b => b = sb) w w4 := HK.out.trans2 (T := fun b => b = sb) (xaa.trans (K2.out.mono (fun _ _ h => h.elim)) k4) (fun i hi e => e)
    have HO4 := xmA (xaV HO.out ((K2.out.mono (T := fun b => b = sb) (fun _ _ h => h.elim)).trans k4) (fun b hb => by omega))
    have HK4 := xmA hK4
    have hs4 := hK4.size
    clear hS4 k4 hK4
    have HN := xmA (xjn w4 (.cells #[.int .i64 n1, .int .i64 p1, .string ⟨tx.toArray⟩] 39) [.int .i64 n1, .int .i64 p1, .string ⟨tx.toArray⟩] 39)
    go_wp2_with (at_builtin; refine wpList_append_lies _ rfl (.tmp 50) (.tmp 52) 61 rfl w.heap.size 39 i0 _ 3 32 Tryz.underlying61 hi hz0 hz1 hz2 rfl (by decide) _ acc.length (cellsOf 3 xbe acc) rfl (xac (xac HO4.out _) _) ⟨w4.heap.size + 1, 0, none⟩ 1 1 [.int .i64 n1, .int .i64 p1, .string ⟨tx.toArray⟩] rfl rfl HN.out (by simp [Value.oneCell']) (by decide) (by unfold maxLen; omega) (by omega) (by simp; omega) _ rfl ?_)
    intro g cap9 w9 hown9 hgrow9 hat9 hlt9
    have HO9 : Hid (w9.ownsRow w.heap.size 39 3 (.slice (some ⟨g, 0, none⟩) (acc.length + 1) cap9) (acc ++ [(⟨n1, p1, tx⟩ : Rc)]).length (cellsOf 3 xbe (acc ++ [(⟨n1, p1, tx⟩ : Rc)]))) := xmA (by
     have e1 : cellsOf 3 xbe (acc ++ [(⟨n1, p1, tx⟩ : Rc)]) = cellsOf 3 xbe acc ++ [.int .i64 n1, .int .i64 p1, .string ⟨tx.toArray⟩] := by rw [xai]; rfl
     rw [e1]; simpa using hown9)
    have kg : xaa (fun b => w.heap.size ≤ b) w4 w9 := (((xaa.refl (fun b => w.heap.size ≤ b) w4).alloc _).alloc _).grown hgrow9 (fun b hb => Or.inl (xab HO.out b hb))
    have HS9 := xmA (HS4.out.keeps kg (by show ¬ w.heap.size ≤ sb; omega))
    have HK9 : Hid (xaa (fun b => b = sb) w w9) := xmA (HK4.out.trans2 kg (fun i hi e => by omega))
    clear hown9 hgrow9 hat9 kg
    go_wp2_with fail
    go_roundw
    case rel => exact ⟨hd, n1 + 1, p1 + (k + 1), acc ++ [⟨n1, p1, tx⟩], HS9.out, HF.out, HO9.out, HK9.out, by simp; omega, by omega, by omega⟩
    case measure => rw [HS9.out.lenW, HLW.out]; omega
  have HC := xmA (fun W => cut_no h W (by omega) hn1)
  have hre := xbZ most h n1 p1 hn1
  have hww : IntKind.i64.wrap ((most : Int) + 1) = (most : Int) + 1 := IntWalk.i64_in _ (by omega)
  clear hn1
  unfold strL at HC
  by_cases hbig : most + 1 < h.length
  · rw [if_pos (Or.inl hbig)] at hre
    have HF : Hid (splA most L n p = (acc, 10, [], n1, p1)) := xmA (by rw [HSP.out, hre]; simp)
    have HE := xmA (fun (W : World) (K : xaa (fun _ => False) wr W) => xev sb most h n1 p1 false W (HS.out.keeps K id))
    have g1 : decide ((most : Int) + 1 < (h.length : Int)) = true := by simp; omega
    clear hre HSP
    go_wp2_with fail
    refine (HC.out _).mono ?_
    rintro e w2 ⟨rfl, k2⟩
    have K2 := xmA k2
    have d0 := k2.cell c0 id
    have d1 := k2.cell c1 id
    clear k2
    go_wp2_with fail
    refine (HE.out _ K2.out).mono ?_
    rintro e w4 ⟨rfl, hS4, k4⟩
    have HS4 := xmA hS4
    have HK4 : Hid (xaa (fun b => b = sb) w w4) := xmA (HK.out.trans2 (T := fun b => b = sb) (xaa.trans (K2.out.mono (fun _ _ h => h.elim)) k4) (fun i hi e => e))
    have HO4 := xmA (xaV HO.out ((K2.out.mono (T := fun b => b = sb) (fun _ _ h => h.elim)).trans k4) (fun b hb => by omega))
    clear hS4 k4
    go_wp2_with fail
    go_ret2
    rw [HF.out]
    exact ⟨_, rfl, HO4.out, HS4.out, HK4.out⟩
  by_cases heq : h.length = most + 1
  · obtain ⟨x, hx⟩ : ∃ x, h[most]? = some x := ⟨_, List.getElem?_eq_getElem (by omega)⟩
    have ix := idxC hx
    have hw2 : IntKind.i64.wrap ((most : Int) + 1 - 1) = (most : Int) := by rw [show (most : Int) + 1 - 1 = most by omega]; exact IntWalk.i64_in _ (by omega)
    have hw3 : IntKind.i64.wrap (most : Int) = (most : Int) := IntWalk.i64_in _ (by omega)
    by_cases hx13 : x = 13
    · subst hx13
      rw [if_neg (by rw [heq, Nat.add_sub_cancel, hx]; simp)] at hre
      have HF : Hid (splA most L n p = (acc, 0, h, n1, p1)) := xmA (by rw [HSP.out, hre]; simp)
      clear hre HSP hx
      go_wp2_with fail
      refine (HC.out _).mono ?_
      rintro e w2 ⟨rfl, k2⟩
      have K2 := xmA k2
      have d0 := k2.cell c0 id
      have d1 := k2.cell c1 id
      clear k2
      go_wp2_with fail
      go_ret2
      rw [HF.out]
      exact ⟨_, rfl, xaV HO.out K2.out (fun b hb => hb.elim), HS.out.keeps K2.out id, HK.out.trans2 K2.out (fun i hi e => e.elim)⟩
    have gx : ((x.toNat : Int) != 13) = true := by rw [bne_iff_ne]; intro e; exact hx13 (UInt8.toNat_inj.1 (by show x.toNat = 13; omega))
    rw [if_pos (Or.inr ⟨heq, by rw [heq, Nat.add_sub_cancel, hx]; simpa using hx13⟩)] at hre
    have HF : Hid (splA most L n p = (acc, 10, [], n1, p1)) := xmA (by rw [HSP.out, hre]; simp)
    have HE := xmA (fun (W : World) (K : xaa (fun _ => False) wr W) => xev sb most h n1 p1 false W (HS.out.keeps K id))
    clear hre HSP hx
    go_wp2_with fail
    refine (HC.out _).mono ?_
    rintro e w2 ⟨rfl, k2⟩
    have K2 := xmA k2
    have d0 := k2.cell c0 id
    have d1 := k2.cell c1 id
    clear k2
    go_wp2_with fail
    refine (HE.out _ K2.out).mono ?_
    rintro e w4 ⟨rfl, hS4, k4⟩
    have HS4 := xmA hS4
    have HK4 : Hid (xaa (fun b => b = sb) w w4) := xmA (HK.out.trans2 (T := fun b => b = sb) (xaa.trans (K2.out.mono (fun _ _ h => h.elim)) k4) (fun i hi e => e))
    have HO4 := xmA (xaV HO.out ((K2.out.mono (T := fun b => b = sb) (fun _ _ h => h.elim)).trans k4) (fun b hb => by omega))
    clear hS4 k4
    go_wp2_with fail
    go_ret2
    rw [HF.out]
    exact ⟨_, rfl, HO4.out, HS4.out, HK4.out⟩
  rw [if_neg (by omega)] at hre
  have HF : Hid (splA most L n p = (acc, 0, h, n1, p1)) := xmA (by rw [HSP.out, hre]; simp)
  have g1 : decide ((most : Int) + 1 < (h.length : Int)) = false := by simp; omega
  have g2 : ((h.length : Int) == (most : Int) + 1) = false := by rw [beq_eq_false_iff_ne]; omega
  clear hre HSP
  go_wp2_with fail
  refine (HC.out _).mono ?_
  rintro e w2 ⟨rfl, k2⟩
  have K2 := xmA k2
  have d0 := k2.cell c0 id
  have d1 := k2.cell c1 id
  clear k2
  go_wp2_with fail
  go_ret2
  rw [HF.out]
  exact ⟨_, rfl, xaV HO.out K2.out (fun b hb => hb.elim), HS.out.keeps K2.out id, HK.out.trans2 K2.out (fun i hi e => e.elim)⟩
def sclP (most : Nat) (h : List UInt8) (n p : Nat) : List Rc × Int := if h = [] then ([], 0) else if most < h.length then ([], 10) else ([⟨n, p, h⟩], 0)
def ScE (r : List Rc × Int) (sb : Nat) (w : World) (e : Ending) (w' : World) : Prop :=
 ∃ v, e = .returned (.tuple #[v, .int .i64 r.2]) ∧ w'.ownsRow w.heap.size 39 3 v r.1.length (cellsOf 3 xbe r.1) ∧ xaa (fun b => b = sb) w w'
set_option maxHeartbeats 8000000 in
theorem xg9 (sb most : Nat) (n p : Nat) (w : World) (H : xaT w sb most [] n p false) :
 Calls Tryz.prog 42 #[.pointer (some ⟨sb, 0, none⟩)] w (ScE (sclP most [] n p) sb w) := by
 obtain ⟨c0, c1, c2, c3, c4, fz, hlt⟩ := H.cells
 have HE := xmA (xev sb most [] n p false w H)
 have HP : Hid (sclP most [] n p = ([], 0)) := xmA rfl
 clear fz H
 go_enter Tryz.func42, Tryz.ntmps42
 go_wp2_with fail
 refine HE.out.mono ?_
 rintro e w2 ⟨rfl, hS, k2⟩
 have K2 := xmA k2
 clear hS k2
 go_wp2_with fail
 go_ret2
 rw [HP.out]
 exact ⟨_, rfl, ⟨rfl, Or.inl ⟨rfl, rfl⟩⟩, K2.out⟩
theorem xfs (w : World) (l : List Value) (e : TypeId) (k : Nat) {base : Nat} (hl : l.length = k) (hb : base ≤ w.heap.size) : (w.alloc (.cells l.toArray e)).ownsRow base e k (.slice (some ⟨w.heap.size, 0, none⟩) 1 1) 1 l := by
 refine ⟨by simp; omega, Or.inr ⟨_, 1, l.toArray, rfl, hb, heap_alloc_new w _, Nat.le_refl _, by unfold maxLen; omega, by simp; omega, by simp [← hl]⟩⟩
def ClR (w : World) (sb most : Nat) (h' : List UInt8) (n' p' : Nat) (over : Bool) (x y z : Value) (er : Int) (v4 v5 : Value) (wc : World) : Prop :=
 ∃ B, v4 = .pointer (some ⟨B, 0, none⟩) ∧ w.heap.size ≤ B ∧ v5 = .int .i64 er ∧ wc.cell? ⟨B, 0, none⟩ = some x ∧ wc.cell? ⟨B, 1, none⟩ = some y ∧ wc.cell? ⟨B, 2, none⟩ = some z ∧ xaT wc sb most h' n' p' over ∧ xaa (fun b => b = sb) w wc
theorem ClR.after {w w' : World} {sb most : Nat} {h' : List UInt8} {n' p' : Nat} {over : Bool} {x y z : Value} {er : Int} {T : TypeId} (K : xaa (fun b => b = sb) w w') (hS : xaT w' sb most h' n' p' over) :
 ClR w sb most h' n' p' over x y z er (.pointer (some ⟨w'.heap.size, 0, none⟩)) (.int .i64 er) (w'.alloc (.cells #[x, y, z] T)) := by
 have hb := heap_alloc_new w' (.cells #[x, y, z] T)
 exact ⟨_, rfl, K.size, rfl, by rw [Lib.cell_of_heap hb]; rfl, by rw [Lib.cell_of_heap hb]; rfl, by rw [Lib.cell_of_heap hb]; rfl, hS.keeps ((xaa.refl (fun _ => False) _).alloc _) id, K.alloc _⟩
theorem ClR.ahead {w w' : World} {sb most : Nat} {h' : List UInt8} {n' p' : Nat} {over : Bool} {u0 u1 u2 x y z : Value} {er : Int} {T : TypeId} (hlt : sb < w.heap.size) (K : xaa (fun b => b = sb) w w') (hS : xaT w' sb most h' n' p' over) (hb : w'.heap[w.heap.size]? = some (.cells #[u0, u1, u2] T (0, 0))) :
 ClR w sb most h' n' p' over x y z er (.pointer (some ⟨w.heap.size, 0, none⟩)) (.int .i64 er) (((w'.setCell ⟨w.heap.size, 0, none⟩ x).setCell ⟨w.heap.size, 1, none⟩ y).setCell ⟨w.heap.size, 2, none⟩ z) := by
 obtain ⟨r0, r1, r2, kE⟩ := xf4 hb x y z
 exact ⟨_, rfl, Nat.le_refl _, rfl, r0, r1, r2, hS.keeps kE (by show ¬ sb = w.heap.size; omega), K.trans2 kE (fun i hi e => by omega)⟩
set_option maxHeartbeats 8000000 in
theorem xeV (sb most : Nat) (h : List UInt8) (n p : Nat) (x y : Int) (z : ByteArray) (er : Int) (h' : List UInt8) (n' p' : Nat) (over : Bool) (r : List Rc × Int) (w : World) (H : xaT w sb most h n p false) (h0 : h ≠ [])
 (HR : Hid (∀ W, xaa (fun _ => False) w W → Calls Tryz.prog 72 #[.pointer (some ⟨sb, 0, none⟩), .string ⟨h.toArray⟩, .int .i64 (h.length : Int)] W fun e w' => e = .returned (.tuple #[.agg #[.int .i64 x, .int .i64 y, .string z], .int .i64 er]) ∧ xaT w' sb most h' n' p' over ∧ xaa (fun b => b = sb) W w'))
 (hr : Hid ((er ≠ 0 ∧ r = ([], er)) ∨ (er = 0 ∧ r.2 = 0 ∧ r.1.length = 1 ∧ cellsOf 3 xbe r.1 = [.int .i64 x, .int .i64 y, .string z]))) :
 Calls Tryz.prog 42 #[.pointer (some ⟨sb, 0, none⟩)] w (ScE r sb w) := by
 obtain ⟨c0, c1, c2, c3, c4, fz, hlt⟩ := H.cells
 have hne : h.isEmpty = false := by cases h <;> simp_all
 clear fz H h0
 go_enter Tryz.func42, Tryz.ntmps42
 go_upto_region 4 with fail
 go_cut [4, 5] (fun v4 v5 wc => ClR w sb most h' n' p' over (.int .i64 x) (.int .i64 y) (.string z) er v4 v5 wc)
 case first =>
  go_region_with (first | (go_at_call 72; refine (HR.out _ (KI.out)).mono ?_; rintro e w' ⟨rfl, hS, hk⟩; try (have hb : w'.heap[w.heap.size]? = some (.cells #[.int .i64 0, .int .i64 0, .string ⟨#[]⟩] 39 (0, 0)) := hk.heap (by first | exact heap_alloc_new w _ | exact heap_alloc_new w.drew _) (by show ¬ w.heap.size = sb; omega); have z0 : w'.cell? ⟨w.heap.size, 0, none⟩ = some (.int .i64 0) := (by rw [Lib.cell_of_heap hb]; rfl); have z1 : w'.cell? ⟨w.heap.size, 1, none⟩ = some (.int .i64 0) := (by rw [Lib.cell_of_heap hb]; rfl); have z2 : w'.cell? ⟨w.heap.size, 2, none⟩ = some (.string ⟨#[]⟩) := (by rw [Lib.cell_of_heap hb]; rfl); have y0 : w'.frozen? ⟨w.heap.size, 0, none⟩ = false := Lib.frozen_of_heap hb 0; have y1 : w'.frozen? ⟨w.heap.size, 1, none⟩ = false := Lib.frozen_of_heap hb 1; have y2 : w'.frozen? ⟨w.heap.size, 2, none⟩ = false := Lib.frozen_of_heap hb 2)))
  all_goals
   have hkw : xaa (fun b => b = sb) w w' := xaa.trans (KI.out) hk
   go_wp2_with fail
   go_meet
   first | exact ClR.after hkw hS | exact ClR.ahead hlt hkw hS hb
 case rest =>
  obtain ⟨B, rfl, hB, rfl, r0, r1, r2, hS, hk⟩ := hcut
  have HE := xmA (xev sb most h' n' p' over wc hS)
  have HK := xmA hk
  have hBl := xan r0
  have hsz := hk.size
  clear hS hk
  rcases hr.out with ⟨he, hr⟩ | ⟨rfl, hr2, hr1, hrc⟩
  · have g1 : (er != 0) = true := by simpa using he
    have Hr := xmA hr
    clear hr he
    go_wp2_with fail
    refine HE.out.mono ?_
    rintro e w4 ⟨rfl, hS4, k4⟩
    have HK4 := xmA (HK.out.trans k4)
    clear hS4 k4 r0 r1 r2
    go_wp2_with fail
    go_ret2
    rw [Hr.out]
    exact ⟨_, rfl, ⟨rfl, Or.inl ⟨rfl, rfl⟩⟩, HK4.out⟩
  have Hr := xmA (And.intro hr2 (And.intro hr1 hrc))
  clear hr2 hr1 hrc
  go_wp2_with fail
  refine HE.out.mono ?_
  rintro e w4 ⟨rfl, hS4, k4⟩
  have q0 := k4.cell r0 (by show ¬ B = sb; omega)
  have q1 := k4.cell r1 (by show ¬ B = sb; omega)
  have q2 := k4.cell r2 (by show ¬ B = sb; omega)
  have hs4 := k4.size
  have HK4 := xmA (HK.out.trans k4)
  clear hS4 k4 r0 r1 r2
  go_wp2_with fail
  go_ret2
  obtain ⟨e1, e2, e3⟩ := Hr.out
  unfold ScE
  rw [e1, e2, e3]
  exact ⟨_, rfl, xfs w4 [.int .i64 x, .int .i64 y, .string z] _ 3 rfl (by omega), HK4.out.trans (KI.out)⟩
theorem xiG (sb most : Nat) (h : List UInt8) (n p : Nat) (w : World) (H : xaT w sb most h n p false) (hl : h.length ≤ 100000) (hn : n ≤ 100000000) (hp : p ≤ 100000000) (hm : most ≤ 100000) :
 Calls Tryz.prog 42 #[.pointer (some ⟨sb, 0, none⟩)] w (ScE (sclP most h n p) sb w) := by
 by_cases h0 : h = []
 · subst h0; exact xg9 sb most n p w H
 by_cases hlo : most < h.length
 · exact xeV sb most h n p 0 0 ⟨#[]⟩ 10 [] n p true _ w H h0 (xmA (fun W K => xee sb most h h n p (h.length : Int) W (H.keeps K id) hlo)) (xmA (Or.inl ⟨by decide, by unfold sclP; rw [if_neg h0, if_pos hlo]⟩))
 refine xeV sb most h n p n p ⟨h.toArray⟩ 0 (h.drop h.length) (n + 1) (p + h.length) false _ w H h0 (xmA (fun W K => xge sb most h h n p h.length W (H.keeps K id) (by omega) (Nat.le_refl _) (by omega) (by omega) (by omega))) (xmA (Or.inr ⟨rfl, ?_⟩))
 unfold sclP
 rw [if_neg h0, if_neg hlo]
 exact ⟨rfl, rfl, rfl⟩
set_option maxHeartbeats 4000000 in
theorem xhS (most : Nat) (w : World) (h1 : 1 ≤ most) (h2 : most ≤ 4096) :
 Calls Tryz.prog 37 #[.int .i64 most] w fun e w' => ∃ sb, e = .returned (.tuple #[.pointer (some ⟨sb, 0, none⟩), .int .i64 0]) ∧ w.heap.size ≤ sb ∧ xaT w' sb most [] 0 0 false ∧ xaa (fun _ => False) w w' := by
 have g1 : decide ((most : Int) < 1) = false := by simp; omega
 have g2 : decide ((4096 : Int) < (most : Int)) = false := by simp; omega
 go_enter Tryz.func37, Tryz.ntmps37
 go_wp2_with fail
 go_ret2
 exact ⟨_, rfl, Nat.le_refl _, heap_alloc_new w _, KI.out⟩
theorem xdW : (Tryz.prog.info? 9).map (fun i => (i.zero, i.size, i.bytes)) = some (some (.string ⟨#[]⟩), 1, 16) := by kernel_rfl
def hitL (n : Nat) (t : List UInt8) (p : Int × Int) : List UInt8 := Lib.itoa (n : Int) ++ [58] ++ Lib.itoa p.1 ++ [45] ++ Lib.itoa p.2 ++ [58] ++ (t.take p.2.toNat).drop p.1.toNat
def xew (r : Rc) (l : List (Int × Int)) : List (List UInt8) := l.map (hitL r.n r.text)
def EaE (q : List (List UInt8)) (w : World) (e : Ending) (w' : World) : Prop := ∃ v, e = .returned v ∧ w'.ownsRow w.heap.size 9 1 v q.length (q.map strL) ∧ xaa (fun _ => False) w w'
theorem extr_ab (l : List UInt8) (a b : Nat) : (⟨l.toArray⟩ : ByteArray).extract a b = ⟨((l.take b).drop a).toArray⟩ := by
 apply ByteArray.ext
 simp [ByteArray.data_extract, List.extract_eq_take_drop, List.drop_take]
set_option maxHeartbeats 8000000 in
theorem xl4 (r : Rc) (l : List (Int × Int)) (v : Value) (w : World) (h : SlOf 2 encR w v l) (hl : l.length ≤ 5000) (hin : InT r.text.length l) (hn : r.n ≤ 1000000) (ht : r.text.length ≤ 100000) (hT : TabW w) :
 Calls Tryz.prog 50 #[rcV r, v] w (EaE (xew r l) w) := by
 obtain ⟨i0, hi, hz0, hz1, hz2⟩ := info_parts xdW
 have HI := xmA hin
 have HT := xmA hT
 obtain ⟨a, cap, rfl, hcap, hl2, hcl⟩ := h
 have Hc := xmA hcl
 obtain ⟨n, at', tx⟩ := r
 unfold rcV xew
 simp only at hn ht HI ⊢
 clear hcl hin hT
 go_enter Tryz.func50, Tryz.ntmps50
 go_wp2_with fail
 go_loopw [5, 10] (fun ov iv wr => ∃ i : Nat, iv = .int .i64 i ∧ i ≤ l.length ∧ wr.ownsRow (w.heap.size + 1) 9 1 ov ((l.take i).map (hitL n tx)).length (((l.take i).map (hitL n tx)).map strL) ∧ xaa (fun _ => False) w wr ∧ wr.cell? ⟨w.heap.size, 0, none⟩ = some (.int .i64 n) ∧ wr.cell? ⟨w.heap.size, 2, none⟩ = some (.string ⟨tx.toArray⟩)) (fun _ iv _ => l.length - (intOf iv).toNat)
 case atStart => exact ⟨0, rfl, Nat.zero_le _, World.ownsRow_nil _ _ _ _, KI.out, by simp [go_sem], by simp [go_sem]⟩
 case round =>
  obtain ⟨i, rfl, hi', hO, hkw, r0, r2⟩ := hrel
  obtain ⟨oa, oc, rfl⟩ := xad hO
  have HO := xmA hO
  have HK := xmA hkw
  clear hO
  by_cases hil : i < l.length
  · obtain ⟨b, off, rfl, hcc⟩ := Hc.out (by omega)
    obtain ⟨p, hp⟩ : ∃ p, l[i]? = some p := ⟨_, List.getElem?_eq_getElem hil⟩
    have c0 := hkw.cell (hcc i p hp 0 (by omega)) id
    have c1 := hkw.cell (hcc i p hp 1 (by omega)) id
    simp only [Nat.add_zero, encR, if_true, Nat.one_ne_zero, if_false] at c0 c1
    have hpp := HI.out p (List.mem_of_getElem? hp)
    have htk : l.take (i + 1) = l.take i ++ [p] := by rw [List.take_add_one, hp]; rfl
    have HTk := xmA htk
    have hlt := (List.getElem?_eq_some_iff.1 hp).1
    clear hcc hp htk
    obtain ⟨p1, p2⟩ := p
    simp only at c0 c1 hpp
    obtain ⟨x, rfl⟩ := Int.eq_ofNat_of_zero_le hpp.1
    obtain ⟨y, rfl⟩ := Int.eq_ofNat_of_zero_le (Int.le_trans hpp.1 hpp.2.1)
    have hxy : x ≤ y := by have := hpp.2.1; omega
    have hyt : y ≤ tx.length := by have := hpp.2.2; omega
    have E := xmA (extr_ab tx x y)
    have hacl : ((l.take i).map (hitL n tx)).length ≤ 5000 := by rw [List.length_map, List.length_take]; omega
    have hsz := hkw.size
    obtain ⟨acc, hacc⟩ : ∃ acc, (l.take i).map (hitL n tx) = acc := ⟨_, rfl⟩
    rw [hacc] at HO hacl
    rw [hacc]
    have HA := xmA hacc
    clear hacc hpp
    obtain ⟨w1, hw1⟩ : ∃ W, wr.alloc (.cells #[.int .i64 (x : Int), .int .i64 (y : Int)] 99) = W := ⟨_, rfl⟩
    have hkr : xaa (fun _ => False) wr w1 := by rw [← hw1]; exact (xaa.refl _ _).alloc _
    have hs1 : w1.heap.size = wr.heap.size + 1 := by rw [← hw1]; simp
    have z0 : w1.cell? ⟨wr.heap.size, 0, none⟩ = some (.int .i64 (x : Int)) := by rw [← hw1]; simp [go_sem]
    have z1 : w1.cell? ⟨wr.heap.size, 1, none⟩ = some (.int .i64 (y : Int)) := by rw [← hw1]; simp [go_sem]
    have y0 := hkr.cell r0 id
    have y2 := hkr.cell r2 id
    have HO1 := xmA (xcl HO.out hkr)
    have HK1 := xmA (HK.out.trans hkr)
    have HT1 := xmA (HT.out.keeps HK1.out)
    have HNum : Hid (∀ (z : Int) (W : World), (z = (n : Int) ∨ z = (x : Int) ∨ z = (y : Int)) → xaa (fun _ => False) w1 W → Calls Tryz.prog 52 #[.int .i64 z] W fun e w' => e = .returned (.string ⟨(Lib.itoa z).toArray⟩) ∧ xaa (fun _ => False) w1 w') := xmA (fun z W hz K =>
     (xb5 z W (by unfold in64; rcases hz with rfl | rfl | rfl <;> omega) (HT1.out.keeps K)).mono fun e w' h => ⟨h.1, K.trans h.2⟩)
    have hlx : (Lib.itoa (n : Int)).length ≤ 21 := Lib.itoa_length_le _ (by omega) (by omega)
    have hly : (Lib.itoa (x : Int)).length ≤ 21 := Lib.itoa_length_le _ (by omega) (by omega)
    have hlz : (Lib.itoa (y : Int)).length ≤ 21 := Lib.itoa_length_le _ (by omega) (by omega)
    have hD : ((tx.take y).drop x).length ≤ 100000 := by rw [List.length_drop, List.length_take]; omega
    have HH : Hid (hitL n tx ((x : Int), (y : Int)) = Lib.itoa (n : Int) ++ [58] ++ Lib.itoa (x : Int) ++ [45] ++ Lib.itoa (y : Int) ++ [58] ++ (tx.take y).drop x) := xmA rfl
    have E1 := E.out
    generalize (tx.take y).drop x = D at *
    have s1 : ¬ (9223372036854775807 < (Lib.itoa (n : Int)).length + 1) := by omega
    have s2 : ¬ (9223372036854775807 < (Lib.itoa (n : Int)).length + 1 + (Lib.itoa (x : Int)).length) := by omega
    have s3 : ¬ (9223372036854775807 < (Lib.itoa (n : Int)).length + 1 + (Lib.itoa (x : Int)).length + 1) := by omega
    have s4 : ¬ (9223372036854775807 < (Lib.itoa (n : Int)).length + 1 + (Lib.itoa (x : Int)).length + 1 + (Lib.itoa (y : Int)).length) := by omega
    have s5 : ¬ (9223372036854775807 < (Lib.itoa (n : Int)).length + 1 + (Lib.itoa (x : Int)).length + 1 + (Lib.itoa (y : Int)).length + 1) := by omega
    have s6 : ¬ (9223372036854775807 < (Lib.itoa (n : Int)).length + 1 + (Lib.itoa (x : Int)).length + 1 + (Lib.itoa (y : Int)).length + 1 + D.length) := by omega
    have t1 : (x : Int) ≤ (y : Int) := by omega
    have t2 : (y : Int) ≤ (tx.length : Int) := by omega
    go_upto_region 5 with fail
    have HS : ∀ w', xaa (fun b => w.heap.size + 1 ≤ b ∧ b < wr.heap.size) w1 w' → w'.cell? ⟨w.heap.size, 0, none⟩ = some (.int .i64 (n : Int)) ∧ w'.cell? ⟨w.heap.size, 2, none⟩ = some (.string ⟨tx.toArray⟩) ∧ w'.cell? ⟨wr.heap.size, 0, none⟩ = some (.int .i64 (x : Int)) ∧ w'.cell? ⟨wr.heap.size, 1, none⟩ = some (.int .i64 (y : Int)) ∧ xaa (fun b => w.heap.size + 1 ≤ b ∧ b < wr.heap.size) w1 w' := fun w' K =>
     ⟨K.cell y0 (by show ¬ (_ ≤ w.heap.size ∧ _); omega), K.cell y2 (by show ¬ (_ ≤ w.heap.size ∧ _); omega), K.cell z0 (by show ¬ (_ ∧ wr.heap.size < wr.heap.size); omega), K.cell z1 (by show ¬ (_ ∧ wr.heap.size < wr.heap.size); omega), K⟩
    have hk0 : xaa (fun _ => False) w1 w1.drew := (xaa.refl _ _).drew
    go_region_held3 (fun w' => w'.cell? ⟨w.heap.size, 0, none⟩ = some (.int .i64 (n : Int)) ∧ w'.cell? ⟨w.heap.size, 2, none⟩ = some (.string ⟨tx.toArray⟩) ∧ w'.cell? ⟨wr.heap.size, 0, none⟩ = some (.int .i64 (x : Int)) ∧ w'.cell? ⟨wr.heap.size, 1, none⟩ = some (.int .i64 (y : Int)) ∧ xaa (fun b => w.heap.size + 1 ≤ b ∧ b < wr.heap.size) w1 w')
     (first | exact HS _ (hk0.mono (fun _ _ h => h.elim)) | exact HS _ (xaa.mono (by assumption : xaa (fun _ => False) w1 _) (fun _ _ h => h.elim)) | exact HS _ ((xaa.mono (by assumption : xaa (fun _ => False) w1 _) (fun _ _ h => h.elim)).alloc _) | exact HS _ kC)
     (first
       | (go_at_call 52; refine (HNum.out _ _ ?_ ?_).mono ?_; (first | exact Or.inl rfl | exact Or.inr (Or.inl rfl) | exact Or.inr (Or.inr rfl)); (first | exact hk0 | assumption); rintro e w' ⟨rfl, hkn⟩)
       | (refine step_append_lies _ (by rfl) (.tmp 14) (.tmp 37) 28 (by rfl) (w.heap.size + 1) 9 i0 _ 1 16 Tryz.underlying28 hi hz0 hz1 hz2 rfl (by omega) _ acc.length (acc.map strL) (by rfl) (xac (xcl HO1.out (by assumption : xaa (fun _ => False) w1 _)) _) ⟨_, 0, none⟩ 1 1 [_] (by rfl) (by rfl) (by exact xak _ [_] _) (by intro u hu; simp at hu; subst hu; rfl) (by omega) (by unfold maxLen; omega) (by omega) (by have := (by assumption : xaa (fun _ => False) w1 _).size; simp; omega) _ rfl ?_; intro gg cap9 wC hownC hgrow hat hltC; have kC : xaa (fun b => w.heap.size + 1 ≤ b ∧ b < wr.heap.size) w1 wC := ((xaa.mono (by assumption : xaa (fun _ => False) w1 _) (fun _ _ h => h.elim)).alloc _).grown hgrow (fun b hb => Or.inl ⟨xab HO.out b hb, xax HO.out b hb⟩)))
    have HOC := xmA hownC
    have HKC : Hid (xaa (fun _ => False) w wC) := xmA (HK1.out.trans2 kC (fun i hi e => by omega))
    have q0 := kC.cell y0 (by show ¬ (_ ≤ w.heap.size ∧ _); omega)
    have q2 := kC.cell y2 (by show ¬ (_ ≤ w.heap.size ∧ _); omega)
    clear hownC hgrow hat kC
    go_wp2_with fail
    go_roundw
    case rel =>
     refine ⟨i + 1, by go_num, by omega, ?_, HKC.out, q0, q2⟩
     have e1 : Value.string ((⟨(Lib.itoa (n : Int)).toArray⟩ : ByteArray) ++ ⟨#[58]⟩ ++ ⟨(Lib.itoa (x : Int)).toArray⟩ ++ ⟨#[45]⟩ ++ ⟨(Lib.itoa (y : Int)).toArray⟩ ++ ⟨#[58]⟩ ++ ⟨D.toArray⟩) = strL (hitL n tx ((x : Int), (y : Int))) := by
      rw [HH.out]
      unfold strL
      refine congrArg Value.string ?_
      apply ByteArray.ext
      simp
     have h9 := HOC.out
     rw [e1] at h9
     rw [HTk.out, List.map_append, HA.out, List.map_append (f := strL), List.length_append]
     exact h9
    case measure => simp [intOf]; omega
  go_wp2_with fail
  go_ret
  have : l.take i = l := List.take_of_length_le (by omega)
  have HO' := HO.out
  rw [this] at HO' ⊢
  exact ⟨_, rfl, xag HO' (by omega), HK.out⟩
end Go.Proofs.YtjahiihmoglpfaaGreatDoor
