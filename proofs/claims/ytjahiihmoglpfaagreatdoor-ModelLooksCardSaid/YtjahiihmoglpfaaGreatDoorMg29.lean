/-
  Several texts in one: The teller's Add, End, Enough, New. A job by value; model's between, fails, Looked.
-/
import Derived.Test.YtjahiihmoglpfaaGreatDoorMoCiG
namespace Go.Proofs.YtjahiihmoglpfaaGreatDoor
open Go.RowKit
set_option linter.unusedVariables false
set_option linter.unusedSimpArgs false
set_option maxRecDepth 100000
def addP (t : Tel) (r : Rc) (l : List (Int × Int)) : List (List UInt8) × Tel :=
 if t.over then ([], t)
 else if t.tell = 0 then (xew r l, t)
 else if t.tell = 3 then ctxP t r (decide (0 < l.length))
 else if l.length = 0 then ([], t)
 else if t.tell = 1 then ([Lib.itoa (r.n : Int) ++ [58] ++ r.text], { t with over := true, enough := true })
 else ([], { t with records := t.records + 1, hits := t.hits + l.length })
theorem TelC.first {w : World} {tb : Nat} {t : Tel} {hv : Value} (h : TelC w tb t hv) : TelC ((w.setCell ⟨tb, 9, none⟩ (.bool true)).setCell ⟨tb, 10, none⟩ (.bool true)) tb { t with over := true, enough := true } hv := by
 refine ⟨?_, h.ne⟩
 have := h.bk
 simp [World.setCell, Array.getElem?_modify, this]
theorem TelC.count {w : World} {tb : Nat} {t : Tel} {hv : Value} (h : TelC w tb t hv) (a b : Nat) : TelC ((w.setCell ⟨tb, 3, none⟩ (.int .i64 (a : Int))).setCell ⟨tb, 4, none⟩ (.int .i64 (b : Int))) tb { t with records := a, hits := b } hv := by
 refine ⟨?_, h.ne⟩
 have := h.bk
 simp [World.setCell, Array.getElem?_modify, this]
set_option maxHeartbeats 8000000 in
theorem xmm (t : Tel) (r : Rc) (l : List (Int × Int)) (tb : Nat) (hv u : Value) (w : World) (H : TelC w tb t hv) (hh : xba w hv t.held) (ho : t.over = true) :
 Calls Tryz.prog 25 #[.pointer (some ⟨tb, 0, none⟩), rcV r, u] w (CtE (addP t r l) tb hv w) := by
 obtain ⟨c0, c1, c2, c3, c4, c5, c6, c7, c8, c9, c10⟩ := H.c
 rw [ho] at c9
 clear c0 c1 c2 c3 c4 c5 c6 c7 c8 c10
 have HP : Hid (addP t r l = ([], t)) := xmA (by unfold addP; rw [if_pos ho])
 have HC := xmA H
 have HH := xmA hh
 have hlb := H.lt
 unfold rcV CtE
 generalize addP t r l = P at *
 clear H hh ho
 go_enter Tryz.func25, Tryz.ntmps25
 go_wp2_with fail
 go_ret
 rw [HP.out]
 have k1 : xaa (fun _ => False) w (w.alloc (.cells #[.int .i64 r.n, .int .i64 r.at', .string ⟨r.text.toArray⟩] 39)) := (xaa.refl _ _).alloc _
 exact ⟨_, hv, rfl, World.ownsRow_nil _ _ _ _, HC.out.keeps k1 id, HH.out.keeps k1 (fun _ _ => id), fun b hb => Or.inl hb, fun b _ => by simp [Value.ownBlock], k1.mono (fun _ _ h => h.elim)⟩
set_option maxHeartbeats 16000000 in
theorem add_all (t : Tel) (r : Rc) (l : List (Int × Int)) (tb : Nat) (hv u : Value) (w : World) (H : TelC w tb t hv) (hh : xba w hv t.held) (hlt : ∀ b, hv.ownBlock = some b → b < w.heap.size ∧ b ≠ tb) (hok : xeF t) (hT : TabW w) (hn : r.n ≤ 1000000) (ht : r.text.length ≤ 100000)
 (hu : SlOf 2 encR w u l) (hl : l.length ≤ 5000) (hin : InT r.text.length l) (ho : t.over = false) (hte : t.tell = 0) :
 Calls Tryz.prog 25 #[.pointer (some ⟨tb, 0, none⟩), rcV r, u] w (CtE (addP t r l) tb hv w) := by
 obtain ⟨c0, c1, c2, c3, c4, c5, c6, c7, c8, c9, c10⟩ := H.c
 rw [ho] at c9
 have HP : Hid (addP t r l = (xew r l, t)) := xmA (by unfold addP; rw [if_neg (by rw [ho]; simp), if_pos hte])
 have HC := xmA H
 have HH := xmA hh
 have HL := xmA hlt
 have HT := xmA hT
 have HOk := xmA hok
 have hlb := H.lt
 have HCl := xmA (fun (W : World) (K : xaa (fun _ => False) w W) => xb1 l u W (hu.keep K) hl)
 have HDl := xmA (fun (v : Value) (s : ByteArray) (c : Nat) (W : World) (h : SlOf 2 encR W v l) (hc : W.cell? ⟨c, 2, none⟩ = some (.string s)) (hs : s.size = r.text.length) => xdk l v r.text.length s c W h hc hs hin)
 obtain ⟨ua, uc, rfl, _, _, _⟩ := hu
 obtain ⟨w1, hw1⟩ : ∃ W, w.alloc (.cells #[.int .i64 (r.n : Int), .int .i64 (r.at' : Int), .string ⟨r.text.toArray⟩] 39) = W := ⟨_, rfl⟩
 have hk1 : xaa (fun _ => False) w w1 := by rw [← hw1]; exact (xaa.refl _ _).alloc _
 have hs1 : w.heap.size + 1 ≤ w1.heap.size := by rw [← hw1]; simp
 have z0 : w1.cell? ⟨w.heap.size, 0, none⟩ = some (.int .i64 (r.n : Int)) := by rw [← hw1]; simp [go_sem]
 have z1 : w1.cell? ⟨w.heap.size, 1, none⟩ = some (.int .i64 (r.at' : Int)) := by rw [← hw1]; simp [go_sem]
 have z2 : w1.cell? ⟨w.heap.size, 2, none⟩ = some (.string ⟨r.text.toArray⟩) := by rw [← hw1]; simp [go_sem]
 have HK1 := xmA hk1
 have HW1 := xmA hw1
 have HIn := xmA hin
 unfold rcV CtE
 generalize addP t r l = P at *
 clear H hh hlt hok hT ho hk1 hw1 c0 c1 c2 c3 c4 c5 c6 c7 c8 c10 hin
 go_enter Tryz.func25, Tryz.ntmps25
 go_wp2_with fail
 rw [HW1.out]
 refine (HCl.out _ HK1.out).mono ?_
 rintro e w2 ⟨uv, rfl, hO2, k2⟩
 have hSl := SlOf.ofOwn hO2 (by omega)
 have HD2 := xmA (HDl.out uv ⟨r.text.toArray⟩ w.heap.size w2 hSl (k2.cell z2 id) (by show r.text.toArray.size = _; simp))
 have HSl := xmA hSl
 have HO2 := xmA hO2
 have K2 := xmA (HK1.out.trans k2)
 have hs2 := k2.size
 have q0 := k2.cell z0 id
 have q1 := k2.cell z1 id
 have q2 := k2.cell z2 id
 obtain ⟨va, vc, rfl⟩ := xad hO2
 clear hSl hO2 k2 z0 z1 z2 c9
 go_wp2_with fail
 refine HD2.out.mono ?_
 rintro e w3 ⟨rfl, k3⟩
 have K3 := xmA (K2.out.trans k3)
 have HC3 := xmA (HC.out.keeps K3.out id)
 have HSl3 := xmA (HSl.out.keep k3)
 have hs3 := k3.size
 have p0 := k3.cell q0 id
 have p1 := k3.cell q1 id
 have p2 := k3.cell q2 id
 obtain ⟨c0, c1, c2, c3, c4, c5, c6, c7, c8, c9, c10⟩ := HC3.out.c
 have hlb3 := HC3.out.lt
 clear k3 q0 q1 q2 c1 c2 c5 c6 c7 c8 c9 c10
 rw [hte] at c0
 have HE := xmA (xl4 r l _ w3 HSl3.out hl HIn.out hn ht (HT.out.keeps K3.out))
 unfold EaE rcV at HE
 clear hte c3 c4
 generalize xew r l = q at *
 go_wp2_with fail
 refine HE.out.mono ?_
 rintro e w4 ⟨v, rfl, hO4, k4⟩
 have HO4 := xmA hO4
 have K4 := xmA (K3.out.trans k4)
 have HC4 := xmA (HC3.out.keeps k4 id)
 have hs4 := k4.size
 clear hO4 k4
 go_wp2_with fail
 go_ret
 rw [HP.out]
 exact ⟨_, hv, rfl, xag HO4.out (by omega), HC4.out, HH.out.keeps K4.out (fun _ _ => id), fun b hb => Or.inl hb, fun b hb e => by have := xab HO4.out b e; have := (HL.out b hb).1; omega, K4.out.mono (fun _ _ h => h.elim)⟩
set_option maxHeartbeats 16000000 in
theorem add_ctx (t : Tel) (r : Rc) (l : List (Int × Int)) (tb : Nat) (hv u : Value) (w : World) (H : TelC w tb t hv) (hh : xba w hv t.held) (hlt : ∀ b, hv.ownBlock = some b → b < w.heap.size ∧ b ≠ tb) (hok : xeF t) (hT : TabW w) (hn : r.n ≤ 1000000) (ht : r.text.length ≤ 100000)
 (hu : SlOf 2 encR w u l) (hl : l.length ≤ 5000) (hin : InT r.text.length l) (ho : t.over = false) (hte : t.tell = 3) :
 Calls Tryz.prog 25 #[.pointer (some ⟨tb, 0, none⟩), rcV r, u] w (CtE (addP t r l) tb hv w) := by
 obtain ⟨c0, c1, c2, c3, c4, c5, c6, c7, c8, c9, c10⟩ := H.c
 rw [ho] at c9
 have HP : Hid (addP t r l = ctxP t r (decide (0 < l.length))) := xmA (by unfold addP; rw [if_neg (by rw [ho]; simp), if_neg (by rw [hte]; decide), if_pos hte])
 have HC := xmA H
 have HH := xmA hh
 have HL := xmA hlt
 have HT := xmA hT
 have HOk := xmA hok
 have hlb := H.lt
 have HCl := xmA (fun (W : World) (K : xaa (fun _ => False) w W) => xb1 l u W (hu.keep K) hl)
 have HDl := xmA (fun (v : Value) (s : ByteArray) (c : Nat) (W : World) (h : SlOf 2 encR W v l) (hc : W.cell? ⟨c, 2, none⟩ = some (.string s)) (hs : s.size = r.text.length) => xdk l v r.text.length s c W h hc hs hin)
 obtain ⟨ua, uc, rfl, _, _, _⟩ := hu
 obtain ⟨w1, hw1⟩ : ∃ W, w.alloc (.cells #[.int .i64 (r.n : Int), .int .i64 (r.at' : Int), .string ⟨r.text.toArray⟩] 39) = W := ⟨_, rfl⟩
 have hk1 : xaa (fun _ => False) w w1 := by rw [← hw1]; exact (xaa.refl _ _).alloc _
 have hs1 : w.heap.size + 1 ≤ w1.heap.size := by rw [← hw1]; simp
 have z0 : w1.cell? ⟨w.heap.size, 0, none⟩ = some (.int .i64 (r.n : Int)) := by rw [← hw1]; simp [go_sem]
 have z1 : w1.cell? ⟨w.heap.size, 1, none⟩ = some (.int .i64 (r.at' : Int)) := by rw [← hw1]; simp [go_sem]
 have z2 : w1.cell? ⟨w.heap.size, 2, none⟩ = some (.string ⟨r.text.toArray⟩) := by rw [← hw1]; simp [go_sem]
 have HK1 := xmA hk1
 have HW1 := xmA hw1
 have HIn := xmA hin
 unfold rcV CtE
 generalize addP t r l = P at *
 clear H hh hlt hok hT ho hk1 hw1 c0 c1 c2 c3 c4 c5 c6 c7 c8 c10 hin
 go_enter Tryz.func25, Tryz.ntmps25
 go_wp2_with fail
 rw [HW1.out]
 refine (HCl.out _ HK1.out).mono ?_
 rintro e w2 ⟨uv, rfl, hO2, k2⟩
 have hSl := SlOf.ofOwn hO2 (by omega)
 have HD2 := xmA (HDl.out uv ⟨r.text.toArray⟩ w.heap.size w2 hSl (k2.cell z2 id) (by show r.text.toArray.size = _; simp))
 have HSl := xmA hSl
 have HO2 := xmA hO2
 have K2 := xmA (HK1.out.trans k2)
 have hs2 := k2.size
 have q0 := k2.cell z0 id
 have q1 := k2.cell z1 id
 have q2 := k2.cell z2 id
 obtain ⟨va, vc, rfl⟩ := xad hO2
 clear hSl hO2 k2 z0 z1 z2 c9
 go_wp2_with fail
 refine HD2.out.mono ?_
 rintro e w3 ⟨rfl, k3⟩
 have K3 := xmA (K2.out.trans k3)
 have HC3 := xmA (HC.out.keeps K3.out id)
 have HSl3 := xmA (HSl.out.keep k3)
 have hs3 := k3.size
 have p0 := k3.cell q0 id
 have p1 := k3.cell q1 id
 have p2 := k3.cell q2 id
 obtain ⟨c0, c1, c2, c3, c4, c5, c6, c7, c8, c9, c10⟩ := HC3.out.c
 have hlb3 := HC3.out.lt
 clear k3 q0 q1 q2 c1 c2 c5 c6 c7 c8 c9 c10
 rw [hte] at c0
 have HX := xmA (xhC t r (decide (0 < l.length)) tb hv w3 HC3.out (HH.out.keeps K3.out (fun _ _ => id)) (fun b hb => ⟨by have := (HL.out b hb).1; omega, (HL.out b hb).2⟩) HOk.out (HT.out.keeps K3.out) hn ht)
 unfold CtE rcV at HX
 clear hte c3 c4
 generalize ctxP t r (decide (0 < l.length)) = q at *
 have gd : decide ((0 : Int) < (l.length : Int)) = decide (0 < l.length) := by
  rw [Bool.eq_iff_iff]; simp
 go_wp2_with fail
 refine HX.out.mono ?_
 rintro e w4 ⟨v, hv', rfl, h1, h2, h3, h4, h5, h6⟩
 have HO4 := xmA h1
 have H2 := xmA h2
 have H3 := xmA h3
 have H4 := xmA h4
 have H5 := xmA h5
 have H6 := xmA h6
 clear h1 h2 h3 h4 h5 h6
 go_wp2_with fail
 go_ret
 rw [HP.out]
 exact ⟨_, hv', rfl, xag HO4.out (by omega), H2.out, H3.out, fun b hb => (H4.out b hb).imp id (fun h => ⟨by omega, h.2⟩), H5.out, (K3.out.mono (fun _ _ h => h.elim)).trans H6.out⟩
set_option maxHeartbeats 16000000 in
theorem add_nil (t : Tel) (r : Rc) (l : List (Int × Int)) (tb : Nat) (hv u : Value) (w : World) (H : TelC w tb t hv) (hh : xba w hv t.held) (hlt : ∀ b, hv.ownBlock = some b → b < w.heap.size ∧ b ≠ tb) (hok : xeF t) (hT : TabW w) (hn : r.n ≤ 1000000) (ht : r.text.length ≤ 100000)
 (hu : SlOf 2 encR w u l) (hl : l.length ≤ 5000) (hin : InT r.text.length l) (ho : t.over = false) (hte : t.tell = 1 ∨ t.tell = 2) (hl0 : Hid (l.length = 0)) :
 Calls Tryz.prog 25 #[.pointer (some ⟨tb, 0, none⟩), rcV r, u] w (CtE (addP t r l) tb hv w) := by
 obtain ⟨c0, c1, c2, c3, c4, c5, c6, c7, c8, c9, c10⟩ := H.c
 rw [ho] at c9
 have HP : Hid (addP t r l = ([], t)) := xmA (by unfold addP; rw [if_neg (by rw [ho]; simp), if_neg (by omega), if_neg (by omega), if_pos hl0.out])
 have HC := xmA H
 have HH := xmA hh
 have HL := xmA hlt
 have HT := xmA hT
 have HOk := xmA hok
 have hlb := H.lt
 have HCl := xmA (fun (W : World) (K : xaa (fun _ => False) w W) => xb1 l u W (hu.keep K) hl)
 have HDl := xmA (fun (v : Value) (s : ByteArray) (c : Nat) (W : World) (h : SlOf 2 encR W v l) (hc : W.cell? ⟨c, 2, none⟩ = some (.string s)) (hs : s.size = r.text.length) => xdk l v r.text.length s c W h hc hs hin)
 obtain ⟨ua, uc, rfl, _, _, _⟩ := hu
 obtain ⟨w1, hw1⟩ : ∃ W, w.alloc (.cells #[.int .i64 (r.n : Int), .int .i64 (r.at' : Int), .string ⟨r.text.toArray⟩] 39) = W := ⟨_, rfl⟩
 have hk1 : xaa (fun _ => False) w w1 := by rw [← hw1]; exact (xaa.refl _ _).alloc _
 have hs1 : w.heap.size + 1 ≤ w1.heap.size := by rw [← hw1]; simp
 have z0 : w1.cell? ⟨w.heap.size, 0, none⟩ = some (.int .i64 (r.n : Int)) := by rw [← hw1]; simp [go_sem]
 have z1 : w1.cell? ⟨w.heap.size, 1, none⟩ = some (.int .i64 (r.at' : Int)) := by rw [← hw1]; simp [go_sem]
 have z2 : w1.cell? ⟨w.heap.size, 2, none⟩ = some (.string ⟨r.text.toArray⟩) := by rw [← hw1]; simp [go_sem]
 have HK1 := xmA hk1
 have HW1 := xmA hw1
 have HIn := xmA hin
 unfold rcV CtE
 generalize addP t r l = P at *
 clear H hh hlt hok hT ho hk1 hw1 c0 c1 c2 c3 c4 c5 c6 c7 c8 c10 hin
 go_enter Tryz.func25, Tryz.ntmps25
 go_wp2_with fail
 rw [HW1.out]
 refine (HCl.out _ HK1.out).mono ?_
 rintro e w2 ⟨uv, rfl, hO2, k2⟩
 have hSl := SlOf.ofOwn hO2 (by omega)
 have HD2 := xmA (HDl.out uv ⟨r.text.toArray⟩ w.heap.size w2 hSl (k2.cell z2 id) (by show r.text.toArray.size = _; simp))
 have HSl := xmA hSl
 have HO2 := xmA hO2
 have K2 := xmA (HK1.out.trans k2)
 have hs2 := k2.size
 have q0 := k2.cell z0 id
 have q1 := k2.cell z1 id
 have q2 := k2.cell z2 id
 obtain ⟨va, vc, rfl⟩ := xad hO2
 clear hSl hO2 k2 z0 z1 z2 c9
 go_wp2_with fail
 refine HD2.out.mono ?_
 rintro e w3 ⟨rfl, k3⟩
 have K3 := xmA (K2.out.trans k3)
 have HC3 := xmA (HC.out.keeps K3.out id)
 have HSl3 := xmA (HSl.out.keep k3)
 have hs3 := k3.size
 have p0 := k3.cell q0 id
 have p1 := k3.cell q1 id
 have p2 := k3.cell q2 id
 obtain ⟨c0, c1, c2, c3, c4, c5, c6, c7, c8, c9, c10⟩ := HC3.out.c
 have hlb3 := HC3.out.lt
 clear k3 q0 q1 q2 c1 c2 c5 c6 c7 c8 c9 c10
 have g0 : (t.tell == 0) = false := by rw [beq_eq_false_iff_ne]; omega
 have g3 : (t.tell == 3) = false := by rw [beq_eq_false_iff_ne]; omega
 have gl : ((l.length : Int) == 0) = true := by rw [hl0.out]; rfl
 clear hte hl0 c3 c4
 generalize t.tell = te at *
 go_wp2_with fail
 go_ret
 rw [HP.out]
 exact ⟨_, hv, rfl, World.ownsRow_nil _ _ _ _, HC3.out, HH.out.keeps K3.out (fun _ _ => id), fun b hb => Or.inl hb, fun b hb e => by simp [Value.ownBlock] at e, K3.out.mono (fun _ _ h => h.elim)⟩
set_option maxHeartbeats 16000000 in
theorem xk2 (t : Tel) (r : Rc) (l : List (Int × Int)) (tb : Nat) (hv u : Value) (w : World) (H : TelC w tb t hv) (hh : xba w hv t.held) (hlt : ∀ b, hv.ownBlock = some b → b < w.heap.size ∧ b ≠ tb) (hok : xeF t) (hT : TabW w) (hn : r.n ≤ 1000000) (ht : r.text.length ≤ 100000)
 (hu : SlOf 2 encR w u l) (hl : l.length ≤ 5000) (hin : InT r.text.length l) (ho : t.over = false) (hte : t.tell = 1) (hl0 : l.length ≠ 0) :
 Calls Tryz.prog 25 #[.pointer (some ⟨tb, 0, none⟩), rcV r, u] w (CtE (addP t r l) tb hv w) := by
 obtain ⟨c0, c1, c2, c3, c4, c5, c6, c7, c8, c9, c10⟩ := H.c
 rw [ho] at c9
 have HP : Hid (addP t r l = ([Lib.itoa (r.n : Int) ++ [58] ++ r.text], { t with over := true, enough := true })) := xmA (by unfold addP; rw [if_neg (by rw [ho]; simp), if_neg (by omega), if_neg (by omega), if_neg hl0, if_pos hte])
 have HC := xmA H
 have HH := xmA hh
 have HL := xmA hlt
 have HT := xmA hT
 have HOk := xmA hok
 have hlb := H.lt
 have HCl := xmA (fun (W : World) (K : xaa (fun _ => False) w W) => xb1 l u W (hu.keep K) hl)
 have HDl := xmA (fun (v : Value) (s : ByteArray) (c : Nat) (W : World) (h : SlOf 2 encR W v l) (hc : W.cell? ⟨c, 2, none⟩ = some (.string s)) (hs : s.size = r.text.length) => xdk l v r.text.length s c W h hc hs hin)
 obtain ⟨ua, uc, rfl, _, _, _⟩ := hu
 obtain ⟨w1, hw1⟩ : ∃ W, w.alloc (.cells #[.int .i64 (r.n : Int), .int .i64 (r.at' : Int), .string ⟨r.text.toArray⟩] 39) = W := ⟨_, rfl⟩
 have hk1 : xaa (fun _ => False) w w1 := by rw [← hw1]; exact (xaa.refl _ _).alloc _
 have hs1 : w.heap.size + 1 ≤ w1.heap.size := by rw [← hw1]; simp
 have z0 : w1.cell? ⟨w.heap.size, 0, none⟩ = some (.int .i64 (r.n : Int)) := by rw [← hw1]; simp [go_sem]
 have z1 : w1.cell? ⟨w.heap.size, 1, none⟩ = some (.int .i64 (r.at' : Int)) := by rw [← hw1]; simp [go_sem]
 have z2 : w1.cell? ⟨w.heap.size, 2, none⟩ = some (.string ⟨r.text.toArray⟩) := by rw [← hw1]; simp [go_sem]
 have HK1 := xmA hk1
 have HW1 := xmA hw1
 have HIn := xmA hin
 unfold rcV CtE
 generalize addP t r l = P at *
 clear H hh hlt hok hT ho hk1 hw1 c0 c1 c2 c3 c4 c5 c6 c7 c8 c10 hin
 go_enter Tryz.func25, Tryz.ntmps25
 go_wp2_with fail
 rw [HW1.out]
 refine (HCl.out _ HK1.out).mono ?_
 rintro e w2 ⟨uv, rfl, hO2, k2⟩
 have hSl := SlOf.ofOwn hO2 (by omega)
 have HD2 := xmA (HDl.out uv ⟨r.text.toArray⟩ w.heap.size w2 hSl (k2.cell z2 id) (by show r.text.toArray.size = _; simp))
 have HSl := xmA hSl
 have HO2 := xmA hO2
 have K2 := xmA (HK1.out.trans k2)
 have hs2 := k2.size
 have q0 := k2.cell z0 id
 have q1 := k2.cell z1 id
 have q2 := k2.cell z2 id
 obtain ⟨va, vc, rfl⟩ := xad hO2
 clear hSl hO2 k2 z0 z1 z2 c9
 go_wp2_with fail
 refine HD2.out.mono ?_
 rintro e w3 ⟨rfl, k3⟩
 have K3 := xmA (K2.out.trans k3)
 have HC3 := xmA (HC.out.keeps K3.out id)
 have HSl3 := xmA (HSl.out.keep k3)
 have hs3 := k3.size
 have p0 := k3.cell q0 id
 have p1 := k3.cell q1 id
 have p2 := k3.cell q2 id
 obtain ⟨c0, c1, c2, c3, c4, c5, c6, c7, c8, c9, c10⟩ := HC3.out.c
 have hlb3 := HC3.out.lt
 clear k3 q0 q1 q2 c1 c2 c5 c6 c7 c8 c9 c10
 rw [hte] at c0
 have gl : ((l.length : Int) == 0) = false := by rw [beq_eq_false_iff_ne]; omega
 have y9 := HC3.out.fz 9
 have y10 := HC3.out.fz 10
 obtain ⟨_, _, _, _, _, _, _, _, _, c9, c10⟩ := HC3.out.c
 clear hte hl0 c3 c4
 obtain ⟨w4, hw4⟩ : ∃ W, (w3.setCell ⟨tb, 9, none⟩ (.bool true)).setCell ⟨tb, 10, none⟩ (.bool true) = W := ⟨_, rfl⟩
 have hk4 : xaa (fun b => b = tb) w3 w4 := by
  rw [← hw4]
  exact ((xaa.refl (fun b => b = tb) w3).set (p := ⟨tb, 9, none⟩) rfl _).set (p := ⟨tb, 10, none⟩) rfl _
 have HC4 : Hid (TelC w4 tb { t with over := true, enough := true } hv) := xmA (by rw [← hw4]; exact HC3.out.first)
 have e0 := hk4.cell p0 (by show ¬ w.heap.size = tb; omega)
 have e2 := hk4.cell p2 (by show ¬ w.heap.size = tb; omega)
 have hs4 := hk4.size
 have HK4 : Hid (xaa (fun b => b = tb) w w4) := xmA ((K3.out.mono (fun _ _ h => h.elim)).trans hk4)
 have HT4 := xmA (HT.out.keepsS HK4.out (fun e => HC.out.ne e.symm))
 have HW4 := xmA hw4
 have HNum : Hid (∀ (W : World), xaa (fun _ => False) w4 W → Calls Tryz.prog 52 #[.int .i64 (r.n : Int)] W fun e w' => e = .returned (.string ⟨(Lib.itoa (r.n : Int)).toArray⟩) ∧ xaa (fun _ => False) w4 w') := xmA (fun W K =>
  (xb5 (r.n : Int) W (by unfold in64; omega) (HT4.out.keeps K)).mono fun e w' h => ⟨h.1, K.trans h.2⟩)
 have hlx : (Lib.itoa (r.n : Int)).length ≤ 21 := Lib.itoa_length_le _ (by omega) (by omega)
 have s1 : ¬ (9223372036854775807 < (Lib.itoa (r.n : Int)).length + 1) := by omega
 have s2 : ¬ (9223372036854775807 < (Lib.itoa (r.n : Int)).length + 1 + r.text.length) := by omega
 have HS : ∀ w', xaa (fun _ => False) w4 w' → w'.cell? ⟨w.heap.size, 0, none⟩ = some (.int .i64 (r.n : Int)) ∧ w'.cell? ⟨w.heap.size, 2, none⟩ = some (.string ⟨r.text.toArray⟩) ∧ xaa (fun _ => False) w4 w' := fun w' K => ⟨K.cell e0 id, K.cell e2 id, K⟩
 have hk0 : xaa (fun _ => False) w4 w4.drew := (xaa.refl _ _).drew
 clear hw4 hk4
 go_upto_region 13 with fail
 rw [HW4.out]
 clear c0 c9 c10 y9 y10 p0 p1 p2
 go_region_held3 (fun w' => w'.cell? ⟨w.heap.size, 0, none⟩ = some (.int .i64 (r.n : Int)) ∧ w'.cell? ⟨w.heap.size, 2, none⟩ = some (.string ⟨r.text.toArray⟩) ∧ xaa (fun _ => False) w4 w')
  (first | exact HS _ hk0 | exact HS _ (by assumption) | exact HS _ (xaa.alloc (by assumption) _))
  (first | (go_at_call 52; refine (HNum.out _ ?_).mono ?_; (first | exact hk0 | assumption); rintro e w' ⟨rfl, hkn⟩))
 have HKn := xmA hkn
 have hsn := hkn.size
 clear hkn
 go_wp2_with fail
 go_ret
 rw [HP.out]
 have e1 : Value.string ((⟨(Lib.itoa (r.n : Int)).toArray⟩ : ByteArray) ++ ⟨#[58]⟩ ++ ⟨r.text.toArray⟩) = strL (Lib.itoa (r.n : Int) ++ [58] ++ r.text) := by
  unfold strL
  refine congrArg Value.string ?_
  apply ByteArray.ext
  simp
 rw [e1]
 have kA := HKn.out.alloc (.cells #[strL (Lib.itoa (r.n : Int) ++ [58] ++ r.text)] 9)
 refine ⟨_, hv, rfl, xfs w' [strL (Lib.itoa (r.n : Int) ++ [58] ++ r.text)] 9 1 rfl (by omega), HC4.out.keeps kA id, HH.out.keeps (HK4.out.trans (kA.mono (fun _ _ h => h.elim))) (fun b hb => (HL.out b hb).2), fun b hb => Or.inl hb, fun b hb e => ?_, (HK4.out.trans (kA.mono (fun _ _ h => h.elim))).mono (fun _ _ h => Or.inl h)⟩
 have := (HL.out b hb).1
 have := (show w'.heap.size = b from Option.some.inj e)
 omega
set_option maxHeartbeats 16000000 in
theorem xk3 (t : Tel) (r : Rc) (l : List (Int × Int)) (tb : Nat) (hv u : Value) (w : World) (H : TelC w tb t hv) (hh : xba w hv t.held) (hlt : ∀ b, hv.ownBlock = some b → b < w.heap.size ∧ b ≠ tb) (hok : xeF t) (hT : TabW w) (hn : r.n ≤ 1000000) (ht : r.text.length ≤ 100000)
 (hu : SlOf 2 encR w u l) (hl : l.length ≤ 5000) (hin : InT r.text.length l) (ho : t.over = false) (hte : t.tell = 2) (hl0 : l.length ≠ 0) (hco : t.records ≤ 1000000000 ∧ t.hits ≤ 1000000000) :
 Calls Tryz.prog 25 #[.pointer (some ⟨tb, 0, none⟩), rcV r, u] w (CtE (addP t r l) tb hv w) := by
 obtain ⟨c0, c1, c2, c3, c4, c5, c6, c7, c8, c9, c10⟩ := H.c
 rw [ho] at c9
 have HP : Hid (addP t r l = ([], { t with records := t.records + 1, hits := t.hits + l.length })) := xmA (by unfold addP; rw [if_neg (by rw [ho]; simp), if_neg (by omega), if_neg (by omega), if_neg hl0, if_neg (by omega)])
 have HC := xmA H
 have HH := xmA hh
 have HL := xmA hlt
 have HT := xmA hT
 have HOk := xmA hok
 have hlb := H.lt
 have HCl := xmA (fun (W : World) (K : xaa (fun _ => False) w W) => xb1 l u W (hu.keep K) hl)
 have HDl := xmA (fun (v : Value) (s : ByteArray) (c : Nat) (W : World) (h : SlOf 2 encR W v l) (hc : W.cell? ⟨c, 2, none⟩ = some (.string s)) (hs : s.size = r.text.length) => xdk l v r.text.length s c W h hc hs hin)
 obtain ⟨ua, uc, rfl, _, _, _⟩ := hu
 obtain ⟨w1, hw1⟩ : ∃ W, w.alloc (.cells #[.int .i64 (r.n : Int), .int .i64 (r.at' : Int), .string ⟨r.text.toArray⟩] 39) = W := ⟨_, rfl⟩
 have hk1 : xaa (fun _ => False) w w1 := by rw [← hw1]; exact (xaa.refl _ _).alloc _
 have hs1 : w.heap.size + 1 ≤ w1.heap.size := by rw [← hw1]; simp
 have z0 : w1.cell? ⟨w.heap.size, 0, none⟩ = some (.int .i64 (r.n : Int)) := by rw [← hw1]; simp [go_sem]
 have z1 : w1.cell? ⟨w.heap.size, 1, none⟩ = some (.int .i64 (r.at' : Int)) := by rw [← hw1]; simp [go_sem]
 have z2 : w1.cell? ⟨w.heap.size, 2, none⟩ = some (.string ⟨r.text.toArray⟩) := by rw [← hw1]; simp [go_sem]
 have HK1 := xmA hk1
 have HW1 := xmA hw1
 have HIn := xmA hin
 unfold rcV CtE
 generalize addP t r l = P at *
 clear H hh hlt hok hT ho hk1 hw1 c0 c1 c2 c3 c4 c5 c6 c7 c8 c10 hin
 go_enter Tryz.func25, Tryz.ntmps25
 go_wp2_with fail
 rw [HW1.out]
 refine (HCl.out _ HK1.out).mono ?_
 rintro e w2 ⟨uv, rfl, hO2, k2⟩
 have hSl := SlOf.ofOwn hO2 (by omega)
 have HD2 := xmA (HDl.out uv ⟨r.text.toArray⟩ w.heap.size w2 hSl (k2.cell z2 id) (by show r.text.toArray.size = _; simp))
 have HSl := xmA hSl
 have HO2 := xmA hO2
 have K2 := xmA (HK1.out.trans k2)
 have hs2 := k2.size
 have q0 := k2.cell z0 id
 have q1 := k2.cell z1 id
 have q2 := k2.cell z2 id
 obtain ⟨va, vc, rfl⟩ := xad hO2
 clear hSl hO2 k2 z0 z1 z2 c9
 go_wp2_with fail
 refine HD2.out.mono ?_
 rintro e w3 ⟨rfl, k3⟩
 have K3 := xmA (K2.out.trans k3)
 have HC3 := xmA (HC.out.keeps K3.out id)
 have HSl3 := xmA (HSl.out.keep k3)
 have hs3 := k3.size
 have p0 := k3.cell q0 id
 have p1 := k3.cell q1 id
 have p2 := k3.cell q2 id
 obtain ⟨c0, c1, c2, c3, c4, c5, c6, c7, c8, c9, c10⟩ := HC3.out.c
 have hlb3 := HC3.out.lt
 clear k3 q0 q1 q2 c1 c2 c5 c6 c7 c8 c9 c10
 rw [hte] at c0
 have gl : ((l.length : Int) == 0) = false := by rw [beq_eq_false_iff_ne]; omega
 have y3 := HC3.out.fz 3
 have y4 := HC3.out.fz 4
 have hw8 : IntKind.i64.wrap ((t.records : Int) + 1) = (t.records : Int) + 1 := IntWalk.i64_in _ (by omega)
 have hw9 : IntKind.i64.wrap ((t.hits : Int) + (l.length : Int)) = (t.hits : Int) + (l.length : Int) := IntWalk.i64_in _ (by omega)
 have hk4 : xaa (fun b => b = tb) w3 ((w3.setCell ⟨tb, 3, none⟩ (.int .i64 ((t.records : Int) + 1))).setCell ⟨tb, 4, none⟩ (.int .i64 ((t.hits : Int) + (l.length : Int)))) := ((xaa.refl (fun b => b = tb) w3).set (p := ⟨tb, 3, none⟩) rfl _).set (p := ⟨tb, 4, none⟩) rfl _
 have HK4 := xmA hk4
 have HC4 : Hid (TelC ((w3.setCell ⟨tb, 3, none⟩ (.int .i64 ((t.records : Int) + 1))).setCell ⟨tb, 4, none⟩ (.int .i64 ((t.hits : Int) + (l.length : Int)))) tb { t with records := t.records + 1, hits := t.hits + l.length } hv) := xmA (HC3.out.count (t.records + 1) (t.hits + l.length))
 clear hte hl0 hk4
 generalize hre : t.records = re at *
 generalize hhi : t.hits = hi' at *
 clear hre hhi
 go_wp2_with fail
 go_ret
 rw [HP.out]
 have k9 : xaa (fun b => b = tb) w _ := (K3.out.mono (fun _ _ h => h.elim)).trans HK4.out
 exact ⟨_, hv, rfl, World.ownsRow_nil _ _ _ _, HC4.out, HH.out.keeps k9 (fun b hb => (HL.out b hb).2), fun b hb => Or.inl hb, fun b hb e => by simp [Value.ownBlock] at e, k9.mono (fun _ _ h => Or.inl h)⟩
theorem xk4 (t : Tel) (r : Rc) (l : List (Int × Int)) (tb : Nat) (hv u : Value) (w : World) (H : TelC w tb t hv) (hh : xba w hv t.held) (hlt : ∀ b, hv.ownBlock = some b → b < w.heap.size ∧ b ≠ tb) (hok : xeF t) (hT : TabW w) (hn : r.n ≤ 1000000) (ht : r.text.length ≤ 100000)
 (hu : SlOf 2 encR w u l) (hl : l.length ≤ 5000) (hin : InT r.text.length l) (hte : 0 ≤ t.tell ∧ t.tell ≤ 3) (hco : t.records ≤ 1000000000 ∧ t.hits ≤ 1000000000) :
 Calls Tryz.prog 25 #[.pointer (some ⟨tb, 0, none⟩), rcV r, u] w (CtE (addP t r l) tb hv w) := by
 cases ho : t.over with
 | true => exact xmm t r l tb hv u w H hh ho
 | false =>
  by_cases h0 : t.tell = 0
  · exact add_all t r l tb hv u w H hh hlt hok hT hn ht hu hl hin ho h0
  by_cases h3 : t.tell = 3
  · exact add_ctx t r l tb hv u w H hh hlt hok hT hn ht hu hl hin ho h3
  by_cases hl0 : l.length = 0
  · exact add_nil t r l tb hv u w H hh hlt hok hT hn ht hu hl hin ho (by omega) (xmA hl0)
  by_cases h1 : t.tell = 1
  · exact xk2 t r l tb hv u w H hh hlt hok hT hn ht hu hl hin ho h1 hl0
  exact xk3 t r l tb hv u w H hh hlt hok hT hn ht hu hl hin ho (by omega) hl0 hco
theorem xfd (t : Tel) (tb : Nat) (hv : Value) (w : World) (H : TelC w tb t hv) :
 Calls Tryz.prog 26 #[.pointer (some ⟨tb, 0, none⟩)] w fun e w' => e = .returned (.bool t.enough) ∧ w' = w := by
 obtain ⟨c0, c1, c2, c3, c4, c5, c6, c7, c8, c9, c10⟩ := H.c
 clear c0 c1 c2 c3 c4 c5 c6 c7 c8 c9 H
 generalize t.enough = q at *
 go_enter Tryz.func26, Tryz.ntmps26
 go_wp2_with fail
 go_ret
 exact ⟨rfl, rfl⟩
def tel0 (tell : Int) (before after : Nat) : Tel := ⟨tell, before, after, 0, 0, [], 0, 0, false, false, false⟩
set_option maxHeartbeats 4000000 in
theorem xk9 (tell : Int) (before after : Nat) (w : World) (hT : TabW w) (h1 : 0 ≤ tell ∧ tell ≤ 3) (h2 : before ≤ 16) (h3 : after ≤ 16) :
 Calls Tryz.prog 22 #[.int .i64 tell, .int .i64 before, .int .i64 after] w fun e w' => ∃ tb, e = .returned (.tuple #[.pointer (some ⟨tb, 0, none⟩), .int .i64 0]) ∧ w.heap.size ≤ tb ∧ TelC w' tb (tel0 tell before after) (.slice none 0 0) ∧ xaa (fun _ => False) w w' := by
 have g1 : decide (tell < 0) = false := by simp; omega
 have g2 : decide (3 < tell) = false := by simp; omega
 have g3 : decide ((before : Int) < 0) = false := by simp
 have g4 : decide ((16 : Int) < (before : Int)) = false := by simp; omega
 have g5 : decide ((after : Int) < 0) = false := by simp
 have g6 : decide ((16 : Int) < (after : Int)) = false := by simp; omega
 have hlt := hT.lt
 have i0 : ∀ W : World, (Instr.index 82 (.agg #[.int .i64 (before : Int), .int .i64 (after : Int)]) (.int .i64 0)).run Tryz.prog W = .ok (.int .i64 (before : Int)) W := fun W => by
  simp [Instr.index, run_underlying Tryz.underlying82, asIntOf, go_sem, part]
 have i1 : ∀ W : World, (Instr.index 82 (.agg #[.int .i64 (before : Int), .int .i64 (after : Int)]) (.int .i64 1)).run Tryz.prog W = .ok (.int .i64 (after : Int)) W := fun W => by
  simp [Instr.index, run_underlying Tryz.underlying82, asIntOf, go_sem, part]
 clear h1 h2 h3
 go_enter Tryz.func22, Tryz.ntmps22
 go_wp2_with fail
 refine wp_loop_rounds 3 ?_
 repeat any_goals (rw [rounds_succ]; go_wp2_with fail)
 go_ret2
 exact ⟨_, rfl, Nat.le_refl _, ⟨heap_alloc_new w _, by omega⟩, KI.out⟩
def endP (t : Tel) : List (List UInt8) := if t.over || (t.tell != 2) then [] else [Lib.itoa (t.records : Int) ++ [32] ++ Lib.itoa (t.hits : Int)]
def EnE (q : List (List UInt8)) (tb : Nat) (w : World) (e : Ending) (w' : World) : Prop := ∃ v, e = .returned v ∧ w'.ownsRow w.heap.size 9 1 v q.length (q.map strL) ∧ xaa (fun b => b = tb) w w'
theorem TelC.shut {w : World} {tb : Nat} {t : Tel} {hv : Value} (h : TelC w tb t hv) : TelC ((w.setCell ⟨tb, 9, none⟩ (.bool true)).setCell ⟨tb, 5, none⟩ (.slice none 0 0)) tb { t with over := true, held := [] } (.slice none 0 0) := by
 refine ⟨?_, h.ne⟩
 have := h.bk
 simp [World.setCell, Array.getElem?_modify, this]
set_option maxHeartbeats 4000000 in
theorem xl1 (t : Tel) (tb : Nat) (hv : Value) (w : World) (H : TelC w tb t hv) (he : t.over = true ∨ t.tell ≠ 2) :
 Calls Tryz.prog 27 #[.pointer (some ⟨tb, 0, none⟩)] w (EnE (endP t) tb w) := by
 obtain ⟨c0, c1, c2, c3, c4, c5, c6, c7, c8, c9, c10⟩ := H.c
 obtain ⟨a0, n, cap, hvv⟩ : ∃ x y z, (x, y, z) = ((0 : Nat), (0 : Nat), (0 : Nat)) := ⟨_, _, _, rfl⟩
 have y5 := H.fz 5
 have y9 := H.fz 9
 have hP : endP t = [] := by
  unfold endP
  rcases he with he | he
  · rw [he]; rfl
  rw [if_pos (by simp [he])]
 rw [hP]
 have hlb := H.lt
 clear c1 c2 c3 c4 c6 c7 c8 c10 hP hvv
 cases ho : t.over with
 | true =>
  rw [ho] at c9
  clear H he ho
  generalize t.tell = te at *
  go_enter Tryz.func27, Tryz.ntmps27
  go_wp2_with fail
  go_ret
  exact ⟨_, rfl, World.ownsRow_nil _ _ _ _, KI.out⟩
 | false =>
  have hte : t.tell ≠ 2 := by
   rcases he with he | he
   · rw [ho] at he; cases he
   exact he
  have g2 : (t.tell != 2) = true := by simpa using hte
  rw [ho] at c9
  clear H he ho hte
  generalize t.tell = te at *
  go_enter Tryz.func27, Tryz.ntmps27
  go_wp2_with fail
  go_ret
  exact ⟨_, rfl, World.ownsRow_nil _ _ _ _, KI.out⟩
set_option maxHeartbeats 8000000 in
theorem xkD (t : Tel) (tb : Nat) (hv : Value) (w : World) (H : TelC w tb t hv) (hT : TabW w) (ho : t.over = false) (hte : t.tell = 2) (hr : t.records ≤ 1000000000) (hh : t.hits ≤ 1000000000) :
 Calls Tryz.prog 27 #[.pointer (some ⟨tb, 0, none⟩)] w (EnE (endP t) tb w) := by
 obtain ⟨c0, c1, c2, c3, c4, c5, c6, c7, c8, c9, c10⟩ := H.c
 have y5 := H.fz 5
 have y9 := H.fz 9
 have hP : endP t = [Lib.itoa (t.records : Int) ++ [32] ++ Lib.itoa (t.hits : Int)] := by
  unfold endP
  rw [ho, hte]; rfl
 rw [hP]
 have hlb := H.lt
 rw [ho] at c9
 rw [hte] at c0
 obtain ⟨w4, hw4⟩ : ∃ W, (w.setCell ⟨tb, 9, none⟩ (.bool true)).setCell ⟨tb, 5, none⟩ (.slice none 0 0) = W := ⟨_, rfl⟩
 have hk4 : xaa (fun b => b = tb) w w4 := by
  rw [← hw4]
  exact ((xaa.refl (fun b => b = tb) w).set (p := ⟨tb, 9, none⟩) rfl _).set (p := ⟨tb, 5, none⟩) rfl _
 have hC4 : TelC w4 tb { t with over := true, held := [] } (.slice none 0 0) := by rw [← hw4]; exact H.shut
 obtain ⟨e0, _, _, e3, e4, _, _, _, _, _, _⟩ := hC4.c
 simp only at e0 e3 e4
 rw [hte] at e0
 have HT4 := xmA (hT.keepsS hk4 (fun e => H.ne e.symm))
 have HW4 := xmA hw4
 have HK4 := xmA hk4
 have hs4 := hk4.size
 clear c1 c2 c3 c4 c6 c7 c8 c10 hP H hC4 hw4 hk4 ho hte hT
 generalize t.records = re at *
 generalize t.hits = hi' at *
 have HNum : Hid (∀ (z : Int) (W : World), (z = (re : Int) ∨ z = (hi' : Int)) → xaa (fun _ => False) w4 W → Calls Tryz.prog 52 #[.int .i64 z] W fun e w' => e = .returned (.string ⟨(Lib.itoa z).toArray⟩) ∧ xaa (fun _ => False) w4 w') := xmA (fun z W hz K =>
  (xb5 z W (by unfold in64; rcases hz with rfl | rfl <;> omega) (HT4.out.keeps K)).mono fun e w' h => ⟨h.1, K.trans h.2⟩)
 have hlx : (Lib.itoa (re : Int)).length ≤ 21 := Lib.itoa_length_le _ (by omega) (by omega)
 have hly : (Lib.itoa (hi' : Int)).length ≤ 21 := Lib.itoa_length_le _ (by omega) (by omega)
 have s1 : ¬ (9223372036854775807 < (Lib.itoa (re : Int)).length + 1) := by omega
 have s2 : ¬ (9223372036854775807 < (Lib.itoa (re : Int)).length + 1 + (Lib.itoa (hi' : Int)).length) := by omega
 have HS : ∀ w', xaa (fun _ => False) w4 w' → w'.cell? ⟨tb, 3, none⟩ = some (.int .i64 (re : Int)) ∧ w'.cell? ⟨tb, 4, none⟩ = some (.int .i64 (hi' : Int)) ∧ xaa (fun _ => False) w4 w' := fun w' K => ⟨K.cell e3 id, K.cell e4 id, K⟩
 have hk0 : xaa (fun _ => False) w4 w4.drew := (xaa.refl _ _).drew
 go_enter Tryz.func27, Tryz.ntmps27
 go_upto_region 6 with fail
 rw [HW4.out]
 clear c0 c5 c9 y5 y9
 go_region_held3 (fun w' => w'.cell? ⟨tb, 3, none⟩ = some (.int .i64 (re : Int)) ∧ w'.cell? ⟨tb, 4, none⟩ = some (.int .i64 (hi' : Int)) ∧ xaa (fun _ => False) w4 w')
  (first | exact HS _ hk0 | exact HS _ (by assumption) | exact HS _ (xaa.alloc (by assumption) _))
  (first | (go_at_call 52; refine (HNum.out _ _ ?_ ?_).mono ?_; (first | exact Or.inl rfl | exact Or.inr rfl); (first | exact hk0 | assumption); rintro e w' ⟨rfl, hkn⟩))
 have HKn := xmA hkn
 have hsn := hkn.size
 clear hkn
 go_wp2_with fail
 go_ret
 have e1 : Value.string ((⟨(Lib.itoa (re : Int)).toArray⟩ : ByteArray) ++ ⟨#[32]⟩ ++ ⟨(Lib.itoa (hi' : Int)).toArray⟩) = strL (Lib.itoa (re : Int) ++ [32] ++ Lib.itoa (hi' : Int)) := by
  unfold strL
  refine congrArg Value.string ?_
  apply ByteArray.ext
  simp
 rw [e1]
 exact ⟨_, rfl, xfs _ [strL (Lib.itoa (re : Int) ++ [32] ++ Lib.itoa (hi' : Int))] 9 1 rfl (by omega), (HK4.out.trans (HKn.out.mono (fun _ _ h => h.elim))).alloc _⟩
theorem xl (t : Tel) (tb : Nat) (hv : Value) (w : World) (H : TelC w tb t hv) (hT : TabW w) (hr : t.records ≤ 1000000000) (hh : t.hits ≤ 1000000000) :
 Calls Tryz.prog 27 #[.pointer (some ⟨tb, 0, none⟩)] w (EnE (endP t) tb w) := by
 by_cases he : t.over = true ∨ t.tell ≠ 2
 · exact xl1 t tb hv w H he
 refine xkD t tb hv w H hT ?_ ?_ hr hh
 · cases ho : t.over with
   | false => rfl
   | true => exact absurd (Or.inl ho) he
 by_cases h2 : t.tell = 2
 · exact h2
 exact absurd (Or.inr h2) he
structure JV where
 da : Option Addr
 dn : Nat
 dc : Nat
 sa : Option Addr
 sn : Nat
 sc : Nat
 fl : Int
 cd : Int
 mo : Int
 pt : List UInt8
 ev : Int
 bd : Int
 te : Int
 be : Int
 af : Int
 rf : Int
 bu : Int
 ch : Int
 ro : Int
 wo : Int
 rg : Int
def jCs (j : JV) : Array Value := #[.slice j.da j.dn j.dc, .slice j.sa j.sn j.sc, .int .i64 j.fl, .int .i64 j.cd, .int .i64 j.mo, .string ⟨j.pt.toArray⟩, .int .i64 j.ev, .int .i64 j.bd, .int .i64 j.te, .int .i64 j.be, .int .i64 j.af, .int .i64 j.rf, .int .i64 j.bu, .int .i64 j.ch, .int .i64 j.ro, .int .i64 j.wo, .int .i64 j.rg]
def jV (j : JV) : Value := .agg (jCs j)
theorem xeD (n a b : Int) (w : World) : Calls Tryz.prog 32 #[.int .i64 n, .int .i64 a, .int .i64 b] w fun e w' => e = .returned (.bool (decide (a ≤ n) && decide (n ≤ b))) ∧ w' = w := by
 by_cases h : a ≤ n
 · have g : decide (a ≤ n) = true := by simpa using h
   have HR : Hid ((decide (a ≤ n) && decide (n ≤ b)) = decide (n ≤ b)) := xmA (by rw [g]; rfl)
   generalize (decide (a ≤ n) && decide (n ≤ b)) = q at *
   go_enter Tryz.func32, Tryz.ntmps32
   go_wp2_with fail
   go_ret
   exact ⟨by rw [HR.out]; rfl, rfl⟩
 have g : decide (a ≤ n) = false := by simpa using h
 have HR : Hid ((decide (a ≤ n) && decide (n ≤ b)) = false) := xmA (by rw [g]; rfl)
 generalize (decide (a ≤ n) && decide (n ≤ b)) = q at *
 go_enter Tryz.func32, Tryz.ntmps32
 go_wp2_with fail
 go_ret
 exact ⟨by rw [HR.out]; rfl, rfl⟩
def xbT (j : JV) : Bool := decide (0 ≤ j.fl) && decide (j.fl ≤ (j.dn : Int))
set_option maxHeartbeats 4000000 in
theorem xgF (j : JV) (w : World) : Calls Tryz.prog 38 #[jV j] w fun e w' => e = .returned (.bool (xbT j)) ∧ xaa (fun _ => False) w w' := by
 have HB := xmA (fun W => xeD j.fl 0 (j.dn : Int) W)
 have HR : Hid (xbT j = (decide (0 ≤ j.fl) && decide (j.fl ≤ (j.dn : Int)))) := xmA rfl
 generalize xbT j = q at *
 unfold jV jCs
 go_enter Tryz.func38, Tryz.ntmps38
 go_wp2_with fail
 refine (HB.out _).mono ?_
 rintro e w' ⟨rfl, rfl⟩
 rw [← HR.out]
 go_wp2_with fail
 go_ret
 exact ⟨rfl, KI.out⟩
def JbAt (w : World) (c : Nat) (j : JV) : Prop := w.heap[c]? = some (.cells (jCs j) 25 (0, 0))
theorem xdc (w : World) (j : JV) : JbAt (w.alloc (.cells (jCs j) 25)) w.heap.size j := heap_alloc_new w _
theorem JbAt.c {w : World} {c : Nat} {j : JV} (h : JbAt w c j) :
 w.cell? ⟨c, 0, none⟩ = some (.slice j.da j.dn j.dc) ∧ w.cell? ⟨c, 1, none⟩ = some (.slice j.sa j.sn j.sc) ∧ w.cell? ⟨c, 2, none⟩ = some (.int .i64 j.fl) ∧ w.cell? ⟨c, 3, none⟩ = some (.int .i64 j.cd) ∧ w.cell? ⟨c, 4, none⟩ = some (.int .i64 j.mo) ∧ w.cell? ⟨c, 5, none⟩ = some (.string ⟨j.pt.toArray⟩) ∧
 w.cell? ⟨c, 6, none⟩ = some (.int .i64 j.ev) ∧ w.cell? ⟨c, 7, none⟩ = some (.int .i64 j.bd) ∧ w.cell? ⟨c, 8, none⟩ = some (.int .i64 j.te) ∧ w.cell? ⟨c, 9, none⟩ = some (.int .i64 j.be) ∧ w.cell? ⟨c, 10, none⟩ = some (.int .i64 j.af) := by
 refine ⟨?_, ?_, ?_, ?_, ?_, ?_, ?_, ?_, ?_, ?_, ?_⟩ <;> (rw [Lib.cell_of_heap h]; rfl)
theorem JbAt.keeps {S : Nat → Prop} {w w' : World} {c : Nat} {j : JV} (h : JbAt w c j) (K : xaa S w w') (hs : ¬ S c) : JbAt w' c j := K.heap h hs
def xcb (ev n : Int) : Bool := decide (ev < 2) || (Int.tmod n ev == 0)
set_option maxHeartbeats 4000000 in
theorem xe7 (j : JV) (n : Int) (hn : in64 n) (w : World) : Calls Tryz.prog 13 #[jV j, .int .i64 n] w fun e w' => e = .returned (.bool (xcb j.ev n)) ∧ xaa (fun _ => False) w w' := by
 have HR : Hid (xcb j.ev n = (decide (j.ev < 2) || (Int.tmod n j.ev == 0))) := xmA rfl
 by_cases h : j.ev < 2
 · have g : decide (j.ev < 2) = true := by simpa using h
   have HQ : Hid (xcb j.ev n = true) := xmA (by rw [HR.out, g]; rfl)
   clear HR
   generalize xcb j.ev n = q at *
   unfold jV jCs
   generalize j.ev = ev at *
   go_enter Tryz.func13, Tryz.ntmps13
   go_wp2_with fail
   go_ret
   exact ⟨by rw [HQ.out]; rfl, KI.out⟩
 have g : decide (j.ev < 2) = false := by simpa using h
 have HQ : Hid (xcb j.ev n = (Int.tmod n j.ev == 0)) := xmA (by rw [HR.out, g]; rfl)
 clear HR
 generalize xcb j.ev n = q at *
 have g0 : (j.ev == 0) = false := by rw [beq_eq_false_iff_ne]; omega
 have g1 : ¬ j.ev = 0 := by omega
 unfold jV jCs
 generalize j.ev = ev at *
 go_enter Tryz.func13, Tryz.ntmps13
 go_wp2_with fail
 go_ret
 exact ⟨by rw [HQ.out]; rfl, KI.out⟩
set_option maxHeartbeats 4000000 in
theorem xhb (j : JV) (n : Int) (hn : in64 n) (w : World) : Calls Tryz.prog 14 #[jV j, .int .i64 n] w fun e w' => e = .returned (.bool (xcb j.ev n)) ∧ xaa (fun _ => False) w w' := by
 have HR : Hid (xcb j.ev n = (decide (j.ev < 2) || (Int.tmod n j.ev == 0))) := xmA rfl
 by_cases h : j.ev < 2
 · have g : decide (j.ev < 2) = true := by simpa using h
   have HQ : Hid (xcb j.ev n = true) := xmA (by rw [HR.out, g]; rfl)
   clear HR
   generalize xcb j.ev n = q at *
   unfold jV jCs
   generalize j.ev = ev at *
   go_enter Tryz.func14, Tryz.ntmps14
   go_wp2_with fail
   go_ret
   exact ⟨by rw [HQ.out]; rfl, KI.out⟩
 have g : decide (j.ev < 2) = false := by simpa using h
 have HQ : Hid (xcb j.ev n = (Int.tmod n j.ev == 0)) := xmA (by rw [HR.out, g]; rfl)
 clear HR
 generalize xcb j.ev n = q at *
 have g0 : (j.ev == 0) = false := by rw [beq_eq_false_iff_ne]; omega
 have g1 : ¬ j.ev = 0 := by omega
 unfold jV jCs
 generalize j.ev = ev at *
 go_enter Tryz.func14, Tryz.ntmps14
 go_wp2_with fail
 go_ret
 exact ⟨by rw [HQ.out]; rfl, KI.out⟩
end Go.Proofs.YtjahiihmoglpfaaGreatDoor
