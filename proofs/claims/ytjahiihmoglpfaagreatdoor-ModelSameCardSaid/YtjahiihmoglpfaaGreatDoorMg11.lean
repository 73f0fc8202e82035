/-
  Several texts in one: The parser's atom: all its other cases. The document's tokens in rows; close, one: they come back.
-/
import Derived.Test.YtjahiihmoglpfaaGreatDoorMg10
import Derived.Test.YtjahiihmoglpfaaGreatDoorMg5
import Derived.Test.YtjahiihmoglpfaaGreatDoorMg3
import Derived.BigQuiet
import Derived.Deep.QuietTactic
import Derived.IntWalk
import Derived.Handy
namespace Go.Proofs.YtjahiihmoglpfaaGreatDoor
open Go.RowKit
set_option linter.unusedVariables false
set_option linter.unusedSimpArgs false
set_option maxRecDepth 100000
theorem xay {w wX : World} {pb : Nat} (K : xaa (xao pb) (w.alloc (.cells #[.int .i64 0, .slice none 0 0, .int .i64 0, .int .i64 0, .slice none 0 0] 52)) wX) (hpb : pb < w.heap.size) :
 (wX.cell? ⟨w.heap.size, 0, none⟩ = some (.int .i64 0) ∧ wX.cell? ⟨w.heap.size, 1, none⟩ = some (.slice none 0 0) ∧ wX.cell? ⟨w.heap.size, 2, none⟩ = some (.int .i64 0) ∧ wX.cell? ⟨w.heap.size, 3, none⟩ = some (.int .i64 0) ∧ wX.cell? ⟨w.heap.size, 4, none⟩ = some (.slice none 0 0)) ∧
 (wX.frozen? ⟨w.heap.size, 0, none⟩ = false ∧ wX.frozen? ⟨w.heap.size, 1, none⟩ = false ∧ wX.frozen? ⟨w.heap.size, 2, none⟩ = false ∧ wX.frozen? ⟨w.heap.size, 3, none⟩ = false ∧ wX.frozen? ⟨w.heap.size, 4, none⟩ = false) := by
 have hne1 : ¬ (w.heap.size = pb) := by omega
 exact ⟨⟨K.cell (by simp [go_sem]) hne1, K.cell (by simp [go_sem]) hne1, K.cell (by simp [go_sem]) hne1, K.cell (by simp [go_sem]) hne1, K.cell (by simp [go_sem]) hne1⟩,
  K.frozen (by simp [go_sem]) (by simp) hne1, K.frozen (by simp [go_sem]) (by simp) hne1, K.frozen (by simp [go_sem]) (by simp) hne1, K.frozen (by simp [go_sem]) (by simp) hne1, K.frozen (by simp [go_sem]) (by simp) hne1⟩
theorem xaB {w wX wE : World} {pb : Nat} {rv : Value} {rs : List Int} {s' : PS} {t : T} {v : NV} (hpb : pb < w.heap.size) (hrb : ∀ b, rv.ownBlock = some b → b < w.heap.size)
 (K : xaa (xao pb) (w.alloc (.cells #[.int .i64 0, .slice none 0 0, .int .i64 0, .int .i64 0, .slice none 0 0] 52)) wX) (hP : PaAt wX pb rv rs s')
 (hT : TAt wX (fun b => w.heap.size < b ∧ b < wX.heap.size) v t) (kE : xaa (fun b => b = w.heap.size) wX wE) : xcV w pb rv rs (t, s') (.returned v.val) wE := by
 have hs := K.size
 simp at hs
 have hs2 := kE.size
 refine ⟨v, rfl, hT.keepsTo kE (fun b hb e => by omega) (fun b hb => ⟨by omega, by omega⟩), hP.keeps kE (by omega) (fun b hb e => by have := hrb b hb; omega), ?_⟩
 exact (xaa.trans (KI.out) K).trans2 kE (fun b hb e => by omega)
theorem xd1 {w' : World} {lo : Nat} {u : Value} {L : List (Int × Int)} (h : w'.ownsRow lo 164 2 u L.length (cellsOf 2 encR L)) (hl : L.length ≤ 4611686018427387904) (hr : ∀ p ∈ L, in64 p.1 ∧ in64 p.2) :
 TAt w' (fun b => lo ≤ b ∧ b < w'.heap.size) ⟨1, u, 0, 0, .slice none 0 0⟩ (xbn L) := by
 exact ⟨rfl, rfl, rfl, xbq, xbq, ⟨SlOf.ofOwn h hl, hr⟩, fun b hb => ⟨xab h b hb, xax h b hb⟩, ⟨[], SlOf.nil _ _ _, rfl⟩, fun b hb => by simp [Value.ownBlock] at hb⟩
theorem xlA {l : List (Int × Int)} (h : Norm l) : l.length ≤ 1114112 := by
 have h1 := (xg0 l h).2
 have h2 : ∀ l : List (Int × Int), (∀ p ∈ l, p.1 ≤ p.2) → (l.length : Int) ≤ sumR l := by
  intro l
  induction l with
  | nil => intro _; simp [xlb]
  | cons p l ih =>
   intro hp
   have h3 := ih (fun q hq => hp q (by simp [hq]))
   have h4 := hp p (by simp)
   rw [xf1]; simp; omega
 have h5 := h2 l (fun p hp => (h.rng p hp).2.1)
 omega
def xdn (f : PS → T × PS) (rs : List Int) (w : World) (pb : Nat) (rv : Value) (s : PS) : Prop :=
 Calls Tryz.prog 166 #[.pointer (some ⟨pb, 0, none⟩)] w (xcV w pb rv rs (xaO f rs s))
set_option maxHeartbeats 8000000 in
theorem xjv {f : PS → T × PS} {rs : List Int} (hlen : rs.length ≤ 9000) (w : World) (pb : Nat) (rv : Value) (s : PS) (h : PaAt w pb rv rs s) (hr : pk rs s = 94) : xdn f rs w pb rv s := by
 have hpb := h.lt
 have hpos := (xaL (rs := rs) (s := s) (by omega)).1
 unfold xdn
 rw [show xaO f rs s = (⟨2, [], 0, 0, .nil⟩, nx rs s) by unfold xaO; rw [if_neg (by omega), if_pos hr]]
 have HN := xmA (fun (W : World) (hW : PaAt W pb rv rs s) => xbG W pb rv rs s hW (by omega))
 have HH := xmA h
 clear h
 go_enter Tryz.func166, Tryz.ntmps166
 go_wp2_with fail
 refine (HN.out _ (HH.out.keepsF (KI.out))).mono ?_
 rintro e w3 ⟨rfl, h3, k3⟩
 rw [hr]
 obtain ⟨⟨y0, y1, y2, y3, y4⟩, q0, q1, q2, q3, q4⟩ := xay k3 hpb
 have H3 := xmA h3
 have K3 := xmA k3
 have hs3 := k3.size
 simp at hs3
 clear h3 k3
 go_wp2_with fail
 obtain ⟨wE, hWE⟩ : ∃ W, st5 (w3) w.heap.size (.int .i64 2) (.slice none 0 0) (.int .i64 0) (.int .i64 0) (.slice none 0 0) = W := ⟨_, rfl⟩
 obtain ⟨r0, r1, r2, r3, r4, kE⟩ := xav (w3) w.heap.size y0 y1 y2 y3 y4 (.int .i64 2) (.slice none 0 0) (.int .i64 0) (.int .i64 0) (.slice none 0 0)
 rw [hWE] at r0 r1 r2 r3 r4 kE
 unfold st5 at hWE
 rw [hWE]
 have HKE := xmA kE
 clear kE hWE y0 y1 y2 y3 y4
 refine bodyPost_ret (by simp [results, Tryz.results166, go_sem, r0, r1, r2, r3, r4]; try rfl) rfl ?_
 exact xaB (v := ⟨2, .slice none 0 0, 0, 0, .slice none 0 0⟩) hpb HH.out.rb K3.out H3.out ⟨rfl, rfl, rfl, xbq, xbq, ⟨SlOf.nil _ _ _, fun p hp => by cases hp⟩, fun b hb => by simp [Value.ownBlock] at hb, ⟨[], SlOf.nil _ _ _, rfl⟩, fun b hb => by simp [Value.ownBlock] at hb⟩ HKE.out
set_option maxHeartbeats 8000000 in
theorem xmg {f : PS → T × PS} {rs : List Int} (hlen : rs.length ≤ 9000) (w : World) (pb : Nat) (rv : Value) (s : PS) (h : PaAt w pb rv rs s) (hr : pk rs s = 36) : xdn f rs w pb rv s := by
 have hpb := h.lt
 have hpos := (xaL (rs := rs) (s := s) (by omega)).1
 unfold xdn
 rw [show xaO f rs s = (⟨3, [], 0, 0, .nil⟩, nx rs s) by unfold xaO; rw [if_neg (by omega), if_neg (by omega), if_pos hr]]
 have HN := xmA (fun (W : World) (hW : PaAt W pb rv rs s) => xbG W pb rv rs s hW (by omega))
 have HH := xmA h
 clear h
 go_enter Tryz.func166, Tryz.ntmps166
 go_wp2_with fail
 refine (HN.out _ (HH.out.keepsF (KI.out))).mono ?_
 rintro e w3 ⟨rfl, h3, k3⟩
 rw [hr]
 obtain ⟨⟨y0, y1, y2, y3, y4⟩, q0, q1, q2, q3, q4⟩ := xay k3 hpb
 have H3 := xmA h3
 have K3 := xmA k3
 have hs3 := k3.size
 simp at hs3
 clear h3 k3
 go_wp2_with fail
 obtain ⟨wE, hWE⟩ : ∃ W, st5 (w3) w.heap.size (.int .i64 3) (.slice none 0 0) (.int .i64 0) (.int .i64 0) (.slice none 0 0) = W := ⟨_, rfl⟩
 obtain ⟨r0, r1, r2, r3, r4, kE⟩ := xav (w3) w.heap.size y0 y1 y2 y3 y4 (.int .i64 3) (.slice none 0 0) (.int .i64 0) (.int .i64 0) (.slice none 0 0)
 rw [hWE] at r0 r1 r2 r3 r4 kE
 unfold st5 at hWE
 rw [hWE]
 have HKE := xmA kE
 clear kE hWE y0 y1 y2 y3 y4
 refine bodyPost_ret (by simp [results, Tryz.results166, go_sem, r0, r1, r2, r3, r4]; try rfl) rfl ?_
 exact xaB (v := ⟨3, .slice none 0 0, 0, 0, .slice none 0 0⟩) hpb HH.out.rb K3.out H3.out ⟨rfl, rfl, rfl, xbq, xbq, ⟨SlOf.nil _ _ _, fun p hp => by cases hp⟩, fun b hb => by simp [Value.ownBlock] at hb, ⟨[], SlOf.nil _ _ _, rfl⟩, fun b hb => by simp [Value.ownBlock] at hb⟩ HKE.out
set_option maxHeartbeats 8000000 in
theorem xmh {f : PS → T × PS} {rs : List Int} (hlen : rs.length ≤ 9000) (w : World) (pb : Nat) (rv : Value) (s : PS) (h : PaAt w pb rv rs s) (hr : pk rs s = 46) : xdn f rs w pb rv s := by
 have hpb := h.lt
 have hpos := (xaL (rs := rs) (s := s) (by omega)).1
 unfold xdn
 rw [show xaO f rs s = (xbn [(0, 9), (11, 1114111)], nx rs s) by unfold xaO; rw [if_neg (by omega), if_neg (by omega), if_neg (by omega), if_pos hr]]
 have HN := xmA (fun (W : World) (hW : PaAt W pb rv rs s) => xbG W pb rv rs s hW (by omega))
 have HH := xmA h
 clear h
 go_enter Tryz.func166, Tryz.ntmps166
 go_wp2_with fail
 refine (HN.out _ (HH.out.keepsF (KI.out))).mono ?_
 rintro e w3 ⟨rfl, h3, k3⟩
 rw [hr]
 have H3 := xmA h3
 have K3 := xmA k3
 have hs3 := k3.size
 simp at hs3
 clear h3 k3
 go_wp2_with fail
 refine (xek _ _).mono ?_
 rintro e w4 ⟨u4, rfl, h4⟩
 have R4 := xmA (h4.read (by simp) (by intro p hp; simp at hp; subst hp; unfold in64; simp))
 have K4 := xmA h4.2
 obtain ⟨ua, uc, rfl⟩ := xad h4.1
 clear h4
 go_wp2_with fail
 refine (xdC [(10, 10)] _ _ R4.out (by simp)).mono ?_
 rintro e w5 ⟨u5, out, rfl, hno, h5, hl5⟩
 obtain rfl : out = [(0, 9), (11, 1114111)] := xa1 _ _ hno.1 (by simp [Norm]) (fun r => by
  rw [hno.2]; apply Bool.eq_iff_iff.2; simp [has, mem, xbH]; omega)
 obtain ⟨sa, sc, rfl⟩ := xad h5.1
 have hs4 := K4.out.size
 have hs5 := h5.2.size
 have KS : Hid (xaa (xao pb) (w.alloc (.cells #[.int .i64 0, .slice none 0 0, .int .i64 0, .int .i64 0, .slice none 0 0] 52)) w5) := xmA (K3.out.trans ((K4.out.trans h5.2).mono (fun _ _ e => e.elim)))
 have HPS := xmA (H3.out.keepsF (K4.out.trans h5.2))
 have HTS : Hid (TAt w5 (fun b => w.heap.size < b ∧ b < w5.heap.size) ⟨1, .slice sa 2 sc, 0, 0, .slice none 0 0⟩ (xbn [(0, 9), (11, 1114111)])) := xmA ((xd1 h5.1 (by simp) (xh9 hno.1)).keepsTo (xaa.refl (fun _ => False) _) (fun _ _ => id) (fun b hb => ⟨by have := hb.1; omega, hb.2⟩))
 clear hno h5 hl5
 simp only [List.length_cons, List.length_nil, Nat.zero_add]
 obtain ⟨sn, hsn⟩ : ∃ n, (2 : Nat) = n := ⟨_, rfl⟩
 simp only [Nat.reduceAdd, hsn] at HTS ⊢
 clear hsn
 go_wp2_with fail
 refine (xd0 sa sn sc _).mono ?_
 rintro e w9 ⟨rfl, k9⟩
 have KX := xmA (KS.out.trans (k9.mono (T := xao pb) (fun _ _ e => e.elim)))
 have HPX := xmA (HPS.out.keepsF k9)
 have HTX := xmA (HTS.out.keepsTo (Q := fun b => w.heap.size < b ∧ b < w9.heap.size) k9 (fun _ _ => id) (fun b hb => ⟨hb.1, by have := k9.size; omega⟩))
 obtain ⟨⟨y0, y1, y2, y3, y4⟩, q0, q1, q2, q3, q4⟩ := xay KX.out hpb
 clear k9
 unfold NV.val
 go_wp2_with fail
 obtain ⟨wE, hWE⟩ : ∃ W, st5 (w9) w.heap.size (.int .i64 1) (.slice sa sn sc) (.int .i64 0) (.int .i64 0) (.slice none 0 0) = W := ⟨_, rfl⟩
 obtain ⟨r0, r1, r2, r3, r4, kE⟩ := xav (w9) w.heap.size y0 y1 y2 y3 y4 (.int .i64 1) (.slice sa sn sc) (.int .i64 0) (.int .i64 0) (.slice none 0 0)
 rw [hWE] at r0 r1 r2 r3 r4 kE
 unfold st5 at hWE
 rw [hWE]
 have HKE := xmA kE
 clear kE hWE y0 y1 y2 y3 y4
 refine bodyPost_ret (by simp [results, Tryz.results166, go_sem, r0, r1, r2, r3, r4]; try rfl) rfl ?_
 exact xaB (v := ⟨1, .slice sa sn sc, 0, 0, .slice none 0 0⟩) hpb HH.out.rb KX.out HPX.out HTX.out HKE.out
set_option maxHeartbeats 8000000 in
theorem xju {f : PS → T × PS} {rs : List Int} (hlen : rs.length ≤ 9000) (w : World) (pb : Nat) (rv : Value) (s : PS) (h : PaAt w pb rv rs s) (hr : pk rs s = 91) : xdn f rs w pb rv s := by
 have hpb := h.lt
 have hpos := (xaL (rs := rs) (s := s) (by omega)).1
 unfold xdn
 rw [show xaO f rs s = (xbn (clsL rs (nx rs s)), (clsR rs (nx rs s)).2) by unfold xaO; rw [if_neg (by omega), if_neg (by omega), if_neg (by omega), if_neg (by omega), if_pos hr]]
 have HN := xmA (fun (W : World) (hW : PaAt W pb rv rs s) => xbG W pb rv rs s hW (by omega))
 have HH := xmA h
 clear h
 have hnx : (nx rs s).pos = s.pos + 1 := by rw [xj8 (by omega)]
 have hpn : (nx rs s).pos ≤ 10000 := by omega
 obtain ⟨s1, hs1⟩ : ∃ x, nx rs s = x := ⟨_, rfl⟩
 rw [hs1] at hpn
 rw [hs1] at HN ⊢
 clear hnx hs1
 go_enter Tryz.func166, Tryz.ntmps166
 go_wp2_with fail
 refine (HN.out _ (HH.out.keepsF (KI.out))).mono ?_
 rintro e w3 ⟨rfl, h3, k3⟩
 rw [hr]
 have H3 := xmA h3
 have K3 := xmA k3
 have hs3 := k3.size
 simp at hs3
 clear h3 k3
 go_wp2_with fail
 refine (xkM _ _ _ _ _ H3.out (by omega) hpn).mono ?_
 rintro e w5 ⟨u5, rfl, h5, k5, hp5, hno⟩
 obtain ⟨sa, sc, rfl⟩ := xad h5
 have hs5 := k5.size
 have KS := xmA (K3.out.trans k5)
 have HPS := xmA hp5
 have HTS : Hid (TAt w5 (fun b => w.heap.size < b ∧ b < w5.heap.size) ⟨1, .slice sa (clsL rs s1).length sc, 0, 0, .slice none 0 0⟩ (xbn (clsL rs s1))) := xmA ((xd1 h5 (by have := xlA hno; omega) (xh9 hno)).keepsTo (xaa.refl (fun _ => False) _) (fun _ _ => id) (fun b hb => ⟨by have := hb.1; omega, hb.2⟩))
 clear hno h5 k5 hp5
 obtain ⟨sn, hsn⟩ : ∃ n, (clsL rs s1).length = n := ⟨_, rfl⟩
 rw [hsn] at HTS ⊢
 clear hsn
 go_wp2_with fail
 refine (xd0 sa sn sc _).mono ?_
 rintro e w9 ⟨rfl, k9⟩
 have KX := xmA (KS.out.trans (k9.mono (T := xao pb) (fun _ _ e => e.elim)))
 have HPX := xmA (HPS.out.keepsF k9)
 have HTX := xmA (HTS.out.keepsTo (Q := fun b => w.heap.size < b ∧ b < w9.heap.size) k9 (fun _ _ => id) (fun b hb => ⟨hb.1, by have := k9.size; omega⟩))
 obtain ⟨⟨y0, y1, y2, y3, y4⟩, q0, q1, q2, q3, q4⟩ := xay KX.out hpb
 clear k9
 unfold NV.val
 go_wp2_with fail
 obtain ⟨wE, hWE⟩ : ∃ W, st5 (w9) w.heap.size (.int .i64 1) (.slice sa sn sc) (.int .i64 0) (.int .i64 0) (.slice none 0 0) = W := ⟨_, rfl⟩
 obtain ⟨r0, r1, r2, r3, r4, kE⟩ := xav (w9) w.heap.size y0 y1 y2 y3 y4 (.int .i64 1) (.slice sa sn sc) (.int .i64 0) (.int .i64 0) (.slice none 0 0)
 rw [hWE] at r0 r1 r2 r3 r4 kE
 unfold st5 at hWE
 rw [hWE]
 have HKE := xmA kE
 clear kE hWE y0 y1 y2 y3 y4
 refine bodyPost_ret (by simp [results, Tryz.results166, go_sem, r0, r1, r2, r3, r4]; try rfl) rfl ?_
 exact xaB (v := ⟨1, .slice sa sn sc, 0, 0, .slice none 0 0⟩) hpb HH.out.rb KX.out HPX.out HTX.out HKE.out
set_option maxHeartbeats 8000000 in
theorem xmf {f : PS → T × PS} {rs : List Int} (hlen : rs.length ≤ 9000) (w : World) (pb : Nat) (rv : Value) (s : PS) (h : PaAt w pb rv rs s) (hr : pk rs s = 92) : xdn f rs w pb rv s := by
 have hpb := h.lt
 have hpos := (xaL (rs := rs) (s := s) (by omega)).1
 unfold xdn
 rw [show xaO f rs s = (xbn (escL rs (nx rs s)), escS rs (nx rs s)) by unfold xaO; rw [if_neg (by omega), if_neg (by omega), if_neg (by omega), if_neg (by omega), if_neg (by omega), if_pos hr]]
 have HN := xmA (fun (W : World) (hW : PaAt W pb rv rs s) => xbG W pb rv rs s hW (by omega))
 have HH := xmA h
 clear h
 have hnx : (nx rs s).pos = s.pos + 1 := by rw [xj8 (by omega)]
 have hpn : (nx rs s).pos + 1 ≤ 1000000 := by omega
 obtain ⟨s1, hs1⟩ : ∃ x, nx rs s = x := ⟨_, rfl⟩
 rw [hs1] at hpn
 rw [hs1] at HN ⊢
 clear hnx hs1
 go_enter Tryz.func166, Tryz.ntmps166
 go_wp2_with fail
 refine (HN.out _ (HH.out.keepsF (KI.out))).mono ?_
 rintro e w3 ⟨rfl, h3, k3⟩
 rw [hr]
 have H3 := xmA h3
 have K3 := xmA k3
 have hs3 := k3.size
 simp at hs3
 clear h3 k3
 go_wp2_with fail
 refine (xfb _ _ _ _ _ H3.out hpn).mono ?_
 rintro e w5 ⟨u5, rfl, h5, hp5, k5⟩
 have hel := xfH HH.out.rng s1
 obtain ⟨sa, sc, rfl⟩ := xad h5
 have hs5 := k5.size
 have KS := xmA (K3.out.trans k5)
 have HPS := xmA hp5
 have HTS : Hid (TAt w5 (fun b => w.heap.size < b ∧ b < w5.heap.size) ⟨1, .slice sa (escL rs s1).length sc, 0, 0, .slice none 0 0⟩ (xbn (escL rs s1))) := xmA ((xd1 h5 (by omega) (fun p hp => by have := hel.2.2 p hp; unfold in64; omega)).keepsTo (xaa.refl (fun _ => False) _) (fun _ _ => id) (fun b hb => ⟨by have := hb.1; omega, hb.2⟩))
 clear hel h5 k5 hp5
 obtain ⟨sn, hsn⟩ : ∃ n, (escL rs s1).length = n := ⟨_, rfl⟩
 rw [hsn] at HTS ⊢
 clear hsn
 go_wp2_with fail
 refine (xd0 sa sn sc _).mono ?_
 rintro e w9 ⟨rfl, k9⟩
 have KX := xmA (KS.out.trans (k9.mono (T := xao pb) (fun _ _ e => e.elim)))
 have HPX := xmA (HPS.out.keepsF k9)
 have HTX := xmA (HTS.out.keepsTo (Q := fun b => w.heap.size < b ∧ b < w9.heap.size) k9 (fun _ _ => id) (fun b hb => ⟨hb.1, by have := k9.size; omega⟩))
 obtain ⟨⟨y0, y1, y2, y3, y4⟩, q0, q1, q2, q3, q4⟩ := xay KX.out hpb
 clear k9
 unfold NV.val
 go_wp2_with fail
 obtain ⟨wE, hWE⟩ : ∃ W, st5 (w9) w.heap.size (.int .i64 1) (.slice sa sn sc) (.int .i64 0) (.int .i64 0) (.slice none 0 0) = W := ⟨_, rfl⟩
 obtain ⟨r0, r1, r2, r3, r4, kE⟩ := xav (w9) w.heap.size y0 y1 y2 y3 y4 (.int .i64 1) (.slice sa sn sc) (.int .i64 0) (.int .i64 0) (.slice none 0 0)
 rw [hWE] at r0 r1 r2 r3 r4 kE
 unfold st5 at hWE
 rw [hWE]
 have HKE := xmA kE
 clear kE hWE y0 y1 y2 y3 y4
 refine bodyPost_ret (by simp [results, Tryz.results166, go_sem, r0, r1, r2, r3, r4]; try rfl) rfl ?_
 exact xaB (v := ⟨1, .slice sa sn sc, 0, 0, .slice none 0 0⟩) hpb HH.out.rb KX.out HPX.out HTX.out HKE.out
set_option maxHeartbeats 8000000 in
theorem xjt {f : PS → T × PS} {rs : List Int} (hlen : rs.length ≤ 9000) (w : World) (pb : Nat) (rv : Value) (s : PS) (h : PaAt w pb rv rs s) (hr : 0 ≤ pk rs s ∧ pk rs s ≠ 40 ∧ pk rs s ≠ 94 ∧ pk rs s ≠ 36 ∧ pk rs s ≠ 46 ∧ pk rs s ≠ 91 ∧ pk rs s ≠ 92) : xdn f rs w pb rv s := by
 have hpb := h.lt
 have hpos := (xaL (rs := rs) (s := s) (by omega)).1
 unfold xdn
 rw [show xaO f rs s = (xbn [(pk rs s, pk rs s)], ⟨s.pos + 1, s.deep, (nx rs s).bad || amg sgL (pk rs s)⟩) by unfold xaO; rw [if_neg hr.2.1, if_neg hr.2.2.1, if_neg hr.2.2.2.1, if_neg hr.2.2.2.2.1, if_neg hr.2.2.2.2.2.1, if_neg hr.2.2.2.2.2.2]]
 have HN := xmA (fun (W : World) (hW : PaAt W pb rv rs s) => xbG W pb rv rs s hW (by omega))
 have HH := xmA h
 clear h
 have hb : s.bad = false := (xaL (rs := rs) (s := s) (by omega)).2
 have hnx : nx rs s = ⟨s.pos + 1, s.deep, false⟩ := by rw [xj8 (by omega), hb]
 rw [hnx] at HN ⊢
 have hle := xj1 HH.out
 obtain ⟨h0, m1, m2, m3, m4, m5, m6⟩ := hr
 have f1 : (pk rs s == 40) = false := by simpa using m1
 have f2 : (pk rs s == 94) = false := by simpa using m2
 have f3 : (pk rs s == 36) = false := by simpa using m3
 have f4 : (pk rs s == 46) = false := by simpa using m4
 have f5 : (pk rs s == 91) = false := by simpa using m5
 have f6 : (pk rs s == 92) = false := by simpa using m6
 have HG : Hid (∀ W, Calls Tryz.prog 202 #[.string ⟨#[46, 94, 36, 124, 40, 41, 91, 93, 123, 125, 42, 43, 63, 92]⟩, .int .i64 (pk rs s)] W fun e w' => e = .returned (.bool (amg sgL (pk rs s))) ∧ W = w') := xmA (fun W => xcu ⟨#[46, 94, 36, 124, 40, 41, 91, 93, 123, 125, 42, 43, 63, 92]⟩ (pk rs s) W)
 obtain ⟨q, hq⟩ : ∃ q, amg sgL (pk rs s) = q := ⟨_, rfl⟩
 rw [hq] at HG ⊢
 clear hq hnx m1 m2 m3 m4 m5 m6
 simp only [Bool.false_or]
 generalize pk rs s = r at *
 go_enter Tryz.func166, Tryz.ntmps166
 go_wp2_with fail
 refine (HN.out _ (HH.out.keepsF (KI.out))).mono ?_
 rintro e w3 ⟨rfl, h3, k3⟩
 have c3 := h3.c3
 have r3 := h3.fr 3
 have hb3 := h3.lt
 simp only at c3
 have H3 := xmA h3
 have K3 := xmA k3
 have hs3 := k3.size
 simp at hs3
 clear h3 k3
 go_wp2_with fail
 refine (HG.out _).mono ?_
 rintro e w4 ⟨rfl, rfl⟩
 have HP4 : Hid (PaAt (w3.setCell ⟨pb, 3, none⟩ (.bool q)) pb rv rs ⟨s.pos + 1, s.deep, q⟩) := xmA (H3.out.setBad q)
 have K4 := xmA (K3.out.set (p := ⟨pb, 3, none⟩) rfl (.bool q))
 go_wp2_with fail
 refine (xek _ _).mono ?_
 rintro e w5 ⟨u5, rfl, h5⟩
 obtain ⟨sa, sc, rfl⟩ := xad h5.1
 have hs5 := h5.2.size
 have hs4 := K4.out.size
 simp at hs4
 have KS : Hid (xaa (xao pb) (w.alloc (.cells #[.int .i64 0, .slice none 0 0, .int .i64 0, .int .i64 0, .slice none 0 0] 52)) w5) := xmA (K4.out.trans (h5.2.mono (fun _ _ e => e.elim)))
 have HPS := xmA (HP4.out.keepsF h5.2)
 have HTS : Hid (TAt w5 (fun b => w.heap.size < b ∧ b < w5.heap.size) ⟨1, .slice sa 1 sc, 0, 0, .slice none 0 0⟩ (xbn [(r, r)])) := xmA ((xd1 h5.1 (by simp) (by intro p hp; simp at hp; subst hp; unfold in64; simp only; omega)).keepsTo (xaa.refl (fun _ => False) _) (fun _ _ => id) (fun b hb => ⟨by have := hb.1; simp at this; omega, hb.2⟩))
 clear h5
 obtain ⟨sn, hsn⟩ : ∃ n, (1 : Nat) = n := ⟨_, rfl⟩
 simp only [List.length_cons, List.length_nil, Nat.zero_add, hsn] at HTS ⊢
 clear hsn
 go_wp2_with fail
 refine (xd0 sa sn sc _).mono ?_
 rintro e w9 ⟨rfl, k9⟩
 have KX := xmA (KS.out.trans (k9.mono (T := xao pb) (fun _ _ e => e.elim)))
 have HPX := xmA (HPS.out.keepsF k9)
 have HTX := xmA (HTS.out.keepsTo (Q := fun b => w.heap.size < b ∧ b < w9.heap.size) k9 (fun _ _ => id) (fun b hb => ⟨hb.1, by have := k9.size; omega⟩))
 obtain ⟨⟨y0, y1, y2, y3, y4⟩, q0, q1, q2, q3, q4⟩ := xay KX.out hpb
 clear k9
 unfold NV.val
 go_wp2_with fail
 obtain ⟨wE, hWE⟩ : ∃ W, st5 (w9) w.heap.size (.int .i64 1) (.slice sa sn sc) (.int .i64 0) (.int .i64 0) (.slice none 0 0) = W := ⟨_, rfl⟩
 obtain ⟨r0, r1, r2, r3, r4, kE⟩ := xav (w9) w.heap.size y0 y1 y2 y3 y4 (.int .i64 1) (.slice sa sn sc) (.int .i64 0) (.int .i64 0) (.slice none 0 0)
 rw [hWE] at r0 r1 r2 r3 r4 kE
 unfold st5 at hWE
 rw [hWE]
 have HKE := xmA kE
 clear kE hWE y0 y1 y2 y3 y4
 refine bodyPost_ret (by simp [results, Tryz.results166, go_sem, r0, r1, r2, r3, r4]; try rfl) rfl ?_
 exact xaB (v := ⟨1, .slice sa sn sc, 0, 0, .slice none 0 0⟩) hpb HH.out.rb KX.out HPX.out HTX.out HKE.out
theorem xmi {f : PS → T × PS} {rs : List Int} {C D : PS → Prop} (H : xk5 f rs C D) (w : World) (pb : Nat) (rv : Value) (s : PS) (h : PaAt w pb rv rs s) (hi : Inv rs s) (hd : D s) (hr : 0 ≤ pk rs s) : xdn f rs w pb rv s := by
 by_cases h1 : pk rs s = 40
 · exact xjs H w pb rv s h hi hd h1
 by_cases h2 : pk rs s = 94
 · exact xjv H.len w pb rv s h h2
 by_cases h3 : pk rs s = 36
 · exact xmg H.len w pb rv s h h3
 by_cases h4 : pk rs s = 46
 · exact xmh H.len w pb rv s h h4
 by_cases h5 : pk rs s = 91
 · exact xju H.len w pb rv s h h5
 by_cases h6 : pk rs s = 92
 · exact xmf H.len w pb rv s h h6
 exact xjt H.len w pb rv s h ⟨hr, h1, h2, h3, h4, h5, h6⟩
structure TV where
 k : Int
 r : Int
 sv : Value
 m : Int
 x : Int
def encK (v : TV) (j : Nat) : Value := if j = 0 then .int .i64 v.k else if j = 1 then .int .i64 v.r else if j = 2 then v.sv else if j = 3 then .int .i64 v.m else .int .i64 v.x
def TV.val (v : TV) : Value := .agg #[.int .i64 v.k, .int .i64 v.r, v.sv, .int .i64 v.m, .int .i64 v.x]
theorem xjb (v : TV) : (List.range 5).map (encK v) = [.int .i64 v.k, .int .i64 v.r, v.sv, .int .i64 v.m, .int .i64 v.x] := rfl
def KAt (w : World) (P : Nat → Prop) (v : TV) : Prop := (v.k = 0 ∨ v.k = 1 ∨ v.k = 2) ∧ (∃ s, RSl w v.sv s) ∧ (∀ b, v.sv.ownBlock = some b → P b) ∧ in64 v.m ∧ in64 v.x
theorem KAt.form {w : World} {P : Nat → Prop} {v : TV} (h : KAt w P v) : ∃ a n c, v.sv = .slice a n c := by
 obtain ⟨_, ⟨s, hs⟩, _⟩ := h
 obtain ⟨a, c, e⟩ := hs.form
 exact ⟨a, _, c, e⟩
theorem KAt.keepsTo {S P Q : Nat → Prop} {w w' : World} {v : TV} (h : KAt w P v) (K : xaa S w w') (hs : ∀ b, P b → ¬ S b) (hq : ∀ b, P b → Q b) : KAt w' Q v := by
 obtain ⟨h0, ⟨s, h1⟩, h2, h3⟩ := h
 exact ⟨h0, ⟨s, h1.keeps K (fun b hb => hs b (h2 b hb))⟩, fun b hb => hq b (h2 b hb), h3⟩
theorem KAt.bare (w : World) (P : Nat → Prop) {k m x : Int} (r : Int) (hk : k = 0 ∨ k = 1 ∨ k = 2) (h : in64 m ∧ in64 x) : KAt w P ⟨k, r, .slice none 0 0, m, x⟩ :=
 ⟨hk, ⟨[], SlOf.nil _ _ _, fun p hp => by cases hp⟩, fun b hb => by simp [Value.ownBlock] at hb, h⟩
structure KsAt (w : World) (D : Nat → Prop) (v : Value) (vs : List TV) : Prop where
 row : SlOf 5 encK w v vs
 tok : ∀ (i : Nat) (x : TV), vs[i]? = some x → KAt w D x
theorem KsAt.keep {w w' : World} {D : Nat → Prop} {v : Value} {vs : List TV} (h : KsAt w D v vs) (K : xaa (fun _ => False) w w') : KsAt w' D v vs :=
 ⟨h.row.keep K, fun i x hx => (h.tok i x hx).keepsTo K (fun _ _ => id) (fun b hb => hb)⟩
theorem KsAt.form {w : World} {D : Nat → Prop} {v : Value} {vs : List TV} (h : KsAt w D v vs) : ∃ a cap, v = .slice a vs.length cap := h.row.form
theorem KsAt.at {w : World} {D : Nat → Prop} {n cap : Nat} {a : Option Addr} {vs : List TV} (h : KsAt w D (.slice a n cap) vs) {i : Nat} (hi : i < vs.length) :
 ∃ b off k r d e f m x, a = some ⟨b, off, none⟩ ∧ vs[i]? = some ⟨k, r, .slice d e f, m, x⟩ ∧ KAt w D ⟨k, r, .slice d e f, m, x⟩ ∧ b < w.heap.size ∧
 w.cell? ⟨b, off + i * 5, none⟩ = some (.int .i64 k) ∧ w.cell? ⟨b, off + i * 5 + 1, none⟩ = some (.int .i64 r) ∧ w.cell? ⟨b, off + i * 5 + 2, none⟩ = some (.slice d e f) ∧ w.cell? ⟨b, off + i * 5 + 3, none⟩ = some (.int .i64 m) ∧ w.cell? ⟨b, off + i * 5 + 4, none⟩ = some (.int .i64 x) := by
 obtain ⟨⟨k, r, sv, m, x⟩, hx⟩ : ∃ x, vs[i]? = some x := ⟨_, List.getElem?_eq_getElem hi⟩
 have hk := h.tok i _ hx
 obtain ⟨d, e, f, hs⟩ := hk.form
 obtain rfl := hs
 obtain ⟨a', cap', e', _, _, hc⟩ := h.row
 obtain ⟨rfl, _, rfl⟩ := Value.slice.inj e'
 obtain ⟨b, off, rfl, hcc⟩ := hc (by omega)
 have x0 := hcc i _ hx 0 (by omega)
 have x1 := hcc i _ hx 1 (by omega)
 have x2 := hcc i _ hx 2 (by omega)
 have x3 := hcc i _ hx 3 (by omega)
 have x4 := hcc i _ hx 4 (by omega)
 simp only [encK] at x0 x1 x2 x3 x4
 exact ⟨b, off, k, r, d, e, f, m, x, rfl, hx, hk, xan x0, by simpa using x0, by simpa using x1, by simpa using x2, by simpa using x3, by simpa using x4⟩
theorem KsAt.part {w : World} {D : Nat → Prop} {b off n cap : Nat} {vs : List TV} (h : KsAt w D (.slice (some ⟨b, off, none⟩) n cap) vs) (i c : Nat) (hc : i + c ≤ n) :
 KsAt w D (.slice (some ⟨b, off + i * 5, none⟩) c (cap - i)) ((vs.drop i).take c) ∧ ((vs.drop i).take c).length = c := by
 obtain ⟨a', cap', e', hcap, hl2, hcc⟩ := h.row
 obtain ⟨e1, rfl, rfl⟩ := Value.slice.inj e'
 subst e1
 have hlen : ((vs.drop i).take c).length = c := by simp; omega
 have hget : ∀ j x, ((vs.drop i).take c)[j]? = some x → vs[i + j]? = some x := fun j x hx => by
  rw [List.getElem?_take] at hx
  split at hx
  · rwa [List.getElem?_drop] at hx
  cases hx
 refine ⟨⟨⟨_, _, by rw [hlen], ⟨by rw [hlen]; omega, fun h => by cases h⟩, by omega, fun h0 => ?_⟩, fun j x hx => h.tok _ _ (hget j x hx)⟩, hlen⟩
 obtain ⟨b', off', e1, hc'⟩ := hcc (by omega)
 injection e1 with e1
 injection e1 with e1 e2
 subst e1 e2
 refine ⟨_, _, rfl, fun j x hx k hk => ?_⟩
 have := hc' (i + j) x (hget j x hx) k hk
 rw [show off + i * 5 + j * 5 + k = off + (i + j) * 5 + k by omega]; exact this
def CloW (at0 n : Nat) (w : World) (e : Ending) (w' : World) : Prop := ∃ k : Int, e = .returned (.int .i64 k) ∧ (k = -1 ∨ ∃ c : Nat, k = (c : Int) ∧ at0 < c ∧ c < n) ∧ xaa (fun _ => False) w w'
set_option maxHeartbeats 4000000 in
theorem xmd (D : Nat → Prop) (v : Value) (vs : List TV) (at0 : Nat) (w : World) (h : KsAt w D v vs) (hl : vs.length ≤ 1000) (h0 : at0 < vs.length) (ha : ∀ x : TV, vs[at0]? = some x → x.r ≠ 41) :
 Calls Tryz.prog 99 #[v, .int .i64 at0] w (CloW at0 vs.length w) := by
 obtain ⟨a, cap, rfl⟩ := h.form
 have HA := xmA ha
 have HH := xmA h
 clear h ha
 go_enter Tryz.func99, Tryz.ntmps99
 go_wp2_with fail
 go_loopw [5, 6] (fun dv iv wr => (∃ d : Int, dv = .int .i64 d) ∧ (∃ i : Nat, iv = .int .i64 i ∧ at0 ≤ i ∧ i ≤ vs.length) ∧ xaa (fun _ => False) w wr) (fun _ iv _ => vs.length + 1 - (intOf iv).toNat)
 case atStart => exact ⟨⟨0, rfl⟩, ⟨at0, rfl, by omega, by omega⟩, xaa.refl _ _⟩
 case round =>
  obtain ⟨⟨d, rfl⟩, ⟨i, rfl, hai, hi⟩, hK⟩ := hrel
  have HK := xmA hK
  clear hK
  by_cases hil : i < vs.length
  · obtain ⟨b, off, k, r, sd, se, sf, m, x, rfl, hx, hk, hlt, x0, x1, x2, x3, x4⟩ := (HH.out.keep HK.out).at hil
    have hid : decide ((i : Int) < (vs.length : Int)) = true := by simpa using hil
    have hid0 : (i : Int) < (vs.length : Int) := by omega
    have HR : Hid (r = 41 → at0 < i) := xmA (fun e => by
     rcases Nat.lt_or_ge at0 i with h | h
     · exact h
     obtain rfl : at0 = i := by omega
     exact absurd e (HA.out _ hx))
    clear x2 x3 x4 hx hk
    by_cases h41 : r = 41
    · have hai2 := HR.out h41
      subst h41
      go_wp2_with fail
      all_goals first
       | (go_ret; exact ⟨_, rfl, Or.inr ⟨i, by first | rfl | go_num, by omega, by omega⟩, HK.out⟩)
       | (go_roundw
          case rel => exact ⟨⟨_, rfl⟩, ⟨i + 1, by go_num, by omega, by omega⟩, HK.out⟩
          case measure => simp [intOf]; omega)
    have g41 : (r == 41) = false := beq_eq_false_iff_ne.2 h41
    go_wp2_with fail
    all_goals (
     go_roundw
     case rel => exact ⟨⟨_, rfl⟩, ⟨i + 1, by go_num, by omega, by omega⟩, HK.out⟩
     case measure => simp [intOf]; omega)
  have hid : decide ((i : Int) < (vs.length : Int)) = false := by simp; omega
  go_wp2_with fail
  go_ret
  exact ⟨_, rfl, Or.inl rfl, HK.out⟩
set_option maxHeartbeats 1000000 in
theorem xhR (op : Int) (kv : Value) (vs : List NV) (l : List T) (P : Nat → Prop) (w : World) (hk : SlOf 5 encN w kv vs) (hf : FAt w P (F.ofL l) vs) (hb : ∀ b, kv.ownBlock = some b → P b) :
 Calls Tryz.prog 98 #[.int .i64 op, kv] w fun e w' => ∃ v : NV, e = .returned v.val ∧ TAt w' P v (xcc op l) ∧ xaa (fun _ => False) w w' := by
 have hlen := hf.len
 obtain ⟨a, cap, rfl⟩ := hk.form
 rcases l with _ | ⟨t, _ | ⟨t2, l⟩⟩
 · obtain rfl : vs = [] := List.length_eq_zero_iff.1 hlen
   go_enter Tryz.func98, Tryz.ntmps98
   go_wp2_with fail
   go_returns
   exact ⟨⟨0, .slice none 0 0, 0, 0, .slice none 0 0⟩, rfl, TAt.zero _ _, KI.out⟩
 · obtain ⟨v, rfl⟩ : ∃ v, vs = [v] := List.length_eq_one_iff.1 hlen
   obtain ⟨v', vs', he, ht, _⟩ := FAt.cons_iff.1 hf
   obtain ⟨rfl, rfl⟩ := List.cons.inj he
   obtain ⟨b, off, rfl, hc⟩ := (by obtain ⟨a', cap', he, _, _, hc⟩ := hk; obtain ⟨rfl, _, rfl⟩ := Value.slice.inj he; exact hc (by simp) : ∃ b off, a = some ⟨b, off, none⟩ ∧ ∀ i x, [v][i]? = some x → ∀ j, j < 5 → w.cell? ⟨b, off + i * 5 + j, none⟩ = some (encN x j))
   have x0 : w.cell? ⟨b, off, none⟩ = some (.int .i64 v.op) := by simpa [encN] using hc 0 v rfl 0 (by omega)
   have x1 : w.cell? ⟨b, off + 1, none⟩ = some v.sv := by simpa [encN] using hc 0 v rfl 1 (by omega)
   have x2 : w.cell? ⟨b, off + 2, none⟩ = some (.int .i64 v.mn) := by simpa [encN] using hc 0 v rfl 2 (by omega)
   have x3 : w.cell? ⟨b, off + 3, none⟩ = some (.int .i64 v.mx) := by simpa [encN] using hc 0 v rfl 3 (by omega)
   have x4 : w.cell? ⟨b, off + 4, none⟩ = some v.kv := by simpa [encN] using hc 0 v rfl 4 (by omega)
   clear hc
   have hlt : b < w.heap.size := xan x0
   obtain ⟨vo, vsv, vm, vx, vk⟩ := v
   obtain ⟨a1, c1, e1⟩ := ht.set.form
   obtain ⟨ks, hks, _⟩ := ht.kids
   obtain ⟨a2, c2, e2⟩ := hks.form
   obtain rfl := e1
   obtain rfl := e2
   generalize ks.length = n2 at *
   generalize t.set.length = n1 at *
   have HT := xmA ht
   clear ht hf hk hb hks
   go_enter Tryz.func98, Tryz.ntmps98
   go_wp2_with fail
   go_returns
   have K : xaa (fun _ => False) w (w.alloc (.cells #[.int .i64 vo, .slice a1 n1 c1, .int .i64 vm, .int .i64 vx, .slice a2 n2 c2] 52)) := KI.out
   exact ⟨_, rfl, HT.out.keepsTo K (fun _ _ => id) (fun _ h => h), K⟩
 have hl2 : 2 ≤ vs.length := by rw [hlen]; simp
 have HK := xmA hk
 have HF := xmA hf
 have HB := xmA hb
 have g1 : ((vs.length : Int) == 0) = false := beq_eq_false_iff_ne.2 (by omega)
 have g2 : ((vs.length : Int) == 1) = false := beq_eq_false_iff_ne.2 (by omega)
 clear hk hf hb hlen hl2
 generalize vs.length = N at *
 go_enter Tryz.func98, Tryz.ntmps98
 go_wp2_with fail
 go_returns
 have K : xaa (fun _ => False) w (w.alloc (.cells #[.int .i64 op, .slice none 0 0, .int .i64 0, .int .i64 0, .slice a N cap] 52)) := KI.out
 exact ⟨⟨op, .slice none 0 0, 0, 0, _⟩, rfl, ⟨rfl, rfl, rfl, xbq, xbq, ⟨SlOf.nil _ _ _, fun p hp => by cases hp⟩, fun b hb => by simp [Value.ownBlock] at hb, ⟨_, HK.out.keep K, HF.out.keepsTo K (fun _ _ => id) (fun _ h => h)⟩, HB.out⟩, K⟩
end Go.Proofs.YtjahiihmoglpfaaGreatDoor
