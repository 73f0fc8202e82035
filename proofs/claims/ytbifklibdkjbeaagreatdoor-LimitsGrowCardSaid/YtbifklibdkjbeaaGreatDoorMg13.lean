/-
  Several texts in one: The parser's atom: all its other cases. The document's Tree: the two rows of nodes that it gathers. (*maker).alt.
-/
import Derived.Test.YtbifklibdkjbeaaGreatDoorMg12
import Derived.Test.YtbifklibdkjbeaaGreatDoorMg6
import Derived.Maps.AppendAt
import Derived.Deep.AppendLies
import Derived.Test.YtbifklibdkjbeaaGreatDoorMg10
import Derived.BigRegion
namespace Go.Proofs.YtbifklibdkjbeaaGreatDoor
open Go.RowKit
set_option linter.unusedVariables false
set_option linter.unusedSimpArgs false
set_option maxRecDepth 100000
set_option maxHeartbeats 8000000
theorem xaz {w wX : World} {pb : Nat} (K : xa (xaj pb) (w.alloc (.cells #[.int .i64 0, .slice none 0 0, .int .i64 0, .int .i64 0, .slice none 0 0] 154)) wX) (hpb : pb < w.heap.size) :
 (wX.cell? ⟨w.heap.size, 0, none⟩ = some (.int .i64 0) ∧ wX.cell? ⟨w.heap.size, 1, none⟩ = some (.slice none 0 0) ∧ wX.cell? ⟨w.heap.size, 2, none⟩ = some (.int .i64 0) ∧ wX.cell? ⟨w.heap.size, 3, none⟩ = some (.int .i64 0) ∧ wX.cell? ⟨w.heap.size, 4, none⟩ = some (.slice none 0 0)) ∧
 (wX.frozen? ⟨w.heap.size, 0, none⟩ = false ∧ wX.frozen? ⟨w.heap.size, 1, none⟩ = false ∧ wX.frozen? ⟨w.heap.size, 2, none⟩ = false ∧ wX.frozen? ⟨w.heap.size, 3, none⟩ = false ∧ wX.frozen? ⟨w.heap.size, 4, none⟩ = false) := by
 have hne1 : ¬ (w.heap.size = pb) := by omega
 exact ⟨⟨K.cell (by simp [go_sem]) hne1, K.cell (by simp [go_sem]) hne1, K.cell (by simp [go_sem]) hne1, K.cell (by simp [go_sem]) hne1, K.cell (by simp [go_sem]) hne1⟩,
  K.frozen (by simp [go_sem]) (by simp) hne1, K.frozen (by simp [go_sem]) (by simp) hne1, K.frozen (by simp [go_sem]) (by simp) hne1, K.frozen (by simp [go_sem]) (by simp) hne1, K.frozen (by simp [go_sem]) (by simp) hne1⟩
theorem xaD {w wX wE : World} {pb : Nat} {rv : Value} {rs : List Int} {s' : PS} {t : T} {v : NV} (hpb : pb < w.heap.size) (hrb : ∀ b, rv.ownBlock = some b → b < w.heap.size)
 (K : xa (xaj pb) (w.alloc (.cells #[.int .i64 0, .slice none 0 0, .int .i64 0, .int .i64 0, .slice none 0 0] 154)) wX) (hP : PaAt wX pb rv rs s')
 (hT : TAt wX (fun b => w.heap.size < b ∧ b < wX.heap.size) v t) (kE : xa (fun b => b = w.heap.size) wX wE) : xda w pb rv rs (t, s') (.returned v.val) wE := by
 have hs := K.size
 simp at hs
 have hs2 := kE.size
 refine ⟨v, rfl, hT.keepsTo kE (fun b hb e => by omega) (fun b hb => ⟨by omega, by omega⟩), hP.keeps kE (by omega) (fun b hb e => by have := hrb b hb; omega), ?_⟩
 exact (xa.trans (KI.out) K).trans2 kE (fun b hb e => by omega)
theorem xec {w' : World} {lo : Nat} {u : Value} {L : List (Int × Int)} (h : w'.ownsRow lo 287 2 u L.length (cellsOf 2 encR L)) (hl : L.length ≤ 4611686018427387904) (hr : ∀ p ∈ L, in64 p.1 ∧ in64 p.2) :
 TAt w' (fun b => lo ≤ b ∧ b < w'.heap.size) ⟨1, u, 0, 0, .slice none 0 0⟩ (xbx L) := by
 exact ⟨rfl, rfl, rfl, xbr, xbr, ⟨SlOf.ofOwn h hl, hr⟩, fun b hb => ⟨xaa h b hb, xaM h b hb⟩, ⟨[], SlOf.nil _ _ _, rfl⟩, fun b hb => by simp [Value.ownBlock] at hb⟩
theorem xnb {l : List (Int × Int)} (h : Norm l) : l.length ≤ 1114112 := by
 have h1 := (xej l h).2
 have h2 : ∀ l : List (Int × Int), (∀ p ∈ l, p.1 ≤ p.2) → (l.length : Int) ≤ sumR l := by
  intro l
  induction l with
  | nil => intro _; simp [xmO]
  | cons p l ih =>
   intro hp
   have h3 := ih (fun q hq => hp q (by simp [hq]))
   have h4 := hp p (by simp)
   rw [xek]; simp; omega
 have h5 := h2 l (fun p hp => (h.rng p hp).2.1)
 omega
def xdx (f : PS → T × PS) (rs : List Int) (w : World) (pb : Nat) (rv : Value) (s : PS) : Prop :=
 Calls Tryz.prog 218 #[.pointer (some ⟨pb, 0, none⟩)] w (xda w pb rv rs (xav f rs s))
theorem xkn {f : PS → T × PS} {rs : List Int} (hlen : rs.length ≤ 9000) (w : World) (pb : Nat) (rv : Value) (s : PS) (h : PaAt w pb rv rs s) (hr : pk rs s = 94) : xdx f rs w pb rv s := by
 have hpb := h.lt
 have hpos := (xaJ (rs := rs) (s := s) (by omega)).1
 unfold xdx
 rw [show xav f rs s = (⟨2, [], 0, 0, .nil⟩, nx rs s) by unfold xav; rw [if_neg (by omega), if_pos hr]]
 have HN := xoo (fun (W : World) (hW : PaAt W pb rv rs s) => xbK W pb rv rs s hW (by omega))
 have HH := xoo h
 clear h
 go_enter Tryz.func218, Tryz.ntmps218
 go_wp2_with fail
 refine (HN.out _ (HH.out.keepsF (KI.out))).mono ?_
 rintro e w3 ⟨rfl, h3, k3⟩
 rw [hr]
 obtain ⟨⟨y0, y1, y2, y3, y4⟩, q0, q1, q2, q3, q4⟩ := xaz k3 hpb
 have H3 := xoo h3
 have K3 := xoo k3
 have hs3 := k3.size
 simp at hs3
 clear h3 k3
 go_wp2_with fail
 obtain ⟨wE, hWE⟩ : ∃ W, st5 (w3) w.heap.size (.int .i64 2) (.slice none 0 0) (.int .i64 0) (.int .i64 0) (.slice none 0 0) = W := ⟨_, rfl⟩
 obtain ⟨r0, r1, r2, r3, r4, kE⟩ := xam (w3) w.heap.size y0 y1 y2 y3 y4 (.int .i64 2) (.slice none 0 0) (.int .i64 0) (.int .i64 0) (.slice none 0 0)
 rw [hWE] at r0 r1 r2 r3 r4 kE
 unfold st5 at hWE
 rw [hWE]
 have HKE := xoo kE
 clear kE hWE y0 y1 y2 y3 y4
 refine bodyPost_ret (by simp [results, Tryz.results218, go_sem, r0, r1, r2, r3, r4]; try rfl) rfl ?_
 exact xaD (v := ⟨2, .slice none 0 0, 0, 0, .slice none 0 0⟩) hpb HH.out.rb K3.out H3.out ⟨rfl, rfl, rfl, xbr, xbr, ⟨SlOf.nil _ _ _, fun p hp => by cases hp⟩, fun b hb => by simp [Value.ownBlock] at hb, ⟨[], SlOf.nil _ _ _, rfl⟩, fun b hb => by simp [Value.ownBlock] at hb⟩ HKE.out
theorem xnP {f : PS → T × PS} {rs : List Int} (hlen : rs.length ≤ 9000) (w : World) (pb : Nat) (rv : Value) (s : PS) (h : PaAt w pb rv rs s) (hr : pk rs s = 36) : xdx f rs w pb rv s := by
 have hpb := h.lt
 have hpos := (xaJ (rs := rs) (s := s) (by omega)).1
 unfold xdx
 rw [show xav f rs s = (⟨3, [], 0, 0, .nil⟩, nx rs s) by unfold xav; rw [if_neg (by omega), if_neg (by omega), if_pos hr]]
 have HN := xoo (fun (W : World) (hW : PaAt W pb rv rs s) => xbK W pb rv rs s hW (by omega))
 have HH := xoo h
 clear h
 go_enter Tryz.func218, Tryz.ntmps218
 go_wp2_with fail
 refine (HN.out _ (HH.out.keepsF (KI.out))).mono ?_
 rintro e w3 ⟨rfl, h3, k3⟩
 rw [hr]
 obtain ⟨⟨y0, y1, y2, y3, y4⟩, q0, q1, q2, q3, q4⟩ := xaz k3 hpb
 have H3 := xoo h3
 have K3 := xoo k3
 have hs3 := k3.size
 simp at hs3
 clear h3 k3
 go_wp2_with fail
 obtain ⟨wE, hWE⟩ : ∃ W, st5 (w3) w.heap.size (.int .i64 3) (.slice none 0 0) (.int .i64 0) (.int .i64 0) (.slice none 0 0) = W := ⟨_, rfl⟩
 obtain ⟨r0, r1, r2, r3, r4, kE⟩ := xam (w3) w.heap.size y0 y1 y2 y3 y4 (.int .i64 3) (.slice none 0 0) (.int .i64 0) (.int .i64 0) (.slice none 0 0)
 rw [hWE] at r0 r1 r2 r3 r4 kE
 unfold st5 at hWE
 rw [hWE]
 have HKE := xoo kE
 clear kE hWE y0 y1 y2 y3 y4
 refine bodyPost_ret (by simp [results, Tryz.results218, go_sem, r0, r1, r2, r3, r4]; try rfl) rfl ?_
 exact xaD (v := ⟨3, .slice none 0 0, 0, 0, .slice none 0 0⟩) hpb HH.out.rb K3.out H3.out ⟨rfl, rfl, rfl, xbr, xbr, ⟨SlOf.nil _ _ _, fun p hp => by cases hp⟩, fun b hb => by simp [Value.ownBlock] at hb, ⟨[], SlOf.nil _ _ _, rfl⟩, fun b hb => by simp [Value.ownBlock] at hb⟩ HKE.out
theorem xnQ {f : PS → T × PS} {rs : List Int} (hlen : rs.length ≤ 9000) (w : World) (pb : Nat) (rv : Value) (s : PS) (h : PaAt w pb rv rs s) (hr : pk rs s = 46) : xdx f rs w pb rv s := by
 have hpb := h.lt
 have hpos := (xaJ (rs := rs) (s := s) (by omega)).1
 unfold xdx
 rw [show xav f rs s = (xbx [(0, 9), (11, 1114111)], nx rs s) by unfold xav; rw [if_neg (by omega), if_neg (by omega), if_neg (by omega), if_pos hr]]
 have HN := xoo (fun (W : World) (hW : PaAt W pb rv rs s) => xbK W pb rv rs s hW (by omega))
 have HH := xoo h
 clear h
 go_enter Tryz.func218, Tryz.ntmps218
 go_wp2_with fail
 refine (HN.out _ (HH.out.keepsF (KI.out))).mono ?_
 rintro e w3 ⟨rfl, h3, k3⟩
 rw [hr]
 have H3 := xoo h3
 have K3 := xoo k3
 have hs3 := k3.size
 simp at hs3
 clear h3 k3
 go_wp2_with fail
 refine (xeD _ _).mono ?_
 rintro e w4 ⟨u4, rfl, h4⟩
 have R4 := xoo (h4.read (by simp) (by intro p hp; simp at hp; subst hp; unfold in64; simp))
 have K4 := xoo h4.2
 obtain ⟨ua, uc, rfl⟩ := xac h4.1
 clear h4
 go_wp2_with fail
 refine (xdF [(10, 10)] _ _ R4.out (by simp)).mono ?_
 rintro e w5 ⟨u5, out, rfl, hno, h5, hl5⟩
 obtain rfl : out = [(0, 9), (11, 1114111)] := xa5 _ _ hno.1 (by simp [Norm]) (fun r => by
  rw [hno.2]; apply Bool.eq_iff_iff.2; simp [has, mem, xa1]; omega)
 obtain ⟨sa, sc, rfl⟩ := xac h5.1
 have hs4 := K4.out.size
 have hs5 := h5.2.size
 have KS : Hid (xa (xaj pb) (w.alloc (.cells #[.int .i64 0, .slice none 0 0, .int .i64 0, .int .i64 0, .slice none 0 0] 154)) w5) := xoo (K3.out.trans ((K4.out.trans h5.2).mono (fun _ _ e => e.elim)))
 have HPS := xoo (H3.out.keepsF (K4.out.trans h5.2))
 have HTS : Hid (TAt w5 (fun b => w.heap.size < b ∧ b < w5.heap.size) ⟨1, .slice sa 2 sc, 0, 0, .slice none 0 0⟩ (xbx [(0, 9), (11, 1114111)])) := xoo ((xec h5.1 (by simp) (xiN hno.1)).keepsTo (xa.refl (fun _ => False) _) (fun _ _ => id) (fun b hb => ⟨by have := hb.1; omega, hb.2⟩))
 clear hno h5 hl5
 simp only [List.length_cons, List.length_nil, Nat.zero_add]
 obtain ⟨sn, hsn⟩ : ∃ n, (2 : Nat) = n := ⟨_, rfl⟩
 simp only [Nat.reduceAdd, hsn] at HTS ⊢
 clear hsn
 go_wp2_with fail
 refine (xeb sa sn sc _).mono ?_
 rintro e w9 ⟨rfl, k9⟩
 have KX := xoo (KS.out.trans (k9.mono (T := xaj pb) (fun _ _ e => e.elim)))
 have HPX := xoo (HPS.out.keepsF k9)
 have HTX := xoo (HTS.out.keepsTo (Q := fun b => w.heap.size < b ∧ b < w9.heap.size) k9 (fun _ _ => id) (fun b hb => ⟨hb.1, by have := k9.size; omega⟩))
 obtain ⟨⟨y0, y1, y2, y3, y4⟩, q0, q1, q2, q3, q4⟩ := xaz KX.out hpb
 clear k9
 unfold NV.val
 go_wp2_with fail
 obtain ⟨wE, hWE⟩ : ∃ W, st5 (w9) w.heap.size (.int .i64 1) (.slice sa sn sc) (.int .i64 0) (.int .i64 0) (.slice none 0 0) = W := ⟨_, rfl⟩
 obtain ⟨r0, r1, r2, r3, r4, kE⟩ := xam (w9) w.heap.size y0 y1 y2 y3 y4 (.int .i64 1) (.slice sa sn sc) (.int .i64 0) (.int .i64 0) (.slice none 0 0)
 rw [hWE] at r0 r1 r2 r3 r4 kE
 unfold st5 at hWE
 rw [hWE]
 have HKE := xoo kE
 clear kE hWE y0 y1 y2 y3 y4
 refine bodyPost_ret (by simp [results, Tryz.results218, go_sem, r0, r1, r2, r3, r4]; try rfl) rfl ?_
 exact xaD (v := ⟨1, .slice sa sn sc, 0, 0, .slice none 0 0⟩) hpb HH.out.rb KX.out HPX.out HTX.out HKE.out
theorem xkm {f : PS → T × PS} {rs : List Int} (hlen : rs.length ≤ 9000) (w : World) (pb : Nat) (rv : Value) (s : PS) (h : PaAt w pb rv rs s) (hr : pk rs s = 91) : xdx f rs w pb rv s := by
 have hpb := h.lt
 have hpos := (xaJ (rs := rs) (s := s) (by omega)).1
 unfold xdx
 rw [show xav f rs s = (xbx (clsL rs (nx rs s)), (clsR rs (nx rs s)).2) by unfold xav; rw [if_neg (by omega), if_neg (by omega), if_neg (by omega), if_neg (by omega), if_pos hr]]
 have HN := xoo (fun (W : World) (hW : PaAt W pb rv rs s) => xbK W pb rv rs s hW (by omega))
 have HH := xoo h
 clear h
 have hnx : (nx rs s).pos = s.pos + 1 := by rw [xjR (by omega)]
 have hpn : (nx rs s).pos ≤ 10000 := by omega
 obtain ⟨s1, hs1⟩ : ∃ x, nx rs s = x := ⟨_, rfl⟩
 rw [hs1] at hpn
 rw [hs1] at HN ⊢
 clear hnx hs1
 go_enter Tryz.func218, Tryz.ntmps218
 go_wp2_with fail
 refine (HN.out _ (HH.out.keepsF (KI.out))).mono ?_
 rintro e w3 ⟨rfl, h3, k3⟩
 rw [hr]
 have H3 := xoo h3
 have K3 := xoo k3
 have hs3 := k3.size
 simp at hs3
 clear h3 k3
 go_wp2_with fail
 refine (xml _ _ _ _ _ H3.out (by omega) hpn).mono ?_
 rintro e w5 ⟨u5, rfl, h5, k5, hp5, hno⟩
 obtain ⟨sa, sc, rfl⟩ := xac h5
 have hs5 := k5.size
 have KS := xoo (K3.out.trans k5)
 have HPS := xoo hp5
 have HTS : Hid (TAt w5 (fun b => w.heap.size < b ∧ b < w5.heap.size) ⟨1, .slice sa (clsL rs s1).length sc, 0, 0, .slice none 0 0⟩ (xbx (clsL rs s1))) := xoo ((xec h5 (by have := xnb hno; omega) (xiN hno)).keepsTo (xa.refl (fun _ => False) _) (fun _ _ => id) (fun b hb => ⟨by have := hb.1; omega, hb.2⟩))
 clear hno h5 k5 hp5
 obtain ⟨sn, hsn⟩ : ∃ n, (clsL rs s1).length = n := ⟨_, rfl⟩
 rw [hsn] at HTS ⊢
 clear hsn
 go_wp2_with fail
 refine (xeb sa sn sc _).mono ?_
 rintro e w9 ⟨rfl, k9⟩
 have KX := xoo (KS.out.trans (k9.mono (T := xaj pb) (fun _ _ e => e.elim)))
 have HPX := xoo (HPS.out.keepsF k9)
 have HTX := xoo (HTS.out.keepsTo (Q := fun b => w.heap.size < b ∧ b < w9.heap.size) k9 (fun _ _ => id) (fun b hb => ⟨hb.1, by have := k9.size; omega⟩))
 obtain ⟨⟨y0, y1, y2, y3, y4⟩, q0, q1, q2, q3, q4⟩ := xaz KX.out hpb
 clear k9
 unfold NV.val
 go_wp2_with fail
 obtain ⟨wE, hWE⟩ : ∃ W, st5 (w9) w.heap.size (.int .i64 1) (.slice sa sn sc) (.int .i64 0) (.int .i64 0) (.slice none 0 0) = W := ⟨_, rfl⟩
 obtain ⟨r0, r1, r2, r3, r4, kE⟩ := xam (w9) w.heap.size y0 y1 y2 y3 y4 (.int .i64 1) (.slice sa sn sc) (.int .i64 0) (.int .i64 0) (.slice none 0 0)
 rw [hWE] at r0 r1 r2 r3 r4 kE
 unfold st5 at hWE
 rw [hWE]
 have HKE := xoo kE
 clear kE hWE y0 y1 y2 y3 y4
 refine bodyPost_ret (by simp [results, Tryz.results218, go_sem, r0, r1, r2, r3, r4]; try rfl) rfl ?_
 exact xaD (v := ⟨1, .slice sa sn sc, 0, 0, .slice none 0 0⟩) hpb HH.out.rb KX.out HPX.out HTX.out HKE.out
theorem xnO {f : PS → T × PS} {rs : List Int} (hlen : rs.length ≤ 9000) (w : World) (pb : Nat) (rv : Value) (s : PS) (h : PaAt w pb rv rs s) (hr : pk rs s = 92) : xdx f rs w pb rv s := by
 have hpb := h.lt
 have hpos := (xaJ (rs := rs) (s := s) (by omega)).1
 unfold xdx
 rw [show xav f rs s = (xbx (escL rs (nx rs s)), escS rs (nx rs s)) by unfold xav; rw [if_neg (by omega), if_neg (by omega), if_neg (by omega), if_neg (by omega), if_neg (by omega), if_pos hr]]
 have HN := xoo (fun (W : World) (hW : PaAt W pb rv rs s) => xbK W pb rv rs s hW (by omega))
 have HH := xoo h
 clear h
 have hnx : (nx rs s).pos = s.pos + 1 := by rw [xjR (by omega)]
 have hpn : (nx rs s).pos + 1 ≤ 1000000 := by omega
 obtain ⟨s1, hs1⟩ : ∃ x, nx rs s = x := ⟨_, rfl⟩
 rw [hs1] at hpn
 rw [hs1] at HN ⊢
 clear hnx hs1
 go_enter Tryz.func218, Tryz.ntmps218
 go_wp2_with fail
 refine (HN.out _ (HH.out.keepsF (KI.out))).mono ?_
 rintro e w3 ⟨rfl, h3, k3⟩
 rw [hr]
 have H3 := xoo h3
 have K3 := xoo k3
 have hs3 := k3.size
 simp at hs3
 clear h3 k3
 go_wp2_with fail
 refine (xfG _ _ _ _ _ H3.out hpn).mono ?_
 rintro e w5 ⟨u5, rfl, h5, hp5, k5⟩
 have hel := xgc HH.out.rng s1
 obtain ⟨sa, sc, rfl⟩ := xac h5
 have hs5 := k5.size
 have KS := xoo (K3.out.trans k5)
 have HPS := xoo hp5
 have HTS : Hid (TAt w5 (fun b => w.heap.size < b ∧ b < w5.heap.size) ⟨1, .slice sa (escL rs s1).length sc, 0, 0, .slice none 0 0⟩ (xbx (escL rs s1))) := xoo ((xec h5 (by omega) (fun p hp => by have := hel.2.2 p hp; unfold in64; omega)).keepsTo (xa.refl (fun _ => False) _) (fun _ _ => id) (fun b hb => ⟨by have := hb.1; omega, hb.2⟩))
 clear hel h5 k5 hp5
 obtain ⟨sn, hsn⟩ : ∃ n, (escL rs s1).length = n := ⟨_, rfl⟩
 rw [hsn] at HTS ⊢
 clear hsn
 go_wp2_with fail
 refine (xeb sa sn sc _).mono ?_
 rintro e w9 ⟨rfl, k9⟩
 have KX := xoo (KS.out.trans (k9.mono (T := xaj pb) (fun _ _ e => e.elim)))
 have HPX := xoo (HPS.out.keepsF k9)
 have HTX := xoo (HTS.out.keepsTo (Q := fun b => w.heap.size < b ∧ b < w9.heap.size) k9 (fun _ _ => id) (fun b hb => ⟨hb.1, by have := k9.size; omega⟩))
 obtain ⟨⟨y0, y1, y2, y3, y4⟩, q0, q1, q2, q3, q4⟩ := xaz KX.out hpb
 clear k9
 unfold NV.val
 go_wp2_with fail
 obtain ⟨wE, hWE⟩ : ∃ W, st5 (w9) w.heap.size (.int .i64 1) (.slice sa sn sc) (.int .i64 0) (.int .i64 0) (.slice none 0 0) = W := ⟨_, rfl⟩
 obtain ⟨r0, r1, r2, r3, r4, kE⟩ := xam (w9) w.heap.size y0 y1 y2 y3 y4 (.int .i64 1) (.slice sa sn sc) (.int .i64 0) (.int .i64 0) (.slice none 0 0)
 rw [hWE] at r0 r1 r2 r3 r4 kE
 unfold st5 at hWE
 rw [hWE]
 have HKE := xoo kE
 clear kE hWE y0 y1 y2 y3 y4
 refine bodyPost_ret (by simp [results, Tryz.results218, go_sem, r0, r1, r2, r3, r4]; try rfl) rfl ?_
 exact xaD (v := ⟨1, .slice sa sn sc, 0, 0, .slice none 0 0⟩) hpb HH.out.rb KX.out HPX.out HTX.out HKE.out
theorem xkl {f : PS → T × PS} {rs : List Int} (hlen : rs.length ≤ 9000) (w : World) (pb : Nat) (rv : Value) (s : PS) (h : PaAt w pb rv rs s) (hr : 0 ≤ pk rs s ∧ pk rs s ≠ 40 ∧ pk rs s ≠ 94 ∧ pk rs s ≠ 36 ∧ pk rs s ≠ 46 ∧ pk rs s ≠ 91 ∧ pk rs s ≠ 92) : xdx f rs w pb rv s := by
 have hpb := h.lt
 have hpos := (xaJ (rs := rs) (s := s) (by omega)).1
 unfold xdx
 rw [show xav f rs s = (xbx [(pk rs s, pk rs s)], ⟨s.pos + 1, s.deep, (nx rs s).bad || amg sgL (pk rs s)⟩) by unfold xav; rw [if_neg hr.2.1, if_neg hr.2.2.1, if_neg hr.2.2.2.1, if_neg hr.2.2.2.2.1, if_neg hr.2.2.2.2.2.1, if_neg hr.2.2.2.2.2.2]]
 have HN := xoo (fun (W : World) (hW : PaAt W pb rv rs s) => xbK W pb rv rs s hW (by omega))
 have HH := xoo h
 clear h
 have hb : s.bad = false := (xaJ (rs := rs) (s := s) (by omega)).2
 have hnx : nx rs s = ⟨s.pos + 1, s.deep, false⟩ := by rw [xjR (by omega), hb]
 rw [hnx] at HN ⊢
 have hle := xk7 HH.out
 obtain ⟨h0, m1, m2, m3, m4, m5, m6⟩ := hr
 have f1 : (pk rs s == 40) = false := by simpa using m1
 have f2 : (pk rs s == 94) = false := by simpa using m2
 have f3 : (pk rs s == 36) = false := by simpa using m3
 have f4 : (pk rs s == 46) = false := by simpa using m4
 have f5 : (pk rs s == 91) = false := by simpa using m5
 have f6 : (pk rs s == 92) = false := by simpa using m6
 have HG : Hid (∀ W, Calls Tryz.prog 238 #[.string ⟨#[46, 94, 36, 124, 40, 41, 91, 93, 123, 125, 42, 43, 63, 92]⟩, .int .i64 (pk rs s)] W fun e w' => e = .returned (.bool (amg sgL (pk rs s))) ∧ W = w') := xoo (fun W => xcF ⟨#[46, 94, 36, 124, 40, 41, 91, 93, 123, 125, 42, 43, 63, 92]⟩ (pk rs s) W)
 obtain ⟨q, hq⟩ : ∃ q, amg sgL (pk rs s) = q := ⟨_, rfl⟩
 rw [hq] at HG ⊢
 clear hq hnx m1 m2 m3 m4 m5 m6
 simp only [Bool.false_or]
 generalize pk rs s = r at *
 go_enter Tryz.func218, Tryz.ntmps218
 go_wp2_with fail
 refine (HN.out _ (HH.out.keepsF (KI.out))).mono ?_
 rintro e w3 ⟨rfl, h3, k3⟩
 have c3 := h3.c3
 have r3 := h3.fr 3
 have hb3 := h3.lt
 simp only at c3
 have H3 := xoo h3
 have K3 := xoo k3
 have hs3 := k3.size
 simp at hs3
 clear h3 k3
 go_wp2_with fail
 refine (HG.out _).mono ?_
 rintro e w4 ⟨rfl, rfl⟩
 have HP4 : Hid (PaAt (w3.setCell ⟨pb, 3, none⟩ (.bool q)) pb rv rs ⟨s.pos + 1, s.deep, q⟩) := xoo (H3.out.setBad q)
 have K4 := xoo (K3.out.set (p := ⟨pb, 3, none⟩) rfl (.bool q))
 go_wp2_with fail
 refine (xeD _ _).mono ?_
 rintro e w5 ⟨u5, rfl, h5⟩
 obtain ⟨sa, sc, rfl⟩ := xac h5.1
 have hs5 := h5.2.size
 have hs4 := K4.out.size
 simp at hs4
 have KS : Hid (xa (xaj pb) (w.alloc (.cells #[.int .i64 0, .slice none 0 0, .int .i64 0, .int .i64 0, .slice none 0 0] 154)) w5) := xoo (K4.out.trans (h5.2.mono (fun _ _ e => e.elim)))
 have HPS := xoo (HP4.out.keepsF h5.2)
 have HTS : Hid (TAt w5 (fun b => w.heap.size < b ∧ b < w5.heap.size) ⟨1, .slice sa 1 sc, 0, 0, .slice none 0 0⟩ (xbx [(r, r)])) := xoo ((xec h5.1 (by simp) (by intro p hp; simp at hp; subst hp; unfold in64; simp only; omega)).keepsTo (xa.refl (fun _ => False) _) (fun _ _ => id) (fun b hb => ⟨by have := hb.1; simp at this; omega, hb.2⟩))
 clear h5
 obtain ⟨sn, hsn⟩ : ∃ n, (1 : Nat) = n := ⟨_, rfl⟩
 simp only [List.length_cons, List.length_nil, Nat.zero_add, hsn] at HTS ⊢
 clear hsn
 go_wp2_with fail
 refine (xeb sa sn sc _).mono ?_
 rintro e w9 ⟨rfl, k9⟩
 have KX := xoo (KS.out.trans (k9.mono (T := xaj pb) (fun _ _ e => e.elim)))
 have HPX := xoo (HPS.out.keepsF k9)
 have HTX := xoo (HTS.out.keepsTo (Q := fun b => w.heap.size < b ∧ b < w9.heap.size) k9 (fun _ _ => id) (fun b hb => ⟨hb.1, by have := k9.size; omega⟩))
 obtain ⟨⟨y0, y1, y2, y3, y4⟩, q0, q1, q2, q3, q4⟩ := xaz KX.out hpb
 clear k9
 unfold NV.val
 go_wp2_with fail
 obtain ⟨wE, hWE⟩ : ∃ W, st5 (w9) w.heap.size (.int .i64 1) (.slice sa sn sc) (.int .i64 0) (.int .i64 0) (.slice none 0 0) = W := ⟨_, rfl⟩
 obtain ⟨r0, r1, r2, r3, r4, kE⟩ := xam (w9) w.heap.size y0 y1 y2 y3 y4 (.int .i64 1) (.slice sa sn sc) (.int .i64 0) (.int .i64 0) (.slice none 0 0)
 rw [hWE] at r0 r1 r2 r3 r4 kE
 unfold st5 at hWE
 rw [hWE]
 have HKE := xoo kE
 clear kE hWE y0 y1 y2 y3 y4
 refine bodyPost_ret (by simp [results, Tryz.results218, go_sem, r0, r1, r2, r3, r4]; try rfl) rfl ?_
 exact xaD (v := ⟨1, .slice sa sn sc, 0, 0, .slice none 0 0⟩) hpb HH.out.rb KX.out HPX.out HTX.out HKE.out
theorem xnR {f : PS → T × PS} {rs : List Int} {C D : PS → Prop} (H : xmE f rs C D) (w : World) (pb : Nat) (rv : Value) (s : PS) (h : PaAt w pb rv rs s) (hi : Inv rs s) (hd : D s) (hr : 0 ≤ pk rs s) : xdx f rs w pb rv s := by
 by_cases h1 : pk rs s = 40
 · exact xkk H w pb rv s h hi hd h1
 by_cases h2 : pk rs s = 94
 · exact xkn H.len w pb rv s h h2
 by_cases h3 : pk rs s = 36
 · exact xnP H.len w pb rv s h h3
 by_cases h4 : pk rs s = 46
 · exact xnQ H.len w pb rv s h h4
 by_cases h5 : pk rs s = 91
 · exact xkm H.len w pb rv s h h5
 by_cases h6 : pk rs s = 92
 · exact xnO H.len w pb rv s h h6
 exact xkl H.len w pb rv s h ⟨hr, h1, h2, h3, h4, h5, h6⟩
def Kq (lo : Nat) (D : Nat → Prop) (hs : Nat) (oa op : Option Nat) : Nat → Prop := fun b => (D b ∨ lo < b ∧ b < hs) ∧ oa ≠ some b ∧ op ≠ some b
structure xaI (w wr : World) (D : Nat → Prop) (av : Value) (al : List T) (us : List NV) (pv : Value) (ps : List T) (vs : List NV) : Prop where
 aown : wr.ownsRow (w.heap.size + 1) 154 5 av al.length (cellsOf 5 encN us)
 pown : wr.ownsRow (w.heap.size + 1) 154 5 pv ps.length (cellsOf 5 encN vs)
 sep : ∀ b, av.ownBlock = some b → pv.ownBlock = some b → False
 akids : FAt wr (Kq w.heap.size D wr.heap.size av.ownBlock pv.ownBlock) (F.ofL al) us
 pkids : FAt wr (Kq w.heap.size D wr.heap.size av.ownBlock pv.ownBlock) (F.ofL ps) vs
 keep : xa (fun _ => False) (w.alloc (.cells #[.int .i64 0, .slice none 0 0, .int .i64 0, .int .i64 0, .slice none 0 0] 154)) wr
theorem xaI.size {w wr : World} {D : Nat → Prop} {av pv : Value} {al ps : List T} {us vs : List NV} (h : xaI w wr D av al us pv ps vs) : w.heap.size < wr.heap.size := by
 have := h.keep.size; simp at this; omega
theorem xaI.start {w wr : World} (D : Nat → Prop) (K : xa (fun _ => False) (w.alloc (.cells #[.int .i64 0, .slice none 0 0, .int .i64 0, .int .i64 0, .slice none 0 0] 154)) wr) : xaI w wr D (.slice none 0 0) [] [] (.slice none 0 0) [] [] :=
 ⟨World.ownsRow_nil _ _ _ _, World.ownsRow_nil _ _ _ _, fun b hb => by simp [Value.ownBlock] at hb, rfl, rfl, K⟩
theorem xaI.old {w wr : World} {D : Nat → Prop} {av pv : Value} {al ps : List T} {us vs : List NV} (h : xaI w wr D av al us pv ps vs) (hD : ∀ b, D b → b < w.heap.size) {b : Nat} (hb : D b) (hs : Nat) : Kq w.heap.size D hs av.ownBlock pv.ownBlock b :=
 ⟨Or.inl hb, fun e => by have := xaa h.aown b e; have := hD b hb; omega, fun e => by have := xaa h.pown b e; have := hD b hb; omega⟩
theorem xaI.new {w wr : World} {D : Nat → Prop} {av pv : Value} {al ps : List T} {us vs : List NV} (h : xaI w wr D av al us pv ps vs) {b hs : Nat} (h1 : wr.heap.size ≤ b) (h2 : b < hs) : Kq w.heap.size D hs av.ownBlock pv.ownBlock b :=
 ⟨Or.inr ⟨by have := h.size; omega, h2⟩, fun e => by have := xaM h.aown b e; omega, fun e => by have := xaM h.pown b e; omega⟩
theorem xaI.keepF {w wr w' : World} {D : Nat → Prop} {av pv : Value} {al ps : List T} {us vs : List NV} (h : xaI w wr D av al us pv ps vs) (K : xa (fun _ => False) wr w') : xaI w w' D av al us pv ps vs :=
 ⟨xae h.aown K (fun _ _ => id), xae h.pown K (fun _ _ => id), h.sep, h.akids.keepsTo K (fun _ _ => id) (fun b hb => ⟨hb.1.imp id (fun x => ⟨x.1, Nat.lt_of_lt_of_le x.2 K.size⟩), hb.2⟩),
  h.pkids.keepsTo K (fun _ _ => id) (fun b hb => ⟨hb.1.imp id (fun x => ⟨x.1, Nat.lt_of_lt_of_le x.2 K.size⟩), hb.2⟩), h.keep.trans K⟩
theorem xaI.symm {w wr : World} {D : Nat → Prop} {av pv : Value} {al ps : List T} {us vs : List NV} (h : xaI w wr D av al us pv ps vs) : xaI w wr D pv ps vs av al us :=
 ⟨h.pown, h.aown, fun b x y => h.sep b y x, h.pkids.keepsTo (xa.refl (fun _ => False) _) (fun _ _ => id) (fun b hb => ⟨hb.1, hb.2.2, hb.2.1⟩), h.akids.keepsTo (xa.refl (fun _ => False) _) (fun _ _ => id) (fun b hb => ⟨hb.1, hb.2.2, hb.2.1⟩), h.keep⟩
theorem xaI.dropP {w wr : World} {D : Nat → Prop} {av pv : Value} {al ps : List T} {us vs : List NV} (h : xaI w wr D av al us pv ps vs) : xaI w wr D av al us (.slice none 0 0) [] [] :=
 ⟨h.aown, World.ownsRow_nil _ _ _ _, fun b x y => by simp [Value.ownBlock] at y, h.akids.keepsTo (xa.refl (fun _ => False) _) (fun _ _ => id) (fun b hb => ⟨hb.1, hb.2.1, by simp [Value.ownBlock]⟩), rfl, h.keep⟩
theorem xc9 (v : NV) : [Value.int .i64 v.op, v.sv, .int .i64 v.mn, .int .i64 v.mx, v.kv] = cellsOf 5 encN [v] := by simp [cellsOf, xfH]
theorem xaI.push {w wr wP w9 : World} {D : Nat → Prop} {av pv v' : Value} {al ps : List T} {us vs : List NV} {v : NV} {t : T} (hD : ∀ b, D b → b < w.heap.size) (h : xaI w wr D av al us pv ps vs) (K : xa (fun _ => False) wr wP)
 (hT : TAt wP (Kq w.heap.size D wP.heap.size av.ownBlock pv.ownBlock) v t) (hown : w9.ownsRow (w.heap.size + 1) 154 5 v' (ps.length + 1) (cellsOf 5 encN vs ++ [Value.int .i64 v.op, v.sv, .int .i64 v.mn, .int .i64 v.mx, v.kv]))
 (hg : wP.grownBy w9 pv.ownBlock) {H : Nat} (hloc : v'.ownBlock = pv.ownBlock ∨ v'.ownBlock = some H) (hH : wP.heap.size ≤ H) : xaI w w9 D av al us v' (ps ++ [t]) (vs ++ [v]) := by
 have hP := h.keepF K
 have k9 : xa (fun b => pv.ownBlock = some b) wP w9 := (xa.refl _ _).grown hg (fun b hb => Or.inl hb)
 have hs9 := k9.size
 have hsz := hP.size
 have e1 : ∀ b, Kq w.heap.size D wP.heap.size av.ownBlock pv.ownBlock b → Kq w.heap.size D w9.heap.size av.ownBlock v'.ownBlock b := fun b hb => ⟨hb.1.imp id (fun x => ⟨x.1, by omega⟩), hb.2.1, fun e => by
  rcases hloc with h1 | h1
  · exact hb.2.2 (h1 ▸ e)
  rw [h1] at e
  have := Option.some.inj e
  rcases hb.1 with h2 | ⟨_, h2⟩
  · have := hD b h2; omega
  omega⟩
 refine ⟨xae hP.aown k9 (fun b x y => hP.sep b x y), ?_, fun b x y => ?_, hP.akids.keepsTo k9 (fun b hb e => hb.2.2 e) e1, ?_, ?_⟩
 · rw [List.length_append, xag, ← xc9]; exact hown
 · rcases hloc with h1 | h1
   · exact hP.sep b x (h1 ▸ y)
   rw [h1] at y
   have := Option.some.inj y
   have := xaM hP.aown b x
   omega
 · exact FAt.snoc (hP.pkids.keepsTo k9 (fun b hb e => hb.2.2 e) e1) (hT.keepsTo k9 (fun b hb e => hb.2.2 e) e1)
 exact hP.keep.trans2 k9 (fun b hb e => by have := xaa hP.pown b e; simp at hb; omega)
theorem xaI.slofP {w wr : World} {D : Nat → Prop} {av pv : Value} {al ps : List T} {us vs : List NV} (h : xaI w wr D av al us pv ps vs) (hl : ps.length ≤ 1000000) : SlOf 5 encN wr pv vs :=
 SlOf.ofOwn (by have := h.pown; rwa [← h.pkids.len] at this) (by rw [h.pkids.len]; omega)
theorem xaI.pvc_le {w wr : World} {D : Nat → Prop} {n c : Nat} {av : Value} {pa : Option Addr} {al ps : List T} {us vs : List NV} (h : xaI w wr D av al us (.slice pa n c) ps vs) : n ≤ c := by
 rcases h.pown.2 with ⟨e, _⟩ | ⟨g, cap, cur, e, _, _, h1, _⟩
 · injection e with _ e1 e2; omega
 injection e with _ e1 e2; omega
theorem FAt.init {w : World} {P : Nat → Prop} {t : T} {v : NV} : ∀ {l : List T} {vs : List NV}, FAt w P (F.ofL (l ++ [t])) (vs ++ [v]) → FAt w P (F.ofL l) vs ∧ TAt w P v t := by
 intro l
 induction l with
 | nil =>
  intro vs h
  obtain ⟨v', vs', e, h1, h2⟩ := FAt.cons_iff.1 h
  have h3 : vs' = [] := h2
  subst h3
  cases vs with
  | nil => obtain rfl := (List.cons.inj e).1; exact ⟨rfl, h1⟩
  | cons a b => have := (List.cons.inj e).2; simp at this
 | cons u l ih =>
  intro vs h
  obtain ⟨v', vs', e, h1, h2⟩ := FAt.cons_iff.1 h
  cases vs with
  | nil =>
   have h3 := (List.cons.inj e).2
   have := h2.len
   rw [← h3] at this
   simp at this
  | cons a b =>
   obtain ⟨rfl, rfl⟩ := List.cons.inj e
   obtain ⟨h4, h5⟩ := ih h2
   exact ⟨FAt.cons_iff.2 ⟨_, _, rfl, h1, h4⟩, h5⟩
theorem xm7 {w : World} {b1 b2 : Nat} {e : TypeId} {size : Nat} {v : Value} {n : Nat} {xs : List Value} (h : w.ownsRow b1 e size v n xs) (hb : b2 ≤ b1) : w.ownsRow b2 e size v n xs := by
 refine ⟨h.1, ?_⟩
 rcases h.2 with h2 | ⟨g, cap, cur, h2, h3, h4⟩
 · exact Or.inl h2
 exact Or.inr ⟨g, cap, cur, h2, Nat.le_trans hb h3, h4⟩
theorem xaI.count {w wr wA w2 : World} {D : Nat → Prop} {av pv : Value} {al ps0 : List T} {us vs0 : List NV} {tn : T} {vn : NV} (hD : ∀ b, D b → b < w.heap.size) (hR : xaI w wr D av al us pv (ps0 ++ [tn]) (vs0 ++ [vn])) (KA : xa (fun _ => False) wr wA) (K2 : xa (fun _ => False) wA w2)
 {g2 cap2 g77 N : Nat} {XS : List Value} {mm xx : Int} (hm : in64 mm) (hx : in64 xx) (hN : N = ps0.length + 1) (hXS : XS = cellsOf 5 encN vs0)
 (hown2 : w2.ownsRow wA.heap.size 154 5 (.slice (some ⟨g2, 0, none⟩) N cap2) N (XS ++ [.int .i64 6, .slice none 0 0, .int .i64 mm, .int .i64 xx, .slice (some ⟨g77, 0, none⟩) 1 1]))
 (hk : ∀ j, j < 5 → w2.cell? ⟨g77, j, none⟩ = some (encN vn j)) (h77 : wA.heap.size ≤ g77) (hne : g2 ≠ g77) :
 xaI w w2 D av al us (.slice (some ⟨g2, 0, none⟩) N cap2) (ps0 ++ [⟨6, [], mm, xx, F.ofL [tn]⟩]) (vs0 ++ [⟨6, .slice none 0 0, mm, xx, .slice (some ⟨g77, 0, none⟩) 1 1⟩]) := by
 have h2 := xaa hown2 g2 rfl
 have h3 := xaM hown2 g2 rfl
 have h4 : g77 < w2.heap.size := xay (hk 0 (by omega))
 have hsz := hR.size
 have hs1 := KA.size
 have hs2 := K2.size
 have K := KA.trans K2
 have hW := hR.keepF K
 subst hN
 subst hXS
 obtain ⟨hF, hT⟩ := FAt.init hR.pkids
 have e1 : ∀ b, Kq w.heap.size D wr.heap.size av.ownBlock pv.ownBlock b → Kq w.heap.size D w2.heap.size av.ownBlock (Value.slice (some ⟨g2, 0, none⟩) (ps0.length + 1) cap2).ownBlock b := fun b hb => ⟨hb.1.imp id (fun x => ⟨x.1, by omega⟩), hb.2.1, fun e => by
  have e : g2 = b := Option.some.inj e
  rcases hb.1 with h | ⟨_, h⟩
  · have := hD b h; omega
  omega⟩
 have hTn : TAt w2 (Kq w.heap.size D w2.heap.size av.ownBlock (Value.slice (some ⟨g2, 0, none⟩) (ps0.length + 1) cap2).ownBlock) ⟨6, .slice none 0 0, mm, xx, .slice (some ⟨g77, 0, none⟩) 1 1⟩ ⟨6, [], mm, xx, F.ofL [tn]⟩ := by
  refine ⟨rfl, rfl, rfl, hm, hx, ⟨SlOf.nil _ _ _, fun p hp => by cases hp⟩, fun b hb => by simp [Value.ownBlock] at hb, ⟨[vn], ⟨_, 1, rfl, ⟨by simp, fun h => by cases h⟩, by simp, fun _ => ⟨g77, 0, rfl, fun i x hx j hj => ?_⟩⟩, FAt.cons_iff.2 ⟨vn, [], rfl, hT.keepsTo K (fun _ _ => id) e1, rfl⟩⟩, fun b hb => ?_⟩
  · rcases i with _ | i
    · obtain rfl : vn = x := by simpa using hx
      simpa using hk j hj
    simp at hx
  have e : g77 = b := Option.some.inj hb
  subst e
  exact ⟨Or.inr ⟨by omega, h4⟩, fun e => by have := xaM hR.aown _ e; omega, fun e => hne (Option.some.inj e)⟩
 refine ⟨hW.aown, ?_, fun b x y => ?_, hR.akids.keepsTo K (fun _ _ => id) e1, FAt.snoc (hF.keepsTo K (fun _ _ => id) e1) hTn, hW.keep⟩
 · rw [List.length_append, xag, ← xc9]; exact xm7 hown2 (by omega)
 have h5 := xaM hR.aown b x
 have h6 : g2 = b := Option.some.inj y
 omega
theorem xbo {w : World} {base H : Nat} (hb : base ≤ w.heap.size) (hH : w.heap.size = H) : (w.alloc (.cells #[] 154)).ownsRow base 154 5 (.slice (some ⟨H, 0, none⟩) 0 0) 0 [] := by
 subst hH
 exact ⟨rfl, Or.inr ⟨w.heap.size, 0, _, rfl, hb, heap_alloc_new w _, Nat.le_refl _, by unfold maxLen; decide, rfl, rfl⟩⟩
theorem xlp {W : World} {G : Nat} {v0 v1 v2 v3 v4 : Value} (h0 : W.cell? ⟨G, 0, none⟩ = some v0) (h1 : W.cell? ⟨G, 1, none⟩ = some v1) (h2 : W.cell? ⟨G, 2, none⟩ = some v2) (h3 : W.cell? ⟨G, 3, none⟩ = some v3) (h4 : W.cell? ⟨G, 4, none⟩ = some v4) :
 ∀ j u, [v0, v1, v2, v3, v4][j]? = some u → W.cell? ((⟨G, 0, none⟩ : Addr).add j) = some u := by
 intro j u hj
 have hadd : (⟨G, 0, none⟩ : Addr).add j = ⟨G, j, none⟩ := by unfold Addr.add; split <;> simp_all
 rw [hadd]
 match j, hj with
 | 0, hj => simp at hj; subst hj; exact h0
 | 1, hj => simp at hj; subst hj; exact h1
 | 2, hj => simp at hj; subst hj; exact h2
 | 3, hj => simp at hj; subst hj; exact h3
 | 4, hj => simp at hj; subst hj; exact h4
 | j + 5, hj => simp at hj
theorem xal {W w2 : World} {row : Option Nat} {a : Addr} {v : Value} (hg : W.grownBy w2 row) (h1 : a.block < W.heap.size) (h2 : some a.block ≠ row) (h : W.cell? a = some v) : w2.cell? a = some v := by
 rw [World.grownBy.cell_far hg a h1 h2]; exact h
theorem k5 {W : World} {G : Nat} {o m x : Int} {s k : Value} (h0 : W.cell? ⟨G, 0, none⟩ = some (.int .i64 o)) (h1 : W.cell? ⟨G, 1, none⟩ = some s) (h2 : W.cell? ⟨G, 2, none⟩ = some (.int .i64 m)) (h3 : W.cell? ⟨G, 3, none⟩ = some (.int .i64 x)) (h4 : W.cell? ⟨G, 4, none⟩ = some k) :
 ∀ j, j < 5 → W.cell? ⟨G, j, none⟩ = some (encN ⟨o, s, m, x, k⟩ j) := by
 intro j hj
 match j, hj with
 | 0, _ => exact h0
 | 1, _ => exact h1
 | 2, _ => exact h2
 | 3, _ => exact h3
 | 4, _ => exact h4
theorem xg1 {W w2 : World} {row : Option Nat} {G : Nat} {v : NV} (h : ∀ j, j < 5 → W.cell? ⟨G, j, none⟩ = some (encN v j)) (hg : W.grownBy w2 row) (hne : row ≠ some G) : ∀ j, j < 5 → w2.cell? ⟨G, j, none⟩ = some (encN v j) := by
 intro j hj
 rw [World.grownBy.cell_far hg ⟨G, j, none⟩ (xay (h j hj)) (fun e => hne e.symm)]
 exact h j hj
theorem xaI.news0 {w wr W : World} {D : Nat → Prop} {n c g : Nat} {av : Value} {al ps0 : List T} {us vs0 : List NV} {tn : T} {vn : NV} (hR : xaI w wr D av al us (.slice (some ⟨g, 0, none⟩) n c) (ps0 ++ [tn]) (vs0 ++ [vn])) (K : xa (fun _ => False) wr W) :
 ∀ j u, (cellsOf 5 encN vs0)[j]? = some u → W.cell? ((⟨g, 0, none⟩ : Addr).add j) = some u := by
 intro j u hj
 have hadd : (⟨g, 0, none⟩ : Addr).add j = ⟨g, j, none⟩ := by unfold Addr.add; split <;> simp_all
 rw [hadd]
 have hl := hR.pkids.len
 obtain ⟨_, _, e⟩ := xac hR.pown
 obtain ⟨_, rfl, _⟩ := Value.slice.inj e
 simp at hl
 have hjl : j < vs0.length * 5 := by rw [← xah 5 encN vs0]; exact (List.getElem?_eq_some_iff.1 hj).1
 refine K.cell ?_ id
 rw [hR.pown.cellAt j (by simp; omega), xag, List.getElem?_append_left (by rw [xah]; omega), hj]
theorem xle {w : World} {P : Nat → Prop} : ∀ {l : List T} {vs : List NV}, FAt w P (F.ofL l) vs → ∀ u ∈ cellsOf 5 encN vs, u.oneCell' = true := by
 intro l
 induction l with
 | nil => intro vs h u hu; have h : vs = [] := h; subst h; simp [cellsOf] at hu
 | cons t l ih =>
  intro vs h u hu
  obtain ⟨v, vs', rfl, h1, h2⟩ := FAt.cons_iff.1 h
  rw [show v :: vs' = [v] ++ vs' from rfl, xag, List.mem_append] at hu
  rcases hu with hu | hu
  · obtain ⟨o, a1, n1, c1, m, x, a2, n2, c2, rfl⟩ := NV.form h1
    rw [← xc9] at hu
    simp at hu
    rcases hu with rfl | rfl | rfl | rfl | rfl <;> rfl
  exact ih h2 u hu
def xkr (w : World) (D : Nat → Prop) (G : Option T) (e : Ending) (w' : World) : Prop :=
 match G with
 | none => e = .returned (.tuple #[NV.val ⟨0, .slice none 0 0, 0, 0, .slice none 0 0⟩, .bool false]) ∧ xa (fun _ => False) w w'
 | some t => ∃ v : NV, e = .returned (.tuple #[v.val, .bool true]) ∧ TAt w' (fun b => D b ∨ w.heap.size ≤ b ∧ b < w'.heap.size) v t ∧ xa (fun _ => False) w w'
def TrR (G : Option T) (n : Nat) (d : Int) (ts : List Tok) (D : Nat → Prop) (w : World) (av pv lov iv : Value) (wr : World) : Prop :=
 ∃ m i al us ps vs lo, iv = .int .i64 (i : Nat) ∧ lov = .bool lo ∧ xaI w wr D av al us pv ps vs ∧ (lo = true → ps ≠ []) ∧ al.length ≤ i ∧ ps.length ≤ i ∧ m ≤ n ∧
  ((i ≤ ts.length ∧ ts.length < m + i ∧ xaE m d (ts.drop i) al ps lo = G) ∨ (i = ts.length + 1 ∧ G = some (xa6 5 al)))
theorem xmJ (n : Nat) (d : Int) (s : List (Int × Int)) (r : List Tok) (al ps : List T) (lo : Bool) : xaE (n + 1) d (.pt s :: r) al ps lo = xaE n d r al (ps ++ [xbx s]) true := rfl
theorem xfQ (n : Nat) (d m x : Int) (r : List Tok) (al ps : List T) (lo : Bool) : xaE (n + 1) d (.ct m x :: r) al ps lo = if lo = true then xaE n d r al (repT ps m x) false else none := rfl
theorem xkD (n : Nat) (d : Int) (al ps : List T) (lo : Bool) : xaE (n + 1) d [] al ps lo = some (xa6 5 (al ++ [xa6 4 ps])) := rfl
theorem xkE (n : Nat) (d : Int) (r : List Tok) (al ps : List T) (lo : Bool) : xaE (n + 1) d (.sg 124 :: r) al ps lo = xaE n d r (al ++ [xa6 4 ps]) [] false := rfl
theorem xmK (n : Nat) (d : Int) (r : List Tok) (al ps : List T) (lo : Bool) : xaE (n + 1) d (.sg 94 :: r) al ps lo = xaE n d r al (ps ++ [⟨2, [], 0, 0, .nil⟩]) false := rfl
theorem xmM (n : Nat) (d : Int) (r : List Tok) (al ps : List T) (lo : Bool) : xaE (n + 1) d (.sg 36 :: r) al ps lo = xaE n d r al (ps ++ [⟨3, [], 0, 0, .nil⟩]) false := rfl
theorem xmL (n : Nat) (d : Int) (r : List Tok) (al ps : List T) (lo : Bool) : xaE (n + 1) d (.sg 41 :: r) al ps lo = none := rfl
theorem xik (n : Nat) (d : Int) (r : List Tok) (al ps : List T) (lo : Bool) : xaE (n + 1) d (.sg 40 :: r) al ps lo = (match xaB 0 r with
 | none => none
 | some (l1, r') => if 10 < d + 1 then none else match xaE n (d + 1) l1 [] [] false with
  | none => none
  | some t => xaE n d r' al (ps ++ [t]) true) := rfl
theorem xcW {G : Option T} {n m i j : Nat} {d : Int} {ts : List Tok} {D : Nat → Prop} {w w9 : World} {av pv lov iv : Value} {al ps : List T} {us vs : List NV} {lo : Bool} (hR : xaI w w9 D av al us pv ps vs) (hm : m + 1 ≤ n) (hi : ts.length < m + 1 + i) (hij : i < j) (hj : j ≤ ts.length)
 (hG : xaE m d (ts.drop j) al ps lo = G) (hlo : lo = true → ps ≠ []) (ha : al.length ≤ j) (hp : ps.length ≤ j) (e1 : iv = .int .i64 (j : Nat)) (e2 : lov = .bool lo) : TrR G n d ts D w av pv lov iv w9 :=
 ⟨m, j, al, us, ps, vs, lo, e1, e2, hR, hlo, ha, hp, by omega, Or.inl ⟨hj, by omega, hG⟩⟩
theorem TAt.bare (w : World) (P : Nat → Prop) (op : Int) : TAt w P ⟨op, .slice none 0 0, 0, 0, .slice none 0 0⟩ ⟨op, [], 0, 0, .nil⟩ :=
 ⟨rfl, rfl, rfl, xbr, xbr, ⟨SlOf.nil _ _ _, fun p hp => by cases hp⟩, fun b hb => by simp [Value.ownBlock] at hb, ⟨[], SlOf.nil _ _ _, rfl⟩, fun b hb => by simp [Value.ownBlock] at hb⟩
theorem TAt.char {w : World} {P : Nat → Prop} {sv : Value} {s : List (Int × Int)} (h : RSl w sv s) (hb : ∀ b, sv.ownBlock = some b → P b) : TAt w P ⟨1, sv, 0, 0, .slice none 0 0⟩ (xbx s) :=
 ⟨rfl, rfl, rfl, xbr, xbr, h, hb, ⟨[], SlOf.nil _ _ _, rfl⟩, fun b hb => by simp [Value.ownBlock] at hb⟩
theorem xbN (w : World) (o : Obj) (cs : List Value) (ty : TypeId) : ∀ j u, cs[j]? = some u → ((w.alloc o).alloc (.cells cs.toArray ty)).cell? ((⟨w.heap.size + 1, 0, none⟩ : Addr).add j) = some u := by
 intro j u h
 have := xan (w.alloc o) cs ty j u h
 simpa using this
def altC : List Cd → Nat → Nat → List Ins
 | [], _, _ => []
 | [p], b, _ => p.1 b
 | p :: p2 :: r, b, E => ⟨2, [], b + 1, b + p.2 + 2⟩ :: (p.1 (b + 1) ++ ⟨2, [], E, E⟩ :: altC (p2 :: r) (b + p.2 + 2) E)
def altN : List Cd → Nat
 | [] => 0
 | [p] => p.2
 | p :: p2 :: r => p.2 + 2 + altN (p2 :: r)
theorem xje : ∀ (q : List Cd), (∀ p ∈ q, ∀ b, (p.1 b).length = p.2) → ∀ b E, (altC q b E).length = altN q
 | [], _, _, _ => rfl
 | [p], h, b, _ => h p (by simp) b
 | p :: p2 :: r, h, b, E => by
  simp only [altC, altN, List.length_cons, List.length_append, h p (by simp), xje (p2 :: r) (fun x hx => h x (by simp [hx]))]
  omega
theorem xmA : ∀ (q : List Cd), (∀ p ∈ q, ∀ (b k : Nat) (i : Ins), (p.1 b)[k]? = some i → okG b (b + p.2) i) → (∀ p ∈ q, ∀ b, (p.1 b).length = p.2) → ∀ (b E k : Nat) (i : Ins), b + altN q ≤ E → (altC q b E)[k]? = some i → okG b E i
 | [], _, _, _, _, _, _, _, h => by simp [altC] at h
 | [p], hq, _, b, E, k, i, hE, h => (hq p (by simp) b k i h).mono (Nat.le_refl _) hE
 | p :: p2 :: r, hq, hl, b, E, k, i, hE, h => by
  simp only [altN] at hE
  rw [altC] at h
  rcases k with _ | k
  · obtain rfl : (⟨2, [], b + 1, b + p.2 + 2⟩ : Ins) = i := by simpa using h
    exact Or.inr ⟨rfl, ⟨by simp, by simp; omega⟩, by simp; omega, by simp; omega⟩
  rw [List.getElem?_cons_succ] at h
  rcases xdP h with h | ⟨_, h⟩
  · exact (hq p (by simp) (b + 1) k i h).mono (by omega) (by omega)
  generalize k - (p.1 (b + 1)).length = k' at h
  rcases k' with _ | k'
  · obtain rfl : (⟨2, [], E, E⟩ : Ins) = i := by simpa using h
    exact Or.inr ⟨rfl, ⟨by simp; omega, by simp⟩, by simp; omega, by simp⟩
  rw [List.getElem?_cons_succ] at h
  exact (xmA (p2 :: r) (fun x hx => hq x (by simp [hx])) (fun x hx => hl x (by simp [hx])) (b + p.2 + 2) E k' i (by omega) h).mono (by omega) (Nat.le_refl _)
def xcs (es : List Nat) (E : Nat) (l : List Ins) : List Ins := es.foldl (fun l e => l.set e ⟨2, [], E, E⟩) l
theorem xey : ∀ (es : List Nat) (E : Nat) (l : List Ins), (xcs es E l).length = l.length
 | [], _, _ => rfl
 | e :: es, E, l => by
  show (xcs es E (l.set e _)).length = _
  rw [xey es E, List.length_set]
theorem xez : ∀ (es : List Nat) (E : Nat) (l m : List Ins), (∀ e ∈ es, e < l.length) → xcs es E (l ++ m) = xcs es E l ++ m
 | [], _, _, _, _ => rfl
 | e :: es, E, l, m, h => by
  show xcs es E ((l ++ m).set e _) = xcs es E (l.set e _) ++ m
  rw [List.set_append_left _ _ (h e (by simp)), xez es E _ m (fun x hx => by rw [List.length_set]; exact h x (by simp [hx]))]
theorem xjM (es : List Nat) (e E : Nat) (l : List Ins) : xcs (es ++ [e]) E l = (xcs es E l).set e ⟨2, [], E, E⟩ := by
 unfold xcs; rw [List.foldl_append]; rfl
theorem xjL (es : List Nat) (E : Nat) (l c : List Ins) (y : Nat) (h : ∀ e ∈ es, e < l.length) : xcs (es ++ [l.length + 1 + c.length]) E (l ++ ⟨2, [], l.length + 1, y⟩ :: (c ++ [⟨2, [], 0, 0⟩])) = xcs es E l ++ ⟨2, [], l.length + 1, y⟩ :: (c ++ [⟨2, [], E, E⟩]) := by
 rw [xjM, xez es E l _ h, List.set_append_right _ _ (by rw [xey]; omega), xey, show l.length + 1 + c.length - l.length = c.length + 1 by omega, List.set_cons_succ, List.set_append_right _ _ (Nat.le_refl _), Nat.sub_self]
 rfl
def ownN (w : World) (v : Value) (l : List Nat) : Prop := w.ownsRow 0 3 1 v l.length (l.map fun n : Nat => Value.int .i64 (n : Int))
structure MkE (B : Nat → Prop) (w : World) (mb : Nat) (is : List Ins) (ev : Value) (es : List Nat) : Prop where
 mkr : MkAt (fun b => B b ∧ ev.ownBlock ≠ some b) w mb is
 row : ownN w ev es
 eB : ∀ b, ev.ownBlock = some b → B b
theorem MkE.keepsF {B : Nat → Prop} {w w' : World} {mb : Nat} {is : List Ins} {ev : Value} {es : List Nat} (h : MkE B w mb is ev es) (K : xa (fun _ => False) w w') : MkE B w' mb is ev es :=
 ⟨h.mkr.keepsF K, xae h.row K (fun _ _ => id), h.eB⟩
theorem MkE.next {B : Nat → Prop} {w w' : World} {mb : Nat} {is is' : List Ins} {ev : Value} {es : List Nat} (h : MkE B w mb is ev es) (hmb : ¬ B mb) (hM : MkAt (fun b => B b ∧ ev.ownBlock ≠ some b) w' mb is') (K : xa (fun b => b = mb ∨ (B b ∧ ev.ownBlock ≠ some b)) w w') : MkE B w' mb is' ev es :=
 ⟨hM, xae h.row K (fun b e x => by
  rcases x with x | x
  · exact hmb (x ▸ h.eB b e)
  exact x.2 e), h.eB⟩
theorem MkE.push {B : Nat → Prop} {w wA w1 : World} {mb g cap : Nat} {is : List Ins} {ev : Value} {es : List Nat} {e : Nat} (h : MkE B w mb is ev es) (hmb : ¬ B mb) (hb : ∀ b, w.heap.size ≤ b → B b) (KA : xa (fun _ => False) w wA)
 (hown : w1.ownsRow 0 3 1 (.slice (some ⟨g, 0, none⟩) (es.length + 1) cap) (es.length + 1) ((es.map fun n : Nat => Value.int .i64 (n : Int)) ++ [.int .i64 (e : Int)])) (hg : wA.grownBy w1 ev.ownBlock) (hat : ev.ownBlock = some g ∨ g = wA.heap.size) :
 MkE B w1 mb is (.slice (some ⟨g, 0, none⟩) (es.length + 1) cap) (es ++ [e]) ∧ xa (fun b => b = mb ∨ B b) w w1 := by
 have k1 : xa (fun b => ev.ownBlock = some b) wA w1 := (xa.refl _ _).grown hg (fun b hb => Or.inl hb)
 have hs := KA.size
 have hM1 := (h.mkr.keepsF KA).keepsS k1 (fun e => hmb (h.eB _ e)) (fun b hb e => hb.2 e)
 have hgB : B g := by
  rcases hat with x | x
  · exact h.eB g x
  exact hb g (by omega)
 refine ⟨⟨?_, ?_, fun b e => by have h9 : g = b := Option.some.inj e; rw [← h9]; exact hgB⟩, (KA.mono (fun _ _ e => e.elim)).trans2 k1 (fun b hb e => Or.inr (h.eB b e))⟩
 · rcases hat with x | x
   · exact hM1.mono (fun b hb => ⟨hb.1, fun e => hb.2 (by have h9 : g = b := Option.some.inj e; rw [← h9]; exact x)⟩)
   have hA := (h.mkr.keepsF KA).but (fun b => g = b) (fun b e => by omega)
   refine (hA.keepsS k1 (fun e => hmb (h.eB _ e)) (fun b hb e => hb.1.2 e)).mono (fun b hb => ⟨hb.1.1, fun e => hb.2 (Option.some.inj e)⟩)
 unfold ownN
 simpa using hown
def AlsR (B : Nat → Prop) (n mb : Nat) (q : List Cd) (is : List Ins) (w : World) (iv ev : Value) (wr : World) : Prop :=
 ∃ (i : Nat) (is' : List Ins) (es : List Nat), iv = .int .i64 i ∧ i < n ∧ es.length ≤ i ∧ MkE B wr mb is' ev es ∧ is'.length + altN (q.drop i) = is.length + altN q ∧ (∀ e ∈ es, e < is'.length ∧ ∃ x y, is'[e]? = some ⟨2, [], x, y⟩) ∧ (∀ E, xcs es E is' ++ altC (q.drop i) is'.length E = is ++ altC q is.length E) ∧ xa (fun b => b = mb ∨ B b) w wr
def EndR (B : Nat → Prop) (mb E : Nat) (es : List Nat) (R : List Ins) (ev : Value) (w : World) (iv : Value) (wr : World) : Prop :=
 ∃ (j : Nat) (is' : List Ins), iv = .int .i64 j ∧ j ≤ es.length ∧ MkE B wr mb is' ev es ∧ is'.length = E ∧ (∀ e ∈ es.drop j, e < E ∧ ∃ x y, is'[e]? = some ⟨2, [], x, y⟩) ∧ xcs (es.drop j) E is' = R ∧ xa (fun b => b = mb ∨ B b) w wr
end Go.Proofs.YtbifklibdkjbeaaGreatDoor
