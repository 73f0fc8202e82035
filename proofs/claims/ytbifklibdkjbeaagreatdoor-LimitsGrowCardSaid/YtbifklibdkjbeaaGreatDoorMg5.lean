/-
  Several texts in one: The parser's count. slices.SortFunc over an owned row of ranges: a permutation, in the order of the lower ends. How set.Of works, in plain words: clamp, sort, merge. The walk of reedbedref08.Ends: some numbers, all within the set's bounds. The walk of set.Of. The walk of slices.Equal on ranges. The walks of set.Right and set.Has, and of what they call of slices.
-/
import Derived.Test.YtbifklibdkjbeaaGreatDoorMg4
import Derived.Test.YtbifklibdkjbeaaGreatDoorShelfS
import Derived.Deep.LoopGhost
import Derived.RegionTactic
namespace Go.Proofs.YtbifklibdkjbeaaGreatDoor
open Go.RowKit
set_option linter.unusedVariables false
set_option linter.unusedSimpArgs false
set_option maxRecDepth 100000
set_option maxHeartbeats 4000000
theorem xbV {w : World} {pb : Nat} {rv : Value} {rs : List Int} {s : PS} (r : Int) (h : PaAt w pb rv rs s) (hr : pk rs s = r) (hr0 : 0 ≤ r) :
 Calls Tryz.prog 165 #[.pointer (some ⟨pb, 0, none⟩), .int .i64 r] w fun e w' => e = .returned (.bool true) ∧ PaAt w' pb rv rs ⟨s.pos + 1, s.deep, s.bad⟩ ∧ xa (xaj pb) w w' := by
 have h1 := xbW w pb rv rs s r h (by have := (xaJ (show 0 ≤ pk rs s by omega)).1; have := h.len; omega)
 rw [show tkB rs r s = true by unfold tkB; simpa using hr, show tk rs r s = ⟨s.pos + 1, s.deep, s.bad⟩ from if_pos hr] at h1
 exact h1
theorem xba {w : World} {pb : Nat} {rv : Value} {rs : List Int} {s : PS} (r : Int) (h : PaAt w pb rv rs s) (hr : ¬ pk rs s = r) (hp : s.pos + 1 ≤ 1000000) :
 Calls Tryz.prog 165 #[.pointer (some ⟨pb, 0, none⟩), .int .i64 r] w fun e w' => e = .returned (.bool false) ∧ PaAt w' pb rv rs s ∧ xa (xaj pb) w w' := by
 have h1 := xbW w pb rv rs s r h hp
 rw [show tkB rs r s = false by unfold tkB; simpa using hr, show tk rs r s = s from if_neg hr] at h1
 exact h1
def brA (rs : List Int) (s : PS) : Int := numN rs s
def br3 (rs : List Int) (s : PS) : PS := ⟨(numS rs s).pos + 1, (numS rs s).deep, (numS rs s).bad⟩
def brB (rs : List Int) (s : PS) : Int := if pk rs (numS rs s) = 44 then (if pk rs (br3 rs s) = 125 then -1 else numN rs (br3 rs s)) else numN rs s
def brS (rs : List Int) (s : PS) : PS :=
 if pk rs (numS rs s) = 44 then
  (if pk rs (br3 rs s) = 125 then wt rs 125 (br3 rs s)
   else wt rs 125 ⟨(numS rs (br3 rs s)).pos, (numS rs (br3 rs s)).deep, (numS rs (br3 rs s)).bad || decide (numN rs (br3 rs s) < numN rs s)⟩)
 else wt rs 125 (numS rs s)
def cntV (rs : List Int) (s : PS) : Int × Int × Bool :=
 if pk rs s = 63 then (0, 1, true) else if pk rs s = 43 then (1, -1, true) else if pk rs s = 42 then (0, -1, true)
 else if pk rs s = 123 then (brA rs ⟨s.pos + 1, s.deep, s.bad⟩, brB rs ⟨s.pos + 1, s.deep, s.bad⟩, true) else (0, 0, false)
def cntS (rs : List Int) (s : PS) : PS :=
 if pk rs s = 63 ∨ pk rs s = 43 ∨ pk rs s = 42 then ⟨s.pos + 1, s.deep, s.bad⟩ else if pk rs s = 123 then brS rs ⟨s.pos + 1, s.deep, s.bad⟩ else s
theorem xiH (rs : List Int) (s : PS) : s.pos ≤ (numS rs s).pos ∧ (numS rs s).pos ≤ s.pos + 2 := by
 unfold numS
 split
 · split
   · exact ⟨by show s.pos ≤ s.pos + 2; omega, Nat.le_refl _⟩
   exact ⟨by show s.pos ≤ s.pos + 1; omega, by show s.pos + 1 ≤ s.pos + 2; omega⟩
 exact ⟨Nat.le_refl _, by show s.pos ≤ s.pos + 2; omega⟩
theorem xhN (rs : List Int) (s : PS) (h : ∀ r ∈ rs, 0 ≤ r ∧ r ≤ 1114111) : numN rs s ≤ 1000000000 ∧ -1000000000 ≤ numN rs s := by
 unfold numN
 split
 · rename_i h1
   split
   · rename_i h2
     simp [dig] at h1 h2
     omega
   simp [dig] at h1
   omega
 omega
theorem xjK (w : World) (pb : Nat) (rv : Value) (rs : List Int) (s : PS) (h : PaAt w pb rv rs s) (hp : s.pos + 10 ≤ 1000000) :
 Calls Tryz.prog 219 #[.pointer (some ⟨pb, 0, none⟩)] w fun e w' => e = .returned (.tuple #[.int .i64 (cntV rs s).1, .int .i64 (cntV rs s).2.1, .bool (cntV rs s).2.2]) ∧ PaAt w' pb rv rs (cntS rs s) ∧ xa (xaj pb) w w' := by
 have H0 := xoo h
 clear h
 by_cases h63 : pk rs s = 63
 · have Ev : Hid (cntV rs s = (0, 1, true)) := xoo (if_pos h63)
   have Es : Hid (cntS rs s = ⟨s.pos + 1, s.deep, s.bad⟩) := xoo (if_pos (Or.inl h63))
   have Hr := xoo h63
   clear h63
   go_enter Tryz.func219, Tryz.ntmps219
   go_wp2_with fail
   refine (xbV 63 H0.out Hr.out (by omega)).mono ?_
   rintro e w1 ⟨rfl, h1, k1⟩
   have H1 := xoo h1
   clear h1
   go_wp2_with fail
   go_ret3
   exact ⟨by rw [Ev.out]; rfl, by rw [Es.out]; exact H1.out, k1⟩
 by_cases h43 : pk rs s = 43
 · have Ev : Hid (cntV rs s = (1, -1, true)) := xoo (by unfold cntV; rw [if_neg h63, if_pos h43])
   have Es : Hid (cntS rs s = ⟨s.pos + 1, s.deep, s.bad⟩) := xoo (if_pos (Or.inr (Or.inl h43)))
   have Hr := xoo h43
   have Hn := xoo h63
   clear h43 h63
   go_enter Tryz.func219, Tryz.ntmps219
   go_wp2_with fail
   refine (xba 63 H0.out Hn.out (by omega)).mono ?_
   rintro e w1 ⟨rfl, h1, k1⟩
   have H1 := xoo h1
   clear h1
   go_wp2_with fail
   refine (xbV 43 H1.out Hr.out (by omega)).mono ?_
   rintro e w2 ⟨rfl, h2, k2⟩
   have H2 := xoo h2
   clear h2
   go_wp2_with fail
   go_ret3
   exact ⟨by rw [Ev.out]; rfl, by rw [Es.out]; exact H2.out, k1.trans k2⟩
 by_cases h42 : pk rs s = 42
 · have Ev : Hid (cntV rs s = (0, -1, true)) := xoo (by unfold cntV; rw [if_neg h63, if_neg h43, if_pos h42])
   have Es : Hid (cntS rs s = ⟨s.pos + 1, s.deep, s.bad⟩) := xoo (if_pos (Or.inr (Or.inr h42)))
   have Hr := xoo h42
   have Hn := xoo h63
   have Hm := xoo h43
   clear h43 h63 h42
   go_enter Tryz.func219, Tryz.ntmps219
   go_wp2_with fail
   refine (xba 63 H0.out Hn.out (by omega)).mono ?_
   rintro e w1 ⟨rfl, h1, k1⟩
   have H1 := xoo h1
   clear h1
   go_wp2_with fail
   refine (xba 43 H1.out Hm.out (by omega)).mono ?_
   rintro e w2 ⟨rfl, h2, k2⟩
   have H2 := xoo h2
   clear h2
   go_wp2_with fail
   refine (xbV 42 H2.out Hr.out (by omega)).mono ?_
   rintro e w3 ⟨rfl, h3, k3⟩
   have H3 := xoo h3
   clear h3
   go_wp2_with fail
   go_ret3
   exact ⟨by rw [Ev.out]; rfl, by rw [Es.out]; exact H3.out, (k1.trans k2).trans k3⟩
 have Ha := xoo h63
 have Hb := xoo h43
 have Hc := xoo h42
 by_cases h123 : pk rs s = 123
 · have Ev : Hid (cntV rs s = (brA rs ⟨s.pos + 1, s.deep, s.bad⟩, brB rs ⟨s.pos + 1, s.deep, s.bad⟩, true)) := xoo (by unfold cntV; rw [if_neg h63, if_neg h43, if_neg h42, if_pos h123])
   have Es : Hid (cntS rs s = brS rs ⟨s.pos + 1, s.deep, s.bad⟩) := xoo (by unfold cntS; rw [if_neg (by rintro (e | e | e); exact h63 e; exact h43 e; exact h42 e), if_pos h123])
   have Hd := xoo h123
   clear h63 h43 h42 h123
   obtain ⟨q, hq⟩ : ∃ q : PS, (⟨s.pos + 1, s.deep, s.bad⟩ : PS) = q := ⟨_, rfl⟩
   have hqp : q.pos + 9 ≤ 1000000 := by rw [← hq]; show s.pos + 1 + 9 ≤ 1000000; omega
   have hP := xiH rs q
   have Hq := xoo hq
   rw [hq] at Ev Es
   clear hq
   have hnq : numN rs q ≤ 1000000000 ∧ -1000000000 ≤ numN rs q := xhN rs q H0.out.rng
   by_cases h44 : pk rs (numS rs q) = 44
   · have H44 := xoo h44
     have hP3 := xiH rs (br3 rs q)
     have e3 : (br3 rs q).pos ≤ (numS rs q).pos + 1 := Nat.le_refl _
     have hn3 : numN rs (br3 rs q) ≤ 1000000000 ∧ -1000000000 ≤ numN rs (br3 rs q) := xhN rs _ H0.out.rng
     by_cases h125 : pk rs (br3 rs q) = 125
     · have Eb : Hid (brB rs q = -1) := xoo (by unfold brB; rw [if_pos h44, if_pos h125])
       have Et : Hid (brS rs q = wt rs 125 (br3 rs q)) := xoo (by unfold brS; rw [if_pos h44, if_pos h125])
       have H125 := xoo h125
       clear h44 h125
       go_enter Tryz.func219, Tryz.ntmps219
       go_wp2_with fail
       refine (xba 63 H0.out Ha.out (by omega)).mono ?_
       rintro e w1 ⟨rfl, h1, k1⟩
       have H1 := xoo h1
       clear h1
       go_wp2_with fail
       refine (xba 43 H1.out Hb.out (by omega)).mono ?_
       rintro e w2 ⟨rfl, h2, k2⟩
       have H2 := xoo h2
       clear h2
       go_wp2_with fail
       refine (xba 42 H2.out Hc.out (by omega)).mono ?_
       rintro e w3 ⟨rfl, h3, k3⟩
       have H3 := xoo h3
       clear h3
       go_wp2_with fail
       refine (xbV 123 H3.out Hd.out (by omega)).mono ?_
       rintro e w4 ⟨rfl, h4, k4⟩
       rw [Hq.out] at h4
       have H4 := xoo h4
       have K4 := xoo (((k1.trans k2).trans k3).trans k4)
       clear h4 k1 k2 k3 k4
       go_wp2_with fail
       refine (xcN _ _ _ _ q H4.out (by omega)).mono ?_
       rintro e w5 ⟨rfl, h5, k5⟩
       have H5 := xoo h5
       clear h5
       go_wp2_with fail
       refine (xbV 44 H5.out H44.out (by omega)).mono ?_
       rintro e w6 ⟨rfl, h6, k6⟩
       have H6 : Hid (PaAt w6 pb rv rs (br3 rs q)) := xoo h6
       clear h6
       go_wp2_with fail
       refine (xbY _ _ _ _ _ H6.out).mono ?_
       rintro e w7 ⟨rfl, k7⟩
       have H7 := xoo (H6.out.keepsF k7)
       have K7 := xoo (((K4.out.trans k5).trans k6).trans (k7.mono (T := xaj pb) (fun _ _ e => e.elim)))
       clear k5 k6 k7
       rw [H125.out]
       go_wp2_with fail
       refine (xcJ _ _ _ _ _ 125 H7.out (by omega)).mono ?_
       rintro e w8 ⟨rfl, h8, k8⟩
       have H8 := xoo h8
       clear h8
       go_wp2_with fail
       go_ret3
       exact ⟨by rw [Ev.out, Eb.out]; rfl, by rw [Es.out, Et.out]; exact H8.out, K7.out.trans k8⟩
     have Eb : Hid (brB rs q = numN rs (br3 rs q)) := xoo (by unfold brB; rw [if_pos h44, if_neg h125])
     have Et : Hid (brS rs q = wt rs 125 ⟨(numS rs (br3 rs q)).pos, (numS rs (br3 rs q)).deep, (numS rs (br3 rs q)).bad || decide (numN rs (br3 rs q) < numN rs q)⟩) := xoo (by unfold brS; rw [if_pos h44, if_neg h125])
     have g125 : (pk rs (br3 rs q) != 125) = true := by simp only [bne_iff_ne, ne_eq]; exact h125
     clear h44 h125
     obtain ⟨bd, hbd⟩ : ∃ b, (numS rs (br3 rs q)).bad = b := ⟨_, rfl⟩
     have Hbd := xoo hbd
     clear hbd
     generalize hlt : decide (numN rs (br3 rs q) < numN rs q) = lt at Et
     have Hlt := xoo hlt
     clear hlt
     go_enter Tryz.func219, Tryz.ntmps219
     go_wp2_with fail
     refine (xba 63 H0.out Ha.out (by omega)).mono ?_
     rintro e w1 ⟨rfl, h1, k1⟩
     have H1 := xoo h1
     clear h1
     go_wp2_with fail
     refine (xba 43 H1.out Hb.out (by omega)).mono ?_
     rintro e w2 ⟨rfl, h2, k2⟩
     have H2 := xoo h2
     clear h2
     go_wp2_with fail
     refine (xba 42 H2.out Hc.out (by omega)).mono ?_
     rintro e w3 ⟨rfl, h3, k3⟩
     have H3 := xoo h3
     clear h3
     go_wp2_with fail
     refine (xbV 123 H3.out Hd.out (by omega)).mono ?_
     rintro e w4 ⟨rfl, h4, k4⟩
     rw [Hq.out] at h4
     have H4 := xoo h4
     have K4 := xoo (((k1.trans k2).trans k3).trans k4)
     clear h4 k1 k2 k3 k4
     go_wp2_with fail
     refine (xcN _ _ _ _ q H4.out (by omega)).mono ?_
     rintro e w5 ⟨rfl, h5, k5⟩
     have H5 := xoo h5
     clear h5
     go_wp2_with fail
     refine (xbV 44 H5.out H44.out (by omega)).mono ?_
     rintro e w6 ⟨rfl, h6, k6⟩
     have H6 : Hid (PaAt w6 pb rv rs (br3 rs q)) := xoo h6
     clear h6
     go_wp2_with fail
     refine (xbY _ _ _ _ _ H6.out).mono ?_
     rintro e w7 ⟨rfl, k7⟩
     have H7 := xoo (H6.out.keepsF k7)
     have K7 := xoo (((K4.out.trans k5).trans k6).trans (k7.mono (T := xaj pb) (fun _ _ e => e.elim)))
     clear k5 k6 k7
     go_wp2_with fail
     refine (xcN _ _ _ _ (br3 rs q) H7.out (by omega)).mono ?_
     rintro e w8 ⟨rfl, h8, k8⟩
     have c3 := h8.c3
     have f3 := h8.fr 3
     rw [Hbd.out] at c3
     have H8 := xoo (h8.setBad (bd || lt))
     have K8 := xoo ((K7.out.trans k8).set (p := ⟨pb, 3, none⟩) rfl (.bool (bd || lt)))
     clear h8 k8
     generalize hna : numN rs q = na at *
     have Hna := xoo hna
     clear hna
     generalize hnb : numN rs (br3 rs q) = nb at *
     have Hnb := xoo hnb
     clear hnb
     have hlt := Hlt.out
     cases bd
     · cases lt
       · have hg : ¬ nb < na := by simpa using hlt
         clear Hlt
         go_wp2_with fail
         refine (xcJ _ _ _ _ _ 125 H8.out (by show (numS rs (br3 rs q)).pos + 1 ≤ 1000000; omega)).mono ?_
         rintro e w9 ⟨rfl, h9, k9⟩
         have H9 := xoo h9
         clear h9
         go_wp2_with fail
         go_ret3
         exact ⟨by rw [Ev.out, Eb.out]; unfold brA; rw [Hna.out]; rfl, by rw [Es.out, Et.out, Hbd.out]; exact H9.out, K8.out.trans k9⟩
       have hg : nb < na := by simpa using hlt
       clear Hlt
       go_wp2_with fail
       refine (xcJ _ _ _ _ _ 125 H8.out (by show (numS rs (br3 rs q)).pos + 1 ≤ 1000000; omega)).mono ?_
       rintro e w9 ⟨rfl, h9, k9⟩
       have H9 := xoo h9
       clear h9
       go_wp2_with fail
       go_ret3
       exact ⟨by rw [Ev.out, Eb.out]; unfold brA; rw [Hna.out]; rfl, by rw [Es.out, Et.out, Hbd.out]; exact H9.out, K8.out.trans k9⟩
     clear hlt Hlt
     go_wp2_with fail
     refine (xcJ _ _ _ _ _ 125 H8.out (by show (numS rs (br3 rs q)).pos + 1 ≤ 1000000; omega)).mono ?_
     rintro e w9 ⟨rfl, h9, k9⟩
     have H9 := xoo h9
     clear h9
     go_wp2_with fail
     go_ret3
     exact ⟨by rw [Ev.out, Eb.out]; unfold brA; rw [Hna.out]; rfl, by rw [Es.out, Et.out, Hbd.out]; exact H9.out, K8.out.trans k9⟩
   have H44 := xoo h44
   have Eb : Hid (brB rs q = numN rs q) := xoo (by unfold brB; rw [if_neg h44])
   have Et : Hid (brS rs q = wt rs 125 (numS rs q)) := xoo (by unfold brS; rw [if_neg h44])
   clear h44
   go_enter Tryz.func219, Tryz.ntmps219
   go_wp2_with fail
   refine (xba 63 H0.out Ha.out (by omega)).mono ?_
   rintro e w1 ⟨rfl, h1, k1⟩
   have H1 := xoo h1
   clear h1
   go_wp2_with fail
   refine (xba 43 H1.out Hb.out (by omega)).mono ?_
   rintro e w2 ⟨rfl, h2, k2⟩
   have H2 := xoo h2
   clear h2
   go_wp2_with fail
   refine (xba 42 H2.out Hc.out (by omega)).mono ?_
   rintro e w3 ⟨rfl, h3, k3⟩
   have H3 := xoo h3
   clear h3
   go_wp2_with fail
   refine (xbV 123 H3.out Hd.out (by omega)).mono ?_
   rintro e w4 ⟨rfl, h4, k4⟩
   rw [Hq.out] at h4
   have H4 := xoo h4
   have K4 := xoo (((k1.trans k2).trans k3).trans k4)
   clear h4 k1 k2 k3 k4
   go_wp2_with fail
   refine (xcN _ _ _ _ q H4.out (by omega)).mono ?_
   rintro e w5 ⟨rfl, h5, k5⟩
   have H5 := xoo h5
   clear h5
   go_wp2_with fail
   refine (xba 44 H5.out H44.out (by omega)).mono ?_
   rintro e w6 ⟨rfl, h6, k6⟩
   have H6 := xoo h6
   clear h6
   go_wp2_with fail
   refine (xcJ _ _ _ _ _ 125 H6.out (by omega)).mono ?_
   rintro e w8 ⟨rfl, h8, k8⟩
   have H8 := xoo h8
   clear h8
   go_wp2_with fail
   go_ret3
   exact ⟨by rw [Ev.out, Eb.out]; rfl, by rw [Es.out, Et.out]; exact H8.out, ((K4.out.trans k5).trans k6).trans k8⟩
 have Ev : Hid (cntV rs s = (0, 0, false)) := xoo (by unfold cntV; rw [if_neg h63, if_neg h43, if_neg h42, if_neg h123])
 have Es : Hid (cntS rs s = s) := xoo (by unfold cntS; rw [if_neg (by rintro (e | e | e); exact h63 e; exact h43 e; exact h42 e), if_neg h123])
 have Hd := xoo h123
 clear h63 h43 h42 h123
 go_enter Tryz.func219, Tryz.ntmps219
 go_wp2_with fail
 refine (xba 63 H0.out Ha.out (by omega)).mono ?_
 rintro e w1 ⟨rfl, h1, k1⟩
 have H1 := xoo h1
 clear h1
 go_wp2_with fail
 refine (xba 43 H1.out Hb.out (by omega)).mono ?_
 rintro e w2 ⟨rfl, h2, k2⟩
 have H2 := xoo h2
 clear h2
 go_wp2_with fail
 refine (xba 42 H2.out Hc.out (by omega)).mono ?_
 rintro e w3 ⟨rfl, h3, k3⟩
 have H3 := xoo h3
 clear h3
 go_wp2_with fail
 refine (xba 123 H3.out Hd.out (by omega)).mono ?_
 rintro e w4 ⟨rfl, h4, k4⟩
 have H4 := xoo h4
 clear h4
 go_wp2_with fail
 go_ret3
 exact ⟨by rw [Ev.out]; rfl, by rw [Es.out]; exact H4.out, ((k1.trans k2).trans k3).trans k4⟩
section
open Go.Shelf Go.Lib Go.Sort
def xh (x : Int × Int) : List Value := [.int .i64 x.1, .int .i64 x.2]
theorem xeL (x : Int) (w : World) : Calls Tryz.prog 160 #[.int .i64 x] w fun e w' => e = .returned (.bool false) ∧ w = w' := by
 have h : (x != x) = false := by simp
 go_enter Tryz.func160, Tryz.ntmps160
 go_wp2
 go_ret
 exact ⟨rfl, rfl⟩
def cmpI (x y : Int) : Int := if x < y then -1 else if y < x then 1 else 0
theorem xh5 (x y : Int) (w : World) : Calls Tryz.prog 201 #[.int .i64 x, .int .i64 y] w fun e w' => e = .returned (.int .i64 (cmpI x y)) ∧ w = w' := by
 by_cases h1 : x < y
 · have HV := xoo (show cmpI x y = -1 from if_pos h1)
   go_enter Tryz.func201, Tryz.ntmps201
   go_wp2_with (go_at_call 160; refine (xeL _ _).mono ?_; rintro e w' ⟨rfl, rfl⟩)
   go_ret
   exact ⟨by rw [HV.out]; rfl, rfl⟩
 by_cases h2 : y < x
 · have HV := xoo (show cmpI x y = 1 by unfold cmpI; rw [if_neg h1, if_pos h2])
   go_enter Tryz.func201, Tryz.ntmps201
   go_wp2_with (go_at_call 160; refine (xeL _ _).mono ?_; rintro e w' ⟨rfl, rfl⟩)
   go_ret
   exact ⟨by rw [HV.out]; rfl, rfl⟩
 have HV := xoo (show cmpI x y = 0 by unfold cmpI; rw [if_neg h1, if_neg h2])
 go_enter Tryz.func201, Tryz.ntmps201
 go_wp2_with (go_at_call 160; refine (xeL _ _).mono ?_; rintro e w' ⟨rfl, rfl⟩)
 go_ret
 exact ⟨by rw [HV.out]; rfl, rfl⟩
def xh6 (x y : Int × Int) : Int := cmpI x.1 y.1
theorem xmh (x y : Int × Int) (W : World) : Calls Tryz.prog 200 #[.agg #[.int .i64 x.1, .int .i64 x.2], .agg #[.int .i64 y.1, .int .i64 y.2]] W fun e w' => e = .returned (.int .i64 (xh6 x y)) ∧ ∃ q os', w' = grow (W.drewN q) os' := by
 go_enter Tryz.func200, Tryz.ntmps200
 go_wp2_with fail
 refine (xh5 _ _ _).mono ?_
 rintro e w' ⟨rfl, rfl⟩
 go_wp2_with fail
 go_ret
 exact ⟨rfl, 0, _, by rw [alloc_eq_grow, alloc_eq_grow, grow_grow]; rfl⟩
theorem swoLo : SWO (ltOf xh6) := by
 have key : ∀ x y : Int × Int, ltOf xh6 x y = decide (x.1 < y.1) := by
  intro x y
  unfold ltOf xh6 cmpI
  by_cases h1 : x.1 < y.1
  · simp [h1]
  by_cases h2 : y.1 < x.1 <;> simp [h1, h2]
 exact ⟨fun x => by rw [key]; simp, fun x y z h1 h2 => by rw [key] at *; simp at *; omega, fun x y z h1 h2 => by rw [key] at *; simp at *; omega⟩
theorem ltLo (x y : Int × Int) : ltOf xh6 x y = decide (x.1 < y.1) := by
 unfold ltOf xh6 cmpI
 by_cases h1 : x.1 < y.1
 · simp [h1]
 by_cases h2 : y.1 < x.1 <;> simp [h1, h2]
theorem xeJ {α : Type} [Inhabited α] (enc : α → List Value) (k : Nat) (w : World) (blk off n : Nat) (d : Array α) (os : Array Obj) : xa (fun b => b = blk) w (sortWorldK enc k w blk off n d os) := by
 unfold sortWorldK grow putRowK putRow mapBlock
 refine ⟨rfl, rfl, rfl, ?_, fun j hj hs => ?_⟩
 · show w.heap.size ≤ ((w.heap.modify blk _) ++ os).size
   simp
 show ((w.heap.modify blk _) ++ os)[j]? = _
 rw [Array.getElem?_append_left (by simpa using hj), Array.getElem?_modify, if_neg (fun e => hs e.symm)]
theorem xmP (l : List (Int × Int)) (v : Value) (base : Nat) (w : World) (h : w.ownsRow base 287 2 v l.length (cellsOf 2 encR l)) (hl : l.length < 1000000) :
 Calls Tryz.prog 199 #[v, .func (.func 200) #[] #[]] w fun e w' => e = .returned (.tuple #[]) ∧
  ∃ l', l'.Perm l ∧ l'.Pairwise (fun a b => a.1 ≤ b.1) ∧ SlOf 2 encR w' v l' ∧ xa (fun b => v.ownBlock = some b) w w' := by
 rcases h.2 with ⟨rfl, h0⟩ | ⟨g, cap, cur, rfl, hg, hh, hn, hcap, _⟩
 · have hl0 : l = [] := List.length_eq_zero_iff.1 h0
   subst hl0
   have hc := AnyF.slices_SortFunc_none Tryz.sortR none 0 (.func (.func 200) #[] #[]) w
   change Calls Tryz.prog 199 _ _ _ at hc
   refine hc.mono ?_
   rintro e w' ⟨rfl, rfl⟩
   exact ⟨rfl, [], List.Perm.refl _, List.Pairwise.nil, SlOf.nil _ _ _, xa.refl _ _⟩
 have eg : ∀ args w, (callFunc 200 args).run Tryz.prog w = .ok (.enter 200 args) w := enters_of Tryz.func200 (by kernel_rfl) rfl
 have hcell := h.cellAt
 have hfz := h.frozenAt
 have hH : HoldsK xh 2 w g 0 l.toArray := by
  intro j hj
  rw [size_flatK] at hj
  have hj' : j < l.length * 2 := by simpa using hj
  refine ⟨?_, hfz _⟩
  rw [get_flatK _ _ _ _ hj, Nat.zero_add, hcell j hj']
  obtain ⟨x, hx⟩ : ∃ x, l[j / 2]? = some x := ⟨_, List.getElem?_eq_getElem (by omega)⟩
  have h1 := xaH 2 encR l (j / 2) x hx (j % 2) (by omega)
  rw [show j / 2 * 2 + j % 2 = j by omega] at h1
  rw [h1]
  have h2 : l.toArray[j / 2]! = x := by
   rw [getElem!_def]; simp [hx]
  rw [h2]
  have : j % 2 = 0 ∨ j % 2 = 1 := by omega
  rcases this with e | e <;> simp [e, encR, xh]
 have hc := AnyQ.slices_SortFunc Tryz.sortR 2 Tryz.isAgg287 Tryz.sizeOf287 xh (fun _ => rfl) (fun x v hv => by simp [xh] at hv; rcases hv with rfl | rfl <;> rfl) xh6 swoLo 200 #[] g 0 cap l.toArray w eg (fun _ _ _ _ x y => xmh x y _) hH (Array.getElem?_eq_some_iff.1 hh).1 (by simp; omega)
 change Calls Tryz.prog 199 _ _ _ at hc
 simp only [List.size_toArray] at hc
 refine hc.mono ?_
 rintro e w' ⟨rfl, d', n, os, hp, hs, rfl⟩
 have hsz : d'.size = l.length := by simpa using hp.1
 have hHs : HoldsK xh 2 (sortWorldK xh 2 w g 0 n d' os) g 0 d' := holdsK_sortWorldK xh 2 w g 0 n l.toArray d' os (Array.getElem?_eq_some_iff.1 hh).1 hH (by simpa using hp.1)
 refine ⟨rfl, d'.toList, ?_, ?_, ⟨some ⟨g, 0, none⟩, cap, by simp [hsz], by simp; omega, by simp; omega, fun _ => ⟨g, 0, rfl, fun i x hx j hj => ?_⟩⟩, (xeJ xh 2 w g 0 n d' os).mono (fun b _ hb => by subst hb; rfl)⟩
 · have h3 := hp.2.2
   rw [show d'.extract 0 l.length = d' by rw [← hsz]; simp] at h3
   rw [show l.toArray.extract 0 l.length = l.toArray by rw [show l.length = l.toArray.size by simp]; simp] at h3
   simpa using h3
 · rw [List.pairwise_iff_getElem]
   intro i j hi hj hij
   have h4 := hs i j (Nat.zero_le _) hij (by simpa [hsz] using hj)
   rw [ltLo] at h4
   rw [getElem!_pos d' i (by simpa using hi), getElem!_pos d' j (by simpa using hj)] at h4
   simp at h4
   simpa using h4
 have hi : i < d'.size := by
  rcases Nat.lt_or_ge i d'.size with h5 | h5
  · exact h5
  rw [List.getElem?_eq_none (by simpa using h5)] at hx; cases hx
 have h6 := (hHs.cell hi hj).1
 rw [h6]
 have h7 : d'[i]! = x := by
  rw [getElem!_pos d' i hi]
  rw [Array.getElem?_toList, Array.getElem?_eq_getElem hi] at hx
  exact Option.some.inj hx
 rw [h7]
 have : j = 0 ∨ j = 1 := by omega
 rcases this with rfl | rfl <;> rfl
end
def xbc (p : Int × Int) : Int × Int := (max p.1 0, min p.2 1114111)
def xcB (l : List (Int × Int)) : List (Int × Int) := (l.map xbc).filter fun p => decide (p.1 ≤ p.2)
theorem xh8 (l : List (Int × Int)) (p : Int × Int) : xcB (l ++ [p]) = xcB l ++ (if (xbc p).1 ≤ (xbc p).2 then [xbc p] else []) := by
 unfold xcB
 rw [List.map_append, List.filter_append]
 congr 1
 by_cases h : (xbc p).1 ≤ (xbc p).2 <;> simp [h]
theorem xdv (l : List (Int × Int)) : (xcB l).length ≤ l.length := by
 unfold xcB; have := List.length_filter_le (fun p => decide (p.1 ≤ p.2)) (l.map xbc); simpa using this
theorem xeU (l : List (Int × Int)) : ∀ p ∈ xcB l, 0 ≤ p.1 ∧ p.1 ≤ p.2 ∧ p.2 ≤ 1114111 := by
 intro p hp
 have h := List.mem_filter.1 hp
 obtain ⟨q, hq, rfl⟩ := List.mem_map.1 h.1
 have := of_decide_eq_true h.2
 refine ⟨?_, this, ?_⟩ <;> unfold xbc <;> simp only <;> omega
theorem xkh (l : List (Int × Int)) (r : Int) : mem (xcB l) r = has l r := by
 rw [Bool.eq_iff_iff]
 unfold has
 rw [mem_iff, Bool.and_eq_true, mem_iff]
 constructor
 · rintro ⟨p, hp, h1, h2⟩
   have h := List.mem_filter.1 hp
   obtain ⟨q, hq, rfl⟩ := List.mem_map.1 h.1
   unfold xbc at h1 h2
   simp only at h1 h2
   exact ⟨⟨q, hq, by omega, by omega⟩, by simp [xa1]; omega⟩
 rintro ⟨⟨q, hq, h1, h2⟩, h3⟩
 simp [xa1] at h3
 refine ⟨xbc q, List.mem_filter.2 ⟨List.mem_map.2 ⟨q, hq, rfl⟩, ?_⟩, ?_, ?_⟩ <;> unfold xbc <;> simp only
 · rw [decide_eq_true_eq]; omega
 · omega
 omega
def xcu (out : List (Int × Int)) (x : Int × Int) : List (Int × Int) :=
 match out.getLast? with
 | none => out ++ [x]
 | some q => if x.1 ≤ q.2 + 1 then out.dropLast ++ [(q.1, max q.2 x.2)] else out ++ [x]
theorem xeH (x : Int × Int) : xcu [] x = [x] := rfl
theorem xdH (l : List (Int × Int)) (q x : Int × Int) (h : x.1 ≤ q.2 + 1) : xcu (l ++ [q]) x = l ++ [(q.1, max q.2 x.2)] := by simp [xcu, h]
theorem xdG (l : List (Int × Int)) (q x : Int × Int) (h : ¬ x.1 ≤ q.2 + 1) : xcu (l ++ [q]) x = l ++ [q] ++ [x] := by simp [xcu, h]
theorem xgQ (l : List (Int × Int)) (x : Int × Int) : (xcu l x).length ≤ l.length + 1 := by
 rcases List.eq_nil_or_concat l with rfl | ⟨m, q, rfl⟩
 · simp [xeH]
 rw [List.concat_eq_append]
 by_cases h : x.1 ≤ q.2 + 1
 · rw [xdH m q x h]; simp
 rw [xdG m q x h]; simp
def xbG (l : List (Int × Int)) : List (Int × Int) := l.foldl xcu []
theorem xhQ (l : List (Int × Int)) (x : Int × Int) : xbG (l ++ [x]) = xcu (xbG l) x := by simp [xbG]
theorem xdn (l : List (Int × Int)) : (xbG l).length ≤ l.length := by
 have key : ∀ (m out : List (Int × Int)), (m.foldl xcu out).length ≤ out.length + m.length := by
  intro m
  induction m with
  | nil => intro out; simp
  | cons x m ih => intro out; have h1 := ih (xcu out x); have h2 := xgQ out x; simp only [List.foldl_cons, List.length_cons]; omega
 simpa [xbG] using key l []
theorem xnj (out : List (Int × Int)) (x : Int × Int) (h : Norm out) (hx : 0 ≤ x.1 ∧ x.1 ≤ x.2 ∧ x.2 ≤ 1114111) (hle : ∀ p ∈ out, p.1 ≤ x.1) :
 Norm (xcu out x) ∧ (∀ r, mem (xcu out x) r = (mem out r || (decide (x.1 ≤ r) && decide (r ≤ x.2)))) ∧ ∀ p ∈ xcu out x, p.1 ≤ x.1 := by
 rcases List.eq_nil_or_concat out with rfl | ⟨m, q, rfl⟩
 · rw [xeH]
   exact ⟨⟨hx.1, hx.2.1, hx.2.2, by simp, trivial⟩, fun r => by rw [xbv, xdI, Bool.false_or], by simp⟩
 rw [List.concat_eq_append] at h hle ⊢
 obtain ⟨hm, q0, q1, q2, q3⟩ := xdk m q h
 have hq := hle q (by simp)
 by_cases hj : x.1 ≤ q.2 + 1
 · rw [xdH m q x hj]
   refine ⟨xbu m _ hm q0 (by simp only; omega) (by simp only; omega) q3, fun r => ?_, ?_⟩
   · rw [mem_append, mem_append, xbv, xbv, Bool.or_assoc]
     congr 1
     rw [Bool.eq_iff_iff]; simp only [Bool.and_eq_true, Bool.or_eq_true, decide_eq_true_eq]; omega
   intro p hp
   rcases List.mem_append.1 hp with hp | hp
   · exact hle p (List.mem_append_left _ hp)
   simp at hp; subst hp; exact hq
 rw [xdG m q x hj]
 refine ⟨xbu (m ++ [q]) x h hx.1 hx.2.1 hx.2.2 ?_, fun r => by rw [mem_append (m ++ [q]), xbv], ?_⟩
 · intro p hp
   rcases List.mem_append.1 hp with hp | hp
   · have := q3 p hp; omega
   simp at hp; subst hp; omega
 intro p hp
 rcases List.mem_append.1 hp with hp | hp
 · exact hle p hp
 simp at hp; subst hp; exact Int.le_refl _
theorem xgT (l : List (Int × Int)) (hg : ∀ p ∈ l, 0 ≤ p.1 ∧ p.1 ≤ p.2 ∧ p.2 ≤ 1114111) (hs : l.Pairwise (fun a b => a.1 ≤ b.1)) :
 Norm (xbG l) ∧ ∀ r, mem (xbG l) r = mem l r := by
 have key : ∀ (m out done : List (Int × Int)), Norm out → (∀ r, mem out r = mem done r) → (∀ p ∈ out, ∀ x ∈ m, p.1 ≤ x.1) → (∀ p ∈ m, 0 ≤ p.1 ∧ p.1 ≤ p.2 ∧ p.2 ≤ 1114111) → m.Pairwise (fun a b => a.1 ≤ b.1) →
  Norm (m.foldl xcu out) ∧ ∀ r, mem (m.foldl xcu out) r = mem (done ++ m) r := by
  intro m
  induction m with
  | nil => intro out done hn hm _ _ _; exact ⟨hn, fun r => by simpa using hm r⟩
  | cons x m ih =>
   intro out done hn hm hle hgo hpw
   obtain ⟨a, b, c⟩ := xnj out x hn (hgo x List.mem_cons_self) (fun p hp => hle p hp x List.mem_cons_self)
   have hpw' := List.pairwise_cons.1 hpw
   have := ih (xcu out x) (done ++ [x]) a (fun r => by rw [b, mem_append, xbv, hm]) (fun p hp y hy => Int.le_trans (c p hp) (hpw'.1 y hy)) (fun p hp => hgo p (List.mem_cons_of_mem _ hp)) hpw'.2
   refine ⟨this.1, fun r => ?_⟩
   have h2 := this.2 r
   simp only [List.foldl_cons]
   rw [h2]; simp
 have := key l [] [] trivial (fun _ => rfl) (by simp) hg hs
 exact ⟨this.1, fun r => by have := this.2 r; simpa [xbG] using this⟩
theorem xnl {a b : List (Int × Int)} (h : a.Perm b) (r : Int) : mem a r = mem b r := by
 rw [Bool.eq_iff_iff, mem_iff, mem_iff]
 exact ⟨fun ⟨p, hp, hr⟩ => ⟨p, h.mem_iff.1 hp, hr⟩, fun ⟨p, hp, hr⟩ => ⟨p, h.mem_iff.2 hp, hr⟩⟩
theorem of_ok (rs l : List (Int × Int)) (hp : l.Perm (xcB rs)) (hs : l.Pairwise (fun a b => a.1 ≤ b.1)) : IsOf rs (xbG l) := by
 have h := xgT l (fun p hp' => xeU rs p (hp.mem_iff.1 hp')) hs
 exact ⟨h.1, fun r => by rw [h.2, xnl hp, xkh]⟩
theorem xg : (Tryz.prog.info? 3).map (fun i => (i.zero, i.size, i.bytes)) = some (some (.int .i64 0), 1, 8) := by kernel_rfl
theorem own_ne {w : World} {base : Nat} {e : TypeId} {v : Value} {n : Nat} {xs : List Value} (h : w.ownsRow base e 1 v n xs) (h3 : 3 ≤ n) {b : Nat} {cs : Array Value} {T : TypeId} (hb : w.heap[b]? = some (.cells cs T (0, 0))) (hcs : cs.size = 2) : ∀ g, v.ownBlock = some g → g ≠ b := by
 rintro g hg rfl
 rcases h.2 with ⟨rfl, _⟩ | ⟨g', cap, cur, rfl, _, hh, hn, _, hsz, _⟩
 · simp [Value.ownBlock] at hg
 simp [Value.ownBlock] at hg
 subst hg
 rw [hb] at hh
 simp at hh
 obtain ⟨⟨rfl, _⟩, _⟩ := hh
 omega
theorem xaM {w : World} {base : Nat} {e : TypeId} {size : Nat} {v : Value} {n : Nat} {xs : List Value} (h : w.ownsRow base e size v n xs) : ∀ g, v.ownBlock = some g → g < w.heap.size := by
 rintro g hg
 rcases h.2 with ⟨rfl, _⟩ | ⟨g', cap, cur, rfl, _, hh, _⟩
 · simp [Value.ownBlock] at hg
 simp [Value.ownBlock] at hg; subst hg; exact (Array.getElem?_eq_some_iff.1 hh).1
theorem xae {S : Nat → Prop} {w w' : World} {base : Nat} {e : TypeId} {size : Nat} {v : Value} {n : Nat} {xs : List Value} (h : w.ownsRow base e size v n xs) (K : xa S w w') (hs : ∀ b, v.ownBlock = some b → ¬ S b) : w'.ownsRow base e size v n xs := by
 refine ⟨h.1, ?_⟩
 rcases h.2 with h0 | ⟨g, cap, cur, rfl, hg, hh, hr⟩
 · exact Or.inl h0
 exact Or.inr ⟨g, cap, cur, rfl, hg, K.heap hh (hs g rfl), hr⟩
theorem xaO : (Tryz.prog.info? 287).map (fun i => (i.zero, i.size, i.bytes)) = some (some (.agg #[.int .i64 0, .int .i64 0]), 2, 16) := by kernel_rfl
def ROwn (w0 w : World) (v : Value) (l : List (Int × Int)) : Prop := w.ownsRow w0.heap.size 287 2 v l.length (cellsOf 2 encR l) ∧ xa (fun _ => False) w0 w
theorem xcE (w : World) (l : List Value) (T : TypeId) (n : Nat) (hn : w.heap.size = n) : ∀ (j : Nat) (u : Value), l[j]? = some u → (w.alloc (.cells l.toArray T)).cell? ((⟨n, 0, none⟩ : Addr).add j) = some u := by
 subst hn; exact xan w l T
theorem xbB {w : World} {base : Nat} {e : TypeId} {size : Nat} {v : Value} {n : Nat} {xs : List Value} (h : w.ownsRow base e size v n xs) (hn : 0 < n) : ∃ g cap, v = .slice (some ⟨g, 0, none⟩) n cap ∧ base ≤ g ∧ g < w.heap.size := by
 rcases h.2 with ⟨_, rfl⟩ | ⟨g, cap, cur, rfl, hg, hh, _⟩
 · omega
 exact ⟨g, cap, rfl, hg, (Array.getElem?_eq_some_iff.1 hh).1⟩
theorem xip (m : List (Int × Int)) (q : Int × Int) (z : Int) : (cellsOf 2 encR (m ++ [q])).set (m.length * 2 + 1) (.int .i64 z) = cellsOf 2 encR (m ++ [(q.1, z)]) := by
 rw [xag, xag, List.set_append_right _ _ (by rw [xah]; omega), xah]
 congr 1
 rw [show m.length * 2 + 1 - m.length * 2 = 1 by omega]
 rfl
def Of2 (w0 : World) (l : List (Int × Int)) (v i : Value) (wr : World) : Prop := ∃ k : Nat, i = .int .i64 k ∧ k ≤ l.length ∧ ROwn w0 wr v (xbG (l.take k))
theorem xai {w : World} {base base' : Nat} {e : TypeId} {size : Nat} {v : Value} {n : Nat} {xs : List Value} (h : w.ownsRow base' e size v n xs) (hb : base ≤ base') : w.ownsRow base e size v n xs := by
 obtain ⟨h1, h2⟩ := h
 refine ⟨h1, ?_⟩
 rcases h2 with h2 | ⟨g, cap, cur, hv, hg, r⟩
 · exact Or.inl h2
 exact Or.inr ⟨g, cap, cur, hv, by omega, r⟩
def Of1 (w0 : World) (rs : List (Int × Int)) (v i : Value) (wr : World) : Prop := ∃ k : Nat, i = .int .i64 k ∧ k ≤ rs.length ∧ ROwn w0 wr v (xcB (rs.take k))
theorem xcY (rs : List (Int × Int)) (v : Value) (w : World) (h : RSl w v rs) (hlen : rs.length ≤ 100000) :
 Calls Tryz.prog 170 #[v] w fun e w' => ∃ u out, e = .returned u ∧ IsOf rs out ∧ ROwn w w' u out ∧ out.length ≤ rs.length := by
 obtain ⟨a, cap, rfl, hl, hc⟩ := h.cells
 have Hc := xoo hc
 clear hc h
 obtain ⟨i0, hi, hz0, hz1, hz2⟩ := info_parts xaO
 go_enter Tryz.func170, Tryz.ntmps170
 go_wp2_with fail
 go_loopw [3, 12] (fun v i wr => Of1 w rs v i wr) (fun _ i _ => rs.length - (intOf i).toNat)
 case atStart => exact ⟨0, rfl, Nat.zero_le _, World.ownsRow_nil _ _ _ _, xa.refl _ _⟩
 case round =>
  obtain ⟨k, rfl, hk, hown, hkw⟩ := hrel
  by_cases hlt : k < rs.length
  · obtain ⟨b, off, rfl, hcc⟩ := Hc.out (by omega)
    obtain ⟨p, hp⟩ : ∃ p, rs[k]? = some p := ⟨_, List.getElem?_eq_getElem hlt⟩
    obtain ⟨c0, c1, _, _⟩ := hcc k p hp
    clear hcc
    have d0 := hkw.cell c0 id
    have d1 := hkw.cell c1 id
    have hsn := xdV hp
    have hcl := xh8 (rs.take k) p
    rw [← hsn] at hcl
    have hll := xdv (rs.take k)
    rw [List.length_take] at hll
    have Hcl := xoo hcl
    clear c0 c1 hcl hsn hp
    have hsz := hkw.size
    by_cases hin : max p.1 0 ≤ min p.2 1114111
    · go_wp2_with (at_builtin; refine wpList_append_own _ rfl (.tmp 29) (.tmp 31) 151 rfl w.heap.size 287 i0 _ 2 16 Tryz.underlying151 hi hz0 hz1 hz2 rfl (by decide) _ _ _ rfl (xab (xab hown _) _) ⟨wr.heap.size + 1, 0, none⟩ 1 1 [.int .i64 (max p.1 0), .int .i64 (min p.2 1114111)] rfl rfl ?c1 ?c2 ?c3 ?c4 ?c5 ?_)
      case c1 => exact xcE _ [_, _] _ _ (by simp)
      case c2 => intro u hu; simp at hu; rcases hu with rfl | rfl <;> rfl
      case c3 => unfold maxLen; omega
      case c4 => omega
      case c5 => simp; omega
      intro v' w1 hown' hgrow _
      have hcl := Hcl.out
      rw [if_pos (by unfold xbc; exact hin)] at hcl
      have hO : ROwn w w1 v' (xcB (rs.take (k + 1))) := by
       refine ⟨?_, ((hkw.alloc _).alloc _).grown hgrow (fun b hb => Or.inr (xaa hown b hb))⟩
       rw [hcl, xag]
       simpa [cellsOf, encR, xbc, List.range_succ] using hown'
      clear hown hown' hgrow hcl hkw d0 d1
      go_wp2_with fail
      go_roundw
      case rel => exact ⟨k + 1, by go_num, by omega, hO⟩
      case measure => simp [intOf]; omega
    go_wp2_with fail
    go_roundw
    case rel =>
     refine ⟨k + 1, by go_num, by omega, ?_, hkw.alloc _⟩
     have hcl := Hcl.out
     rw [if_neg (by unfold xbc; exact hin), List.append_nil] at hcl
     rw [hcl]; exact xab hown _
    case measure => simp [intOf]; omega
  obtain rfl : rs.length = k := by omega
  rw [List.take_length] at hown
  have hll := xdv rs
  have hsz := hkw.size
  go_wp2_with fail
  refine (xmP (xcB rs) _ _ _ hown (by omega)).mono ?_
  rintro e w1 ⟨rfl, l, hperm, hsort, hS, hk1⟩
  have hkw1 : xa (fun _ => False) w w1 := hkw.trans2 hk1 (fun j hj hb => by have := xaa hown j hb; omega)
  have hfin := of_ok rs l hperm hsort
  have hlc : l.length ≤ rs.length := by rw [hperm.length_eq]; exact hll
  have HF := xoo hfin
  have HG := xoo (show ∀ p ∈ l, 0 ≤ p.1 ∧ p.1 ≤ p.2 ∧ p.2 ≤ 1114111 from fun p hp => xeU rs p (hperm.mem_iff.1 hp))
  have HS := xoo hsort
  clear hfin hperm hsort hk1 hown hkw hll hsz
  obtain ⟨al, lc, rfl, hl1, hl2, hcl⟩ := hS
  have Hcl := xoo hcl
  clear hcl
  go_wp2_with fail
  go_loopw [6, 38] (fun v i wr => Of2 w1 l v i wr) (fun _ i _ => l.length - (intOf i).toNat)
  case atStart => exact ⟨0, rfl, Nat.zero_le _, World.ownsRow_nil _ _ _ _, xa.refl _ _⟩
  case round =>
   obtain ⟨k, rfl, hk, hown, hkl⟩ := hrel
   by_cases hlt : k < l.length
   · obtain ⟨b, off, rfl, hcc⟩ := Hcl.out (by omega)
     obtain ⟨p, hp⟩ : ∃ p, l[k]? = some p := ⟨_, List.getElem?_eq_getElem hlt⟩
     have c0 : w1.cell? ⟨b, off + k * 2, none⟩ = some (.int .i64 p.1) := hcc k p hp 0 (by omega)
     have c1 : w1.cell? ⟨b, off + k * 2 + 1, none⟩ = some (.int .i64 p.2) := hcc k p hp 1 (by omega)
     obtain ⟨gp0, gp1, gp2⟩ := HG.out p (List.mem_of_getElem? hp)
     have d0 := hkl.cell c0 id
     have d1 := hkl.cell c1 id
     have hml := xdn (l.take k)
     rw [List.length_take] at hml
     have hms : xbG (l.take (k + 1)) = xcu (xbG (l.take k)) p := by rw [xdV hp, xhQ]
     have hnorm := (xgT (l.take k) (fun q hq => HG.out q (List.mem_of_mem_take hq)) (HS.out.sublist (List.take_sublist _ _))).1
     have Hms := xoo hms
     clear hcc c0 c1 hms hp
     have hsz := hkl.size
     generalize hout : xbG (l.take k) = out at *
     have Hout := xoo hout
     clear hout
     rcases List.eq_nil_or_concat out with rfl | ⟨m, q, rfl⟩
     · obtain ⟨va, vc, rfl⟩ := xac hown
       simp only [List.length_nil] at hown
       go_wp2_with fail
       go_quiet (fail)
       go_wp2_with (at_builtin; refine wpList_append_own _ rfl (.tmp 72) (.tmp 74) 151 rfl w1.heap.size 287 i0 _ 2 16 Tryz.underlying151 hi hz0 hz1 hz2 rfl (by decide) _ _ _ rfl (xab (xbJ (xab hown _) _) _) ⟨wr.heap.size + 1, 0, none⟩ 1 1 [.int .i64 p.1, .int .i64 p.2] rfl rfl ?c1 ?c2 ?c3 ?c4 ?c5 ?_)
       case c1 => exact xcE _ [_, _] _ _ (by simp)
       case c2 => intro u hu; simp at hu; rcases hu with rfl | rfl <;> rfl
       case c3 => unfold maxLen; simp at hml; omega
       case c4 => simp at hml; omega
       case c5 => simp; omega
       intro v' w2 hown' hgrow _
       have hO : ROwn w1 w2 v' (xbG (l.take (k + 1))) := by
        refine ⟨?_, (((hkl.alloc _).drawN _).alloc _).grown hgrow (fun b hb => Or.inr (xaa hown b hb))⟩
        rw [Hms.out, xeH]
        simpa [cellsOf, encR, List.range_succ] using hown'
       clear hown hown' hgrow hkl d0 d1
       go_wp2_with fail
       go_roundw
       case rel => exact ⟨k + 1, by go_num, by omega, hO⟩
       case measure => simp [intOf]; omega
     rw [List.concat_eq_append] at *
     obtain ⟨g, gc, rfl, hg1, hg2⟩ := xbB hown (by simp)
     have hcg : wr.cell? ⟨g, m.length * 2 + 1, none⟩ = some (.int .i64 q.2) := by
      rw [hown.cellAt _ (by simp; omega)]
      exact xaH 2 encR (m ++ [q]) m.length q (by simp) 1 (by omega)
     have hcg1 : ∀ o, (wr.alloc o).cell? ⟨g, m.length * 2 + 1, none⟩ = some (.int .i64 q.2) := xad hcg
     have hfg : ∀ o x, (wr.alloc o).frozen? ⟨g, x, none⟩ = false := fun o x => xas (hown.frozenAt x) hg2 o
     obtain ⟨hnm, q0, q1, q2, q3⟩ := xdk m q hnorm
     simp only [List.length_append, List.length_cons, List.length_nil, Nat.zero_add] at hown ⊢
     have hw1 : IntKind.i64.wrap ((m.length : Int) + 1 - 1) = (m.length : Int) := by rw [show (m.length : Int) + 1 - 1 = (m.length : Int) by omega]; exact IntWalk.i64_in _ (by simp at hml; omega)
     have hw2 : IntKind.i64.wrap (m.length : Int) = (m.length : Int) := IntWalk.i64_in _ (by simp at hml; omega)
     have hw3 : IntKind.i64.wrap (q.2 + 1) = q.2 + 1 := IntWalk.i64_in _ (by omega)
     have hix : (m.length : Int) < (m.length : Int) + 1 := by omega
     have hix2 : ((m.length : Int)).toNat = m.length := by simp
     by_cases hj : p.1 ≤ q.2 + 1
     · go_wp2_with fail
       go_quiet (fail)
       go_wp2_with fail
       go_region
       all_goals go_wp2_with fail
       go_roundw
       case rel =>
        refine ⟨k + 1, by go_num, by omega, ?_, ((hkl.alloc _).drawN _).setNew hg1 _⟩
        rw [Hms.out, xdH m q p hj, ← xip m q (max q.2 p.2)]
        have h5 := (World.ownsRow.stored (xbJ (xab hown (.cells #[.int .i64 p.1, .int .i64 p.2] 287)) (nq + 1)) (m.length * 2 + 1) (.int .i64 (max q.2 p.2))).1
        simpa using h5
       case measure => simp [intOf]; omega
     have hd : decide (p.1 ≤ q.2 + 1) = false := by simp; omega
     go_wp2_with fail
     go_quiet (fail)
     go_wp2_with (at_builtin; refine wpList_append_own _ rfl (.tmp 72) (.tmp 74) 151 rfl w1.heap.size 287 i0 _ 2 16 Tryz.underlying151 hi hz0 hz1 hz2 rfl (by decide) _ _ _ rfl (xab (xbJ (xab hown _) _) _) ⟨wr.heap.size + 1, 0, none⟩ 1 1 [.int .i64 p.1, .int .i64 p.2] rfl rfl ?e1 ?e2 ?e3 ?e4 ?e5 ?_)
     case e1 => exact xcE _ [_, _] _ _ (by simp)
     case e2 => intro u hu; simp at hu; rcases hu with rfl | rfl <;> rfl
     case e3 => unfold maxLen; simp at hml; omega
     case e4 => simp at hml; omega
     case e5 => simp; omega
     intro v' w2 hown' hgrow _
     have hO : ROwn w1 w2 v' (xbG (l.take (k + 1))) := by
      refine ⟨?_, (((hkl.alloc _).drawN _).alloc _).grown hgrow (fun b hb => Or.inr (xaa hown b hb))⟩
      rw [Hms.out, xdG m q p (by omega)]
      simpa [cellsOf, encR, List.range_succ] using hown'
     clear hown hown' hgrow hkl d0 d1
     go_wp2_with fail
     go_roundw
     case rel => exact ⟨k + 1, by go_num, by omega, hO⟩
     case measure => simp [intOf]; omega
   obtain rfl : l.length = k := by omega
   rw [List.take_length] at hown
   go_wp2_with fail
   go_ret
   refine ⟨_, xbG l, rfl, HF.out, ⟨xai hown hkw1.size, hkw1.trans hkl⟩, Nat.le_trans (xdn l) hlc⟩

theorem ROwn.read {w0 w : World} {v : Value} {l : List (Int × Int)} (h : ROwn w0 w v l) (hl : l.length ≤ 4611686018427387904) (hr : ∀ p ∈ l, in64 p.1 ∧ in64 p.2) : RSl w v l := ⟨SlOf.ofOwn h.1 hl, hr⟩
theorem xiN {l : List (Int × Int)} (h : Norm l) : ∀ p ∈ l, in64 p.1 ∧ in64 p.2 := fun p hp => by have := h.rng p hp; unfold in64; omega
theorem RSl.keep {w w' : World} {v : Value} {l : List (Int × Int)} (h : RSl w v l) (K : xa (fun _ => False) w w') : RSl w' v l := ⟨h.1.keep K, h.2⟩
end Go.Proofs.YtbifklibdkjbeaaGreatDoor
