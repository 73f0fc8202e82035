/-
  Several texts in one: The parser's count. Sets of numbers as lists of ranges: the plain laws. No program in sight.
-/
import Derived.Test.YtinogeobkljngaaGreatDoorPaTkG
import Derived.Lib.Hide
section
namespace Go.Proofs.YtinogeobkljngaaGreatDoor
open Go.RowKit
set_option linter.unusedVariables false
set_option linter.unusedSimpArgs false
set_option maxRecDepth 100000

theorem take_yes {w : World} {pb : Nat} {rv : Value} {rs : List Int} {s : PS} (r : Int) (h : PaAt w pb rv rs s) (hr : pk rs s = r) (hr0 : 0 ≤ r) :
    Calls Tryz.prog 21 #[.pointer (some ⟨pb, 0, none⟩), .int .i64 r] w fun e w' => e = .returned (.bool true) ∧ PaAt w' pb rv rs ⟨s.pos + 1, s.deep, s.bad⟩ ∧ Keeps (OnlyP pb) w w' := by
  have h1 := take_any w pb rv rs s r h (by have := (pk_room (show 0 ≤ pk rs s by omega)).1; have := h.len; omega)
  rw [show tkB rs r s = true by unfold tkB; simpa using hr, show tk rs r s = ⟨s.pos + 1, s.deep, s.bad⟩ from if_pos hr] at h1
  exact h1
theorem take_no {w : World} {pb : Nat} {rv : Value} {rs : List Int} {s : PS} (r : Int) (h : PaAt w pb rv rs s) (hr : ¬ pk rs s = r) (hp : s.pos + 1 ≤ 1000000) :
    Calls Tryz.prog 21 #[.pointer (some ⟨pb, 0, none⟩), .int .i64 r] w fun e w' => e = .returned (.bool false) ∧ PaAt w' pb rv rs s ∧ Keeps (OnlyP pb) w w' := by
  have h1 := take_any w pb rv rs s r h hp
  rw [show tkB rs r s = false by unfold tkB; simpa using hr, show tk rs r s = s from if_neg hr] at h1
  exact h1

/-- Behind an opened brace. -/
def brA (rs : List Int) (s : PS) : Int := numN rs s
def br3 (rs : List Int) (s : PS) : PS := ⟨(numS rs s).pos + 1, (numS rs s).deep, (numS rs s).bad⟩
def brB (rs : List Int) (s : PS) : Int := if pk rs (numS rs s) = 44 then (if pk rs (br3 rs s) = 125 then -1 else numN rs (br3 rs s)) else numN rs s
def brS (rs : List Int) (s : PS) : PS :=
  if pk rs (numS rs s) = 44 then
    (if pk rs (br3 rs s) = 125 then wt rs 125 (br3 rs s)
     else wt rs 125 ⟨(numS rs (br3 rs s)).pos, (numS rs (br3 rs s)).deep, (numS rs (br3 rs s)).bad || decide (numN rs (br3 rs s) < numN rs s)⟩)
  else wt rs 125 (numS rs s)
/-- A count: least, most, is there one; and the state behind it. -/
def cntV (rs : List Int) (s : PS) : Int × Int × Bool :=
  if pk rs s = 63 then (0, 1, true) else if pk rs s = 43 then (1, -1, true) else if pk rs s = 42 then (0, -1, true)
  else if pk rs s = 123 then (brA rs ⟨s.pos + 1, s.deep, s.bad⟩, brB rs ⟨s.pos + 1, s.deep, s.bad⟩, true) else (0, 0, false)
def cntS (rs : List Int) (s : PS) : PS :=
  if pk rs s = 63 ∨ pk rs s = 43 ∨ pk rs s = 42 then ⟨s.pos + 1, s.deep, s.bad⟩ else if pk rs s = 123 then brS rs ⟨s.pos + 1, s.deep, s.bad⟩ else s

theorem numS_pos (rs : List Int) (s : PS) : s.pos ≤ (numS rs s).pos ∧ (numS rs s).pos ≤ s.pos + 2 := by
  unfold numS
  split
  · split
    · exact ⟨by show s.pos ≤ s.pos + 2; omega, Nat.le_refl _⟩
    · exact ⟨by show s.pos ≤ s.pos + 1; omega, by show s.pos + 1 ≤ s.pos + 2; omega⟩
  · exact ⟨Nat.le_refl _, by show s.pos ≤ s.pos + 2; omega⟩

theorem numN_le (rs : List Int) (s : PS) (h : ∀ r ∈ rs, 0 ≤ r ∧ r ≤ 1114111) : numN rs s ≤ 1000000000 ∧ -1000000000 ≤ numN rs s := by
  unfold numN
  split
  · rename_i h1
    split
    · rename_i h2
      simp [dig] at h1 h2
      omega
    · simp [dig] at h1
      omega
  · omega
set_option maxHeartbeats 4000000 in
theorem pcount_any (w : World) (pb : Nat) (rv : Value) (rs : List Int) (s : PS) (h : PaAt w pb rv rs s) (hp : s.pos + 10 ≤ 1000000) :
    Calls Tryz.prog 49 #[.pointer (some ⟨pb, 0, none⟩)] w fun e w' => e = .returned (.tuple #[.int .i64 (cntV rs s).1, .int .i64 (cntV rs s).2.1, .bool (cntV rs s).2.2]) ∧ PaAt w' pb rv rs (cntS rs s) ∧ Keeps (OnlyP pb) w w' := by
  have H0 := Lib.hid h
  clear h
  by_cases h63 : pk rs s = 63
  · have Ev : Hid (cntV rs s = (0, 1, true)) := Lib.hid (if_pos h63)
    have Es : Hid (cntS rs s = ⟨s.pos + 1, s.deep, s.bad⟩) := Lib.hid (if_pos (Or.inl h63))
    have Hr := Lib.hid h63
    clear h63
    go_enter Tryz.func49, Tryz.ntmps49
    go_wp2_with fail
    refine (take_yes 63 H0.out Hr.out (by omega)).mono ?_
    rintro e w1 ⟨rfl, h1, k1⟩
    have H1 := Lib.hid h1
    clear h1
    go_wp2_with fail
    go_ret3
    exact ⟨by rw [Ev.out]; rfl, by rw [Es.out]; exact H1.out, k1⟩
  by_cases h43 : pk rs s = 43
  · have Ev : Hid (cntV rs s = (1, -1, true)) := Lib.hid (by unfold cntV; rw [if_neg h63, if_pos h43])
    have Es : Hid (cntS rs s = ⟨s.pos + 1, s.deep, s.bad⟩) := Lib.hid (if_pos (Or.inr (Or.inl h43)))
    have Hr := Lib.hid h43
    have Hn := Lib.hid h63
    clear h43 h63
    go_enter Tryz.func49, Tryz.ntmps49
    go_wp2_with fail
    refine (take_no 63 H0.out Hn.out (by omega)).mono ?_
    rintro e w1 ⟨rfl, h1, k1⟩
    have H1 := Lib.hid h1
    clear h1
    go_wp2_with fail
    refine (take_yes 43 H1.out Hr.out (by omega)).mono ?_
    rintro e w2 ⟨rfl, h2, k2⟩
    have H2 := Lib.hid h2
    clear h2
    go_wp2_with fail
    go_ret3
    exact ⟨by rw [Ev.out]; rfl, by rw [Es.out]; exact H2.out, k1.trans k2⟩
  by_cases h42 : pk rs s = 42
  · have Ev : Hid (cntV rs s = (0, -1, true)) := Lib.hid (by unfold cntV; rw [if_neg h63, if_neg h43, if_pos h42])
    have Es : Hid (cntS rs s = ⟨s.pos + 1, s.deep, s.bad⟩) := Lib.hid (if_pos (Or.inr (Or.inr h42)))
    have Hr := Lib.hid h42
    have Hn := Lib.hid h63
    have Hm := Lib.hid h43
    clear h43 h63 h42
    go_enter Tryz.func49, Tryz.ntmps49
    go_wp2_with fail
    refine (take_no 63 H0.out Hn.out (by omega)).mono ?_
    rintro e w1 ⟨rfl, h1, k1⟩
    have H1 := Lib.hid h1
    clear h1
    go_wp2_with fail
    refine (take_no 43 H1.out Hm.out (by omega)).mono ?_
    rintro e w2 ⟨rfl, h2, k2⟩
    have H2 := Lib.hid h2
    clear h2
    go_wp2_with fail
    refine (take_yes 42 H2.out Hr.out (by omega)).mono ?_
    rintro e w3 ⟨rfl, h3, k3⟩
    have H3 := Lib.hid h3
    clear h3
    go_wp2_with fail
    go_ret3
    exact ⟨by rw [Ev.out]; rfl, by rw [Es.out]; exact H3.out, (k1.trans k2).trans k3⟩
  have Ha := Lib.hid h63
  have Hb := Lib.hid h43
  have Hc := Lib.hid h42
  by_cases h123 : pk rs s = 123
  · have Ev : Hid (cntV rs s = (brA rs ⟨s.pos + 1, s.deep, s.bad⟩, brB rs ⟨s.pos + 1, s.deep, s.bad⟩, true)) := Lib.hid (by unfold cntV; rw [if_neg h63, if_neg h43, if_neg h42, if_pos h123])
    have Es : Hid (cntS rs s = brS rs ⟨s.pos + 1, s.deep, s.bad⟩) := Lib.hid (by unfold cntS; rw [if_neg (by rintro (e | e | e); exact h63 e; exact h43 e; exact h42 e), if_pos h123])
    have Hd := Lib.hid h123
    clear h63 h43 h42 h123
    obtain ⟨q, hq⟩ : ∃ q : PS, (⟨s.pos + 1, s.deep, s.bad⟩ : PS) = q := ⟨_, rfl⟩
    have hqp : q.pos + 9 ≤ 1000000 := by rw [← hq]; show s.pos + 1 + 9 ≤ 1000000; omega
    have hP := numS_pos rs q
    have Hq := Lib.hid hq
    rw [hq] at Ev Es
    clear hq
    have hnq : numN rs q ≤ 1000000000 ∧ -1000000000 ≤ numN rs q := numN_le rs q H0.out.rng
    by_cases h44 : pk rs (numS rs q) = 44
    · have H44 := Lib.hid h44
      have hP3 := numS_pos rs (br3 rs q)
      have e3 : (br3 rs q).pos ≤ (numS rs q).pos + 1 := Nat.le_refl _
      have hn3 : numN rs (br3 rs q) ≤ 1000000000 ∧ -1000000000 ≤ numN rs (br3 rs q) := numN_le rs _ H0.out.rng
      by_cases h125 : pk rs (br3 rs q) = 125
      · have Eb : Hid (brB rs q = -1) := Lib.hid (by unfold brB; rw [if_pos h44, if_pos h125])
        have Et : Hid (brS rs q = wt rs 125 (br3 rs q)) := Lib.hid (by unfold brS; rw [if_pos h44, if_pos h125])
        have H125 := Lib.hid h125
        clear h44 h125
        go_enter Tryz.func49, Tryz.ntmps49
        go_wp2_with fail
        refine (take_no 63 H0.out Ha.out (by omega)).mono ?_
        rintro e w1 ⟨rfl, h1, k1⟩
        have H1 := Lib.hid h1
        clear h1
        go_wp2_with fail
        refine (take_no 43 H1.out Hb.out (by omega)).mono ?_
        rintro e w2 ⟨rfl, h2, k2⟩
        have H2 := Lib.hid h2
        clear h2
        go_wp2_with fail
        refine (take_no 42 H2.out Hc.out (by omega)).mono ?_
        rintro e w3 ⟨rfl, h3, k3⟩
        have H3 := Lib.hid h3
        clear h3
        go_wp2_with fail
        refine (take_yes 123 H3.out Hd.out (by omega)).mono ?_
        rintro e w4 ⟨rfl, h4, k4⟩
        rw [Hq.out] at h4
        have H4 := Lib.hid h4
        have K4 := Lib.hid (((k1.trans k2).trans k3).trans k4)
        clear h4 k1 k2 k3 k4
        go_wp2_with fail
        refine (number_any _ _ _ _ q H4.out (by omega)).mono ?_
        rintro e w5 ⟨rfl, h5, k5⟩
        have H5 := Lib.hid h5
        clear h5
        go_wp2_with fail
        refine (take_yes 44 H5.out H44.out (by omega)).mono ?_
        rintro e w6 ⟨rfl, h6, k6⟩
        have H6 : Hid (PaAt w6 pb rv rs (br3 rs q)) := Lib.hid h6
        clear h6
        go_wp2_with fail
        refine (peek_any _ _ _ _ _ H6.out).mono ?_
        rintro e w7 ⟨rfl, k7⟩
        have H7 := Lib.hid (H6.out.keepsF k7)
        have K7 := Lib.hid (((K4.out.trans k5).trans k6).trans (k7.mono (T := OnlyP pb) (fun _ _ e => e.elim)))
        clear k5 k6 k7
        rw [H125.out]
        go_wp2_with fail
        refine (want_any _ _ _ _ _ 125 H7.out (by omega)).mono ?_
        rintro e w8 ⟨rfl, h8, k8⟩
        have H8 := Lib.hid h8
        clear h8
        go_wp2_with fail
        go_ret3
        exact ⟨by rw [Ev.out, Eb.out]; rfl, by rw [Es.out, Et.out]; exact H8.out, K7.out.trans k8⟩
      · have Eb : Hid (brB rs q = numN rs (br3 rs q)) := Lib.hid (by unfold brB; rw [if_pos h44, if_neg h125])
        have Et : Hid (brS rs q = wt rs 125 ⟨(numS rs (br3 rs q)).pos, (numS rs (br3 rs q)).deep, (numS rs (br3 rs q)).bad || decide (numN rs (br3 rs q) < numN rs q)⟩) := Lib.hid (by unfold brS; rw [if_pos h44, if_neg h125])
        have g125 : (pk rs (br3 rs q) != 125) = true := by simp only [bne_iff_ne, ne_eq]; exact h125
        clear h44 h125
        obtain ⟨bd, hbd⟩ : ∃ b, (numS rs (br3 rs q)).bad = b := ⟨_, rfl⟩
        have Hbd := Lib.hid hbd
        clear hbd
        generalize hlt : decide (numN rs (br3 rs q) < numN rs q) = lt at Et
        have Hlt := Lib.hid hlt
        clear hlt
        go_enter Tryz.func49, Tryz.ntmps49
        go_wp2_with fail
        refine (take_no 63 H0.out Ha.out (by omega)).mono ?_
        rintro e w1 ⟨rfl, h1, k1⟩
        have H1 := Lib.hid h1
        clear h1
        go_wp2_with fail
        refine (take_no 43 H1.out Hb.out (by omega)).mono ?_
        rintro e w2 ⟨rfl, h2, k2⟩
        have H2 := Lib.hid h2
        clear h2
        go_wp2_with fail
        refine (take_no 42 H2.out Hc.out (by omega)).mono ?_
        rintro e w3 ⟨rfl, h3, k3⟩
        have H3 := Lib.hid h3
        clear h3
        go_wp2_with fail
        refine (take_yes 123 H3.out Hd.out (by omega)).mono ?_
        rintro e w4 ⟨rfl, h4, k4⟩
        rw [Hq.out] at h4
        have H4 := Lib.hid h4
        have K4 := Lib.hid (((k1.trans k2).trans k3).trans k4)
        clear h4 k1 k2 k3 k4
        go_wp2_with fail
        refine (number_any _ _ _ _ q H4.out (by omega)).mono ?_
        rintro e w5 ⟨rfl, h5, k5⟩
        have H5 := Lib.hid h5
        clear h5
        go_wp2_with fail
        refine (take_yes 44 H5.out H44.out (by omega)).mono ?_
        rintro e w6 ⟨rfl, h6, k6⟩
        have H6 : Hid (PaAt w6 pb rv rs (br3 rs q)) := Lib.hid h6
        clear h6
        go_wp2_with fail
        refine (peek_any _ _ _ _ _ H6.out).mono ?_
        rintro e w7 ⟨rfl, k7⟩
        have H7 := Lib.hid (H6.out.keepsF k7)
        have K7 := Lib.hid (((K4.out.trans k5).trans k6).trans (k7.mono (T := OnlyP pb) (fun _ _ e => e.elim)))
        clear k5 k6 k7
        go_wp2_with fail
        refine (number_any _ _ _ _ (br3 rs q) H7.out (by omega)).mono ?_
        rintro e w8 ⟨rfl, h8, k8⟩
        have c3 := h8.c3
        have f3 := h8.fr 3
        rw [Hbd.out] at c3
        have H8 := Lib.hid (h8.setBad (bd || lt))
        have K8 := Lib.hid ((K7.out.trans k8).set (p := ⟨pb, 3, none⟩) rfl (.bool (bd || lt)))
        clear h8 k8
        generalize hna : numN rs q = na at *
        have Hna := Lib.hid hna
        clear hna
        generalize hnb : numN rs (br3 rs q) = nb at *
        have Hnb := Lib.hid hnb
        clear hnb
        have hlt := Hlt.out
        cases bd
        · cases lt
          · have hg : ¬ nb < na := by simpa using hlt
            clear Hlt
            go_wp2_with fail
            refine (want_any _ _ _ _ _ 125 H8.out (by show (numS rs (br3 rs q)).pos + 1 ≤ 1000000; omega)).mono ?_
            rintro e w9 ⟨rfl, h9, k9⟩
            have H9 := Lib.hid h9
            clear h9
            go_wp2_with fail
            go_ret3
            exact ⟨by rw [Ev.out, Eb.out]; unfold brA; rw [Hna.out]; rfl, by rw [Es.out, Et.out, Hbd.out]; exact H9.out, K8.out.trans k9⟩
          · have hg : nb < na := by simpa using hlt
            clear Hlt
            go_wp2_with fail
            refine (want_any _ _ _ _ _ 125 H8.out (by show (numS rs (br3 rs q)).pos + 1 ≤ 1000000; omega)).mono ?_
            rintro e w9 ⟨rfl, h9, k9⟩
            have H9 := Lib.hid h9
            clear h9
            go_wp2_with fail
            go_ret3
            exact ⟨by rw [Ev.out, Eb.out]; unfold brA; rw [Hna.out]; rfl, by rw [Es.out, Et.out, Hbd.out]; exact H9.out, K8.out.trans k9⟩
        · clear hlt Hlt
          go_wp2_with fail
          refine (want_any _ _ _ _ _ 125 H8.out (by show (numS rs (br3 rs q)).pos + 1 ≤ 1000000; omega)).mono ?_
          rintro e w9 ⟨rfl, h9, k9⟩
          have H9 := Lib.hid h9
          clear h9
          go_wp2_with fail
          go_ret3
          exact ⟨by rw [Ev.out, Eb.out]; unfold brA; rw [Hna.out]; rfl, by rw [Es.out, Et.out, Hbd.out]; exact H9.out, K8.out.trans k9⟩
    · have H44 := Lib.hid h44
      have Eb : Hid (brB rs q = numN rs q) := Lib.hid (by unfold brB; rw [if_neg h44])
      have Et : Hid (brS rs q = wt rs 125 (numS rs q)) := Lib.hid (by unfold brS; rw [if_neg h44])
      clear h44
      go_enter Tryz.func49, Tryz.ntmps49
      go_wp2_with fail
      refine (take_no 63 H0.out Ha.out (by omega)).mono ?_
      rintro e w1 ⟨rfl, h1, k1⟩
      have H1 := Lib.hid h1
      clear h1
      go_wp2_with fail
      refine (take_no 43 H1.out Hb.out (by omega)).mono ?_
      rintro e w2 ⟨rfl, h2, k2⟩
      have H2 := Lib.hid h2
      clear h2
      go_wp2_with fail
      refine (take_no 42 H2.out Hc.out (by omega)).mono ?_
      rintro e w3 ⟨rfl, h3, k3⟩
      have H3 := Lib.hid h3
      clear h3
      go_wp2_with fail
      refine (take_yes 123 H3.out Hd.out (by omega)).mono ?_
      rintro e w4 ⟨rfl, h4, k4⟩
      rw [Hq.out] at h4
      have H4 := Lib.hid h4
      have K4 := Lib.hid (((k1.trans k2).trans k3).trans k4)
      clear h4 k1 k2 k3 k4
      go_wp2_with fail
      refine (number_any _ _ _ _ q H4.out (by omega)).mono ?_
      rintro e w5 ⟨rfl, h5, k5⟩
      have H5 := Lib.hid h5
      clear h5
      go_wp2_with fail
      refine (take_no 44 H5.out H44.out (by omega)).mono ?_
      rintro e w6 ⟨rfl, h6, k6⟩
      have H6 := Lib.hid h6
      clear h6
      go_wp2_with fail
      refine (want_any _ _ _ _ _ 125 H6.out (by omega)).mono ?_
      rintro e w8 ⟨rfl, h8, k8⟩
      have H8 := Lib.hid h8
      clear h8
      go_wp2_with fail
      go_ret3
      exact ⟨by rw [Ev.out, Eb.out]; rfl, by rw [Es.out, Et.out]; exact H8.out, ((K4.out.trans k5).trans k6).trans k8⟩
  · have Ev : Hid (cntV rs s = (0, 0, false)) := Lib.hid (by unfold cntV; rw [if_neg h63, if_neg h43, if_neg h42, if_neg h123])
    have Es : Hid (cntS rs s = s) := Lib.hid (by unfold cntS; rw [if_neg (by rintro (e | e | e); exact h63 e; exact h43 e; exact h42 e), if_neg h123])
    have Hd := Lib.hid h123
    clear h63 h43 h42 h123
    go_enter Tryz.func49, Tryz.ntmps49
    go_wp2_with fail
    refine (take_no 63 H0.out Ha.out (by omega)).mono ?_
    rintro e w1 ⟨rfl, h1, k1⟩
    have H1 := Lib.hid h1
    clear h1
    go_wp2_with fail
    refine (take_no 43 H1.out Hb.out (by omega)).mono ?_
    rintro e w2 ⟨rfl, h2, k2⟩
    have H2 := Lib.hid h2
    clear h2
    go_wp2_with fail
    refine (take_no 42 H2.out Hc.out (by omega)).mono ?_
    rintro e w3 ⟨rfl, h3, k3⟩
    have H3 := Lib.hid h3
    clear h3
    go_wp2_with fail
    refine (take_no 123 H3.out Hd.out (by omega)).mono ?_
    rintro e w4 ⟨rfl, h4, k4⟩
    have H4 := Lib.hid h4
    clear h4
    go_wp2_with fail
    go_ret3
    exact ⟨by rw [Ev.out]; rfl, by rw [Es.out]; exact H4.out, ((k1.trans k2).trans k3).trans k4⟩
end Go.Proofs.YtinogeobkljngaaGreatDoor
end
section
namespace Go.Proofs.YtinogeobkljngaaGreatDoor
set_option linter.unusedVariables false
set_option linter.unusedSimpArgs false

/-- Is a number in one of the ranges? -/
def mem (l : List (Int × Int)) (r : Int) : Bool := l.any fun p => decide (p.1 ≤ r) && decide (r ≤ p.2)
theorem mem_iff (l : List (Int × Int)) (r : Int) : mem l r = true ↔ ∃ p ∈ l, p.1 ≤ r ∧ r ≤ p.2 := by simp [mem]
theorem mem_nil (r : Int) : mem [] r = false := rfl
theorem mem_append (a b : List (Int × Int)) (r : Int) : mem (a ++ b) r = (mem a r || mem b r) := by simp [mem]
theorem mem_one (p : Int × Int) (r : Int) : mem [p] r = (decide (p.1 ≤ r) && decide (r ≤ p.2)) := by simp [mem]
theorem mem_cons (p : Int × Int) (l : List (Int × Int)) (r : Int) : mem (p :: l) r = ((decide (p.1 ≤ r) && decide (r ≤ p.2)) || mem l r) := by simp [mem]
def inAll (r : Int) : Bool := decide (0 ≤ r) && decide (r ≤ 1114111)
def has (l : List (Int × Int)) (r : Int) : Bool := mem l r && inAll r

/-- A set: its ranges in order, with gaps between. -/
def Norm : List (Int × Int) → Prop
  | [] => True
  | p :: l => 0 ≤ p.1 ∧ p.1 ≤ p.2 ∧ p.2 ≤ 1114111 ∧ (∀ q ∈ l, p.2 + 2 ≤ q.1) ∧ Norm l
theorem Norm.tail {p : Int × Int} {l : List (Int × Int)} (h : Norm (p :: l)) : Norm l := h.2.2.2.2
theorem Norm.rng {l : List (Int × Int)} (h : Norm l) : ∀ p ∈ l, 0 ≤ p.1 ∧ p.1 ≤ p.2 ∧ p.2 ≤ 1114111 := by
  induction l with
  | nil => simp
  | cons q l ih =>
    intro p hp
    rcases List.mem_cons.1 hp with rfl | hp
    · exact ⟨h.1, h.2.1, h.2.2.1⟩
    · exact ih h.tail p hp
theorem Norm.mem_all {l : List (Int × Int)} (h : Norm l) (r : Int) (hr : mem l r = true) : 0 ≤ r ∧ r ≤ 1114111 := by
  obtain ⟨p, hp, h1, h2⟩ := (mem_iff l r).1 hr
  have := h.rng p hp
  omega
theorem Norm.has {l : List (Int × Int)} (h : Norm l) (r : Int) : has l r = mem l r := by
  unfold Go.Proofs.YtinogeobkljngaaGreatDoor.has
  cases hm : mem l r
  · rfl
  · have := h.mem_all r hm
    simp [inAll, this.1, this.2]
theorem norm_append (l : List (Int × Int)) (q : Int × Int) (h : Norm l) (h1 : 0 ≤ q.1) (h2 : q.1 ≤ q.2) (h3 : q.2 ≤ 1114111) (hq : ∀ p ∈ l, p.2 + 2 ≤ q.1) : Norm (l ++ [q]) := by
  induction l with
  | nil => exact ⟨h1, h2, h3, by simp, trivial⟩
  | cons p l ih =>
    refine ⟨h.1, h.2.1, h.2.2.1, fun x hx => ?_, ih h.tail (fun p hp => hq p (List.mem_cons_of_mem _ hp))⟩
    rcases List.mem_append.1 hx with hx | hx
    · exact h.2.2.2.1 x hx
    · simp at hx; subst hx; exact hq p List.mem_cons_self
theorem norm_last (l : List (Int × Int)) (p : Int × Int) (h : Norm (l ++ [p])) : Norm l ∧ 0 ≤ p.1 ∧ p.1 ≤ p.2 ∧ p.2 ≤ 1114111 ∧ ∀ q ∈ l, q.2 + 2 ≤ p.1 := by
  induction l with
  | nil => exact ⟨trivial, h.1, h.2.1, h.2.2.1, by simp⟩
  | cons q l ih =>
    obtain ⟨a, b, c, d, e⟩ := ih h.tail
    refine ⟨⟨h.1, h.2.1, h.2.2.1, fun x hx => h.2.2.2.1 x (List.mem_append_left _ hx), a⟩, b, c, d, fun x hx => ?_⟩
    rcases List.mem_cons.1 hx with rfl | hx
    · exact h.2.2.2.1 p (by simp)
    · exact e x hx

/-- Two sets that have the same numbers are one list. -/
theorem norm_unique : ∀ (a b : List (Int × Int)), Norm a → Norm b → (∀ r, mem a r = mem b r) → a = b := by
  intro a
  induction a with
  | nil =>
    intro b _ hb h
    cases b with
    | nil => rfl
    | cons q b =>
      have := h q.1
      rw [mem_nil, mem_cons] at this
      have h2 := hb.2.1
      simp [h2] at this
  | cons p a ih =>
    intro b ha hb h
    cases b with
    | nil =>
      have := h p.1
      rw [mem_nil, mem_cons] at this
      have h2 := ha.2.1
      simp [h2] at this
    | cons q b =>
      have hlow : ∀ (p : Int × Int) (l : List (Int × Int)), Norm (p :: l) → ∀ r, mem (p :: l) r = true → p.1 ≤ r := by
        intro p l hn r hr
        obtain ⟨x, hx, h1, h2⟩ := (mem_iff _ r).1 hr
        rcases List.mem_cons.1 hx with rfl | hx
        · exact h1
        · have := hn.2.2.2.1 x hx; have := hn.2.1; omega
      have hfst : ∀ (p : Int × Int) (l : List (Int × Int)), Norm (p :: l) → ∀ r, p.1 ≤ r → r ≤ p.2 → mem (p :: l) r = true := by
        intro p l hn r h1 h2; rw [mem_cons]; simp [h1, h2]
      have hgap : ∀ (p : Int × Int) (l : List (Int × Int)), Norm (p :: l) → mem (p :: l) (p.2 + 1) = false := by
        intro p l hn
        cases hm : mem (p :: l) (p.2 + 1)
        · rfl
        · obtain ⟨x, hx, h1, h2⟩ := (mem_iff _ _).1 hm
          rcases List.mem_cons.1 hx with rfl | hx
          · omega
          · have := hn.2.2.2.1 x hx; omega
      have ha2 := ha.2.1
      have hb2 := hb.2.1
      have e1 : p.1 = q.1 := by
        have h1 := hlow q b hb p.1 (by rw [← h]; exact hfst p a ha p.1 (by omega) (by omega))
        have h2 := hlow p a ha q.1 (by rw [h]; exact hfst q b hb q.1 (by omega) (by omega))
        omega
      have e2 : p.2 = q.2 := by
        rcases Int.lt_trichotomy p.2 q.2 with hlt | he | hlt
        · have h1 := hgap p a ha
          rw [h, hfst q b hb (p.2 + 1) (by omega) (by omega)] at h1
          cases h1
        · exact he
        · have h1 := hgap q b hb
          rw [← h, hfst p a ha (q.2 + 1) (by omega) (by omega)] at h1
          cases h1
      have e : p = q := Prod.ext e1 e2
      subst e
      congr 1
      refine ih b ha.tail hb.tail fun r => ?_
      have hr := h r
      rw [mem_cons, mem_cons] at hr
      by_cases hin : p.1 ≤ r ∧ r ≤ p.2
      · have hz : ∀ l, Norm (p :: l) → mem l r = false := by
          intro l hn
          cases hm : mem l r
          · rfl
          · obtain ⟨x, hx, h1, h2⟩ := (mem_iff _ _).1 hm
            have := hn.2.2.2.1 x hx; omega
        rw [hz a ha, hz b hb]
      · have : (decide (p.1 ≤ r) && decide (r ≤ p.2)) = false := by simp; omega
        simpa [this] using hr

/-- What the statements' own look at a set comes to: range by range, against the one ahead. -/
def chain : List (Int × Int) → Prop
  | [] => True
  | [p] => 0 ≤ p.1 ∧ p.1 ≤ p.2 ∧ p.2 ≤ 1114111
  | p :: q :: l => 0 ≤ p.1 ∧ p.1 ≤ p.2 ∧ p.2 ≤ 1114111 ∧ p.2 + 2 ≤ q.1 ∧ chain (q :: l)
theorem chain_norm : ∀ l, chain l ↔ Norm l := by
  intro l
  induction l with
  | nil => exact Iff.rfl
  | cons p l ih =>
    cases l with
    | nil => simp [chain, Norm]
    | cons q l =>
      constructor
      · rintro ⟨a, b, c, d, e⟩
        have hn := ih.1 e
        refine ⟨a, b, c, fun x hx => ?_, hn⟩
        rcases List.mem_cons.1 hx with rfl | hx
        · exact d
        · have := hn.2.2.2.1 x hx; have := hn.2.1; omega
      · rintro ⟨a, b, c, d, e⟩
        exact ⟨a, b, c, d q List.mem_cons_self, ih.2 e⟩
/-- One range more behind: what the look at place i asks. -/
theorem norm_snoc (l : List (Int × Int)) (q : Int × Int) : Norm (l ++ [q]) ↔ Norm l ∧ 0 ≤ q.1 ∧ q.1 ≤ q.2 ∧ q.2 ≤ 1114111 ∧ ∀ p, l.getLast? = some p → p.2 + 2 ≤ q.1 := by
  constructor
  · intro h
    obtain ⟨a, b, c, d, e⟩ := norm_last l q h
    exact ⟨a, b, c, d, fun p hp => e p (List.mem_of_getLast? hp)⟩
  · rintro ⟨a, b, c, d, e⟩
    refine norm_append l q a b c d ?_
    intro p hp
    rcases List.eq_nil_or_concat l with rfl | ⟨m, x, rfl⟩
    · simp at hp
    · have hx := e x (by simp)
      simp only [List.concat_eq_append] at hp a
      obtain ⟨_, _, h2, _, h4⟩ := norm_last m x a
      rcases List.mem_append.1 hp with hp | hp
      · have := h4 p hp; omega
      · simp at hp; subst hp; exact hx

/-- How many numbers ranges have, one by one. -/
def sumR (l : List (Int × Int)) : Int := (l.map fun p => p.2 - p.1 + 1).sum
theorem sumR_nil : sumR [] = 0 := rfl
theorem sumR_cons (p : Int × Int) (l : List (Int × Int)) : sumR (p :: l) = p.2 - p.1 + 1 + sumR l := by simp [sumR]
theorem sumR_snoc (l : List (Int × Int)) (p : Int × Int) : sumR (l ++ [p]) = sumR l + (p.2 - p.1 + 1) := by simp [sumR]

/-- How many numbers below n there are. -/
def cnt (f : Int → Bool) : Nat → Int
  | 0 => 0
  | n + 1 => cnt f n + if f n then 1 else 0
theorem cnt_congr (f g : Int → Bool) (n : Nat) (h : ∀ r : Int, 0 ≤ r → r < n → f r = g r) : cnt f n = cnt g n := by
  induction n with
  | zero => rfl
  | succ n ih => simp only [cnt]; rw [ih (fun r h1 h2 => h r h1 (by omega)), h n (by omega) (by omega)]
theorem cnt_or_and (f g : Int → Bool) (n : Nat) : cnt (fun r => f r || g r) n + cnt (fun r => f r && g r) n = cnt f n + cnt g n := by
  induction n with
  | zero => rfl
  | succ n ih =>
    simp only [cnt]
    by_cases hf : f n = true <;> by_cases hg : g n = true <;> simp [hf, hg] <;> omega
theorem cnt_not (f : Int → Bool) (n : Nat) : cnt f n + cnt (fun r => !f r) n = n := by
  induction n with
  | zero => rfl
  | succ n ih =>
    simp only [cnt]
    by_cases hf : f n = true <;> simp [hf] <;> omega
theorem cnt_false (n : Nat) : cnt (fun _ => false) n = 0 := by
  induction n with
  | zero => rfl
  | succ n ih => simp [cnt, ih]
theorem cnt_range (a b : Int) (n : Nat) (ha : 0 ≤ a) (hab : a ≤ b + 1) (hb : b < n) : cnt (fun r => decide (a ≤ r) && decide (r ≤ b)) n = b - a + 1 := by
  have key : ∀ m : Nat, cnt (fun r => decide (a ≤ r) && decide (r ≤ b)) m = if (m : Int) ≤ a then 0 else if (m : Int) ≤ b + 1 then (m : Int) - a else b - a + 1 := by
    intro m
    induction m with
    | zero => simp [cnt]; omega
    | succ m ih =>
      simp only [cnt, ih]
      by_cases h1 : a ≤ (m : Int) <;> by_cases h2 : (m : Int) ≤ b <;> simp [h1, h2] <;> (repeat' split) <;> omega
  rw [key]
  split
  · omega
  · split <;> omega
theorem norm_cnt (l : List (Int × Int)) (h : Norm l) : cnt (mem l) 1114112 = sumR l := by
  induction l with
  | nil => exact cnt_false _
  | cons p l ih =>
    rw [sumR_cons, ← ih h.tail, ← cnt_range p.1 p.2 1114112 h.1 (by have := h.2.1; omega) (by have := h.2.2.1; omega)]
    rw [← cnt_or_and]
    have : cnt (fun r => (decide (p.1 ≤ r) && decide (r ≤ p.2)) && mem l r) 1114112 = 0 := by
      rw [← cnt_false 1114112]
      refine cnt_congr _ _ _ fun r _ _ => ?_
      by_cases hin : p.1 ≤ r ∧ r ≤ p.2
      · cases hm : mem l r
        · simp
        · obtain ⟨x, hx, h1, h2⟩ := (mem_iff _ _).1 hm
          have := h.2.2.2.1 x hx; omega
      · have : (decide (p.1 ≤ r) && decide (r ≤ p.2)) = false := by simp; omega
        simp [this]
    rw [this, Int.add_zero]
    exact cnt_congr _ _ _ fun r _ _ => mem_cons p l r
theorem sumR_nonneg (l : List (Int × Int)) (h : Norm l) : 0 ≤ sumR l ∧ sumR l ≤ 1114112 := by
  rw [← norm_cnt l h]
  have key : ∀ (f : Int → Bool) (n : Nat), 0 ≤ cnt f n ∧ cnt f n ≤ n := by
    intro f n
    induction n with
    | zero => simp [cnt]
    | succ n ih => simp only [cnt]; split <;> omega
  exact key _ _

/-- What makes 'out' the set made of ranges. -/
def IsOf (rs out : List (Int × Int)) : Prop := Norm out ∧ ∀ r, mem out r = has rs r
theorem IsOf.unique {rs a b : List (Int × Int)} (ha : IsOf rs a) (hb : IsOf rs b) : a = b := norm_unique a b ha.1 hb.1 fun r => by rw [ha.2, hb.2]
theorem IsOf.self {a : List (Int × Int)} (ha : Norm a) : IsOf a a := ⟨ha, fun r => (ha.has r).symm⟩
end Go.Proofs.YtinogeobkljngaaGreatDoor
end
