/-
  The parser's count.
-/
import Derived.Test.YtinogeobkljngaaDoorPaTk
namespace Go.Proofs.YtinogeobkljngaaDoor
open Go.RowKit
set_option linter.unusedVariables false
set_option linter.unusedSimpArgs false
set_option maxRecDepth 100000

theorem take_yes {w : World} {pb : Nat} {rv : Value} {rs : List Int} {s : PS} (r : Int) (h : PaAt w pb rv rs s) (hr : pk rs s = r) (hr0 : 0 ≤ r) :
    Calls Tryd.prog 30 #[.pointer (some ⟨pb, 0, none⟩), .int .i64 r] w fun e w' => e = .returned (.bool true) ∧ PaAt w' pb rv rs ⟨s.pos + 1, s.deep, s.bad⟩ ∧ Keeps (OnlyP pb) w w' := by
  have h1 := take_any w pb rv rs s r h (by have := (pk_room (show 0 ≤ pk rs s by omega)).1; have := h.len; omega)
  rw [show tkB rs r s = true by unfold tkB; simpa using hr, show tk rs r s = ⟨s.pos + 1, s.deep, s.bad⟩ from if_pos hr] at h1
  exact h1
theorem take_no {w : World} {pb : Nat} {rv : Value} {rs : List Int} {s : PS} (r : Int) (h : PaAt w pb rv rs s) (hr : ¬ pk rs s = r) (hp : s.pos + 1 ≤ 1000000) :
    Calls Tryd.prog 30 #[.pointer (some ⟨pb, 0, none⟩), .int .i64 r] w fun e w' => e = .returned (.bool false) ∧ PaAt w' pb rv rs s ∧ Keeps (OnlyP pb) w w' := by
  have h1 := take_any w pb rv rs s r h hp
  rw [show tkB rs r s = false by unfold tkB; simpa using hr, show tk rs r s = s from if_neg hr] at h1
  exact h1

/-- Behind an opened brace. -/
def brA (rs : List Int) (s : PS) : Int := numN rs s
def br3 (rs : List Int) (s : PS) : PS := ⟨(numS rs s).pos + 1, (numS rs s).deep, (numS rs s).bad⟩
def brB (rs : List Int) (s : PS) : Int := if pk rs (numS rs s) = 44 then (if pk rs (br3 rs s) = 125 then -1 else numN rs (br3 rs s)) else numN rs s
def brS (rs : List Int) (s : PS) : PS :=
  if pk rs (numS rs s) = 44 then
    (if pk rs (br3 rs s) = 125 then wt rs 125 (br3 rs s)
     else wt rs 125 ⟨(numS rs (br3 rs s)).pos, (numS rs (br3 rs s)).deep, (numS rs (br3 rs s)).bad || decide (numN rs (br3 rs s) < numN rs s)⟩)
  else wt rs 125 (numS rs s)
/-- A count: least, most, is there one; and the state behind it. -/
def cntV (rs : List Int) (s : PS) : Int × Int × Bool :=
  if pk rs s = 63 then (0, 1, true) else if pk rs s = 43 then (1, -1, true) else if pk rs s = 42 then (0, -1, true)
  else if pk rs s = 123 then (brA rs ⟨s.pos + 1, s.deep, s.bad⟩, brB rs ⟨s.pos + 1, s.deep, s.bad⟩, true) else (0, 0, false)
def cntS (rs : List Int) (s : PS) : PS :=
  if pk rs s = 63 ∨ pk rs s = 43 ∨ pk rs s = 42 then ⟨s.pos + 1, s.deep, s.bad⟩ else if pk rs s = 123 then brS rs ⟨s.pos + 1, s.deep, s.bad⟩ else s

theorem numS_pos (rs : List Int) (s : PS) : s.pos ≤ (numS rs s).pos ∧ (numS rs s).pos ≤ s.pos + 2 := by
  unfold numS
  split
  · split
    · exact ⟨by show s.pos ≤ s.pos + 2; omega, Nat.le_refl _⟩
    · exact ⟨by show s.pos ≤ s.pos + 1; omega, by show s.pos + 1 ≤ s.pos + 2; omega⟩
  · exact ⟨Nat.le_refl _, by show s.pos ≤ s.pos + 2; omega⟩

theorem numN_le (rs : List Int) (s : PS) (h : ∀ r ∈ rs, 0 ≤ r ∧ r ≤ 1114111) : numN rs s ≤ 1000000000 ∧ -1000000000 ≤ numN rs s := by
  unfold numN
  split
  · rename_i h1
    split
    · rename_i h2
      simp [dig] at h1 h2
      omega
    · simp [dig] at h1
      omega
  · omega
set_option maxHeartbeats 4000000 in
theorem pcount_any (w : World) (pb : Nat) (rv : Value) (rs : List Int) (s : PS) (h : PaAt w pb rv rs s) (hp : s.pos + 10 ≤ 1000000) :
    Calls Tryd.prog 43 #[.pointer (some ⟨pb, 0, none⟩)] w fun e w' => e = .returned (.tuple #[.int .i64 (cntV rs s).1, .int .i64 (cntV rs s).2.1, .bool (cntV rs s).2.2]) ∧ PaAt w' pb rv rs (cntS rs s) ∧ Keeps (OnlyP pb) w w' := by
  have H0 := Lib.hid h
  clear h
  by_cases h63 : pk rs s = 63
  · have Ev : Hid (cntV rs s = (0, 1, true)) := Lib.hid (if_pos h63)
    have Es : Hid (cntS rs s = ⟨s.pos + 1, s.deep, s.bad⟩) := Lib.hid (if_pos (Or.inl h63))
    have Hr := Lib.hid h63
    clear h63
    go_enter Tryd.func43, Tryd.ntmps43
    go_wp2_with fail
    refine (take_yes 63 H0.out Hr.out (by omega)).mono ?_
    rintro e w1 ⟨rfl, h1, k1⟩
    have H1 := Lib.hid h1
    clear h1
    go_wp2_with fail
    go_ret3
    exact ⟨by rw [Ev.out]; rfl, by rw [Es.out]; exact H1.out, k1⟩
  by_cases h43 : pk rs s = 43
  · have Ev : Hid (cntV rs s = (1, -1, true)) := Lib.hid (by unfold cntV; rw [if_neg h63, if_pos h43])
    have Es : Hid (cntS rs s = ⟨s.pos + 1, s.deep, s.bad⟩) := Lib.hid (if_pos (Or.inr (Or.inl h43)))
    have Hr := Lib.hid h43
    have Hn := Lib.hid h63
    clear h43 h63
    go_enter Tryd.func43, Tryd.ntmps43
    go_wp2_with fail
    refine (take_no 63 H0.out Hn.out (by omega)).mono ?_
    rintro e w1 ⟨rfl, h1, k1⟩
    have H1 := Lib.hid h1
    clear h1
    go_wp2_with fail
    refine (take_yes 43 H1.out Hr.out (by omega)).mono ?_
    rintro e w2 ⟨rfl, h2, k2⟩
    have H2 := Lib.hid h2
    clear h2
    go_wp2_with fail
    go_ret3
    exact ⟨by rw [Ev.out]; rfl, by rw [Es.out]; exact H2.out, k1.trans k2⟩
  by_cases h42 : pk rs s = 42
  · have Ev : Hid (cntV rs s = (0, -1, true)) := Lib.hid (by unfold cntV; rw [if_neg h63, if_neg h43, if_pos h42])
    have Es : Hid (cntS rs s = ⟨s.pos + 1, s.deep, s.bad⟩) := Lib.hid (if_pos (Or.inr (Or.inr h42)))
    have Hr := Lib.hid h42
    have Hn := Lib.hid h63
    have Hm := Lib.hid h43
    clear h43 h63 h42
    go_enter Tryd.func43, Tryd.ntmps43
    go_wp2_with fail
    refine (take_no 63 H0.out Hn.out (by omega)).mono ?_
    rintro e w1 ⟨rfl, h1, k1⟩
    have H1 := Lib.hid h1
    clear h1
    go_wp2_with fail
    refine (take_no 43 H1.out Hm.out (by omega)).mono ?_
    rintro e w2 ⟨rfl, h2, k2⟩
    have H2 := Lib.hid h2
    clear h2
    go_wp2_with fail
    refine (take_yes 42 H2.out Hr.out (by omega)).mono ?_
    rintro e w3 ⟨rfl, h3, k3⟩
    have H3 := Lib.hid h3
    clear h3
    go_wp2_with fail
    go_ret3
    exact ⟨by rw [Ev.out]; rfl, by rw [Es.out]; exact H3.out, (k1.trans k2).trans k3⟩
  have Ha := Lib.hid h63
  have Hb := Lib.hid h43
  have Hc := Lib.hid h42
  by_cases h123 : pk rs s = 123
  · have Ev : Hid (cntV rs s = (brA rs ⟨s.pos + 1, s.deep, s.bad⟩, brB rs ⟨s.pos + 1, s.deep, s.bad⟩, true)) := Lib.hid (by unfold cntV; rw [if_neg h63, if_neg h43, if_neg h42, if_pos h123])
    have Es : Hid (cntS rs s = brS rs ⟨s.pos + 1, s.deep, s.bad⟩) := Lib.hid (by unfold cntS; rw [if_neg (by rintro (e | e | e); exact h63 e; exact h43 e; exact h42 e), if_pos h123])
    have Hd := Lib.hid h123
    clear h63 h43 h42 h123
    obtain ⟨q, hq⟩ : ∃ q : PS, (⟨s.pos + 1, s.deep, s.bad⟩ : PS) = q := ⟨_, rfl⟩
    have hqp : q.pos + 9 ≤ 1000000 := by rw [← hq]; show s.pos + 1 + 9 ≤ 1000000; omega
    have hP := numS_pos rs q
    have Hq := Lib.hid hq
    rw [hq] at Ev Es
    clear hq
    have hnq : numN rs q ≤ 1000000000 ∧ -1000000000 ≤ numN rs q := numN_le rs q H0.out.rng
    by_cases h44 : pk rs (numS rs q) = 44
    · have H44 := Lib.hid h44
      have hP3 := numS_pos rs (br3 rs q)
      have e3 : (br3 rs q).pos ≤ (numS rs q).pos + 1 := Nat.le_refl _
      have hn3 : numN rs (br3 rs q) ≤ 1000000000 ∧ -1000000000 ≤ numN rs (br3 rs q) := numN_le rs _ H0.out.rng
      by_cases h125 : pk rs (br3 rs q) = 125
      · have Eb : Hid (brB rs q = -1) := Lib.hid (by unfold brB; rw [if_pos h44, if_pos h125])
        have Et : Hid (brS rs q = wt rs 125 (br3 rs q)) := Lib.hid (by unfold brS; rw [if_pos h44, if_pos h125])
        have H125 := Lib.hid h125
        clear h44 h125
        go_enter Tryd.func43, Tryd.ntmps43
        go_wp2_with fail
        refine (take_no 63 H0.out Ha.out (by omega)).mono ?_
        rintro e w1 ⟨rfl, h1, k1⟩
        have H1 := Lib.hid h1
        clear h1
        go_wp2_with fail
        refine (take_no 43 H1.out Hb.out (by omega)).mono ?_
        rintro e w2 ⟨rfl, h2, k2⟩
        have H2 := Lib.hid h2
        clear h2
        go_wp2_with fail
        refine (take_no 42 H2.out Hc.out (by omega)).mono ?_
        rintro e w3 ⟨rfl, h3, k3⟩
        have H3 := Lib.hid h3
        clear h3
        go_wp2_with fail
        refine (take_yes 123 H3.out Hd.out (by omega)).mono ?_
        rintro e w4 ⟨rfl, h4, k4⟩
        rw [Hq.out] at h4
        have H4 := Lib.hid h4
        have K4 := Lib.hid (((k1.trans k2).trans k3).trans k4)
        clear h4 k1 k2 k3 k4
        go_wp2_with fail
        refine (number_any _ _ _ _ q H4.out (by omega)).mono ?_
        rintro e w5 ⟨rfl, h5, k5⟩
        have H5 := Lib.hid h5
        clear h5
        go_wp2_with fail
        refine (take_yes 44 H5.out H44.out (by omega)).mono ?_
        rintro e w6 ⟨rfl, h6, k6⟩
        have H6 : Hid (PaAt w6 pb rv rs (br3 rs q)) := Lib.hid h6
        clear h6
        go_wp2_with fail
        refine (peek_any _ _ _ _ _ H6.out).mono ?_
        rintro e w7 ⟨rfl, k7⟩
        have H7 := Lib.hid (H6.out.keepsF k7)
        have K7 := Lib.hid (((K4.out.trans k5).trans k6).trans (k7.mono (T := OnlyP pb) (fun _ _ e => e.elim)))
        clear k5 k6 k7
        rw [H125.out]
        go_wp2_with fail
        refine (want_any _ _ _ _ _ 125 H7.out (by omega)).mono ?_
        rintro e w8 ⟨rfl, h8, k8⟩
        have H8 := Lib.hid h8
        clear h8
        go_wp2_with fail
        go_ret3
        exact ⟨by rw [Ev.out, Eb.out]; rfl, by rw [Es.out, Et.out]; exact H8.out, K7.out.trans k8⟩
      · have Eb : Hid (brB rs q = numN rs (br3 rs q)) := Lib.hid (by unfold brB; rw [if_pos h44, if_neg h125])
        have Et : Hid (brS rs q = wt rs 125 ⟨(numS rs (br3 rs q)).pos, (numS rs (br3 rs q)).deep, (numS rs (br3 rs q)).bad || decide (numN rs (br3 rs q) < numN rs q)⟩) := Lib.hid (by unfold brS; rw [if_pos h44, if_neg h125])
        have g125 : (pk rs (br3 rs q) != 125) = true := by simp only [bne_iff_ne, ne_eq]; exact h125
        clear h44 h125
        obtain ⟨bd, hbd⟩ : ∃ b, (numS rs (br3 rs q)).bad = b := ⟨_, rfl⟩
        have Hbd := Lib.hid hbd
        clear hbd
        generalize hlt : decide (numN rs (br3 rs q) < numN rs q) = lt at Et
        have Hlt := Lib.hid hlt
        clear hlt
        go_enter Tryd.func43, Tryd.ntmps43
        go_wp2_with fail
        refine (take_no 63 H0.out Ha.out (by omega)).mono ?_
        rintro e w1 ⟨rfl, h1, k1⟩
        have H1 := Lib.hid h1
        clear h1
        go_wp2_with fail
        refine (take_no 43 H1.out Hb.out (by omega)).mono ?_
        rintro e w2 ⟨rfl, h2, k2⟩
        have H2 := Lib.hid h2
        clear h2
        go_wp2_with fail
        refine (take_no 42 H2.out Hc.out (by omega)).mono ?_
        rintro e w3 ⟨rfl, h3, k3⟩
        have H3 := Lib.hid h3
        clear h3
        go_wp2_with fail
        refine (take_yes 123 H3.out Hd.out (by omega)).mono ?_
        rintro e w4 ⟨rfl, h4, k4⟩
        rw [Hq.out] at h4
        have H4 := Lib.hid h4
        have K4 := Lib.hid (((k1.trans k2).trans k3).trans k4)
        clear h4 k1 k2 k3 k4
        go_wp2_with fail
        refine (number_any _ _ _ _ q H4.out (by omega)).mono ?_
        rintro e w5 ⟨rfl, h5, k5⟩
        have H5 := Lib.hid h5
        clear h5
        go_wp2_with fail
        refine (take_yes 44 H5.out H44.out (by omega)).mono ?_
        rintro e w6 ⟨rfl, h6, k6⟩
        have H6 : Hid (PaAt w6 pb rv rs (br3 rs q)) := Lib.hid h6
        clear h6
        go_wp2_with fail
        refine (peek_any _ _ _ _ _ H6.out).mono ?_
        rintro e w7 ⟨rfl, k7⟩
        have H7 := Lib.hid (H6.out.keepsF k7)
        have K7 := Lib.hid (((K4.out.trans k5).trans k6).trans (k7.mono (T := OnlyP pb) (fun _ _ e => e.elim)))
        clear k5 k6 k7
        go_wp2_with fail
        refine (number_any _ _ _ _ (br3 rs q) H7.out (by omega)).mono ?_
        rintro e w8 ⟨rfl, h8, k8⟩
        have c3 := h8.c3
        have f3 := h8.fr 3
        rw [Hbd.out] at c3
        have H8 := Lib.hid (h8.setBad (bd || lt))
        have K8 := Lib.hid ((K7.out.trans k8).set (p := ⟨pb, 3, none⟩) rfl (.bool (bd || lt)))
        clear h8 k8
        generalize hna : numN rs q = na at *
        have Hna := Lib.hid hna
        clear hna
        generalize hnb : numN rs (br3 rs q) = nb at *
        have Hnb := Lib.hid hnb
        clear hnb
        have hlt := Hlt.out
        cases bd
        · cases lt
          · have hg : ¬ nb < na := by simpa using hlt
            clear Hlt
            go_wp2_with fail
            refine (want_any _ _ _ _ _ 125 H8.out (by show (numS rs (br3 rs q)).pos + 1 ≤ 1000000; omega)).mono ?_
            rintro e w9 ⟨rfl, h9, k9⟩
            have H9 := Lib.hid h9
            clear h9
            go_wp2_with fail
            go_ret3
            exact ⟨by rw [Ev.out, Eb.out]; unfold brA; rw [Hna.out]; rfl, by rw [Es.out, Et.out, Hbd.out]; exact H9.out, K8.out.trans k9⟩
          · have hg : nb < na := by simpa using hlt
            clear Hlt
            go_wp2_with fail
            refine (want_any _ _ _ _ _ 125 H8.out (by show (numS rs (br3 rs q)).pos + 1 ≤ 1000000; omega)).mono ?_
            rintro e w9 ⟨rfl, h9, k9⟩
            have H9 := Lib.hid h9
            clear h9
            go_wp2_with fail
            go_ret3
            exact ⟨by rw [Ev.out, Eb.out]; unfold brA; rw [Hna.out]; rfl, by rw [Es.out, Et.out, Hbd.out]; exact H9.out, K8.out.trans k9⟩
        · clear hlt Hlt
          go_wp2_with fail
          refine (want_any _ _ _ _ _ 125 H8.out (by show (numS rs (br3 rs q)).pos + 1 ≤ 1000000; omega)).mono ?_
          rintro e w9 ⟨rfl, h9, k9⟩
          have H9 := Lib.hid h9
          clear h9
          go_wp2_with fail
          go_ret3
          exact ⟨by rw [Ev.out, Eb.out]; unfold brA; rw [Hna.out]; rfl, by rw [Es.out, Et.out, Hbd.out]; exact H9.out, K8.out.trans k9⟩
    · have H44 := Lib.hid h44
      have Eb : Hid (brB rs q = numN rs q) := Lib.hid (by unfold brB; rw [if_neg h44])
      have Et : Hid (brS rs q = wt rs 125 (numS rs q)) := Lib.hid (by unfold brS; rw [if_neg h44])
      clear h44
      go_enter Tryd.func43, Tryd.ntmps43
      go_wp2_with fail
      refine (take_no 63 H0.out Ha.out (by omega)).mono ?_
      rintro e w1 ⟨rfl, h1, k1⟩
      have H1 := Lib.hid h1
      clear h1
      go_wp2_with fail
      refine (take_no 43 H1.out Hb.out (by omega)).mono ?_
      rintro e w2 ⟨rfl, h2, k2⟩
      have H2 := Lib.hid h2
      clear h2
      go_wp2_with fail
      refine (take_no 42 H2.out Hc.out (by omega)).mono ?_
      rintro e w3 ⟨rfl, h3, k3⟩
      have H3 := Lib.hid h3
      clear h3
      go_wp2_with fail
      refine (take_yes 123 H3.out Hd.out (by omega)).mono ?_
      rintro e w4 ⟨rfl, h4, k4⟩
      rw [Hq.out] at h4
      have H4 := Lib.hid h4
      have K4 := Lib.hid (((k1.trans k2).trans k3).trans k4)
      clear h4 k1 k2 k3 k4
      go_wp2_with fail
      refine (number_any _ _ _ _ q H4.out (by omega)).mono ?_
      rintro e w5 ⟨rfl, h5, k5⟩
      have H5 := Lib.hid h5
      clear h5
      go_wp2_with fail
      refine (take_no 44 H5.out H44.out (by omega)).mono ?_
      rintro e w6 ⟨rfl, h6, k6⟩
      have H6 := Lib.hid h6
      clear h6
      go_wp2_with fail
      refine (want_any _ _ _ _ _ 125 H6.out (by omega)).mono ?_
      rintro e w8 ⟨rfl, h8, k8⟩
      have H8 := Lib.hid h8
      clear h8
      go_wp2_with fail
      go_ret3
      exact ⟨by rw [Ev.out, Eb.out]; rfl, by rw [Es.out, Et.out]; exact H8.out, ((K4.out.trans k5).trans k6).trans k8⟩
  · have Ev : Hid (cntV rs s = (0, 0, false)) := Lib.hid (by unfold cntV; rw [if_neg h63, if_neg h43, if_neg h42, if_neg h123])
    have Es : Hid (cntS rs s = s) := Lib.hid (by unfold cntS; rw [if_neg (by rintro (e | e | e); exact h63 e; exact h43 e; exact h42 e), if_neg h123])
    have Hd := Lib.hid h123
    clear h63 h43 h42 h123
    go_enter Tryd.func43, Tryd.ntmps43
    go_wp2_with fail
    refine (take_no 63 H0.out Ha.out (by omega)).mono ?_
    rintro e w1 ⟨rfl, h1, k1⟩
    have H1 := Lib.hid h1
    clear h1
    go_wp2_with fail
    refine (take_no 43 H1.out Hb.out (by omega)).mono ?_
    rintro e w2 ⟨rfl, h2, k2⟩
    have H2 := Lib.hid h2
    clear h2
    go_wp2_with fail
    refine (take_no 42 H2.out Hc.out (by omega)).mono ?_
    rintro e w3 ⟨rfl, h3, k3⟩
    have H3 := Lib.hid h3
    clear h3
    go_wp2_with fail
    refine (take_no 123 H3.out Hd.out (by omega)).mono ?_
    rintro e w4 ⟨rfl, h4, k4⟩
    have H4 := Lib.hid h4
    clear h4
    go_wp2_with fail
    go_ret3
    exact ⟨by rw [Ev.out]; rfl, by rw [Es.out]; exact H4.out, ((k1.trans k2).trans k3).trans k4⟩
end Go.Proofs.YtinogeobkljngaaDoor
