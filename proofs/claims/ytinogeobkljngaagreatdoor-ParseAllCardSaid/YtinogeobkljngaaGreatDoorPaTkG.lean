/-
  The parser's take, want, number.
-/
import Derived.Test.YtinogeobkljngaaGreatDoorMg3
namespace Go.Proofs.YtinogeobkljngaaGreatDoor
open Go.RowKit
set_option linter.unusedVariables false
set_option linter.unusedSimpArgs false
set_option maxRecDepth 100000

set_option maxHeartbeats 1000000 in
theorem take_any (w : World) (pb : Nat) (rv : Value) (rs : List Int) (s : PS) (r : Int) (h : PaAt w pb rv rs s) (hp : s.pos + 1 ≤ 1000000) :
    Calls Tryz.prog 21 #[.pointer (some ⟨pb, 0, none⟩), .int .i64 r] w fun e w' => e = .returned (.bool (tkB rs r s)) ∧ PaAt w' pb rv rs (tk rs r s) ∧ Keeps (OnlyP pb) w w' := by
  have HP := Lib.hid (peek_any w pb rv rs s h)
  have H := Lib.hid h
  clear h
  by_cases hr : pk rs s = r
  · have E : Hid (tk rs r s = ⟨s.pos + 1, s.deep, s.bad⟩) := Lib.hid (if_pos hr)
    have E2 : Hid (tkB rs r s = true) := Lib.hid (by unfold tkB; simpa using hr)
    rw [hr] at HP
    clear hr
    generalize tk rs r s = s' at *
    generalize tkB rs r s = q at *
    go_enter Tryz.func21, Tryz.ntmps21
    go_wp2_with fail
    refine HP.out.mono ?_
    rintro e w1 ⟨rfl, hk1⟩
    have h1 := H.out.keepsF hk1
    have c1 := h1.c1
    have f1 := h1.fr 1
    have h3 := h1.setPos (s.pos + 1) hp
    have hk3 := (hk1.mono (T := OnlyP pb) (fun _ _ e => e.elim)).set (p := ⟨pb, 1, none⟩) rfl (.int .i64 ((s.pos + 1 : Nat) : Int))
    have H3 := Lib.hid h3
    have Hk3 := Lib.hid hk3
    clear h1 h3 hk1 hk3
    go_wp2_with fail
    go_ret
    exact ⟨by rw [E2.out]; rfl, by rw [E.out]; exact H3.out, Hk3.out⟩
  · have E : Hid (tk rs r s = s) := Lib.hid (if_neg hr)
    have E2 : Hid (tkB rs r s = false) := Lib.hid (by unfold tkB; simpa using hr)
    have g1 : (pk rs s != r) = true := by simp only [bne_iff_ne, ne_eq]; exact hr
    clear hr
    generalize tk rs r s = s' at *
    generalize tkB rs r s = q at *
    generalize pk rs s = t at *
    go_enter Tryz.func21, Tryz.ntmps21
    go_wp2_with fail
    refine HP.out.mono ?_
    rintro e w1 ⟨rfl, hk1⟩
    have h1 := Lib.hid (H.out.keepsF hk1)
    go_wp2_with fail
    go_ret
    exact ⟨by rw [E2.out]; rfl, by rw [E.out]; exact h1.out, hk1.mono (fun _ _ e => e.elim)⟩

set_option maxHeartbeats 1000000 in
theorem want_any (w : World) (pb : Nat) (rv : Value) (rs : List Int) (s : PS) (r : Int) (h : PaAt w pb rv rs s) (hp : s.pos + 1 ≤ 1000000) :
    Calls Tryz.prog 60 #[.pointer (some ⟨pb, 0, none⟩), .int .i64 r] w fun e w' => e = .returned (.tuple #[]) ∧ PaAt w' pb rv rs (wt rs r s) ∧ Keeps (OnlyP pb) w w' := by
  have HT := Lib.hid (take_any w pb rv rs s r h hp)
  clear h
  by_cases hr : pk rs s = r
  · have E : Hid (wt rs r s = tk rs r s) := Lib.hid (by unfold wt tk; rw [if_pos hr, if_pos hr])
    have E2 : tkB rs r s = true := by unfold tkB; simpa using hr
    rw [E2] at HT
    clear hr E2
    go_enter Tryz.func60, Tryz.ntmps60
    go_wp2_with fail
    refine HT.out.mono ?_
    rintro e w1 ⟨rfl, h1, hk1⟩
    have H1 := Lib.hid h1
    clear h1
    go_wp2_with fail
    go_end0
    exact ⟨rfl, by rw [E.out]; exact H1.out, hk1⟩
  · have E : Hid (wt rs r s = ⟨s.pos, s.deep, true⟩) := Lib.hid (if_neg hr)
    have E2 : tkB rs r s = false := by unfold tkB; simpa using hr
    have E3 : tk rs r s = s := if_neg hr
    rw [E2, E3] at HT
    clear hr E2 E3
    go_enter Tryz.func60, Tryz.ntmps60
    go_wp2_with fail
    refine HT.out.mono ?_
    rintro e w1 ⟨rfl, h1, hk1⟩
    have c3 := h1.c3
    have f3 := h1.fr 3
    have H1 := Lib.hid (h1.setBad true)
    clear h1
    go_wp2_with fail
    go_end0
    exact ⟨rfl, by rw [E.out]; exact H1.out, hk1.set (p := ⟨pb, 3, none⟩) rfl _⟩

def dig (r : Int) : Bool := decide (48 ≤ r) && decide (r ≤ 57)
/-- A number of one or two digits. -/
def numN (rs : List Int) (s : PS) : Int :=
  if dig (pk rs s) then (if dig (pk rs ⟨s.pos + 1, s.deep, s.bad⟩) then (pk rs s - 48) * 10 + pk rs ⟨s.pos + 1, s.deep, s.bad⟩ - 48 else pk rs s - 48) else 0
def numS (rs : List Int) (s : PS) : PS :=
  if dig (pk rs s) then (if dig (pk rs ⟨s.pos + 1, s.deep, s.bad⟩) then ⟨s.pos + 2, s.deep, s.bad || decide (50 < numN rs s)⟩ else ⟨s.pos + 1, s.deep, s.bad⟩) else ⟨s.pos, s.deep, true⟩

def NumR (pb : Nat) (rv : Value) (rs : List Int) (s : PS) (w : World) (nv iv : Value) (wr : World) : Prop :=
  ∃ (i : Nat) (n : Int) (s' : PS), iv = .int .i64 i ∧ nv = .int .i64 n ∧ PaAt wr pb rv rs s' ∧ Keeps (OnlyP pb) w wr ∧ 0 ≤ n ∧ n ≤ 99 ∧
    ((i = 0 ∧ n = 0 ∧ s' = s) ∨ (i = 1 ∧ dig (pk rs s) = true ∧ n = pk rs s - 48 ∧ n ≤ 9 ∧ s' = ⟨s.pos + 1, s.deep, s.bad⟩) ∨
     (i = 2 ∧ dig (pk rs s) = true ∧ dig (pk rs ⟨s.pos + 1, s.deep, s.bad⟩) = true ∧ n = numN rs s ∧ s' = ⟨s.pos + 2, s.deep, s.bad⟩))

set_option maxHeartbeats 4000000 in
theorem number_any (w : World) (pb : Nat) (rv : Value) (rs : List Int) (s : PS) (h : PaAt w pb rv rs s) (hp : s.pos + 2 ≤ 1000000) :
    Calls Tryz.prog 67 #[.pointer (some ⟨pb, 0, none⟩)] w fun e w' => e = .returned (.int .i64 (numN rs s)) ∧ PaAt w' pb rv rs (numS rs s) ∧ Keeps (OnlyP pb) w w' := by
  have H0 := Lib.hid h
  clear h
  go_enter Tryz.func67, Tryz.ntmps67
  go_wp2_with fail
  go_loopw [3, 6] (fun nv iv wr => NumR pb rv rs s w nv iv wr) (fun _ iv _ => 2 - (intOf iv).toNat)
  case atStart => exact ⟨0, 0, s, rfl, rfl, H0.out, Keeps.refl _ _, by omega, by omega, Or.inl ⟨rfl, rfl, rfl⟩⟩
  case round =>
    obtain ⟨i, n, s', rfl, rfl, hA, hk, hn0, hn9, hc⟩ := hrel
    have hPk := Lib.hid (peek_any wr pb rv rs s' hA)
    have hple := pk_le hA
    have HA := Lib.hid hA
    have hsp : s'.pos + 1 ≤ 1000000 ∨ i = 2 := by
      rcases hc with ⟨_, _, rfl⟩ | ⟨_, _, _, _, rfl⟩ | ⟨e, _⟩
      · left; omega
      · left; show s.pos + 1 + 1 ≤ 1000000; omega
      · right; exact e
    clear hA
    by_cases hi2 : i = 2
    · subst hi2
      rcases hc with ⟨e, _⟩ | ⟨e, _⟩ | ⟨_, d0, d1, hN, hS⟩
      · omega
      · omega
      · have hb : s.bad = false := (pk_room (show 0 ≤ pk rs s by simp [dig] at d0; omega)).2
        have En : Hid (numN rs s = n) := Lib.hid hN.symm
        have Es : Hid (numS rs s = ⟨s.pos + 2, s.deep, decide (50 < n)⟩) := Lib.hid (by unfold numS; rw [if_pos d0, if_pos d1, ← hN, hb]; rfl)
        have c3 := HA.out.c3
        have f3 := HA.out.fr 3
        have hb' : s'.bad = false := by rw [hS]; exact hb
        rw [hb'] at c3
        have hSs : s'.pos = s.pos + 2 ∧ s'.deep = s.deep := by rw [hS]; exact ⟨rfl, rfl⟩
        clear hN hS d0 d1 hPk hple hb hb'
        by_cases h50 : 50 < n
        · have g : decide (50 < n) = true := by simpa using h50
          have H1 := Lib.hid (HA.out.setBad true)
          have Es2 : Hid (numS rs s = ⟨s'.pos, s'.deep, true⟩) := Lib.hid (by rw [Es.out, g, hSs.1, hSs.2])
          clear Es hSs
          go_wp2_with fail
          go_ret
          exact ⟨by rw [En.out]; rfl, by rw [Es2.out]; exact H1.out, hk.set (p := ⟨pb, 3, none⟩) rfl _⟩
        · have g : decide (50 < n) = false := by simpa using h50
          have H1 := Lib.hid (HA.out.setBad false)
          have Es2 : Hid (numS rs s = ⟨s'.pos, s'.deep, false⟩) := Lib.hid (by rw [Es.out, g, hSs.1, hSs.2])
          clear Es hSs
          go_wp2_with fail
          go_ret
          exact ⟨by rw [En.out]; rfl, by rw [Es2.out]; exact H1.out, hk.set (p := ⟨pb, 3, none⟩) rfl _⟩
    · have hi : i < 2 := by omega
      have hsp' : s'.pos + 1 ≤ 1000000 := by omega
      clear hsp
      by_cases hd : dig (pk rs s') = true
      · have hd' : 48 ≤ pk rs s' ∧ pk rs s' ≤ 57 := by simpa [dig] using hd
        have hb : s'.bad = false := (pk_room (show 0 ≤ pk rs s' by omega)).2
        have hn9' : n ≤ 9 := by
          rcases hc with ⟨_, e, _⟩ | ⟨_, _, _, e, _⟩ | ⟨e, _⟩
          · omega
          · exact e
          · omega
        have Hc := Lib.hid hc
        have Hd := Lib.hid hd
        have Hb := Lib.hid hb
        clear hc hd hb
        have Hpk : Hid (pk rs s' = pk rs s') := rfl
        generalize hr : pk rs s' = r at *
        have Hr := Lib.hid hr
        clear hr Hpk
        have g1 : decide (r < 48) = false := by simp; omega
        have g2 : decide ((57 : Int) < r) = false := by simp; omega
        obtain ⟨r1, r2⟩ := hd'
        go_wp2_with fail
        refine hPk.out.mono ?_
        rintro e w1 ⟨rfl, hk1⟩
        have h1 := HA.out.keepsF hk1
        have c1 := h1.c1
        have f1 := h1.fr 1
        have H3 := Lib.hid (h1.setPos (s'.pos + 1) hsp')
        have Hk3 := Lib.hid ((hk.trans (hk1.mono (T := OnlyP pb) (fun _ _ e => e.elim))).set (p := ⟨pb, 1, none⟩) rfl (.int .i64 ((s'.pos + 1 : Nat) : Int)))
        clear h1 hk1 hPk
        go_wp2_with fail
        go_roundw
        case rel =>
          refine ⟨i + 1, n * 10 + r - 48, _, by go_num, rfl, H3.out, Hk3.out, by omega, by omega, ?_⟩
          rcases Hc.out with ⟨rfl, rfl, rfl⟩ | ⟨rfl, d0, hn, _, rfl⟩ | ⟨e, _⟩
          · right; left
            have hr := Hr.out
            refine ⟨rfl, by rw [hr]; exact Hd.out, by rw [hr]; omega, by omega, rfl⟩
          · right; right
            have hr := Hr.out
            refine ⟨rfl, d0, by rw [hr]; exact Hd.out, ?_, rfl⟩
            unfold numN
            rw [if_pos d0, if_pos (by rw [hr]; exact Hd.out), hr, hn]
          · omega
        case measure => simp [intOf]; omega
      · have hd' : pk rs s' < 48 ∨ 57 < pk rs s' := by simp [dig] at hd; omega
        rcases hc with ⟨rfl, rfl, rfl⟩ | ⟨rfl, d0, hn, h9, hS⟩ | ⟨e, _⟩
        · have En : Hid (numN rs s' = 0) := Lib.hid (by unfold numN; rw [if_neg hd])
          have Es : Hid (numS rs s' = ⟨s'.pos, s'.deep, true⟩) := Lib.hid (by unfold numS; rw [if_neg hd])
          clear hd
          generalize pk rs s' = r at *
          obtain ⟨bad, hbad⟩ : ∃ b, s'.bad = b := ⟨_, rfl⟩
          have Hbad := Lib.hid hbad
          clear hbad
          by_cases hr48 : r < 48
          · have g1 : decide (r < 48) = true := by simpa using hr48
            clear hd'
            go_wp2_with fail
            refine hPk.out.mono ?_
            rintro e w1 ⟨rfl, hk1⟩
            have h1 := HA.out.keepsF hk1
            have c3 := h1.c3
            have f3 := h1.fr 3
            rw [Hbad.out] at c3
            have h2 := h1.setBad true
            have H3 := Lib.hid (h2.setBad true)
            have Hk3 := Lib.hid (((hk.trans (hk1.mono (T := OnlyP pb) (fun _ _ e => e.elim))).set (p := ⟨pb, 3, none⟩) rfl (.bool true)).set (p := ⟨pb, 3, none⟩) rfl (.bool true))
            have d3 := h2.c3
            have e3 := h2.fr 3
            simp only at d3
            clear h1 h2 hk1 hPk
            cases bad
            all_goals
              go_wp2_with fail
              go_ret
              exact ⟨by rw [En.out]; rfl, by rw [Es.out]; exact H3.out, Hk3.out⟩
          · have g1 : decide (r < 48) = false := by simpa using hr48
            have g2 : decide ((57 : Int) < r) = true := by simp; omega
            clear hd'
            go_wp2_with fail
            refine hPk.out.mono ?_
            rintro e w1 ⟨rfl, hk1⟩
            have h1 := HA.out.keepsF hk1
            have c3 := h1.c3
            have f3 := h1.fr 3
            rw [Hbad.out] at c3
            have h2 := h1.setBad true
            have H3 := Lib.hid (h2.setBad true)
            have Hk3 := Lib.hid (((hk.trans (hk1.mono (T := OnlyP pb) (fun _ _ e => e.elim))).set (p := ⟨pb, 3, none⟩) rfl (.bool true)).set (p := ⟨pb, 3, none⟩) rfl (.bool true))
            have d3 := h2.c3
            have e3 := h2.fr 3
            simp only at d3
            clear h1 h2 hk1 hPk
            cases bad
            all_goals
              go_wp2_with fail
              go_ret
              exact ⟨by rw [En.out]; rfl, by rw [Es.out]; exact H3.out, Hk3.out⟩
        · have hb : s.bad = false := (pk_room (show 0 ≤ pk rs s by simp [dig] at d0; omega)).2
          have hb' : s'.bad = false := by rw [hS]; exact hb
          have En : Hid (numN rs s = n) := Lib.hid (by unfold numN; rw [if_pos d0, if_neg (by rw [← hS]; exact hd), hn])
          have Es : Hid (numS rs s = ⟨s'.pos, s'.deep, false⟩) := Lib.hid (by unfold numS; rw [if_pos d0, if_neg (by rw [← hS]; exact hd), hS, hb])
          have Hb' := Lib.hid hb'
          have g50 : decide ((50 : Int) < n) = false := by simp; omega
          clear hd hS hb d0 hn hb'
          generalize pk rs s' = r at *
          by_cases hr48 : r < 48
          · have g1 : decide (r < 48) = true := by simpa using hr48
            clear hd'
            go_wp2_with fail
            refine hPk.out.mono ?_
            rintro e w1 ⟨rfl, hk1⟩
            have h1 := HA.out.keepsF hk1
            have c3 := h1.c3
            have f3 := h1.fr 3
            rw [Hb'.out] at c3
            have h2 := h1.setBad false
            have H3 := Lib.hid (h2.setBad false)
            have Hk3 := Lib.hid (((hk.trans (hk1.mono (T := OnlyP pb) (fun _ _ e => e.elim))).set (p := ⟨pb, 3, none⟩) rfl (.bool false)).set (p := ⟨pb, 3, none⟩) rfl (.bool false))
            have d3 := h2.c3
            have e3 := h2.fr 3
            simp only at d3
            clear h1 h2 hk1 hPk
            go_wp2_with fail
            go_ret
            exact ⟨by rw [En.out]; rfl, by rw [Es.out]; exact H3.out, Hk3.out⟩
          · have g1 : decide (r < 48) = false := by simpa using hr48
            have g2 : decide ((57 : Int) < r) = true := by simp; omega
            clear hd'
            go_wp2_with fail
            refine hPk.out.mono ?_
            rintro e w1 ⟨rfl, hk1⟩
            have h1 := HA.out.keepsF hk1
            have c3 := h1.c3
            have f3 := h1.fr 3
            rw [Hb'.out] at c3
            have h2 := h1.setBad false
            have H3 := Lib.hid (h2.setBad false)
            have Hk3 := Lib.hid (((hk.trans (hk1.mono (T := OnlyP pb) (fun _ _ e => e.elim))).set (p := ⟨pb, 3, none⟩) rfl (.bool false)).set (p := ⟨pb, 3, none⟩) rfl (.bool false))
            have d3 := h2.c3
            have e3 := h2.fr 3
            simp only at d3
            clear h1 h2 hk1 hPk
            go_wp2_with fail
            go_ret
            exact ⟨by rw [En.out]; rfl, by rw [Es.out]; exact H3.out, Hk3.out⟩
        · omega
end Go.Proofs.YtinogeobkljngaaGreatDoor
