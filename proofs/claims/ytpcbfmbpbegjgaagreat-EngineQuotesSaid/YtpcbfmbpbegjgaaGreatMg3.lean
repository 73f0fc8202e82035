/-
  Several texts in one: The parser's take, want, number. The parser's count. slices.SortFunc over an owned row of ranges: a permutation, in the order of the lower ends. How set.Of works, in plain words: clamp, sort, merge.
-/
import Derived.Test.YtpcbfmbpbegjgaaGreatMg2
import Derived.Test.YtpcbfmbpbegjgaaGreatShelfS
section
namespace Go.Proofs.YtpcbfmbpbegjgaaGreat
open Go.RowKit
set_option linter.unusedVariables false
set_option linter.unusedSimpArgs false
set_option maxRecDepth 100000

set_option maxHeartbeats 1000000 in
theorem take_any (w : World) (pb : Nat) (rv : Value) (rs : List Int) (s : PS) (r : Int) (h : PaAt w pb rv rs s) (hp : s.pos + 1 ≤ 1000000) :
    Calls Tryz.prog 69 #[.pointer (some ⟨pb, 0, none⟩), .int .i64 r] w fun e w' => e = .returned (.bool (tkB rs r s)) ∧ PaAt w' pb rv rs (tk rs r s) ∧ Keeps (OnlyP pb) w w' := by
  have HP := Lib.hid (peek_any w pb rv rs s h)
  have H := Lib.hid h
  clear h
  by_cases hr : pk rs s = r
  · have E : Hid (tk rs r s = ⟨s.pos + 1, s.deep, s.bad⟩) := Lib.hid (if_pos hr)
    have E2 : Hid (tkB rs r s = true) := Lib.hid (by unfold tkB; simpa using hr)
    rw [hr] at HP
    clear hr
    generalize tk rs r s = s' at *
    generalize tkB rs r s = q at *
    go_enter Tryz.func69, Tryz.ntmps69
    go_wp2_with fail
    refine HP.out.mono ?_
    rintro e w1 ⟨rfl, hk1⟩
    have h1 := H.out.keepsF hk1
    have c1 := h1.c1
    have f1 := h1.fr 1
    have h3 := h1.setPos (s.pos + 1) hp
    have hk3 := (hk1.mono (T := OnlyP pb) (fun _ _ e => e.elim)).set (p := ⟨pb, 1, none⟩) rfl (.int .i64 ((s.pos + 1 : Nat) : Int))
    have H3 := Lib.hid h3
    have Hk3 := Lib.hid hk3
    clear h1 h3 hk1 hk3
    go_wp2_with fail
    go_ret
    exact ⟨by rw [E2.out]; rfl, by rw [E.out]; exact H3.out, Hk3.out⟩
  · have E : Hid (tk rs r s = s) := Lib.hid (if_neg hr)
    have E2 : Hid (tkB rs r s = false) := Lib.hid (by unfold tkB; simpa using hr)
    have g1 : (pk rs s != r) = true := by simp only [bne_iff_ne, ne_eq]; exact hr
    clear hr
    generalize tk rs r s = s' at *
    generalize tkB rs r s = q at *
    generalize pk rs s = t at *
    go_enter Tryz.func69, Tryz.ntmps69
    go_wp2_with fail
    refine HP.out.mono ?_
    rintro e w1 ⟨rfl, hk1⟩
    have h1 := Lib.hid (H.out.keepsF hk1)
    go_wp2_with fail
    go_ret
    exact ⟨by rw [E2.out]; rfl, by rw [E.out]; exact h1.out, hk1.mono (fun _ _ e => e.elim)⟩

set_option maxHeartbeats 1000000 in
theorem want_any (w : World) (pb : Nat) (rv : Value) (rs : List Int) (s : PS) (r : Int) (h : PaAt w pb rv rs s) (hp : s.pos + 1 ≤ 1000000) :
    Calls Tryz.prog 112 #[.pointer (some ⟨pb, 0, none⟩), .int .i64 r] w fun e w' => e = .returned (.tuple #[]) ∧ PaAt w' pb rv rs (wt rs r s) ∧ Keeps (OnlyP pb) w w' := by
  have HT := Lib.hid (take_any w pb rv rs s r h hp)
  clear h
  by_cases hr : pk rs s = r
  · have E : Hid (wt rs r s = tk rs r s) := Lib.hid (by unfold wt tk; rw [if_pos hr, if_pos hr])
    have E2 : tkB rs r s = true := by unfold tkB; simpa using hr
    rw [E2] at HT
    clear hr E2
    go_enter Tryz.func112, Tryz.ntmps112
    go_wp2_with fail
    refine HT.out.mono ?_
    rintro e w1 ⟨rfl, h1, hk1⟩
    have H1 := Lib.hid h1
    clear h1
    go_wp2_with fail
    go_end0
    exact ⟨rfl, by rw [E.out]; exact H1.out, hk1⟩
  · have E : Hid (wt rs r s = ⟨s.pos, s.deep, true⟩) := Lib.hid (if_neg hr)
    have E2 : tkB rs r s = false := by unfold tkB; simpa using hr
    have E3 : tk rs r s = s := if_neg hr
    rw [E2, E3] at HT
    clear hr E2 E3
    go_enter Tryz.func112, Tryz.ntmps112
    go_wp2_with fail
    refine HT.out.mono ?_
    rintro e w1 ⟨rfl, h1, hk1⟩
    have c3 := h1.c3
    have f3 := h1.fr 3
    have H1 := Lib.hid (h1.setBad true)
    clear h1
    go_wp2_with fail
    go_end0
    exact ⟨rfl, by rw [E.out]; exact H1.out, hk1.set (p := ⟨pb, 3, none⟩) rfl _⟩

def dig (r : Int) : Bool := decide (48 ≤ r) && decide (r ≤ 57)
/-- A number of one or two digits. -/
def numN (rs : List Int) (s : PS) : Int :=
  if dig (pk rs s) then (if dig (pk rs ⟨s.pos + 1, s.deep, s.bad⟩) then (pk rs s - 48) * 10 + pk rs ⟨s.pos + 1, s.deep, s.bad⟩ - 48 else pk rs s - 48) else 0
def numS (rs : List Int) (s : PS) : PS :=
  if dig (pk rs s) then (if dig (pk rs ⟨s.pos + 1, s.deep, s.bad⟩) then ⟨s.pos + 2, s.deep, s.bad || decide (50 < numN rs s)⟩ else ⟨s.pos + 1, s.deep, s.bad⟩) else ⟨s.pos, s.deep, true⟩

def NumR (pb : Nat) (rv : Value) (rs : List Int) (s : PS) (w : World) (nv iv : Value) (wr : World) : Prop :=
  ∃ (i : Nat) (n : Int) (s' : PS), iv = .int .i64 i ∧ nv = .int .i64 n ∧ PaAt wr pb rv rs s' ∧ Keeps (OnlyP pb) w wr ∧ 0 ≤ n ∧ n ≤ 99 ∧
    ((i = 0 ∧ n = 0 ∧ s' = s) ∨ (i = 1 ∧ dig (pk rs s) = true ∧ n = pk rs s - 48 ∧ n ≤ 9 ∧ s' = ⟨s.pos + 1, s.deep, s.bad⟩) ∨
     (i = 2 ∧ dig (pk rs s) = true ∧ dig (pk rs ⟨s.pos + 1, s.deep, s.bad⟩) = true ∧ n = numN rs s ∧ s' = ⟨s.pos + 2, s.deep, s.bad⟩))

set_option maxHeartbeats 4000000 in
theorem number_any (w : World) (pb : Nat) (rv : Value) (rs : List Int) (s : PS) (h : PaAt w pb rv rs s) (hp : s.pos + 2 ≤ 1000000) :
    Calls Tryz.prog 119 #[.pointer (some ⟨pb, 0, none⟩)] w fun e w' => e = .returned (.int .i64 (numN rs s)) ∧ PaAt w' pb rv rs (numS rs s) ∧ Keeps (OnlyP pb) w w' := by
  have H0 := Lib.hid h
  clear h
  go_enter Tryz.func119, Tryz.ntmps119
  go_wp2_with fail
  go_loopw [3, 6] (fun nv iv wr => NumR pb rv rs s w nv iv wr) (fun _ iv _ => 2 - (intOf iv).toNat)
  case atStart => exact ⟨0, 0, s, rfl, rfl, H0.out, Keeps.refl _ _, by omega, by omega, Or.inl ⟨rfl, rfl, rfl⟩⟩
  case round =>
    obtain ⟨i, n, s', rfl, rfl, hA, hk, hn0, hn9, hc⟩ := hrel
    have hPk := Lib.hid (peek_any wr pb rv rs s' hA)
    have hple := pk_le hA
    have HA := Lib.hid hA
    have hsp : s'.pos + 1 ≤ 1000000 ∨ i = 2 := by
      rcases hc with ⟨_, _, rfl⟩ | ⟨_, _, _, _, rfl⟩ | ⟨e, _⟩
      · left; omega
      · left; show s.pos + 1 + 1 ≤ 1000000; omega
      · right; exact e
    clear hA
    by_cases hi2 : i = 2
    · subst hi2
      rcases hc with ⟨e, _⟩ | ⟨e, _⟩ | ⟨_, d0, d1, hN, hS⟩
      · omega
      · omega
      · have hb : s.bad = false := (pk_room (show 0 ≤ pk rs s by simp [dig] at d0; omega)).2
        have En : Hid (numN rs s = n) := Lib.hid hN.symm
        have Es : Hid (numS rs s = ⟨s.pos + 2, s.deep, decide (50 < n)⟩) := Lib.hid (by unfold numS; rw [if_pos d0, if_pos d1, ← hN, hb]; rfl)
        have c3 := HA.out.c3
        have f3 := HA.out.fr 3
        have hb' : s'.bad = false := by rw [hS]; exact hb
        rw [hb'] at c3
        have hSs : s'.pos = s.pos + 2 ∧ s'.deep = s.deep := by rw [hS]; exact ⟨rfl, rfl⟩
        clear hN hS d0 d1 hPk hple hb hb'
        by_cases h50 : 50 < n
        · have g : decide (50 < n) = true := by simpa using h50
          have H1 := Lib.hid (HA.out.setBad true)
          have Es2 : Hid (numS rs s = ⟨s'.pos, s'.deep, true⟩) := Lib.hid (by rw [Es.out, g, hSs.1, hSs.2])
          clear Es hSs
          go_wp2_with fail
          go_ret
          exact ⟨by rw [En.out]; rfl, by rw [Es2.out]; exact H1.out, hk.set (p := ⟨pb, 3, none⟩) rfl _⟩
        · have g : decide (50 < n) = false := by simpa using h50
          have H1 := Lib.hid (HA.out.setBad false)
          have Es2 : Hid (numS rs s = ⟨s'.pos, s'.deep, false⟩) := Lib.hid (by rw [Es.out, g, hSs.1, hSs.2])
          clear Es hSs
          go_wp2_with fail
          go_ret
          exact ⟨by rw [En.out]; rfl, by rw [Es2.out]; exact H1.out, hk.set (p := ⟨pb, 3, none⟩) rfl _⟩
    · have hi : i < 2 := by omega
      have hsp' : s'.pos + 1 ≤ 1000000 := by omega
      clear hsp
      by_cases hd : dig (pk rs s') = true
      · have hd' : 48 ≤ pk rs s' ∧ pk rs s' ≤ 57 := by simpa [dig] using hd
        have hb : s'.bad = false := (pk_room (show 0 ≤ pk rs s' by omega)).2
        have hn9' : n ≤ 9 := by
          rcases hc with ⟨_, e, _⟩ | ⟨_, _, _, e, _⟩ | ⟨e, _⟩
          · omega
          · exact e
          · omega
        have Hc := Lib.hid hc
        have Hd := Lib.hid hd
        have Hb := Lib.hid hb
        clear hc hd hb
        have Hpk : Hid (pk rs s' = pk rs s') := rfl
        generalize hr : pk rs s' = r at *
        have Hr := Lib.hid hr
        clear hr Hpk
        have g1 : decide (r < 48) = false := by simp; omega
        have g2 : decide ((57 : Int) < r) = false := by simp; omega
        obtain ⟨r1, r2⟩ := hd'
        go_wp2_with fail
        refine hPk.out.mono ?_
        rintro e w1 ⟨rfl, hk1⟩
        have h1 := HA.out.keepsF hk1
        have c1 := h1.c1
        have f1 := h1.fr 1
        have H3 := Lib.hid (h1.setPos (s'.pos + 1) hsp')
        have Hk3 := Lib.hid ((hk.trans (hk1.mono (T := OnlyP pb) (fun _ _ e => e.elim))).set (p := ⟨pb, 1, none⟩) rfl (.int .i64 ((s'.pos + 1 : Nat) : Int)))
        clear h1 hk1 hPk
        go_wp2_with fail
        go_roundw
        case rel =>
          refine ⟨i + 1, n * 10 + r - 48, _, by go_num, rfl, H3.out, Hk3.out, by omega, by omega, ?_⟩
          rcases Hc.out with ⟨rfl, rfl, rfl⟩ | ⟨rfl, d0, hn, _, rfl⟩ | ⟨e, _⟩
          · right; left
            have hr := Hr.out
            refine ⟨rfl, by rw [hr]; exact Hd.out, by rw [hr]; omega, by omega, rfl⟩
          · right; right
            have hr := Hr.out
            refine ⟨rfl, d0, by rw [hr]; exact Hd.out, ?_, rfl⟩
            unfold numN
            rw [if_pos d0, if_pos (by rw [hr]; exact Hd.out), hr, hn]
          · omega
        case measure => simp [intOf]; omega
      · have hd' : pk rs s' < 48 ∨ 57 < pk rs s' := by simp [dig] at hd; omega
        rcases hc with ⟨rfl, rfl, rfl⟩ | ⟨rfl, d0, hn, h9, hS⟩ | ⟨e, _⟩
        · have En : Hid (numN rs s' = 0) := Lib.hid (by unfold numN; rw [if_neg hd])
          have Es : Hid (numS rs s' = ⟨s'.pos, s'.deep, true⟩) := Lib.hid (by unfold numS; rw [if_neg hd])
          clear hd
          generalize pk rs s' = r at *
          obtain ⟨bad, hbad⟩ : ∃ b, s'.bad = b := ⟨_, rfl⟩
          have Hbad := Lib.hid hbad
          clear hbad
          by_cases hr48 : r < 48
          · have g1 : decide (r < 48) = true := by simpa using hr48
            clear hd'
            go_wp2_with fail
            refine hPk.out.mono ?_
            rintro e w1 ⟨rfl, hk1⟩
            have h1 := HA.out.keepsF hk1
            have c3 := h1.c3
            have f3 := h1.fr 3
            rw [Hbad.out] at c3
            have h2 := h1.setBad true
            have H3 := Lib.hid (h2.setBad true)
            have Hk3 := Lib.hid (((hk.trans (hk1.mono (T := OnlyP pb) (fun _ _ e => e.elim))).set (p := ⟨pb, 3, none⟩) rfl (.bool true)).set (p := ⟨pb, 3, none⟩) rfl (.bool true))
            have d3 := h2.c3
            have e3 := h2.fr 3
            simp only at d3
            clear h1 h2 hk1 hPk
            cases bad
            all_goals
              go_wp2_with fail
              go_ret
              exact ⟨by rw [En.out]; rfl, by rw [Es.out]; exact H3.out, Hk3.out⟩
          · have g1 : decide (r < 48) = false := by simpa using hr48
            have g2 : decide ((57 : Int) < r) = true := by simp; omega
            clear hd'
            go_wp2_with fail
            refine hPk.out.mono ?_
            rintro e w1 ⟨rfl, hk1⟩
            have h1 := HA.out.keepsF hk1
            have c3 := h1.c3
            have f3 := h1.fr 3
            rw [Hbad.out] at c3
            have h2 := h1.setBad true
            have H3 := Lib.hid (h2.setBad true)
            have Hk3 := Lib.hid (((hk.trans (hk1.mono (T := OnlyP pb) (fun _ _ e => e.elim))).set (p := ⟨pb, 3, none⟩) rfl (.bool true)).set (p := ⟨pb, 3, none⟩) rfl (.bool true))
            have d3 := h2.c3
            have e3 := h2.fr 3
            simp only at d3
            clear h1 h2 hk1 hPk
            cases bad
            all_goals
              go_wp2_with fail
              go_ret
              exact ⟨by rw [En.out]; rfl, by rw [Es.out]; exact H3.out, Hk3.out⟩
        · have hb : s.bad = false := (pk_room (show 0 ≤ pk rs s by simp [dig] at d0; omega)).2
          have hb' : s'.bad = false := by rw [hS]; exact hb
          have En : Hid (numN rs s = n) := Lib.hid (by unfold numN; rw [if_pos d0, if_neg (by rw [← hS]; exact hd), hn])
          have Es : Hid (numS rs s = ⟨s'.pos, s'.deep, false⟩) := Lib.hid (by unfold numS; rw [if_pos d0, if_neg (by rw [← hS]; exact hd), hS, hb])
          have Hb' := Lib.hid hb'
          have g50 : decide ((50 : Int) < n) = false := by simp; omega
          clear hd hS hb d0 hn hb'
          generalize pk rs s' = r at *
          by_cases hr48 : r < 48
          · have g1 : decide (r < 48) = true := by simpa using hr48
            clear hd'
            go_wp2_with fail
            refine hPk.out.mono ?_
            rintro e w1 ⟨rfl, hk1⟩
            have h1 := HA.out.keepsF hk1
            have c3 := h1.c3
            have f3 := h1.fr 3
            rw [Hb'.out] at c3
            have h2 := h1.setBad false
            have H3 := Lib.hid (h2.setBad false)
            have Hk3 := Lib.hid (((hk.trans (hk1.mono (T := OnlyP pb) (fun _ _ e => e.elim))).set (p := ⟨pb, 3, none⟩) rfl (.bool false)).set (p := ⟨pb, 3, none⟩) rfl (.bool false))
            have d3 := h2.c3
            have e3 := h2.fr 3
            simp only at d3
            clear h1 h2 hk1 hPk
            go_wp2_with fail
            go_ret
            exact ⟨by rw [En.out]; rfl, by rw [Es.out]; exact H3.out, Hk3.out⟩
          · have g1 : decide (r < 48) = false := by simpa using hr48
            have g2 : decide ((57 : Int) < r) = true := by simp; omega
            clear hd'
            go_wp2_with fail
            refine hPk.out.mono ?_
            rintro e w1 ⟨rfl, hk1⟩
            have h1 := HA.out.keepsF hk1
            have c3 := h1.c3
            have f3 := h1.fr 3
            rw [Hb'.out] at c3
            have h2 := h1.setBad false
            have H3 := Lib.hid (h2.setBad false)
            have Hk3 := Lib.hid (((hk.trans (hk1.mono (T := OnlyP pb) (fun _ _ e => e.elim))).set (p := ⟨pb, 3, none⟩) rfl (.bool false)).set (p := ⟨pb, 3, none⟩) rfl (.bool false))
            have d3 := h2.c3
            have e3 := h2.fr 3
            simp only at d3
            clear h1 h2 hk1 hPk
            go_wp2_with fail
            go_ret
            exact ⟨by rw [En.out]; rfl, by rw [Es.out]; exact H3.out, Hk3.out⟩
        · omega
end Go.Proofs.YtpcbfmbpbegjgaaGreat
end
section
namespace Go.Proofs.YtpcbfmbpbegjgaaGreat
open Go.RowKit
set_option linter.unusedVariables false
set_option linter.unusedSimpArgs false
set_option maxRecDepth 100000

theorem take_yes {w : World} {pb : Nat} {rv : Value} {rs : List Int} {s : PS} (r : Int) (h : PaAt w pb rv rs s) (hr : pk rs s = r) (hr0 : 0 ≤ r) :
    Calls Tryz.prog 69 #[.pointer (some ⟨pb, 0, none⟩), .int .i64 r] w fun e w' => e = .returned (.bool true) ∧ PaAt w' pb rv rs ⟨s.pos + 1, s.deep, s.bad⟩ ∧ Keeps (OnlyP pb) w w' := by
  have h1 := take_any w pb rv rs s r h (by have := (pk_room (show 0 ≤ pk rs s by omega)).1; have := h.len; omega)
  rw [show tkB rs r s = true by unfold tkB; simpa using hr, show tk rs r s = ⟨s.pos + 1, s.deep, s.bad⟩ from if_pos hr] at h1
  exact h1
theorem take_no {w : World} {pb : Nat} {rv : Value} {rs : List Int} {s : PS} (r : Int) (h : PaAt w pb rv rs s) (hr : ¬ pk rs s = r) (hp : s.pos + 1 ≤ 1000000) :
    Calls Tryz.prog 69 #[.pointer (some ⟨pb, 0, none⟩), .int .i64 r] w fun e w' => e = .returned (.bool false) ∧ PaAt w' pb rv rs s ∧ Keeps (OnlyP pb) w w' := by
  have h1 := take_any w pb rv rs s r h hp
  rw [show tkB rs r s = false by unfold tkB; simpa using hr, show tk rs r s = s from if_neg hr] at h1
  exact h1

/-- Behind an opened brace. -/
def brA (rs : List Int) (s : PS) : Int := numN rs s
def br3 (rs : List Int) (s : PS) : PS := ⟨(numS rs s).pos + 1, (numS rs s).deep, (numS rs s).bad⟩
def brB (rs : List Int) (s : PS) : Int := if pk rs (numS rs s) = 44 then (if pk rs (br3 rs s) = 125 then -1 else numN rs (br3 rs s)) else numN rs s
def brS (rs : List Int) (s : PS) : PS :=
  if pk rs (numS rs s) = 44 then
    (if pk rs (br3 rs s) = 125 then wt rs 125 (br3 rs s)
     else wt rs 125 ⟨(numS rs (br3 rs s)).pos, (numS rs (br3 rs s)).deep, (numS rs (br3 rs s)).bad || decide (numN rs (br3 rs s) < numN rs s)⟩)
  else wt rs 125 (numS rs s)
/-- A count: least, most, is there one; and the state behind it. -/
def cntV (rs : List Int) (s : PS) : Int × Int × Bool :=
  if pk rs s = 63 then (0, 1, true) else if pk rs s = 43 then (1, -1, true) else if pk rs s = 42 then (0, -1, true)
  else if pk rs s = 123 then (brA rs ⟨s.pos + 1, s.deep, s.bad⟩, brB rs ⟨s.pos + 1, s.deep, s.bad⟩, true) else (0, 0, false)
def cntS (rs : List Int) (s : PS) : PS :=
  if pk rs s = 63 ∨ pk rs s = 43 ∨ pk rs s = 42 then ⟨s.pos + 1, s.deep, s.bad⟩ else if pk rs s = 123 then brS rs ⟨s.pos + 1, s.deep, s.bad⟩ else s

theorem numS_pos (rs : List Int) (s : PS) : s.pos ≤ (numS rs s).pos ∧ (numS rs s).pos ≤ s.pos + 2 := by
  unfold numS
  split
  · split
    · exact ⟨by show s.pos ≤ s.pos + 2; omega, Nat.le_refl _⟩
    · exact ⟨by show s.pos ≤ s.pos + 1; omega, by show s.pos + 1 ≤ s.pos + 2; omega⟩
  · exact ⟨Nat.le_refl _, by show s.pos ≤ s.pos + 2; omega⟩

theorem numN_le (rs : List Int) (s : PS) (h : ∀ r ∈ rs, 0 ≤ r ∧ r ≤ 1114111) : numN rs s ≤ 1000000000 ∧ -1000000000 ≤ numN rs s := by
  unfold numN
  split
  · rename_i h1
    split
    · rename_i h2
      simp [dig] at h1 h2
      omega
    · simp [dig] at h1
      omega
  · omega
set_option maxHeartbeats 4000000 in
theorem pcount_any (w : World) (pb : Nat) (rv : Value) (rs : List Int) (s : PS) (h : PaAt w pb rv rs s) (hp : s.pos + 10 ≤ 1000000) :
    Calls Tryz.prog 101 #[.pointer (some ⟨pb, 0, none⟩)] w fun e w' => e = .returned (.tuple #[.int .i64 (cntV rs s).1, .int .i64 (cntV rs s).2.1, .bool (cntV rs s).2.2]) ∧ PaAt w' pb rv rs (cntS rs s) ∧ Keeps (OnlyP pb) w w' := by
  have H0 := Lib.hid h
  clear h
  by_cases h63 : pk rs s = 63
  · have Ev : Hid (cntV rs s = (0, 1, true)) := Lib.hid (if_pos h63)
    have Es : Hid (cntS rs s = ⟨s.pos + 1, s.deep, s.bad⟩) := Lib.hid (if_pos (Or.inl h63))
    have Hr := Lib.hid h63
    clear h63
    go_enter Tryz.func101, Tryz.ntmps101
    go_wp2_with fail
    refine (take_yes 63 H0.out Hr.out (by omega)).mono ?_
    rintro e w1 ⟨rfl, h1, k1⟩
    have H1 := Lib.hid h1
    clear h1
    go_wp2_with fail
    go_ret3
    exact ⟨by rw [Ev.out]; rfl, by rw [Es.out]; exact H1.out, k1⟩
  by_cases h43 : pk rs s = 43
  · have Ev : Hid (cntV rs s = (1, -1, true)) := Lib.hid (by unfold cntV; rw [if_neg h63, if_pos h43])
    have Es : Hid (cntS rs s = ⟨s.pos + 1, s.deep, s.bad⟩) := Lib.hid (if_pos (Or.inr (Or.inl h43)))
    have Hr := Lib.hid h43
    have Hn := Lib.hid h63
    clear h43 h63
    go_enter Tryz.func101, Tryz.ntmps101
    go_wp2_with fail
    refine (take_no 63 H0.out Hn.out (by omega)).mono ?_
    rintro e w1 ⟨rfl, h1, k1⟩
    have H1 := Lib.hid h1
    clear h1
    go_wp2_with fail
    refine (take_yes 43 H1.out Hr.out (by omega)).mono ?_
    rintro e w2 ⟨rfl, h2, k2⟩
    have H2 := Lib.hid h2
    clear h2
    go_wp2_with fail
    go_ret3
    exact ⟨by rw [Ev.out]; rfl, by rw [Es.out]; exact H2.out, k1.trans k2⟩
  by_cases h42 : pk rs s = 42
  · have Ev : Hid (cntV rs s = (0, -1, true)) := Lib.hid (by unfold cntV; rw [if_neg h63, if_neg h43, if_pos h42])
    have Es : Hid (cntS rs s = ⟨s.pos + 1, s.deep, s.bad⟩) := Lib.hid (if_pos (Or.inr (Or.inr h42)))
    have Hr := Lib.hid h42
    have Hn := Lib.hid h63
    have Hm := Lib.hid h43
    clear h43 h63 h42
    go_enter Tryz.func101, Tryz.ntmps101
    go_wp2_with fail
    refine (take_no 63 H0.out Hn.out (by omega)).mono ?_
    rintro e w1 ⟨rfl, h1, k1⟩
    have H1 := Lib.hid h1
    clear h1
    go_wp2_with fail
    refine (take_no 43 H1.out Hm.out (by omega)).mono ?_
    rintro e w2 ⟨rfl, h2, k2⟩
    have H2 := Lib.hid h2
    clear h2
    go_wp2_with fail
    refine (take_yes 42 H2.out Hr.out (by omega)).mono ?_
    rintro e w3 ⟨rfl, h3, k3⟩
    have H3 := Lib.hid h3
    clear h3
    go_wp2_with fail
    go_ret3
    exact ⟨by rw [Ev.out]; rfl, by rw [Es.out]; exact H3.out, (k1.trans k2).trans k3⟩
  have Ha := Lib.hid h63
  have Hb := Lib.hid h43
  have Hc := Lib.hid h42
  by_cases h123 : pk rs s = 123
  · have Ev : Hid (cntV rs s = (brA rs ⟨s.pos + 1, s.deep, s.bad⟩, brB rs ⟨s.pos + 1, s.deep, s.bad⟩, true)) := Lib.hid (by unfold cntV; rw [if_neg h63, if_neg h43, if_neg h42, if_pos h123])
    have Es : Hid (cntS rs s = brS rs ⟨s.pos + 1, s.deep, s.bad⟩) := Lib.hid (by unfold cntS; rw [if_neg (by rintro (e | e | e); exact h63 e; exact h43 e; exact h42 e), if_pos h123])
    have Hd := Lib.hid h123
    clear h63 h43 h42 h123
    obtain ⟨q, hq⟩ : ∃ q : PS, (⟨s.pos + 1, s.deep, s.bad⟩ : PS) = q := ⟨_, rfl⟩
    have hqp : q.pos + 9 ≤ 1000000 := by rw [← hq]; show s.pos + 1 + 9 ≤ 1000000; omega
    have hP := numS_pos rs q
    have Hq := Lib.hid hq
    rw [hq] at Ev Es
    clear hq
    have hnq : numN rs q ≤ 1000000000 ∧ -1000000000 ≤ numN rs q := numN_le rs q H0.out.rng
    by_cases h44 : pk rs (numS rs q) = 44
    · have H44 := Lib.hid h44
      have hP3 := numS_pos rs (br3 rs q)
      have e3 : (br3 rs q).pos ≤ (numS rs q).pos + 1 := Nat.le_refl _
      have hn3 : numN rs (br3 rs q) ≤ 1000000000 ∧ -1000000000 ≤ numN rs (br3 rs q) := numN_le rs _ H0.out.rng
      by_cases h125 : pk rs (br3 rs q) = 125
      · have Eb : Hid (brB rs q = -1) := Lib.hid (by unfold brB; rw [if_pos h44, if_pos h125])
        have Et : Hid (brS rs q = wt rs 125 (br3 rs q)) := Lib.hid (by unfold brS; rw [if_pos h44, if_pos h125])
        have H125 := Lib.hid h125
        clear h44 h125
        go_enter Tryz.func101, Tryz.ntmps101
        go_wp2_with fail
        refine (take_no 63 H0.out Ha.out (by omega)).mono ?_
        rintro e w1 ⟨rfl, h1, k1⟩
        have H1 := Lib.hid h1
        clear h1
        go_wp2_with fail
        refine (take_no 43 H1.out Hb.out (by omega)).mono ?_
        rintro e w2 ⟨rfl, h2, k2⟩
        have H2 := Lib.hid h2
        clear h2
        go_wp2_with fail
        refine (take_no 42 H2.out Hc.out (by omega)).mono ?_
        rintro e w3 ⟨rfl, h3, k3⟩
        have H3 := Lib.hid h3
        clear h3
        go_wp2_with fail
        refine (take_yes 123 H3.out Hd.out (by omega)).mono ?_
        rintro e w4 ⟨rfl, h4, k4⟩
        rw [Hq.out] at h4
        have H4 := Lib.hid h4
        have K4 := Lib.hid (((k1.trans k2).trans k3).trans k4)
        clear h4 k1 k2 k3 k4
        go_wp2_with fail
        refine (number_any _ _ _ _ q H4.out (by omega)).mono ?_
        rintro e w5 ⟨rfl, h5, k5⟩
        have H5 := Lib.hid h5
        clear h5
        go_wp2_with fail
        refine (take_yes 44 H5.out H44.out (by omega)).mono ?_
        rintro e w6 ⟨rfl, h6, k6⟩
        have H6 : Hid (PaAt w6 pb rv rs (br3 rs q)) := Lib.hid h6
        clear h6
        go_wp2_with fail
        refine (peek_any _ _ _ _ _ H6.out).mono ?_
        rintro e w7 ⟨rfl, k7⟩
        have H7 := Lib.hid (H6.out.keepsF k7)
        have K7 := Lib.hid (((K4.out.trans k5).trans k6).trans (k7.mono (T := OnlyP pb) (fun _ _ e => e.elim)))
        clear k5 k6 k7
        rw [H125.out]
        go_wp2_with fail
        refine (want_any _ _ _ _ _ 125 H7.out (by omega)).mono ?_
        rintro e w8 ⟨rfl, h8, k8⟩
        have H8 := Lib.hid h8
        clear h8
        go_wp2_with fail
        go_ret3
        exact ⟨by rw [Ev.out, Eb.out]; rfl, by rw [Es.out, Et.out]; exact H8.out, K7.out.trans k8⟩
      · have Eb : Hid (brB rs q = numN rs (br3 rs q)) := Lib.hid (by unfold brB; rw [if_pos h44, if_neg h125])
        have Et : Hid (brS rs q = wt rs 125 ⟨(numS rs (br3 rs q)).pos, (numS rs (br3 rs q)).deep, (numS rs (br3 rs q)).bad || decide (numN rs (br3 rs q) < numN rs q)⟩) := Lib.hid (by unfold brS; rw [if_pos h44, if_neg h125])
        have g125 : (pk rs (br3 rs q) != 125) = true := by simp only [bne_iff_ne, ne_eq]; exact h125
        clear h44 h125
        obtain ⟨bd, hbd⟩ : ∃ b, (numS rs (br3 rs q)).bad = b := ⟨_, rfl⟩
        have Hbd := Lib.hid hbd
        clear hbd
        generalize hlt : decide (numN rs (br3 rs q) < numN rs q) = lt at Et
        have Hlt := Lib.hid hlt
        clear hlt
        go_enter Tryz.func101, Tryz.ntmps101
        go_wp2_with fail
        refine (take_no 63 H0.out Ha.out (by omega)).mono ?_
        rintro e w1 ⟨rfl, h1, k1⟩
        have H1 := Lib.hid h1
        clear h1
        go_wp2_with fail
        refine (take_no 43 H1.out Hb.out (by omega)).mono ?_
        rintro e w2 ⟨rfl, h2, k2⟩
        have H2 := Lib.hid h2
        clear h2
        go_wp2_with fail
        refine (take_no 42 H2.out Hc.out (by omega)).mono ?_
        rintro e w3 ⟨rfl, h3, k3⟩
        have H3 := Lib.hid h3
        clear h3
        go_wp2_with fail
        refine (take_yes 123 H3.out Hd.out (by omega)).mono ?_
        rintro e w4 ⟨rfl, h4, k4⟩
        rw [Hq.out] at h4
        have H4 := Lib.hid h4
        have K4 := Lib.hid (((k1.trans k2).trans k3).trans k4)
        clear h4 k1 k2 k3 k4
        go_wp2_with fail
        refine (number_any _ _ _ _ q H4.out (by omega)).mono ?_
        rintro e w5 ⟨rfl, h5, k5⟩
        have H5 := Lib.hid h5
        clear h5
        go_wp2_with fail
        refine (take_yes 44 H5.out H44.out (by omega)).mono ?_
        rintro e w6 ⟨rfl, h6, k6⟩
        have H6 : Hid (PaAt w6 pb rv rs (br3 rs q)) := Lib.hid h6
        clear h6
        go_wp2_with fail
        refine (peek_any _ _ _ _ _ H6.out).mono ?_
        rintro e w7 ⟨rfl, k7⟩
        have H7 := Lib.hid (H6.out.keepsF k7)
        have K7 := Lib.hid (((K4.out.trans k5).trans k6).trans (k7.mono (T := OnlyP pb) (fun _ _ e => e.elim)))
        clear k5 k6 k7
        go_wp2_with fail
        refine (number_any _ _ _ _ (br3 rs q) H7.out (by omega)).mono ?_
        rintro e w8 ⟨rfl, h8, k8⟩
        have c3 := h8.c3
        have f3 := h8.fr 3
        rw [Hbd.out] at c3
        have H8 := Lib.hid (h8.setBad (bd || lt))
        have K8 := Lib.hid ((K7.out.trans k8).set (p := ⟨pb, 3, none⟩) rfl (.bool (bd || lt)))
        clear h8 k8
        generalize hna : numN rs q = na at *
        have Hna := Lib.hid hna
        clear hna
        generalize hnb : numN rs (br3 rs q) = nb at *
        have Hnb := Lib.hid hnb
        clear hnb
        have hlt := Hlt.out
        cases bd
        · cases lt
          · have hg : ¬ nb < na := by simpa using hlt
            clear Hlt
            go_wp2_with fail
            refine (want_any _ _ _ _ _ 125 H8.out (by show (numS rs (br3 rs q)).pos + 1 ≤ 1000000; omega)).mono ?_
            rintro e w9 ⟨rfl, h9, k9⟩
            have H9 := Lib.hid h9
            clear h9
            go_wp2_with fail
            go_ret3
            exact ⟨by rw [Ev.out, Eb.out]; unfold brA; rw [Hna.out]; rfl, by rw [Es.out, Et.out, Hbd.out]; exact H9.out, K8.out.trans k9⟩
          · have hg : nb < na := by simpa using hlt
            clear Hlt
            go_wp2_with fail
            refine (want_any _ _ _ _ _ 125 H8.out (by show (numS rs (br3 rs q)).pos + 1 ≤ 1000000; omega)).mono ?_
            rintro e w9 ⟨rfl, h9, k9⟩
            have H9 := Lib.hid h9
            clear h9
            go_wp2_with fail
            go_ret3
            exact ⟨by rw [Ev.out, Eb.out]; unfold brA; rw [Hna.out]; rfl, by rw [Es.out, Et.out, Hbd.out]; exact H9.out, K8.out.trans k9⟩
        · clear hlt Hlt
          go_wp2_with fail
          refine (want_any _ _ _ _ _ 125 H8.out (by show (numS rs (br3 rs q)).pos + 1 ≤ 1000000; omega)).mono ?_
          rintro e w9 ⟨rfl, h9, k9⟩
          have H9 := Lib.hid h9
          clear h9
          go_wp2_with fail
          go_ret3
          exact ⟨by rw [Ev.out, Eb.out]; unfold brA; rw [Hna.out]; rfl, by rw [Es.out, Et.out, Hbd.out]; exact H9.out, K8.out.trans k9⟩
    · have H44 := Lib.hid h44
      have Eb : Hid (brB rs q = numN rs q) := Lib.hid (by unfold brB; rw [if_neg h44])
      have Et : Hid (brS rs q = wt rs 125 (numS rs q)) := Lib.hid (by unfold brS; rw [if_neg h44])
      clear h44
      go_enter Tryz.func101, Tryz.ntmps101
      go_wp2_with fail
      refine (take_no 63 H0.out Ha.out (by omega)).mono ?_
      rintro e w1 ⟨rfl, h1, k1⟩
      have H1 := Lib.hid h1
      clear h1
      go_wp2_with fail
      refine (take_no 43 H1.out Hb.out (by omega)).mono ?_
      rintro e w2 ⟨rfl, h2, k2⟩
      have H2 := Lib.hid h2
      clear h2
      go_wp2_with fail
      refine (take_no 42 H2.out Hc.out (by omega)).mono ?_
      rintro e w3 ⟨rfl, h3, k3⟩
      have H3 := Lib.hid h3
      clear h3
      go_wp2_with fail
      refine (take_yes 123 H3.out Hd.out (by omega)).mono ?_
      rintro e w4 ⟨rfl, h4, k4⟩
      rw [Hq.out] at h4
      have H4 := Lib.hid h4
      have K4 := Lib.hid (((k1.trans k2).trans k3).trans k4)
      clear h4 k1 k2 k3 k4
      go_wp2_with fail
      refine (number_any _ _ _ _ q H4.out (by omega)).mono ?_
      rintro e w5 ⟨rfl, h5, k5⟩
      have H5 := Lib.hid h5
      clear h5
      go_wp2_with fail
      refine (take_no 44 H5.out H44.out (by omega)).mono ?_
      rintro e w6 ⟨rfl, h6, k6⟩
      have H6 := Lib.hid h6
      clear h6
      go_wp2_with fail
      refine (want_any _ _ _ _ _ 125 H6.out (by omega)).mono ?_
      rintro e w8 ⟨rfl, h8, k8⟩
      have H8 := Lib.hid h8
      clear h8
      go_wp2_with fail
      go_ret3
      exact ⟨by rw [Ev.out, Eb.out]; rfl, by rw [Es.out, Et.out]; exact H8.out, ((K4.out.trans k5).trans k6).trans k8⟩
  · have Ev : Hid (cntV rs s = (0, 0, false)) := Lib.hid (by unfold cntV; rw [if_neg h63, if_neg h43, if_neg h42, if_neg h123])
    have Es : Hid (cntS rs s = s) := Lib.hid (by unfold cntS; rw [if_neg (by rintro (e | e | e); exact h63 e; exact h43 e; exact h42 e), if_neg h123])
    have Hd := Lib.hid h123
    clear h63 h43 h42 h123
    go_enter Tryz.func101, Tryz.ntmps101
    go_wp2_with fail
    refine (take_no 63 H0.out Ha.out (by omega)).mono ?_
    rintro e w1 ⟨rfl, h1, k1⟩
    have H1 := Lib.hid h1
    clear h1
    go_wp2_with fail
    refine (take_no 43 H1.out Hb.out (by omega)).mono ?_
    rintro e w2 ⟨rfl, h2, k2⟩
    have H2 := Lib.hid h2
    clear h2
    go_wp2_with fail
    refine (take_no 42 H2.out Hc.out (by omega)).mono ?_
    rintro e w3 ⟨rfl, h3, k3⟩
    have H3 := Lib.hid h3
    clear h3
    go_wp2_with fail
    refine (take_no 123 H3.out Hd.out (by omega)).mono ?_
    rintro e w4 ⟨rfl, h4, k4⟩
    have H4 := Lib.hid h4
    clear h4
    go_wp2_with fail
    go_ret3
    exact ⟨by rw [Ev.out]; rfl, by rw [Es.out]; exact H4.out, ((k1.trans k2).trans k3).trans k4⟩
end Go.Proofs.YtpcbfmbpbegjgaaGreat
end
section
namespace Go.Proofs.YtpcbfmbpbegjgaaGreat
open Go.RowKit Go.Shelf Go.Lib Go.Sort
set_option linter.unusedVariables false
set_option linter.unusedSimpArgs false
set_option maxRecDepth 100000

def encRl (x : Int × Int) : List Value := [.int .i64 x.1, .int .i64 x.2]

theorem isNaN_any (x : Int) (w : World) : Calls Tryz.prog 104 #[.int .i64 x] w fun e w' => e = .returned (.bool false) ∧ w = w' := by
  have h : (x != x) = false := by simp
  go_enter Tryz.func104, Tryz.ntmps104
  go_wp2
  go_ret
  exact ⟨rfl, rfl⟩

def cmpI (x y : Int) : Int := if x < y then -1 else if y < x then 1 else 0
theorem compare_any (x y : Int) (w : World) : Calls Tryz.prog 92 #[.int .i64 x, .int .i64 y] w fun e w' => e = .returned (.int .i64 (cmpI x y)) ∧ w = w' := by
  by_cases h1 : x < y
  · have HV := Lib.hid (show cmpI x y = -1 from if_pos h1)
    go_enter Tryz.func92, Tryz.ntmps92
    go_wp2_with (go_at_call 104; refine (isNaN_any _ _).mono ?_; rintro e w' ⟨rfl, rfl⟩)
    go_ret
    exact ⟨by rw [HV.out]; rfl, rfl⟩
  · by_cases h2 : y < x
    · have HV := Lib.hid (show cmpI x y = 1 by unfold cmpI; rw [if_neg h1, if_pos h2])
      go_enter Tryz.func92, Tryz.ntmps92
      go_wp2_with (go_at_call 104; refine (isNaN_any _ _).mono ?_; rintro e w' ⟨rfl, rfl⟩)
      go_ret
      exact ⟨by rw [HV.out]; rfl, rfl⟩
    · have HV := Lib.hid (show cmpI x y = 0 by unfold cmpI; rw [if_neg h1, if_neg h2])
      go_enter Tryz.func92, Tryz.ntmps92
      go_wp2_with (go_at_call 104; refine (isNaN_any _ _).mono ?_; rintro e w' ⟨rfl, rfl⟩)
      go_ret
      exact ⟨by rw [HV.out]; rfl, rfl⟩

def cmpLo (x y : Int × Int) : Int := cmpI x.1 y.1

theorem closureLo (x y : Int × Int) (W : World) : Calls Tryz.prog 91 #[.agg #[.int .i64 x.1, .int .i64 x.2], .agg #[.int .i64 y.1, .int .i64 y.2]] W fun e w' => e = .returned (.int .i64 (cmpLo x y)) ∧ ∃ q os', w' = grow (W.drewN q) os' := by
  go_enter Tryz.func91, Tryz.ntmps91
  go_wp2_with fail
  refine (compare_any _ _ _).mono ?_
  rintro e w' ⟨rfl, rfl⟩
  go_wp2_with fail
  go_ret
  exact ⟨rfl, 0, _, by rw [alloc_eq_grow, alloc_eq_grow, grow_grow]; rfl⟩

theorem swoLo : SWO (ltOf cmpLo) := by
  have key : ∀ x y : Int × Int, ltOf cmpLo x y = decide (x.1 < y.1) := by
    intro x y
    unfold ltOf cmpLo cmpI
    by_cases h1 : x.1 < y.1
    · simp [h1]
    · by_cases h2 : y.1 < x.1 <;> simp [h1, h2]
  exact ⟨fun x => by rw [key]; simp, fun x y z h1 h2 => by rw [key] at *; simp at *; omega, fun x y z h1 h2 => by rw [key] at *; simp at *; omega⟩
theorem ltLo (x y : Int × Int) : ltOf cmpLo x y = decide (x.1 < y.1) := by
  unfold ltOf cmpLo cmpI
  by_cases h1 : x.1 < y.1
  · simp [h1]
  · by_cases h2 : y.1 < x.1 <;> simp [h1, h2]

theorem keeps_sortWorld {α : Type} [Inhabited α] (enc : α → List Value) (k : Nat) (w : World) (blk off n : Nat) (d : Array α) (os : Array Obj) : Keeps (fun b => b = blk) w (sortWorldK enc k w blk off n d os) := by
  unfold sortWorldK grow putRowK putRow mapBlock
  refine ⟨rfl, rfl, rfl, ?_, fun j hj hs => ?_⟩
  · show w.heap.size ≤ ((w.heap.modify blk _) ++ os).size
    simp
  · show ((w.heap.modify blk _) ++ os)[j]? = _
    rw [Array.getElem?_append_left (by simpa using hj), Array.getElem?_modify, if_neg (fun e => hs e.symm)]

theorem sort_any (l : List (Int × Int)) (v : Value) (base : Nat) (w : World) (h : w.ownsRow base 87 2 v l.length (cellsOf 2 encR l)) (hl : l.length < 1000000) :
    Calls Tryz.prog 90 #[v, .func (.func 91) #[] #[]] w fun e w' => e = .returned (.tuple #[]) ∧
      ∃ l', l'.Perm l ∧ l'.Pairwise (fun a b => a.1 ≤ b.1) ∧ SlOf 2 encR w' v l' ∧ Keeps (fun b => v.ownBlock = some b) w w' := by
  rcases h.2 with ⟨rfl, h0⟩ | ⟨g, cap, cur, rfl, hg, hh, hn, hcap, _⟩
  · have hl0 : l = [] := List.length_eq_zero_iff.1 h0
    subst hl0
    have hc := AnyF.slices_SortFunc_none Tryz.sortR none 0 (.func (.func 91) #[] #[]) w
    change Calls Tryz.prog 90 _ _ _ at hc
    refine hc.mono ?_
    rintro e w' ⟨rfl, rfl⟩
    exact ⟨rfl, [], List.Perm.refl _, List.Pairwise.nil, SlOf.nil _ _ _, Keeps.refl _ _⟩
  · have eg : ∀ args w, (callFunc 91 args).run Tryz.prog w = .ok (.enter 91 args) w := enters_of Tryz.func91 (by kernel_rfl) rfl
    have hcell := h.cellAt
    have hfz := h.frozenAt
    have hH : HoldsK encRl 2 w g 0 l.toArray := by
      intro j hj
      rw [size_flatK] at hj
      have hj' : j < l.length * 2 := by simpa using hj
      refine ⟨?_, hfz _⟩
      rw [get_flatK _ _ _ _ hj, Nat.zero_add, hcell j hj']
      obtain ⟨x, hx⟩ : ∃ x, l[j / 2]? = some x := ⟨_, List.getElem?_eq_getElem (by omega)⟩
      have h1 := cellsOf_get 2 encR l (j / 2) x hx (j % 2) (by omega)
      rw [show j / 2 * 2 + j % 2 = j by omega] at h1
      rw [h1]
      have h2 : l.toArray[j / 2]! = x := by
        rw [getElem!_def]; simp [hx]
      rw [h2]
      have : j % 2 = 0 ∨ j % 2 = 1 := by omega
      rcases this with e | e <;> simp [e, encR, encRl]
    have hc := AnyQ.slices_SortFunc Tryz.sortR 2 Tryz.isAgg87 Tryz.sizeOf87 encRl (fun _ => rfl) (fun x v hv => by simp [encRl] at hv; rcases hv with rfl | rfl <;> rfl) cmpLo swoLo 91 #[] g 0 cap l.toArray w eg (fun _ _ _ _ x y => closureLo x y _) hH (Array.getElem?_eq_some_iff.1 hh).1 (by simp; omega)
    change Calls Tryz.prog 90 _ _ _ at hc
    simp only [List.size_toArray] at hc
    refine hc.mono ?_
    rintro e w' ⟨rfl, d', n, os, hp, hs, rfl⟩
    have hsz : d'.size = l.length := by simpa using hp.1
    have hHs : HoldsK encRl 2 (sortWorldK encRl 2 w g 0 n d' os) g 0 d' := holdsK_sortWorldK encRl 2 w g 0 n l.toArray d' os (Array.getElem?_eq_some_iff.1 hh).1 hH (by simpa using hp.1)
    refine ⟨rfl, d'.toList, ?_, ?_, ⟨some ⟨g, 0, none⟩, cap, by simp [hsz], by simp; omega, by simp; omega, fun _ => ⟨g, 0, rfl, fun i x hx j hj => ?_⟩⟩, (keeps_sortWorld encRl 2 w g 0 n d' os).mono (fun b _ hb => by subst hb; rfl)⟩
    · have h3 := hp.2.2
      rw [show d'.extract 0 l.length = d' by rw [← hsz]; simp] at h3
      rw [show l.toArray.extract 0 l.length = l.toArray by rw [show l.length = l.toArray.size by simp]; simp] at h3
      simpa using h3
    · rw [List.pairwise_iff_getElem]
      intro i j hi hj hij
      have h4 := hs i j (Nat.zero_le _) hij (by simpa [hsz] using hj)
      rw [ltLo] at h4
      rw [getElem!_pos d' i (by simpa using hi), getElem!_pos d' j (by simpa using hj)] at h4
      simp at h4
      simpa using h4
    · have hi : i < d'.size := by
        rcases Nat.lt_or_ge i d'.size with h5 | h5
        · exact h5
        · rw [List.getElem?_eq_none (by simpa using h5)] at hx; cases hx
      have h6 := (hHs.cell hi hj).1
      rw [h6]
      have h7 : d'[i]! = x := by
        rw [getElem!_pos d' i hi]
        rw [Array.getElem?_toList, Array.getElem?_eq_getElem hi] at hx
        exact Option.some.inj hx
      rw [h7]
      have : j = 0 ∨ j = 1 := by omega
      rcases this with rfl | rfl <;> rfl
end Go.Proofs.YtpcbfmbpbegjgaaGreat
end
section
namespace Go.Proofs.YtpcbfmbpbegjgaaGreat
set_option linter.unusedVariables false
set_option linter.unusedSimpArgs false

def clampOne (p : Int × Int) : Int × Int := (max p.1 0, min p.2 1114111)
def clampL (l : List (Int × Int)) : List (Int × Int) := (l.map clampOne).filter fun p => decide (p.1 ≤ p.2)
theorem clampL_snoc (l : List (Int × Int)) (p : Int × Int) : clampL (l ++ [p]) = clampL l ++ (if (clampOne p).1 ≤ (clampOne p).2 then [clampOne p] else []) := by
  unfold clampL
  rw [List.map_append, List.filter_append]
  congr 1
  by_cases h : (clampOne p).1 ≤ (clampOne p).2 <;> simp [h]
theorem clampL_length (l : List (Int × Int)) : (clampL l).length ≤ l.length := by
  unfold clampL; have := List.length_filter_le (fun p => decide (p.1 ≤ p.2)) (l.map clampOne); simpa using this
theorem clampL_good (l : List (Int × Int)) : ∀ p ∈ clampL l, 0 ≤ p.1 ∧ p.1 ≤ p.2 ∧ p.2 ≤ 1114111 := by
  intro p hp
  have h := List.mem_filter.1 hp
  obtain ⟨q, hq, rfl⟩ := List.mem_map.1 h.1
  have := of_decide_eq_true h.2
  refine ⟨?_, this, ?_⟩ <;> unfold clampOne <;> simp only <;> omega
theorem clampL_mem (l : List (Int × Int)) (r : Int) : mem (clampL l) r = has l r := by
  rw [Bool.eq_iff_iff]
  unfold has
  rw [mem_iff, Bool.and_eq_true, mem_iff]
  constructor
  · rintro ⟨p, hp, h1, h2⟩
    have h := List.mem_filter.1 hp
    obtain ⟨q, hq, rfl⟩ := List.mem_map.1 h.1
    unfold clampOne at h1 h2
    simp only at h1 h2
    exact ⟨⟨q, hq, by omega, by omega⟩, by simp [inAll]; omega⟩
  · rintro ⟨⟨q, hq, h1, h2⟩, h3⟩
    simp [inAll] at h3
    refine ⟨clampOne q, List.mem_filter.2 ⟨List.mem_map.2 ⟨q, hq, rfl⟩, ?_⟩, ?_, ?_⟩ <;> unfold clampOne <;> simp only
    · rw [decide_eq_true_eq]; omega
    · omega
    · omega

def mstep (out : List (Int × Int)) (x : Int × Int) : List (Int × Int) :=
  match out.getLast? with
  | none => out ++ [x]
  | some q => if x.1 ≤ q.2 + 1 then out.dropLast ++ [(q.1, max q.2 x.2)] else out ++ [x]
theorem mstep_nil (x : Int × Int) : mstep [] x = [x] := rfl
theorem mstep_join (l : List (Int × Int)) (q x : Int × Int) (h : x.1 ≤ q.2 + 1) : mstep (l ++ [q]) x = l ++ [(q.1, max q.2 x.2)] := by simp [mstep, h]
theorem mstep_more (l : List (Int × Int)) (q x : Int × Int) (h : ¬ x.1 ≤ q.2 + 1) : mstep (l ++ [q]) x = l ++ [q] ++ [x] := by simp [mstep, h]
theorem mstep_length (l : List (Int × Int)) (x : Int × Int) : (mstep l x).length ≤ l.length + 1 := by
  rcases List.eq_nil_or_concat l with rfl | ⟨m, q, rfl⟩
  · simp [mstep_nil]
  · rw [List.concat_eq_append]
    by_cases h : x.1 ≤ q.2 + 1
    · rw [mstep_join m q x h]; simp
    · rw [mstep_more m q x h]; simp
def mergeL (l : List (Int × Int)) : List (Int × Int) := l.foldl mstep []
theorem mergeL_snoc (l : List (Int × Int)) (x : Int × Int) : mergeL (l ++ [x]) = mstep (mergeL l) x := by simp [mergeL]
theorem mergeL_length (l : List (Int × Int)) : (mergeL l).length ≤ l.length := by
  have key : ∀ (m out : List (Int × Int)), (m.foldl mstep out).length ≤ out.length + m.length := by
    intro m
    induction m with
    | nil => intro out; simp
    | cons x m ih => intro out; have h1 := ih (mstep out x); have h2 := mstep_length out x; simp only [List.foldl_cons, List.length_cons]; omega
  simpa [mergeL] using key l []

theorem mstep_ok (out : List (Int × Int)) (x : Int × Int) (h : Norm out) (hx : 0 ≤ x.1 ∧ x.1 ≤ x.2 ∧ x.2 ≤ 1114111) (hle : ∀ p ∈ out, p.1 ≤ x.1) :
    Norm (mstep out x) ∧ (∀ r, mem (mstep out x) r = (mem out r || (decide (x.1 ≤ r) && decide (r ≤ x.2)))) ∧ ∀ p ∈ mstep out x, p.1 ≤ x.1 := by
  rcases List.eq_nil_or_concat out with rfl | ⟨m, q, rfl⟩
  · rw [mstep_nil]
    exact ⟨⟨hx.1, hx.2.1, hx.2.2, by simp, trivial⟩, fun r => by rw [mem_one, mem_nil, Bool.false_or], by simp⟩
  · rw [List.concat_eq_append] at h hle ⊢
    obtain ⟨hm, q0, q1, q2, q3⟩ := norm_last m q h
    have hq := hle q (by simp)
    by_cases hj : x.1 ≤ q.2 + 1
    · rw [mstep_join m q x hj]
      refine ⟨norm_append m _ hm q0 (by simp only; omega) (by simp only; omega) q3, fun r => ?_, ?_⟩
      · rw [mem_append, mem_append, mem_one, mem_one, Bool.or_assoc]
        congr 1
        rw [Bool.eq_iff_iff]; simp only [Bool.and_eq_true, Bool.or_eq_true, decide_eq_true_eq]; omega
      · intro p hp
        rcases List.mem_append.1 hp with hp | hp
        · exact hle p (List.mem_append_left _ hp)
        · simp at hp; subst hp; exact hq
    · rw [mstep_more m q x hj]
      refine ⟨norm_append (m ++ [q]) x h hx.1 hx.2.1 hx.2.2 ?_, fun r => by rw [mem_append (m ++ [q]), mem_one], ?_⟩
      · intro p hp
        rcases List.mem_append.1 hp with hp | hp
        · have := q3 p hp; omega
        · simp at hp; subst hp; omega
      · intro p hp
        rcases List.mem_append.1 hp with hp | hp
        · exact hle p hp
        · simp at hp; subst hp; exact Int.le_refl _

theorem mergeL_ok (l : List (Int × Int)) (hg : ∀ p ∈ l, 0 ≤ p.1 ∧ p.1 ≤ p.2 ∧ p.2 ≤ 1114111) (hs : l.Pairwise (fun a b => a.1 ≤ b.1)) :
    Norm (mergeL l) ∧ ∀ r, mem (mergeL l) r = mem l r := by
  have key : ∀ (m out done : List (Int × Int)), Norm out → (∀ r, mem out r = mem done r) → (∀ p ∈ out, ∀ x ∈ m, p.1 ≤ x.1) → (∀ p ∈ m, 0 ≤ p.1 ∧ p.1 ≤ p.2 ∧ p.2 ≤ 1114111) → m.Pairwise (fun a b => a.1 ≤ b.1) →
      Norm (m.foldl mstep out) ∧ ∀ r, mem (m.foldl mstep out) r = mem (done ++ m) r := by
    intro m
    induction m with
    | nil => intro out done hn hm _ _ _; exact ⟨hn, fun r => by simpa using hm r⟩
    | cons x m ih =>
      intro out done hn hm hle hgo hpw
      obtain ⟨a, b, c⟩ := mstep_ok out x hn (hgo x List.mem_cons_self) (fun p hp => hle p hp x List.mem_cons_self)
      have hpw' := List.pairwise_cons.1 hpw
      have := ih (mstep out x) (done ++ [x]) a (fun r => by rw [b, mem_append, mem_one, hm]) (fun p hp y hy => Int.le_trans (c p hp) (hpw'.1 y hy)) (fun p hp => hgo p (List.mem_cons_of_mem _ hp)) hpw'.2
      refine ⟨this.1, fun r => ?_⟩
      have h2 := this.2 r
      simp only [List.foldl_cons]
      rw [h2]; simp
  have := key l [] [] trivial (fun _ => rfl) (by simp) hg hs
  exact ⟨this.1, fun r => by have := this.2 r; simpa [mergeL] using this⟩

theorem mem_perm {a b : List (Int × Int)} (h : a.Perm b) (r : Int) : mem a r = mem b r := by
  rw [Bool.eq_iff_iff, mem_iff, mem_iff]
  exact ⟨fun ⟨p, hp, hr⟩ => ⟨p, h.mem_iff.1 hp, hr⟩, fun ⟨p, hp, hr⟩ => ⟨p, h.mem_iff.2 hp, hr⟩⟩

/-- The whole: whatever order the sort leaves equals in. -/
theorem of_ok (rs l : List (Int × Int)) (hp : l.Perm (clampL rs)) (hs : l.Pairwise (fun a b => a.1 ≤ b.1)) : IsOf rs (mergeL l) := by
  have h := mergeL_ok l (fun p hp' => clampL_good rs p (hp.mem_iff.1 hp')) hs
  exact ⟨h.1, fun r => by rw [h.2, mem_perm hp, clampL_mem]⟩
end Go.Proofs.YtpcbfmbpbegjgaaGreat
end
