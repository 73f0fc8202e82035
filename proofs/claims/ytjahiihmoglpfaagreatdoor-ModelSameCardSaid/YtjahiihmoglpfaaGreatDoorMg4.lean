/-
  Several texts in one: Trees as data, and where they lie in memory. The parser's take, want, number. The parser's count. slices.SortFunc over an owned row of ranges: a permutation, in the order of the lower ends.
-/
import Derived.Test.YtjahiihmoglpfaaGreatDoorMg2
import Derived.Test.YtjahiihmoglpfaaGreatDoorMg3
import Derived.Test.YtjahiihmoglpfaaGreatDoorShelfS
namespace Go.Proofs.YtjahiihmoglpfaaGreatDoor
open Go.RowKit
set_option linter.unusedVariables false
set_option linter.unusedSimpArgs false
set_option maxRecDepth 100000
inductive F where
 | nil : F
 | cons (op : Int) (set : List (Int × Int)) (mn mx : Int) (kids rest : F) : F
 deriving DecidableEq
structure T where
 op : Int
 set : List (Int × Int)
 mn : Int
 mx : Int
 kids : F
 deriving DecidableEq
def F.toL : F → List T
 | .nil => []
 | .cons a b c d k r => ⟨a, b, c, d, k⟩ :: r.toL
def F.ofL : List T → F
 | [] => .nil
 | t :: l => .cons t.op t.set t.mn t.mx t.kids (F.ofL l)
theorem F.of_to (f : F) : F.ofL f.toL = f := by
 induction f with
 | nil => rfl
 | cons a b c d k r ih1 ih2 => simp only [F.toL, F.ofL, ih2]
theorem F.to_of (l : List T) : (F.ofL l).toL = l := by
 induction l with
 | nil => rfl
 | cons t l ih => simp only [F.ofL, F.toL, ih]
structure NV where
 op : Int
 sv : Value
 mn : Int
 mx : Int
 kv : Value
def encN (v : NV) (j : Nat) : Value := if j = 0 then .int .i64 v.op else if j = 1 then v.sv else if j = 2 then .int .i64 v.mn else if j = 3 then .int .i64 v.mx else v.kv
def NV.val (v : NV) : Value := .agg #[.int .i64 v.op, v.sv, .int .i64 v.mn, .int .i64 v.mx, v.kv]
theorem xfe (v : NV) : (List.range 5).map (encN v) = [.int .i64 v.op, v.sv, .int .i64 v.mn, .int .i64 v.mx, v.kv] := rfl
def FAt (w : World) (P : Nat → Prop) : F → List NV → Prop
 | .nil, vs => vs = []
 | .cons op set mn mx kids rest, vs => ∃ v vs', vs = v :: vs' ∧ (v.op = op ∧ v.mn = mn ∧ v.mx = mx ∧ in64 mn ∧ in64 mx) ∧ (RSl w v.sv set ∧ (∀ b, v.sv.ownBlock = some b → P b)) ∧
  (∃ ks, (SlOf 5 encN w v.kv ks ∧ (∀ b, v.kv.ownBlock = some b → P b)) ∧ FAt w P kids ks) ∧ FAt w P rest vs'
structure TAt (w : World) (P : Nat → Prop) (v : NV) (t : T) : Prop where
 op : v.op = t.op
 mn : v.mn = t.mn
 mx : v.mx = t.mx
 nn : in64 t.mn
 nx : in64 t.mx
 set : RSl w v.sv t.set
 sb : ∀ b, v.sv.ownBlock = some b → P b
 kids : ∃ ks, SlOf 5 encN w v.kv ks ∧ FAt w P t.kids ks
 kb : ∀ b, v.kv.ownBlock = some b → P b
theorem FAt.cons_iff {w : World} {P : Nat → Prop} {t : T} {l : List T} {vs : List NV} : FAt w P (F.ofL (t :: l)) vs ↔ ∃ v vs', vs = v :: vs' ∧ TAt w P v t ∧ FAt w P (F.ofL l) vs' := by
 constructor
 · rintro ⟨v, vs', rfl, ⟨h1, h2, h3, g1, g2⟩, ⟨h4, h5⟩, ⟨ks, ⟨h6, h7⟩, h8⟩, h9⟩
   exact ⟨v, vs', rfl, ⟨h1, h2, h3, g1, g2, h4, h5, ⟨ks, h6, h8⟩, h7⟩, h9⟩
 rintro ⟨v, vs', rfl, ⟨h1, h2, h3, g1, g2, h4, h5, ⟨ks, h6, h8⟩, h7⟩, h9⟩
 exact ⟨v, vs', rfl, ⟨h1, h2, h3, g1, g2⟩, ⟨h4, h5⟩, ⟨ks, ⟨h6, h7⟩, h8⟩, h9⟩
theorem RSl.keeps {S : Nat → Prop} {w w' : World} {v : Value} {l : List (Int × Int)} (h : RSl w v l) (K : xaa S w w') (hs : ∀ b, v.ownBlock = some b → ¬ S b) : RSl w' v l := ⟨h.1.keeps K hs, h.2⟩
theorem FAt.keepsTo {S P Q : Nat → Prop} {w w' : World} (K : xaa S w w') (hs : ∀ b, P b → ¬ S b) (hq : ∀ b, P b → Q b) : ∀ {f : F} {vs : List NV}, FAt w P f vs → FAt w' Q f vs := by
 intro f
 induction f with
 | nil => intro vs h; exact h
 | cons a b c d k r ih1 ih2 =>
  rintro vs ⟨v, vs', rfl, h1, ⟨h4, h5⟩, ⟨ks, ⟨h6, h7⟩, h8⟩, h9⟩
  exact ⟨v, vs', rfl, h1, ⟨h4.keeps K (fun b hb => hs b (h5 b hb)), fun b hb => hq b (h5 b hb)⟩, ⟨ks, ⟨h6.keeps K (fun b hb => hs b (h7 b hb)), fun b hb => hq b (h7 b hb)⟩, ih1 h8⟩, ih2 h9⟩
theorem TAt.keepsTo {S P Q : Nat → Prop} {w w' : World} {v : NV} {t : T} (h : TAt w P v t) (K : xaa S w w') (hs : ∀ b, P b → ¬ S b) (hq : ∀ b, P b → Q b) : TAt w' Q v t := by
 obtain ⟨ks, h6, h8⟩ := h.kids
 exact ⟨h.op, h.mn, h.mx, h.nn, h.nx, h.set.keeps K (fun b hb => hs b (h.sb b hb)), fun b hb => hq b (h.sb b hb), ⟨ks, h6.keeps K (fun b hb => hs b (h.kb b hb)), h8.keepsTo K hs hq⟩, fun b hb => hq b (h.kb b hb)⟩
theorem FAt.len {w : World} {P : Nat → Prop} : ∀ {l : List T} {vs : List NV}, FAt w P (F.ofL l) vs → vs.length = l.length := by
 intro l
 induction l with
 | nil => intro vs h; rw [show vs = [] from h]; rfl
 | cons t l ih => intro vs h; obtain ⟨v, vs', rfl, _, h2⟩ := FAt.cons_iff.1 h; simp [ih h2]
theorem FAt.snoc {w : World} {P : Nat → Prop} {t : T} {v : NV} : ∀ {l : List T} {vs : List NV}, FAt w P (F.ofL l) vs → TAt w P v t → FAt w P (F.ofL (l ++ [t])) (vs ++ [v]) := by
 intro l
 induction l with
 | nil => intro vs h ht; rw [show vs = [] from h]; exact FAt.cons_iff.2 ⟨v, [], rfl, ht, rfl⟩
 | cons u l ih =>
  intro vs h ht
  obtain ⟨v', vs', rfl, h1, h2⟩ := FAt.cons_iff.1 h
  exact FAt.cons_iff.2 ⟨v', vs' ++ [v], rfl, h1, ih h2 ht⟩
theorem FAt.get {w : World} {P : Nat → Prop} : ∀ {l : List T} {vs : List NV} {i : Nat} {t : T}, FAt w P (F.ofL l) vs → l[i]? = some t → ∃ v, vs[i]? = some v ∧ TAt w P v t := by
 intro l
 induction l with
 | nil => intro vs i t h hi; simp at hi
 | cons u l ih =>
  intro vs i t h hi
  obtain ⟨v', vs', rfl, h1, h2⟩ := FAt.cons_iff.1 h
  cases i with
  | zero => simp at hi; subst hi; exact ⟨v', rfl, h1⟩
  | succ i => simp at hi; obtain ⟨v, h3, h4⟩ := ih h2 hi; exact ⟨v, by simpa using h3, h4⟩
set_option maxHeartbeats 1000000 in
theorem xbO (w : World) (pb : Nat) (rv : Value) (rs : List Int) (s : PS) (r : Int) (h : PaAt w pb rv rs s) (hp : s.pos + 1 ≤ 1000000) :
 Calls Tryz.prog 103 #[.pointer (some ⟨pb, 0, none⟩), .int .i64 r] w fun e w' => e = .returned (.bool (tkB rs r s)) ∧ PaAt w' pb rv rs (tk rs r s) ∧ xaa (xao pb) w w' := by
 have HP := xmA (xbQ w pb rv rs s h)
 have H := xmA h
 clear h
 by_cases hr : pk rs s = r
 · have E : Hid (tk rs r s = ⟨s.pos + 1, s.deep, s.bad⟩) := xmA (if_pos hr)
   have E2 : Hid (tkB rs r s = true) := xmA (by unfold tkB; simpa using hr)
   rw [hr] at HP
   clear hr
   generalize tk rs r s = s' at *
   generalize tkB rs r s = q at *
   go_enter Tryz.func103, Tryz.ntmps103
   go_wp2_with fail
   refine HP.out.mono ?_
   rintro e w1 ⟨rfl, hk1⟩
   have h1 := H.out.keepsF hk1
   have c1 := h1.c1
   have f1 := h1.fr 1
   have h3 := h1.setPos (s.pos + 1) hp
   have hk3 := (hk1.mono (T := xao pb) (fun _ _ e => e.elim)).set (p := ⟨pb, 1, none⟩) rfl (.int .i64 ((s.pos + 1 : Nat) : Int))
   have H3 := xmA h3
   have Hk3 := xmA hk3
   clear h1 h3 hk1 hk3
   go_wp2_with fail
   go_ret
   exact ⟨by rw [E2.out]; rfl, by rw [E.out]; exact H3.out, Hk3.out⟩
 have E : Hid (tk rs r s = s) := xmA (if_neg hr)
 have E2 : Hid (tkB rs r s = false) := xmA (by unfold tkB; simpa using hr)
 have g1 : (pk rs s != r) = true := by simp only [bne_iff_ne, ne_eq]; exact hr
 clear hr
 generalize tk rs r s = s' at *
 generalize tkB rs r s = q at *
 generalize pk rs s = t at *
 go_enter Tryz.func103, Tryz.ntmps103
 go_wp2_with fail
 refine HP.out.mono ?_
 rintro e w1 ⟨rfl, hk1⟩
 have h1 := xmA (H.out.keepsF hk1)
 go_wp2_with fail
 go_ret
 exact ⟨by rw [E2.out]; rfl, by rw [E.out]; exact h1.out, hk1.mono (fun _ _ e => e.elim)⟩
set_option maxHeartbeats 1000000 in
theorem xcv (w : World) (pb : Nat) (rv : Value) (rs : List Int) (s : PS) (r : Int) (h : PaAt w pb rv rs s) (hp : s.pos + 1 ≤ 1000000) :
 Calls Tryz.prog 196 #[.pointer (some ⟨pb, 0, none⟩), .int .i64 r] w fun e w' => e = .returned (.tuple #[]) ∧ PaAt w' pb rv rs (wt rs r s) ∧ xaa (xao pb) w w' := by
 have HT := xmA (xbO w pb rv rs s r h hp)
 clear h
 by_cases hr : pk rs s = r
 · have E : Hid (wt rs r s = tk rs r s) := xmA (by unfold wt tk; rw [if_pos hr, if_pos hr])
   have E2 : tkB rs r s = true := by unfold tkB; simpa using hr
   rw [E2] at HT
   clear hr E2
   go_enter Tryz.func196, Tryz.ntmps196
   go_wp2_with fail
   refine HT.out.mono ?_
   rintro e w1 ⟨rfl, h1, hk1⟩
   have H1 := xmA h1
   clear h1
   go_wp2_with fail
   go_end0
   exact ⟨rfl, by rw [E.out]; exact H1.out, hk1⟩
 have E : Hid (wt rs r s = ⟨s.pos, s.deep, true⟩) := xmA (if_neg hr)
 have E2 : tkB rs r s = false := by unfold tkB; simpa using hr
 have E3 : tk rs r s = s := if_neg hr
 rw [E2, E3] at HT
 clear hr E2 E3
 go_enter Tryz.func196, Tryz.ntmps196
 go_wp2_with fail
 refine HT.out.mono ?_
 rintro e w1 ⟨rfl, h1, hk1⟩
 have c3 := h1.c3
 have f3 := h1.fr 3
 have H1 := xmA (h1.setBad true)
 clear h1
 go_wp2_with fail
 go_end0
 exact ⟨rfl, by rw [E.out]; exact H1.out, hk1.set (p := ⟨pb, 3, none⟩) rfl _⟩
def dig (r : Int) : Bool := decide (48 ≤ r) && decide (r ≤ 57)
def numN (rs : List Int) (s : PS) : Int :=
 if dig (pk rs s) then (if dig (pk rs ⟨s.pos + 1, s.deep, s.bad⟩) then (pk rs s - 48) * 10 + pk rs ⟨s.pos + 1, s.deep, s.bad⟩ - 48 else pk rs s - 48) else 0
def numS (rs : List Int) (s : PS) : PS :=
 if dig (pk rs s) then (if dig (pk rs ⟨s.pos + 1, s.deep, s.bad⟩) then ⟨s.pos + 2, s.deep, s.bad || decide (50 < numN rs s)⟩ else ⟨s.pos + 1, s.deep, s.bad⟩) else ⟨s.pos, s.deep, true⟩
def NumR (pb : Nat) (rv : Value) (rs : List Int) (s : PS) (w : World) (nv iv : Value) (wr : World) : Prop :=
 ∃ (i : Nat) (n : Int) (s' : PS), iv = .int .i64 i ∧ nv = .int .i64 n ∧ PaAt wr pb rv rs s' ∧ xaa (xao pb) w wr ∧ 0 ≤ n ∧ n ≤ 99 ∧
  ((i = 0 ∧ n = 0 ∧ s' = s) ∨ (i = 1 ∧ dig (pk rs s) = true ∧ n = pk rs s - 48 ∧ n ≤ 9 ∧ s' = ⟨s.pos + 1, s.deep, s.bad⟩) ∨
   (i = 2 ∧ dig (pk rs s) = true ∧ dig (pk rs ⟨s.pos + 1, s.deep, s.bad⟩) = true ∧ n = numN rs s ∧ s' = ⟨s.pos + 2, s.deep, s.bad⟩))
set_option maxHeartbeats 4000000 in
theorem xcA (w : World) (pb : Nat) (rv : Value) (rs : List Int) (s : PS) (h : PaAt w pb rv rs s) (hp : s.pos + 2 ≤ 1000000) :
 Calls Tryz.prog 203 #[.pointer (some ⟨pb, 0, none⟩)] w fun e w' => e = .returned (.int .i64 (numN rs s)) ∧ PaAt w' pb rv rs (numS rs s) ∧ xaa (xao pb) w w' := by
 have H0 := xmA h
 clear h
 go_enter Tryz.func203, Tryz.ntmps203
 go_wp2_with fail
 go_loopw [3, 6] (fun nv iv wr => NumR pb rv rs s w nv iv wr) (fun _ iv _ => 2 - (intOf iv).toNat)
 case atStart => exact ⟨0, 0, s, rfl, rfl, H0.out, xaa.refl _ _, by omega, by omega, Or.inl ⟨rfl, rfl, rfl⟩⟩
 case round =>
  obtain ⟨i, n, s', rfl, rfl, hA, hk, hn0, hn9, hc⟩ := hrel
  have hPk := xmA (xbQ wr pb rv rs s' hA)
  have hple := xj1 hA
  have HA := xmA hA
  have hsp : s'.pos + 1 ≤ 1000000 ∨ i = 2 := by
   rcases hc with ⟨_, _, rfl⟩ | ⟨_, _, _, _, rfl⟩ | ⟨e, _⟩
   · left; omega
   · left; show s.pos + 1 + 1 ≤ 1000000; omega
   right; exact e
  clear hA
  by_cases hi2 : i = 2
  · subst hi2
    rcases hc with ⟨e, _⟩ | ⟨e, _⟩ | ⟨_, d0, d1, hN, hS⟩
    · omega
    · omega
    have hb : s.bad = false := (xaL (show 0 ≤ pk rs s by simp [dig] at d0; omega)).2
    have En : Hid (numN rs s = n) := xmA hN.symm
    have Es : Hid (numS rs s = ⟨s.pos + 2, s.deep, decide (50 < n)⟩) := xmA (by unfold numS; rw [if_pos d0, if_pos d1, ← hN, hb]; rfl)
    have c3 := HA.out.c3
    have f3 := HA.out.fr 3
    have hb' : s'.bad = false := by rw [hS]; exact hb
    rw [hb'] at c3
    have hSs : s'.pos = s.pos + 2 ∧ s'.deep = s.deep := by rw [hS]; exact ⟨rfl, rfl⟩
    clear hN hS d0 d1 hPk hple hb hb'
    by_cases h50 : 50 < n
    · have g : decide (50 < n) = true := by simpa using h50
      have H1 := xmA (HA.out.setBad true)
      have Es2 : Hid (numS rs s = ⟨s'.pos, s'.deep, true⟩) := xmA (by rw [Es.out, g, hSs.1, hSs.2])
      clear Es hSs
      go_wp2_with fail
      go_ret
      exact ⟨by rw [En.out]; rfl, by rw [Es2.out]; exact H1.out, hk.set (p := ⟨pb, 3, none⟩) rfl _⟩
    have g : decide (50 < n) = false := by simpa using h50
    have H1 := xmA (HA.out.setBad false)
    have Es2 : Hid (numS rs s = ⟨s'.pos, s'.deep, false⟩) := xmA (by rw [Es.out, g, hSs.1, hSs.2])
    clear Es hSs
    go_wp2_with fail
    go_ret
    exact ⟨by rw [En.out]; rfl, by rw [Es2.out]; exact H1.out, hk.set (p := ⟨pb, 3, none⟩) rfl _⟩
  have hi : i < 2 := by omega
  have hsp' : s'.pos + 1 ≤ 1000000 := by omega
  clear hsp
  by_cases hd : dig (pk rs s') = true
  · have hd' : 48 ≤ pk rs s' ∧ pk rs s' ≤ 57 := by simpa [dig] using hd
    have hb : s'.bad = false := (xaL (show 0 ≤ pk rs s' by omega)).2
    have hn9' : n ≤ 9 := by
     rcases hc with ⟨_, e, _⟩ | ⟨_, _, _, e, _⟩ | ⟨e, _⟩
     · omega
     · exact e
     omega
    have Hc := xmA hc
    have Hd := xmA hd
    have Hb := xmA hb
    clear hc hd hb
    have Hpk : Hid (pk rs s' = pk rs s') := rfl
    generalize hr : pk rs s' = r at *
    have Hr := xmA hr
    clear hr Hpk
    have g1 : decide (r < 48) = false := by simp; omega
    have g2 : decide ((57 : Int) < r) = false := by simp; omega
    obtain ⟨r1, r2⟩ := hd'
    go_wp2_with fail
    refine hPk.out.mono ?_
    rintro e w1 ⟨rfl, hk1⟩
    have h1 := HA.out.keepsF hk1
    have c1 := h1.c1
    have f1 := h1.fr 1
    have H3 := xmA (h1.setPos (s'.pos + 1) hsp')
    have Hk3 := xmA ((hk.trans (hk1.mono (T := xao pb) (fun _ _ e => e.elim))).set (p := ⟨pb, 1, none⟩) rfl (.int .i64 ((s'.pos + 1 : Nat) : Int)))
    clear h1 hk1 hPk
    go_wp2_with fail
    go_roundw
    case rel =>
     refine ⟨i + 1, n * 10 + r - 48, _, by go_num, rfl, H3.out, Hk3.out, by omega, by omega, ?_⟩
     rcases Hc.out with ⟨rfl, rfl, rfl⟩ | ⟨rfl, d0, hn, _, rfl⟩ | ⟨e, _⟩
     · right; left
       have hr := Hr.out
       refine ⟨rfl, by rw [hr]; exact Hd.out, by rw [hr]; omega, by omega, rfl⟩
     · right; right
       have hr := Hr.out
       refine ⟨rfl, d0, by rw [hr]; exact Hd.out, ?_, rfl⟩
       unfold numN
       rw [if_pos d0, if_pos (by rw [hr]; exact Hd.out), hr, hn]
     omega
    case measure => simp [intOf]; omega
  have hd' : pk rs s' < 48 ∨ 57 < pk rs s' := by simp [dig] at hd; omega
  rcases hc with ⟨rfl, rfl, rfl⟩ | ⟨rfl, d0, hn, h9, hS⟩ | ⟨e, _⟩
  · have En : Hid (numN rs s' = 0) := xmA (by unfold numN; rw [if_neg hd])
    have Es : Hid (numS rs s' = ⟨s'.pos, s'.deep, true⟩) := xmA (by unfold numS; rw [if_neg hd])
    clear hd
    generalize pk rs s' = r at *
    obtain ⟨bad, hbad⟩ : ∃ b, s'.bad = b := ⟨_, rfl⟩
    have Hbad := xmA hbad
    clear hbad
    by_cases hr48 : r < 48
    · have g1 : decide (r < 48) = true := by simpa using hr48
      clear hd'
      go_wp2_with fail
      refine hPk.out.mono ?_
      rintro e w1 ⟨rfl, hk1⟩
      have h1 := HA.out.keepsF hk1
      have c3 := h1.c3
      have f3 := h1.fr 3
      rw [Hbad.out] at c3
      have h2 := h1.setBad true
      have H3 := xmA (h2.setBad true)
      have Hk3 := xmA (((hk.trans (hk1.mono (T := xao pb) (fun _ _ e => e.elim))).set (p := ⟨pb, 3, none⟩) rfl (.bool true)).set (p := ⟨pb, 3, none⟩) rfl (.bool true))
      have d3 := h2.c3
      have e3 := h2.fr 3
      simp only at d3
      clear h1 h2 hk1 hPk
      cases bad
      all_goals
       go_wp2_with fail
       go_ret
       exact ⟨by rw [En.out]; rfl, by rw [Es.out]; exact H3.out, Hk3.out⟩
    have g1 : decide (r < 48) = false := by simpa using hr48
    have g2 : decide ((57 : Int) < r) = true := by simp; omega
    clear hd'
    go_wp2_with fail
    refine hPk.out.mono ?_
    rintro e w1 ⟨rfl, hk1⟩
    have h1 := HA.out.keepsF hk1
    have c3 := h1.c3
    have f3 := h1.fr 3
    rw [Hbad.out] at c3
    have h2 := h1.setBad true
    have H3 := xmA (h2.setBad true)
    have Hk3 := xmA (((hk.trans (hk1.mono (T := xao pb) (fun _ _ e => e.elim))).set (p := ⟨pb, 3, none⟩) rfl (.bool true)).set (p := ⟨pb, 3, none⟩) rfl (.bool true))
    have d3 := h2.c3
    have e3 := h2.fr 3
    simp only at d3
    clear h1 h2 hk1 hPk
    cases bad
    all_goals
     go_wp2_with fail
     go_ret
     exact ⟨by rw [En.out]; rfl, by rw [Es.out]; exact H3.out, Hk3.out⟩
  · have hb : s.bad = false := (xaL (show 0 ≤ pk rs s by simp [dig] at d0; omega)).2
    have hb' : s'.bad = false := by rw [hS]; exact hb
    have En : Hid (numN rs s = n) := xmA (by unfold numN; rw [if_pos d0, if_neg (by rw [← hS]; exact hd), hn])
    have Es : Hid (numS rs s = ⟨s'.pos, s'.deep, false⟩) := xmA (by unfold numS; rw [if_pos d0, if_neg (by rw [← hS]; exact hd), hS, hb])
    have Hb' := xmA hb'
    have g50 : decide ((50 : Int) < n) = false := by simp; omega
    clear hd hS hb d0 hn hb'
    generalize pk rs s' = r at *
    by_cases hr48 : r < 48
    · have g1 : decide (r < 48) = true := by simpa using hr48
      clear hd'
      go_wp2_with fail
      refine hPk.out.mono ?_
      rintro e w1 ⟨rfl, hk1⟩
      have h1 := HA.out.keepsF hk1
      have c3 := h1.c3
      have f3 := h1.fr 3
      rw [Hb'.out] at c3
      have h2 := h1.setBad false
      have H3 := xmA (h2.setBad false)
      have Hk3 := xmA (((hk.trans (hk1.mono (T := xao pb) (fun _ _ e => e.elim))).set (p := ⟨pb, 3, none⟩) rfl (.bool false)).set (p := ⟨pb, 3, none⟩) rfl (.bool false))
      have d3 := h2.c3
      have e3 := h2.fr 3
      simp only at d3
      clear h1 h2 hk1 hPk
      go_wp2_with fail
      go_ret
      exact ⟨by rw [En.out]; rfl, by rw [Es.out]; exact H3.out, Hk3.out⟩
    have g1 : decide (r < 48) = false := by simpa using hr48
    have g2 : decide ((57 : Int) < r) = true := by simp; omega
    clear hd'
    go_wp2_with fail
    refine hPk.out.mono ?_
    rintro e w1 ⟨rfl, hk1⟩
    have h1 := HA.out.keepsF hk1
    have c3 := h1.c3
    have f3 := h1.fr 3
    rw [Hb'.out] at c3
    have h2 := h1.setBad false
    have H3 := xmA (h2.setBad false)
    have Hk3 := xmA (((hk.trans (hk1.mono (T := xao pb) (fun _ _ e => e.elim))).set (p := ⟨pb, 3, none⟩) rfl (.bool false)).set (p := ⟨pb, 3, none⟩) rfl (.bool false))
    have d3 := h2.c3
    have e3 := h2.fr 3
    simp only at d3
    clear h1 h2 hk1 hPk
    go_wp2_with fail
    go_ret
    exact ⟨by rw [En.out]; rfl, by rw [Es.out]; exact H3.out, Hk3.out⟩
  omega
theorem xbN {w : World} {pb : Nat} {rv : Value} {rs : List Int} {s : PS} (r : Int) (h : PaAt w pb rv rs s) (hr : pk rs s = r) (hr0 : 0 ≤ r) :
 Calls Tryz.prog 103 #[.pointer (some ⟨pb, 0, none⟩), .int .i64 r] w fun e w' => e = .returned (.bool true) ∧ PaAt w' pb rv rs ⟨s.pos + 1, s.deep, s.bad⟩ ∧ xaa (xao pb) w w' := by
 have h1 := xbO w pb rv rs s r h (by have := (xaL (show 0 ≤ pk rs s by omega)).1; have := h.len; omega)
 rw [show tkB rs r s = true by unfold tkB; simpa using hr, show tk rs r s = ⟨s.pos + 1, s.deep, s.bad⟩ from if_pos hr] at h1
 exact h1
theorem xa3 {w : World} {pb : Nat} {rv : Value} {rs : List Int} {s : PS} (r : Int) (h : PaAt w pb rv rs s) (hr : ¬ pk rs s = r) (hp : s.pos + 1 ≤ 1000000) :
 Calls Tryz.prog 103 #[.pointer (some ⟨pb, 0, none⟩), .int .i64 r] w fun e w' => e = .returned (.bool false) ∧ PaAt w' pb rv rs s ∧ xaa (xao pb) w w' := by
 have h1 := xbO w pb rv rs s r h hp
 rw [show tkB rs r s = false by unfold tkB; simpa using hr, show tk rs r s = s from if_neg hr] at h1
 exact h1
def brA (rs : List Int) (s : PS) : Int := numN rs s
def br3 (rs : List Int) (s : PS) : PS := ⟨(numS rs s).pos + 1, (numS rs s).deep, (numS rs s).bad⟩
def brB (rs : List Int) (s : PS) : Int := if pk rs (numS rs s) = 44 then (if pk rs (br3 rs s) = 125 then -1 else numN rs (br3 rs s)) else numN rs s
def brS (rs : List Int) (s : PS) : PS :=
 if pk rs (numS rs s) = 44 then
  (if pk rs (br3 rs s) = 125 then wt rs 125 (br3 rs s)
   else wt rs 125 ⟨(numS rs (br3 rs s)).pos, (numS rs (br3 rs s)).deep, (numS rs (br3 rs s)).bad || decide (numN rs (br3 rs s) < numN rs s)⟩)
 else wt rs 125 (numS rs s)
def cntV (rs : List Int) (s : PS) : Int × Int × Bool :=
 if pk rs s = 63 then (0, 1, true) else if pk rs s = 43 then (1, -1, true) else if pk rs s = 42 then (0, -1, true)
 else if pk rs s = 123 then (brA rs ⟨s.pos + 1, s.deep, s.bad⟩, brB rs ⟨s.pos + 1, s.deep, s.bad⟩, true) else (0, 0, false)
def cntS (rs : List Int) (s : PS) : PS :=
 if pk rs s = 63 ∨ pk rs s = 43 ∨ pk rs s = 42 then ⟨s.pos + 1, s.deep, s.bad⟩ else if pk rs s = 123 then brS rs ⟨s.pos + 1, s.deep, s.bad⟩ else s
theorem xh8 (rs : List Int) (s : PS) : s.pos ≤ (numS rs s).pos ∧ (numS rs s).pos ≤ s.pos + 2 := by
 unfold numS
 split
 · split
   · exact ⟨by show s.pos ≤ s.pos + 2; omega, Nat.le_refl _⟩
   exact ⟨by show s.pos ≤ s.pos + 1; omega, by show s.pos + 1 ≤ s.pos + 2; omega⟩
 exact ⟨Nat.le_refl _, by show s.pos ≤ s.pos + 2; omega⟩
theorem xhk (rs : List Int) (s : PS) (h : ∀ r ∈ rs, 0 ≤ r ∧ r ≤ 1114111) : numN rs s ≤ 1000000000 ∧ -1000000000 ≤ numN rs s := by
 unfold numN
 split
 · rename_i h1
   split
   · rename_i h2
     simp [dig] at h1 h2
     omega
   simp [dig] at h1
   omega
 omega
set_option maxHeartbeats 4000000 in
theorem xiT (w : World) (pb : Nat) (rv : Value) (rs : List Int) (s : PS) (h : PaAt w pb rv rs s) (hp : s.pos + 10 ≤ 1000000) :
 Calls Tryz.prog 167 #[.pointer (some ⟨pb, 0, none⟩)] w fun e w' => e = .returned (.tuple #[.int .i64 (cntV rs s).1, .int .i64 (cntV rs s).2.1, .bool (cntV rs s).2.2]) ∧ PaAt w' pb rv rs (cntS rs s) ∧ xaa (xao pb) w w' := by
 have H0 := xmA h
 clear h
 by_cases h63 : pk rs s = 63
 · have Ev : Hid (cntV rs s = (0, 1, true)) := xmA (if_pos h63)
   have Es : Hid (cntS rs s = ⟨s.pos + 1, s.deep, s.bad⟩) := xmA (if_pos (Or.inl h63))
   have Hr := xmA h63
   clear h63
   go_enter Tryz.func167, Tryz.ntmps167
   go_wp2_with fail
   refine (xbN 63 H0.out Hr.out (by omega)).mono ?_
   rintro e w1 ⟨rfl, h1, k1⟩
   have H1 := xmA h1
   clear h1
   go_wp2_with fail
   go_ret3
   exact ⟨by rw [Ev.out]; rfl, by rw [Es.out]; exact H1.out, k1⟩
 by_cases h43 : pk rs s = 43
 · have Ev : Hid (cntV rs s = (1, -1, true)) := xmA (by unfold cntV; rw [if_neg h63, if_pos h43])
   have Es : Hid (cntS rs s = ⟨s.pos + 1, s.deep, s.bad⟩) := xmA (if_pos (Or.inr (Or.inl h43)))
   have Hr := xmA h43
   have Hn := xmA h63
   clear h43 h63
   go_enter Tryz.func167, Tryz.ntmps167
   go_wp2_with fail
   refine (xa3 63 H0.out Hn.out (by omega)).mono ?_
   rintro e w1 ⟨rfl, h1, k1⟩
   have H1 := xmA h1
   clear h1
   go_wp2_with fail
   refine (xbN 43 H1.out Hr.out (by omega)).mono ?_
   rintro e w2 ⟨rfl, h2, k2⟩
   have H2 := xmA h2
   clear h2
   go_wp2_with fail
   go_ret3
   exact ⟨by rw [Ev.out]; rfl, by rw [Es.out]; exact H2.out, k1.trans k2⟩
 by_cases h42 : pk rs s = 42
 · have Ev : Hid (cntV rs s = (0, -1, true)) := xmA (by unfold cntV; rw [if_neg h63, if_neg h43, if_pos h42])
   have Es : Hid (cntS rs s = ⟨s.pos + 1, s.deep, s.bad⟩) := xmA (if_pos (Or.inr (Or.inr h42)))
   have Hr := xmA h42
   have Hn := xmA h63
   have Hm := xmA h43
   clear h43 h63 h42
   go_enter Tryz.func167, Tryz.ntmps167
   go_wp2_with fail
   refine (xa3 63 H0.out Hn.out (by omega)).mono ?_
   rintro e w1 ⟨rfl, h1, k1⟩
   have H1 := xmA h1
   clear h1
   go_wp2_with fail
   refine (xa3 43 H1.out Hm.out (by omega)).mono ?_
   rintro e w2 ⟨rfl, h2, k2⟩
   have H2 := xmA h2
   clear h2
   go_wp2_with fail
   refine (xbN 42 H2.out Hr.out (by omega)).mono ?_
   rintro e w3 ⟨rfl, h3, k3⟩
   have H3 := xmA h3
   clear h3
   go_wp2_with fail
   go_ret3
   exact ⟨by rw [Ev.out]; rfl, by rw [Es.out]; exact H3.out, (k1.trans k2).trans k3⟩
 have Ha := xmA h63
 have Hb := xmA h43
 have Hc := xmA h42
 by_cases h123 : pk rs s = 123
 · have Ev : Hid (cntV rs s = (brA rs ⟨s.pos + 1, s.deep, s.bad⟩, brB rs ⟨s.pos + 1, s.deep, s.bad⟩, true)) := xmA (by unfold cntV; rw [if_neg h63, if_neg h43, if_neg h42, if_pos h123])
   have Es : Hid (cntS rs s = brS rs ⟨s.pos + 1, s.deep, s.bad⟩) := xmA (by unfold cntS; rw [if_neg (by rintro (e | e | e); exact h63 e; exact h43 e; exact h42 e), if_pos h123])
   have Hd := xmA h123
   clear h63 h43 h42 h123
   obtain ⟨q, hq⟩ : ∃ q : PS, (⟨s.pos + 1, s.deep, s.bad⟩ : PS) = q := ⟨_, rfl⟩
   have hqp : q.pos + 9 ≤ 1000000 := by rw [← hq]; show s.pos + 1 + 9 ≤ 1000000; omega
   have hP := xh8 rs q
   have Hq := xmA hq
   rw [hq] at Ev Es
   clear hq
   have hnq : numN rs q ≤ 1000000000 ∧ -1000000000 ≤ numN rs q := xhk rs q H0.out.rng
   by_cases h44 : pk rs (numS rs q) = 44
   · have H44 := xmA h44
     have hP3 := xh8 rs (br3 rs q)
     have e3 : (br3 rs q).pos ≤ (numS rs q).pos + 1 := Nat.le_refl _
     have hn3 : numN rs (br3 rs q) ≤ 1000000000 ∧ -1000000000 ≤ numN rs (br3 rs q) := xhk rs _ H0.out.rng
     by_cases h125 : pk rs (br3 rs q) = 125
     · have Eb : Hid (brB rs q = -1) := xmA (by unfold brB; rw [if_pos h44, if_pos h125])
       have Et : Hid (brS rs q = wt rs 125 (br3 rs q)) := xmA (by unfold brS; rw [if_pos h44, if_pos h125])
       have H125 := xmA h125
       clear h44 h125
       go_enter Tryz.func167, Tryz.ntmps167
       go_wp2_with fail
       refine (xa3 63 H0.out Ha.out (by omega)).mono ?_
       rintro e w1 ⟨rfl, h1, k1⟩
       have H1 := xmA h1
       clear h1
       go_wp2_with fail
       refine (xa3 43 H1.out Hb.out (by omega)).mono ?_
       rintro e w2 ⟨rfl, h2, k2⟩
       have H2 := xmA h2
       clear h2
       go_wp2_with fail
       refine (xa3 42 H2.out Hc.out (by omega)).mono ?_
       rintro e w3 ⟨rfl, h3, k3⟩
       have H3 := xmA h3
       clear h3
       go_wp2_with fail
       refine (xbN 123 H3.out Hd.out (by omega)).mono ?_
       rintro e w4 ⟨rfl, h4, k4⟩
       rw [Hq.out] at h4
       have H4 := xmA h4
       have K4 := xmA (((k1.trans k2).trans k3).trans k4)
       clear h4 k1 k2 k3 k4
       go_wp2_with fail
       refine (xcA _ _ _ _ q H4.out (by omega)).mono ?_
       rintro e w5 ⟨rfl, h5, k5⟩
       have H5 := xmA h5
       clear h5
       go_wp2_with fail
       refine (xbN 44 H5.out H44.out (by omega)).mono ?_
       rintro e w6 ⟨rfl, h6, k6⟩
       have H6 : Hid (PaAt w6 pb rv rs (br3 rs q)) := xmA h6
       clear h6
       go_wp2_with fail
       refine (xbQ _ _ _ _ _ H6.out).mono ?_
       rintro e w7 ⟨rfl, k7⟩
       have H7 := xmA (H6.out.keepsF k7)
       have K7 := xmA (((K4.out.trans k5).trans k6).trans (k7.mono (T := xao pb) (fun _ _ e => e.elim)))
       clear k5 k6 k7
       rw [H125.out]
       go_wp2_with fail
       refine (xcv _ _ _ _ _ 125 H7.out (by omega)).mono ?_
       rintro e w8 ⟨rfl, h8, k8⟩
       have H8 := xmA h8
       clear h8
       go_wp2_with fail
       go_ret3
       exact ⟨by rw [Ev.out, Eb.out]; rfl, by rw [Es.out, Et.out]; exact H8.out, K7.out.trans k8⟩
     have Eb : Hid (brB rs q = numN rs (br3 rs q)) := xmA (by unfold brB; rw [if_pos h44, if_neg h125])
     have Et : Hid (brS rs q = wt rs 125 ⟨(numS rs (br3 rs q)).pos, (numS rs (br3 rs q)).deep, (numS rs (br3 rs q)).bad || decide (numN rs (br3 rs q) < numN rs q)⟩) := xmA (by unfold brS; rw [if_pos h44, if_neg h125])
     have g125 : (pk rs (br3 rs q) != 125) = true := by simp only [bne_iff_ne, ne_eq]; exact h125
     clear h44 h125
     obtain ⟨bd, hbd⟩ : ∃ b, (numS rs (br3 rs q)).bad = b := ⟨_, rfl⟩
     have Hbd := xmA hbd
     clear hbd
     generalize hlt : decide (numN rs (br3 rs q) < numN rs q) = lt at Et
     have Hlt := xmA hlt
     clear hlt
     go_enter Tryz.func167, Tryz.ntmps167
     go_wp2_with fail
     refine (xa3 63 H0.out Ha.out (by omega)).mono ?_
     rintro e w1 ⟨rfl, h1, k1⟩
     have H1 := xmA h1
     clear h1
     go_wp2_with fail
     refine (xa3 43 H1.out Hb.out (by omega)).mono ?_
     rintro e w2 ⟨rfl, h2, k2⟩
     have H2 := xmA h2
     clear h2
     go_wp2_with fail
     refine (xa3 42 H2.out Hc.out (by omega)).mono ?_
     rintro e w3 ⟨rfl, h3, k3⟩
     have H3 := xmA h3
     clear h3
     go_wp2_with fail
     refine (xbN 123 H3.out Hd.out (by omega)).mono ?_
     rintro e w4 ⟨rfl, h4, k4⟩
     rw [Hq.out] at h4
     have H4 := xmA h4
     have K4 := xmA (((k1.trans k2).trans k3).trans k4)
     clear h4 k1 k2 k3 k4
     go_wp2_with fail
     refine (xcA _ _ _ _ q H4.out (by omega)).mono ?_
     rintro e w5 ⟨rfl, h5, k5⟩
     have H5 := xmA h5
     clear h5
     go_wp2_with fail
     refine (xbN 44 H5.out H44.out (by omega)).mono ?_
     rintro e w6 ⟨rfl, h6, k6⟩
     have H6 : Hid (PaAt w6 pb rv rs (br3 rs q)) := xmA h6
     clear h6
     go_wp2_with fail
     refine (xbQ _ _ _ _ _ H6.out).mono ?_
     rintro e w7 ⟨rfl, k7⟩
     have H7 := xmA (H6.out.keepsF k7)
     have K7 := xmA (((K4.out.trans k5).trans k6).trans (k7.mono (T := xao pb) (fun _ _ e => e.elim)))
     clear k5 k6 k7
     go_wp2_with fail
     refine (xcA _ _ _ _ (br3 rs q) H7.out (by omega)).mono ?_
     rintro e w8 ⟨rfl, h8, k8⟩
     have c3 := h8.c3
     have f3 := h8.fr 3
     rw [Hbd.out] at c3
     have H8 := xmA (h8.setBad (bd || lt))
     have K8 := xmA ((K7.out.trans k8).set (p := ⟨pb, 3, none⟩) rfl (.bool (bd || lt)))
     clear h8 k8
     generalize hna : numN rs q = na at *
     have Hna := xmA hna
     clear hna
     generalize hnb : numN rs (br3 rs q) = nb at *
     have Hnb := xmA hnb
     clear hnb
     have hlt := Hlt.out
     cases bd
     · cases lt
       · have hg : ¬ nb < na := by simpa using hlt
         clear Hlt
         go_wp2_with fail
         refine (xcv _ _ _ _ _ 125 H8.out (by show (numS rs (br3 rs q)).pos + 1 ≤ 1000000; omega)).mono ?_
         rintro e w9 ⟨rfl, h9, k9⟩
         have H9 := xmA h9
         clear h9
         go_wp2_with fail
         go_ret3
         exact ⟨by rw [Ev.out, Eb.out]; unfold brA; rw [Hna.out]; rfl, by rw [Es.out, Et.out, Hbd.out]; exact H9.out, K8.out.trans k9⟩
       have hg : nb < na := by simpa using hlt
       clear Hlt
       go_wp2_with fail
       refine (xcv _ _ _ _ _ 125 H8.out (by show (numS rs (br3 rs q)).pos + 1 ≤ 1000000; omega)).mono ?_
       rintro e w9 ⟨rfl, h9, k9⟩
       have H9 := xmA h9
       clear h9
       go_wp2_with fail
       go_ret3
       exact ⟨by rw [Ev.out, Eb.out]; unfold brA; rw [Hna.out]; rfl, by rw [Es.out, Et.out, Hbd.out]; exact H9.out, K8.out.trans k9⟩
     clear hlt Hlt
     go_wp2_with fail
     refine (xcv _ _ _ _ _ 125 H8.out (by show (numS rs (br3 rs q)).pos + 1 ≤ 1000000; omega)).mono ?_
     rintro e w9 ⟨rfl, h9, k9⟩
     have H9 := xmA h9
     clear h9
     go_wp2_with fail
     go_ret3
     exact ⟨by rw [Ev.out, Eb.out]; unfold brA; rw [Hna.out]; rfl, by rw [Es.out, Et.out, Hbd.out]; exact H9.out, K8.out.trans k9⟩
   have H44 := xmA h44
   have Eb : Hid (brB rs q = numN rs q) := xmA (by unfold brB; rw [if_neg h44])
   have Et : Hid (brS rs q = wt rs 125 (numS rs q)) := xmA (by unfold brS; rw [if_neg h44])
   clear h44
   go_enter Tryz.func167, Tryz.ntmps167
   go_wp2_with fail
   refine (xa3 63 H0.out Ha.out (by omega)).mono ?_
   rintro e w1 ⟨rfl, h1, k1⟩
   have H1 := xmA h1
   clear h1
   go_wp2_with fail
   refine (xa3 43 H1.out Hb.out (by omega)).mono ?_
   rintro e w2 ⟨rfl, h2, k2⟩
   have H2 := xmA h2
   clear h2
   go_wp2_with fail
   refine (xa3 42 H2.out Hc.out (by omega)).mono ?_
   rintro e w3 ⟨rfl, h3, k3⟩
   have H3 := xmA h3
   clear h3
   go_wp2_with fail
   refine (xbN 123 H3.out Hd.out (by omega)).mono ?_
   rintro e w4 ⟨rfl, h4, k4⟩
   rw [Hq.out] at h4
   have H4 := xmA h4
   have K4 := xmA (((k1.trans k2).trans k3).trans k4)
   clear h4 k1 k2 k3 k4
   go_wp2_with fail
   refine (xcA _ _ _ _ q H4.out (by omega)).mono ?_
   rintro e w5 ⟨rfl, h5, k5⟩
   have H5 := xmA h5
   clear h5
   go_wp2_with fail
   refine (xa3 44 H5.out H44.out (by omega)).mono ?_
   rintro e w6 ⟨rfl, h6, k6⟩
   have H6 := xmA h6
   clear h6
   go_wp2_with fail
   refine (xcv _ _ _ _ _ 125 H6.out (by omega)).mono ?_
   rintro e w8 ⟨rfl, h8, k8⟩
   have H8 := xmA h8
   clear h8
   go_wp2_with fail
   go_ret3
   exact ⟨by rw [Ev.out, Eb.out]; rfl, by rw [Es.out, Et.out]; exact H8.out, ((K4.out.trans k5).trans k6).trans k8⟩
 have Ev : Hid (cntV rs s = (0, 0, false)) := xmA (by unfold cntV; rw [if_neg h63, if_neg h43, if_neg h42, if_neg h123])
 have Es : Hid (cntS rs s = s) := xmA (by unfold cntS; rw [if_neg (by rintro (e | e | e); exact h63 e; exact h43 e; exact h42 e), if_neg h123])
 have Hd := xmA h123
 clear h63 h43 h42 h123
 go_enter Tryz.func167, Tryz.ntmps167
 go_wp2_with fail
 refine (xa3 63 H0.out Ha.out (by omega)).mono ?_
 rintro e w1 ⟨rfl, h1, k1⟩
 have H1 := xmA h1
 clear h1
 go_wp2_with fail
 refine (xa3 43 H1.out Hb.out (by omega)).mono ?_
 rintro e w2 ⟨rfl, h2, k2⟩
 have H2 := xmA h2
 clear h2
 go_wp2_with fail
 refine (xa3 42 H2.out Hc.out (by omega)).mono ?_
 rintro e w3 ⟨rfl, h3, k3⟩
 have H3 := xmA h3
 clear h3
 go_wp2_with fail
 refine (xa3 123 H3.out Hd.out (by omega)).mono ?_
 rintro e w4 ⟨rfl, h4, k4⟩
 have H4 := xmA h4
 clear h4
 go_wp2_with fail
 go_ret3
 exact ⟨by rw [Ev.out]; rfl, by rw [Es.out]; exact H4.out, ((k1.trans k2).trans k3).trans k4⟩
section
open Go.Shelf Go.Lib Go.Sort
def xgH (x : Int × Int) : List Value := [.int .i64 x.1, .int .i64 x.2]
theorem xep (x : Int) (w : World) : Calls Tryz.prog 170 #[.int .i64 x] w fun e w' => e = .returned (.bool false) ∧ w = w' := by
 have h : (x != x) = false := by simp
 go_enter Tryz.func170, Tryz.ntmps170
 go_wp2
 go_ret
 exact ⟨rfl, rfl⟩
def cmpI (x y : Int) : Int := if x < y then -1 else if y < x then 1 else 0
theorem xhG (x y : Int) (w : World) : Calls Tryz.prog 144 #[.int .i64 x, .int .i64 y] w fun e w' => e = .returned (.int .i64 (cmpI x y)) ∧ w = w' := by
 by_cases h1 : x < y
 · have HV := xmA (show cmpI x y = -1 from if_pos h1)
   go_enter Tryz.func144, Tryz.ntmps144
   go_wp2_with (go_at_call 170; refine (xep _ _).mono ?_; rintro e w' ⟨rfl, rfl⟩)
   go_ret
   exact ⟨by rw [HV.out]; rfl, rfl⟩
 by_cases h2 : y < x
 · have HV := xmA (show cmpI x y = 1 by unfold cmpI; rw [if_neg h1, if_pos h2])
   go_enter Tryz.func144, Tryz.ntmps144
   go_wp2_with (go_at_call 170; refine (xep _ _).mono ?_; rintro e w' ⟨rfl, rfl⟩)
   go_ret
   exact ⟨by rw [HV.out]; rfl, rfl⟩
 have HV := xmA (show cmpI x y = 0 by unfold cmpI; rw [if_neg h1, if_neg h2])
 go_enter Tryz.func144, Tryz.ntmps144
 go_wp2_with (go_at_call 170; refine (xep _ _).mono ?_; rintro e w' ⟨rfl, rfl⟩)
 go_ret
 exact ⟨by rw [HV.out]; rfl, rfl⟩
def xhH (x y : Int × Int) : Int := cmpI x.1 y.1
theorem xkJ (x y : Int × Int) (W : World) : Calls Tryz.prog 143 #[.agg #[.int .i64 x.1, .int .i64 x.2], .agg #[.int .i64 y.1, .int .i64 y.2]] W fun e w' => e = .returned (.int .i64 (xhH x y)) ∧ ∃ q os', w' = grow (W.drewN q) os' := by
 go_enter Tryz.func143, Tryz.ntmps143
 go_wp2_with fail
 refine (xhG _ _ _).mono ?_
 rintro e w' ⟨rfl, rfl⟩
 go_wp2_with fail
 go_ret
 exact ⟨rfl, 0, _, by rw [alloc_eq_grow, alloc_eq_grow, grow_grow]; rfl⟩
theorem swoLo : SWO (ltOf xhH) := by
 have key : ∀ x y : Int × Int, ltOf xhH x y = decide (x.1 < y.1) := by
  intro x y
  unfold ltOf xhH cmpI
  by_cases h1 : x.1 < y.1
  · simp [h1]
  by_cases h2 : y.1 < x.1 <;> simp [h1, h2]
 exact ⟨fun x => by rw [key]; simp, fun x y z h1 h2 => by rw [key] at *; simp at *; omega, fun x y z h1 h2 => by rw [key] at *; simp at *; omega⟩
theorem ltLo (x y : Int × Int) : ltOf xhH x y = decide (x.1 < y.1) := by
 unfold ltOf xhH cmpI
 by_cases h1 : x.1 < y.1
 · simp [h1]
 by_cases h2 : y.1 < x.1 <;> simp [h1, h2]
theorem xeo {α : Type} [Inhabited α] (enc : α → List Value) (k : Nat) (w : World) (blk off n : Nat) (d : Array α) (os : Array Obj) : xaa (fun b => b = blk) w (sortWorldK enc k w blk off n d os) := by
 unfold sortWorldK grow putRowK putRow mapBlock
 refine ⟨rfl, rfl, rfl, ?_, fun j hj hs => ?_⟩
 · show w.heap.size ≤ ((w.heap.modify blk _) ++ os).size
   simp
 show ((w.heap.modify blk _) ++ os)[j]? = _
 rw [Array.getElem?_append_left (by simpa using hj), Array.getElem?_modify, if_neg (fun e => hs e.symm)]
theorem xle (l : List (Int × Int)) (v : Value) (base : Nat) (w : World) (h : w.ownsRow base 164 2 v l.length (cellsOf 2 encR l)) (hl : l.length < 1000000) :
 Calls Tryz.prog 142 #[v, .func (.func 143) #[] #[]] w fun e w' => e = .returned (.tuple #[]) ∧
  ∃ l', l'.Perm l ∧ l'.Pairwise (fun a b => a.1 ≤ b.1) ∧ SlOf 2 encR w' v l' ∧ xaa (fun b => v.ownBlock = some b) w w' := by
 rcases h.2 with ⟨rfl, h0⟩ | ⟨g, cap, cur, rfl, hg, hh, hn, hcap, _⟩
 · have hl0 : l = [] := List.length_eq_zero_iff.1 h0
   subst hl0
   have hc := AnyF.slices_SortFunc_none Tryz.sortR none 0 (.func (.func 143) #[] #[]) w
   change Calls Tryz.prog 142 _ _ _ at hc
   refine hc.mono ?_
   rintro e w' ⟨rfl, rfl⟩
   exact ⟨rfl, [], List.Perm.refl _, List.Pairwise.nil, SlOf.nil _ _ _, xaa.refl _ _⟩
 have eg : ∀ args w, (callFunc 143 args).run Tryz.prog w = .ok (.enter 143 args) w := enters_of Tryz.func143 (by kernel_rfl) rfl
 have hcell := h.cellAt
 have hfz := h.frozenAt
 have hH : HoldsK xgH 2 w g 0 l.toArray := by
  intro j hj
  rw [size_flatK] at hj
  have hj' : j < l.length * 2 := by simpa using hj
  refine ⟨?_, hfz _⟩
  rw [get_flatK _ _ _ _ hj, Nat.zero_add, hcell j hj']
  obtain ⟨x, hx⟩ : ∃ x, l[j / 2]? = some x := ⟨_, List.getElem?_eq_getElem (by omega)⟩
  have h1 := xaz 2 encR l (j / 2) x hx (j % 2) (by omega)
  rw [show j / 2 * 2 + j % 2 = j by omega] at h1
  rw [h1]
  have h2 : l.toArray[j / 2]! = x := by
   rw [getElem!_def]; simp [hx]
  rw [h2]
  have : j % 2 = 0 ∨ j % 2 = 1 := by omega
  rcases this with e | e <;> simp [e, encR, xgH]
 have hc := AnyQ.slices_SortFunc Tryz.sortR 2 Tryz.isAgg164 Tryz.sizeOf164 xgH (fun _ => rfl) (fun x v hv => by simp [xgH] at hv; rcases hv with rfl | rfl <;> rfl) xhH swoLo 143 #[] g 0 cap l.toArray w eg (fun _ _ _ _ x y => xkJ x y _) hH (Array.getElem?_eq_some_iff.1 hh).1 (by simp; omega)
 change Calls Tryz.prog 142 _ _ _ at hc
 simp only [List.size_toArray] at hc
 refine hc.mono ?_
 rintro e w' ⟨rfl, d', n, os, hp, hs, rfl⟩
 have hsz : d'.size = l.length := by simpa using hp.1
 have hHs : HoldsK xgH 2 (sortWorldK xgH 2 w g 0 n d' os) g 0 d' := holdsK_sortWorldK xgH 2 w g 0 n l.toArray d' os (Array.getElem?_eq_some_iff.1 hh).1 hH (by simpa using hp.1)
 refine ⟨rfl, d'.toList, ?_, ?_, ⟨some ⟨g, 0, none⟩, cap, by simp [hsz], by simp; omega, by simp; omega, fun _ => ⟨g, 0, rfl, fun i x hx j hj => ?_⟩⟩, (xeo xgH 2 w g 0 n d' os).mono (fun b _ hb => by subst hb; rfl)⟩
 · have h3 := hp.2.2
   rw [show d'.extract 0 l.length = d' by rw [← hsz]; simp] at h3
   rw [show l.toArray.extract 0 l.length = l.toArray by rw [show l.length = l.toArray.size by simp]; simp] at h3
   simpa using h3
 · rw [List.pairwise_iff_getElem]
   intro i j hi hj hij
   have h4 := hs i j (Nat.zero_le _) hij (by simpa [hsz] using hj)
   rw [ltLo] at h4
   rw [getElem!_pos d' i (by simpa using hi), getElem!_pos d' j (by simpa using hj)] at h4
   simp at h4
   simpa using h4
 have hi : i < d'.size := by
  rcases Nat.lt_or_ge i d'.size with h5 | h5
  · exact h5
  rw [List.getElem?_eq_none (by simpa using h5)] at hx; cases hx
 have h6 := (hHs.cell hi hj).1
 rw [h6]
 have h7 : d'[i]! = x := by
  rw [getElem!_pos d' i hi]
  rw [Array.getElem?_toList, Array.getElem?_eq_getElem hi] at hx
  exact Option.some.inj hx
 rw [h7]
 have : j = 0 ∨ j = 1 := by omega
 rcases this with rfl | rfl <;> rfl
end
end Go.Proofs.YtjahiihmoglpfaaGreatDoor
