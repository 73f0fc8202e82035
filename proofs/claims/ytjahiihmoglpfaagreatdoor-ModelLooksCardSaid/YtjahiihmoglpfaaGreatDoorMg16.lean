/-
  Several texts in one: The parser's alternatives; all of the parser by induction on how deep parentheses stand. The parser at texts of one piece: plain Lean. The parser's Parse. Where a text stands in another: the borders' way, in plain Lean. lit's borders.
-/
import Derived.Test.YtjahiihmoglpfaaGreatDoorMg15
import Derived.Test.YtjahiihmoglpfaaGreatDoorMg10
import Derived.Test.YtjahiihmoglpfaaGreatDoorMg2
import Derived.Test.YtjahiihmoglpfaaGreatDoorMg1
import Derived.Test.YtjahiihmoglpfaaGreatDoorProg
import Derived.BigQuiet
import Derived.Deep.QuietTactic
import Derived.IntWalk
import Derived.Handy
namespace Go.Proofs.YtjahiihmoglpfaaGreatDoor
open Go.RowKit
set_option linter.unusedVariables false
set_option linter.unusedSimpArgs false
set_option maxRecDepth 100000
theorem xa6.keepP {w wr w' : World} {pb : Nat} {rv kv : Value} {rs : List Int} {s s2 : PS} {l : List T} {vs : List NV} (h : xa6 w pb rv rs wr kv s l vs) (hpb : pb < w.heap.size) (hP : PaAt w' pb rv rs s2) (K : xaa (xao pb) wr w') : xa6 w pb rv rs w' kv s2 l vs :=
 ⟨xaD h.own K (by omega), h.kids.keepsTo K (fun b hb e => by have e : b = pb := e; have := hb.1; omega) (fun b hb => ⟨hb.1, by have := hb.2.1; have := K.size; omega, hb.2.2⟩), hP, h.keep.trans K⟩
theorem xa6.first {w w1 w2 : World} {pb : Nat} {rv : Value} {rs : List Int} {s2 : PS} {v : NV} {t : T} (hpb : pb < w.heap.size)
 (K0 : xaa (xao pb) (w.alloc (.cells #[.int .i64 0, .slice none 0 0, .int .i64 0, .int .i64 0, .slice none 0 0] 52)) w1) (hT : TAt w2 (Bt w1 w2) v t) (hP : PaAt w2 pb rv rs s2) (K : xaa (xao pb) w1 w2) :
 xa6 w pb rv rs (w2.alloc (.cells #[.int .i64 v.op, v.sv, .int .i64 v.mn, .int .i64 v.mx, v.kv] 52)) (.slice (some ⟨w2.heap.size, 0, none⟩) 1 1) s2 [t] [v] := by
 have hs0 := K0.size
 have hs1 := K.size
 simp at hs0
 have ka : xaa (fun _ => False) w2 (w2.alloc (.cells #[.int .i64 v.op, v.sv, .int .i64 v.mn, .int .i64 v.mx, v.kv] 52)) := (xaa.refl _ _).alloc _
 refine ⟨⟨rfl, Or.inr ⟨w2.heap.size, 1, _, rfl, by omega, heap_alloc_new w2 _, Nat.le_refl _, by unfold maxLen; decide, rfl, rfl⟩⟩, ?_, hP.keepsF ka, (K0.trans K).trans (ka.mono (fun _ _ e => e.elim))⟩
 exact FAt.cons_iff.2 ⟨v, [], rfl, hT.keepsTo ka (fun _ _ => id) (fun b hb => ⟨by have := hb.1; omega, by have := hb.2; simp; omega, fun e => by have := hb.2; simp [Value.ownBlock] at e; omega⟩), rfl⟩
def AltR (f : PS → T × PS) (D : PS → Prop) (w : World) (pb : Nat) (rv : Value) (rs : List Int) (R : List T × PS) (kv : Value) (wr : World) : Prop :=
 ∃ n s l vs, xa6 w pb rv rs wr kv s l vs ∧ xce f rs n s l = R ∧ Inv rs s ∧ D s ∧ rs.length + 9 ≤ n + s.pos ∧ l.length ≤ s.pos + 1
set_option maxHeartbeats 8000000 in
theorem xfO {f : PS → T × PS} {rs : List Int} {C D : PS → Prop} (H : xk5 f rs C D) : AltC (xeL f rs) rs D := by
 intro w pb rv s h hi hd
 have hpb := h.lt
 have hrb := h.rb
 obtain ⟨i0, hi0, hz0, hz1, hz2⟩ := info_parts xeq
 have HH := xmA h
 have HRB := xmA hrb
 have HST := xmA H
 have hlen := H.len
 have hpg := xcz H.go s
 have HI := xmA (hpg.inv hi)
 have HD := xmA (H.dd _ _ hd hpg)
 have HPC := xmA (fun (W : World) (hW : PaAt W pb rv rs s) => xe0 H W pb rv s hW hi hd)
 obtain ⟨R, hR⟩ : ∃ R, altR f rs s = R := ⟨_, rfl⟩
 obtain ⟨t1, ht1⟩ : ∃ x, (xaw f rs s).1 = x := ⟨_, rfl⟩
 obtain ⟨s1, hs1⟩ : ∃ x, (xaw f rs s).2 = x := ⟨_, rfl⟩
 have HR : Hid (xce f rs (rs.length + 9) s1 [t1] = R) := xmA (by rw [← hs1, ← ht1]; exact hR)
 have E : Hid (xeL f rs s = (xcc 5 R.1, R.2)) := xmA (by unfold xeL; rw [hR])
 rw [show xaw f rs s = (t1, s1) by rw [← ht1, ← hs1]] at HPC
 rw [hs1] at HI HD
 rw [E.out]
 clear E hR h hrb hi hd H hpg ht1 hs1
 go_enter Tryz.func62, Tryz.ntmps62
 go_wp2_with fail
 refine (HPC.out _ (HH.out.keepsF (KI.out))).mono ?_
 rintro e w1 ⟨v, rfl, hv, h1, k1⟩
 obtain ⟨o, a1, n1, c1, m, x, a2, n2, cc2, rfl⟩ := NV.form hv
 have hst := xa6.first hpb (xaa.refl _ _) hv h1 k1
 have HS1 := xmA hst
 clear hst hv h1 k1
 unfold NV.val
 go_wp2_with fail
 go_loopw [3] (fun kv wr => AltR f D w pb rv rs R kv wr) (fun _ wr => rs.length + 30 - xjZ wr pb)
 case atStart => exact ⟨rs.length + 9, s1, [t1], _, HS1.out, HR.out, HI.out, HD.out, by omega, by simp⟩
 case round =>
  obtain ⟨n, s', l, vs, hK, hgo, hinv, hd, hn, hll⟩ := hrel
  have HK := xmA hK
  have hsz := hK.size
  obtain ⟨ka, kc, rfl⟩ := xad hK.own
  have hap := hK.pa.lt
  have Hpo := xmA (xaN hK.pa)
  have hpa := hinv.a
  have Hgo := xmA hgo
  have Hinv := xmA hinv
  have Hd := xmA hd
  clear hK hgo hinv hd
  by_cases hq : pk rs s' = 124
  · have hroom := xaL (rs := rs) (s := s') (by omega)
    have HTk := xmA (xbO wr pb rv rs s' 124 HK.out.pa (by omega))
    have e1 : tkB rs 124 s' = true := by unfold tkB; simpa using hq
    have e2 : (tk rs 124 s').pos = s'.pos + 1 := by unfold tk; rw [if_pos hq]
    have htg := xgZ rs 124 s' (by omega)
    have hd2 := HST.out.dd _ _ Hd.out htg
    have hi2 := htg.inv Hinv.out
    have hpg := xcz HST.out.go (tk rs 124 s')
    have Hgo2 : Hid (xce f rs (n - 1) (xaw f rs (tk rs 124 s')).2 (l ++ [(xaw f rs (tk rs 124 s')).1]) = R) := xmA (by
     have := Hgo.out
     obtain ⟨m, rfl⟩ : ∃ m, n = m + 1 := ⟨n - 1, by omega⟩
     rw [xce, if_pos hq] at this
     exact this)
    have hpp := hpg.pos
    have HI3 := xmA (hpg.inv hi2)
    have HD3 := xmA (HST.out.dd _ _ hd2 hpg)
    have HPC2 := xmA (fun (W : World) (hW : PaAt W pb rv rs (tk rs 124 s')) => xe0 HST.out W pb rv (tk rs 124 s') hW hi2 hd2)
    rw [e1] at HTk
    rw [e2] at hpp
    obtain ⟨t2, ht2⟩ : ∃ x, (xaw f rs (tk rs 124 s')).1 = x := ⟨_, rfl⟩
    obtain ⟨s2, hs2⟩ : ∃ x, (xaw f rs (tk rs 124 s')).2 = x := ⟨_, rfl⟩
    rw [show xaw f rs (tk rs 124 s') = (t2, s2) by rw [← ht2, ← hs2]] at HPC2
    rw [ht2, hs2] at Hgo2
    rw [hs2] at HI3 HD3 hpp
    clear ht2 hs2 hpg hi2 hd2 htg e1 e2 hq
    generalize tk rs 124 s' = st at *
    go_wp2_with fail
    refine HTk.out.mono ?_
    rintro e w2 ⟨rfl, h2, k2⟩
    have P2 := xmA h2
    have HK2 := xmA (HK.out.keepP hpb h2 k2)
    have hsk2 := k2.size
    clear h2 k2
    go_wp2_with fail
    refine (HPC2.out _ P2.out).mono ?_
    rintro e w3 ⟨v, rfl, hv, h3, k3⟩
    obtain ⟨o, a1, n1, c1, m, x, a2, n2, cc2, rfl⟩ := NV.form hv
    have HM := xmA (HK2.out.mid hpb hv h3 k3)
    have hs3 := k3.size
    clear hv h3 k3
    unfold NV.val
    go_wp2_with (at_builtin; refine wpList_append_own_at _ rfl (.tmp 9) (.tmp 12) 50 rfl (w.heap.size + 1) 52 i0 _ 5 72 Tryz.underlying50 hi0 hz0 hz1 hz2 rfl (by decide) _ _ _ rfl (xac HM.out.own _) ⟨w3.heap.size, 0, none⟩ 1 1 [.int .i64 o, .slice a1 n1 c1, .int .i64 m, .int .i64 x, .slice a2 n2 cc2] rfl rfl (by exact xak _ [_, _, _, _, _] _) (by intro u hu; simp at hu; rcases hu with rfl | rfl | rfl | rfl | rfl <;> rfl) ?d3 ?d4 ?d5 ?_)
    case d3 => unfold maxLen; omega
    case d4 => omega
    case d5 => simp; omega
    intro v' w9 hown' hgrow _ hloc
    have HK9 := xmA (HM.out.snoc hpb HRB.out hown' hgrow hloc)
    clear hown' hgrow hloc
    go_wp2_with fail
    have h6 := xaN HK9.out.pa
    have h7 := Hpo.out
    have h8 := HI3.out.a
    go_roundw
    case rel => exact ⟨n - 1, s2, _, _, HK9.out, Hgo2.out, HI3.out, HD3.out, by omega, by simp; omega⟩
    case measure => omega
  have hE : R = (l, s') := by
   have := Hgo.out
   cases n with
   | zero => exact this.symm
   | succ n => rw [xce, if_neg hq] at this; exact this.symm
  subst hE
  have HTk := xmA (xa3 124 HK.out.pa hq (by omega))
  have HJ := xmA (fun (W : World) (h : xa6 w pb rv rs W (.slice ka l.length kc) s' l vs) => xic 5 (.slice ka l.length kc) vs l (fun b => w.heap.size < b ∧ b < W.heap.size) W
   (h.slof (by omega)) (h.kids.keepsTo (xaa.refl (fun _ => False) _) (fun _ _ => id) (fun b hb => ⟨hb.1, hb.2.1⟩)) (fun b hb => ⟨by have := xab h.own b hb; omega, xax h.own b hb⟩))
  clear hq
  go_wp2_with fail
  refine HTk.out.mono ?_
  rintro e w2 ⟨rfl, h2, k2⟩
  have HK2 := xmA (HK.out.keepP hpb h2 k2)
  clear h2 k2
  go_wp2_with fail
  refine (HJ.out _ HK2.out).mono ?_
  rintro e w5 ⟨v, rfl, hv, k5⟩
  obtain ⟨o, a1, n1, c1, m, x, a2, n2, cc2, rfl⟩ := NV.form hv
  have KX := xmA (HK2.out.keep.trans (k5.mono (T := xao pb) (fun _ _ e => e.elim)))
  have HPX := xmA (HK2.out.pa.keepsF k5)
  have HTX := xmA (hv.keepsTo (Q := fun b => w.heap.size < b ∧ b < w5.heap.size) (xaa.refl (fun _ => False) _) (fun _ _ => id) (fun b hb => ⟨hb.1, by have := k5.size; omega⟩))
  obtain ⟨⟨y0, y1, y2, y3, y4⟩, q0, q1, q2, q3, q4⟩ := xay KX.out hpb
  clear hv k5
  unfold NV.val
  go_wp2_with fail
  obtain ⟨wE, hWE⟩ : ∃ W, st5 (w5) w.heap.size (.int .i64 o) (.slice a1 n1 c1) (.int .i64 m) (.int .i64 x) (.slice a2 n2 cc2) = W := ⟨_, rfl⟩
  obtain ⟨r0, r1, r2, r3, r4, kE⟩ := xav (w5) w.heap.size y0 y1 y2 y3 y4 (.int .i64 o) (.slice a1 n1 c1) (.int .i64 m) (.int .i64 x) (.slice a2 n2 cc2)
  rw [hWE] at r0 r1 r2 r3 r4 kE
  unfold st5 at hWE
  rw [hWE]
  have HKE := xmA kE
  clear kE hWE y0 y1 y2 y3 y4
  refine bodyPost_ret (by simp [results, Tryz.results62, go_sem, r0, r1, r2, r3, r4]; try rfl) rfl ?_
  exact xaB (v := ⟨o, .slice a1 n1 c1, m, x, .slice a2 n2 cc2⟩) hpb HH.out.rb KX.out HPX.out HTX.out HKE.out
theorem xkX (f : PS → T × PS) (rs : List Int) (s : PS) (h : s.bad = true) : xeL f rs s = (xbh, s) := by
 have h1 : pk rs s = -1 := by unfold pk; rw [if_pos h]
 have h2 : xaw f rs s = (xbh, s) := by
  unfold xaw pcsR
  have : xc f rs (rs.length + 9) s [] = ([], s) := by unfold xc; rw [h1]; rfl
  rw [this]; rfl
 unfold xeL altR
 rw [h2]
 have : xce f rs (rs.length + 9) s [xbh] = ([xbh], s) := by unfold xce; rw [h1]; rfl
 rw [this]; rfl
def Dn (n : Nat) (s : PS) : Prop := 0 ≤ s.deep ∧ s.deep ≤ 11 ∧ (s.bad = false → s.deep ≤ 10 ∧ 10 ≤ s.deep + n)
theorem Dn.go {n : Nat} {rs : List Int} {s s' : PS} (h : Dn n s) (g : Go1 rs s s') : Dn n s' := by
 unfold Dn at h ⊢
 rw [g.deep]
 refine ⟨h.1, h.2.1, fun hb => h.2.2 ?_⟩
 cases hs : s.bad with
 | false => rfl
 | true => rw [g.bad hs] at hb; cases hb
theorem xmj (rs : List Int) (hl : rs.length ≤ 9000) : AltC (fun s => (xbh, s)) rs (fun s => s.bad = true ∧ 0 ≤ s.deep ∧ s.deep ≤ 11) := by
 have h := xfO (f := fun s => (xbh, s)) (rs := rs) (C := fun _ => False) (D := fun s => s.bad = true ∧ 0 ≤ s.deep ∧ s.deep ≤ 11)
  ⟨fun s => Go1.refl _ _, fun _ _ _ _ _ _ h => h.elim, fun s h hb => (by rw [h.1] at hb; cases hb), fun s s' h g => ⟨g.bad h.1, by rw [g.deep]; exact h.2.1, by rw [g.deep]; exact h.2.2⟩, fun s h => ⟨h.2.1, by omega⟩, hl⟩
 intro w pb rv s hP hi hc
 have := h w pb rv s hP hi hc
 rwa [xkX _ _ _ hc.1] at this
theorem xmk (rs : List Int) (hl : rs.length ≤ 9000) : ∀ n, AltC (alts rs n) rs (Dn n) := by
 intro n
 induction n with
 | zero =>
  exact xfO (f := fun s => (xbh, s)) ⟨fun s => Go1.refl _ _, xmj rs hl, fun s h hb => by
   have := h.2.2 hb
   exact ⟨by simp; omega, by simp only; have := h.1; omega, by simp only; omega⟩, fun s s' h g => h.go g, fun s h => ⟨h.1, by have := h.2.1; omega⟩, hl⟩
 | succ n ih =>
  exact xfO (f := alts rs n) ⟨xkW rs n, ih, fun s h hb => by
   have h1 := h.2.2 hb
   have h2 := h.1
   refine ⟨by simp only; omega, by simp only; omega, fun hb2 => ?_⟩
   simp only [decide_eq_false_iff_not] at hb2
   simp only
   push_cast at h1
   omega, fun s s' h g => h.go g, fun s h => ⟨h.1, by have := h.2.1; omega⟩, hl⟩
noncomputable def xe2 (rs : List Int) : T × Int :=
 if (alts rs 11 ⟨0, 0, false⟩).2.bad = true ∨ (alts rs 11 ⟨0, 0, false⟩).2.pos ≠ rs.length then (xbh, 15) else ((alts rs 11 ⟨0, 0, false⟩).1, 0)
noncomputable def xbw (l : List UInt8) : T × Int :=
 if 200 < l.length then (xbh, 16) else match pts l with | none => (xbh, 15) | some rs => xe2 rs
theorem xiO : ∀ (n : Nat) (l : List UInt8) (rs : List Int), ptsP n l = some rs → rs.length ≤ l.length ∧ ∀ r ∈ rs, 0 ≤ r ∧ r ≤ 1114111 := by
 intro n
 induction n with
 | zero => intro l rs h; simp [ptsP] at h; subst h; simp
 | succ n ih =>
  intro l rs h
  rcases l with _ | ⟨c, l⟩
  · simp [ptsP] at h; subst h; simp
  rw [ptsP, if_neg (by simp)] at h
  by_cases hs : sizP (getP (c :: l)).1 = ((getP (c :: l)).2 : Int)
  · rw [if_pos hs, Option.map_eq_some_iff] at h
    obtain ⟨rs', h1, rfl⟩ := h
    have h2 := ih _ _ h1
    have hp := xbS c l
    have hb : isB (getP (c :: l)).1 = true := by
     unfold sizP at hs
     cases hb : isB (getP (c :: l)).1 with
     | true => rfl
     | false => rw [hb] at hs; simp at hs; omega
    have hr : 0 ≤ (getP (c :: l)).1 ∧ (getP (c :: l)).1 ≤ 1114111 := by
     simp [isB] at hb; omega
    refine ⟨?_, ?_⟩
    · have h3 := h2.1
      rw [List.length_drop] at h3
      simp only [List.length_cons] at h3 ⊢; omega
    intro r hr'
    rcases List.mem_cons.1 hr' with rfl | hr'
    · exact hr
    exact h2.2 r hr'
  rw [if_neg hs] at h; cases h
theorem xgh {l : List UInt8} {rs : List Int} (h : pts l = some rs) : rs.length ≤ l.length ∧ ∀ r ∈ rs, 0 ≤ r ∧ r ≤ 1114111 := xiO _ _ _ h
theorem xkO (rs : List Int) : cellsOf 1 encI rs = rs.map (Value.int .i64) := by
 induction rs with
 | nil => rfl
 | cons r rs ih => rw [List.map_cons, ← ih]; simp [cellsOf, encI, List.range_succ]
theorem xgE (w : World) (cs : Array Value) (T : TypeId) (o : Nat) : (w.alloc (.cells cs T)).frozen? ⟨w.heap.size, o, none⟩ = false := by simp [go_sem]
theorem PaAt.start {w w2 : World} {rv : Value} {rs : List Int} (hown : w2.ownsRow w.heap.size 3 1 rv rs.length (rs.map (Value.int .i64))) (hl : rs.length ≤ 1000) (hr : ∀ r ∈ rs, 0 ≤ r ∧ r ≤ 1114111) :
 PaAt (w2.alloc (.cells #[rv, .int .i64 0, .int .i64 0, .bool false] 123)) w2.heap.size rv rs ⟨0, 0, false⟩ := by
 have hlt := xax hown
 rw [← xkO] at hown
 have hs := SlOf.ofOwn (enc := encI) hown (by omega)
 have K : xaa (fun _ => False) w2 (w2.alloc (.cells #[rv, .int .i64 0, .int .i64 0, .bool false] 123)) := (xaa.refl _ _).alloc _
 exact ⟨by simp [go_sem], by simp [go_sem], by simp [go_sem], by simp [go_sem], fun o => xgE _ _ _ _, hs.keep K, fun e => by have := hlt _ e; omega, by omega, by simp, hr, fun b hb => by have := hlt _ hb; simp; omega⟩
def xfQ (w : World) (r : T × Int) (e : Ending) (w' : World) : Prop :=
 ∃ v : NV, e = .returned (.tuple #[v.val, .int .i64 r.2]) ∧ TAt w' (fun b => w.heap.size ≤ b) v r.1 ∧ xaa (fun _ => False) w w'
theorem zeroRet (w w' : World) (n : Int) (K : xaa (fun _ => False) w w') : xfQ w (xbh, n) (.returned (.tuple #[NV.val ⟨0, .slice none 0 0, 0, 0, .slice none 0 0⟩, .int .i64 n])) w' := ⟨_, rfl, TAt.zero _ _, K⟩
theorem xb3 {w wX wE : World} {t : T} {v : NV} {n : Int} (K : xaa (fun _ => False) w wX) (hT : TAt wX (fun b => w.heap.size < b) v t) (kE : xaa (fun b => b = w.heap.size) wX wE) : xfQ w (t, n) (.returned (.tuple #[v.val, .int .i64 n])) wE :=
 ⟨v, rfl, hT.keepsTo kE (fun b hb e => by omega) (fun b hb => by omega), K.trans2 kE (fun b hb e => by omega)⟩
theorem xcy {w wX : World} {pb : Nat} (K : xaa (xao pb) (w.alloc (.cells #[.int .i64 0, .slice none 0 0, .int .i64 0, .int .i64 0, .slice none 0 0] 52)) wX) (hpb : ¬ w.heap.size = pb) :
 (wX.cell? ⟨w.heap.size, 0, none⟩ = some (.int .i64 0) ∧ wX.cell? ⟨w.heap.size, 1, none⟩ = some (.slice none 0 0) ∧ wX.cell? ⟨w.heap.size, 2, none⟩ = some (.int .i64 0) ∧ wX.cell? ⟨w.heap.size, 3, none⟩ = some (.int .i64 0) ∧ wX.cell? ⟨w.heap.size, 4, none⟩ = some (.slice none 0 0)) ∧
 (wX.frozen? ⟨w.heap.size, 0, none⟩ = false ∧ wX.frozen? ⟨w.heap.size, 1, none⟩ = false ∧ wX.frozen? ⟨w.heap.size, 2, none⟩ = false ∧ wX.frozen? ⟨w.heap.size, 3, none⟩ = false ∧ wX.frozen? ⟨w.heap.size, 4, none⟩ = false) :=
 ⟨⟨K.cell (by simp [go_sem]) hpb, K.cell (by simp [go_sem]) hpb, K.cell (by simp [go_sem]) hpb, K.cell (by simp [go_sem]) hpb, K.cell (by simp [go_sem]) hpb⟩,
  K.frozen (by simp [go_sem]) (by simp) hpb, K.frozen (by simp [go_sem]) (by simp) hpb, K.frozen (by simp [go_sem]) (by simp) hpb, K.frozen (by simp [go_sem]) (by simp) hpb, K.frozen (by simp [go_sem]) (by simp) hpb⟩
theorem xdb {w wX : World} {pb : Nat} (K : xaa (xao pb) (w.alloc (.cells #[.int .i64 0, .slice none 0 0, .int .i64 0, .int .i64 0, .slice none 0 0] 52)) wX) (hpb : w.heap.size ≤ pb) : xaa (fun _ => False) w wX :=
 xaa.trans2 (xaa.alloc (xaa.refl _ _) _) K (fun b hb e => by have e : b = pb := e; omega)
set_option maxHeartbeats 8000000 in
theorem xej (l : List UInt8) (w : World) (hm : l.length ≤ 9223372036854775807) : Calls Tryz.prog 33 #[.string ⟨l.toArray⟩] w (xfQ w (xbw l)) := by
 by_cases hlen : 200 < l.length
 · have hP : xbw l = (xbh, 16) := by unfold xbw; rw [if_pos hlen]
   rw [hP]
   have g0 : decide ((200 : Int) < (l.length : Int)) = true := by simp; omega
   have g1 : decide (200 < l.length) = true := by simpa using hlen
   go_enter Tryz.func33, Tryz.ntmps33
   go_wp2_with fail
   go_returns
   exact zeroRet _ _ _ (KI.out)
 have g0 : decide ((200 : Int) < (l.length : Int)) = false := by simp; omega
 have g1 : decide (200 < l.length) = false := by simpa using hlen
 have HPt := xmA (fun W => xiQ l W (by omega))
 unfold PtsE at HPt
 cases hpt : pts l with
 | none =>
  rw [show xbw l = (xbh, 15) by unfold xbw; rw [if_neg hlen, hpt]]
  rw [hpt] at HPt
  clear hpt
  simp only at HPt
  go_enter Tryz.func33, Tryz.ntmps33
  go_wp2_with fail
  refine (HPt.out _).mono ?_
  rintro e w2 ⟨rfl, k2⟩
  have k3 : xaa (xao (w.heap.size + 1)) (w.alloc (.cells #[.int .i64 0, .slice none 0 0, .int .i64 0, .int .i64 0, .slice none 0 0] 52)) w2 := k2.mono (fun _ _ e => e.elim)
  have K3 := xmA (xdb k3 (by omega))
  obtain ⟨⟨y0, y1, y2, y3, y4⟩, q0, q1, q2, q3, q4⟩ := xcy k3 (by omega)
  clear k2 k3
  go_wp2_with fail
  obtain ⟨wE, hWE⟩ : ∃ W, st5 (w2) w.heap.size (.int .i64 0) (.slice none 0 0) (.int .i64 0) (.int .i64 0) (.slice none 0 0) = W := ⟨_, rfl⟩
  obtain ⟨r0, r1, r2, r3, r4, kE⟩ := xav (w2) w.heap.size y0 y1 y2 y3 y4 (.int .i64 0) (.slice none 0 0) (.int .i64 0) (.int .i64 0) (.slice none 0 0)
  rw [hWE] at r0 r1 r2 r3 r4 kE
  unfold st5 at hWE
  rw [hWE]
  have HKE := xmA kE
  clear kE hWE y0 y1 y2 y3 y4
  refine bodyPost_ret (by simp [results, Tryz.results33, go_sem, r0, r1, r2, r3, r4]; try rfl) rfl ?_
  exact xb3 (v := ⟨0, .slice none 0 0, 0, 0, .slice none 0 0⟩) (n := 15) K3.out (TAt.zero _ _) HKE.out
 | some rs =>
  obtain ⟨hrl, hrr⟩ := xgh hpt
  rw [show xbw l = xe2 rs by unfold xbw; rw [if_neg hlen, hpt]]
  rw [hpt] at HPt
  clear hpt
  simp only at HPt
  have HA := xmA (xmk rs (by omega) 11)
  have HGo := xmA (xkW rs 11 ⟨0, 0, false⟩)
  obtain ⟨t1, ht1⟩ : ∃ x, (alts rs 11 ⟨0, 0, false⟩).1 = x := ⟨_, rfl⟩
  obtain ⟨s1, hs1⟩ : ∃ x, (alts rs 11 ⟨0, 0, false⟩).2 = x := ⟨_, rfl⟩
  have hR : xe2 rs = if s1.bad = true ∨ s1.pos ≠ rs.length then (xbh, 15) else (t1, 0) := by unfold xe2; rw [ht1, hs1]
  rw [hR]
  have HE : Hid (alts rs 11 ⟨0, 0, false⟩ = (t1, s1)) := xmA (by rw [← ht1, ← hs1])
  clear hR ht1 hs1
  have HRR := xmA hrr
  clear hrr
  have hcase : (s1.bad = true) ∨ (s1.bad = false ∧ s1.pos ≠ rs.length) ∨ (s1.bad = false ∧ s1.pos = rs.length) := by
   cases s1.bad <;> simp; omega
  rcases hcase with hb | ⟨hb, hp⟩ | ⟨hb, hp⟩
  · rw [if_pos (Or.inl hb)]
    go_enter Tryz.func33, Tryz.ntmps33
    go_wp2_with fail
    refine (HPt.out _).mono ?_
    rintro e w2 ⟨⟨rv, rfl, hown⟩, k2⟩
    have hs2 := k2.size
    simp at hs2
    have hown2 : w2.ownsRow (w.alloc (.cells #[.int .i64 0, .slice none 0 0, .int .i64 0, .int .i64 0, .slice none 0 0] 52)).heap.size 3 1 rv rs.length (rs.map (Value.int .i64)) := hown
    have hst := PaAt.start (w := w.alloc (.cells #[.int .i64 0, .slice none 0 0, .int .i64 0, .int .i64 0, .slice none 0 0] 52)) hown2 (by omega) HRR.out
    obtain ⟨ra, rc, rfl⟩ := xad hown
    have K2 := xmA k2
    have HS := xmA hst
    clear hown hown2 hst k2
    go_wp2_with fail
    refine (HA.out _ w2.heap.size (.slice ra rs.length rc) ⟨0, 0, false⟩ HS.out ⟨by simp, fun _ => by simp⟩ ⟨by simp, by simp, fun _ => ⟨by simp, by simp⟩⟩).mono ?_
    rw [HE.out]
    rintro e w3 ⟨v, rfl, hv, h3, k3⟩
    obtain ⟨o, a1, n1, c1, m, x, a2, n2, cc2, rfl⟩ := NV.form hv
    have hs3 := k3.size
    simp at hs3
    have k23 : xaa (xao w2.heap.size) (w.alloc (.cells #[.int .i64 0, .slice none 0 0, .int .i64 0, .int .i64 0, .slice none 0 0] 52)) w3 := xaa.trans (K2.out.mono (fun _ _ e => e.elim)) (xaa.trans (KI.out) k3)
    have d1 := h3.c1
    have d3 := h3.c3
    have HP3 := xmA h3
    have hpl := h3.lt
    simp only at d1 d3
    rw [hb] at d3
    have KX := xmA (xdb k23 (by omega))
    obtain ⟨⟨y0, y1, y2, y3, y4⟩, q0, q1, q2, q3, q4⟩ := xcy k23 (by omega)
    have HV := xmA hv
    clear hv h3 k3
    have y0 := xaj y0 (.cells #[.int .i64 o, .slice a1 n1 c1, .int .i64 m, .int .i64 x, .slice a2 n2 cc2] 52)
    have y1 := xaj y1 (.cells #[.int .i64 o, .slice a1 n1 c1, .int .i64 m, .int .i64 x, .slice a2 n2 cc2] 52)
    have y2 := xaj y2 (.cells #[.int .i64 o, .slice a1 n1 c1, .int .i64 m, .int .i64 x, .slice a2 n2 cc2] 52)
    have y3 := xaj y3 (.cells #[.int .i64 o, .slice a1 n1 c1, .int .i64 m, .int .i64 x, .slice a2 n2 cc2] 52)
    have y4 := xaj y4 (.cells #[.int .i64 o, .slice a1 n1 c1, .int .i64 m, .int .i64 x, .slice a2 n2 cc2] 52)
    have q0 := xat q0 (by show w.heap.size < w3.heap.size; omega) (.cells #[.int .i64 o, .slice a1 n1 c1, .int .i64 m, .int .i64 x, .slice a2 n2 cc2] 52)
    have q1 := xat q1 (by show w.heap.size < w3.heap.size; omega) (.cells #[.int .i64 o, .slice a1 n1 c1, .int .i64 m, .int .i64 x, .slice a2 n2 cc2] 52)
    have q2 := xat q2 (by show w.heap.size < w3.heap.size; omega) (.cells #[.int .i64 o, .slice a1 n1 c1, .int .i64 m, .int .i64 x, .slice a2 n2 cc2] 52)
    have q3 := xat q3 (by show w.heap.size < w3.heap.size; omega) (.cells #[.int .i64 o, .slice a1 n1 c1, .int .i64 m, .int .i64 x, .slice a2 n2 cc2] 52)
    have q4 := xat q4 (by show w.heap.size < w3.heap.size; omega) (.cells #[.int .i64 o, .slice a1 n1 c1, .int .i64 m, .int .i64 x, .slice a2 n2 cc2] 52)
    unfold NV.val
    clear k23
    go_wp2_with fail
    have k4 : xaa (fun _ => False) w3 (w3.alloc (.cells #[.int .i64 o, .slice a1 n1 c1, .int .i64 m, .int .i64 x, .slice a2 n2 cc2] 52)) := (xaa.refl _ _).alloc _
    have K4 := xmA (KX.out.trans k4)
    have HV4 := xmA (HV.out.keepsTo (Q := fun b => w.heap.size < b) k4 (fun _ _ => id) (fun b hb => by have := hb.1; simp at this; omega))
    obtain ⟨w4, hw4⟩ : ∃ W, w3.alloc (.cells #[.int .i64 o, .slice a1 n1 c1, .int .i64 m, .int .i64 x, .slice a2 n2 cc2] 52) = W := ⟨_, rfl⟩
    rw [hw4] at y0 y1 y2 y3 y4 K4 HV4 ⊢
    clear q0 q1 q2 q3 q4
    obtain ⟨wE, hWE⟩ : ∃ W, st5 (w4) w.heap.size (.int .i64 0) (.slice none 0 0) (.int .i64 0) (.int .i64 0) (.slice none 0 0) = W := ⟨_, rfl⟩
    obtain ⟨r0, r1, r2, r3, r4, kE⟩ := xav (w4) w.heap.size y0 y1 y2 y3 y4 (.int .i64 0) (.slice none 0 0) (.int .i64 0) (.int .i64 0) (.slice none 0 0)
    rw [hWE] at r0 r1 r2 r3 r4 kE
    unfold st5 at hWE
    rw [hWE]
    have HKE := xmA kE
    clear kE hWE y0 y1 y2 y3 y4
    refine bodyPost_ret (by simp [results, Tryz.results33, go_sem, r0, r1, r2, r3, r4]; try rfl) rfl ?_
    exact xb3 (v := ⟨0, .slice none 0 0, 0, 0, .slice none 0 0⟩) (n := 15) K4.out (TAt.zero _ _) HKE.out
  · rw [if_pos (Or.inr hp)]
    have f1 : ((s1.pos : Int) != (rs.length : Int)) = true := by simp; omega
    go_enter Tryz.func33, Tryz.ntmps33
    go_wp2_with fail
    refine (HPt.out _).mono ?_
    rintro e w2 ⟨⟨rv, rfl, hown⟩, k2⟩
    have hs2 := k2.size
    simp at hs2
    have hown2 : w2.ownsRow (w.alloc (.cells #[.int .i64 0, .slice none 0 0, .int .i64 0, .int .i64 0, .slice none 0 0] 52)).heap.size 3 1 rv rs.length (rs.map (Value.int .i64)) := hown
    have hst := PaAt.start (w := w.alloc (.cells #[.int .i64 0, .slice none 0 0, .int .i64 0, .int .i64 0, .slice none 0 0] 52)) hown2 (by omega) HRR.out
    obtain ⟨ra, rc, rfl⟩ := xad hown
    have K2 := xmA k2
    have HS := xmA hst
    clear hown hown2 hst k2
    go_wp2_with fail
    refine (HA.out _ w2.heap.size (.slice ra rs.length rc) ⟨0, 0, false⟩ HS.out ⟨by simp, fun _ => by simp⟩ ⟨by simp, by simp, fun _ => ⟨by simp, by simp⟩⟩).mono ?_
    rw [HE.out]
    rintro e w3 ⟨v, rfl, hv, h3, k3⟩
    obtain ⟨o, a1, n1, c1, m, x, a2, n2, cc2, rfl⟩ := NV.form hv
    have hs3 := k3.size
    simp at hs3
    have k23 : xaa (xao w2.heap.size) (w.alloc (.cells #[.int .i64 0, .slice none 0 0, .int .i64 0, .int .i64 0, .slice none 0 0] 52)) w3 := xaa.trans (K2.out.mono (fun _ _ e => e.elim)) (xaa.trans (KI.out) k3)
    have d1 := h3.c1
    have d3 := h3.c3
    have HP3 := xmA h3
    have hpl := h3.lt
    simp only at d1 d3
    rw [hb] at d3
    have KX := xmA (xdb k23 (by omega))
    obtain ⟨⟨y0, y1, y2, y3, y4⟩, q0, q1, q2, q3, q4⟩ := xcy k23 (by omega)
    have HV := xmA hv
    clear hv h3 k3
    have y0 := xaj y0 (.cells #[.int .i64 o, .slice a1 n1 c1, .int .i64 m, .int .i64 x, .slice a2 n2 cc2] 52)
    have y1 := xaj y1 (.cells #[.int .i64 o, .slice a1 n1 c1, .int .i64 m, .int .i64 x, .slice a2 n2 cc2] 52)
    have y2 := xaj y2 (.cells #[.int .i64 o, .slice a1 n1 c1, .int .i64 m, .int .i64 x, .slice a2 n2 cc2] 52)
    have y3 := xaj y3 (.cells #[.int .i64 o, .slice a1 n1 c1, .int .i64 m, .int .i64 x, .slice a2 n2 cc2] 52)
    have y4 := xaj y4 (.cells #[.int .i64 o, .slice a1 n1 c1, .int .i64 m, .int .i64 x, .slice a2 n2 cc2] 52)
    have q0 := xat q0 (by show w.heap.size < w3.heap.size; omega) (.cells #[.int .i64 o, .slice a1 n1 c1, .int .i64 m, .int .i64 x, .slice a2 n2 cc2] 52)
    have q1 := xat q1 (by show w.heap.size < w3.heap.size; omega) (.cells #[.int .i64 o, .slice a1 n1 c1, .int .i64 m, .int .i64 x, .slice a2 n2 cc2] 52)
    have q2 := xat q2 (by show w.heap.size < w3.heap.size; omega) (.cells #[.int .i64 o, .slice a1 n1 c1, .int .i64 m, .int .i64 x, .slice a2 n2 cc2] 52)
    have q3 := xat q3 (by show w.heap.size < w3.heap.size; omega) (.cells #[.int .i64 o, .slice a1 n1 c1, .int .i64 m, .int .i64 x, .slice a2 n2 cc2] 52)
    have q4 := xat q4 (by show w.heap.size < w3.heap.size; omega) (.cells #[.int .i64 o, .slice a1 n1 c1, .int .i64 m, .int .i64 x, .slice a2 n2 cc2] 52)
    unfold NV.val
    clear k23 hp
    go_wp2_with fail
    have k4 : xaa (fun _ => False) w3 (w3.alloc (.cells #[.int .i64 o, .slice a1 n1 c1, .int .i64 m, .int .i64 x, .slice a2 n2 cc2] 52)) := (xaa.refl _ _).alloc _
    have K4 := xmA (KX.out.trans k4)
    have HV4 := xmA (HV.out.keepsTo (Q := fun b => w.heap.size < b) k4 (fun _ _ => id) (fun b hb => by have := hb.1; simp at this; omega))
    obtain ⟨w4, hw4⟩ : ∃ W, w3.alloc (.cells #[.int .i64 o, .slice a1 n1 c1, .int .i64 m, .int .i64 x, .slice a2 n2 cc2] 52) = W := ⟨_, rfl⟩
    rw [hw4] at y0 y1 y2 y3 y4 K4 HV4 ⊢
    clear q0 q1 q2 q3 q4
    obtain ⟨wE, hWE⟩ : ∃ W, st5 (w4) w.heap.size (.int .i64 0) (.slice none 0 0) (.int .i64 0) (.int .i64 0) (.slice none 0 0) = W := ⟨_, rfl⟩
    obtain ⟨r0, r1, r2, r3, r4, kE⟩ := xav (w4) w.heap.size y0 y1 y2 y3 y4 (.int .i64 0) (.slice none 0 0) (.int .i64 0) (.int .i64 0) (.slice none 0 0)
    rw [hWE] at r0 r1 r2 r3 r4 kE
    unfold st5 at hWE
    rw [hWE]
    have HKE := xmA kE
    clear kE hWE y0 y1 y2 y3 y4
    refine bodyPost_ret (by simp [results, Tryz.results33, go_sem, r0, r1, r2, r3, r4]; try rfl) rfl ?_
    exact xb3 (v := ⟨0, .slice none 0 0, 0, 0, .slice none 0 0⟩) (n := 15) K4.out (TAt.zero _ _) HKE.out
  rw [if_neg (by rw [hb]; simp; exact hp)]
  go_enter Tryz.func33, Tryz.ntmps33
  go_wp2_with fail
  refine (HPt.out _).mono ?_
  rintro e w2 ⟨⟨rv, rfl, hown⟩, k2⟩
  have hs2 := k2.size
  simp at hs2
  have hown2 : w2.ownsRow (w.alloc (.cells #[.int .i64 0, .slice none 0 0, .int .i64 0, .int .i64 0, .slice none 0 0] 52)).heap.size 3 1 rv rs.length (rs.map (Value.int .i64)) := hown
  have hst := PaAt.start (w := w.alloc (.cells #[.int .i64 0, .slice none 0 0, .int .i64 0, .int .i64 0, .slice none 0 0] 52)) hown2 (by omega) HRR.out
  obtain ⟨ra, rc, rfl⟩ := xad hown
  have K2 := xmA k2
  have HS := xmA hst
  clear hown hown2 hst k2
  go_wp2_with fail
  refine (HA.out _ w2.heap.size (.slice ra rs.length rc) ⟨0, 0, false⟩ HS.out ⟨by simp, fun _ => by simp⟩ ⟨by simp, by simp, fun _ => ⟨by simp, by simp⟩⟩).mono ?_
  rw [HE.out]
  rintro e w3 ⟨v, rfl, hv, h3, k3⟩
  obtain ⟨o, a1, n1, c1, m, x, a2, n2, cc2, rfl⟩ := NV.form hv
  have hs3 := k3.size
  simp at hs3
  have k23 : xaa (xao w2.heap.size) (w.alloc (.cells #[.int .i64 0, .slice none 0 0, .int .i64 0, .int .i64 0, .slice none 0 0] 52)) w3 := xaa.trans (K2.out.mono (fun _ _ e => e.elim)) (xaa.trans (KI.out) k3)
  have d1 := h3.c1
  have d3 := h3.c3
  have HP3 := xmA h3
  have hpl := h3.lt
  simp only at d1 d3
  rw [hb] at d3
  have KX := xmA (xdb k23 (by omega))
  obtain ⟨⟨y0, y1, y2, y3, y4⟩, q0, q1, q2, q3, q4⟩ := xcy k23 (by omega)
  have HV := xmA hv
  clear hv h3 k3
  have y0 := xaj y0 (.cells #[.int .i64 o, .slice a1 n1 c1, .int .i64 m, .int .i64 x, .slice a2 n2 cc2] 52)
  have y1 := xaj y1 (.cells #[.int .i64 o, .slice a1 n1 c1, .int .i64 m, .int .i64 x, .slice a2 n2 cc2] 52)
  have y2 := xaj y2 (.cells #[.int .i64 o, .slice a1 n1 c1, .int .i64 m, .int .i64 x, .slice a2 n2 cc2] 52)
  have y3 := xaj y3 (.cells #[.int .i64 o, .slice a1 n1 c1, .int .i64 m, .int .i64 x, .slice a2 n2 cc2] 52)
  have y4 := xaj y4 (.cells #[.int .i64 o, .slice a1 n1 c1, .int .i64 m, .int .i64 x, .slice a2 n2 cc2] 52)
  have q0 := xat q0 (by show w.heap.size < w3.heap.size; omega) (.cells #[.int .i64 o, .slice a1 n1 c1, .int .i64 m, .int .i64 x, .slice a2 n2 cc2] 52)
  have q1 := xat q1 (by show w.heap.size < w3.heap.size; omega) (.cells #[.int .i64 o, .slice a1 n1 c1, .int .i64 m, .int .i64 x, .slice a2 n2 cc2] 52)
  have q2 := xat q2 (by show w.heap.size < w3.heap.size; omega) (.cells #[.int .i64 o, .slice a1 n1 c1, .int .i64 m, .int .i64 x, .slice a2 n2 cc2] 52)
  have q3 := xat q3 (by show w.heap.size < w3.heap.size; omega) (.cells #[.int .i64 o, .slice a1 n1 c1, .int .i64 m, .int .i64 x, .slice a2 n2 cc2] 52)
  have q4 := xat q4 (by show w.heap.size < w3.heap.size; omega) (.cells #[.int .i64 o, .slice a1 n1 c1, .int .i64 m, .int .i64 x, .slice a2 n2 cc2] 52)
  unfold NV.val
  rw [hp] at d1
  clear k23
  go_wp2_with fail
  have k4 : xaa (fun _ => False) w3 (w3.alloc (.cells #[.int .i64 o, .slice a1 n1 c1, .int .i64 m, .int .i64 x, .slice a2 n2 cc2] 52)) := (xaa.refl _ _).alloc _
  have K4 := xmA (KX.out.trans k4)
  have HV4 := xmA (HV.out.keepsTo (Q := fun b => w.heap.size < b) k4 (fun _ _ => id) (fun b hb => by have := hb.1; simp at this; omega))
  obtain ⟨w4, hw4⟩ : ∃ W, w3.alloc (.cells #[.int .i64 o, .slice a1 n1 c1, .int .i64 m, .int .i64 x, .slice a2 n2 cc2] 52) = W := ⟨_, rfl⟩
  rw [hw4] at y0 y1 y2 y3 y4 K4 HV4 ⊢
  clear q0 q1 q2 q3 q4
  obtain ⟨wE, hWE⟩ : ∃ W, st5 (w4) w.heap.size (.int .i64 o) (.slice a1 n1 c1) (.int .i64 m) (.int .i64 x) (.slice a2 n2 cc2) = W := ⟨_, rfl⟩
  obtain ⟨r0, r1, r2, r3, r4, kE⟩ := xav (w4) w.heap.size y0 y1 y2 y3 y4 (.int .i64 o) (.slice a1 n1 c1) (.int .i64 m) (.int .i64 x) (.slice a2 n2 cc2)
  rw [hWE] at r0 r1 r2 r3 r4 kE
  unfold st5 at hWE
  rw [hWE]
  have HKE := xmA kE
  clear kE hWE y0 y1 y2 y3 y4
  refine bodyPost_ret (by simp [results, Tryz.results33, go_sem, r0, r1, r2, r3, r4]; try rfl) rfl ?_
  exact xb3 (v := ⟨o, .slice a1 n1 c1, m, x, .slice a2 n2 cc2⟩) (n := 0) K4.out HV4.out HKE.out
def SufM (p t : Nat → UInt8) (f i k : Nat) : Prop := f + k ≤ i ∧ ∀ x, x < k → p x = t (i - k + x)
structure Lgst (m : Nat) (p t : Nat → UInt8) (f i k : Nat) : Prop where
 suf : SufM p t f i k
 le : k ≤ m
 max : ∀ k', SufM p t f i k' → k' ≤ m → k' ≤ k
structure Inn (m : Nat) (p t : Nat → UInt8) (f i k : Nat) : Prop where
 suf : SufM p t f i k
 le : k ≤ m
 max : ∀ k', SufM p t f i k' → k' < m → p k' = t i → k' ≤ k
theorem Lgst.inn {m : Nat} {p t : Nat → UInt8} {f i k : Nat} (h : Lgst m p t f i k) : Inn m p t f i k := ⟨h.suf, h.le, fun k' a b _ => h.max k' a (by omega)⟩
theorem Lgst.start (m : Nat) (p t : Nat → UInt8) (f : Nat) : Lgst m p t f f 0 := ⟨⟨by omega, fun x hx => by omega⟩, by omega, fun k' h _ => by have := h.1; omega⟩
theorem Inn.step {m : Nat} {p t : Nat → UInt8} {f i k b : Nat} (h : Inn m p t f i k) (h0 : 0 < k) (hk : k = m ∨ p k ≠ t i) (hb : Lgst m p p 1 k b) : Inn m p t f i b := by
 have s1 := h.suf.1
 have b1 := hb.suf.1
 refine ⟨⟨by omega, fun x hx => ?_⟩, hb.le, fun k' hs hm he => ?_⟩
 · rw [hb.suf.2 x hx, h.suf.2 (k - b + x) (by omega)]; congr 1; omega
 have h1 := h.max k' hs hm he
 have h2 : k' ≠ k := by
  rintro rfl
  rcases hk with rfl | hk
  · omega
  exact hk he
 refine hb.max k' ⟨by omega, fun x hx => ?_⟩ (by omega)
 rw [hs.2 x hx, h.suf.2 (k - k' + x) (by omega)]; congr 1; omega
theorem Inn.hit {m : Nat} {p t : Nat → UInt8} {f i k : Nat} (h : Inn m p t f i k) (hm : k < m) (he : p k = t i) : Lgst m p t f (i + 1) (k + 1) := by
 have s1 := h.suf.1
 refine ⟨⟨by omega, fun x hx => ?_⟩, by omega, fun k' hs hk => ?_⟩
 · by_cases hx2 : x < k
   · rw [h.suf.2 x hx2]; congr 1; omega
   obtain rfl : x = k := by omega
   rw [he]; congr 1; omega
 rcases k' with _ | j
 · omega
 have h1 := hs.1
 have := h.max j ⟨by omega, fun x hx => by rw [hs.2 x (by omega)]; congr 1; omega⟩ (by omega) (by rw [hs.2 j (by omega)]; congr 1; omega)
 omega
theorem Inn.miss {m : Nat} {p t : Nat → UInt8} {f i : Nat} (h : Inn m p t f i 0) (he : p 0 ≠ t i) : Lgst m p t f (i + 1) 0 := by
 have s1 := h.suf.1
 refine ⟨⟨by omega, fun x hx => by omega⟩, by omega, fun k' hs hk => ?_⟩
 rcases k' with _ | j
 · omega
 have h1 := hs.1
 have h2 := h.max j ⟨by omega, fun x hx => by rw [hs.2 x (by omega)]; congr 1; omega⟩ (by omega) (by rw [hs.2 j (by omega)]; congr 1; omega)
 obtain rfl : j = 0 := by omega
 exact absurd (by rw [hs.2 0 (by omega)]; congr 1) he
def mtB (m n : Nat) (p t : Nat → UInt8) (a : Nat) : Bool := decide (a + m ≤ n) && (List.range m).all fun x => decide (p x = t (a + x))
theorem xdD {m n : Nat} {p t : Nat → UInt8} {a : Nat} : mtB m n p t a = true ↔ a + m ≤ n ∧ ∀ x, x < m → p x = t (a + x) := by
 unfold mtB; simp [List.all_eq_true]
theorem Lgst.full {m n : Nat} {p t : Nat → UInt8} {f i k : Nat} (h : Lgst m p t f i k) (hi : i ≤ n) : k = m ↔ f + m ≤ i ∧ mtB m n p t (i - m) = true := by
 rw [xdD]
 constructor
 · rintro rfl
   have := h.suf.1
   exact ⟨this, by omega, h.suf.2⟩
 rintro ⟨h1, h2, h3⟩
 have := h.max m ⟨h1, h3⟩ (Nat.le_refl _)
 have := h.le
 omega
def xdm (mt : Nat → Bool) (n f : Nat) (z : Int) : Prop :=
 (z = -1 ∧ ∀ a, f ≤ a → a ≤ n → mt a = false) ∨ ∃ a : Nat, z = a ∧ f ≤ a ∧ a ≤ n ∧ mt a = true ∧ ∀ b, f ≤ b → b < a → mt b = false
theorem xie {mt : Nat → Bool} {n f : Nat} {z : Int} (h : xdm mt n f z) (hz : z < 0) : ∀ a, f ≤ a → a ≤ n → mt a = false := by
 rcases h with ⟨_, h⟩ | ⟨a, h, _⟩
 · exact h
 omega
theorem xfC {mt : Nat → Bool} {n f : Nat} {z : Int} (h : xdm mt n f z) (hz : 0 ≤ z) : ∃ a : Nat, z = a ∧ f ≤ a ∧ a ≤ n ∧ mt a = true ∧ ∀ b, f ≤ b → b < a → mt b = false := by
 rcases h with ⟨h, _⟩ | h
 · omega
 exact h
theorem idxC {l : List UInt8} {i : Nat} {c : UInt8} (hc : l[i]? = some c) : ∀ (h : i < (⟨l.toArray⟩ : ByteArray).size), (⟨l.toArray⟩ : ByteArray)[i]'h = c := fun h => by
 have := (List.getElem?_eq_some_iff.1 hc).2
 simpa [ByteArray.getElem_eq_getElem_data] using this
def atB (l : List UInt8) (x : Nat) : UInt8 := l.getD x 0
theorem xd3 {l : List UInt8} {i : Nat} {c : UInt8} (hc : l[i]? = some c) : atB l i = c := by unfold atB; rw [List.getD_eq_getElem?_getD, hc]; rfl
structure BdAt (W : World) (g n : Nat) (b : Nat → Nat) : Prop where
 cell : ∀ j, j ≤ n → W.cell? ⟨g, j, none⟩ = some (.int .i64 (b j))
 frz : ∀ x, W.frozen? ⟨g, x, none⟩ = false
theorem BdAt.lt {W : World} {g n : Nat} {b : Nat → Nat} (h : BdAt W g n b) : g < W.heap.size := xan (h.cell 0 (by omega))
theorem BdAt.keep {W W' : World} {g n : Nat} {b : Nat → Nat} (h : BdAt W g n b) (K : xaa (fun _ => False) W W') : BdAt W' g n b :=
 ⟨fun j hj => K.cell (h.cell j hj) id, fun x => K.frozen (h.frz x) h.lt id⟩
theorem BdAt.set {W : World} {g n : Nat} {b : Nat → Nat} (h : BdAt W g n b) {j k : Nat} (hj : j ≤ n) : BdAt (W.setCell ⟨g, j, none⟩ (.int .i64 k)) g n (fun x => if x = j then k else b x) := by
 refine ⟨fun x hx => ?_, fun x => by rw [xbI]; exact h.frz x⟩
 by_cases hxj : x = j
 · subst hxj; simp only [if_pos]; exact xas (h.cell x hx)
 rw [if_neg hxj, xaf (by intro e; injection e with _ e; exact hxj e.symm)]; exact h.cell x hx
theorem xks : (Tryz.prog.info? 3).map (fun i => (i.zero, i.size, i.bytes)) = some (some (.int .i64 0), 1, 8) := by kernel_rfl
def BdR (p : List UInt8) (w : World) (g : Nat) (kv iv : Value) (wr : World) : Prop :=
 ∃ (k i : Nat) (b : Nat → Nat), kv = .int .i64 k ∧ iv = .int .i64 i ∧ 1 ≤ i ∧ i ≤ p.length ∧ BdAt wr g p.length b ∧ (∀ j, 1 ≤ j → j ≤ i → Lgst p.length (atB p) (atB p) 1 j (b j)) ∧ b i = k ∧ (∀ j, i < j → b j = 0) ∧ xaa (fun b => b = g) w wr
def BdI (p : List UInt8) (wr : World) (i : Nat) (kv : Value) (wk : World) : Prop :=
 ∃ k : Nat, kv = .int .i64 k ∧ Inn p.length (atB p) (atB p) 1 i k ∧ xaa (fun _ => False) wr wk
def BdE (p : List UInt8) (w : World) (e : Ending) (w' : World) : Prop :=
 ∃ g b, e = .returned (.slice (some ⟨g, 0, none⟩) (p.length + 1) (p.length + 1)) ∧ w.heap.size ≤ g ∧ BdAt w' g p.length b ∧ (∀ j, 1 ≤ j → j ≤ p.length → Lgst p.length (atB p) (atB p) 1 j (b j)) ∧ xaa (fun _ => False) w w'
theorem xhM {p : List UInt8} {w3 wk : World} {g i k' : Nat} {b : Nat → Nat} {kv iv : Value} (hB : BdAt wk g p.length b) (hL : ∀ j, 1 ≤ j → j ≤ i → Lgst p.length (atB p) (atB p) 1 j (b j))
 (hN : Lgst p.length (atB p) (atB p) 1 (i + 1) k') (h0 : ∀ j, i < j → b j = 0) (hK : xaa (fun b => b = g) w3 wk) (hi : i < p.length) (hk : kv = .int .i64 k') (hiv : iv = .int .i64 ((i + 1 : Nat) : Int)) :
 BdR p w3 g kv iv (wk.setCell ⟨g, i + 1, none⟩ (.int .i64 k')) := by
 refine ⟨k', i + 1, _, hk, hiv, by omega, by omega, hB.set (by omega), fun j h1 h2 => ?_, by simp, fun j hj => ?_, hK.set (p := ⟨g, i + 1, none⟩) rfl _⟩
 · by_cases hj : j = i + 1
   · subst hj; simpa using hN
   rw [if_neg hj]; exact hL j h1 (by omega)
 rw [if_neg (by omega)]; exact h0 j (by omega)
set_option maxHeartbeats 4000000 in
theorem xhK (p : List UInt8) (w : World) (h0 : 0 < p.length) (hp : p.length ≤ 1000) : Calls Tryz.prog 122 #[.string ⟨p.toArray⟩] w fun e w' => BdE p w e w' := by
 obtain ⟨i0, hi, hz0, hz1, hz2⟩ := info_parts xks
 go_enter Tryz.func122, Tryz.ntmps122
 go_wp2_with (at_make; refine wpList_make_full _ rfl _ _ 23 rfl w.heap.size 3 i0 _ 1 Tryz.underlying23 hi hz0 hz1 .i64 .i64 _ _ (p.length + 1) rfl rfl ?k1 ?k2 ?k3 ?k4 ?k5 ?_)
 case k1 => first | rfl | omega | (simp; done)
 case k2 => first | rfl | omega | (simp; done)
 case k3 => rw [hz2]; omega
 case k4 => unfold maxLen; omega
 case k5 => exact Nat.le_refl _
 intro w3 hown hg3
 have hk3 : xaa (fun _ => False) w w3 := (xaa.refl _ _).grown hg3 (by simp)
 have hB : BdAt w3 w.heap.size p.length (fun _ => 0) := by
  refine ⟨fun j hj => ?_, hown.frozenAt⟩
  rw [hown.cellAt j (by omega), toList_madeCells_one]
  simp [List.getElem?_replicate]; omega
 have HB := xmA hB
 have HK := xmA hk3
 clear hB hk3 hown hg3
 obtain ⟨g, hg⟩ : ∃ g, w.heap.size = g := ⟨_, rfl⟩
 have Hg := xmA hg
 rw [hg] at HB ⊢
 clear hg
 go_wp2_with fail
 go_loopw [4, 5] (fun kv iv wr => BdR p w3 g kv iv wr) (fun _ iv _ => p.length + 1 - (intOf iv).toNat)
 case atStart => 
  refine ⟨0, 1, fun _ => 0, rfl, rfl, by omega, by omega, HB.out, ?_, rfl, fun _ _ => rfl, xaa.refl _ _⟩
  intro j h1 h2
  obtain rfl : 1 = j := by omega
  exact Lgst.start _ _ _ _
 case round =>
  obtain ⟨k, i, b, rfl, rfl, hi1, hi2, hB, hL, hbi, hb0, hK⟩ := hrel
  by_cases hil : i < p.length
  · have hLi := hL i hi1 (Nat.le_refl _)
    rw [hbi] at hLi
    have hki := hLi.suf.1
    have HLi := xmA hLi.inn
    have HB1 := xmA hB
    have HL := xmA hL
    have Hb0 := xmA hb0
    have HK1 := xmA hK
    obtain ⟨d, hd⟩ : ∃ d, p[i]? = some d := ⟨_, List.getElem?_eq_getElem hil⟩
    have hdi := idxC hd
    have Hd := xmA (xd3 hd)
    have hid : decide ((i : Int) < (p.length : Int)) = true := by simpa using hil
    have hid0 : (i : Int) < (p.length : Int) := by omega
    obtain ⟨wR, hwR⟩ : ∃ W, W = wr := ⟨wr, rfl⟩
    subst hwR
    clear hd hLi hbi hB hL hb0 hK
    go_wp2_with fail
    go_loopw [4] (fun kv wk => BdI p wR i kv wk) (fun kv _ => (intOf kv).toNat)
    case atStart => exact ⟨k, rfl, HLi.out, xaa.refl _ _⟩
    case round =>
     obtain ⟨k2, rfl, hI, hk2⟩ := hrel
     have hk2i := hI.suf.1
     have hk2l : k2 < p.length := by omega
     obtain ⟨c, hc⟩ : ∃ c, p[k2]? = some c := ⟨_, List.getElem?_eq_getElem hk2l⟩
     have hci := idxC hc
     have Hc := xmA (xd3 hc)
     have HI := xmA hI
     have HBk := xmA (HB1.out.keep hk2)
     have HK2 := xmA hk2
     have h1 : (k2 : Int) < (p.length : Int) := by omega
     clear hc hI hk2
     have hfr := HBk.out.frz
     have hcn := HBk.out.cell (i + 1) (by omega)
     have hix : (i : Int) + 1 < (p.length : Int) + 1 := by omega
     by_cases hcd : c = d
     · subst hcd
       have HN := xmA (HI.out.hit hk2l (by rw [Hc.out, Hd.out]))
       by_cases hz : k2 = 0
       · subst hz
         go_wp2_with fail
         go_quiet (fail)
         go_wp2_with fail
         go_quiet (fail)
         go_wp2_with fail
         go_roundw
         case rel => exact xhM (k' := 0 + 1) (HBk.out.keep ((xaa.refl _ _).drawN _)) HL.out HN.out Hb0.out ((HK1.out.trans (HK2.out.mono (fun _ _ e => e.elim))).drawN _) hil (by go_num) (by go_num)
         case measure => simp [intOf]; omega
       have hz0 : decide (0 < k2) = true := by simp; omega
       go_wp2_with fail
       go_quiet (fail)
       go_wp2_with fail
       go_quiet (fail)
       go_wp2_with fail
       go_roundw
       case rel => exact xhM (k' := k2 + 1) (HBk.out.keep ((xaa.refl _ _).drawN _)) HL.out HN.out Hb0.out ((HK1.out.trans (HK2.out.mono (fun _ _ e => e.elim))).drawN _) hil (by go_num) (by go_num)
       case measure => simp [intOf]; omega
     have hne : ((c.toNat : Int) != (d.toNat : Int)) = true := by
      simp; intro e; exact hcd (UInt8.toNat_inj.1 (by omega))
     have hne2 : ((c.toNat : Int) == (d.toNat : Int)) = false := by
      simp; intro e; exact hcd (UInt8.toNat_inj.1 (by omega))
     by_cases hz : k2 = 0
     · subst hz
       have HN := xmA (HI.out.miss (by rw [Hc.out, Hd.out]; exact hcd))
       go_wp2_with fail
       go_quiet (fail)
       go_wp2_with fail
       go_quiet (fail)
       go_wp2_with fail
       go_roundw
       case rel => exact xhM (k' := 0) (HBk.out.keep ((xaa.refl _ _).drawN _)) HL.out HN.out Hb0.out ((HK1.out.trans (HK2.out.mono (fun _ _ e => e.elim))).drawN _) hil (by go_num) (by go_num)
       case measure => simp [intOf]; omega
     have hz0 : decide (0 < k2) = true := by simp; omega
     have hLk := HL.out k2 (by omega) (by omega)
     have hbk := hLk.suf.1
     have HS := xmA (HI.out.step (by omega) (Or.inr (by rw [Hc.out, Hd.out]; exact hcd)) hLk)
     have hck := HBk.out.cell k2 (by omega)
     have hix2 : (k2 : Int) < (p.length : Int) + 1 := by omega
     clear hLk
     go_wp2_with fail
     go_quiet (fail)
     go_wp2_with fail
     go_roundw
     case rel => exact ⟨b k2, by go_num, HS.out, HK2.out.drawN _⟩
     case measure => simp [intOf]; omega
  obtain rfl : i = p.length := by omega
  have hdn : decide ((p.length : Int) < (p.length : Int)) = false := by simp
  have HL := xmA hL
  have HB1 := xmA hB
  have HK1 := xmA hK
  clear hL hB hK hb0 hbi
  go_wp2_with fail
  go_ret
  exact ⟨g, b, rfl, by rw [← Hg.out]; exact Nat.le_refl _, HB1.out, HL.out, HK.out.trans2 HK1.out (fun b hb e => by have := Hg.out; omega)⟩
end Go.Proofs.YtjahiihmoglpfaaGreatDoor
