/-
  Several texts in one: (*crew).put. match.point, Places. match's crew. (*crew).longest.
-/
import Derived.Test.YtgobcnheemocnaaGreatDoorMg23
import Derived.BigRegion
import Derived.Test.YtgobcnheemocnaaGreatDoorMg22
import Derived.Lib.ConvBytes
import Derived.Deep.RegionWith
section
namespace Go.Proofs.YtgobcnheemocnaaGreatDoor
open Go.RowKit
set_option linter.unusedVariables false
set_option linter.unusedSimpArgs false
set_option maxRecDepth 100000

theorem PtR.len {is : List Ins} {bg en : Bool} {i : Nat} {s s' : List Nat × (Nat → Bool)} (h : PtR is bg en i s s') : s.1.length ≤ s'.1.length := by
  induction h with
  | seen => exact Nat.le_refl _
  | leaf => simp
  | split _ _ _ _ _ ih1 ih2 => exact Nat.le_trans ih1 ih2
  | skip => exact Nat.le_refl _
  | pass _ _ _ _ ih => exact ih
/-- What put does. -/
def PuE (is : List Ins) (B tb mb now : Nat) (lv : Value) (s' : List Nat × (Nat → Bool)) (w : World) (e : Ending) (w' : World) : Prop :=
  e = .returned (.tuple #[]) ∧ ∃ lv', Thr B w' tb mb is.length lv' s'.1 s'.2 now ∧ Keeps (inT tb mb lv) w w' ∧ (lv'.ownBlock = lv.ownBlock ∨ ∃ g, lv'.ownBlock = some g ∧ w.heap.size ≤ g)
def PtOK (is : List Ins) (bg en : Bool) (i : Nat) (s s' : List Nat × (Nat → Bool)) : Prop := ∀ (B c tb mb now z : Nat) (pv : Value) (tx : List UInt8) (w : World) (lv : Value), Thr B w tb mb is.length lv s.1 s.2 now → PgAt w (fun b => b < B) pv is → w.cell? ⟨c, 0, none⟩ = some pv → w.cell? ⟨c, 1, none⟩ = some (.string ⟨tx.toArray⟩) → bg = decide (z = 0) → en = decide (z = tx.length) → ¬ inT tb mb lv c → s'.1.length ≤ 4000 → is.length ≤ 4000 → now ≤ 1000000000000 → tx.length ≤ 100000 →
    Calls Tryz.prog 264 #[.pointer (some ⟨c, 0, none⟩), .pointer (some ⟨tb, 0, none⟩), .int .i64 i, .int .i64 z] w fun e w' => PuE is B tb mb now lv s' w e w'
set_option maxHeartbeats 4000000 in
theorem put_seen {is : List Ins} {bg en : Bool} {i : Nat} {L : List Nat} {M : Nat → Bool} (hi : i < is.length) (h : M i = true) : PtOK is bg en i (L, M) (L, M) := by
  intro B c tb mb now z pv tx w lv hT hP hc hc9 hbg hen hin hl his hnow htx
  obtain ⟨m, hm⟩ := hT.mks
  obtain ⟨x0, x1, x2, x3⟩ := hm i hi
  have e1 : m i = now := x3.1 h
  rw [e1] at x0
  have c1 : w.cell? ⟨tb, 1, none⟩ = some (.slice (some ⟨mb, 0, none⟩) is.length is.length) := by rw [Lib.cell_of_heap hT.bk]; rfl
  have c2 : w.cell? ⟨tb, 2, none⟩ = some (.int .i64 now) := by rw [Lib.cell_of_heap hT.bk]; rfl
  have HT := Lib.hid hT
  clear hT hP hm x3 hin hc9 hbg hen
  go_enter Tryz.func264, Tryz.ntmps264
  go_wp2_with fail
  go_quiet (fail)
  go_wp2_with fail
  refine bodyPost_ret (results_none rfl _ _ _) rfl ?_
  exact ⟨rfl, lv, HT.out.keeps ((Keeps.refl (fun _ => False) _).drawN _) (fun _ _ => id), (Keeps.refl _ _).drawN _, Or.inl rfl⟩
set_option maxHeartbeats 8000000 in
theorem put_leaf {is : List Ins} {bg en : Bool} {i : Nat} {L : List Nat} {M : Nat → Bool} {x : Ins} (h : M i = false) (hx : is[i]? = some x) (ho : x.op = 0 ∨ x.op = 1) : PtOK is bg en i (L, M) (L ++ [i], updM M i) := by
  intro B c tb mb now z pv tx w lv hT hP hc hc9 hbg hen hin hl his hnow htx
  obtain ⟨i0, hi0, hz0, hz1, hz2⟩ := info_parts info_int'
  have hil := (List.getElem?_eq_some_iff.1 hx).1
  obtain ⟨m, hm⟩ := hT.mks
  obtain ⟨x0, x1, x2, x3⟩ := hm i hil
  have e1 : ¬ m i = now := fun e => by have h9 : M i = true := x3.2 e; rw [h9] at h; cases h
  obtain ⟨mi, hmi⟩ : ∃ k, m i = k := ⟨_, rfl⟩
  rw [hmi] at x0 e1
  have g1 : ((mi : Int) == (now : Int)) = false := beq_eq_false_iff_ne.2 (by omega)
  have c1 : w.cell? ⟨tb, 1, none⟩ = some (.slice (some ⟨mb, 0, none⟩) is.length is.length) := by rw [Lib.cell_of_heap hT.bk]; rfl
  have c2 : w.cell? ⟨tb, 2, none⟩ = some (.int .i64 now) := by rw [Lib.cell_of_heap hT.bk]; rfl
  have HT := Lib.hid hT
  have HP := Lib.hid hP
  clear hT hP hm x3 hmi x2 hc9 hbg hen
  go_enter Tryz.func264, Tryz.ntmps264
  go_wp2_with fail
  go_quiet (fail)
  go_wp2_with fail
  go_region
  obtain ⟨w1, hw1⟩ : ∃ W, W = ((w.drewN (nq + 1)).setCell ⟨mb, i, none⟩ (.int .i64 now)) := ⟨_, rfl⟩
  have hT1 : Thr B w1 tb mb is.length lv L (updM M i) now := by rw [hw1]; exact (HT.out.keeps ((Keeps.refl (fun _ => False) _).drawN _) (fun _ _ => id)).mark hil
  have hK1 : Keeps (inT tb mb lv) w w1 := by rw [hw1]; exact ((Keeps.refl _ _).drawN _).set (p := ⟨mb, i, none⟩) (Or.inr (Or.inl rfl)) _
  rw [← hw1]
  have hP1 := HP.out.keepsTo (Q := fun b => b < B) hK1 (fun b hb e => by have := (HT.out.inlt e).2; omega) (fun _ h => h)
  have hc1 := hK1.cell hc hin
  obtain ⟨b, off, cp, sa, sc, rfl, hb, _, _, hbB, z0, z1, z2, z3⟩ := hP1.at hx
  obtain ⟨op, set, xx, yy⟩ := x
  simp only at ho z0 z1 z2 z3
  obtain ⟨va, vc, rfl⟩ := ownsRow_slice hT1.own
  have t0 : w1.cell? ⟨tb, 0, none⟩ = some (.slice va L.length vc) := by rw [Lib.cell_of_heap hT1.bk]; rfl
  have f0 : w1.frozen? ⟨tb, 0, none⟩ = false := Lib.frozen_of_heap hT1.bk 0
  have t0a := alloc_cell t0 (.cells #[.int .i64 op, .slice sa set.length sc, .int .i64 xx, .int .i64 yy] 173)
  have hltb := hT1.ltb
  have hne2 := hT1.ne2
  have HT1 := Lib.hid hT1
  have HK1 := Lib.hid hK1
  have hBw : B ≤ w1.heap.size := by have := hT1.htb; omega
  have hLl : L.length ≤ 4000 := by simp at hl; omega
  clear hw1 hT1 hK1 hP1 hx hc hin c1 c2 x0 x1 HT HP h g1 e1
  rcases ho with rfl | rfl
  all_goals
    go_wp2_with (at_builtin; refine wpList_append_lies _ rfl (.tmp 44) (.tmp 46) 23 rfl B 3 i0 _ 1 8 Tryz.underlying23 hi0 hz0 hz1 hz2 rfl (by decide) _ L.length (L.map natV) rfl (ownsRow_alloc (ownsRow_alloc HT1.out.own _) _) ⟨w1.heap.size + 1, 0, none⟩ 1 1 [.int .i64 i] rfl rfl (by exact cells_new1 w1 _ [_] _) (by simp [Value.oneCell']) (by decide) (by unfold maxLen; omega) (by omega) (by simp; omega) _ rfl ?_)
    intro g cap w2 hown2 hgrow2 hat2 hlt2
    have t2 : w2.cell? ⟨tb, 0, none⟩ = some (.slice va L.length vc) := (hgrow2.cell_far ⟨tb, 0, none⟩ (by simp; omega) (fun e => hne2 e.symm)).trans (alloc_cell t0a _)
    have f2 : w2.frozen? ⟨tb, 0, none⟩ = false := (hgrow2.frozen_far ⟨tb, 0, none⟩ (by simp; omega) (fun e => hne2 e.symm)).trans ((((Keeps.refl (fun _ => False) w1).alloc _).alloc _).frozen f0 hltb id)
    have hPu := Thr.push (i := i) HT1.out (((Keeps.refl (fun _ => False) w1).alloc _).alloc _) hown2 hgrow2 hat2 (by simp)
    have HPu := Lib.hid hPu
    have HAt : Hid ((Value.slice (some ⟨g, 0, none⟩) (L.length + 1) cap).ownBlock = (Value.slice va L.length vc).ownBlock ∨ ∃ g', (Value.slice (some ⟨g, 0, none⟩) (L.length + 1) cap).ownBlock = some g' ∧ w1.heap.size ≤ g') := Lib.hid (by
      rcases hat2 with e | e
      · exact Or.inl e.symm
      · exact Or.inr ⟨g, rfl, by omega⟩)
    clear hPu hown2 hgrow2 hat2 t0 t0a f0 z0 z1 z2 z3 hc1
    go_wp2_with fail
    go_end0
    refine ⟨rfl, _, HPu.out.1, HK1.out.trans2 HPu.out.2 (fun _ _ e => e), ?_⟩
    rcases HAt.out with e | ⟨g', e1, e2⟩
    · exact Or.inl e
    · exact Or.inr ⟨g', e1, by have := HK1.out.size; omega⟩
set_option maxHeartbeats 8000000 in
theorem put_split {is : List Ins} {bg en : Bool} {i : Nat} {L : List Nat} {M : Nat → Bool} {x : Ins} {s1 s2 : List Nat × (Nat → Bool)} (h : M i = false) (hx : is[i]? = some x) (ho : x.op = 2) (hr1 : PtR is bg en x.x (L, updM M i) s1) (hr2 : PtR is bg en x.y s1 s2) (ih1 : PtOK is bg en x.x (L, updM M i) s1) (ih2 : PtOK is bg en x.y s1 s2) : PtOK is bg en i (L, M) s2 := by
  intro B c tb mb now z pv tx w lv hT hP hc hc9 hbg hen hin hl his hnow htx
  have hl1 : s1.1.length ≤ 4000 := by have := hr2.len; omega
  have HL := Lib.hid hl
  have hil := (List.getElem?_eq_some_iff.1 hx).1
  obtain ⟨m, hm⟩ := hT.mks
  obtain ⟨x0, x1, x2, x3⟩ := hm i hil
  have e1 : ¬ m i = now := fun e => by have h9 : M i = true := x3.2 e; rw [h9] at h; cases h
  obtain ⟨mi, hmi⟩ : ∃ k, m i = k := ⟨_, rfl⟩
  rw [hmi] at x0 e1
  have g1 : ((mi : Int) == (now : Int)) = false := beq_eq_false_iff_ne.2 (by omega)
  have c1 : w.cell? ⟨tb, 1, none⟩ = some (.slice (some ⟨mb, 0, none⟩) is.length is.length) := by rw [Lib.cell_of_heap hT.bk]; rfl
  have c2 : w.cell? ⟨tb, 2, none⟩ = some (.int .i64 now) := by rw [Lib.cell_of_heap hT.bk]; rfl
  have HT := Lib.hid hT
  have HP := Lib.hid hP
  have hcw : c < w.heap.size := lt_of_cell hc
  have Hc := Lib.hid hc
  have Hc9 := Lib.hid hc9
  have Hbg := Lib.hid hbg
  have Hen := Lib.hid hen
  have Hin := Lib.hid hin
  have I1 := Lib.hid ih1
  have I2 := Lib.hid ih2
  clear hT hP hm x3 hmi x2 hr1 hr2 hc hc9 hbg hen hin ih1 ih2 hl
  go_enter Tryz.func264, Tryz.ntmps264
  go_wp2_with fail
  go_quiet (fail)
  go_wp2_with fail
  go_region
  obtain ⟨w1, hw1⟩ : ∃ W, W = ((w.drewN (nq + 1)).setCell ⟨mb, i, none⟩ (.int .i64 now)) := ⟨_, rfl⟩
  have hT1 : Thr B w1 tb mb is.length lv L (updM M i) now := by rw [hw1]; exact (HT.out.keeps ((Keeps.refl (fun _ => False) _).drawN _) (fun _ _ => id)).mark hil
  have hK1 : Keeps (inT tb mb lv) w w1 := by rw [hw1]; exact ((Keeps.refl _ _).drawN _).set (p := ⟨mb, i, none⟩) (Or.inr (Or.inl rfl)) _
  rw [← hw1]
  have hP1 := HP.out.keepsTo (Q := fun b => b < B) hK1 (fun b hb e => by have := (HT.out.inlt e).2; omega) (fun _ h => h)
  have hc1 := hK1.cell Hc.out Hin.out
  have Hc91 := Lib.hid (hK1.cell Hc9.out Hin.out)
  obtain ⟨b, off, cp, sa, sc, rfl, hb, _, _, hbB, z0, z1, z2, z3⟩ := hP1.at hx
  obtain ⟨op, set, xx, yy⟩ := x
  simp only at ho z0 z1 z2 z3
  obtain rfl := ho
  have ka : Keeps (fun _ => False) w1 (w1.alloc (.cells #[.int .i64 2, .slice sa set.length sc, .int .i64 xx, .int .i64 yy] 173)) := (Keeps.refl _ _).alloc _
  have hs1 := hK1.size
  have y3 : (w1.alloc (.cells #[.int .i64 2, .slice sa set.length sc, .int .i64 xx, .int .i64 yy] 173)).cell? ⟨w1.heap.size, 3, none⟩ = some (.int .i64 yy) := by simp [go_sem]
  have hTa := hT1.keeps ka (fun _ _ => id)
  have hfar : ¬ inT tb mb lv w1.heap.size := fun e => by have := (hT1.inlt e).1; omega
  have HC1 := Lib.hid (I1.out B c tb mb now z _ tx _ lv hTa (hP1.keepsTo ka (fun _ _ => id) (fun _ h => h)) (ka.cell hc1 id) (ka.cell Hc91.out id) Hbg.out Hen.out Hin.out hl1 his hnow htx)
  have HP1 := Lib.hid hP1
  have Hc1 := Lib.hid hc1
  have HK1 := Lib.hid hK1
  have HT1 := Lib.hid hT1
  have KA := Lib.hid ka
  clear hw1 hT1 hK1 hP1 hx c1 c2 x0 x1 h g1 e1 ka hTa
  go_wp2_with fail
  refine HC1.out.mono ?_
  rintro e w2 ⟨rfl, lv1, hT2, k2, hat1⟩
  have q3 := k2.cell y3 hfar
  have hsz2 := k2.size
  simp at hsz2
  have hin1 : ¬ inT tb mb lv1 c := by
    rintro (e | e | e)
    · exact Hin.out (Or.inl e)
    · exact Hin.out (Or.inr (Or.inl e))
    · rcases hat1 with h9 | ⟨g, h9, h10⟩
      · exact Hin.out (Or.inr (Or.inr (by rw [← h9]; exact e)))
      · rw [h9] at e
        have := Option.some.inj e
        simp at h10
        omega
  have hP2 := (HP1.out.keepsTo (Q := fun b => b < B) KA.out (fun _ _ => id) (fun _ h => h)).keepsTo (Q := fun b => b < B) k2 (fun b hb e => by have := (HT1.out.inlt e).2; omega) (fun _ h => h)
  have hc2 := k2.cell (KA.out.cell Hc1.out id) Hin.out
  have HC2 := Lib.hid (I2.out B c tb mb now z _ tx w2 lv1 hT2 hP2 hc2 (k2.cell (KA.out.cell Hc91.out id) Hin.out) Hbg.out Hen.out hin1 HL.out his hnow htx)
  have K2 : Hid (Keeps (inT tb mb lv) w w2) := Lib.hid ((HK1.out.trans2 KA.out (fun _ _ e => e.elim)).trans2 k2 (fun _ _ e => e))
  have HAT1 := Lib.hid hat1
  clear hT2 k2 hP2 hc2 hat1 z0 z1 z2 z3 y3
  go_wp2_with fail
  refine HC2.out.mono ?_
  rintro e w3 ⟨rfl, lv2, hT3, k3, hat2⟩
  have KE : Hid (Keeps (inT tb mb lv) w w3) := Lib.hid (K2.out.trans2 k3 (fun b hb e => by
    rcases e with e | e | e
    · exact Or.inl e
    · exact Or.inr (Or.inl e)
    · rcases HAT1.out with h9 | ⟨g, h9, h10⟩
      · exact Or.inr (Or.inr (by rw [← h9]; exact e))
      · rw [h9] at e
        have := Option.some.inj e
        simp at h10
        omega))
  have HT3 := Lib.hid hT3
  have HE : Hid (lv2.ownBlock = lv.ownBlock ∨ ∃ g, lv2.ownBlock = some g ∧ w.heap.size ≤ g) := Lib.hid (by
    rcases hat2 with e | ⟨g, e, h9⟩
    · rcases HAT1.out with h9 | ⟨g, h9, h10⟩
      · exact Or.inl (e.trans h9)
      · exact Or.inr ⟨g, e.trans h9, by simp at h10; omega⟩
    · exact Or.inr ⟨g, e, by have := K2.out.size; omega⟩)
  clear hT3 k3 hat2 q3
  go_wp2_with fail
  go_end0
  exact ⟨rfl, lv2, HT3.out, KE.out, HE.out⟩
set_option maxHeartbeats 8000000 in
theorem put_skip {is : List Ins} {bg en : Bool} {i : Nat} {L : List Nat} {M : Nat → Bool} {x : Ins} (h : M i = false) (hx : is[i]? = some x) (ho : x.op = 3 ∧ bg = false ∨ x.op = 4 ∧ en = false) : PtOK is bg en i (L, M) (L, updM M i) := by
  intro B c tb mb now z pv tx w lv hT hP hc hc9 hbg hen hin hl his hnow htx
  obtain ⟨i0, hi0, hz0, hz1, hz2⟩ := info_parts info_int'
  have hil := (List.getElem?_eq_some_iff.1 hx).1
  obtain ⟨m, hm⟩ := hT.mks
  obtain ⟨x0, x1, x2, x3⟩ := hm i hil
  have e1 : ¬ m i = now := fun e => by have h9 : M i = true := x3.2 e; rw [h9] at h; cases h
  obtain ⟨mi, hmi⟩ : ∃ k, m i = k := ⟨_, rfl⟩
  rw [hmi] at x0 e1
  have g1 : ((mi : Int) == (now : Int)) = false := beq_eq_false_iff_ne.2 (by omega)
  have c1 : w.cell? ⟨tb, 1, none⟩ = some (.slice (some ⟨mb, 0, none⟩) is.length is.length) := by rw [Lib.cell_of_heap hT.bk]; rfl
  have c2 : w.cell? ⟨tb, 2, none⟩ = some (.int .i64 now) := by rw [Lib.cell_of_heap hT.bk]; rfl
  have HT := Lib.hid hT
  have HP := Lib.hid hP
  have Hbg := Lib.hid hbg
  have Hen := Lib.hid hen
  clear hT hP hm x3 hmi x2 hbg hen
  go_enter Tryz.func264, Tryz.ntmps264
  go_wp2_with fail
  go_quiet (fail)
  go_wp2_with fail
  go_region
  obtain ⟨w1, hw1⟩ : ∃ W, W = ((w.drewN (nq + 1)).setCell ⟨mb, i, none⟩ (.int .i64 now)) := ⟨_, rfl⟩
  have hT1 : Thr B w1 tb mb is.length lv L (updM M i) now := by rw [hw1]; exact (HT.out.keeps ((Keeps.refl (fun _ => False) _).drawN _) (fun _ _ => id)).mark hil
  have hK1 : Keeps (inT tb mb lv) w w1 := by rw [hw1]; exact ((Keeps.refl _ _).drawN _).set (p := ⟨mb, i, none⟩) (Or.inr (Or.inl rfl)) _
  rw [← hw1]
  have hP1 := HP.out.keepsTo (Q := fun b => b < B) hK1 (fun b hb e => by have := (HT.out.inlt e).2; omega) (fun _ h => h)
  have hc1 := hK1.cell hc hin
  have hc91 := hK1.cell hc9 hin
  obtain ⟨b, off, cp, sa, sc, rfl, hb, _, _, hbB, z0, z1, z2, z3⟩ := hP1.at hx
  obtain ⟨op, set, xx, yy⟩ := x
  simp only at ho z0 z1 z2 z3
  have ka : Keeps (fun _ => False) w1 (w1.alloc (.cells #[.int .i64 op, .slice sa set.length sc, .int .i64 xx, .int .i64 yy] 173)) := (Keeps.refl _ _).alloc _
  have HTa := Lib.hid (hT1.keeps ka (fun _ _ => id))
  have HKa := Lib.hid (hK1.trans2 ka (fun _ _ e => e.elim))
  have hc9a := ka.cell hc91 id
  clear hw1 hT1 hP1 hx hc hin hc9 c1 c2 x0 x1 HT HP h g1 e1 hK1 ka
  rcases ho with ⟨rfl, hb9⟩ | ⟨rfl, he9⟩
  · have g2 : ((z : Int) == 0) = false := beq_eq_false_iff_ne.2 (by have h9 := Hbg.out; rw [hb9] at h9; have := of_decide_eq_false h9.symm; omega)
    go_wp2_with fail
    go_end0
    exact ⟨rfl, lv, HTa.out, HKa.out, Or.inl rfl⟩
  · have g2 : ((z : Int) == (tx.length : Int)) = false := beq_eq_false_iff_ne.2 (by have h9 := Hen.out; rw [he9] at h9; have := of_decide_eq_false h9.symm; omega)
    go_wp2_with fail
    go_end0
    exact ⟨rfl, lv, HTa.out, HKa.out, Or.inl rfl⟩
set_option maxHeartbeats 8000000 in
theorem put_pass {is : List Ins} {bg en : Bool} {i : Nat} {L : List Nat} {M : Nat → Bool} {x : Ins} {s1 : List Nat × (Nat → Bool)} (h : M i = false) (hx : is[i]? = some x) (ho : x.op = 3 ∧ bg = true ∨ x.op = 4 ∧ en = true) (hr1 : PtR is bg en x.x (L, updM M i) s1) (ih1 : PtOK is bg en x.x (L, updM M i) s1) : PtOK is bg en i (L, M) s1 := by
  intro B c tb mb now z pv tx w lv hT hP hc hc9 hbg hen hin hl his hnow htx
  have hl1 := hl
  have HL := Lib.hid hl
  have hil := (List.getElem?_eq_some_iff.1 hx).1
  obtain ⟨m, hm⟩ := hT.mks
  obtain ⟨x0, x1, x2, x3⟩ := hm i hil
  have e1 : ¬ m i = now := fun e => by have h9 : M i = true := x3.2 e; rw [h9] at h; cases h
  obtain ⟨mi, hmi⟩ : ∃ k, m i = k := ⟨_, rfl⟩
  rw [hmi] at x0 e1
  have g1 : ((mi : Int) == (now : Int)) = false := beq_eq_false_iff_ne.2 (by omega)
  have c1 : w.cell? ⟨tb, 1, none⟩ = some (.slice (some ⟨mb, 0, none⟩) is.length is.length) := by rw [Lib.cell_of_heap hT.bk]; rfl
  have c2 : w.cell? ⟨tb, 2, none⟩ = some (.int .i64 now) := by rw [Lib.cell_of_heap hT.bk]; rfl
  have HT := Lib.hid hT
  have HP := Lib.hid hP
  have hcw : c < w.heap.size := lt_of_cell hc
  have Hc := Lib.hid hc
  have Hc9 := Lib.hid hc9
  have Hbg := Lib.hid hbg
  have Hen := Lib.hid hen
  have Hin := Lib.hid hin
  have I1 := Lib.hid ih1
  clear hT hP hm x3 hmi x2 hr1 hc hc9 hbg hen hin ih1 hl
  go_enter Tryz.func264, Tryz.ntmps264
  go_wp2_with fail
  go_quiet (fail)
  go_wp2_with fail
  go_region
  obtain ⟨w1, hw1⟩ : ∃ W, W = ((w.drewN (nq + 1)).setCell ⟨mb, i, none⟩ (.int .i64 now)) := ⟨_, rfl⟩
  have hT1 : Thr B w1 tb mb is.length lv L (updM M i) now := by rw [hw1]; exact (HT.out.keeps ((Keeps.refl (fun _ => False) _).drawN _) (fun _ _ => id)).mark hil
  have hK1 : Keeps (inT tb mb lv) w w1 := by rw [hw1]; exact ((Keeps.refl _ _).drawN _).set (p := ⟨mb, i, none⟩) (Or.inr (Or.inl rfl)) _
  rw [← hw1]
  have hP1 := HP.out.keepsTo (Q := fun b => b < B) hK1 (fun b hb e => by have := (HT.out.inlt e).2; omega) (fun _ h => h)
  have hc1 := hK1.cell Hc.out Hin.out
  have Hc91 := Lib.hid (hK1.cell Hc9.out Hin.out)
  obtain ⟨b, off, cp, sa, sc, rfl, hb, _, _, hbB, z0, z1, z2, z3⟩ := hP1.at hx
  obtain ⟨op, set, xx, yy⟩ := x
  simp only at ho z0 z1 z2 z3
  have ka : Keeps (fun _ => False) w1 (w1.alloc (.cells #[.int .i64 op, .slice sa set.length sc, .int .i64 xx, .int .i64 yy] 173)) := (Keeps.refl _ _).alloc _
  have hTa := hT1.keeps ka (fun _ _ => id)
  have hc9a := ka.cell Hc91.out id
  have HC1 := Lib.hid (I1.out B c tb mb now z _ tx _ lv hTa (hP1.keepsTo ka (fun _ _ => id) (fun _ h => h)) (ka.cell hc1 id) hc9a Hbg.out Hen.out Hin.out hl1 his hnow htx)
  have HKa := Lib.hid (hK1.trans2 ka (fun _ _ e => e.elim))
  have hs1 := hK1.size
  clear hw1 hT1 hK1 hP1 hx c1 c2 x0 x1 h g1 e1 ka hTa
  have hend : ∀ (w2 : World) (lv1 : Value), Thr B w2 tb mb is.length lv1 s1.1 s1.2 now → Keeps (inT tb mb lv) (w1.alloc (.cells #[.int .i64 op, .slice sa set.length sc, .int .i64 xx, .int .i64 yy] 173)) w2 → (lv1.ownBlock = lv.ownBlock ∨ ∃ g, lv1.ownBlock = some g ∧ (w1.alloc (.cells #[.int .i64 op, .slice sa set.length sc, .int .i64 xx, .int .i64 yy] 173)).heap.size ≤ g) → PuE is B tb mb now lv s1 w (.returned (.tuple #[])) w2 := fun w2 lv1 h1 h2 h3 => by
    refine ⟨rfl, lv1, h1, HKa.out.trans2 h2 (fun _ _ e => e), ?_⟩
    rcases h3 with h3 | ⟨g, h3, h4⟩
    · exact Or.inl h3
    · exact Or.inr ⟨g, h3, by have := HKa.out.size; omega⟩
  have HEnd := Lib.hid hend
  clear hend
  rcases ho with ⟨rfl, hb9⟩ | ⟨rfl, he9⟩
  · have g2 : ((z : Int) == 0) = true := beq_iff_eq.2 (by have h9 := Hbg.out; rw [hb9] at h9; have := of_decide_eq_true h9.symm; omega)
    go_wp2_with fail
    refine HC1.out.mono ?_
    rintro e w2 ⟨rfl, lv1, hT2, k2, hat1⟩
    have HE := Lib.hid (HEnd.out w2 lv1 hT2 k2 hat1)
    clear hT2 k2 hat1
    go_wp2_with fail
    go_end0
    exact HE.out
  · have g2 : ((z : Int) == (tx.length : Int)) = true := beq_iff_eq.2 (by have h9 := Hen.out; rw [he9] at h9; have := of_decide_eq_true h9.symm; omega)
    go_wp2_with fail
    refine HC1.out.mono ?_
    rintro e w2 ⟨rfl, lv1, hT2, k2, hat1⟩
    have HE := Lib.hid (HEnd.out w2 lv1 hT2 k2 hat1)
    clear hT2 k2 hat1
    go_wp2_with fail
    go_end0
    exact HE.out
theorem mtput_any {is : List Ins} {bg en : Bool} {i : Nat} {s s' : List Nat × (Nat → Bool)} (h : PtR is bg en i s s') : PtOK is bg en i s s' := by
  induction h with
  | seen hi h => exact put_seen hi h
  | leaf h hx ho => exact put_leaf h hx ho
  | split h hx ho h1 h2 ih1 ih2 => exact put_split h hx ho h1 h2 ih1 ih2
  | skip h hx ho => exact put_skip h hx ho
  | pass h hx ho h1 ih1 => exact put_pass h hx ho h1 ih1
end Go.Proofs.YtgobcnheemocnaaGreatDoor
end
section
namespace Go.Proofs.YtgobcnheemocnaaGreatDoor
open Go.RowKit
set_option linter.unusedVariables false
set_option linter.unusedSimpArgs false
set_option maxRecDepth 100000

theorem lenP_le4 (c : Nat) : lenP c ≤ 4 := by unfold lenP; split <;> (try split) <;> (try split) <;> (try split) <;> omega
theorem getP_take4 (c : UInt8) (t : List UInt8) : getP (c :: t.take 3) = getP (c :: t) := by
  have h4 := lenP_le4 c.toNat
  rw [getP_eq, getP_eq]
  have e1 : (lenP c.toNat = 0 ∨ (t.take 3).length + 1 < lenP c.toNat) ↔ (lenP c.toNat = 0 ∨ t.length + 1 < lenP c.toNat) := by
    rw [List.length_take]; omega
  have e2 : (t.take 3).take (lenP c.toNat - 1) = t.take (lenP c.toNat - 1) := by rw [List.take_take, Nat.min_eq_left (by omega)]
  rw [e2]
  by_cases h : lenP c.toNat = 0 ∨ t.length + 1 < lenP c.toNat
  · rw [if_pos (e1.2 h), if_pos h]
  · rw [if_neg (fun x => h (e1.1 x)), if_neg h]
theorem extr_mid (l : List UInt8) (a b : Nat) : (⟨l.toArray⟩ : ByteArray).extract a b = ⟨((l.drop a).take (b - a)).toArray⟩ := by
  apply ByteArray.ext
  simp [ByteArray.data_extract, List.extract_eq_take_drop]
set_option maxHeartbeats 2000000 in
theorem mpoint_any (l : List UInt8) (at' : Nat) (c : UInt8) (t : List UInt8) (w : World) (h : l.drop at' = c :: t) (hl : l.length ≤ 100000) :
    Calls Tryz.prog 260 #[.string ⟨l.toArray⟩, .int .i64 at'] w fun e w' => e = .returned (.tuple #[.int .i64 (getP (c :: t)).1, .int .i64 ((getP (c :: t)).2 : Nat)]) ∧ Keeps (fun _ => False) w w' := by
  have hat : at' < l.length := by
    rcases Nat.lt_or_ge at' l.length with h1 | h1
    · exact h1
    · rw [List.drop_eq_nil_of_le h1] at h; cases h
  have hlen : l.length - at' = t.length + 1 := by rw [← List.length_drop, h]; rfl
  obtain ⟨M, hM⟩ : ∃ M, M = min (at' + 4) l.length := ⟨_, rfl⟩
  have hmin : ∀ W : World, (Builtin.min_ #[3, 3] 3 #[.int .i64 ((at' : Int) + 4), .int .i64 (l.length : Int)]).run Tryz.prog W = .ok (.int .i64 (M : Int)) W := fun W => by
    rw [min_2, hM]
    congr 2
    split <;> omega
  have hM1 : at' ≤ M := by omega
  have hM2 : M ≤ l.length := by omega
  have hM3 : M ≤ at' + 4 := by omega
  have hex := extr_mid l at' M
  have hsub : (l.drop at').take (M - at') = c :: t.take 3 := by
    rw [h]
    obtain ⟨k, hk⟩ : ∃ k, M - at' = k + 1 := ⟨M - at' - 1, by omega⟩
    rw [hk, List.take_succ_cons]
    congr 1
    by_cases h4 : t.length ≤ 3
    · rw [List.take_of_length_le (by omega), List.take_of_length_le (by omega)]
    · congr 1; omega
  rw [hsub] at hex
  have hG := getP_take4 c t
  obtain ⟨s, hs⟩ : ∃ s : ByteArray, s = ⟨(c :: t.take 3).toArray⟩ := ⟨_, rfl⟩
  rw [← hs] at hex
  have Hs : Hid (s.data.toList = c :: t.take 3) := Lib.hid (by rw [hs])
  have Hz : Hid (s.size = (t.take 3).length + 1) := Lib.hid (by rw [hs]; show (c :: t.take 3).toArray.size = _; simp)
  have HG2 := Lib.hid hG
  rw [← hG]
  clear hM hsub hG hs hlen h
  generalize t.take 3 = u at *
  go_enter Tryz.func260, Tryz.ntmps260
  have hconv := fun W => Lib.run_convert_string_bytes (P := Tryz.prog) W 9 26 5 s Tryz.underlying9 Tryz.underlying26 Tryz.underlying5
  go_wp2_with fail
  have hW0 : Keeps (fun _ => False) w (Lib.bytesWorld w 5 s) := ⟨rfl, rfl, rfl, by rw [Lib.bytesWorld_size]; omega, fun k hk _ => Lib.bytesWorld_at_old w 5 s k hk⟩
  have hcp := grownCap_ge w s.size 0 5
  have hX0 : ∀ j x, (c :: u)[j]? = some x → (Lib.bytesWorld w 5 s).cell? ⟨w.heap.size, 0 + j, none⟩ = some (.int .u8 (x.toNat : Int)) := fun j x hx => by
    have hj : j < (c :: u).length := (List.getElem?_eq_some_iff.1 hx).1
    have := Lib.bytesWorld_cell w 5 s j (by rw [Hz.out]; exact hj)
    rw [Hs.out, List.getD_eq_getElem?_getD, hx] at this
    rw [Nat.zero_add]; exact this
  refine (get_some w.heap.size 0 _ s.size c u _ Hz.out hcp hX0).mono ?_
  rintro e w2 ⟨rfl, rfl⟩
  have HW := Lib.hid hW0
  clear hX0 hW0 hconv
  go_wp2_with fail
  go_ret2
  exact ⟨rfl, HW.out⟩
/-- The places behind a place. -/
def plcP : Nat → List UInt8 → Nat → List Nat
  | 0, _, _ => []
  | f + 1, l, a => match l with
    | [] => []
    | c :: t => (a + (getP (c :: t)).2) :: plcP f ((c :: t).drop (getP (c :: t)).2) (a + (getP (c :: t)).2)
def places (l : List UInt8) : List Nat := 0 :: plcP l.length l 0
def PlR (l : List UInt8) (base : Nat) (w0 : World) (ov av : Value) (wr : World) : Prop :=
  ∃ (f a : Nat) (acc : List Nat), av = .int .i64 a ∧ a ≤ l.length ∧ l.length - a ≤ f ∧ acc.length ≤ a + 1 ∧ wr.ownsRow base 3 1 ov acc.length (acc.map fun n : Nat => Value.int .i64 (n : Int)) ∧ acc ++ plcP f (l.drop a) a = places l ∧ Keeps (fun _ => False) w0 wr
set_option maxHeartbeats 4000000 in
theorem places_any (l : List UInt8) (w : World) (hl : l.length ≤ 100000) :
    Calls Tryz.prog 254 #[.string ⟨l.toArray⟩] w fun e w' => ∃ v, e = .returned v ∧ w'.ownsRow w.heap.size 3 1 v (places l).length ((places l).map fun n : Nat => Value.int .i64 (n : Int)) ∧ Keeps (fun _ => False) w w' := by
  obtain ⟨i0, hi0, hz0, hz1, hz2⟩ := info_parts info_int'
  have HP := Lib.hid (fun a c t W (h : l.drop a = c :: t) => mpoint_any l a c t W h hl)
  go_enter Tryz.func254, Tryz.ntmps254
  go_wp2_with fail
  go_loopw [3, 4] (fun ov av wr => PlR l w.heap.size w ov av wr) (fun _ av _ => l.length - (intOf av).toNat)
  case atStart => exact ⟨l.length, 0, [0], rfl, Nat.zero_le _, by omega, by simp, ⟨rfl, Or.inr ⟨_, 1, #[.int .i64 0], rfl, Nat.le_refl _, by simp [World.alloc, -World.alloc_eq], by simp, by unfold maxLen; omega, rfl, rfl⟩⟩, rfl, (Keeps.refl _ _).alloc _⟩
  case round =>
    obtain ⟨f, a, acc, rfl, ha, hf, hacc, hown, hpl, hk⟩ := hrel
    have OW := Lib.hid hown
    have K := Lib.hid hk
    have HPl := Lib.hid hpl
    obtain ⟨va, vc, rfl⟩ := ownsRow_slice hown
    have hsw := hk.size
    clear hown hk hpl
    by_cases hal : a < l.length
    · obtain ⟨c, t, hct⟩ : ∃ c t, l.drop a = c :: t := by
        cases h : l.drop a with
        | nil => have := congrArg List.length h; simp at this; omega
        | cons c t => exact ⟨c, t, rfl⟩
      obtain ⟨g, rfl⟩ : ∃ g, f = g + 1 := ⟨f - 1, by omega⟩
      have hp1 := (getP_pos c t).1
      have hp2 := getP_le c t
      have hlen : l.length - a = t.length + 1 := by rw [← List.length_drop, hct]; rfl
      have E : Hid (places l = acc ++ (a + (getP (c :: t)).2) :: plcP g (l.drop (a + (getP (c :: t)).2)) (a + (getP (c :: t)).2)) := Lib.hid (by
        have h := HPl.out
        rw [hct] at h
        rw [← List.drop_drop, hct]
        exact h.symm)
      have HG := Lib.hid (fun W => HP.out a c t W hct)
      clear hct
      generalize getP (c :: t) = G at *
      obtain ⟨r, n⟩ := G
      simp only at hp1 hp2 E HG
      go_wp2_with fail
      refine (HG.out _).mono ?_
      rintro e w2 ⟨rfl, k2⟩
      have K2 := Lib.hid (K.out.trans k2)
      have O2 := Lib.hid (ownsRow_keeps OW.out k2 (fun _ _ => id))
      have hs2 := K2.out.size
      clear k2
      go_wp2_with (at_builtin; refine wpList_append_own _ rfl (.tmp 21) (.tmp 23) 23 rfl w.heap.size 3 i0 (.int .i64 0) 1 8 Tryz.underlying23 hi0 hz0 hz1 hz2 rfl (by decide) _ _ _ rfl (ownsRow_alloc O2.out _) ⟨w2.heap.size, 0, none⟩ 1 1 [.int .i64 ((a : Int) + (n : Int))] rfl rfl (by exact cells_new _ [_] _) (by intro u hu; simp at hu; subst hu; rfl) ?d3 ?d4 ?d5 ?_)
      case d3 => unfold maxLen; omega
      case d4 => omega
      case d5 => simp; omega
      intro v' w3 hown' hgrow _
      have K3 : Hid (Keeps (fun _ => False) w w3) := Lib.hid (K2.out.trans2 (((Keeps.refl (fun b => w.heap.size ≤ b) w2).alloc _).grown hgrow (fun b hb => Or.inl (ownBlock_base O2.out b hb))) (fun i hi e => by omega))
      have O3 : Hid (w3.ownsRow w.heap.size 3 1 v' (acc ++ [a + n]).length ((acc ++ [a + n]).map fun n : Nat => Value.int .i64 (n : Int))) := Lib.hid (by simpa using hown')
      clear hown' hgrow
      go_wp2_with fail
      go_roundw
      case rel => exact ⟨g, a + n, acc ++ [a + n], by go_num, by omega, by omega, by simp; omega, O3.out, by rw [E.out]; simp, K3.out⟩
      case measure => simp [intOf]; omega
    · have he : a = l.length := by omega
      subst he
      have E : Hid (acc = places l) := Lib.hid (by
        have h := HPl.out
        rw [List.drop_length] at h
        cases f with
        | zero => simpa [plcP] using h
        | succ f => simpa [plcP] using h)
      go_wp2_with fail
      go_ret
      exact ⟨_, rfl, by rw [← E.out]; exact OW.out, K.out⟩
end Go.Proofs.YtgobcnheemocnaaGreatDoor
end
section
namespace Go.Proofs.YtgobcnheemocnaaGreatDoor
open Go.RowKit
set_option linter.unusedVariables false
set_option linter.unusedSimpArgs false
set_option maxRecDepth 100000

/-- One thread list and what it is at. -/
structure TS where
  tb : Nat
  mb : Nat
  lv : Value
  L : List Nat
  M : Nat → Bool
  now : Nat
def TS.at (B n : Nat) (w : World) (t : TS) : Prop := Thr B w t.tb t.mb n t.lv t.L t.M t.now
def TS.inn (t : TS) (b : Nat) : Prop := inT t.tb t.mb t.lv b
/-- A crew at c: over the program is (its value pv), the text tx; its two lists. -/
structure Crew (B : Nat) (w : World) (c : Nat) (pv : Value) (tx : List UInt8) (is : List Ins) (a b : TS) : Prop where
  bk : w.heap[c]? = some (.cells #[pv, .string ⟨tx.toArray⟩, .pointer (some ⟨a.tb, 0, none⟩), .pointer (some ⟨b.tb, 0, none⟩)] 342 (0, 0))
  ta : a.at B is.length w
  tb : b.at B is.length w
  dis : ∀ x, a.inn x → ¬ b.inn x
  ca : ¬ a.inn c
  cb : ¬ b.inn c
  cB : B ≤ c
  pg : PgAt w (fun b => b < B) pv is
theorem Crew.ltc {B c : Nat} {w : World} {pv : Value} {tx : List UInt8} {is : List Ins} {a b : TS} (h : Crew B w c pv tx is a b) : c < w.heap.size := by
  rcases Nat.lt_or_ge c w.heap.size with h1 | h1
  · exact h1
  · have := h.bk; rw [Array.getElem?_eq_none h1] at this; cases this
theorem Crew.keeps {S : Nat → Prop} {B c : Nat} {w w' : World} {pv : Value} {tx : List UInt8} {is : List Ins} {a b : TS} (h : Crew B w c pv tx is a b) (K : Keeps S w w') (hS : ∀ x, S x → False) : Crew B w' c pv tx is a b :=
  ⟨by rw [K.block c h.ltc (fun e => hS _ e)]; exact h.bk, Thr.keeps h.ta K (fun _ _ e => hS _ e), Thr.keeps h.tb K (fun _ _ e => hS _ e), h.dis, h.ca, h.cb, h.cB, h.pg.keepsTo K (fun _ _ e => hS _ e) (fun _ h => h)⟩
/-- What a list's next state may be. -/
structure TNext (B n : Nat) (w w' : World) (t t' : TS) : Prop where
  at' : t'.at B n w'
  tb : t'.tb = t.tb
  mb : t'.mb = t.mb
  row : t'.lv.ownBlock = t.lv.ownBlock ∨ ∃ g, t'.lv.ownBlock = some g ∧ w.heap.size ≤ g
  keep : Keeps t.inn w w'
theorem TNext.inn {B n : Nat} {w w' : World} {t t' : TS} (h : TNext B n w w' t t') {x : Nat} (hx : t'.inn x) : t.inn x ∨ w.heap.size ≤ x := by
  rcases hx with e | e | e
  · exact Or.inl (Or.inl (by rw [e, h.tb]))
  · exact Or.inl (Or.inr (Or.inl (by rw [e, h.mb])))
  · rcases h.row with h1 | ⟨g, h1, h2⟩
    · exact Or.inl (Or.inr (Or.inr (by rw [← h1]; exact e)))
    · rw [h1] at e
      have := Option.some.inj e
      exact Or.inr (by omega)
theorem Crew.nextA {B c : Nat} {w w' : World} {pv : Value} {tx : List UInt8} {is : List Ins} {a b a' : TS} (h : Crew B w c pv tx is a b) (hn : TNext B is.length w w' a a') : Crew B w' c pv tx is a' b := by
  refine ⟨by rw [hn.keep.block c h.ltc h.ca, hn.tb]; exact h.bk, hn.at', Thr.keeps h.tb hn.keep (fun x hb ha => h.dis x ha hb), fun x ha hb => ?_, fun e => ?_, h.cb, h.cB, h.pg.keepsTo hn.keep (fun x hx ha => by have := (Thr.inlt h.ta ha).2; omega) (fun _ h => h)⟩
  · rcases hn.inn ha with h1 | h1
    · exact h.dis x h1 hb
    · have := (Thr.inlt h.tb hb).1; omega
  · rcases hn.inn e with h1 | h1
    · exact h.ca h1
    · have := h.ltc; omega
theorem Crew.nextB {B c : Nat} {w w' : World} {pv : Value} {tx : List UInt8} {is : List Ins} {a b b' : TS} (h : Crew B w c pv tx is a b) (hn : TNext B is.length w w' b b') : Crew B w' c pv tx is a b' := by
  refine ⟨by rw [hn.keep.block c h.ltc h.cb, hn.tb]; exact h.bk, Thr.keeps h.ta hn.keep (fun x ha hb => h.dis x ha hb), hn.at', fun x ha hb => ?_, h.ca, fun e => ?_, h.cB, h.pg.keepsTo hn.keep (fun x hx hb => by have := (Thr.inlt h.tb hb).2; omega) (fun _ h => h)⟩
  · rcases hn.inn hb with h1 | h1
    · exact h.dis x ha h1
    · have := (Thr.inlt h.ta ha).1; omega
  · rcases hn.inn e with h1 | h1
    · exact h.cb h1
    · have := h.ltc; omega
theorem Crew.swap {B c : Nat} {w : World} {pv : Value} {tx : List UInt8} {is : List Ins} {a b : TS} (h : Crew B w c pv tx is a b) :
    Crew B ((w.setCell ⟨c, 2, none⟩ (.pointer (some ⟨b.tb, 0, none⟩))).setCell ⟨c, 3, none⟩ (.pointer (some ⟨a.tb, 0, none⟩))) c pv tx is b a ∧ Crew B ((w.setCell ⟨c, 3, none⟩ (.pointer (some ⟨a.tb, 0, none⟩))).setCell ⟨c, 2, none⟩ (.pointer (some ⟨b.tb, 0, none⟩))) c pv tx is b a := by
  have k1 : ∀ (v u : Value) (i j : Nat), Keeps (fun b => b = c) w ((w.setCell ⟨c, i, none⟩ v).setCell ⟨c, j, none⟩ u) := fun v u i j => ((Keeps.refl (fun b => b = c) w).set (p := ⟨c, i, none⟩) rfl _).set (p := ⟨c, j, none⟩) rfl _
  have hbk := h.bk
  constructor
  · refine ⟨by simp [World.setCell, Array.getElem?_modify, hbk], Thr.keeps h.tb (k1 _ _ _ _) (fun x hx e => h.cb (e ▸ hx)), Thr.keeps h.ta (k1 _ _ _ _) (fun x hx e => h.ca (e ▸ hx)), fun x hb ha => h.dis x ha hb, h.cb, h.ca, h.cB, h.pg.keepsTo (k1 _ _ _ _) (fun x hx e => by have := h.cB; omega) (fun _ h => h)⟩
  · refine ⟨by simp [World.setCell, Array.getElem?_modify, hbk], Thr.keeps h.tb (k1 _ _ _ _) (fun x hx e => h.cb (e ▸ hx)), Thr.keeps h.ta (k1 _ _ _ _) (fun x hx e => h.ca (e ▸ hx)), fun x hb ha => h.dis x ha hb, h.cb, h.ca, h.cB, h.pg.keepsTo (k1 _ _ _ _) (fun x hx e => by have := h.cB; omega) (fun _ h => h)⟩
/-- clear, put, at a crew's list. -/
theorem TS.clear {B n : Nat} {w : World} {t : TS} (h : t.at B n w) (hn : t.now ≤ 1000000000000) :
    Calls Tryz.prog 263 #[.pointer (some ⟨t.tb, 0, none⟩)] w fun e w' => e = .returned (.tuple #[]) ∧ ∃ t', TNext B n w w' t t' ∧ t'.L = [] ∧ t'.M = (fun _ => false) ∧ t'.now = t.now + 1 :=
  (clear_any B t.tb t.mb n t.now w t.lv t.L t.M h hn).mono fun e w' ⟨h1, ⟨lv', h2, h3⟩, h4⟩ => ⟨h1, ⟨t.tb, t.mb, lv', [], fun _ => false, t.now + 1⟩, ⟨h2, rfl, rfl, Or.inl h3, h4.mono (fun b _ e => Or.inl e)⟩, rfl, rfl, rfl⟩
theorem TS.put {B c : Nat} {w : World} {pv : Value} {is : List Ins} {bg en : Bool} {t : TS} {i : Nat} {s' : List Nat × (Nat → Bool)} (h : t.at B is.length w) (hr : PtR is bg en i (t.L, t.M) s') (z : Nat) (tx : List UInt8) (hp : PgAt w (fun b => b < B) pv is) (hc : w.cell? ⟨c, 0, none⟩ = some pv) (hc9 : w.cell? ⟨c, 1, none⟩ = some (.string ⟨tx.toArray⟩)) (hbg : bg = decide (z = 0)) (hen : en = decide (z = tx.length)) (hcn : ¬ t.inn c) (hl : s'.1.length ≤ 4000) (his : is.length ≤ 4000) (hn : t.now ≤ 1000000000000) (htx : tx.length ≤ 100000) :
    Calls Tryz.prog 264 #[.pointer (some ⟨c, 0, none⟩), .pointer (some ⟨t.tb, 0, none⟩), .int .i64 i, .int .i64 z] w fun e w' => e = .returned (.tuple #[]) ∧ ∃ t', TNext B is.length w w' t t' ∧ t'.L = s'.1 ∧ t'.M = s'.2 ∧ t'.now = t.now :=
  (mtput_any hr B c t.tb t.mb t.now z pv tx w t.lv h hp hc hc9 hbg hen hcn hl his hn htx).mono fun e w' ⟨h1, lv', h2, h3, h4⟩ => ⟨h1, ⟨t.tb, t.mb, lv', s'.1, s'.2, t.now⟩, ⟨h2, rfl, rfl, h4, h3⟩, rfl, rfl, rfl⟩
end Go.Proofs.YtgobcnheemocnaaGreatDoor
end
section
namespace Go.Proofs.YtgobcnheemocnaaGreatDoor
open Go.RowKit
set_option linter.unusedVariables false
set_option linter.unusedSimpArgs false
set_option maxRecDepth 100000

abbrev St := Int × List Nat × (Nat → Bool)
def pointP (tx : List UInt8) (p : Nat) : Int × Nat :=
  match tx.drop p with
  | [] => (0, 0)
  | c :: t => getP (c :: t)
/-- A round: what is in the list, one by one. -/
inductive FoldR (is : List Ins) (r : Int) (n p ln : Nat) : List Nat → St → St → Prop
  | nil (e : St) : FoldR is r n p ln [] e e
  | mt {i : Nat} {l : List Nat} {x : Ins} {s f : St} (hx : is[i]? = some x) (ho : x.op = 0) (h : FoldR is r n p ln l ((p : Int), s.2) f) : FoldR is r n p ln (i :: l) s f
  | hit {i : Nat} {l : List Nat} {x : Ins} {s f : St} {q : List Nat × (Nat → Bool)} (hx : is[i]? = some x) (ho : x.op = 1) (hn : 0 < n) (hh : has x.set r = true) (hp : PtR is (decide (p + n = 0)) (decide (p + n = ln)) x.x s.2 q) (h : FoldR is r n p ln l (s.1, q) f) : FoldR is r n p ln (i :: l) s f
  | miss {i : Nat} {l : List Nat} {x : Ins} {s f : St} (hx : is[i]? = some x) (ho : x.op = 1) (hn : n = 0 ∨ has x.set r = false) (h : FoldR is r n p ln l s f) : FoldR is r n p ln (i :: l) s f
/-- All rounds: how many, from a list at a place, with an end, to an end. -/
inductive LongR (is : List Ins) (tx : List UInt8) : Nat → List Nat → Nat → Int → Int → Prop
  | stop {L : List Nat} {p : Nat} {e e' : Int} {M : Nat → Bool} (h : FoldR is (pointP tx p).1 (pointP tx p).2 p tx.length L (e, [], fun _ => false) (e', [], M)) : LongR is tx 0 L p e e'
  | go {k : Nat} {L L' : List Nat} {p : Nat} {e e' res : Int} {M : Nat → Bool} (h : FoldR is (pointP tx p).1 (pointP tx p).2 p tx.length L (e, [], fun _ => false) (e', L', M)) (hL : L' ≠ []) (hl : L'.length ≤ 4000) (hr : LongR is tx k L' (p + (pointP tx p).2) e' res) : LongR is tx (k + 1) L p e res
theorem FoldR.len {is : List Ins} {r : Int} {n p ln : Nat} {l : List Nat} {s f : St} (h : FoldR is r n p ln l s f) : s.2.1.length ≤ f.2.1.length := by
  induction h with
  | nil => exact Nat.le_refl _
  | mt _ _ _ ih => exact ih
  | hit _ _ _ _ hp _ ih => exact Nat.le_trans hp.len ih
  | miss _ _ _ _ ih => exact ih
theorem FoldR.range {is : List Ins} {r : Int} {n p ln : Nat} {l : List Nat} {s f : St} (h : FoldR is r n p ln l s f) : p ≤ 1000000000000 → (-1 ≤ s.1 ∧ s.1 ≤ 1000000000000) → -1 ≤ f.1 ∧ f.1 ≤ 1000000000000 := by
  induction h with
  | nil => exact fun _ h => h
  | mt _ _ _ ih => exact fun hp _ => ih hp ⟨by omega, by omega⟩
  | hit _ _ _ _ _ _ ih => exact fun hp h => ih hp h
  | miss _ _ _ _ ih => exact fun hp h => ih hp h
theorem FoldR.zero {is : List Ins} {r : Int} {n p ln : Nat} {l : List Nat} {s f : St} (h : FoldR is r n p ln l s f) : n = 0 → f.2 = s.2 := by
  induction h with
  | nil => exact fun _ => rfl
  | mt _ _ _ ih => exact fun hn => ih hn
  | hit _ _ hn _ _ _ _ => exact fun h0 => by omega
  | miss _ _ _ _ ih => exact fun hn => ih hn
theorem LongR.open {is : List Ins} {tx : List UInt8} {k p : Nat} {L : List Nat} {e res : Int} (h : LongR is tx k L p e res) :
    ∃ fin : St, FoldR is (pointP tx p).1 (pointP tx p).2 p tx.length L (e, [], fun _ => false) fin ∧ fin.2.1.length ≤ 4000 ∧ ((fin.2.1 = [] ∧ fin.1 = res) ∨ (fin.2.1 ≠ [] ∧ ∃ k', k = k' + 1 ∧ LongR is tx k' fin.2.1 (p + (pointP tx p).2) fin.1 res)) := by
  cases h with
  | stop h => exact ⟨_, h, by simp, Or.inl ⟨rfl, rfl⟩⟩
  | go h hL hl hr => exact ⟨_, h, hl, Or.inr ⟨hL, _, rfl, hr⟩⟩
/-- The longest match from a place: how many rounds, to where. -/
def StartR (is : List Ins) (tx : List UInt8) (p k : Nat) (e : Int) : Prop := ∃ s0 : List Nat × (Nat → Bool), PtR is (decide (p = 0)) (decide (p = tx.length)) 0 ([], fun _ => false) s0 ∧ s0.1.length ≤ 4000 ∧ LongR is tx k s0.1 p (-1) e
theorem pointP_le {tx : List UInt8} {p : Nat} (h : p ≤ tx.length) : p + (pointP tx p).2 ≤ tx.length := by
  unfold pointP
  cases h1 : tx.drop p with
  | nil => simpa using h
  | cons c t =>
    have h2 := congrArg List.length h1
    have h3 := getP_le c t
    simp only [List.length_drop, List.length_cons] at h2
    simp only
    omega
theorem Crew.cells {B c : Nat} {w : World} {pv : Value} {tx : List UInt8} {is : List Ins} {a b : TS} (h : Crew B w c pv tx is a b) : w.cell? ⟨c, 0, none⟩ = some pv ∧ w.cell? ⟨c, 1, none⟩ = some (.string ⟨tx.toArray⟩) ∧ w.cell? ⟨c, 2, none⟩ = some (.pointer (some ⟨a.tb, 0, none⟩)) ∧ w.cell? ⟨c, 3, none⟩ = some (.pointer (some ⟨b.tb, 0, none⟩)) ∧ w.frozen? ⟨c, 2, none⟩ = false ∧ w.frozen? ⟨c, 3, none⟩ = false :=
  ⟨by rw [Lib.cell_of_heap h.bk]; rfl, by rw [Lib.cell_of_heap h.bk]; rfl, by rw [Lib.cell_of_heap h.bk]; rfl, by rw [Lib.cell_of_heap h.bk]; rfl, Lib.frozen_of_heap h.bk 2, Lib.frozen_of_heap h.bk 3⟩
theorem TS.cell {B n : Nat} {w : World} {t : TS} (h : t.at B n w) : w.cell? ⟨t.tb, 0, none⟩ = some t.lv := by rw [Lib.cell_of_heap (Thr.bk h)]; rfl
/-- A crew's blocks. -/
def inC (c : Nat) (a b : TS) (x : Nat) : Prop := x = c ∨ a.inn x ∨ b.inn x
/-- What is turned of what was there. -/
structure Foot (w : World) (F : Nat → Prop) (W : World) (a b : TS) : Prop where
  keep : Keeps F w W
  ina : ∀ x, x < w.heap.size → a.inn x → F x
  inb : ∀ x, x < w.heap.size → b.inn x → F x
theorem Foot.start (w : World) (c : Nat) (a b : TS) : Foot w (inC c a b) w a b := ⟨Keeps.refl _ _, fun x _ h => Or.inr (Or.inl h), fun x _ h => Or.inr (Or.inr h)⟩
theorem Foot.nextA {w W W' : World} {F : Nat → Prop} {a b a' : TS} {B n : Nat} (h : Foot w F W a b) (hn : TNext B n W W' a a') : Foot w F W' a' b :=
  ⟨h.keep.trans2 hn.keep h.ina, fun x hx hi => by
    rcases hn.inn hi with h1 | h1
    · exact h.ina x hx h1
    · have := h.keep.size; omega, h.inb⟩
theorem Foot.nextB {w W W' : World} {F : Nat → Prop} {a b b' : TS} {B n : Nat} (h : Foot w F W a b) (hn : TNext B n W W' b b') : Foot w F W' a b' :=
  ⟨h.keep.trans2 hn.keep h.inb, h.ina, fun x hx hi => by
    rcases hn.inn hi with h1 | h1
    · exact h.inb x hx h1
    · have := h.keep.size; omega⟩
theorem Foot.keeps {w W W' : World} {F : Nat → Prop} {a b : TS} (h : Foot w F W a b) (K : Keeps (fun _ => False) W W') : Foot w F W' a b :=
  ⟨h.keep.trans2 K (fun _ _ e => e.elim), h.ina, h.inb⟩
/-- The state within a round. -/
def InnR (B c : Nat) (F : Nat → Prop) (pv : Value) (tx : List UInt8) (is : List Ins) (a b0 : TS) (r : Int) (n p : Nat) (fin : St) (w0 : World) (kv ev : Value) (wr : World) : Prop :=
  ∃ (k : Nat) (e : Int) (b : TS), kv = .int .i64 k ∧ k ≤ a.L.length ∧ ev = .int .i64 e ∧ (-1 ≤ e ∧ e ≤ 1000000000000) ∧ Crew B wr c pv tx is a b ∧ b.now = b0.now ∧ FoldR is r n p tx.length (a.L.drop k) (e, b.L, b.M) fin ∧ Foot w0 F wr a b
/-- The state at a round's head. -/
def LoR (B c N : Nat) (F : Nat → Prop) (pv : Value) (tx : List UInt8) (is : List Ins) (res : Int) (w0 : World) (av ev : Value) (wr : World) : Prop :=
  ∃ (k p : Nat) (e : Int) (a b : TS), av = .int .i64 p ∧ p ≤ tx.length ∧ ev = .int .i64 e ∧ (-1 ≤ e ∧ e ≤ 1000000000000) ∧ Crew B wr c pv tx is a b ∧ a.now + k ≤ N ∧ b.now + k < N ∧ a.L.length ≤ 4000 ∧ LongR is tx k a.L p e res ∧ Foot w0 F wr a b
end Go.Proofs.YtgobcnheemocnaaGreatDoor
end
