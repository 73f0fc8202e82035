/-
  The walk of SetMakes.
-/
import Derived.Test.YtibfioekmpnkgaaSetLaw
namespace Go.Proofs.Ytibfioekmpnkgaa
open Go.RowKit
set_option linter.unusedVariables false
set_option linter.unusedSimpArgs false
set_option maxRecDepth 100000

def MakesR (w3 : World) (n : Nat) (iv : Value) (wr : World) : Prop := ∃ i : Nat, iv = .int .i64 i ∧ i ≤ n ∧ Keeps (fun _ => False) w3 wr

set_option maxHeartbeats 1000000 in
theorem makes_main (l : List (Int × Int)) (v : Value) (r : Int) (w : World) (h : RSl w v l) (hl : l.length ≤ 20) :
    Calls Try.prog 6 #[v, .int .i64 r] w fun e w' => e = .returned (.bool true) ∧ Keeps (fun _ => False) w w' := by
  obtain ⟨a0, c0, rfl, _, _⟩ := h.cells
  obtain ⟨j0, hj, hy0, hy1, hy2⟩ := info_parts info_int
  go_enter Try.func6, Try.ntmps6
  go_wp2_with fail
  refine (lawAwake_any _).mono ?_
  rintro e w1 ⟨rfl, hk1⟩
  have h1 := h.1.keep hk1
  have hR1 : RSl (w1.alloc (.cells #[] 60)) (.slice a0 l.length c0) l := ⟨h1.alloc _, h.2⟩
  have hE : (w1.alloc (.cells #[] 60)).ownsRow w1.heap.size 60 2 (.slice (some ⟨w1.heap.size, 0, none⟩) 0 0) 0 [] :=
    ⟨rfl, Or.inr ⟨w1.heap.size, 0, #[], rfl, Nat.le_refl _, by show (w1.heap.push _)[_]? = _; simp, Nat.le_refl _, by unfold maxLen; omega, rfl, rfl⟩⟩
  go_wp2_with (at_builtin; refine wpList_append_rsl rfl (.tmp 17) (.tmp 18) rfl w1.heap.size _ _ _ rfl hE _ l rfl hR1 ?c1 ?c2 ?_)
  case c1 => omega
  case c2 => simp
  intro v5 w2 hown5 hgrow5
  have h5 : RSl w2 v5 l := ⟨SlOf.ofOwn (by simpa using hown5) (by omega), h.2⟩
  have hk2 : Keeps (fun _ => False) w w2 := (hk1.alloc _).grown hgrow5 (fun b hb => Or.inr (by simp [Value.ownBlock] at hb; subst hb; exact hk1.size))
  have h2 := h.keep hk2
  have Hl := Lib.hid h.2
  obtain ⟨a5, c5, rfl, _, _⟩ := h5.cells
  clear hown5 hgrow5 hE hR1 h1 h hk1
  go_wp2_with fail
  refine (of_walk l _ _ h5 (by omega)).mono ?_
  rintro e w3 ⟨u, out, rfl, hof, hown, hlo⟩
  have h6 := hown.read (by omega) (norm64 hof.1)
  have hk3 := hk2.trans hown.2
  have h53 := h5.keep hown.2
  have h3 := h2.keep hown.2
  clear hown hk2 h5 h2
  go_wp2_with fail
  refine (refRight_any out u _ h6).mono ?_
  rintro e w4 ⟨s, rfl, hs, n4, rfl⟩
  obtain rfl : s = true := hs.2 hof.1
  clear hs
  go_wp2_with fail
  refine (right_any l _ _ (h3.keep ((Keeps.refl _ _).drawN _)) (by omega)).mono ?_
  rintro e w5 ⟨s5, rfl, hs5, hk5⟩
  have hk5' := ((Keeps.refl (fun _ => False) w3).drawN n4).trans hk5
  clear hk5
  go_wp2_with fail
  refine (refRight_any l _ _ (h3.keep hk5')).mono ?_
  rintro e w6 ⟨s6, rfl, hs6, n6, rfl⟩
  obtain rfl : s6 = s5 := by
    rw [Bool.eq_iff_iff, hs6, hs5]
  have hk6 := hk5'.drawN n6
  clear hs5 hs6 hk5'
  generalize hw6 : w5.drewN n6 = w6 at *
  clear hw6
  go_wp2_with fail
  refine (of_walk out u _ (h6.keep hk6) (by omega)).mono ?_
  rintro e w7 ⟨u7, out7, rfl, hof7, hown7, hlo7⟩
  obtain rfl : out7 = out := hof7.unique (IsOf.self hof.1)
  have hk7 := hk6.trans hown7.2
  have h77 := hown7.read (by omega) (norm64 hof.1)
  clear hown7 hk6 hof7 hlo7
  go_wp2_with fail
  refine (refSame_any out7 out7 _ _ _ h77 (h6.keep hk7)).mono ?_
  rintro e w8 ⟨rfl, n8, rfl⟩
  have hk8 := hk7.drawN n8
  clear h77 hk7
  generalize hw8 : w7.drewN n8 = w8 at *
  clear hw8
  simp only [decide_true]
  go_wp2_with fail
  refine (refSame_any l l _ _ _ (h53.keep hk8) (h3.keep hk8)).mono ?_
  rintro e w9 ⟨rfl, n9, rfl⟩
  have hk9 := hk8.drawN n9
  clear hk8 h53
  generalize hw9 : w8.drewN n9 = w9 at *
  clear hw9
  simp only [decide_true]
  go_wp2_with fail
  refine (refEnds_any l _ _ (h3.keep hk9) (by omega)).mono ?_
  rintro e w10 ⟨u10, es, rfl, hr10, he10, he2, he3, hkk⟩
  have hk10 := hk9.trans hkk
  have hs9 := hk9.size
  clear hk9 
  obtain ⟨va, vc, rfl⟩ := ownsRow_slice hr10
  have hsz := hkk.size
  go_wp2_with (at_builtin; refine wpList_append_own _ rfl (.tmp 46) (.tmp 48) 56 rfl w9.heap.size 3 j0 _ 1 8 Try.underlying56 hj hy0 hy1 hy2 rfl (by decide) _ _ _ rfl (ownsRow_alloc hr10 _) ⟨w10.heap.size, 0, none⟩ 1 1 [.int .i64 r] rfl rfl (by exact cells_new _ [_] _) (by intro u hu; simp at hu; subst hu; rfl) ?d3 ?d4 ?d5 ?_)
  case d3 => unfold maxLen; omega
  case d4 => omega
  case d5 => simp; omega
  intro v7 w11 hown7' hgrow7 _
  have hr7 : w11.ownsRow w9.heap.size 3 1 v7 (es ++ [r]).length ((es ++ [r]).map (Value.int .i64)) := by simpa using hown7'
  have hk11 : Keeps (fun _ => False) w3 w11 := (hk10.alloc _).grown hgrow7 (fun b hb => Or.inr (by have := ownBlock_base hr10 b hb; omega))
  have hne : es ++ [r] ≠ [] := by simp
  have hnl : (es ++ [r]).length ≤ 200 := by simp; omega
  have Hk3 := Lib.hid hk3
  clear hown7' hgrow7 hr10 hkk hk10 he3 hk3
  generalize es ++ [r] = fs at *
  obtain ⟨g, gc, rfl, hg1, hg2⟩ := ownsRow_some hr7 (List.length_pos_iff.2 hne)
  have Hc := Lib.hid hr7.cellAt
  clear hr7
  go_wp2_with fail
  go_loopw [8] (fun iv wr => MakesR w11 fs.length iv wr) (fun iv _ => fs.length - (intOf iv).toNat)
  case atStart => exact ⟨0, rfl, Nat.zero_le _, Keeps.refl _ _⟩
  case round =>
    obtain ⟨i, rfl, hi, hkr⟩ := hrel
    by_cases hlt : i < fs.length
    · obtain ⟨x, hx⟩ : ∃ x, fs[i]? = some x := ⟨_, List.getElem?_eq_getElem hlt⟩
      have hc : w11.cell? ⟨g, i, none⟩ = some (.int .i64 x) := by
        rw [Hc.out i (by omega)]; simp [hx]
      have d0 := hkr.cell hc id
      have hq : has out7 x = has l x := by rw [hof.1.has, hof.2]
      have K1 : ∀ W z, Keeps (fun _ => False) w11 W → (z = u ∨ z = .slice a0 l.length c0) → Calls Try.prog 30 #[z, .int .i64 x] W fun e w' => e = .returned (.bool (has l x)) ∧ w' = W := by
        rintro W z k (rfl | rfl)
        · exact (refHas_any out7 _ x W (h6.keep (hk11.trans k))).mono fun e w' ⟨a, b⟩ => ⟨by rw [a, hq], b.symm⟩
        · exact (refHas_any l _ x W (h3.keep (hk11.trans k))).mono fun e w' ⟨a, b⟩ => ⟨a, b.symm⟩
      have K3 : ∀ W, Keeps (fun _ => False) w11 W → Calls Try.prog 31 #[.slice a0 l.length c0, .int .i64 x] W fun e w' => e = .returned (.bool (has l x)) ∧ Keeps (fun _ => False) w11 w' := fun W k => (has_any l _ x W (h3.keep (hk11.trans k))).mono fun e w' ⟨a, b⟩ => ⟨a, k.trans b⟩
      have hkd := hkr.drew
      have dd := hkd.cell hc id
      clear hq hx d0 h3 h6 hof Hc Hl hlo
      generalize has l x = q at *
      go_wp2_with fail
      cases q
      all_goals go_region_held3 (fun w' => w'.cell? ⟨g, i, none⟩ = some (.int .i64 x) ∧ Keeps (fun _ => False) w11 w') (first | exact ⟨dd, hkd⟩ | exact ⟨Keeps.cell (by assumption) hc id, by assumption⟩)
        (first | (go_at_call 30; refine (K1 _ _ ?_ ?_).mono ?_; exact (by assumption : _ ∧ _).2; (first | exact Or.inl rfl | exact Or.inr rfl); rintro e w' ⟨rfl, rfl⟩) | (go_at_call 31; refine (K3 _ ?_).mono ?_; exact (by assumption : _ ∧ _).2; rintro e w' ⟨rfl, hkn⟩))
      all_goals
        go_wp2_with fail
        go_roundw
        case rel => exact ⟨i + 1, by go_num, by omega, by first | assumption | exact (by assumption : _ ∧ _).2⟩
        case measure => simp [intOf]; omega
    · go_wp2_with fail
      go_ret
      exact ⟨rfl, Hk3.out.trans (hk11.trans hkr)⟩
end Go.Proofs.Ytibfioekmpnkgaa
