/-
  The walk of SetTurns.
-/
import Derived.Test.YtibfioekmpnkgaaSetWrap
namespace Go.Proofs.Ytibfioekmpnkgaa
open Go.RowKit
set_option linter.unusedVariables false
set_option linter.unusedSimpArgs false
set_option maxRecDepth 100000

def TurnsR (w3 : World) (n : Nat) (iv : Value) (wr : World) : Prop := ∃ i : Nat, iv = .int .i64 i ∧ i ≤ n ∧ Keeps (fun _ => False) w3 wr

theorem ownsRow_keeps {w w' : World} {base : Nat} {e : TypeId} {size : Nat} {v : Value} {n : Nat} {xs : List Value} (h : w.ownsRow base e size v n xs) (k : Keeps (fun _ => False) w w') : w'.ownsRow base e size v n xs :=
  h.kept (row := none) ⟨k.os, k.tape, k.output, k.size, fun b hb _ => k.block b hb id⟩ (by cases hv : v.ownBlock <;> simp)

set_option maxHeartbeats 4000000 in
theorem turns_main (l m : List (Int × Int)) (v u : Value) (r : Int) (w : World) (h : RSl w v l) (g : RSl w u m) (hl : l.length ≤ 12) (hm : m.length ≤ 12) :
    Calls Try.prog 9 #[v, u, .int .i64 r] w fun e w' => e = .returned (.bool true) ∧ Keeps (fun _ => False) w w' := by
  obtain ⟨a0, c0, rfl, _, _⟩ := h.cells
  obtain ⟨a1, c1, rfl, _, _⟩ := g.cells
  obtain ⟨j0, hj, hy0, hy1, hy2⟩ := info_parts info_int
  go_enter Try.func9, Try.ntmps9
  go_wp2_with fail
  refine (lawAwake_any _).mono ?_
  rintro e w1 ⟨rfl, k⟩
  go_wp2_with fail
  refine (not_r l _ h k 12 hl (by omega)).mono ?_
  rintro e w2 ⟨ua, oa, rfl, pa, ra, na, j⟩
  have k2 := k.trans j
  clear k j
  go_wp2_with fail
  refine (or_r l m _ _ h k2 g k2 12 12 hl hm (by omega) (by omega)).mono ?_
  rintro e w3 ⟨ub, ob, rfl, pb, rb, nb, j⟩
  have k3 := k2.trans j
  have ra := ra.keep j
  clear k2 j
  go_wp2_with fail
  refine (and_r l m _ _ h k3 g k3 12 12 hl hm (by omega) (by omega)).mono ?_
  rintro e w4 ⟨uc, oc, rfl, pc, rc, nc, j⟩
  have k4 := k3.trans j
  have ra := ra.keep j
  have rb := rb.keep j
  clear k3 j
  go_wp2_with fail
  refine (rgt_r oa _ ra (Keeps.refl _ _) pa.1).mono ?_
  rintro e w5 ⟨rfl, j5⟩
  go_wp2_with fail
  refine (rgt_r ob _ rb j5 pb.1).mono ?_
  rintro e w6 ⟨rfl, j⟩
  have j6 := j5.trans j
  clear j j5
  go_wp2_with fail
  refine (rgt_r oc _ rc j6 pc.1).mono ?_
  rintro e w7 ⟨rfl, j⟩
  have j7 := j6.trans j
  clear j j6
  have k7 := k4.trans j7
  have h7 := h.keep k7
  have g7 := g.keep k7
  have ra := ra.keep j7
  have rb := rb.keep j7
  have rc := rc.keep j7
  clear j7 k4 h g
  go_wp2_with fail
  refine (refEnds_any l _ _ h7 (by omega)).mono ?_
  rintro e w8 ⟨u8, es, rfl, hr8, he8, _, _, hk8⟩
  have he8' : es.length ≤ 100 := by omega
  have hs8 := hk8.size
  clear he8
  go_wp2_with fail
  refine (refEnds_any m _ _ (g7.keep hk8) (by omega)).mono ?_
  rintro e w9 ⟨u9, fs, rfl, hr9, he9, hf2, _, hk9⟩
  have he9' : fs.length ≤ 100 := by omega
  have hr8' := ownsRow_keeps hr8 hk9
  have hs9 := hk9.size
  obtain ⟨v8, e8, rfl⟩ := ownsRow_slice hr8'
  obtain ⟨g9, e9, rfl, _, _⟩ := ownsRow_some hr9 (by omega)
  have hn9 := hr9.cells (g := g9) rfl
  go_wp2_with (at_builtin; refine wpList_append_own _ rfl (.tmp 50) (.tmp 52) 56 rfl w7.heap.size 3 j0 _ 1 8 Try.underlying56 hj hy0 hy1 hy2 rfl (by decide) _ _ _ rfl hr8' ⟨g9, 0, none⟩ fs.length e9 (fs.map (Value.int .i64)) rfl (by simp) hn9 ?c2 ?c3 ?c4 ?c5 ?_)
  case c2 => intro u hu; rw [List.mem_map] at hu; obtain ⟨y, _, rfl⟩ := hu; rfl
  case c3 => unfold maxLen; omega
  case c4 => omega
  case c5 => omega
  intro v10 w10 hown' hgrow' _
  have hr10 : w10.ownsRow w7.heap.size 3 1 v10 (es ++ fs).length ((es ++ fs).map (Value.int .i64)) := by simpa using hown'
  have hk10 : Keeps (fun _ => False) w7 w10 := (hk8.trans hk9).grown hgrow' (fun b hb => Or.inr (ownBlock_base hr8' b hb))
  have hl10 : (es ++ fs).length ≤ 200 := by simp; omega
  clear hown' hgrow' hr8 hr8' hr9 hn9 hk8 hk9 hs8 hs9 he8' he9' hf2
  generalize es ++ fs = gs at *
  obtain ⟨va, vc, rfl⟩ := ownsRow_slice hr10
  have hs10 := hk10.size
  go_wp2_with (at_builtin; refine wpList_append_own _ rfl (.tmp 53) (.tmp 55) 56 rfl w7.heap.size 3 j0 _ 1 8 Try.underlying56 hj hy0 hy1 hy2 rfl (by decide) _ _ _ rfl (ownsRow_alloc hr10 _) ⟨w10.heap.size, 0, none⟩ 1 1 [.int .i64 r] rfl rfl (by exact cells_new _ [_] _) (by intro u hu; simp at hu; subst hu; rfl) ?d3 ?d4 ?d5 ?_)
  case d3 => unfold maxLen; omega
  case d4 => omega
  case d5 => simp; omega
  intro v11 w11 hown' hgrow' _
  have hr11 : w11.ownsRow w7.heap.size 3 1 v11 (gs ++ [r]).length ((gs ++ [r]).map (Value.int .i64)) := by simpa using hown'
  have hk11 : Keeps (fun _ => False) w7 w11 := (hk10.alloc _).grown hgrow' (fun b hb => Or.inr (ownBlock_base hr10 b hb))
  have hne : gs ++ [r] ≠ [] := by simp
  have hnl : (gs ++ [r]).length ≤ 201 := by simp; omega
  have k11 := Lib.hid (k7.trans hk11)
  have h := h7.keep hk11
  have g' := g7.keep hk11
  have ra := ra.keep hk11
  have rb := rb.keep hk11
  have rc := rc.keep hk11
  clear hown' hgrow' hr10 hk10 hk11 k7 h7 g7 hl10 hs10
  generalize gs ++ [r] = fs at *
  obtain ⟨g, gc, rfl, hg1, hg2⟩ := ownsRow_some hr11 (List.length_pos_iff.2 hne)
  have Hc := Lib.hid hr11.cellAt
  clear hr11
  go_wp2_with fail
  go_loopw [11] (fun iv wr => TurnsR w11 fs.length iv wr) (fun iv _ => fs.length - (intOf iv).toNat)
  case atStart => exact ⟨0, rfl, Nat.zero_le _, Keeps.refl _ _⟩
  case round =>
    obtain ⟨i, rfl, hi, hkr⟩ := hrel
    by_cases hlt : i < fs.length
    · obtain ⟨x, hx⟩ : ∃ x, fs[i]? = some x := ⟨_, List.getElem?_eq_getElem hlt⟩
      have hc : w11.cell? ⟨g, i, none⟩ = some (.int .i64 x) := by
        rw [Hc.out i (by omega)]; simp [hx]
      have hkd := hkr.drew
      have dd := hkd.cell hc id
      have d0 := hkr.cell hc id
      have K1 : ∀ W z b, Keeps (fun _ => False) w11 W → (z = .slice a0 l.length c0 ∧ b = has l x ∨ z = .slice a1 m.length c1 ∧ b = has m x) → Calls Try.prog 30 #[z, .int .i64 x] W fun e w' => e = .returned (.bool b) ∧ w' = W := by
        rintro W z b k (⟨rfl, rfl⟩ | ⟨rfl, rfl⟩)
        · exact (refHas_any l _ x W (h.keep k)).mono fun e w' ⟨a, b⟩ => ⟨a, b.symm⟩
        · exact (refHas_any m _ x W (g'.keep k)).mono fun e w' ⟨a, b⟩ => ⟨a, b.symm⟩
      have KA : ∀ W, Keeps (fun _ => False) w11 W → Calls Try.prog 30 #[ua, .int .i64 x] W fun e w' => e = .returned (.bool (inAll x && !has l x)) ∧ w' = W := fun W k => (refHas_any oa _ x W (ra.keep k)).mono fun e w' ⟨a, b⟩ => ⟨by rw [a, pa.1.has, pa.2], b.symm⟩
      have KB : ∀ W, Keeps (fun _ => False) w11 W → Calls Try.prog 30 #[ub, .int .i64 x] W fun e w' => e = .returned (.bool (has l x || has m x)) ∧ w' = W := fun W k => (refHas_any ob _ x W (rb.keep k)).mono fun e w' ⟨a, b⟩ => ⟨by rw [a, pb.1.has, pb.2], b.symm⟩
      have KC : ∀ W, Keeps (fun _ => False) w11 W → Calls Try.prog 30 #[uc, .int .i64 x] W fun e w' => e = .returned (.bool (has l x && has m x)) ∧ w' = W := fun W k => (refHas_any oc _ x W (rc.keep k)).mono fun e w' ⟨a, b⟩ => ⟨by rw [a, pc.1.has, pc.2], b.symm⟩
      have hin1 : has l x = true → inAll x = true := fun h => by unfold has at h; simp at h; exact h.2
      have hin2 : has m x = true → inAll x = true := fun h => by unfold has at h; simp at h; exact h.2
      clear h g' ra rb rc pa pb pc Hc hx
      generalize has l x = p at *
      generalize has m x = q at *
      by_cases hx0 : 0 ≤ x ∧ x ≤ 1114111
      · obtain ⟨x0, x1⟩ := hx0
        have hin : inAll x = true := by simp [inAll, x0, x1]
        rw [hin] at KA
        clear hin1 hin2 hin
        cases p
        · cases q
          · simp only [Bool.not_false, Bool.not_true, Bool.and_true, Bool.and_false, Bool.or_false, Bool.or_true, Bool.true_and, Bool.false_and, Bool.true_or, Bool.false_or] at KA KB KC
            go_wp2_with fail
            go_region_held3 (fun w' => w'.cell? ⟨g, i, none⟩ = some (.int .i64 x) ∧ Keeps (fun _ => False) w11 w') (first | exact ⟨dd, hkd⟩ | exact ⟨Keeps.cell (by assumption) hc id, by assumption⟩) (first | (go_at_call 30; refine (K1 _ _ false ?_ ?_).mono ?_; exact (by assumption : _ ∧ _).2; exact Or.inl ⟨rfl, rfl⟩; rintro e w' ⟨rfl, rfl⟩) | (go_at_call 30; refine (K1 _ _ false ?_ ?_).mono ?_; exact (by assumption : _ ∧ _).2; exact Or.inr ⟨rfl, rfl⟩; rintro e w' ⟨rfl, rfl⟩) )
            have hkf : Keeps (fun _ => False) w11 wr.drew := hkd
            go_wp2_with fail
            refine (KA _ (by assumption)).mono ?_
            rintro e wx ⟨rfl, rfl⟩
            go_wp2_with fail
            refine (KB _ (by assumption)).mono ?_
            rintro e wx ⟨rfl, rfl⟩
            go_wp2_with fail
            refine (KC _ (by assumption)).mono ?_
            rintro e wx ⟨rfl, rfl⟩
            go_wp2_with fail
            go_roundw
            case rel => exact ⟨i + 1, by go_num, by omega, by assumption⟩
            case measure => simp [intOf]; omega
          · simp only [Bool.not_false, Bool.not_true, Bool.and_true, Bool.and_false, Bool.or_false, Bool.or_true, Bool.true_and, Bool.false_and, Bool.true_or, Bool.false_or] at KA KB KC
            go_wp2_with fail
            go_region_held3 (fun w' => w'.cell? ⟨g, i, none⟩ = some (.int .i64 x) ∧ Keeps (fun _ => False) w11 w') (first | exact ⟨dd, hkd⟩ | exact ⟨Keeps.cell (by assumption) hc id, by assumption⟩) (first | (go_at_call 30; refine (K1 _ _ false ?_ ?_).mono ?_; exact (by assumption : _ ∧ _).2; exact Or.inl ⟨rfl, rfl⟩; rintro e w' ⟨rfl, rfl⟩) | (go_at_call 30; refine (K1 _ _ true ?_ ?_).mono ?_; exact (by assumption : _ ∧ _).2; exact Or.inr ⟨rfl, rfl⟩; rintro e w' ⟨rfl, rfl⟩) )
            have hkf : Keeps (fun _ => False) w11 wr.drew := hkd
            go_wp2_with fail
            refine (KA _ (by assumption)).mono ?_
            rintro e wx ⟨rfl, rfl⟩
            go_wp2_with fail
            refine (KB _ (by assumption)).mono ?_
            rintro e wx ⟨rfl, rfl⟩
            go_wp2_with fail
            refine (KC _ (by assumption)).mono ?_
            rintro e wx ⟨rfl, rfl⟩
            go_wp2_with fail
            go_roundw
            case rel => exact ⟨i + 1, by go_num, by omega, by assumption⟩
            case measure => simp [intOf]; omega
        · cases q
          · simp only [Bool.not_false, Bool.not_true, Bool.and_true, Bool.and_false, Bool.or_false, Bool.or_true, Bool.true_and, Bool.false_and, Bool.true_or, Bool.false_or] at KA KB KC
            go_wp2_with fail
            go_region_held3 (fun w' => w'.cell? ⟨g, i, none⟩ = some (.int .i64 x) ∧ Keeps (fun _ => False) w11 w') (first | exact ⟨dd, hkd⟩ | exact ⟨Keeps.cell (by assumption) hc id, by assumption⟩) (first | (go_at_call 30; refine (K1 _ _ true ?_ ?_).mono ?_; exact (by assumption : _ ∧ _).2; exact Or.inl ⟨rfl, rfl⟩; rintro e w' ⟨rfl, rfl⟩) | (go_at_call 30; refine (K1 _ _ false ?_ ?_).mono ?_; exact (by assumption : _ ∧ _).2; exact Or.inr ⟨rfl, rfl⟩; rintro e w' ⟨rfl, rfl⟩) )
            have hkf : Keeps (fun _ => False) w11 wr.drew := hkd
            go_wp2_with fail
            refine (KA _ (by assumption)).mono ?_
            rintro e wx ⟨rfl, rfl⟩
            go_wp2_with fail
            refine (KB _ (by assumption)).mono ?_
            rintro e wx ⟨rfl, rfl⟩
            go_wp2_with fail
            refine (KC _ (by assumption)).mono ?_
            rintro e wx ⟨rfl, rfl⟩
            go_wp2_with fail
            go_roundw
            case rel => exact ⟨i + 1, by go_num, by omega, by assumption⟩
            case measure => simp [intOf]; omega
          · simp only [Bool.not_false, Bool.not_true, Bool.and_true, Bool.and_false, Bool.or_false, Bool.or_true, Bool.true_and, Bool.false_and, Bool.true_or, Bool.false_or] at KA KB KC
            go_wp2_with fail
            go_region_held3 (fun w' => w'.cell? ⟨g, i, none⟩ = some (.int .i64 x) ∧ Keeps (fun _ => False) w11 w') (first | exact ⟨dd, hkd⟩ | exact ⟨Keeps.cell (by assumption) hc id, by assumption⟩) (first | (go_at_call 30; refine (K1 _ _ true ?_ ?_).mono ?_; exact (by assumption : _ ∧ _).2; exact Or.inl ⟨rfl, rfl⟩; rintro e w' ⟨rfl, rfl⟩) | (go_at_call 30; refine (K1 _ _ true ?_ ?_).mono ?_; exact (by assumption : _ ∧ _).2; exact Or.inr ⟨rfl, rfl⟩; rintro e w' ⟨rfl, rfl⟩) )
            have hkf : Keeps (fun _ => False) w11 wr.drew := hkd
            go_wp2_with fail
            refine (KA _ (by assumption)).mono ?_
            rintro e wx ⟨rfl, rfl⟩
            go_wp2_with fail
            refine (KB _ (by assumption)).mono ?_
            rintro e wx ⟨rfl, rfl⟩
            go_wp2_with fail
            refine (KC _ (by assumption)).mono ?_
            rintro e wx ⟨rfl, rfl⟩
            go_wp2_with fail
            go_roundw
            case rel => exact ⟨i + 1, by go_num, by omega, by assumption⟩
            case measure => simp [intOf]; omega
      · have hin : inAll x = false := by
          unfold inAll; rw [Bool.and_eq_false_iff, decide_eq_false_iff_not, decide_eq_false_iff_not]; omega
        obtain rfl : p = false := by cases p; rfl; rw [hin] at hin1; cases hin1 rfl
        obtain rfl : q = false := by cases q; rfl; rw [hin] at hin2; cases hin2 rfl
        rw [hin] at KA
        clear hin1 hin2 hin
        by_cases x0 : 0 ≤ x
        · have x1 : decide (x ≤ 1114111) = false := by simp; omega
          simp only [Bool.not_false, Bool.not_true, Bool.and_true, Bool.and_false, Bool.or_false, Bool.or_true, Bool.true_and, Bool.false_and, Bool.true_or, Bool.false_or] at KA KB KC
          go_wp2_with fail
          go_region_held3 (fun w' => w'.cell? ⟨g, i, none⟩ = some (.int .i64 x) ∧ Keeps (fun _ => False) w11 w') (first | exact ⟨dd, hkd⟩ | exact ⟨Keeps.cell (by assumption) hc id, by assumption⟩) (first | (go_at_call 30; refine (K1 _ _ false ?_ ?_).mono ?_; exact (by assumption : _ ∧ _).2; exact Or.inl ⟨rfl, rfl⟩; rintro e w' ⟨rfl, rfl⟩) | (go_at_call 30; refine (K1 _ _ false ?_ ?_).mono ?_; exact (by assumption : _ ∧ _).2; exact Or.inr ⟨rfl, rfl⟩; rintro e w' ⟨rfl, rfl⟩) )
          have hkf : Keeps (fun _ => False) w11 wr.drew := hkd
          go_wp2_with fail
          refine (KA _ (by assumption)).mono ?_
          rintro e wx ⟨rfl, rfl⟩
          go_wp2_with fail
          refine (KB _ (by assumption)).mono ?_
          rintro e wx ⟨rfl, rfl⟩
          go_wp2_with fail
          refine (KC _ (by assumption)).mono ?_
          rintro e wx ⟨rfl, rfl⟩
          go_wp2_with fail
          go_roundw
          case rel => exact ⟨i + 1, by go_num, by omega, by assumption⟩
          case measure => simp [intOf]; omega
        · have x1 : decide (0 ≤ x) = false := by simp; omega
          simp only [Bool.not_false, Bool.not_true, Bool.and_true, Bool.and_false, Bool.or_false, Bool.or_true, Bool.true_and, Bool.false_and, Bool.true_or, Bool.false_or] at KA KB KC
          go_wp2_with fail
          go_region_held3 (fun w' => w'.cell? ⟨g, i, none⟩ = some (.int .i64 x) ∧ Keeps (fun _ => False) w11 w') (first | exact ⟨dd, hkd⟩ | exact ⟨Keeps.cell (by assumption) hc id, by assumption⟩) (first | (go_at_call 30; refine (K1 _ _ false ?_ ?_).mono ?_; exact (by assumption : _ ∧ _).2; exact Or.inl ⟨rfl, rfl⟩; rintro e w' ⟨rfl, rfl⟩) | (go_at_call 30; refine (K1 _ _ false ?_ ?_).mono ?_; exact (by assumption : _ ∧ _).2; exact Or.inr ⟨rfl, rfl⟩; rintro e w' ⟨rfl, rfl⟩) )
          have hkf : Keeps (fun _ => False) w11 wr.drew := hkd
          go_wp2_with fail
          refine (KA _ (by assumption)).mono ?_
          rintro e wx ⟨rfl, rfl⟩
          go_wp2_with fail
          refine (KB _ (by assumption)).mono ?_
          rintro e wx ⟨rfl, rfl⟩
          go_wp2_with fail
          refine (KC _ (by assumption)).mono ?_
          rintro e wx ⟨rfl, rfl⟩
          go_wp2_with fail
          go_roundw
          case rel => exact ⟨i + 1, by go_num, by omega, by assumption⟩
          case measure => simp [intOf]; omega
    · go_wp2_with fail
      go_ret
      exact ⟨rfl, k11.out.trans hkr⟩
end Go.Proofs.Ytibfioekmpnkgaa
