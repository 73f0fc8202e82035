/-
  The law's walk.
-/
import Derived.Test.YtpcbfmbpbegjgaaGreatMg25
import Derived.Test.YtpcbfmbpbegjgaaGreatMg26
import Derived.Test.YtpcbfmbpbegjgaaGreatRfParseG
namespace Go.Proofs.YtpcbfmbpbegjgaaGreat
open Go.RowKit
set_option linter.unusedVariables false
set_option linter.unusedSimpArgs false
set_option maxRecDepth 100000

theorem slOf_lit (w : World) (p e : Int) : SlOf 2 encR (w.alloc (.cells #[.int .i64 p, .int .i64 e] 38)) (.slice (some ⟨w.heap.size, 0, none⟩) 1 1) [(p, e)] := by
  refine ⟨_, 1, rfl, ⟨Nat.le_refl _, fun h => by cases h⟩, by simp, fun _ => ⟨w.heap.size, 0, rfl, fun i x hx j hj => ?_⟩⟩
  rcases i with _ | i
  · obtain rfl : (p, e) = x := by simpa using hx
    rcases j with _ | _ | j
    · simp [go_sem, encR]
    · simp [go_sem, encR]
    · omega
  · simp at hx
set_option maxHeartbeats 4000000 in
theorem eqAwake_any (w : World) : Calls Tryz.prog 4 #[] w fun e w' => e = .returned (.bool true) ∧ Keeps (fun _ => False) w w' := by
  have HQ := Lib.hid (fun W => quote_any [97, 46, 98] W (by simp))
  rw [quote_ab] at HQ
  unfold strL at HQ
  go_enter Tryz.func4, Tryz.ntmps4
  go_wp2_with fail
  refine (ecompile_bp _).mono ?_
  rintro e w1 ⟨eb, pv, rfl, hE, k1⟩
  have HE := Lib.hid hE
  have K1 := Lib.hid k1
  clear hE k1
  go_wp2_with fail
  refine (eall_bp eb pv _ HE.out).mono ?_
  rintro e w2 ⟨⟨v, rfl, hO⟩, k2⟩
  have hS : SlOf 2 encR w2 v [(1, 3)] := SlOf.ofOwn (l := [(1, 3)]) hO (by simp)
  have HS := Lib.hid (hsame_any [(1, 3)] v _ _ (hS.keeps ((Keeps.refl (fun _ => False) w2).alloc (.cells #[.int .i64 1, .int .i64 3] 38)) (fun _ _ => id)) (slOf_lit w2 1 3) (by simp))
  obtain ⟨va, vc, rfl⟩ := ownsRow_slice hO
  have K2 : Hid (Keeps (fun _ => False) w (w2.alloc (.cells #[.int .i64 1, .int .i64 3] 38))) := Lib.hid ((K1.out.trans k2).alloc _)
  clear k2 hO hS
  go_wp2_with fail
  refine HS.out.mono ?_
  rintro e w3 ⟨rfl, k3⟩
  have K3 := Lib.hid (K2.out.trans k3)
  clear k3
  go_wp2_with fail
  refine (HQ.out _).mono ?_
  rintro e w4 ⟨rfl, k4⟩
  have K4 := Lib.hid (K3.out.trans k4)
  clear k4
  go_wp2_with fail
  go_ret
  exact ⟨rfl, K4.out⟩
theorem qTree_op {rs : List Int} (h : rs ≠ []) : (qTree rs).op = 1 ∨ (qTree rs).op = 4 := by
  rcases rs with _ | ⟨r, _ | ⟨r2, rs⟩⟩
  · exact absurd rfl h
  · exact Or.inl rfl
  · exact Or.inr rfl
theorem flat_ne {rs : List Int} (h : rs ≠ []) : rs.flatMap qB ≠ [] := by
  rcases rs with _ | ⟨r, rs⟩
  · exact absurd rfl h
  · intro e
    have h1 := (qB_len (r := r)).1
    rw [List.flatMap_cons] at e
    have := congrArg List.length e
    simp at this
    rw [this.1] at h1
    simp at h1
set_option maxHeartbeats 4000000 in
theorem eq_short (s o : List UInt8) (w : World) (h : 90 < s.length ∨ 90 < o.length) :
    Calls Tryz.prog 3 #[.string ⟨s.toArray⟩, .string ⟨o.toArray⟩] w fun e w' => e = .returned (.bool true) ∧ Keeps (fun _ => False) w w' := by
  have HAw := Lib.hid (fun W => eqAwake_any W)
  by_cases h1 : 90 < s.length
  · have g1 : decide ((90 : Int) < (s.length : Int)) = true := by simp; omega
    go_enter Tryz.func3, Tryz.ntmps3
    go_wp2_with fail
    refine (HAw.out _).mono ?_
    rintro e w1 ⟨rfl, k1⟩
    have K1 := Lib.hid k1
    clear k1
    go_wp2_with fail
    refine (HAw.out _).mono ?_
    rintro e w2 ⟨rfl, k2⟩
    have K2 := Lib.hid (K1.out.trans k2)
    clear k2
    go_wp2_with fail
    go_ret
    exact ⟨rfl, K2.out⟩
  · have g1 : decide ((90 : Int) < (s.length : Int)) = false := by simp; omega
    have g2 : decide ((90 : Int) < (o.length : Int)) = true := by simp; omega
    go_enter Tryz.func3, Tryz.ntmps3
    go_wp2_with fail
    refine (HAw.out _).mono ?_
    rintro e w1 ⟨rfl, k1⟩
    have K1 := Lib.hid k1
    clear k1
    go_wp2_with fail
    refine (HAw.out _).mono ?_
    rintro e w2 ⟨rfl, k2⟩
    have K2 := Lib.hid (K1.out.trans k2)
    clear k2
    go_wp2_with fail
    go_ret
    exact ⟨rfl, K2.out⟩
set_option maxHeartbeats 4000000 in
theorem eq_void (s o : List UInt8) (w : World) (h1 : s.length ≤ 90) (h2 : o.length ≤ 90) (h : (quoteL s).getD [] = []) :
    Calls Tryz.prog 3 #[.string ⟨s.toArray⟩, .string ⟨o.toArray⟩] w fun e w' => e = .returned (.bool true) ∧ Keeps (fun _ => False) w w' := by
  have HAw := Lib.hid (fun W => eqAwake_any W)
  have HQ := Lib.hid (fun W => quote_any s W (by omega))
  have HR := Lib.hid (fun W => rQuote_any s W (by omega))
  rw [h] at HQ HR
  unfold strL at HQ HR
  have g1 : decide ((90 : Int) < (s.length : Int)) = false := by simp; omega
  have g2 : decide ((90 : Int) < (o.length : Int)) = false := by simp; omega
  clear h
  go_enter Tryz.func3, Tryz.ntmps3
  go_wp2_with fail
  refine (HAw.out _).mono ?_
  rintro e w1 ⟨rfl, k1⟩
  have K1 := Lib.hid k1
  clear k1
  go_wp2_with fail
  refine (HQ.out _).mono ?_
  rintro e w2 ⟨rfl, k2⟩
  have K2 := Lib.hid (K1.out.trans k2)
  clear k2
  go_wp2_with fail
  refine (HR.out _).mono ?_
  rintro e w3 ⟨rfl, k3⟩
  have K3 := Lib.hid (K2.out.trans k3)
  clear k3
  go_wp2_with fail
  go_ret
  exact ⟨rfl, K3.out⟩
set_option maxHeartbeats 8000000 in
theorem eq_main (s o : List UInt8) (rs : List Int) (w : World) (h1 : s.length ≤ 90) (h2 : o.length ≤ 90) (h : pts s = some rs) (h0 : rs ≠ []) :
    Calls Tryz.prog 3 #[.string ⟨s.toArray⟩, .string ⟨o.toArray⟩] w fun e w' => e = .returned (.bool true) ∧ Keeps (fun _ => False) w w' := by
  have hb := pts_isB _ _ _ (Nat.le_refl _) h
  have hs0 : s ≠ [] := by
    intro e
    rw [hb.2] at e
    rcases rs with _ | ⟨r, rs⟩
    · exact h0 rfl
    · have := putP_ne r.toNat
      have h9 := congrArg List.length e
      simp at h9
      rw [h9.1] at this; simp at this
  have hq : quoteL s = some (rs.flatMap qB) := by unfold quoteL; rw [h]; rfl
  have hql := flat_len rs
  rw [← hb.2] at hql
  have HAw := Lib.hid (fun W => eqAwake_any W)
  have HQ := Lib.hid (fun W => quote_any s W (by omega))
  have HR := Lib.hid (fun W => rQuote_any s W (by omega))
  have HO := Lib.hid (fun W => rQuote_any o W (by omega))
  have HP := Lib.hid (fun W => rparse_any (rs.flatMap qB) W (by omega))
  rw [hq] at HQ HR
  rw [parse_quote h (by omega)] at HP
  have HC := Lib.hid (fun W => qcompile s rs h h0 h1 W)
  have HL := Lib.hid (fun eb pv W hE => qall s rs h h0 hs0 h1 eb pv W hE)
  have HI := Lib.hid (fun ro (ho : pts o = some ro) (hol : o.length = s.length) eb pv W hE => qis s o rs ro h ho h0 hs0 h1 hol eb pv W hE)
  unfold strL at HQ HR HO
  simp only [Option.getD_some] at HQ HR
  have hne : (rs.flatMap qB).isEmpty = false := by
    have := flat_ne h0
    cases h9 : rs.flatMap qB <;> simp_all
  have HOp := Lib.hid (qTree_op h0)
  have g1 : decide ((90 : Int) < (s.length : Int)) = false := by simp; omega
  have g2 : decide ((90 : Int) < (o.length : Int)) = false := by simp; omega
  clear hb hq hql h h0 hs0
  generalize rs.flatMap qB = Q at *
  generalize qTree rs = qt at *
  generalize chn 0 rs = is at *
  go_enter Tryz.func3, Tryz.ntmps3
  go_wp2_with fail
  refine (HAw.out _).mono ?_
  rintro e w1 ⟨rfl, k1⟩
  have K1 := Lib.hid k1
  clear k1
  go_wp2_with fail
  refine (HQ.out _).mono ?_
  rintro e w2 ⟨rfl, k2⟩
  have K2 := Lib.hid (K1.out.trans k2)
  clear k2
  go_wp2_with fail
  refine (HR.out _).mono ?_
  rintro e w3 ⟨rfl, k3⟩
  have K3 := Lib.hid (K2.out.trans k3)
  clear k3
  go_wp2_with fail
  refine (HP.out _).mono ?_
  rintro e w4 ⟨v, rfl, hv, k4⟩
  obtain ⟨vo, a1, n1, c1, m, x, a2, n2, cc2, rfl⟩ := NV.form hv
  have hvo : vo = qt.op := hv.op
  have gop : (vo == (0 : Int)) = false := by rw [hvo]; rcases HOp.out with h | h <;> rw [h] <;> rfl
  have K4 := Lib.hid (K3.out.trans k4)
  clear hv hvo k4
  unfold NV.val
  go_wp2_with fail
  refine (HC.out _).mono ?_
  rintro e w5 ⟨eb, pv, rfl, hE, k5⟩
  have z0 : w5.cell? ⟨w4.heap.size, 0, none⟩ = some (.int .i64 vo) := k5.cell (by simp [go_sem]) id
  have K5 : Hid (Keeps (fun _ => False) w w5) := Lib.hid (Keeps.trans (Keeps.trans K4.out (by (repeat' (with_reducible first | exact Keeps.refl _ _ | assumption | refine Keeps.drawN ?_ _ | refine Keeps.drew ?_ | refine Keeps.setCell ?_ ?_ _ | refine Keeps.alloc ?_ _)) <;> (first | exact Or.inr (Nat.le_refl _) | exact Or.inl rfl | exact Or.inl (Or.inl rfl) | exact Or.inl (Or.inr rfl) | (right; simp; done) | (right; simp; omega)))) k5)
  have HE := Lib.hid hE
  clear k5 hE
  have HLE := Lib.hid (fun W (K : Keeps (fun _ => False) w5 W) => HL.out eb pv W (HE.out.keepsTo K (fun _ _ => id) (fun b hb => by have := K.size; omega) id))
  have hend : ∀ W : World, Keeps (fun _ => False) w5 W → ∀ (v : Value) (W2 : World), W2.ownsRow W.heap.size 38 2 v 1 [.int .i64 0, .int .i64 s.length] → ∃ g c, v = .slice (some ⟨g, 0, none⟩) 1 c ∧ W2.cell? ⟨g, 0, none⟩ = some (.int .i64 0) ∧ W2.cell? ⟨g, 1, none⟩ = some (.int .i64 s.length) := fun W _ v W2 hO => by
    obtain ⟨g, c, rfl, _, _⟩ := ownsRow_some hO (by omega)
    exact ⟨g, c, rfl, by rw [hO.cellAt 0 (by omega)]; rfl, by rw [hO.cellAt 1 (by omega)]; rfl⟩
  by_cases hl : o.length = s.length
  · have g3 : ((o.length : Int) == (s.length : Int)) = true := beq_iff_eq.2 (by omega)
    cases hpo : pts o with
    | none =>
      have hqo : quoteL o = none := by unfold quoteL; rw [hpo]; rfl
      rw [hqo] at HO
      clear hqo hpo HI
      go_wp2_with fail
      refine (HO.out _).mono ?_
      rintro e w6 ⟨rfl, k6⟩
      have K56 := Lib.hid k6
      clear k6
      simp only [Option.getD_none]
      go_wp2_with fail
      refine (HLE.out _ K56.out).mono ?_
      rintro e w7 ⟨⟨v, rfl, hO⟩, k7⟩
      obtain ⟨g, c, rfl, y0, y1⟩ := hend _ K56.out v w7 hO
      have K7 : Hid (Keeps (fun _ => False) w w7) := Lib.hid ((K5.out.trans K56.out).trans k7)
      clear k7 hO
      go_wp2_with fail
      go_ret
      exact ⟨rfl, K7.out⟩
    | some ro =>
      have hqo : quoteL o = some (ro.flatMap qB) := by unfold quoteL; rw [hpo]; rfl
      rw [hqo] at HO
      have HI2 := Lib.hid (fun W (K : Keeps (fun _ => False) w5 W) => HI.out ro hpo hl eb pv W (HE.out.keepsTo K (fun _ _ => id) (fun b hb => by have := K.size; omega) id))
      have hne2 : (ro.flatMap qB).isEmpty = false ∨ ro.flatMap qB = [] := by cases h9 : ro.flatMap qB <;> simp
      clear hqo hpo HI
      simp only [Option.getD_some] at HO
      generalize ro.flatMap qB = QO at *
      rcases hne2 with hne2 | rfl
      · by_cases hos : o = s
        · subst hos
          rw [decide_eq_true rfl] at HI2
          go_wp2_with fail
          refine (HO.out _).mono ?_
          rintro e w6 ⟨rfl, k6⟩
          have K56 := Lib.hid k6
          clear k6
          go_wp2_with fail
          refine (HI2.out _ K56.out).mono ?_
          rintro e w7 ⟨rfl, k7⟩
          have K57 := Lib.hid (K56.out.trans k7)
          clear k7
          go_wp2_with fail
          refine (HLE.out _ K57.out).mono ?_
          rintro e w8 ⟨⟨v, rfl, hO⟩, k8⟩
          obtain ⟨g, c, rfl, y0, y1⟩ := hend _ K57.out v w8 hO
          have K8 : Hid (Keeps (fun _ => False) w w8) := Lib.hid ((K5.out.trans K57.out).trans k8)
          clear k8 hO
          go_wp2_with fail
          go_ret
          exact ⟨rfl, K8.out⟩
        · have hbs : (o == s) = false := beq_eq_false_iff_ne.2 hos
          rw [decide_eq_false hos] at HI2
          go_wp2_with fail
          refine (HO.out _).mono ?_
          rintro e w6 ⟨rfl, k6⟩
          have K56 := Lib.hid k6
          clear k6
          go_wp2_with fail
          refine (HI2.out _ K56.out).mono ?_
          rintro e w7 ⟨rfl, k7⟩
          have K57 := Lib.hid (K56.out.trans k7)
          clear k7
          go_wp2_with fail
          refine (HLE.out _ K57.out).mono ?_
          rintro e w8 ⟨⟨v, rfl, hO⟩, k8⟩
          obtain ⟨g, c, rfl, y0, y1⟩ := hend _ K57.out v w8 hO
          have K8 : Hid (Keeps (fun _ => False) w w8) := Lib.hid ((K5.out.trans K57.out).trans k8)
          clear k8 hO
          go_wp2_with fail
          go_ret
          exact ⟨rfl, K8.out⟩
      · go_wp2_with fail
        refine (HO.out _).mono ?_
        rintro e w6 ⟨rfl, k6⟩
        have K56 := Lib.hid k6
        clear k6
        go_wp2_with fail
        refine (HLE.out _ K56.out).mono ?_
        rintro e w7 ⟨⟨v, rfl, hO⟩, k7⟩
        obtain ⟨g, c, rfl, y0, y1⟩ := hend _ K56.out v w7 hO
        have K7 : Hid (Keeps (fun _ => False) w w7) := Lib.hid ((K5.out.trans K56.out).trans k7)
        clear k7 hO
        go_wp2_with fail
        go_ret
        exact ⟨rfl, K7.out⟩
  · have g3 : ((o.length : Int) == (s.length : Int)) = false := beq_eq_false_iff_ne.2 (by omega)
    clear HI HO
    go_wp2_with fail
    refine (HLE.out _ (Keeps.refl _ _)).mono ?_
    rintro e w7 ⟨⟨v, rfl, hO⟩, k7⟩
    obtain ⟨g, c, rfl, y0, y1⟩ := hend _ (Keeps.refl _ _) v w7 hO
    have K7 : Hid (Keeps (fun _ => False) w w7) := Lib.hid (K5.out.trans k7)
    clear k7 hO
    go_wp2_with fail
    go_ret
    exact ⟨rfl, K7.out⟩
theorem eq_all (s o : List UInt8) (w : World) :
    Calls Tryz.prog 3 #[.string ⟨s.toArray⟩, .string ⟨o.toArray⟩] w fun e w' => e = .returned (.bool true) ∧ Keeps (fun _ => False) w w' := by
  by_cases h1 : 90 < s.length
  · exact eq_short s o w (Or.inl h1)
  by_cases h2 : 90 < o.length
  · exact eq_short s o w (Or.inr h2)
  cases hp : pts s with
  | none =>
    exact eq_void s o w (by omega) (by omega) (by unfold quoteL; rw [hp]; rfl)
  | some rs =>
    by_cases h0 : rs = []
    · subst h0
      exact eq_void s o w (by omega) (by omega) (by unfold quoteL; rw [hp]; rfl)
    · exact eq_main s o rs w (by omega) (by omega) hp h0
end Go.Proofs.YtpcbfmbpbegjgaaGreat
