/-
  The trees that the parser makes: how they look, how great they are.
-/
import Derived.Test.YtinogeobkljngaaDoorPaInj
import Derived.Test.YtinogeobkljngaaDoorPaEv
import Derived.Test.YtinogeobkljngaaDoorPaParse
namespace Go.Proofs.YtinogeobkljngaaDoor
open Go.RowKit
set_option linter.unusedVariables false
set_option linter.unusedSimpArgs false
set_option maxRecDepth 100000

theorem join_boundW (l : List (List UInt8)) (B : Nat) (h : ∀ x ∈ l, x.length ≤ B) (c : UInt8) : (Lib.join l [c]).length ≤ l.length * (B + 1) := by
  have key : ∀ l : List (List UInt8), (∀ x ∈ l, x.length ≤ B) → Lib.lens l ≤ l.length * B := by
    intro l
    induction l with
    | nil => intro _; simp [Lib.lens]
    | cons y l ih =>
      intro h
      have e : Lib.lens (y :: l) = y.length + Lib.lens l := by simp [Lib.lens]
      have h1 := ih (fun x hx => h x (by simp [hx]))
      have h2 := h y (by simp)
      rw [e, List.length_cons, Nat.succ_mul]; omega
  cases l with
  | nil => simp [Lib.join_nil]
  | cons y l =>
    have h1 := key (y :: l) h
    rw [Lib.join_length]
    simp only [List.length_cons, List.length_nil] at h1 ⊢
    rw [Nat.mul_add]; omega
/-- Nodes and ranges of a row of trees. -/
def wF : F → Nat
  | .nil => 0
  | .cons _ s _ _ k r => 1 + s.length + wF k + wF r
def wT (t : T) : Nat := 1 + t.set.length + wF t.kids
theorem wF_cons (t : T) (l : List T) : wF (F.ofL (t :: l)) = wT t + wF (F.ofL l) := rfl
theorem wF_snoc (l : List T) (t : T) : wF (F.ofL (l ++ [t])) = wF (F.ofL l) + wT t := by
  induction l with
  | nil => simp [F.ofL, wF, wT]
  | cons u l ih => rw [List.cons_append, wF_cons, wF_cons, ih]; omega
theorem wT_join (op : Int) (l : List T) : wT (joinT op l) ≤ 1 + wF (F.ofL l) := by
  rcases l with _ | ⟨t, _ | ⟨u, l⟩⟩
  · show wT zeroT ≤ _; simp [wT, zeroT, wF, F.ofL]
  · show wT t ≤ _; rw [wF_cons]; omega
  · show 1 + 0 + wF (F.ofL (t :: u :: l)) ≤ _; omega
theorem wf_zero : WFT zeroT := ⟨Or.inl rfl, trivial⟩
theorem wf_char (s : List (Int × Int)) : WFT (charT s) := ⟨Or.inr (Or.inl ⟨s, rfl⟩), trivial⟩
theorem wf_join {op : Int} (ho : op = 4 ∨ op = 5) {l : List T} (h : ∀ t ∈ l, WFT t) : WFT (joinT op l) := by
  rcases l with _ | ⟨t, _ | ⟨u, l⟩⟩
  · exact wf_zero
  · exact h t (by simp)
  · refine ⟨?_, WF.of.2 h⟩
    rcases ho with rfl | rfl
    · exact Or.inr (Or.inr (Or.inr (Or.inr (Or.inl ⟨_, rfl⟩))))
    · exact Or.inr (Or.inr (Or.inr (Or.inr (Or.inr (Or.inl ⟨_, rfl⟩)))))

/-! ### Sets -/
theorem nodup_sub : ∀ (a b : List Int), a.Nodup → (∀ x ∈ a, x ∈ b) → a.length ≤ b.length := by
  intro a
  induction a with
  | nil => intro b _ _; simp
  | cons x a ih =>
    intro b hn hs
    rw [List.nodup_cons] at hn
    have hx : x ∈ b := hs x (by simp)
    have h1 := ih (b.erase x) hn.2 (fun y hy => by
      refine (List.mem_erase_of_ne ?_).2 (hs y (by simp [hy]))
      rintro rfl; exact hn.1 hy)
    rw [List.length_erase_of_mem hx] at h1
    have := List.length_pos_of_mem hx
    simp only [List.length_cons]; omega
theorem norm_lows : ∀ (l : List (Int × Int)), Norm l → (l.map (·.1)).Nodup ∧ ∀ p ∈ l, 0 ≤ p.1 ∧ mem l p.1 = true ∧ mem l (p.1 - 1) = false := by
  intro l h
  have key : ∀ l : List (Int × Int), Norm l → (l.map (·.1)).Nodup ∧ ∀ p ∈ l, mem l (p.1 - 1) = false := by
    intro l
    induction l with
    | nil => intro _; simp
    | cons q l ih =>
      intro h
      have hq := h.rng q (by simp)
      have hd := norm_drop (q :: l) h 0 q rfl
      simp only [List.drop_succ_cons, List.drop_zero, Nat.zero_add] at hd
      have h2 := ih h.tail
      refine ⟨?_, fun p hp => ?_⟩
      · rw [List.map_cons, List.nodup_cons]
        refine ⟨fun hm => ?_, h2.1⟩
        obtain ⟨r, hr, he⟩ := List.mem_map.1 hm
        have := hd r hr; omega
      · rw [mem_cons]
        rcases List.mem_cons.1 hp with rfl | hp
        · have : mem l (p.1 - 1) = false := by
            cases hm : mem l (p.1 - 1) with
            | false => rfl
            | true =>
              obtain ⟨r, hr, h3, h4⟩ := (mem_iff l _).1 hm
              have := hd r hr; omega
          rw [this]; simp; omega
        · rw [h2.2 p hp]
          have := hd p hp
          simp; omega
  refine ⟨(key l h).1, fun p hp => ⟨(h.rng p hp).1, ?_, (key l h).2 p hp⟩⟩
  exact (mem_iff l _).2 ⟨p, hp, by omega, (h.rng p hp).2.1⟩
theorem isOf_len {l out : List (Int × Int)} (h : IsOf l out) : out.length ≤ l.length + 1 := by
  have hn := norm_lows out h.1
  have := nodup_sub (out.map (·.1)) (0 :: l.map (·.1)) hn.1 (fun x hx => by
    obtain ⟨p, hp, rfl⟩ := List.mem_map.1 hx
    obtain ⟨h0, h1, h2⟩ := hn.2 p hp
    rw [h.2] at h1 h2
    by_cases hz : p.1 = 0
    · simp [hz]
    · unfold has at h1 h2
      simp only [Bool.and_eq_true, Bool.and_eq_false_iff] at h1 h2
      obtain ⟨q, hq, g1, g2⟩ := (mem_iff l _).1 h1.1
      have hi : inAll (p.1 - 1) = true := by
        have := h1.2; unfold inAll at this ⊢; simp at this ⊢; omega
      rcases h2 with h2 | h2
      · have : ¬ (q.1 ≤ p.1 - 1) := fun hc => by
          have : mem l (p.1 - 1) = true := (mem_iff l _).2 ⟨q, hq, hc, by omega⟩
          rw [this] at h2; cases h2
        refine List.mem_cons_of_mem _ (List.mem_map.2 ⟨q, hq, by omega⟩)
      · rw [hi] at h2; cases h2)
  simpa using this
theorem isNot_len {l out : List (Int × Int)} (h : IsNot l out) : out.length ≤ l.length + 1 := by
  have hn := norm_lows out h.1
  have := nodup_sub (out.map (·.1)) (0 :: l.map (·.2 + 1)) hn.1 (fun x hx => by
    obtain ⟨p, hp, rfl⟩ := List.mem_map.1 hx
    obtain ⟨h0, h1, h2⟩ := hn.2 p hp
    rw [h.2] at h1 h2
    by_cases hz : p.1 = 0
    · simp [hz]
    · simp only [Bool.and_eq_true, Bool.and_eq_false_iff, Bool.not_eq_true', Bool.not_eq_false'] at h1 h2
      have hi : inAll (p.1 - 1) = true := by
        have := h1.1; unfold inAll at this ⊢; simp at this ⊢; omega
      rcases h2 with h2 | h2
      · rw [hi] at h2; cases h2
      · unfold has at h1 h2
        simp only [Bool.and_eq_true, Bool.and_eq_false_iff] at h1 h2
        obtain ⟨q, hq, g1, g2⟩ := (mem_iff l _).1 h2.1
        have : q.2 < p.1 := by
          rcases h1.2 with h3 | h3
          · by_cases hc : p.1 ≤ q.2
            · have : mem l p.1 = true := (mem_iff l _).2 ⟨q, hq, by omega, hc⟩
              rw [this] at h3; cases h3
            · omega
          · rw [h1.1] at h3; cases h3
        refine List.mem_cons_of_mem _ (List.mem_map.2 ⟨q, hq, by omega⟩))
  simpa using this
theorem ofL_len (l : List (Int × Int)) : (ofL l).length ≤ l.length + 1 := by
  by_cases h : ∃ out, IsOf l out
  · obtain ⟨out, h⟩ := h
    rw [ofL_of h]; exact isOf_len h
  · unfold ofL; rw [dif_neg h]; simp
theorem notL_len (l : List (Int × Int)) : (notL l).length ≤ l.length + 1 := by
  by_cases h : ∃ out, IsNot l out
  · obtain ⟨out, h⟩ := h
    rw [notL_of h]; exact isNot_len h
  · unfold notL; rw [dif_neg h]; simp
theorem clsGo_len {rs : List Int} (hr : ∀ r ∈ rs, 0 ≤ r ∧ r ≤ 1114111) : ∀ n f s l, (clsGo rs n f s l).1.length + 5 * s.pos ≤ l.length + 5 * (clsGo rs n f s l).2.pos := by
  intro n
  induction n with
  | zero => intro f s l; exact Nat.le_refl _
  | succ n ih =>
    intro f s l
    unfold clsGo
    split
    · have := (tk_go rs 93 s (by omega)).pos
      simp only; omega
    · have h1 := ih false (parS rs s) (l ++ parL rs s)
      have h2 := (parL_len hr s).1
      have h3 := (parS_pos rs s).1
      rw [List.length_append] at h1
      omega
theorem clsL_len {rs : List Int} (hr : ∀ r ∈ rs, 0 ≤ r ∧ r ≤ 1114111) (s : PS) : (clsL rs s).length + 5 * s.pos ≤ 1 + 5 * (clsR rs s).2.pos := by
  have h1 := clsGo_len hr (rs.length + 9) true (tk rs 94 s) []
  have h2 := (tk_go rs 94 s (by omega)).pos
  have h3 : (clsR rs s).1.length + 5 * s.pos ≤ 5 * (clsR rs s).2.pos := by
    unfold clsR; simp only [List.length_nil] at h1; omega
  unfold clsL
  split
  · have := notL_len (clsR rs s).1; omega
  · have := ofL_len (clsR rs s).1; omega

/-! ### Trees -/
structure Good (f : PS → T × PS) (rs : List Int) : Prop where
  go : ∀ s, Go1 rs s (f s).2
  wf : ∀ s, WFT (f s).1
  w : ∀ s, wT (f s).1 + 7 * s.pos ≤ 2 + 7 * (f s).2.pos
theorem atom_good {f : PS → T × PS} {rs : List Int} (H : Good f rs) (hr : ∀ r ∈ rs, 0 ≤ r ∧ r ≤ 1114111) (s : PS) : WFT (atomP f rs s).1 ∧ wT (atomP f rs s).1 + 7 * s.pos ≤ 7 * (atomP f rs s).2.pos := by
  have hn : (nx rs s).pos = s.pos + 1 := rfl
  unfold atomP
  split
  · refine ⟨H.wf _, ?_⟩
    have h1 := H.w ⟨s.pos + 1, s.deep + 1, (nx rs s).bad || decide (10 < s.deep + 1)⟩
    have h2 := (wt_go rs 41 (f ⟨s.pos + 1, s.deep + 1, (nx rs s).bad || decide (10 < s.deep + 1)⟩).2 (by omega)).pos
    simp only at h1 ⊢; omega
  split
  · exact ⟨⟨Or.inr (Or.inr (Or.inl rfl)), trivial⟩, by simp [wT, wF]; omega⟩
  split
  · exact ⟨⟨Or.inr (Or.inr (Or.inr (Or.inl rfl))), trivial⟩, by simp [wT, wF]; omega⟩
  split
  · exact ⟨wf_char _, by simp [wT, wF, charT]; omega⟩
  split
  · refine ⟨wf_char _, ?_⟩
    have h1 := clsL_len hr (nx rs s)
    have h2 := clsGo_len hr (rs.length + 9) true (tk rs 94 (nx rs s)) []
    have h3 := (tk_go rs 94 (nx rs s) (by omega)).pos
    have h4 : (nx rs s).pos ≤ (clsR rs (nx rs s)).2.pos := by
      unfold clsR; simp only [List.length_nil] at h2; omega
    simp only [wT, wF, charT]; omega
  split
  · refine ⟨wf_char _, ?_⟩
    have h1 := (escL_len hr (nx rs s)).2.1
    have h2 := (escS_pos rs (nx rs s)).1
    simp only [wT, wF, charT]; omega
  · exact ⟨wf_char _, by simp [wT, wF, charT]; omega⟩
theorem cnt_adv {rs : List Int} {s : PS} (h : (cntV rs s).2.2 = true) : s.pos + 1 ≤ (cntS rs s).pos := by
  unfold cntV at h
  unfold cntS
  by_cases h1 : pk rs s = 63
  · rw [if_pos (Or.inl h1)]; exact Nat.le_refl _
  by_cases h2 : pk rs s = 43
  · rw [if_pos (Or.inr (Or.inl h2))]; exact Nat.le_refl _
  by_cases h3 : pk rs s = 42
  · rw [if_pos (Or.inr (Or.inr h3))]; exact Nat.le_refl _
  by_cases h4 : pk rs s = 123
  · rw [if_neg (by omega), if_pos h4]
    exact (brS_go rs ⟨s.pos + 1, s.deep, s.bad⟩).pos
  · rw [if_neg h1, if_neg h2, if_neg h3, if_neg h4] at h; cases h
theorem counted_good {f : PS → T × PS} {rs : List Int} (H : Good f rs) (hr : ∀ r ∈ rs, 0 ≤ r ∧ r ≤ 1114111) (s : PS) : WFT (countedP f rs s).1 ∧ wT (countedP f rs s).1 + 7 * s.pos ≤ 7 * (countedP f rs s).2.pos := by
  have h1 := atom_good H hr s
  unfold countedP
  split
  · rename_i h
    have h2 := cnt_adv h
    refine ⟨⟨Or.inr (Or.inr (Or.inr (Or.inr (Or.inr (Or.inr ⟨_, _, _, rfl⟩))))), WF.of.2 (by simpa using h1.1)⟩, ?_⟩
    simp only [wT, wF_cons, List.length_nil]
    have : wF (F.ofL []) = 0 := rfl
    have h3 := h1.2
    unfold wT at h3
    omega
  · have h2 := (cntS_go rs (atomP f rs s).2).pos
    exact ⟨h1.1, by simp only; omega⟩
theorem pcs_good {f : PS → T × PS} {rs : List Int} (H : Good f rs) (hr : ∀ r ∈ rs, 0 ≤ r ∧ r ≤ 1114111) : ∀ n s l, (∀ t ∈ l, WFT t) → (∀ t ∈ (pcsGo f rs n s l).1, WFT t) ∧ wF (F.ofL (pcsGo f rs n s l).1) + 7 * s.pos ≤ wF (F.ofL l) + 7 * (pcsGo f rs n s l).2.pos := by
  intro n
  induction n with
  | zero => intro s l h; exact ⟨h, Nat.le_refl _⟩
  | succ n ih =>
    intro s l h
    unfold pcsGo
    split
    · have h1 := counted_good H hr s
      have h2 := ih (countedP f rs s).2 (l ++ [(countedP f rs s).1]) (fun t ht => by
        rcases List.mem_append.1 ht with ht | ht
        · exact h t ht
        · rw [List.mem_singleton] at ht; rw [ht]; exact h1.1)
      rw [wF_snoc] at h2
      exact ⟨h2.1, by omega⟩
    · exact ⟨h, Nat.le_refl _⟩
theorem pieces_good {f : PS → T × PS} {rs : List Int} (H : Good f rs) (hr : ∀ r ∈ rs, 0 ≤ r ∧ r ≤ 1114111) (s : PS) : WFT (piecesP f rs s).1 ∧ wT (piecesP f rs s).1 + 7 * s.pos ≤ 1 + 7 * (piecesP f rs s).2.pos := by
  have h := pcs_good H hr (rs.length + 9) s [] (by simp)
  have h2 := wT_join 4 (pcsR f rs s).1
  have e : wF (F.ofL []) = 0 := rfl
  rw [e] at h
  refine ⟨wf_join (Or.inl rfl) h.1, ?_⟩
  have h3 := h.2
  show wT (joinT 4 (pcsR f rs s).1) + _ ≤ 1 + 7 * (pcsR f rs s).2.pos
  unfold pcsR at h2 ⊢
  omega
theorem alt_good {f : PS → T × PS} {rs : List Int} (H : Good f rs) (hr : ∀ r ∈ rs, 0 ≤ r ∧ r ≤ 1114111) : ∀ n s l, (∀ t ∈ l, WFT t) → (∀ t ∈ (altGo f rs n s l).1, WFT t) ∧ wF (F.ofL (altGo f rs n s l).1) + 7 * s.pos ≤ wF (F.ofL l) + 7 * (altGo f rs n s l).2.pos := by
  intro n
  induction n with
  | zero => intro s l h; exact ⟨h, Nat.le_refl _⟩
  | succ n ih =>
    intro s l h
    unfold altGo
    split
    · rename_i hq
      have h0 : (tk rs 124 s).pos = s.pos + 1 := by unfold tk; rw [if_pos hq]
      have h1 := pieces_good H hr (tk rs 124 s)
      have h2 := ih (piecesP f rs (tk rs 124 s)).2 (l ++ [(piecesP f rs (tk rs 124 s)).1]) (fun t ht => by
        rcases List.mem_append.1 ht with ht | ht
        · exact h t ht
        · rw [List.mem_singleton] at ht; rw [ht]; exact h1.1)
      rw [wF_snoc] at h2
      exact ⟨h2.1, by omega⟩
    · exact ⟨h, Nat.le_refl _⟩
theorem altsP_good {f : PS → T × PS} {rs : List Int} (H : Good f rs) (hr : ∀ r ∈ rs, 0 ≤ r ∧ r ≤ 1114111) : Good (altsP f rs) rs := by
  refine ⟨altsP_go H.go, fun s => ?_, fun s => ?_⟩
  all_goals
    have h1 := pieces_good H hr s
    have h2 := alt_good H hr (rs.length + 9) (piecesP f rs s).2 [(piecesP f rs s).1] (by simpa using h1.1)
  · exact wf_join (Or.inr rfl) h2.1
  · have h3 := wT_join 5 (altR f rs s).1
    have h4 := h2.2
    rw [wF_cons] at h4
    have e : wF (F.ofL []) = 0 := rfl
    show wT (joinT 5 (altR f rs s).1) + _ ≤ 2 + 7 * (altR f rs s).2.pos
    unfold altR at h3 ⊢
    omega
theorem alts_good {rs : List Int} (hr : ∀ r ∈ rs, 0 ≤ r ∧ r ≤ 1114111) : ∀ n, Good (alts rs n) rs := by
  intro n
  induction n with
  | zero => exact altsP_good (f := fun s => (zeroT, s)) ⟨fun s => Go1.refl _ _, fun s => wf_zero, fun s => by simp [wT, zeroT, wF]⟩ hr
  | succ n ih => exact altsP_good ih hr
theorem parse_good (l : List UInt8) : WFT (parseP l).1 ∧ wT (parseP l).1 ≤ 2000 := by
  have hz : WFT zeroT ∧ wT zeroT ≤ 2000 := ⟨wf_zero, by simp [wT, zeroT, wF]⟩
  unfold parseP
  by_cases hl : 200 < l.length
  · rw [if_pos hl]; exact hz
  · rw [if_neg hl]
    cases hp : pts l with
    | none => exact hz
    | some rs =>
      simp only
      have hf := pts_facts hp
      unfold parseR
      split
      · exact hz
      · rename_i h
        have h1 := alts_good hf.2 11
        have h2 := h1.w ⟨0, 0, false⟩
        refine ⟨h1.wf _, ?_⟩
        have h3 : (alts rs 11 ⟨0, 0, false⟩).2.pos = rs.length := by
          by_cases hp : (alts rs 11 ⟨0, 0, false⟩).2.pos = rs.length
          · exact hp
          · exact absurd (Or.inr hp) h
        rw [h3] at h2
        simp only at h2 ⊢
        omega
/-! ### How long they are shown -/
theorem join_sum (l : List (List UInt8)) : (Lib.join l [44]).length ≤ (l.map fun x => x.length + 1).sum := by
  cases l with
  | nil => simp [Lib.join_nil]
  | cons y l =>
    have key : ∀ l : List (List UInt8), (l.map fun x => x.length + 1).sum = Lib.lens l + l.length := by
      intro l
      induction l with
      | nil => simp [Lib.lens]
      | cons y l ih =>
        have e : Lib.lens (y :: l) = y.length + Lib.lens l := by simp [Lib.lens]
        rw [e]; simp only [List.map_cons, List.sum_cons, List.length_cons, ih]; omega
    rw [Lib.join_length, key]
    simp; omega
theorem show_len {w : World} {P : Nat → Prop} (t : T) : ∀ v, TAt w P v t → (showT t).length + 1 ≤ 60 * wT t := by
  refine T.ind (C := fun t => ∀ v, TAt w P v t → (showT t).length + 1 ≤ 60 * wT t) ?_ t
  intro t ih v ht
  obtain ⟨ks, hks, hF⟩ := ht.kids
  rw [← F.of_to t.kids] at hF
  have key : ∀ (L : List T) (ks : List NV), FAt w P (F.ofL L) ks → (∀ k ∈ L, ∀ v, TAt w P v k → (showT k).length + 1 ≤ 60 * wT k) → ((L.map showT).map fun x => x.length + 1).sum ≤ 60 * wF (F.ofL L) := by
    intro L
    induction L with
    | nil => intro ks _ _; simp
    | cons k L ih2 =>
      intro ks hf hk
      obtain ⟨v', vs', rfl, h1, h2⟩ := FAt.cons_iff.1 hf
      have h3 := hk k (by simp) v' h1
      have h4 := ih2 vs' h2 (fun x hx => hk x (by simp [hx]))
      rw [wF_cons]
      simp only [List.map_cons, List.sum_cons] at h4 ⊢
      omega
  have h1 := key _ _ hF (fun k hk v' hv' => by
    obtain ⟨i, hi⟩ := List.getElem?_of_mem hk
    exact ih i k hi v' hv')
  have h2 := join_sum (t.kids.toL.map showT)
  have h4 : ∀ x ∈ t.set.map rangeS, x.length ≤ 41 := by
    intro x hx
    obtain ⟨p, hp, rfl⟩ := List.mem_map.1 hx
    exact (rangeS_len p (ht.set.2 p hp).1 (ht.set.2 p hp).2).1
  have h5 := join_boundW _ _ h4 32
  rw [List.length_map] at h5
  have m1 := (itoa_len t.mn ht.nn).1
  have m2 := (itoa_len t.mx ht.nx).1
  have e : showT t = nodeS t.op t.set t.mn t.mx (t.kids.toL.map showT) := by rw [← showF_to]; rfl
  have ew : wT t = 1 + t.set.length + wF (F.ofL t.kids.toL) := by rw [F.of_to]; rfl
  rw [e, ew]
  unfold nodeS rangesS shownS
  repeat' split
  all_goals (simp only [List.length_append, List.length_cons, List.length_nil]; omega)
end Go.Proofs.YtinogeobkljngaaDoor
