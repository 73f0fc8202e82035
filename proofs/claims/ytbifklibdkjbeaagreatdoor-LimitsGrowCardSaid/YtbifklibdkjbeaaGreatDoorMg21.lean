/-
  Several texts in one: The trees that the parser makes: how they look, how great they are. Plain law: what the parser makes is of the form that the maker asks. engine.Compile at every pattern.
-/
import Derived.Test.YtbifklibdkjbeaaGreatDoorMg20
import Derived.Test.YtbifklibdkjbeaaGreatDoorMg10
import Derived.Test.YtbifklibdkjbeaaGreatDoorMg17
import Derived.Test.YtbifklibdkjbeaaGreatDoorMg15
import Derived.Test.YtbifklibdkjbeaaGreatDoorMg16
import Derived.Test.YtbifklibdkjbeaaGreatDoorMg19
namespace Go.Proofs.YtbifklibdkjbeaaGreatDoor
open Go.RowKit
set_option linter.unusedVariables false
set_option linter.unusedSimpArgs false
set_option maxRecDepth 100000
set_option maxHeartbeats 4000000
def wF : F → Nat
 | .nil => 0
 | .cons _ s _ _ k r => 1 + s.length + wF k + wF r
def wT (t : T) : Nat := 1 + t.set.length + wF t.kids
theorem xcV (t : T) (l : List T) : wF (F.ofL (t :: l)) = wT t + wF (F.ofL l) := rfl
theorem xkv (l : List T) (t : T) : wF (F.ofL (l ++ [t])) = wF (F.ofL l) + wT t := by
 induction l with
 | nil => simp [F.ofL, wF, wT]
 | cons u l ih => rw [List.cons_append, xcV, xcV, ih]; omega
theorem xku (op : Int) (l : List T) : wT (xa6 op l) ≤ 1 + wF (F.ofL l) := by
 rcases l with _ | ⟨t, _ | ⟨u, l⟩⟩
 · show wT xa3 ≤ _; simp [wT, xa3, wF, F.ofL]
 · show wT t ≤ _; rw [xcV]; omega
 show 1 + 0 + wF (F.ofL (t :: u :: l)) ≤ _; omega
theorem xhu : WFT xa3 := ⟨Or.inl rfl, trivial⟩
theorem xfP (s : List (Int × Int)) : WFT (xbx s) := ⟨Or.inr (Or.inl ⟨s, rfl⟩), trivial⟩
theorem xkt {op : Int} (ho : op = 4 ∨ op = 5) {l : List T} (h : ∀ t ∈ l, WFT t) : WFT (xa6 op l) := by
 rcases l with _ | ⟨t, _ | ⟨u, l⟩⟩
 · exact xhu
 · exact h t (by simp)
 refine ⟨?_, WF.of.2 h⟩
 rcases ho with rfl | rfl
 · exact Or.inr (Or.inr (Or.inr (Or.inr (Or.inl ⟨_, rfl⟩))))
 exact Or.inr (Or.inr (Or.inr (Or.inr (Or.inr (Or.inl ⟨_, rfl⟩)))))
theorem xgO : ∀ (a b : List Int), a.Nodup → (∀ x ∈ a, x ∈ b) → a.length ≤ b.length := by
 intro a
 induction a with
 | nil => intro b _ _; simp
 | cons x a ih =>
  intro b hn hs
  rw [List.nodup_cons] at hn
  have hx : x ∈ b := hs x (by simp)
  have h1 := ih (b.erase x) hn.2 (fun y hy => by
   refine (List.mem_erase_of_ne ?_).2 (hs y (by simp [hy]))
   rintro rfl; exact hn.1 hy)
  rw [List.length_erase_of_mem hx] at h1
  have := List.length_pos_of_mem hx
  simp only [List.length_cons]; omega
theorem xgM : ∀ (l : List (Int × Int)), Norm l → (l.map (·.1)).Nodup ∧ ∀ p ∈ l, 0 ≤ p.1 ∧ mem l p.1 = true ∧ mem l (p.1 - 1) = false := by
 intro l h
 have key : ∀ l : List (Int × Int), Norm l → (l.map (·.1)).Nodup ∧ ∀ p ∈ l, mem l (p.1 - 1) = false := by
  intro l
  induction l with
  | nil => intro _; simp
  | cons q l ih =>
   intro h
   have hq := h.rng q (by simp)
   have hd := xgN (q :: l) h 0 q rfl
   simp only [List.drop_succ_cons, List.drop_zero, Nat.zero_add] at hd
   have h2 := ih h.tail
   refine ⟨?_, fun p hp => ?_⟩
   · rw [List.map_cons, List.nodup_cons]
     refine ⟨fun hm => ?_, h2.1⟩
     obtain ⟨r, hr, he⟩ := List.mem_map.1 hm
     have := hd r hr; omega
   rw [mem_cons]
   rcases List.mem_cons.1 hp with rfl | hp
   · have : mem l (p.1 - 1) = false := by
      cases hm : mem l (p.1 - 1) with
      | false => rfl
      | true =>
       obtain ⟨r, hr, h3, h4⟩ := (mem_iff l _).1 hm
       have := hd r hr; omega
     rw [this]; simp; omega
   rw [h2.2 p hp]
   have := hd p hp
   simp; omega
 refine ⟨(key l h).1, fun p hp => ⟨(h.rng p hp).1, ?_, (key l h).2 p hp⟩⟩
 exact (mem_iff l _).2 ⟨p, hp, by omega, (h.rng p hp).2.1⟩
theorem xnr {l out : List (Int × Int)} (h : IsOf l out) : out.length ≤ l.length + 1 := by
 have hn := xgM out h.1
 have := xgO (out.map (·.1)) (0 :: l.map (·.1)) hn.1 (fun x hx => by
  obtain ⟨p, hp, rfl⟩ := List.mem_map.1 hx
  obtain ⟨h0, h1, h2⟩ := hn.2 p hp
  rw [h.2] at h1 h2
  by_cases hz : p.1 = 0
  · simp [hz]
  unfold has at h1 h2
  simp only [Bool.and_eq_true, Bool.and_eq_false_iff] at h1 h2
  obtain ⟨q, hq, g1, g2⟩ := (mem_iff l _).1 h1.1
  have hi : xa1 (p.1 - 1) = true := by
   have := h1.2; unfold xa1 at this ⊢; simp at this ⊢; omega
  rcases h2 with h2 | h2
  · have : ¬ (q.1 ≤ p.1 - 1) := fun hc => by
     have : mem l (p.1 - 1) = true := (mem_iff l _).2 ⟨q, hq, hc, by omega⟩
     rw [this] at h2; cases h2
    refine List.mem_cons_of_mem _ (List.mem_map.2 ⟨q, hq, by omega⟩)
  rw [hi] at h2; cases h2)
 simpa using this
theorem xlC {l out : List (Int × Int)} (h : xe5 l out) : out.length ≤ l.length + 1 := by
 have hn := xgM out h.1
 have := xgO (out.map (·.1)) (0 :: l.map (·.2 + 1)) hn.1 (fun x hx => by
  obtain ⟨p, hp, rfl⟩ := List.mem_map.1 hx
  obtain ⟨h0, h1, h2⟩ := hn.2 p hp
  rw [h.2] at h1 h2
  by_cases hz : p.1 = 0
  · simp [hz]
  simp only [Bool.and_eq_true, Bool.and_eq_false_iff, Bool.not_eq_true', Bool.not_eq_false'] at h1 h2
  have hi : xa1 (p.1 - 1) = true := by
   have := h1.1; unfold xa1 at this ⊢; simp at this ⊢; omega
  rcases h2 with h2 | h2
  · rw [hi] at h2; cases h2
  unfold has at h1 h2
  simp only [Bool.and_eq_true, Bool.and_eq_false_iff] at h1 h2
  obtain ⟨q, hq, g1, g2⟩ := (mem_iff l _).1 h2.1
  have : q.2 < p.1 := by
   rcases h1.2 with h3 | h3
   · by_cases hc : p.1 ≤ q.2
     · have : mem l p.1 = true := (mem_iff l _).2 ⟨q, hq, by omega, hc⟩
       rw [this] at h3; cases h3
     omega
   rw [h1.1] at h3; cases h3
  refine List.mem_cons_of_mem _ (List.mem_map.2 ⟨q, hq, by omega⟩))
 simpa using this
theorem ofL_len (l : List (Int × Int)) : (ofL l).length ≤ l.length + 1 := by
 by_cases h : ∃ out, IsOf l out
 · obtain ⟨out, h⟩ := h
   rw [xfw h]; exact xnr h
 unfold ofL; rw [dif_neg h]; simp
theorem xna (l : List (Int × Int)) : (notL l).length ≤ l.length + 1 := by
 by_cases h : ∃ out, xe5 l out
 · obtain ⟨out, h⟩ := h
   rw [xeF h]; exact xlC h
 unfold notL; rw [dif_neg h]; simp
theorem xhf {rs : List Int} (hr : ∀ r ∈ rs, 0 ≤ r ∧ r ≤ 1114111) : ∀ n f s l, (xb3 rs n f s l).1.length + 5 * s.pos ≤ l.length + 5 * (xb3 rs n f s l).2.pos := by
 intro n
 induction n with
 | zero => intro f s l; exact Nat.le_refl _
 | succ n ih =>
  intro f s l
  unfold xb3
  split
  · have := (xhv rs 93 s (by omega)).pos
    simp only; omega
  have h1 := ih false (parS rs s) (l ++ parL rs s)
  have h2 := (xiA hr s).1
  have h3 := (xa4 rs s).1
  rw [List.length_append] at h1
  omega
theorem xnI {rs : List Int} (hr : ∀ r ∈ rs, 0 ≤ r ∧ r ≤ 1114111) (s : PS) : (clsL rs s).length + 5 * s.pos ≤ 1 + 5 * (clsR rs s).2.pos := by
 have h1 := xhf hr (rs.length + 9) true (tk rs 94 s) []
 have h2 := (xhv rs 94 s (by omega)).pos
 have h3 : (clsR rs s).1.length + 5 * s.pos ≤ 5 * (clsR rs s).2.pos := by
  unfold clsR; simp only [List.length_nil] at h1; omega
 unfold clsL
 split
 · have := xna (clsR rs s).1; omega
 have := ofL_len (clsR rs s).1; omega
structure Good (f : PS → T × PS) (rs : List Int) : Prop where
 go : ∀ s, Go1 rs s (f s).2
 wf : ∀ s, WFT (f s).1
 w : ∀ s, wT (f s).1 + 7 * s.pos ≤ 2 + 7 * (f s).2.pos
theorem xmv {f : PS → T × PS} {rs : List Int} (H : Good f rs) (hr : ∀ r ∈ rs, 0 ≤ r ∧ r ≤ 1114111) (s : PS) : WFT (xav f rs s).1 ∧ wT (xav f rs s).1 + 7 * s.pos ≤ 7 * (xav f rs s).2.pos := by
 have hn : (nx rs s).pos = s.pos + 1 := rfl
 unfold xav
 split
 · refine ⟨H.wf _, ?_⟩
   have h1 := H.w ⟨s.pos + 1, s.deep + 1, (nx rs s).bad || decide (10 < s.deep + 1)⟩
   have h2 := (xgu rs 41 (f ⟨s.pos + 1, s.deep + 1, (nx rs s).bad || decide (10 < s.deep + 1)⟩).2 (by omega)).pos
   simp only at h1 ⊢; omega
 split
 · exact ⟨⟨Or.inr (Or.inr (Or.inl rfl)), trivial⟩, by simp [wT, wF]; omega⟩
 split
 · exact ⟨⟨Or.inr (Or.inr (Or.inr (Or.inl rfl))), trivial⟩, by simp [wT, wF]; omega⟩
 split
 · exact ⟨xfP _, by simp [wT, wF, xbx]; omega⟩
 split
 · refine ⟨xfP _, ?_⟩
   have h1 := xnI hr (nx rs s)
   have h2 := xhf hr (rs.length + 9) true (tk rs 94 (nx rs s)) []
   have h3 := (xhv rs 94 (nx rs s) (by omega)).pos
   have h4 : (nx rs s).pos ≤ (clsR rs (nx rs s)).2.pos := by
    unfold clsR; simp only [List.length_nil] at h2; omega
   simp only [wT, wF, xbx]; omega
 split
 · refine ⟨xfP _, ?_⟩
   have h1 := (xgc hr (nx rs s)).2.1
   have h2 := (xea rs (nx rs s)).1
   simp only [wT, wF, xbx]; omega
 exact ⟨xfP _, by simp [wT, wF, xbx]; omega⟩
theorem cnt_adv {rs : List Int} {s : PS} (h : (cntV rs s).2.2 = true) : s.pos + 1 ≤ (cntS rs s).pos := by
 unfold cntV at h
 unfold cntS
 by_cases h1 : pk rs s = 63
 · rw [if_pos (Or.inl h1)]; exact Nat.le_refl _
 by_cases h2 : pk rs s = 43
 · rw [if_pos (Or.inr (Or.inl h2))]; exact Nat.le_refl _
 by_cases h3 : pk rs s = 42
 · rw [if_pos (Or.inr (Or.inr h3))]; exact Nat.le_refl _
 by_cases h4 : pk rs s = 123
 · rw [if_neg (by omega), if_pos h4]
   exact (xoi rs ⟨s.pos + 1, s.deep, s.bad⟩).pos
 rw [if_neg h1, if_neg h2, if_neg h3, if_neg h4] at h; cases h
theorem xhc {f : PS → T × PS} {rs : List Int} (H : Good f rs) (hr : ∀ r ∈ rs, 0 ≤ r ∧ r ≤ 1114111) (s : PS) : WFT (xak f rs s).1 ∧ wT (xak f rs s).1 + 7 * s.pos ≤ 7 * (xak f rs s).2.pos := by
 have h1 := xmv H hr s
 unfold xak
 split
 · rename_i h
   have h2 := cnt_adv h
   refine ⟨⟨Or.inr (Or.inr (Or.inr (Or.inr (Or.inr (Or.inr ⟨_, _, _, rfl⟩))))), WF.of.2 (by simpa using h1.1)⟩, ?_⟩
   simp only [wT, xcV, List.length_nil]
   have : wF (F.ofL []) = 0 := rfl
   have h3 := h1.2
   unfold wT at h3
   omega
 have h2 := (xeS rs (xav f rs s).2).pos
 exact ⟨h1.1, by simp only; omega⟩
theorem xm5 {f : PS → T × PS} {rs : List Int} (H : Good f rs) (hr : ∀ r ∈ rs, 0 ≤ r ∧ r ≤ 1114111) : ∀ n s l, (∀ t ∈ l, WFT t) → (∀ t ∈ (xbp f rs n s l).1, WFT t) ∧ wF (F.ofL (xbp f rs n s l).1) + 7 * s.pos ≤ wF (F.ofL l) + 7 * (xbp f rs n s l).2.pos := by
 intro n
 induction n with
 | zero => intro s l h; exact ⟨h, Nat.le_refl _⟩
 | succ n ih =>
  intro s l h
  unfold xbp
  split
  · have h1 := xhc H hr s
    have h2 := ih (xak f rs s).2 (l ++ [(xak f rs s).1]) (fun t ht => by
     rcases List.mem_append.1 ht with ht | ht
     · exact h t ht
     rw [List.mem_singleton] at ht; rw [ht]; exact h1.1)
    rw [xkv] at h2
    exact ⟨h2.1, by omega⟩
  exact ⟨h, Nat.le_refl _⟩
theorem xex {f : PS → T × PS} {rs : List Int} (H : Good f rs) (hr : ∀ r ∈ rs, 0 ≤ r ∧ r ≤ 1114111) (s : PS) : WFT (xao f rs s).1 ∧ wT (xao f rs s).1 + 7 * s.pos ≤ 1 + 7 * (xao f rs s).2.pos := by
 have h := xm5 H hr (rs.length + 9) s [] (by simp)
 have h2 := xku 4 (pcsR f rs s).1
 have e : wF (F.ofL []) = 0 := rfl
 rw [e] at h
 refine ⟨xkt (Or.inl rfl) h.1, ?_⟩
 have h3 := h.2
 show wT (xa6 4 (pcsR f rs s).1) + _ ≤ 1 + 7 * (pcsR f rs s).2.pos
 unfold pcsR at h2 ⊢
 omega
theorem xnV {f : PS → T × PS} {rs : List Int} (H : Good f rs) (hr : ∀ r ∈ rs, 0 ≤ r ∧ r ≤ 1114111) : ∀ n s l, (∀ t ∈ l, WFT t) → (∀ t ∈ (xbq f rs n s l).1, WFT t) ∧ wF (F.ofL (xbq f rs n s l).1) + 7 * s.pos ≤ wF (F.ofL l) + 7 * (xbq f rs n s l).2.pos := by
 intro n
 induction n with
 | zero => intro s l h; exact ⟨h, Nat.le_refl _⟩
 | succ n ih =>
  intro s l h
  unfold xbq
  split
  · rename_i hq
    have h0 : (tk rs 124 s).pos = s.pos + 1 := by unfold tk; rw [if_pos hq]
    have h1 := xex H hr (tk rs 124 s)
    have h2 := ih (xao f rs (tk rs 124 s)).2 (l ++ [(xao f rs (tk rs 124 s)).1]) (fun t ht => by
     rcases List.mem_append.1 ht with ht | ht
     · exact h t ht
     rw [List.mem_singleton] at ht; rw [ht]; exact h1.1)
    rw [xkv] at h2
    exact ⟨h2.1, by omega⟩
  exact ⟨h, Nat.le_refl _⟩
theorem xfL {f : PS → T × PS} {rs : List Int} (H : Good f rs) (hr : ∀ r ∈ rs, 0 ≤ r ∧ r ≤ 1114111) : Good (xd f rs) rs := by
 refine ⟨xeg H.go, fun s => ?_, fun s => ?_⟩
 all_goals
  have h1 := xex H hr s
  have h2 := xnV H hr (rs.length + 9) (xao f rs s).2 [(xao f rs s).1] (by simpa using h1.1)
 · exact xkt (Or.inr rfl) h2.1
 have h3 := xku 5 (altR f rs s).1
 have h4 := h2.2
 rw [xcV] at h4
 have e : wF (F.ofL []) = 0 := rfl
 show wT (xa6 5 (altR f rs s).1) + _ ≤ 2 + 7 * (altR f rs s).2.pos
 unfold altR at h3 ⊢
 omega
theorem xmw {rs : List Int} (hr : ∀ r ∈ rs, 0 ≤ r ∧ r ≤ 1114111) : ∀ n, Good (alts rs n) rs := by
 intro n
 induction n with
 | zero => exact xfL (f := fun s => (xa3, s)) ⟨fun s => Go1.refl _ _, fun s => xhu, fun s => by simp [wT, xa3, wF]⟩ hr
 | succ n ih => exact xfL ih hr
theorem xjP (l : List UInt8) : WFT (xaZ l).1 ∧ wT (xaZ l).1 ≤ 2000 := by
 have hz : WFT xa3 ∧ wT xa3 ≤ 2000 := ⟨xhu, by simp [wT, xa3, wF]⟩
 unfold xaZ
 by_cases hl : 200 < l.length
 · rw [if_pos hl]; exact hz
 rw [if_neg hl]
 cases hp : pts l with
 | none => exact hz
 | some rs =>
  simp only
  have hf := xew hp
  unfold xcS
  split
  · exact hz
  rename_i h
  have h1 := xmw hf.2 11
  have h2 := h1.w ⟨0, 0, false⟩
  refine ⟨h1.wf _, ?_⟩
  have h3 : (alts rs 11 ⟨0, 0, false⟩).2.pos = rs.length := by
   by_cases hp : (alts rs 11 ⟨0, 0, false⟩).2.pos = rs.length
   · exact hp
   exact absurd (Or.inr hp) h
  rw [h3] at h2
  simp only at h2 ⊢
  omega
def WKn (t : T) : Prop := t.op = 0 ∨ t.op = 1 ∨ t.op = 2 ∨ t.op = 3 ∨ t.op = 4 ∨ (t.op = 5 ∧ 0 < t.kids.toL.length) ∨ (t.op = 6 ∧ (∃ k, t.kids.toL = [k]) ∧ (0 ≤ t.mn ∧ t.mn ≤ 1000) ∧ (-1 ≤ t.mx ∧ t.mx ≤ 1000) ∧ (t.mx < 0 ∨ t.mn ≤ t.mx))
inductive WK : T → Prop
 | mk {t : T} (h : WKn t) (hk : ∀ k ∈ t.kids.toL, WK k) : WK t
theorem xn0 : ∀ (L : List T) (k : T), k ∈ L → wT k ≤ wF (F.ofL L)
 | [], _, h => by cases h
 | t :: L, k, h => by
  rw [xcV]
  rcases List.mem_cons.1 h with rfl | h
  · omega
  have := xn0 L k h; omega
theorem xn1 : ∀ (L : List T), L.length ≤ wF (F.ofL L)
 | [] => Nat.zero_le _
 | t :: L => by
  rw [xcV]
  have := xn1 L
  simp only [List.length_cons]; unfold wT; omega
theorem WK.wg {t : T} (h : WK t) : wT t ≤ 4000 → WG t := by
 induction h with
 | @mk t h hk ih =>
  intro hw
  have e : wT t = 1 + t.set.length + wF (F.ofL t.kids.toL) := by rw [F.of_to]; rfl
  have hl := xn1 t.kids.toL
  refine WG.mk ⟨⟨by omega, by omega⟩, h⟩ (fun i k hi => ?_)
  have hm := List.mem_of_getElem? hi
  have := xn0 t.kids.toL k hm
  exact ih k hm (by omega)
theorem xca (t : T) (h : t.op = 0 ∨ t.op = 1 ∨ t.op = 2 ∨ t.op = 3) (hk : t.kids = .nil) : WK t :=
 WK.mk (by unfold WKn; rcases h with h | h | h | h <;> simp [h]) (fun k hm => by rw [hk] at hm; simp [F.toL] at hm)
theorem xks {op : Int} (ho : op = 4 ∨ op = 5) {l : List T} (h : ∀ t ∈ l, WK t) : WK (xa6 op l) := by
 rcases l with _ | ⟨t, _ | ⟨u, l⟩⟩
 · exact xca _ (Or.inl rfl) rfl
 · exact h t (by simp)
 refine WK.mk ?_ (fun k hk => by
  have e : (xa6 op (t :: u :: l)).kids.toL = t :: u :: l := F.to_of _
  rw [e] at hk; exact h k hk)
 have e : (xa6 op (t :: u :: l)).kids.toL = t :: u :: l := F.to_of _
 have eo : (xa6 op (t :: u :: l)).op = op := rfl
 unfold WKn
 rw [e, eo]
 rcases ho with rfl | rfl
 · exact Or.inr (Or.inr (Or.inr (Or.inr (Or.inl rfl))))
 exact Or.inr (Or.inr (Or.inr (Or.inr (Or.inr (Or.inl ⟨rfl, by simp⟩)))))
theorem xli (rs : List Int) (s : PS) : 0 ≤ numN rs s ∧ numN rs s ≤ 99 := by
 unfold numN
 split
 · rename_i h
   simp only [dig, Bool.and_eq_true, decide_eq_true_eq] at h
   split
   · rename_i h2
     simp only [dig, Bool.and_eq_true, decide_eq_true_eq] at h2
     omega
   omega
 omega
theorem xcf {rs : List Int} {s s' : PS} (h : Go1 rs s s') (hb : s'.bad = false) : s.bad = false := by
 cases hs : s.bad with
 | false => rfl
 | true => rw [h.bad hs] at hb; cases hb
structure xht (f : PS → T × PS) (rs : List Int) : Prop where
 go : ∀ s, Go1 rs s (f s).2
 wk : ∀ s, (f s).2.bad = false → WK (f s).1
theorem xmu {f : PS → T × PS} {rs : List Int} (H : xht f rs) (s : PS) (hb : (xav f rs s).2.bad = false) : WK (xav f rs s).1 := by
 unfold xav at hb ⊢
 by_cases h1 : pk rs s = 40
 · rw [if_pos h1] at hb ⊢
   exact H.wk _ (xcf (xgu rs 41 _ (by omega)) hb)
 rw [if_neg h1] at hb ⊢
 by_cases h2 : pk rs s = 94
 · rw [if_pos h2]; exact xca _ (Or.inr (Or.inr (Or.inl rfl))) rfl
 rw [if_neg h2]
 by_cases h3 : pk rs s = 36
 · rw [if_pos h3]; exact xca _ (Or.inr (Or.inr (Or.inr rfl))) rfl
 rw [if_neg h3]
 by_cases h4 : pk rs s = 46
 · rw [if_pos h4]; exact xca _ (Or.inr (Or.inl rfl)) rfl
 rw [if_neg h4]
 by_cases h5 : pk rs s = 91
 · rw [if_pos h5]; exact xca _ (Or.inr (Or.inl rfl)) rfl
 rw [if_neg h5]
 by_cases h6 : pk rs s = 92
 · rw [if_pos h6]; exact xca _ (Or.inr (Or.inl rfl)) rfl
 rw [if_neg h6]; exact xca _ (Or.inr (Or.inl rfl)) rfl
theorem br_ok (rs : List Int) (s : PS) (hb : (brS rs s).bad = false) : (0 ≤ brA rs s ∧ brA rs s ≤ 1000) ∧ (-1 ≤ brB rs s ∧ brB rs s ≤ 1000) ∧ (brB rs s < 0 ∨ brA rs s ≤ brB rs s) := by
 have h1 := xli rs s
 have h2 := xli rs (br3 rs s)
 unfold brS at hb
 unfold brA brB
 by_cases e1 : pk rs (numS rs s) = 44
 · rw [if_pos e1] at hb ⊢
   by_cases e2 : pk rs (br3 rs s) = 125
   · rw [if_pos e2]; omega
   rw [if_neg e2] at hb ⊢
   have := xcf (xgu rs 125 _ (by omega)) hb
   simp only [Bool.or_eq_false_iff, decide_eq_false_iff_not] at this
   omega
 rw [if_neg e1]; omega
theorem cnt_ok (rs : List Int) (s : PS) (hb : (cntS rs s).bad = false) (h : (cntV rs s).2.2 = true) : (0 ≤ (cntV rs s).1 ∧ (cntV rs s).1 ≤ 1000) ∧ (-1 ≤ (cntV rs s).2.1 ∧ (cntV rs s).2.1 ≤ 1000) ∧ ((cntV rs s).2.1 < 0 ∨ (cntV rs s).1 ≤ (cntV rs s).2.1) := by
 unfold cntS at hb
 unfold cntV at h ⊢
 by_cases h1 : pk rs s = 63
 · rw [if_pos h1]; simp
 rw [if_neg h1] at h ⊢
 by_cases h2 : pk rs s = 43
 · rw [if_pos h2]; simp
 rw [if_neg h2] at h ⊢
 by_cases h3 : pk rs s = 42
 · rw [if_pos h3]; simp
 rw [if_neg h3] at h ⊢
 by_cases h4 : pk rs s = 123
 · rw [if_pos h4]
   rw [if_neg (by omega), if_pos h4] at hb
   exact br_ok rs _ hb
 rw [if_neg h4] at h; cases h
theorem xkc {f : PS → T × PS} {rs : List Int} (H : xht f rs) (s : PS) (hb : (xak f rs s).2.bad = false) : WK (xak f rs s).1 := by
 unfold xak at hb ⊢
 by_cases h : (cntV rs (xav f rs s).2).2.2 = true
 · rw [if_pos h] at hb ⊢
   simp only [Bool.or_eq_false_iff] at hb
   have ha := xmu H s (xcf (xeS rs _) hb.1)
   have hc := cnt_ok rs _ hb.1 h
   refine WK.mk ?_ (fun k hk => by rw [F.to_of] at hk; obtain rfl : k = (xav f rs s).1 := (by simpa using hk); exact ha)
   exact Or.inr (Or.inr (Or.inr (Or.inr (Or.inr (Or.inr ⟨rfl, ⟨_, F.to_of _⟩, hc⟩)))))
 rw [if_neg h] at hb ⊢
 exact xmu H s (xcf (xeS rs _) hb)
theorem pcs_wk {f : PS → T × PS} {rs : List Int} (H : xht f rs) : ∀ n s l, (xbp f rs n s l).2.bad = false → (∀ t ∈ l, WK t) → ∀ t ∈ (xbp f rs n s l).1, WK t := by
 intro n
 induction n with
 | zero => exact fun s l _ h => h
 | succ n ih =>
  intro s l hb h
  unfold xbp at hb ⊢
  by_cases hp : isPc (pk rs s) = true
  · rw [if_pos hp] at hb ⊢
    have h1 := xcf (xiy H.go n (xak f rs s).2 _) hb
    exact ih _ _ hb (fun t ht => by
     rcases List.mem_append.1 ht with ht | ht
     · exact h t ht
     obtain rfl := List.mem_singleton.1 ht
     exact xkc H s h1)
  rw [if_neg hp]; exact h
theorem xgJ {f : PS → T × PS} {rs : List Int} (H : xht f rs) (s : PS) (hb : (xao f rs s).2.bad = false) : WK (xao f rs s).1 :=
 xks (Or.inl rfl) (pcs_wk H _ s [] hb (by simp))
theorem alt_wk {f : PS → T × PS} {rs : List Int} (H : xht f rs) : ∀ n s l, (xbq f rs n s l).2.bad = false → (∀ t ∈ l, WK t) → ∀ t ∈ (xbq f rs n s l).1, WK t := by
 intro n
 induction n with
 | zero => exact fun s l _ h => h
 | succ n ih =>
  intro s l hb h
  unfold xbq at hb ⊢
  by_cases hp : pk rs s = 124
  · rw [if_pos hp] at hb ⊢
    have h1 := xcf (xgr H.go n (xao f rs (tk rs 124 s)).2 _) hb
    exact ih _ _ hb (fun t ht => by
     rcases List.mem_append.1 ht with ht | ht
     · exact h t ht
     obtain rfl := List.mem_singleton.1 ht
     exact xgJ H _ h1)
  rw [if_neg hp]; exact h
theorem xjc {f : PS → T × PS} {rs : List Int} (H : xht f rs) : xht (xd f rs) rs := by
 refine ⟨xeg H.go, fun s hb => ?_⟩
 have h1 := xcf (xgr H.go (rs.length + 9) (xao f rs s).2 [(xao f rs s).1]) hb
 exact xks (Or.inr rfl) (alt_wk H _ _ _ hb (fun t ht => by obtain rfl := List.mem_singleton.1 ht; exact xgJ H s h1))
theorem alts_wk (rs : List Int) : ∀ n, xht (alts rs n) rs := by
 intro n
 induction n with
 | zero => exact xjc (f := fun s => (xa3, s)) ⟨fun s => Go1.refl _ _, fun s _ => xca _ (Or.inl rfl) rfl⟩
 | succ n ih => exact xjc ih
theorem xm6 (l : List UInt8) : WG (xaZ l).1 := by
 refine WK.wg ?_ (Nat.le_trans (xjP l).2 (by omega))
 have hz : WK xa3 := xca _ (Or.inl rfl) rfl
 unfold xaZ
 by_cases hl : 200 < l.length
 · rw [if_pos hl]; exact hz
 rw [if_neg hl]
 cases hp : pts l with
 | none => exact hz
 | some rs =>
  simp only
  unfold xcS
  split
  · exact hz
  rename_i h
  exact (alts_wk rs 11).wk _ (by
   cases hb : (alts rs 11 ⟨0, 0, false⟩).2.bad with
   | false => rfl
   | true => exact absurd (Or.inl hb) h)
structure EngAt (w : World) (P : Nat → Prop) (eb : Nat) (pv : Value) (is : List Ins) (r : List UInt8 × Bool) : Prop where
 bk : w.heap[eb]? = some (.cells #[pv, .string ⟨r.1.toArray⟩, .bool r.2] 195 (0, 0))
 pg : PgAt w P pv is
def EComE (w : World) (is : List Ins) (r : List UInt8 × Bool) (e : Ending) (w' : World) : Prop :=
 ∃ eb pv, e = .returned (.tuple #[.pointer (some ⟨eb, 0, none⟩), .int .i64 0]) ∧ EngAt w' (fun b => b < w'.heap.size) eb pv is r ∧ xa (fun _ => False) w w'
theorem eng_set (w : World) (eb : Nat) (pv u v : Value) (h : w.heap[eb]? = some (.cells #[pv, .string ⟨#[]⟩, .bool false] 195 (0, 0))) : ((w.setCell ⟨eb, 1, none⟩ u).setCell ⟨eb, 2, none⟩ v).heap[eb]? = some (.cells #[pv, u, v] 195 (0, 0)) := by
 simp [World.setCell, Array.getElem?_modify, h]
theorem xhb (l : List UInt8) (t : T) (n : Nat) (is : List Ins) (r : List UInt8 × Bool) (hpar : xaZ l = (t, 0)) (hlen : LenC t n) (hn : n < 2000) (hN : NodeE t is) (his : is.length ≤ 2500) (hpre : PreC t r) (w : World) (hm : l.length ≤ 9223372036854775807) :
 Calls Tryz.prog 58 #[.string ⟨l.toArray⟩] w fun e w' => EComE w (is ++ [mI]) r e w' := by
 have HP := xoo (fun W => xeB l W hm)
 rw [hpar] at HP
 have HC0 := xoo (fun P v W ht => xh4 t n is hlen hn hN his P v W ht)
 generalize is ++ [mI] = js at HC0 ⊢
 clear hN hlen
 go_enter Tryz.func58, Tryz.ntmps58
 go_wp2_with fail
 refine (HP.out _).mono ?_
 rintro e w2 ⟨v, rfl, hv, k2⟩
 obtain ⟨o, a1, n1, c1, m, x, a2, n2, cc2, rfl⟩ := NV.form hv
 have HC := xoo (fun W (K : xa (fun _ => False) w2 W) => HC0.out (fun _ => True) _ W (hv.keepsTo K (fun _ _ => id) (fun _ _ => trivial)))
 have HR := xoo (fun W (K : xa (fun _ => False) w2 W) => hpre (fun _ => True) _ W (hv.keepsTo K (fun _ _ => id) (fun _ _ => trivial)))
 have K2 := xoo k2
 clear hv k2 HP
 unfold NV.val at HC HR ⊢
 go_wp2_with fail
 refine (HC.out _ (KI.out)).mono ?_
 rintro e w3 ⟨pv, rfl, hpg, k3⟩
 have z0 : w3.cell? ⟨w2.heap.size, 0, none⟩ = some (.int .i64 o) := k3.cell (by simp [go_sem]) id
 have z1 : w3.cell? ⟨w2.heap.size, 1, none⟩ = some (.slice a1 n1 c1) := k3.cell (by simp [go_sem]) id
 have z2 : w3.cell? ⟨w2.heap.size, 2, none⟩ = some (.int .i64 m) := k3.cell (by simp [go_sem]) id
 have z3 : w3.cell? ⟨w2.heap.size, 3, none⟩ = some (.int .i64 x) := k3.cell (by simp [go_sem]) id
 have z4 : w3.cell? ⟨w2.heap.size, 4, none⟩ = some (.slice a2 n2 cc2) := k3.cell (by simp [go_sem]) id
 have K23 : Hid (xa (fun _ => False) w2 w3) := xoo (xa.trans (KI.out) k3)
 have HPg := xoo hpg
 obtain ⟨pa, pc, rfl⟩ := hpg.form
 have y0 := xad z0 (.cells #[.slice pa js.length pc, .string ⟨#[]⟩, .bool false] 195)
 have y1 := xad z1 (.cells #[.slice pa js.length pc, .string ⟨#[]⟩, .bool false] 195)
 have y2 := xad z2 (.cells #[.slice pa js.length pc, .string ⟨#[]⟩, .bool false] 195)
 have y3 := xad z3 (.cells #[.slice pa js.length pc, .string ⟨#[]⟩, .bool false] 195)
 have y4 := xad z4 (.cells #[.slice pa js.length pc, .string ⟨#[]⟩, .bool false] 195)
 clear k3 hpg HC
 go_wp2_with fail
 refine (HR.out _ (K23.out.trans (KI.out))).mono ?_
 rintro e w4 ⟨rfl, k4⟩
 have hb4 : w4.heap[w3.heap.size]? = some (.cells #[.slice pa js.length pc, .string ⟨#[]⟩, .bool false] 195 (0, 0)) := by
  rw [k4.block _ (by simp) id]; exact heap_alloc_new w3 _
 have c1' : w4.cell? ⟨w3.heap.size, 1, none⟩ = some (.string ⟨#[]⟩) := by rw [Lib.cell_of_heap hb4]; rfl
 have c2' : w4.cell? ⟨w3.heap.size, 2, none⟩ = some (.bool false) := by rw [Lib.cell_of_heap hb4]; rfl
 have f1 : w4.frozen? ⟨w3.heap.size, 1, none⟩ = false := Lib.frozen_of_heap hb4 1
 have f2 : w4.frozen? ⟨w3.heap.size, 2, none⟩ = false := Lib.frozen_of_heap hb4 2
 have hE := eng_set w4 w3.heap.size _ (.string ⟨r.1.toArray⟩) (.bool r.2) hb4
 have k34 : xa (fun _ => False) w3 w4 := xa.trans (KI.out) k4
 have KS : xa (fun b => b = w3.heap.size) w4 ((w4.setCell ⟨w3.heap.size, 1, none⟩ (.string ⟨r.1.toArray⟩)).setCell ⟨w3.heap.size, 2, none⟩ (.bool r.2)) := ((xa.refl (fun b => b = w3.heap.size) w4).set (p := ⟨w3.heap.size, 1, none⟩) rfl _).set (p := ⟨w3.heap.size, 2, none⟩) rfl _
 have HE := xoo hE
 have KE := xoo (((K2.out.trans K23.out).trans k34).trans2 KS (fun b hb e => by have := (K2.out.trans K23.out).size; omega))
 have KS' := xoo (k34.trans2 KS (fun b hb e => by omega))
 clear k4 hb4 hE k34 KS
 unfold strL
 go_wp2_with fail
 go_ret2
 refine ⟨_, _, rfl, ⟨HE.out, HPg.out.keepsTo KS'.out (fun _ _ => id) (fun b hb => Nat.lt_of_lt_of_le hb.2 KS'.out.size)⟩, KE.out⟩
def EErrE (c : Int) (w : World) (e : Ending) (w' : World) : Prop := e = .returned (.tuple #[.pointer none, .int .i64 c]) ∧ xa (fun _ => False) w w'
theorem xge (l : List UInt8) (t : T) (c : Int) (hpar : xaZ l = (t, c)) (hc : c ≠ 0) (w : World) (hm : l.length ≤ 9223372036854775807) :
 Calls Tryz.prog 58 #[.string ⟨l.toArray⟩] w (EErrE c w) := by
 have HP := xoo (fun W => xeB l W hm)
 rw [hpar] at HP
 have g0 : (c != 0) = true := by simp [hc]
 go_enter Tryz.func58, Tryz.ntmps58
 go_wp2_with fail
 refine (HP.out _).mono ?_
 rintro e w2 ⟨v, rfl, hv, k2⟩
 obtain ⟨o, a1, n1, c1, m, x, a2, n2, cc2, rfl⟩ := NV.form hv
 have K2 := xoo k2
 clear hv k2 HP
 unfold NV.val
 go_wp2_with fail
 go_ret2
 exact ⟨rfl, xa.trans K2.out (KI.out)⟩
theorem xha (l : List UInt8) (t : T) (n : Nat) (hpar : xaZ l = (t, 0)) (hlen : LenG t n) (hn : 2000 ≤ n) (w : World) (hm : l.length ≤ 9223372036854775807) :
 Calls Tryz.prog 58 #[.string ⟨l.toArray⟩] w (EErrE 16 w) := by
 have HP := xoo (fun W => xeB l W hm)
 rw [hpar] at HP
 have HC0 := xoo (fun P v W ht => xh3 t n hlen hn P v W ht)
 clear hlen
 go_enter Tryz.func58, Tryz.ntmps58
 go_wp2_with fail
 refine (HP.out _).mono ?_
 rintro e w2 ⟨v, rfl, hv, k2⟩
 obtain ⟨o, a1, n1, c1, m, x, a2, n2, cc2, rfl⟩ := NV.form hv
 have HC := xoo (fun W (K : xa (fun _ => False) w2 W) => HC0.out (fun _ => True) _ W (hv.keepsTo K (fun _ _ => id) (fun _ _ => trivial)))
 have K2 := xoo k2
 clear hv k2 HP
 unfold NV.val at HC ⊢
 go_wp2_with fail
 refine (HC.out _ (KI.out)).mono ?_
 rintro e w3 ⟨rfl, k3⟩
 have K3 := xoo (xa.trans K2.out (xa.trans (KI.out) k3))
 clear k3 HC
 go_wp2_with fail
 go_ret2
 exact ⟨rfl, K3.out⟩
end Go.Proofs.YtbifklibdkjbeaaGreatDoor
