/-
  Several texts in one: The trees that the parser makes: how they look, how great they are. Plain law: what the parser makes is of the form that the maker asks. engine.Compile at every pattern. engine's sound, plain, hopeless.
-/
import Derived.Test.YtjahiihmoglpfaaGreatDoorMg20
import Derived.Test.YtjahiihmoglpfaaGreatDoorMg16
import Derived.Test.YtjahiihmoglpfaaGreatDoorMg19
import Derived.Test.YtjahiihmoglpfaaGreatDoorMg14
import Derived.Test.YtjahiihmoglpfaaGreatDoorMg17
import Derived.Lib.ConvBytes
namespace Go.Proofs.YtjahiihmoglpfaaGreatDoor
open Go.RowKit
set_option linter.unusedVariables false
set_option linter.unusedSimpArgs false
set_option maxRecDepth 100000
def wF : F → Nat
 | .nil => 0
 | .cons _ s _ _ k r => 1 + s.length + wF k + wF r
def wT (t : T) : Nat := 1 + t.set.length + wF t.kids
theorem xcH (t : T) (l : List T) : wF (F.ofL (t :: l)) = wT t + wF (F.ofL l) := rfl
theorem xjz (l : List T) (t : T) : wF (F.ofL (l ++ [t])) = wF (F.ofL l) + wT t := by
 induction l with
 | nil => simp [F.ofL, wF, wT]
 | cons u l ih => rw [List.cons_append, xcH, xcH, ih]; omega
theorem xjy (op : Int) (l : List T) : wT (xcc op l) ≤ 1 + wF (F.ofL l) := by
 rcases l with _ | ⟨t, _ | ⟨u, l⟩⟩
 · show wT xbh ≤ _; simp [wT, xbh, wF, F.ofL]
 · show wT t ≤ _; rw [xcH]; omega
 show 1 + 0 + wF (F.ofL (t :: u :: l)) ≤ _; omega
theorem xgW : WFT xbh := ⟨Or.inl rfl, trivial⟩
theorem xfj (s : List (Int × Int)) : WFT (xbn s) := ⟨Or.inr (Or.inl ⟨s, rfl⟩), trivial⟩
theorem xjx {op : Int} (ho : op = 4 ∨ op = 5) {l : List T} (h : ∀ t ∈ l, WFT t) : WFT (xcc op l) := by
 rcases l with _ | ⟨t, _ | ⟨u, l⟩⟩
 · exact xgW
 · exact h t (by simp)
 refine ⟨?_, WF.of.2 h⟩
 rcases ho with rfl | rfl
 · exact Or.inr (Or.inr (Or.inr (Or.inr (Or.inl ⟨_, rfl⟩))))
 exact Or.inr (Or.inr (Or.inr (Or.inr (Or.inr (Or.inl ⟨_, rfl⟩)))))
theorem xgq : ∀ (a b : List Int), a.Nodup → (∀ x ∈ a, x ∈ b) → a.length ≤ b.length := by
 intro a
 induction a with
 | nil => intro b _ _; simp
 | cons x a ih =>
  intro b hn hs
  rw [List.nodup_cons] at hn
  have hx : x ∈ b := hs x (by simp)
  have h1 := ih (b.erase x) hn.2 (fun y hy => by
   refine (List.mem_erase_of_ne ?_).2 (hs y (by simp [hy]))
   rintro rfl; exact hn.1 hy)
  rw [List.length_erase_of_mem hx] at h1
  have := List.length_pos_of_mem hx
  simp only [List.length_cons]; omega
theorem xgn : ∀ (l : List (Int × Int)), Norm l → (l.map (·.1)).Nodup ∧ ∀ p ∈ l, 0 ≤ p.1 ∧ mem l p.1 = true ∧ mem l (p.1 - 1) = false := by
 intro l h
 have key : ∀ l : List (Int × Int), Norm l → (l.map (·.1)).Nodup ∧ ∀ p ∈ l, mem l (p.1 - 1) = false := by
  intro l
  induction l with
  | nil => intro _; simp
  | cons q l ih =>
   intro h
   have hq := h.rng q (by simp)
   have hd := xgp (q :: l) h 0 q rfl
   simp only [List.drop_succ_cons, List.drop_zero, Nat.zero_add] at hd
   have h2 := ih h.tail
   refine ⟨?_, fun p hp => ?_⟩
   · rw [List.map_cons, List.nodup_cons]
     refine ⟨fun hm => ?_, h2.1⟩
     obtain ⟨r, hr, he⟩ := List.mem_map.1 hm
     have := hd r hr; omega
   rw [mem_cons]
   rcases List.mem_cons.1 hp with rfl | hp
   · have : mem l (p.1 - 1) = false := by
      cases hm : mem l (p.1 - 1) with
      | false => rfl
      | true =>
       obtain ⟨r, hr, h3, h4⟩ := (mem_iff l _).1 hm
       have := hd r hr; omega
     rw [this]; simp; omega
   rw [h2.2 p hp]
   have := hd p hp
   simp; omega
 refine ⟨(key l h).1, fun p hp => ⟨(h.rng p hp).1, ?_, (key l h).2 p hp⟩⟩
 exact (mem_iff l _).2 ⟨p, hp, by omega, (h.rng p hp).2.1⟩
theorem xlR {l out : List (Int × Int)} (h : IsOf l out) : out.length ≤ l.length + 1 := by
 have hn := xgn out h.1
 have := xgq (out.map (·.1)) (0 :: l.map (·.1)) hn.1 (fun x hx => by
  obtain ⟨p, hp, rfl⟩ := List.mem_map.1 hx
  obtain ⟨h0, h1, h2⟩ := hn.2 p hp
  rw [h.2] at h1 h2
  by_cases hz : p.1 = 0
  · simp [hz]
  unfold has at h1 h2
  simp only [Bool.and_eq_true, Bool.and_eq_false_iff] at h1 h2
  obtain ⟨q, hq, g1, g2⟩ := (mem_iff l _).1 h1.1
  have hi : xbH (p.1 - 1) = true := by
   have := h1.2; unfold xbH at this ⊢; simp at this ⊢; omega
  rcases h2 with h2 | h2
  · have : ¬ (q.1 ≤ p.1 - 1) := fun hc => by
     have : mem l (p.1 - 1) = true := (mem_iff l _).2 ⟨q, hq, hc, by omega⟩
     rw [this] at h2; cases h2
    refine List.mem_cons_of_mem _ (List.mem_map.2 ⟨q, hq, by omega⟩)
  rw [hi] at h2; cases h2)
 simpa using this
theorem xkp {l out : List (Int × Int)} (h : xeG l out) : out.length ≤ l.length + 1 := by
 have hn := xgn out h.1
 have := xgq (out.map (·.1)) (0 :: l.map (·.2 + 1)) hn.1 (fun x hx => by
  obtain ⟨p, hp, rfl⟩ := List.mem_map.1 hx
  obtain ⟨h0, h1, h2⟩ := hn.2 p hp
  rw [h.2] at h1 h2
  by_cases hz : p.1 = 0
  · simp [hz]
  simp only [Bool.and_eq_true, Bool.and_eq_false_iff, Bool.not_eq_true', Bool.not_eq_false'] at h1 h2
  have hi : xbH (p.1 - 1) = true := by
   have := h1.1; unfold xbH at this ⊢; simp at this ⊢; omega
  rcases h2 with h2 | h2
  · rw [hi] at h2; cases h2
  unfold has at h1 h2
  simp only [Bool.and_eq_true, Bool.and_eq_false_iff] at h1 h2
  obtain ⟨q, hq, g1, g2⟩ := (mem_iff l _).1 h2.1
  have : q.2 < p.1 := by
   rcases h1.2 with h3 | h3
   · by_cases hc : p.1 ≤ q.2
     · have : mem l p.1 = true := (mem_iff l _).2 ⟨q, hq, by omega, hc⟩
       rw [this] at h3; cases h3
     omega
   rw [h1.1] at h3; cases h3
  refine List.mem_cons_of_mem _ (List.mem_map.2 ⟨q, hq, by omega⟩))
 simpa using this
theorem ofL_len (l : List (Int × Int)) : (ofL l).length ≤ l.length + 1 := by
 by_cases h : ∃ out, IsOf l out
 · obtain ⟨out, h⟩ := h
   rw [xgm h]; exact xlR h
 unfold ofL; rw [dif_neg h]; simp
theorem xly (l : List (Int × Int)) : (notL l).length ≤ l.length + 1 := by
 by_cases h : ∃ out, xeG l out
 · obtain ⟨out, h⟩ := h
   rw [xhl h]; exact xkp h
 unfold notL; rw [dif_neg h]; simp
theorem xgO {rs : List Int} (hr : ∀ r ∈ rs, 0 ≤ r ∧ r ≤ 1114111) : ∀ n f s l, (xdH rs n f s l).1.length + 5 * s.pos ≤ l.length + 5 * (xdH rs n f s l).2.pos := by
 intro n
 induction n with
 | zero => intro f s l; exact Nat.le_refl _
 | succ n ih =>
  intro f s l
  unfold xdH
  split
  · have := (xgZ rs 93 s (by omega)).pos
    simp only; omega
  have h1 := ih false (parS rs s) (l ++ parL rs s)
  have h2 := (xh4 hr s).1
  have h3 := (xaZ rs s).1
  rw [List.length_append] at h1
  omega
theorem xmb {rs : List Int} (hr : ∀ r ∈ rs, 0 ≤ r ∧ r ≤ 1114111) (s : PS) : (clsL rs s).length + 5 * s.pos ≤ 1 + 5 * (clsR rs s).2.pos := by
 have h1 := xgO hr (rs.length + 9) true (tk rs 94 s) []
 have h2 := (xgZ rs 94 s (by omega)).pos
 have h3 : (clsR rs s).1.length + 5 * s.pos ≤ 5 * (clsR rs s).2.pos := by
  unfold clsR; simp only [List.length_nil] at h1; omega
 unfold clsL
 split
 · have := xly (clsR rs s).1; omega
 have := ofL_len (clsR rs s).1; omega
structure Good (f : PS → T × PS) (rs : List Int) : Prop where
 go : ∀ s, Go1 rs s (f s).2
 wf : ∀ s, WFT (f s).1
 w : ∀ s, wT (f s).1 + 7 * s.pos ≤ 2 + 7 * (f s).2.pos
theorem xkU {f : PS → T × PS} {rs : List Int} (H : Good f rs) (hr : ∀ r ∈ rs, 0 ≤ r ∧ r ≤ 1114111) (s : PS) : WFT (xaO f rs s).1 ∧ wT (xaO f rs s).1 + 7 * s.pos ≤ 7 * (xaO f rs s).2.pos := by
 have hn : (nx rs s).pos = s.pos + 1 := rfl
 unfold xaO
 split
 · refine ⟨H.wf _, ?_⟩
   have h1 := H.w ⟨s.pos + 1, s.deep + 1, (nx rs s).bad || decide (10 < s.deep + 1)⟩
   have h2 := (xfR rs 41 (f ⟨s.pos + 1, s.deep + 1, (nx rs s).bad || decide (10 < s.deep + 1)⟩).2 (by omega)).pos
   simp only at h1 ⊢; omega
 split
 · exact ⟨⟨Or.inr (Or.inr (Or.inl rfl)), trivial⟩, by simp [wT, wF]; omega⟩
 split
 · exact ⟨⟨Or.inr (Or.inr (Or.inr (Or.inl rfl))), trivial⟩, by simp [wT, wF]; omega⟩
 split
 · exact ⟨xfj _, by simp [wT, wF, xbn]; omega⟩
 split
 · refine ⟨xfj _, ?_⟩
   have h1 := xmb hr (nx rs s)
   have h2 := xgO hr (rs.length + 9) true (tk rs 94 (nx rs s)) []
   have h3 := (xgZ rs 94 (nx rs s) (by omega)).pos
   have h4 : (nx rs s).pos ≤ (clsR rs (nx rs s)).2.pos := by
    unfold clsR; simp only [List.length_nil] at h2; omega
   simp only [wT, wF, xbn]; omega
 split
 · refine ⟨xfj _, ?_⟩
   have h1 := (xfH hr (nx rs s)).2.1
   have h2 := (xdY rs (nx rs s)).1
   simp only [wT, wF, xbn]; omega
 exact ⟨xfj _, by simp [wT, wF, xbn]; omega⟩
theorem cnt_adv {rs : List Int} {s : PS} (h : (cntV rs s).2.2 = true) : s.pos + 1 ≤ (cntS rs s).pos := by
 unfold cntV at h
 unfold cntS
 by_cases h1 : pk rs s = 63
 · rw [if_pos (Or.inl h1)]; exact Nat.le_refl _
 by_cases h2 : pk rs s = 43
 · rw [if_pos (Or.inr (Or.inl h2))]; exact Nat.le_refl _
 by_cases h3 : pk rs s = 42
 · rw [if_pos (Or.inr (Or.inr h3))]; exact Nat.le_refl _
 by_cases h4 : pk rs s = 123
 · rw [if_neg (by omega), if_pos h4]
   exact (xmx rs ⟨s.pos + 1, s.deep, s.bad⟩).pos
 rw [if_neg h1, if_neg h2, if_neg h3, if_neg h4] at h; cases h
theorem xgL {f : PS → T × PS} {rs : List Int} (H : Good f rs) (hr : ∀ r ∈ rs, 0 ≤ r ∧ r ≤ 1114111) (s : PS) : WFT (xau f rs s).1 ∧ wT (xau f rs s).1 + 7 * s.pos ≤ 7 * (xau f rs s).2.pos := by
 have h1 := xkU H hr s
 unfold xau
 split
 · rename_i h
   have h2 := cnt_adv h
   refine ⟨⟨Or.inr (Or.inr (Or.inr (Or.inr (Or.inr (Or.inr ⟨_, _, _, rfl⟩))))), WF.of.2 (by simpa using h1.1)⟩, ?_⟩
   simp only [wT, xcH, List.length_nil]
   have : wF (F.ofL []) = 0 := rfl
   have h3 := h1.2
   unfold wT at h3
   omega
 have h2 := (xfM rs (xaO f rs s).2).pos
 exact ⟨h1.1, by simp only; omega⟩
theorem xlv {f : PS → T × PS} {rs : List Int} (H : Good f rs) (hr : ∀ r ∈ rs, 0 ≤ r ∧ r ≤ 1114111) : ∀ n s l, (∀ t ∈ l, WFT t) → (∀ t ∈ (xc f rs n s l).1, WFT t) ∧ wF (F.ofL (xc f rs n s l).1) + 7 * s.pos ≤ wF (F.ofL l) + 7 * (xc f rs n s l).2.pos := by
 intro n
 induction n with
 | zero => intro s l h; exact ⟨h, Nat.le_refl _⟩
 | succ n ih =>
  intro s l h
  unfold xc
  split
  · have h1 := xgL H hr s
    have h2 := ih (xau f rs s).2 (l ++ [(xau f rs s).1]) (fun t ht => by
     rcases List.mem_append.1 ht with ht | ht
     · exact h t ht
     rw [List.mem_singleton] at ht; rw [ht]; exact h1.1)
    rw [xjz] at h2
    exact ⟨h2.1, by omega⟩
  exact ⟨h, Nat.le_refl _⟩
theorem xeg {f : PS → T × PS} {rs : List Int} (H : Good f rs) (hr : ∀ r ∈ rs, 0 ≤ r ∧ r ≤ 1114111) (s : PS) : WFT (xaw f rs s).1 ∧ wT (xaw f rs s).1 + 7 * s.pos ≤ 1 + 7 * (xaw f rs s).2.pos := by
 have h := xlv H hr (rs.length + 9) s [] (by simp)
 have h2 := xjy 4 (pcsR f rs s).1
 have e : wF (F.ofL []) = 0 := rfl
 rw [e] at h
 refine ⟨xjx (Or.inl rfl) h.1, ?_⟩
 have h3 := h.2
 show wT (xcc 4 (pcsR f rs s).1) + _ ≤ 1 + 7 * (pcsR f rs s).2.pos
 unfold pcsR at h2 ⊢
 omega
theorem xml {f : PS → T × PS} {rs : List Int} (H : Good f rs) (hr : ∀ r ∈ rs, 0 ≤ r ∧ r ≤ 1114111) : ∀ n s l, (∀ t ∈ l, WFT t) → (∀ t ∈ (xce f rs n s l).1, WFT t) ∧ wF (F.ofL (xce f rs n s l).1) + 7 * s.pos ≤ wF (F.ofL l) + 7 * (xce f rs n s l).2.pos := by
 intro n
 induction n with
 | zero => intro s l h; exact ⟨h, Nat.le_refl _⟩
 | succ n ih =>
  intro s l h
  unfold xce
  split
  · rename_i hq
    have h0 : (tk rs 124 s).pos = s.pos + 1 := by unfold tk; rw [if_pos hq]
    have h1 := xeg H hr (tk rs 124 s)
    have h2 := ih (xaw f rs (tk rs 124 s)).2 (l ++ [(xaw f rs (tk rs 124 s)).1]) (fun t ht => by
     rcases List.mem_append.1 ht with ht | ht
     · exact h t ht
     rw [List.mem_singleton] at ht; rw [ht]; exact h1.1)
    rw [xjz] at h2
    exact ⟨h2.1, by omega⟩
  exact ⟨h, Nat.le_refl _⟩
theorem xfh {f : PS → T × PS} {rs : List Int} (H : Good f rs) (hr : ∀ r ∈ rs, 0 ≤ r ∧ r ≤ 1114111) : Good (xeL f rs) rs := by
 refine ⟨xd4 H.go, fun s => ?_, fun s => ?_⟩
 all_goals
  have h1 := xeg H hr s
  have h2 := xml H hr (rs.length + 9) (xaw f rs s).2 [(xaw f rs s).1] (by simpa using h1.1)
 · exact xjx (Or.inr rfl) h2.1
 have h3 := xjy 5 (altR f rs s).1
 have h4 := h2.2
 rw [xcH] at h4
 have e : wF (F.ofL []) = 0 := rfl
 show wT (xcc 5 (altR f rs s).1) + _ ≤ 2 + 7 * (altR f rs s).2.pos
 unfold altR at h3 ⊢
 omega
theorem xkV {rs : List Int} (hr : ∀ r ∈ rs, 0 ≤ r ∧ r ≤ 1114111) : ∀ n, Good (alts rs n) rs := by
 intro n
 induction n with
 | zero => exact xfh (f := fun s => (xbh, s)) ⟨fun s => Go1.refl _ _, fun s => xgW, fun s => by simp [wT, xbh, wF]⟩ hr
 | succ n ih => exact xfh ih hr
theorem xiW (l : List UInt8) : WFT (xbw l).1 ∧ wT (xbw l).1 ≤ 2000 := by
 have hz : WFT xbh ∧ wT xbh ≤ 2000 := ⟨xgW, by simp [wT, xbh, wF]⟩
 unfold xbw
 by_cases hl : 200 < l.length
 · rw [if_pos hl]; exact hz
 rw [if_neg hl]
 cases hp : pts l with
 | none => exact hz
 | some rs =>
  simp only
  have hf := xgh hp
  unfold xe2
  split
  · exact hz
  rename_i h
  have h1 := xkV hf.2 11
  have h2 := h1.w ⟨0, 0, false⟩
  refine ⟨h1.wf _, ?_⟩
  have h3 : (alts rs 11 ⟨0, 0, false⟩).2.pos = rs.length := by
   by_cases hp : (alts rs 11 ⟨0, 0, false⟩).2.pos = rs.length
   · exact hp
   exact absurd (Or.inr hp) h
  rw [h3] at h2
  simp only at h2 ⊢
  omega
def WKn (t : T) : Prop := t.op = 0 ∨ t.op = 1 ∨ t.op = 2 ∨ t.op = 3 ∨ t.op = 4 ∨ (t.op = 5 ∧ 0 < t.kids.toL.length) ∨ (t.op = 6 ∧ (∃ k, t.kids.toL = [k]) ∧ (0 ≤ t.mn ∧ t.mn ≤ 1000) ∧ (-1 ≤ t.mx ∧ t.mx ≤ 1000) ∧ (t.mx < 0 ∨ t.mn ≤ t.mx))
inductive WK : T → Prop
 | mk {t : T} (h : WKn t) (hk : ∀ k ∈ t.kids.toL, WK k) : WK t
theorem xmp : ∀ (L : List T) (k : T), k ∈ L → wT k ≤ wF (F.ofL L)
 | [], _, h => by cases h
 | t :: L, k, h => by
  rw [xcH]
  rcases List.mem_cons.1 h with rfl | h
  · omega
  have := xmp L k h; omega
theorem xmq : ∀ (L : List T), L.length ≤ wF (F.ofL L)
 | [] => Nat.zero_le _
 | t :: L => by
  rw [xcH]
  have := xmq L
  simp only [List.length_cons]; unfold wT; omega
theorem WK.wg {t : T} (h : WK t) : wT t ≤ 4000 → WG t := by
 induction h with
 | @mk t h hk ih =>
  intro hw
  have e : wT t = 1 + t.set.length + wF (F.ofL t.kids.toL) := by rw [F.of_to]; rfl
  have hl := xmq t.kids.toL
  refine WG.mk ⟨⟨by omega, by omega⟩, h⟩ (fun i k hi => ?_)
  have hm := List.mem_of_getElem? hi
  have := xmp t.kids.toL k hm
  exact ih k hm (by omega)
theorem xb2 (t : T) (h : t.op = 0 ∨ t.op = 1 ∨ t.op = 2 ∨ t.op = 3) (hk : t.kids = .nil) : WK t :=
 WK.mk (by unfold WKn; rcases h with h | h | h | h <;> simp [h]) (fun k hm => by rw [hk] at hm; simp [F.toL] at hm)
theorem xjw {op : Int} (ho : op = 4 ∨ op = 5) {l : List T} (h : ∀ t ∈ l, WK t) : WK (xcc op l) := by
 rcases l with _ | ⟨t, _ | ⟨u, l⟩⟩
 · exact xb2 _ (Or.inl rfl) rfl
 · exact h t (by simp)
 refine WK.mk ?_ (fun k hk => by
  have e : (xcc op (t :: u :: l)).kids.toL = t :: u :: l := F.to_of _
  rw [e] at hk; exact h k hk)
 have e : (xcc op (t :: u :: l)).kids.toL = t :: u :: l := F.to_of _
 have eo : (xcc op (t :: u :: l)).op = op := rfl
 unfold WKn
 rw [e, eo]
 rcases ho with rfl | rfl
 · exact Or.inr (Or.inr (Or.inr (Or.inr (Or.inl rfl))))
 exact Or.inr (Or.inr (Or.inr (Or.inr (Or.inr (Or.inl ⟨rfl, by simp⟩)))))
theorem xk (rs : List Int) (s : PS) : 0 ≤ numN rs s ∧ numN rs s ≤ 99 := by
 unfold numN
 split
 · rename_i h
   simp only [dig, Bool.and_eq_true, decide_eq_true_eq] at h
   split
   · rename_i h2
     simp only [dig, Bool.and_eq_true, decide_eq_true_eq] at h2
     omega
   omega
 omega
theorem xb7 {rs : List Int} {s s' : PS} (h : Go1 rs s s') (hb : s'.bad = false) : s.bad = false := by
 cases hs : s.bad with
 | false => rfl
 | true => rw [h.bad hs] at hb; cases hb
structure xgV (f : PS → T × PS) (rs : List Int) : Prop where
 go : ∀ s, Go1 rs s (f s).2
 wk : ∀ s, (f s).2.bad = false → WK (f s).1
theorem xkT {f : PS → T × PS} {rs : List Int} (H : xgV f rs) (s : PS) (hb : (xaO f rs s).2.bad = false) : WK (xaO f rs s).1 := by
 unfold xaO at hb ⊢
 by_cases h1 : pk rs s = 40
 · rw [if_pos h1] at hb ⊢
   exact H.wk _ (xb7 (xfR rs 41 _ (by omega)) hb)
 rw [if_neg h1] at hb ⊢
 by_cases h2 : pk rs s = 94
 · rw [if_pos h2]; exact xb2 _ (Or.inr (Or.inr (Or.inl rfl))) rfl
 rw [if_neg h2]
 by_cases h3 : pk rs s = 36
 · rw [if_pos h3]; exact xb2 _ (Or.inr (Or.inr (Or.inr rfl))) rfl
 rw [if_neg h3]
 by_cases h4 : pk rs s = 46
 · rw [if_pos h4]; exact xb2 _ (Or.inr (Or.inl rfl)) rfl
 rw [if_neg h4]
 by_cases h5 : pk rs s = 91
 · rw [if_pos h5]; exact xb2 _ (Or.inr (Or.inl rfl)) rfl
 rw [if_neg h5]
 by_cases h6 : pk rs s = 92
 · rw [if_pos h6]; exact xb2 _ (Or.inr (Or.inl rfl)) rfl
 rw [if_neg h6]; exact xb2 _ (Or.inr (Or.inl rfl)) rfl
theorem br_ok (rs : List Int) (s : PS) (hb : (brS rs s).bad = false) : (0 ≤ brA rs s ∧ brA rs s ≤ 1000) ∧ (-1 ≤ brB rs s ∧ brB rs s ≤ 1000) ∧ (brB rs s < 0 ∨ brA rs s ≤ brB rs s) := by
 have h1 := xk rs s
 have h2 := xk rs (br3 rs s)
 unfold brS at hb
 unfold brA brB
 by_cases e1 : pk rs (numS rs s) = 44
 · rw [if_pos e1] at hb ⊢
   by_cases e2 : pk rs (br3 rs s) = 125
   · rw [if_pos e2]; omega
   rw [if_neg e2] at hb ⊢
   have := xb7 (xfR rs 125 _ (by omega)) hb
   simp only [Bool.or_eq_false_iff, decide_eq_false_iff_not] at this
   omega
 rw [if_neg e1]; omega
theorem cnt_ok (rs : List Int) (s : PS) (hb : (cntS rs s).bad = false) (h : (cntV rs s).2.2 = true) : (0 ≤ (cntV rs s).1 ∧ (cntV rs s).1 ≤ 1000) ∧ (-1 ≤ (cntV rs s).2.1 ∧ (cntV rs s).2.1 ≤ 1000) ∧ ((cntV rs s).2.1 < 0 ∨ (cntV rs s).1 ≤ (cntV rs s).2.1) := by
 unfold cntS at hb
 unfold cntV at h ⊢
 by_cases h1 : pk rs s = 63
 · rw [if_pos h1]; simp
 rw [if_neg h1] at h ⊢
 by_cases h2 : pk rs s = 43
 · rw [if_pos h2]; simp
 rw [if_neg h2] at h ⊢
 by_cases h3 : pk rs s = 42
 · rw [if_pos h3]; simp
 rw [if_neg h3] at h ⊢
 by_cases h4 : pk rs s = 123
 · rw [if_pos h4]
   rw [if_neg (by omega), if_pos h4] at hb
   exact br_ok rs _ hb
 rw [if_neg h4] at h; cases h
theorem xjh {f : PS → T × PS} {rs : List Int} (H : xgV f rs) (s : PS) (hb : (xau f rs s).2.bad = false) : WK (xau f rs s).1 := by
 unfold xau at hb ⊢
 by_cases h : (cntV rs (xaO f rs s).2).2.2 = true
 · rw [if_pos h] at hb ⊢
   simp only [Bool.or_eq_false_iff] at hb
   have ha := xkT H s (xb7 (xfM rs _) hb.1)
   have hc := cnt_ok rs _ hb.1 h
   refine WK.mk ?_ (fun k hk => by rw [F.to_of] at hk; obtain rfl : k = (xaO f rs s).1 := (by simpa using hk); exact ha)
   exact Or.inr (Or.inr (Or.inr (Or.inr (Or.inr (Or.inr ⟨rfl, ⟨_, F.to_of _⟩, hc⟩)))))
 rw [if_neg h] at hb ⊢
 exact xkT H s (xb7 (xfM rs _) hb)
theorem pcs_wk {f : PS → T × PS} {rs : List Int} (H : xgV f rs) : ∀ n s l, (xc f rs n s l).2.bad = false → (∀ t ∈ l, WK t) → ∀ t ∈ (xc f rs n s l).1, WK t := by
 intro n
 induction n with
 | zero => exact fun s l _ h => h
 | succ n ih =>
  intro s l hb h
  unfold xc at hb ⊢
  by_cases hp : isPc (pk rs s) = true
  · rw [if_pos hp] at hb ⊢
    have h1 := xb7 (xh0 H.go n (xau f rs s).2 _) hb
    exact ih _ _ hb (fun t ht => by
     rcases List.mem_append.1 ht with ht | ht
     · exact h t ht
     obtain rfl := List.mem_singleton.1 ht
     exact xjh H s h1)
  rw [if_neg hp]; exact h
theorem xgk {f : PS → T × PS} {rs : List Int} (H : xgV f rs) (s : PS) (hb : (xaw f rs s).2.bad = false) : WK (xaw f rs s).1 :=
 xjw (Or.inl rfl) (pcs_wk H _ s [] hb (by simp))
theorem alt_wk {f : PS → T × PS} {rs : List Int} (H : xgV f rs) : ∀ n s l, (xce f rs n s l).2.bad = false → (∀ t ∈ l, WK t) → ∀ t ∈ (xce f rs n s l).1, WK t := by
 intro n
 induction n with
 | zero => exact fun s l _ h => h
 | succ n ih =>
  intro s l hb h
  unfold xce at hb ⊢
  by_cases hp : pk rs s = 124
  · rw [if_pos hp] at hb ⊢
    have h1 := xb7 (xfP H.go n (xaw f rs (tk rs 124 s)).2 _) hb
    exact ih _ _ hb (fun t ht => by
     rcases List.mem_append.1 ht with ht | ht
     · exact h t ht
     obtain rfl := List.mem_singleton.1 ht
     exact xgk H _ h1)
  rw [if_neg hp]; exact h
theorem xip {f : PS → T × PS} {rs : List Int} (H : xgV f rs) : xgV (xeL f rs) rs := by
 refine ⟨xd4 H.go, fun s hb => ?_⟩
 have h1 := xb7 (xfP H.go (rs.length + 9) (xaw f rs s).2 [(xaw f rs s).1]) hb
 exact xjw (Or.inr rfl) (alt_wk H _ _ _ hb (fun t ht => by obtain rfl := List.mem_singleton.1 ht; exact xgk H s h1))
theorem alts_wk (rs : List Int) : ∀ n, xgV (alts rs n) rs := by
 intro n
 induction n with
 | zero => exact xip (f := fun s => (xbh, s)) ⟨fun s => Go1.refl _ _, fun s _ => xb2 _ (Or.inl rfl) rfl⟩
 | succ n ih => exact xip ih
theorem xh1 (l : List UInt8) : WG (xbw l).1 := by
 refine WK.wg ?_ (Nat.le_trans (xiW l).2 (by omega))
 have hz : WK xbh := xb2 _ (Or.inl rfl) rfl
 unfold xbw
 by_cases hl : 200 < l.length
 · rw [if_pos hl]; exact hz
 rw [if_neg hl]
 cases hp : pts l with
 | none => exact hz
 | some rs =>
  simp only
  unfold xe2
  split
  · exact hz
  rename_i h
  exact (alts_wk rs 11).wk _ (by
   cases hb : (alts rs 11 ⟨0, 0, false⟩).2.bad with
   | false => rfl
   | true => exact absurd (Or.inl hb) h)
structure xcW (w : World) (P : Nat → Prop) (eb : Nat) (pv : Value) (is : List Ins) (r : List UInt8 × Bool) : Prop where
 bk : w.heap[eb]? = some (.cells #[pv, .string ⟨r.1.toArray⟩, .bool r.2] 79 (0, 0))
 pg : PgAt w P pv is
theorem xcW.keepsTo {S P Q : Nat → Prop} {w w' : World} {eb : Nat} {pv : Value} {is : List Ins} {r : List UInt8 × Bool} (h : xcW w P eb pv is r) (K : xaa S w w') (hs : ∀ b, P b → ¬ S b) (hq : ∀ b, P b → Q b) (he : ¬ S eb) : xcW w' Q eb pv is r :=
 ⟨K.heap h.bk he, h.pg.keepsTo K hs hq⟩
theorem xcW.lt {w : World} {P : Nat → Prop} {eb : Nat} {pv : Value} {is : List Ins} {r : List UInt8 × Bool} (h : xcW w P eb pv is r) : eb < w.heap.size := (Array.getElem?_eq_some_iff.1 h.bk).1
theorem xcW.cells {w : World} {P : Nat → Prop} {eb : Nat} {pv : Value} {is : List Ins} {r : List UInt8 × Bool} (h : xcW w P eb pv is r) : w.cell? ⟨eb, 0, none⟩ = some pv ∧ w.cell? ⟨eb, 1, none⟩ = some (.string ⟨r.1.toArray⟩) ∧ w.cell? ⟨eb, 2, none⟩ = some (.bool r.2) :=
 ⟨by rw [Lib.cell_of_heap h.bk]; rfl, by rw [Lib.cell_of_heap h.bk]; rfl, by rw [Lib.cell_of_heap h.bk]; rfl⟩
def xk7 (w : World) (is : List Ins) (r : List UInt8 × Bool) (e : Ending) (w' : World) : Prop :=
 ∃ eb pv, e = .returned (.tuple #[.pointer (some ⟨eb, 0, none⟩), .int .i64 0]) ∧ xcW w' (fun b => b < w'.heap.size) eb pv is r ∧ xaa (fun _ => False) w w'
theorem eng_set (w : World) (eb : Nat) (pv u v : Value) (h : w.heap[eb]? = some (.cells #[pv, .string ⟨#[]⟩, .bool false] 79 (0, 0))) : ((w.setCell ⟨eb, 1, none⟩ u).setCell ⟨eb, 2, none⟩ v).heap[eb]? = some (.cells #[pv, u, v] 79 (0, 0)) := by
 simp [World.setCell, Array.getElem?_modify, h]
set_option maxHeartbeats 4000000 in
theorem xdO (l : List UInt8) (t : T) (n : Nat) (is : List Ins) (r : List UInt8 × Bool) (hpar : xbw l = (t, 0)) (hlen : LenC t n) (hn : n < 2000) (hN : NodeE t is) (his : is.length ≤ 2500) (hpre : PreC t r) (w : World) (hm : l.length ≤ 9223372036854775807) :
 Calls Tryz.prog 21 #[.string ⟨l.toArray⟩] w fun e w' => xk7 w (is ++ [mI]) r e w' := by
 have HP := xmA (fun W => xej l W hm)
 rw [hpar] at HP
 have HC0 := xmA (fun P v W ht => xhF t n is hlen hn hN his P v W ht)
 generalize is ++ [mI] = js at HC0 ⊢
 clear hN hlen
 go_enter Tryz.func21, Tryz.ntmps21
 go_wp2_with fail
 refine (HP.out _).mono ?_
 rintro e w2 ⟨v, rfl, hv, k2⟩
 obtain ⟨o, a1, n1, c1, m, x, a2, n2, cc2, rfl⟩ := NV.form hv
 have HC := xmA (fun W (K : xaa (fun _ => False) w2 W) => HC0.out (fun _ => True) _ W (hv.keepsTo K (fun _ _ => id) (fun _ _ => trivial)))
 have HR := xmA (fun W (K : xaa (fun _ => False) w2 W) => hpre (fun _ => True) _ W (hv.keepsTo K (fun _ _ => id) (fun _ _ => trivial)))
 have K2 := xmA k2
 clear hv k2 HP
 unfold NV.val at HC HR ⊢
 go_wp2_with fail
 refine (HC.out _ (KI.out)).mono ?_
 rintro e w3 ⟨pv, rfl, hpg, k3⟩
 have z0 : w3.cell? ⟨w2.heap.size, 0, none⟩ = some (.int .i64 o) := k3.cell (by simp [go_sem]) id
 have z1 : w3.cell? ⟨w2.heap.size, 1, none⟩ = some (.slice a1 n1 c1) := k3.cell (by simp [go_sem]) id
 have z2 : w3.cell? ⟨w2.heap.size, 2, none⟩ = some (.int .i64 m) := k3.cell (by simp [go_sem]) id
 have z3 : w3.cell? ⟨w2.heap.size, 3, none⟩ = some (.int .i64 x) := k3.cell (by simp [go_sem]) id
 have z4 : w3.cell? ⟨w2.heap.size, 4, none⟩ = some (.slice a2 n2 cc2) := k3.cell (by simp [go_sem]) id
 have K23 : Hid (xaa (fun _ => False) w2 w3) := xmA (xaa.trans (KI.out) k3)
 have HPg := xmA hpg
 obtain ⟨pa, pc, rfl⟩ := hpg.form
 have y0 := xaj z0 (.cells #[.slice pa js.length pc, .string ⟨#[]⟩, .bool false] 79)
 have y1 := xaj z1 (.cells #[.slice pa js.length pc, .string ⟨#[]⟩, .bool false] 79)
 have y2 := xaj z2 (.cells #[.slice pa js.length pc, .string ⟨#[]⟩, .bool false] 79)
 have y3 := xaj z3 (.cells #[.slice pa js.length pc, .string ⟨#[]⟩, .bool false] 79)
 have y4 := xaj z4 (.cells #[.slice pa js.length pc, .string ⟨#[]⟩, .bool false] 79)
 clear k3 hpg HC
 go_wp2_with fail
 refine (HR.out _ (K23.out.trans (KI.out))).mono ?_
 rintro e w4 ⟨rfl, k4⟩
 have hb4 : w4.heap[w3.heap.size]? = some (.cells #[.slice pa js.length pc, .string ⟨#[]⟩, .bool false] 79 (0, 0)) := by
  rw [k4.block _ (by simp) id]; exact heap_alloc_new w3 _
 have c1' : w4.cell? ⟨w3.heap.size, 1, none⟩ = some (.string ⟨#[]⟩) := by rw [Lib.cell_of_heap hb4]; rfl
 have c2' : w4.cell? ⟨w3.heap.size, 2, none⟩ = some (.bool false) := by rw [Lib.cell_of_heap hb4]; rfl
 have f1 : w4.frozen? ⟨w3.heap.size, 1, none⟩ = false := Lib.frozen_of_heap hb4 1
 have f2 : w4.frozen? ⟨w3.heap.size, 2, none⟩ = false := Lib.frozen_of_heap hb4 2
 have hE := eng_set w4 w3.heap.size _ (.string ⟨r.1.toArray⟩) (.bool r.2) hb4
 have k34 : xaa (fun _ => False) w3 w4 := xaa.trans (KI.out) k4
 have KS : xaa (fun b => b = w3.heap.size) w4 ((w4.setCell ⟨w3.heap.size, 1, none⟩ (.string ⟨r.1.toArray⟩)).setCell ⟨w3.heap.size, 2, none⟩ (.bool r.2)) := ((xaa.refl (fun b => b = w3.heap.size) w4).set (p := ⟨w3.heap.size, 1, none⟩) rfl _).set (p := ⟨w3.heap.size, 2, none⟩) rfl _
 have HE := xmA hE
 have KE := xmA (((K2.out.trans K23.out).trans k34).trans2 KS (fun b hb e => by have := (K2.out.trans K23.out).size; omega))
 have KS' := xmA (k34.trans2 KS (fun b hb e => by omega))
 clear k4 hb4 hE k34 KS
 unfold strL
 go_wp2_with fail
 go_ret2
 refine ⟨_, _, rfl, ⟨HE.out, HPg.out.keepsTo KS'.out (fun _ _ => id) (fun b hb => Nat.lt_of_lt_of_le hb.2 KS'.out.size)⟩, KE.out⟩
def EErrE (c : Int) (w : World) (e : Ending) (w' : World) : Prop := e = .returned (.tuple #[.pointer none, .int .i64 c]) ∧ xaa (fun _ => False) w w'
set_option maxHeartbeats 4000000 in
theorem xfI (l : List UInt8) (t : T) (c : Int) (hpar : xbw l = (t, c)) (hc : c ≠ 0) (w : World) (hm : l.length ≤ 9223372036854775807) :
 Calls Tryz.prog 21 #[.string ⟨l.toArray⟩] w (EErrE c w) := by
 have HP := xmA (fun W => xej l W hm)
 rw [hpar] at HP
 have g0 : (c != 0) = true := by simp [hc]
 go_enter Tryz.func21, Tryz.ntmps21
 go_wp2_with fail
 refine (HP.out _).mono ?_
 rintro e w2 ⟨v, rfl, hv, k2⟩
 obtain ⟨o, a1, n1, c1, m, x, a2, n2, cc2, rfl⟩ := NV.form hv
 have K2 := xmA k2
 clear hv k2 HP
 unfold NV.val
 go_wp2_with fail
 go_ret2
 exact ⟨rfl, xaa.trans K2.out (KI.out)⟩
set_option maxHeartbeats 4000000 in
theorem xgI (l : List UInt8) (t : T) (n : Nat) (hpar : xbw l = (t, 0)) (hlen : LenG t n) (hn : 2000 ≤ n) (w : World) (hm : l.length ≤ 9223372036854775807) :
 Calls Tryz.prog 21 #[.string ⟨l.toArray⟩] w (EErrE 16 w) := by
 have HP := xmA (fun W => xej l W hm)
 rw [hpar] at HP
 have HC0 := xmA (fun P v W ht => xhE t n hlen hn P v W ht)
 clear hlen
 go_enter Tryz.func21, Tryz.ntmps21
 go_wp2_with fail
 refine (HP.out _).mono ?_
 rintro e w2 ⟨v, rfl, hv, k2⟩
 obtain ⟨o, a1, n1, c1, m, x, a2, n2, cc2, rfl⟩ := NV.form hv
 have HC := xmA (fun W (K : xaa (fun _ => False) w2 W) => HC0.out (fun _ => True) _ W (hv.keepsTo K (fun _ _ => id) (fun _ _ => trivial)))
 have K2 := xmA k2
 clear hv k2 HP
 unfold NV.val at HC ⊢
 go_wp2_with fail
 refine (HC.out _ (KI.out)).mono ?_
 rintro e w3 ⟨rfl, k3⟩
 have K3 := xmA (xaa.trans K2.out (xaa.trans (KI.out) k3))
 clear k3 HC
 go_wp2_with fail
 go_ret2
 exact ⟨rfl, K3.out⟩
theorem xgJ (l : List UInt8) (hm : l.length ≤ 9223372036854775807) :
 (∃ c : Int, c ≠ 0 ∧ ∀ w, Calls Tryz.prog 21 #[.string ⟨l.toArray⟩] w (EErrE c w)) ∨
 (∃ (is : List Ins) (r : List UInt8 × Bool), (0 < is.length ∧ is.length ≤ 2001) ∧ r.1.length ≤ 200 ∧ (∀ (k : Nat) (i : Ins), is[k]? = some i → okI is.length i) ∧ ∀ w, Calls Tryz.prog 21 #[.string ⟨l.toArray⟩] w fun e w' => xk7 w is r e w') := by
 obtain ⟨⟨t, c⟩, hp⟩ : ∃ p, xbw l = p := ⟨_, rfl⟩
 have hW := xh1 l
 rw [hp] at hW
 by_cases hc : c = 0
 · subst hc
   obtain ⟨cd, n, hN, hL⟩ := xk8 hW
   obtain ⟨r, hr, hr2⟩ := pre_all hW
   by_cases hn : n < 2000
   · refine Or.inr ⟨cd 0 ++ [mI], r, ⟨by simp, ?_⟩, hr2, xjX hN, fun w => xdO l t n (cd 0) r hp (hL.exact hn) hn (hN.empty (by omega)) ?_ hr w hm⟩
     · have := hN.len 0; simp; omega
     have := hN.len 0; omega
   exact Or.inl ⟨16, by decide, fun w => xgI l t n hp hL (by omega) w hm⟩
 exact Or.inl ⟨c, hc, fun w => xfI l t c hp hc w hm⟩
def SoR (l : List UInt8) (X : Nat) (w1 : World) (bv : Value) (wr : World) : Prop := ∃ rest, BS X wr bv rest ∧ rest.length ≤ l.length ∧ (pts rest).isSome = (pts l).isSome ∧ w1 = wr
set_option maxHeartbeats 4000000 in
theorem xjF (l : List UInt8) (w : World) (hl : l.length ≤ 100000) :
 Calls Tryz.prog 76 #[.string ⟨l.toArray⟩] w fun e w' => e = .returned (.bool (pts l).isSome) ∧ xaa (fun _ => False) w w' := by
 have Hs : Hid ((⟨l.toArray⟩ : ByteArray).data.toList = l) := rfl
 have Hz : Hid ((⟨l.toArray⟩ : ByteArray).size = l.length) := by show l.toArray.size = _; simp
 generalize (⟨l.toArray⟩ : ByteArray) = s at *
 go_enter Tryz.func76, Tryz.ntmps76
 have hconv := fun W => Lib.run_convert_string_bytes (P := Tryz.prog) W 9 22 5 s Tryz.underlying9 Tryz.underlying22 Tryz.underlying5
 go_wp2_with fail
 clear hconv
 have hW0 : xaa (fun _ => False) w (Lib.bytesWorld w 5 s) := ⟨rfl, rfl, rfl, by rw [Lib.bytesWorld_size]; omega, fun k hk _ => Lib.bytesWorld_at_old w 5 s k hk⟩
 have hX0 : ∀ j x, l[j]? = some x → (Lib.bytesWorld w 5 s).cell? ⟨w.heap.size, 0 + j, none⟩ = some (.int .u8 (x.toNat : Int)) := fun j x hx => by
  have hj : j < l.length := (List.getElem?_eq_some_iff.1 hx).1
  have := Lib.bytesWorld_cell w 5 s j (by rw [Hz.out]; exact hj)
  rw [Hs.out, List.getD_eq_getElem?_getD, hx] at this
  rw [Nat.zero_add]; exact this
 have hcp := grownCap_ge w s.size 0 5
 have hcp2 := grownCap_le_maxLen w s.size 0 5 (by rw [Hz.out]; unfold maxLen; omega)
 generalize grownCap w s.size 0 5 = cp at *
 generalize Lib.bytesWorld w 5 s = w1 at *
 unfold maxLen at hcp2
 rw [Hz.out] at hcp ⊢
 have hB0 : BS w.heap.size w1 (.slice (some ⟨w.heap.size, 0, none⟩) l.length cp) l := ⟨_, cp, rfl, hcp, fun _ => ⟨0, rfl, hX0⟩⟩
 have KW := xmA hW0
 clear hX0 Hs Hz hW0
 go_loopw [3] (fun bv wr => SoR l w.heap.size w1 bv wr) (fun bv _ => xaR bv)
 case atStart => exact ⟨l, hB0, Nat.le_refl _, rfl, rfl⟩
 case round =>
  clear hB0
  obtain ⟨rest, hB, hlen, hp, rfl⟩ := hrel
  have HB := xmA hB
  obtain ⟨a, cap, rfl, hcap, hcell⟩ := hB
  have Hp := xmA hp
  clear hp
  cases rest with
  | nil =>
   have E : Hid (true = (pts l).isSome) := xmA (by rw [← Hp.out]; rfl)
   clear hcell Hp
   go_wp2_with fail
   go_ret
   exact ⟨by rw [← E.out]; rfl, KW.out⟩
  | cons c t =>
   obtain ⟨off, rfl, hcc⟩ := hcell (by simp)
   have HC := xmA hcc
   have hp1 := (xbS c t).1
   have hp2 := xet c t
   have E : Hid ((pts l).isSome = (if sizP (getP (c :: t)).1 = ((getP (c :: t)).2 : Int) then (pts ((c :: t).drop (getP (c :: t)).2)).map ((getP (c :: t)).1 :: ·) else none).isSome) := xmA (by rw [← Hp.out, xlq])
   have HG := xmA (xcD w.heap.size off cap (t.length + 1) c t w1 rfl (by simpa using hcap) hcc)
   clear hcc hcell Hp
   generalize getP (c :: t) = G at *
   obtain ⟨r, n⟩ := G
   simp only at hp1 hp2 E HG
   have HS := xmA (fun W => xbl r W)
   have hlc : (c :: t).length = t.length + 1 := rfl
   simp only [List.length_cons] at hcap hlen hlc
   by_cases hs : sizP r = n
   · have E2 : Hid ((pts ((c :: t).drop n)).isSome = (pts l).isSome) := xmA (by rw [E.out, if_pos hs, Option.isSome_map])
     rw [hs] at HS
     have hdl : ((c :: t).drop n).length = t.length + 1 - n := by simp
     have hdc : ∀ i x, ((c :: t).drop n)[i]? = some x → w1.cell? ⟨w.heap.size, off + n + i, none⟩ = some (.int .u8 (x.toNat : Int)) := fun i x hx => by
      rw [List.getElem?_drop] at hx
      rw [Nat.add_assoc]; exact HC.out (n + i) x hx
     have Hdl := xmA hdl
     have Hdc := xmA hdc
     clear hs E hdl hdc
     generalize (c :: t).drop n = rest' at *
     have hgo : ∀ (o' : Nat), (n < cap → o' = off + n) → SoR l w.heap.size w1 (.slice (some ⟨w.heap.size, o', none⟩) (t.length + 1 - n) (cap - n)) w1 := by
      intro o' h4
      refine ⟨rest', ⟨some ⟨w.heap.size, o', none⟩, cap - n, by rw [Hdl.out], by rw [Hdl.out]; omega, fun hne => ?_⟩, by rw [Hdl.out]; omega, E2.out, rfl⟩
      have h5 : 0 < rest'.length := List.length_pos_iff.2 hne
      rw [Hdl.out] at h5
      refine ⟨o', rfl, fun i x hx => ?_⟩
      rw [h4 (by omega)]
      exact Hdc.out i x hx
     have HGo := xmA hgo
     clear hgo
     by_cases hcn : cap = n
     · subst hcn
       go_wp2_with fail
       refine HG.out.mono ?_
       rintro e w2 ⟨rfl, rfl⟩
       go_wp2_with fail
       refine (HS.out _).mono ?_
       rintro e w2 ⟨rfl, rfl⟩
       go_wp2_with fail
       go_roundw
       case rel => first | exact HGo.out _ (fun h => by first | rfl | omega) | (have h9 := HGo.out off (fun h => by omega); rw [show t.length + 1 - cap = 0 by omega, Nat.sub_self] at h9; exact h9)
       case measure => first | (simp [xaR]; done) | (simp [xaR]; omega)
     have hcn2 : n < cap := by omega
     go_wp2_with fail
     refine HG.out.mono ?_
     rintro e w2 ⟨rfl, rfl⟩
     go_wp2_with fail
     refine (HS.out _).mono ?_
     rintro e w2 ⟨rfl, rfl⟩
     go_wp2_with fail
     go_roundw
     case rel => first | exact HGo.out _ (fun h => by first | rfl | omega) | (have h9 := HGo.out off (fun h => by omega); rw [show t.length + 1 - cap = 0 by omega, Nat.sub_self] at h9; exact h9)
     case measure => first | (simp [xaR]; done) | (simp [xaR]; omega)
   have E2 : Hid (false = (pts l).isSome) := xmA (by rw [E.out, if_neg hs]; rfl)
   have g1 : (sizP r != (n : Int)) = true := by simp only [bne_iff_ne, ne_eq]; exact hs
   clear hs E
   generalize sizP r = sz at *
   go_wp2_with fail
   refine HG.out.mono ?_
   rintro e w2 ⟨rfl, rfl⟩
   go_wp2_with fail
   refine (HS.out _).mono ?_
   rintro e w2 ⟨rfl, rfl⟩
   go_wp2_with fail
   go_ret
   exact ⟨by rw [← E2.out]; rfl, KW.out⟩
def xbK (l : List UInt8) : Bool := l.all fun c => decide (c.toNat < 128)
def PlnR (l : List UInt8) (w : World) (iv : Value) (wr : World) : Prop := ∃ i : Nat, iv = .int .i64 i ∧ i ≤ l.length ∧ xbK (l.drop i) = xbK l ∧ w = wr
set_option maxHeartbeats 4000000 in
theorem xfc (l : List UInt8) (w : World) (hl : l.length ≤ 100000) :
 Calls Tryz.prog 44 #[.string ⟨l.toArray⟩] w fun e w' => e = .returned (.bool (xbK l)) ∧ w = w' := by
 go_enter Tryz.func44, Tryz.ntmps44
 go_wp2_with fail
 go_loopw [6] (fun iv wr => PlnR l w iv wr) (fun iv _ => l.length - (intOf iv).toNat)
 case atStart => exact ⟨0, rfl, Nat.zero_le _, rfl, rfl⟩
 case round =>
  obtain ⟨i, rfl, hi, hp, rfl⟩ := hrel
  have Hp := xmA hp
  clear hp
  by_cases hil : i < l.length
  · obtain ⟨c, hc⟩ : ∃ c, l[i]? = some c := ⟨_, List.getElem?_eq_getElem hil⟩
    have hx := idxC hc
    have hdr : l.drop i = c :: l.drop (i + 1) := by
     obtain ⟨h1, h2⟩ := List.getElem?_eq_some_iff.1 hc
     rw [List.drop_eq_getElem_cons h1, h2]
    have E : Hid (xbK l = (decide (c.toNat < 128) && xbK (l.drop (i + 1)))) := xmA (by rw [← Hp.out, hdr]; rfl)
    have hc1 := c.toNat_lt
    clear hdr hc
    by_cases hcl : c.toNat < 128
    · have g1 : decide ((128 : Int) ≤ (c.toNat : Int)) = false := by simp; omega
      have E2 : Hid (xbK (l.drop (i + 1)) = xbK l) := xmA (by rw [E.out]; simp [hcl])
      go_wp2_with fail
      go_roundw
      case rel => exact ⟨i + 1, by go_num, by omega, E2.out, rfl⟩
      case measure => simp [intOf]; omega
    have g1 : decide ((128 : Int) ≤ (c.toNat : Int)) = true := by simp; omega
    have E2 : Hid (false = xbK l) := xmA (by rw [E.out]; simp [hcl])
    go_wp2_with fail
    go_ret
    exact ⟨by rw [← E2.out]; rfl, rfl⟩
  obtain rfl : i = l.length := by omega
  have E2 : Hid (true = xbK l) := xmA (by rw [← Hp.out, List.drop_length]; rfl)
  go_wp2_with fail
  go_ret
  exact ⟨by rw [← E2.out]; rfl, rfl⟩
def HopE (pre tx : List UInt8) (w : World) (e : Ending) (w' : World) : Prop := (∃ z : Int, (pre ≠ [] → xdm (mtL pre tx) tx.length 0 z) ∧ e = .returned (.bool (!pre.isEmpty && (decide (z < 0) && (pts tx).isSome)))) ∧ xaa (fun _ => False) w w'
set_option maxHeartbeats 4000000 in
theorem xco (eb : Nat) (P : Nat → Prop) (pv : Value) (is : List Ins) (r : List UInt8 × Bool) (tx : List UInt8) (w : World) (h : xcW w P eb pv is r) (hr : r.1.length ≤ 1000) (htx : tx.length ≤ 1000) :
 Calls Tryz.prog 43 #[.pointer (some ⟨eb, 0, none⟩), .string ⟨tx.toArray⟩] w fun e w' => HopE r.1 tx w e w' := by
 obtain ⟨c0, c1, c2⟩ := h.cells
 have HI := xmA (fun W => xgD r.1 tx 0 W hr htx (by omega))
 have HS := xmA (fun W => xjF tx W (by omega))
 clear h
 obtain ⟨pre, wh⟩ := r
 simp only at c0 c1 c2 HI ⊢
 by_cases h0 : pre = []
 · subst h0
   clear HI HS
   go_enter Tryz.func43, Tryz.ntmps43
   go_wp2_with fail
   go_ret
   exact ⟨⟨0, fun h => absurd rfl h, rfl⟩, xaa.refl _ _⟩
 have hne : pre.isEmpty = false := by cases pre <;> simp_all
 have Hne := xmA hne
 have H0 := xmA h0
 clear h0
 go_enter Tryz.func43, Tryz.ntmps43
 go_wp2_with fail
 refine (HI.out _).mono ?_
 rintro e w2 ⟨z, rfl, hz, k2⟩
 have HZ := xmA hz
 have K2 := xmA k2
 clear hz k2
 by_cases hz0 : z < 0
 · have g1 : decide (z < 0) = true := by simpa using hz0
   go_wp2_with fail
   refine (HS.out _).mono ?_
   rintro e w3 ⟨rfl, k3⟩
   have K3 := xmA (K2.out.trans k3)
   clear k3
   go_wp2_with fail
   go_ret
   exact ⟨⟨z, fun _ => HZ.out, by simp [Hne.out, g1]⟩, K3.out⟩
 have g1 : decide (z < 0) = false := by simpa using hz0
 go_wp2_with fail
 go_ret
 exact ⟨⟨z, fun _ => HZ.out, by simp [g1]⟩, K2.out⟩
end Go.Proofs.YtjahiihmoglpfaaGreatDoor
