/-
  The walks on sets once more, each as a reading; and the plain laws that the laws on sets want.
-/
import Derived.Test.YtibfioekmpnkgaaSetLaw
namespace Go.Proofs.Ytibfioekmpnkgaa
open Go.RowKit
set_option linter.unusedVariables false
set_option linter.unusedSimpArgs false

def Gets (P : List (Int × Int) → Prop) (b : Nat) (w : World) (e : Ending) (w' : World) : Prop :=
  ∃ u out, e = .returned u ∧ P out ∧ RSl w' u out ∧ out.length ≤ b ∧ Keeps (fun _ => False) w w'
theorem of_r {w0 w : World} (l : List (Int × Int)) (v : Value) (h : RSl w0 v l) (k : Keeps (fun _ => False) w0 w) (b : Nat) (hl : l.length ≤ b) (hb : b ≤ 1000) : Calls Try.prog 25 #[v] w (Gets (IsOf l) b w) :=
  (of_walk l v w (h.keep k) (by omega)).mono fun e w' ⟨u, out, he, hi, ho, hn⟩ => ⟨u, out, he, hi, ho.read (by omega) (norm64 hi.1), by omega, ho.2⟩
theorem not_r {w0 w : World} (l : List (Int × Int)) (v : Value) (h : RSl w0 v l) (k : Keeps (fun _ => False) w0 w) (b : Nat) (hl : l.length ≤ b) (hb : b ≤ 1000) : Calls Try.prog 34 #[v] w (Gets (IsNot l) (b + 1) w) :=
  (not_any l v w (h.keep k) (by omega)).mono fun e w' ⟨u, out, he, hi, ho, hn⟩ => ⟨u, out, he, hi, ho.read (by omega) (norm64 hi.1), by omega, ho.2⟩
theorem or_r {w0 w1 w : World} (l m : List (Int × Int)) (v u : Value) (h : RSl w0 v l) (k : Keeps (fun _ => False) w0 w) (g : RSl w1 u m) (j : Keeps (fun _ => False) w1 w) (b c : Nat) (hl : l.length ≤ b) (hm : m.length ≤ c) (hb : b ≤ 1000) (hc : c ≤ 1000) : Calls Try.prog 37 #[v, u] w (Gets (IsOr l m) (b + c) w) :=
  (or_any l m v u w (h.keep k) (g.keep j) (by omega) (by omega)).mono fun e w' ⟨u, out, he, hi, ho, hn⟩ => ⟨u, out, he, hi, ho.read (by omega) (norm64 hi.1), by omega, ho.2⟩
theorem and_r {w0 w1 w : World} (l m : List (Int × Int)) (v u : Value) (h : RSl w0 v l) (k : Keeps (fun _ => False) w0 w) (g : RSl w1 u m) (j : Keeps (fun _ => False) w1 w) (b c : Nat) (hl : l.length ≤ b) (hm : m.length ≤ c) (hb : b ≤ 1000) (hc : c ≤ 1000) : Calls Try.prog 38 #[v, u] w (Gets (IsAnd l m) (b + c + 3) w) :=
  (and_any l m v u w (h.keep k) (g.keep j) (by omega) (by omega)).mono fun e w' ⟨u, out, he, hi, ho, hn⟩ => ⟨u, out, he, hi, ho.read (by omega) (norm64 hi.1), by omega, ho.2⟩
theorem same_r {w0 w1 w : World} (l : List (Int × Int)) (v u : Value) (h : RSl w0 v l) (k : Keeps (fun _ => False) w0 w) (m : List (Int × Int)) (g : RSl w1 u m) (j : Keeps (fun _ => False) w1 w) (he : l = m) : Calls Try.prog 28 #[v, u] w fun e w' => e = .returned (.bool true) ∧ Keeps (fun _ => False) w w' := by
  subst he
  exact (refSame_any l l v u w (h.keep k) (g.keep j)).mono fun e w' ⟨a, n, b⟩ => ⟨by rw [a]; simp, by subst b; exact (Keeps.refl _ _).drawN _⟩
theorem count_r {w0 w : World} (l : List (Int × Int)) (v : Value) (h : RSl w0 v l) (k : Keeps (fun _ => False) w0 w) (hl : l.length ≤ 1000) (s : Int) (hs : ∀ out, IsOf l out → sumR out = s) : Calls Try.prog 33 #[v] w fun e w' => e = .returned (.int .i64 s) ∧ (0 ≤ s ∧ s ≤ 1114112) ∧ Keeps (fun _ => False) w w' :=
  (count_any l v w (h.keep k) (by omega)).mono fun e w' ⟨out, he, hi, hk⟩ => ⟨by rw [he, hs out hi], by rw [← hs out hi]; exact sumR_nonneg out hi.1, hk⟩
theorem rgt_r {w0 w : World} (l : List (Int × Int)) (v : Value) (h : RSl w0 v l) (k : Keeps (fun _ => False) w0 w) (hn : Norm l) : Calls Try.prog 26 #[v] w fun e w' => e = .returned (.bool true) ∧ Keeps (fun _ => False) w w' :=
  (refRight_any l v w (h.keep k)).mono fun e w' ⟨s, he, hs, n, hw⟩ => ⟨by rw [he, hs.2 hn], by subst hw; exact (Keeps.refl _ _).drawN _⟩

/-- How many numbers ranges hold. -/
def card (l : List (Int × Int)) : Int := cnt (has l) 1114112
theorem card_of {l out : List (Int × Int)} (h : IsOf l out) : sumR out = card l := by
  rw [← norm_cnt out h.1]; exact cnt_congr _ _ _ fun r _ _ => h.2 r
theorem has_norm {o : List (Int × Int)} (h : Norm o) (r : Int) : has o r = mem o r := h.has r
theorem card_or {l m o : List (Int × Int)} (h : IsOr l m o) : card o = cnt (fun r => has l r || has m r) 1114112 := cnt_congr _ _ _ fun r _ _ => by rw [h.1.has, h.2]
theorem card_and {l m o : List (Int × Int)} (h : IsAnd l m o) : card o = cnt (fun r => has l r && has m r) 1114112 := cnt_congr _ _ _ fun r _ _ => by rw [h.1.has, h.2]
theorem card_two {l m o a : List (Int × Int)} (h : IsOr l m o) (g : IsAnd l m a) : card o + card a = card l + card m := by
  rw [card_or h, card_and g]; exact cnt_or_and _ _ _
theorem card_not {l o : List (Int × Int)} (h : IsNot l o) : card l + card o = 1114112 := by
  have : card o = cnt (fun r => !has l r) 1114112 := cnt_congr _ _ _ fun r h0 h1 => by
    rw [h.1.has, h.2]
    have : inAll r = true := by simp [inAll]; omega
    rw [this]; simp
  rw [this]; exact cnt_not _ _
theorem not_not {l a b c : List (Int × Int)} (h1 : IsNot l a) (h2 : IsNot a b) (h3 : IsOf l c) : b = c := norm_unique b c h2.1 h3.1 fun r => by
  rw [h2.2, h3.2, h1.1.has, h1.2]; unfold has; cases inAll r <;> cases mem l r <;> rfl
theorem de_morgan {l m a b c d f : List (Int × Int)} (h1 : IsOr l m a) (h2 : IsNot a b) (h3 : IsNot l c) (h4 : IsNot m d) (h5 : IsAnd c d f) : b = f := norm_unique b f h2.1 h5.1 fun r => by
  rw [h2.2, h5.2, h1.1.has, h1.2, h3.1.has, h3.2, h4.1.has, h4.2]; unfold has; cases inAll r <;> cases mem l r <;> cases mem m r <;> rfl
theorem or_comm' {l m a b : List (Int × Int)} (h1 : IsOr l m a) (h2 : IsOr m l b) : a = b := norm_unique a b h1.1 h2.1 fun r => by rw [h1.2, h2.2, Bool.or_comm]
theorem and_comm' {l m a b : List (Int × Int)} (h1 : IsAnd l m a) (h2 : IsAnd m l b) : a = b := norm_unique a b h1.1 h2.1 fun r => by rw [h1.2, h2.2, Bool.and_comm]
end Go.Proofs.Ytibfioekmpnkgaa
