/-
  How set.Of works, in plain words: clamp, sort, merge.
-/
import Derived.Test.YtinogeobkljngaaDoorSetPlain
namespace Go.Proofs.YtinogeobkljngaaDoor
set_option linter.unusedVariables false
set_option linter.unusedSimpArgs false

def clampOne (p : Int × Int) : Int × Int := (max p.1 0, min p.2 1114111)
def clampL (l : List (Int × Int)) : List (Int × Int) := (l.map clampOne).filter fun p => decide (p.1 ≤ p.2)
theorem clampL_snoc (l : List (Int × Int)) (p : Int × Int) : clampL (l ++ [p]) = clampL l ++ (if (clampOne p).1 ≤ (clampOne p).2 then [clampOne p] else []) := by
  unfold clampL
  rw [List.map_append, List.filter_append]
  congr 1
  by_cases h : (clampOne p).1 ≤ (clampOne p).2 <;> simp [h]
theorem clampL_length (l : List (Int × Int)) : (clampL l).length ≤ l.length := by
  unfold clampL; have := List.length_filter_le (fun p => decide (p.1 ≤ p.2)) (l.map clampOne); simpa using this
theorem clampL_good (l : List (Int × Int)) : ∀ p ∈ clampL l, 0 ≤ p.1 ∧ p.1 ≤ p.2 ∧ p.2 ≤ 1114111 := by
  intro p hp
  have h := List.mem_filter.1 hp
  obtain ⟨q, hq, rfl⟩ := List.mem_map.1 h.1
  have := of_decide_eq_true h.2
  refine ⟨?_, this, ?_⟩ <;> unfold clampOne <;> simp only <;> omega
theorem clampL_mem (l : List (Int × Int)) (r : Int) : mem (clampL l) r = has l r := by
  rw [Bool.eq_iff_iff]
  unfold has
  rw [mem_iff, Bool.and_eq_true, mem_iff]
  constructor
  · rintro ⟨p, hp, h1, h2⟩
    have h := List.mem_filter.1 hp
    obtain ⟨q, hq, rfl⟩ := List.mem_map.1 h.1
    unfold clampOne at h1 h2
    simp only at h1 h2
    exact ⟨⟨q, hq, by omega, by omega⟩, by simp [inAll]; omega⟩
  · rintro ⟨⟨q, hq, h1, h2⟩, h3⟩
    simp [inAll] at h3
    refine ⟨clampOne q, List.mem_filter.2 ⟨List.mem_map.2 ⟨q, hq, rfl⟩, ?_⟩, ?_, ?_⟩ <;> unfold clampOne <;> simp only
    · rw [decide_eq_true_eq]; omega
    · omega
    · omega

def mstep (out : List (Int × Int)) (x : Int × Int) : List (Int × Int) :=
  match out.getLast? with
  | none => out ++ [x]
  | some q => if x.1 ≤ q.2 + 1 then out.dropLast ++ [(q.1, max q.2 x.2)] else out ++ [x]
theorem mstep_nil (x : Int × Int) : mstep [] x = [x] := rfl
theorem mstep_join (l : List (Int × Int)) (q x : Int × Int) (h : x.1 ≤ q.2 + 1) : mstep (l ++ [q]) x = l ++ [(q.1, max q.2 x.2)] := by simp [mstep, h]
theorem mstep_more (l : List (Int × Int)) (q x : Int × Int) (h : ¬ x.1 ≤ q.2 + 1) : mstep (l ++ [q]) x = l ++ [q] ++ [x] := by simp [mstep, h]
theorem mstep_length (l : List (Int × Int)) (x : Int × Int) : (mstep l x).length ≤ l.length + 1 := by
  rcases List.eq_nil_or_concat l with rfl | ⟨m, q, rfl⟩
  · simp [mstep_nil]
  · rw [List.concat_eq_append]
    by_cases h : x.1 ≤ q.2 + 1
    · rw [mstep_join m q x h]; simp
    · rw [mstep_more m q x h]; simp
def mergeL (l : List (Int × Int)) : List (Int × Int) := l.foldl mstep []
theorem mergeL_snoc (l : List (Int × Int)) (x : Int × Int) : mergeL (l ++ [x]) = mstep (mergeL l) x := by simp [mergeL]
theorem mergeL_length (l : List (Int × Int)) : (mergeL l).length ≤ l.length := by
  have key : ∀ (m out : List (Int × Int)), (m.foldl mstep out).length ≤ out.length + m.length := by
    intro m
    induction m with
    | nil => intro out; simp
    | cons x m ih => intro out; have h1 := ih (mstep out x); have h2 := mstep_length out x; simp only [List.foldl_cons, List.length_cons]; omega
  simpa [mergeL] using key l []

theorem mstep_ok (out : List (Int × Int)) (x : Int × Int) (h : Norm out) (hx : 0 ≤ x.1 ∧ x.1 ≤ x.2 ∧ x.2 ≤ 1114111) (hle : ∀ p ∈ out, p.1 ≤ x.1) :
    Norm (mstep out x) ∧ (∀ r, mem (mstep out x) r = (mem out r || (decide (x.1 ≤ r) && decide (r ≤ x.2)))) ∧ ∀ p ∈ mstep out x, p.1 ≤ x.1 := by
  rcases List.eq_nil_or_concat out with rfl | ⟨m, q, rfl⟩
  · rw [mstep_nil]
    exact ⟨⟨hx.1, hx.2.1, hx.2.2, by simp, trivial⟩, fun r => by rw [mem_one, mem_nil, Bool.false_or], by simp⟩
  · rw [List.concat_eq_append] at h hle ⊢
    obtain ⟨hm, q0, q1, q2, q3⟩ := norm_last m q h
    have hq := hle q (by simp)
    by_cases hj : x.1 ≤ q.2 + 1
    · rw [mstep_join m q x hj]
      refine ⟨norm_append m _ hm q0 (by simp only; omega) (by simp only; omega) q3, fun r => ?_, ?_⟩
      · rw [mem_append, mem_append, mem_one, mem_one, Bool.or_assoc]
        congr 1
        rw [Bool.eq_iff_iff]; simp only [Bool.and_eq_true, Bool.or_eq_true, decide_eq_true_eq]; omega
      · intro p hp
        rcases List.mem_append.1 hp with hp | hp
        · exact hle p (List.mem_append_left _ hp)
        · simp at hp; subst hp; exact hq
    · rw [mstep_more m q x hj]
      refine ⟨norm_append (m ++ [q]) x h hx.1 hx.2.1 hx.2.2 ?_, fun r => by rw [mem_append (m ++ [q]), mem_one], ?_⟩
      · intro p hp
        rcases List.mem_append.1 hp with hp | hp
        · have := q3 p hp; omega
        · simp at hp; subst hp; omega
      · intro p hp
        rcases List.mem_append.1 hp with hp | hp
        · exact hle p hp
        · simp at hp; subst hp; exact Int.le_refl _

theorem mergeL_ok (l : List (Int × Int)) (hg : ∀ p ∈ l, 0 ≤ p.1 ∧ p.1 ≤ p.2 ∧ p.2 ≤ 1114111) (hs : l.Pairwise (fun a b => a.1 ≤ b.1)) :
    Norm (mergeL l) ∧ ∀ r, mem (mergeL l) r = mem l r := by
  have key : ∀ (m out done : List (Int × Int)), Norm out → (∀ r, mem out r = mem done r) → (∀ p ∈ out, ∀ x ∈ m, p.1 ≤ x.1) → (∀ p ∈ m, 0 ≤ p.1 ∧ p.1 ≤ p.2 ∧ p.2 ≤ 1114111) → m.Pairwise (fun a b => a.1 ≤ b.1) →
      Norm (m.foldl mstep out) ∧ ∀ r, mem (m.foldl mstep out) r = mem (done ++ m) r := by
    intro m
    induction m with
    | nil => intro out done hn hm _ _ _; exact ⟨hn, fun r => by simpa using hm r⟩
    | cons x m ih =>
      intro out done hn hm hle hgo hpw
      obtain ⟨a, b, c⟩ := mstep_ok out x hn (hgo x List.mem_cons_self) (fun p hp => hle p hp x List.mem_cons_self)
      have hpw' := List.pairwise_cons.1 hpw
      have := ih (mstep out x) (done ++ [x]) a (fun r => by rw [b, mem_append, mem_one, hm]) (fun p hp y hy => Int.le_trans (c p hp) (hpw'.1 y hy)) (fun p hp => hgo p (List.mem_cons_of_mem _ hp)) hpw'.2
      refine ⟨this.1, fun r => ?_⟩
      have h2 := this.2 r
      simp only [List.foldl_cons]
      rw [h2]; simp
  have := key l [] [] trivial (fun _ => rfl) (by simp) hg hs
  exact ⟨this.1, fun r => by have := this.2 r; simpa [mergeL] using this⟩

theorem mem_perm {a b : List (Int × Int)} (h : a.Perm b) (r : Int) : mem a r = mem b r := by
  rw [Bool.eq_iff_iff, mem_iff, mem_iff]
  exact ⟨fun ⟨p, hp, hr⟩ => ⟨p, h.mem_iff.1 hp, hr⟩, fun ⟨p, hp, hr⟩ => ⟨p, h.mem_iff.2 hp, hr⟩⟩

/-- The whole: whatever order the sort leaves equals in. -/
theorem of_ok (rs l : List (Int × Int)) (hp : l.Perm (clampL rs)) (hs : l.Pairwise (fun a b => a.1 ≤ b.1)) : IsOf rs (mergeL l) := by
  have h := mergeL_ok l (fun p hp' => clampL_good rs p (hp.mem_iff.1 hp')) hs
  exact ⟨h.1, fun r => by rw [h.2, mem_perm hp, clampL_mem]⟩
end Go.Proofs.YtinogeobkljngaaDoor
