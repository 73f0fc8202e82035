/-
  The walk of the statement RingOrder: whatever order tickets come in, all are given in order.
-/
import Derived.Test.YtibfioekmpnkgaaRingAwake
import Derived.Deep.LoopGhost
namespace Go.Proofs.Ytibfioekmpnkgaa
open Go.RowKit
set_option linter.unusedVariables false
set_option linter.unusedSimpArgs false
set_option maxRecDepth 100000

/-- What the law knows at a loop's head: the tickets L are held, those below 'given' were given; block qb tells which were put. -/
structure Ord (w : World) (rb pb qb k : Nat) (given : Nat) (L : List Nat) (g : Nat → Nat → Value) : Prop where
  ring : RingAt w rb pb k given g
  used : ∀ t, given ≤ t → t < given + k → g (t % k) 7 = .bool (decide (t ∈ L))
  item : ∀ t ∈ L, g (t % k) 0 = .int .i64 t ∧ g (t % k) 1 = .int .i64 (t + 7 : Nat) ∧ g (t % k) 2 = .int .i64 0 ∧ g (t % k) 3 = .int .i64 0 ∧ g (t % k) 4 = .string ⟨#[]⟩ ∧ g (t % k) 5 = .slice none 0 0 ∧ g (t % k) 6 = .int .i64 0
  win : ∀ t ∈ L, given ≤ t ∧ t < given + k
  nd : L.Nodup
  put : ∀ t, t < 200 + k → w.cell? ⟨qb, t, none⟩ = some (.bool (decide (t < given ∨ t ∈ L)))
  fq : ∀ o, w.frozen? ⟨qb, o, none⟩ = false
  lq : qb < w.heap.size
  n1 : qb ≠ rb
  n2 : qb ≠ pb

theorem Ord.keeps {S : Nat → Prop} {w w' : World} {rb pb qb k given : Nat} {L : List Nat} {g : Nat → Nat → Value} (h : Ord w rb pb qb k given L g) (K : Keeps S w w') (h1 : ¬ S rb) (h2 : ¬ S pb) (h3 : ¬ S qb) : Ord w' rb pb qb k given L g :=
  ⟨h.ring.keeps K h1 h2, h.used, h.item, h.win, h.nd, fun t ht => K.cell (h.put t ht) h3, fun o => K.frozen (h.fq o) h.lq h3, Nat.lt_of_lt_of_le h.lq K.size, h.n1, h.n2⟩

theorem mod_inj (k given a b : Nat) (ha : given ≤ a) (ha' : a < given + k) (hb : given ≤ b) (hb' : b < given + k) (h : a % k = b % k) : a = b := by
  have h1 := Nat.div_add_mod a k
  have h2 := Nat.div_add_mod b k
  rw [h] at h1
  rcases Nat.lt_trichotomy (a / k) (b / k) with hh | hh | hh
  · have : k * (a / k) + k ≤ k * (b / k) := by rw [← Nat.mul_succ]; exact Nat.mul_le_mul_left _ hh
    omega
  · rw [hh] at h1; omega
  · have : k * (b / k) + k ≤ k * (a / k) := by rw [← Nat.mul_succ]; exact Nat.mul_le_mul_left _ hh
    omega

/-- The next one is given. -/
theorem Ord.given {w w' : World} {rb pb qb k given : Nat} {L : List Nat} {g g' : Nat → Nat → Value} (h : Ord w rb pb qb k given L g) (hin : given ∈ L)
    (hg' : g' = fun i j => if i = given % k then emptyPlc j else g i j) (hR : RingAt w' rb pb k ((given : Int) + 1) g') (K : Keeps (fun b => b = pb ∨ b = rb) w w') :
    Ord w' rb pb qb k (given + 1) (L.erase given) g' := by
  have hk := h.ring.n1
  have hw := h.win given hin
  have hne : ∀ t ∈ L, t ≠ given → t % k ≠ given % k := fun t ht hn he => hn (mod_inj k given t given (h.win t ht).1 (h.win t ht).2 hw.1 hw.2 he)
  refine ⟨by simpa using hR, ?_, ?_, ?_, h.nd.erase _, ?_, fun o => K.frozen (h.fq o) h.lq ?_, Nat.lt_of_lt_of_le h.lq K.size, h.n1, h.n2⟩
  · intro t h1 h2
    subst hg'
    by_cases e : t % k = given % k
    · have : t = given + k := by
        rcases Nat.lt_or_ge t (given + k) with hlt | hge
        · have := mod_inj k given t given (by omega) hlt hw.1 hw.2 e; omega
        · omega
      subst this
      simp only [e, if_true]
      have hn : given + k ∉ L.erase given := fun hm => by have := (h.win _ (List.mem_of_mem_erase hm)).2; omega
      simp [emptyPlc, plc, hn]
    · simp only [e, if_false]
      have hlt : t < given + k := by
        rcases Nat.lt_or_ge t (given + k) with hlt | hge
        · exact hlt
        · have : t = given + k := by omega
          subst this; simp at e
      rw [h.used t (by omega) hlt]
      congr 1
      rw [decide_eq_decide, List.Nodup.mem_erase_iff h.nd]
      have : t ≠ given := by omega
      simp [this]
  · intro t ht
    have hm := List.mem_of_mem_erase ht
    have hn : t ≠ given := ((List.Nodup.mem_erase_iff h.nd).1 ht).1
    subst hg'
    simp only [hne t hm hn, if_false]
    exact h.item t hm
  · intro t ht
    have hm := List.mem_of_mem_erase ht
    have hn : t ≠ given := ((List.Nodup.mem_erase_iff h.nd).1 ht).1
    have := h.win t hm
    omega
  · intro t ht
    rw [K.cell (h.put t ht) (fun e => e.elim h.n2 h.n1)]
    congr 2
    rw [decide_eq_decide, List.Nodup.mem_erase_iff h.nd]
    by_cases e : t = given
    · subst e; simp [hin]
    · simp [e]; constructor <;> (intro hh; rcases hh with hh | hh <;> first | (left; omega) | (right; exact hh))
  · exact fun e => e.elim h.n2 h.n1

/-- One more is put. -/
theorem Ord.putOne {w w' : World} {rb pb qb k given t : Nat} {L : List Nat} {g g' : Nat → Nat → Value} (h : Ord w rb pb qb k given L g) (hnin : t ∉ L) (h1 : given ≤ t) (h2 : t < given + k)
    (hg' : g' = fun i j => if i = t % k then plc (.int .i64 t) (.int .i64 (t + 7 : Nat)) (.int .i64 0) (.int .i64 0) (.string ⟨#[]⟩) (.slice none 0 0) (.int .i64 0) (.bool true) j else g i j)
    (hR : RingAt w' rb pb k given g') (K : Keeps (fun b => b = pb) w w') :
    Ord (w'.setCell ⟨qb, t, none⟩ (.bool true)) rb pb qb k given (t :: L) g' := by
  have hk := h.ring.n1
  have hne : ∀ s ∈ L, s % k ≠ t % k := fun s hs he => hnin (by have := mod_inj k given s t (h.win s hs).1 (h.win s hs).2 h1 h2 he; rwa [← this])
  have hqp : ¬ qb = pb := h.n2
  have K2 : Keeps (fun b => b = qb) w' (w'.setCell ⟨qb, t, none⟩ (.bool true)) := Keeps.set (S := fun b => b = qb) (Keeps.refl _ _) rfl _
  refine ⟨hR.keeps K2 (fun e => h.n1 e.symm) (fun e => h.n2 e.symm), ?_, ?_, ?_, List.nodup_cons.2 ⟨hnin, h.nd⟩, ?_, fun o => by rw [frozen_set]; exact K.frozen (h.fq o) h.lq hqp, by simp [World.setCell]; exact Nat.lt_of_lt_of_le h.lq K.size, h.n1, h.n2⟩
  · intro s hs1 hs2
    subst hg'
    by_cases e : s % k = t % k
    · have := mod_inj k given s t hs1 hs2 h1 h2 e
      subst this
      simp [plc]
    · have hst : s ≠ t := fun h => e (by rw [h])
      simp only [e, if_false]
      rw [h.used s hs1 hs2]; simp [hst]
  · intro s hs
    subst hg'
    rcases List.mem_cons.1 hs with rfl | hs
    · simp [plc]
    · simp only [hne s hs, if_false]; exact h.item s hs
  · intro s hs
    rcases List.mem_cons.1 hs with rfl | hs
    · exact ⟨h1, h2⟩
    · exact h.win s hs
  · intro s hs
    by_cases e : s = t
    · subst e
      rw [cell_set_same (K.cell (h.put s hs) hqp)]; simp
    · rw [cell_set_other (by intro hh; simp only [Addr.mk.injEq] at hh; omega), K.cell (h.put s hs) hqp]
      simp [e]

/-- It is put again: nothing turns. -/
theorem Ord.putSame {w w' : World} {rb pb qb k given t : Nat} {L : List Nat} {g : Nat → Nat → Value} (h : Ord w rb pb qb k given L g) (hin : t ∈ L) (ht : t < 200 + k) (K : Keeps (fun _ => False) w w') :
    Ord (w'.setCell ⟨qb, t, none⟩ (.bool true)) rb pb qb k given L g := by
  have h' := h.keeps K id id id
  have K2 : Keeps (fun b => b = qb) w' (w'.setCell ⟨qb, t, none⟩ (.bool true)) := Keeps.set (S := fun b => b = qb) (Keeps.refl _ _) rfl _
  refine ⟨h'.ring.keeps K2 (fun e => h.n1 e.symm) (fun e => h.n2 e.symm), h.used, h.item, h.win, h.nd, ?_, fun o => by rw [frozen_set]; exact h'.fq o, by simp [World.setCell]; exact h'.lq, h.n1, h.n2⟩
  intro s hs
  by_cases e : s = t
  · subst e
    rw [cell_set_same (h'.put s hs)]; simp [hin]
  · rw [cell_set_other (by intro hh; simp only [Addr.mk.injEq] at hh; omega), h'.put s hs]

theorem toNat_mod (a k : Nat) : ((a : Int) % (k : Int)).toNat = a % k := by rw [← Int.natCast_emod, Int.toNat_natCast]

/-- What Put does in the law: both ways at once. -/
theorem Ord.callPut {w : World} {rb pb qb k given d : Nat} {L : List Nat} {g : Nat → Nat → Value} (h : Ord w rb pb qb k given L g) (hd : d < k) (hg : given ≤ 100) :
    Calls Try.prog 14 #[.pointer (some ⟨rb, 0, none⟩), .agg #[.int .i64 ((given : Int) + d), .int .i64 ((given : Int) + d + 7), .int .i64 0, .int .i64 0, .string ⟨#[]⟩, .slice none 0 0, .int .i64 0]] w
      fun e w' => ∃ (ev : Int) (pt : Bool) (L' : List Nat) (g' : Nat → Nat → Value), e = .returned (.int .i64 ev) ∧ (pt = true ∧ ev = 2 ∨ pt = false ∧ ev = 0) ∧ w'.cell? ⟨qb, given + d, none⟩ = some (.bool pt) ∧ w'.frozen? ⟨qb, given + d, none⟩ = false ∧
        Ord (w'.setCell ⟨qb, given + d, none⟩ (.bool true)) rb pb qb k given L' g' ∧ L'.length ≤ L.length + 1 ∧ Keeps (fun b => b = pb) w w' := by
  have hk := h.ring.n64
  have hm : (((given : Int) + d) % (k : Int)).toNat = (given + d) % k := by rw [← Int.natCast_add, toNat_mod]
  by_cases hin : given + d ∈ L
  · refine (put_twice rb pb k given g w _ _ _ _ _ _ _ _ h.ring (by omega) (by omega) hm (by rw [h.used _ (by omega) (by omega)]; simp [hin])).mono ?_
    rintro e w' ⟨rfl, hR, K⟩
    have h' := h.keeps K id id id
    refine ⟨2, true, L, g, rfl, .inl ⟨rfl, rfl⟩, ?_, h'.fq _, h.putSame hin (by omega) K, by omega, K.mono (fun _ _ hf => hf.elim)⟩
    rw [h'.put _ (by omega)]; simp [hin]
  · refine (put_ok rb pb k given g w _ _ _ _ _ _ _ _ _ _ h.ring hm (by rw [h.used _ (by omega) (by omega)]; simp [hin]) (by omega) (by omega)).mono ?_
    rintro e w' ⟨rfl, hR, K⟩
    have hqp : ¬ qb = pb := h.n2
    refine ⟨0, false, (given + d) :: L, _, rfl, .inr ⟨rfl, rfl⟩, ?_, K.frozen (h.fq _) h.lq hqp, h.putOne hin (by omega) (by omega) rfl (hR.congr ?_) K, by simp, K⟩
    · rw [K.cell (h.put _ (by omega)) hqp]; simp [hin]
    · intro i hi j hj; simp [Int.natCast_add]
end Go.Proofs.Ytibfioekmpnkgaa
