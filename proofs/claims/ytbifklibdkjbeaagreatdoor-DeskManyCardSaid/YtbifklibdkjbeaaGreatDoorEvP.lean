/-
  Operations that look at no memory: what the reckoned run says of them is so. No condition.
-/
import Derived.Test.YtbifklibdkjbeaaGreatDoorEvD
namespace Go.Proofs.YtbifklibdkjbeaaGreatDoor
open Go
set_option linter.unusedSimpArgs false
set_option linter.unusedVariables false

section
variable {P : Program} {ρ : Rho} {n : Nat} {e : Operand → Value}

theorem run_size {t : TypeId} {k : Nat} (h : szOf P t = some k) (w : World) : (sizeOf t).run P w = .ok k w := by
  simp only [szOf, Option.map_eq_some_iff] at h
  obtain ⟨i, hi, rfl⟩ := h
  simp [sizeOf, typeInfo, hi]
theorem run_agg {t : TypeId} {b : Bool} (h : aggOf P t = some b) (w : World) : (isAgg t).run P w = .ok b w := by
  unfold aggOf at h
  cases hu : P.underlying t with
  | none => simp [hu] at h
  | some d =>
    simp only [hu] at h
    simp only [isAgg, Sem.run_bind, run_underlying hu, Result.andThen_ok]
    cases d <;> simp at h <;> subst h <;> rfl
theorem cut_den {R : AC → Value → Prop} {l : List AC} {m : List Value} {off k : Nat} {r : List AC} (h : cut l off k = some r) (d : All2 R l m) :
    All2 R r ((m.drop off).take k) ∧ r.length = k ∧ off + k ≤ l.length ∨ k = 0 ∧ r = [] := by
  unfold cut at h
  cases hb : Nat.beq ((l.drop off).take k).length k with
  | false => simp only [hb, cond_false, reduceCtorEq] at h
  | true =>
    simp only [hb, cond_true, Option.some.injEq] at h
    subst h
    have hk : ((l.drop off).take k).length = k := Nat.eq_of_beq_eq_true hb
    by_cases h0 : k = 0
    · right; subst h0; simp
    · left
      refine ⟨(d.drop off).take k, hk, ?_⟩
      simp only [List.length_take, List.length_drop] at hk
      omega
theorem cut_len {l : List AC} {off k : Nat} {r : List AC} (h : cut l off k = some r) : r.length = k := by
  unfold cut at h
  cases hb : Nat.beq ((l.drop off).take k).length k with
  | false => simp only [hb, cond_false, reduceCtorEq] at h
  | true => simp only [hb, cond_true, Option.some.injEq] at h; subst h; exact Nat.eq_of_beq_eq_true hb
theorem cut_all {R : AC → Value → Prop} {l : List AC} {m : List Value} {off k : Nat} {r : List AC} (h : cut l off k = some r) (d : All2 R l m) :
    All2 R r ((m.drop off).take k) := by
  rcases cut_den h d with h | ⟨rfl, rfl⟩
  · exact h.1
  · simp [All2]
theorem run_part {t : TypeId} {cs : List AC} {vs : Array Value} {off : Nat} {x : AV} (h : partOf P t cs off = some x) (d : All2 (AC.den ρ n) cs vs.toList) (w : World) :
    ∃ v, (part t vs off).run P w = .ok v w ∧ x.den ρ n v := by
  unfold partOf at h
  simp only [nthR_eq] at h
  cases ha : aggOf P t with
  | none => simp [ha] at h
  | some b =>
    cases hs : szOf P t with
    | none => simp [ha, hs] at h
    | some k =>
      cases b with
      | true =>
        simp only [ha, hs, Option.map_eq_some_iff] at h
        obtain ⟨r, hr, rfl⟩ := h
        refine ⟨.agg (vs.extract off (off + k)), by simp [part, run_agg ha, run_size hs], _, rfl, ?_⟩
        have := cut_all hr d
        have e : (vs.extract off (off + k)).toList = (vs.toList.drop off).take k := by
          rw [Array.toList_extract]; simp [List.extract, Nat.add_sub_cancel_left]
        rwa [e]
      | false =>
        simp only [ha, hs, Option.map_eq_some_iff] at h
        obtain ⟨c, hc, rfl⟩ := h
        obtain ⟨y, hy, hd⟩ := d.get hc
        have hy' : vs[off]? = some y := by simpa using hy
        exact ⟨y, by simp [part, run_agg ha, hy'], hd⟩
theorem fieldOf_spec {s : TypeId} {f off ft k : Nat} (h : fieldOf P s f = some (off, ft, k)) :
    ∃ fields x, P.underlying s = some (.struct fields) ∧ fields[f]? = some x ∧ x.offset = off ∧ x.type = ft ∧ szOf P x.type = some k := by
  unfold fieldOf at h
  split at h
  · rename_i fields hu
    split at h
    · rename_i x hx
      simp only [Option.map_eq_some_iff, Prod.mk.injEq] at h
      obtain ⟨k', hk, h1, h2, h3⟩ := h
      exact ⟨fields, x, hu, hx, h1, h2, h3 ▸ hk⟩
    · simp at h
  · simp at h

theorem fill_list (off : Nat) : ∀ (vs : List Value) (k : Nat) (cs : Array Value), off + k + vs.length ≤ cs.size →
    ((vs.zipIdx k).foldl (fun (cs : Array Value) (p : Value × Nat) => cs.setIfInBounds (off + p.2) p.1) cs).toList =
      cs.toList.take (off + k) ++ (vs ++ cs.toList.drop (off + k + vs.length))
  | [], k, cs, _ => by simp
  | v :: vs, k, cs, h => by
    simp only [List.zipIdx_cons, List.foldl_cons]
    rw [fill_list off vs (k + 1) _ (by simp at h ⊢; omega)]
    simp only [Array.toList_setIfInBounds]
    have h1 : off + k < cs.toList.length := by simp at h ⊢; omega
    apply List.ext_getElem?
    intro i
    simp only [List.getElem?_append, List.length_take, List.length_set, List.getElem?_take, List.getElem?_drop, List.getElem?_set, List.length_cons]
    have hl : cs.toList.length = cs.size := by simp
    simp only [List.length_cons] at h
    by_cases c1 : i < off + k
    · rw [if_pos (by omega), if_pos (by omega), if_neg (by omega), if_pos (by omega), if_pos c1]
    · by_cases c2 : i = off + k
      · subst c2
        rw [if_pos (by omega), if_pos (by omega), if_pos rfl, if_pos h1, if_neg (by omega), if_pos (by omega)]
        have : off + k - min (off + k) cs.size = 0 := by omega
        simp [this]
      · have e1 : i - min (off + (k + 1)) cs.toList.length = i - (off + k) - 1 := by omega
        have e2 : i - min (off + k) cs.toList.length = (i - (off + k) - 1) + 1 := by omega
        rw [if_neg (show ¬ i < min (off + (k + 1)) cs.toList.length by omega), if_neg (show ¬ i < min (off + k) cs.toList.length by omega), e1, e2]
        by_cases c3 : i - (off + k) - 1 < vs.length
        · rw [if_pos c3, if_pos (show i - (off + k) - 1 + 1 < vs.length + 1 by omega)]; simp
        · rw [if_neg c3, if_neg (show ¬ i - (off + k) - 1 + 1 < vs.length + 1 by omega), if_neg (by omega)]
          congr 1; omega
theorem splice_den {R : AC → Value → Prop} {l : List AC} {m : List Value} {vs : List AC} {us : List Value} (off : Nat) (d : All2 R l m) (dv : All2 R vs us) :
    All2 R (splice l off vs) (m.take off ++ (us ++ m.drop (off + us.length))) := by
  rw [splice_eq]; rw [dv.len]; exact (d.take off).app (dv.app (d.drop _))
theorem splice_len {l vs : List AC} {off : Nat} (h : off + vs.length ≤ l.length) : (splice l off vs).length = l.length := by
  rw [splice_eq]; simp; omega
theorem fill_den {R : AC → Value → Prop} (pl : Nat → Option (Nat × Nat)) : ∀ (ps : List (Nat × List AC)) (qs : List (Nat × Value)) (z l : List AC) (zc : Array Value),
    fillA pl z ps = some l → All2 R z zc.toList → All2 (fun p q => p.1 = q.1 ∧ All2 R p.2 q.2.cells.toList) ps qs →
    ∃ cells, Instr.fill pl zc qs = some cells ∧ All2 R l cells.toList
  | [], [], z, l, zc, h, hz, _ => by simp [fillA] at h; subst h; exact ⟨zc, rfl, hz⟩
  | (i, v) :: ps, (j, u) :: qs, z, l, zc, h, hz, d => by
    obtain ⟨⟨hij, hv⟩, hr⟩ := d
    simp only at hij hv
    subst hij
    simp only [fillA] at h
    simp only [Instr.fill]
    cases hp : pl i with
    | none => simp [hp] at h
    | some x =>
      obtain ⟨off, size⟩ := x
      simp only [hp] at h ⊢
      cases hb : (Nat.beq v.length size && Nat.ble (off + v.length) z.length) with
      | false => simp [hb] at h
      | true =>
        simp only [hb, cond_true] at h
        simp only [Bool.and_eq_true, Nat.beq_eq, Nat.ble_eq] at hb
        have hlen : u.cells.size = v.length := by have := hv.len; simp at this; omega
        have hzl : zc.size = z.length := by have := hz.len; simp at this; omega
        rw [if_neg (by simp [hlen, hb.1]; omega)]
        refine fill_den pl ps qs (splice z off v) l _ h ?_ hr
        have := fill_list off u.cells.toList 0 zc (by simp [hlen]; omega)
        have e : (u.cells.zipIdx.foldl (fun cs x => match x with | (c, j) => cs.setIfInBounds (off + j) c) zc).toList =
            zc.toList.take off ++ (u.cells.toList ++ zc.toList.drop (off + u.cells.toList.length)) := by
          rw [← Array.foldl_toList, Array.toList_zipIdx]; simpa using this
        rw [e]
        exact splice_den off hz hv
  | [], _ :: _, _, _, _, _, _, d => d.elim
  | _ :: _, [], _, _, _, _, _, d => d.elim
theorem parts_den {ev : Ev} : ∀ {l : List (Nat × Operand)} {r : List (Nat × List AC)}, partsA ev l = some r → EvOK ρ n ev e (l.map (·.2)) →
    All2 (fun p q => p.1 = q.1 ∧ All2 (AC.den ρ n) p.2 q.2.cells.toList) r (l.map fun x => (x.1, e x.2))
  | [], r, h, _ => by simp [partsA] at h; subst h; trivial
  | (i, x) :: l, r, h, he => by
    simp only [partsA] at h
    split at h
    · rename_i a r' ha hr
      simp only [Option.some.injEq] at h
      subst h
      have hx := he x (by simp)
      rw [ha] at hx
      exact ⟨⟨rfl, AV.den_cells hx⟩, parts_den hr fun y hy => he y (by simp at hy ⊢; exact .inr hy)⟩
    · simp at h
theorem zero_den {t : TypeId} {z : List AC} (h : zeroCells? P t = some z) (ρ : Rho) (n : Nat) :
    ∃ i v, P.info? t = some i ∧ i.zero = some v ∧ All2 (AC.den ρ n) z v.cells.toList := by
  unfold zeroCells? at h
  cases hi : P.info? t with
  | none => simp [hi] at h
  | some i =>
    cases hz : i.zero with
    | none => simp [hi, hz] at h
    | some v =>
      simp only [hi, Option.bind_some, hz, Option.map_eq_some_iff] at h
      obtain ⟨a, ha, rfl⟩ := h
      exact ⟨i, v, rfl, hz, AV.den_cells (AV.of_den ρ n v a ha)⟩
end
end Go.Proofs.YtbifklibdkjbeaaGreatDoor
