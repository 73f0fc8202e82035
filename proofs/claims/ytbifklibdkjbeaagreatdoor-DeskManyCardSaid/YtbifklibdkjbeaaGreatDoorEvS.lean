/-
  Operations that look at no memory: slices, literals, and all of them together. No condition.
-/
import Derived.Test.YtbifklibdkjbeaaGreatDoorEvR
namespace Go.Proofs.YtbifklibdkjbeaaGreatDoor
open Go
set_option linter.unusedSimpArgs false
set_option linter.unusedVariables false

section
variable {P : Program} {ρ : Rho} {n : Nat} {e : Operand → Value} {ev : Ev}
variable {dst : Option Tmp} {ty : TypeId} {pos : String} {after : Array Edge} {guard : Option (Nat × Bool)} {r : AR} {w : World}

def Bd (e : Operand → Value) : Option Operand → Option Int → Prop
  | none, none => True
  | some y, some k => ∃ kd, e y = .int kd k
  | _, _ => False
theorem bound_den {x : Option Operand} {b : Option Int} (h : bound (x.map ev) = some b) (he : ∀ y ∈ x, (ev y).den ρ n (e y)) : Bd e x b := by
  cases x with
  | none => simp [bound] at h; subst h; trivial
  | some y =>
    simp only [bound, Option.map_some, Option.map_eq_some_iff] at h
    obtain ⟨k, hk, rfl⟩ := h
    exact intArg_den hk (he y rfl)
/-- Three bounds in order: what the model's own check says. -/
theorem run_bounds {isSlice : Bool} {len cap : Nat} {lo hi mx : Option Operand} {l h m : Option Int}
    (hl : Bd e lo l)
    (hh : Bd e hi h)
    (hm : Bd e mx m)
    (h0 : 0 ≤ l.getD 0) (h1 : l.getD 0 ≤ h.getD len) (h2 : h.getD len ≤ m.getD cap) (h3 : m.getD cap ≤ cap) (hx : (h.isSome || !m.isSome) = true) :
    (Instr.sliceBounds isSlice len cap (lo.map e) (hi.map e) (mx.map e)).run P w = .ok ((l.getD 0).toNat, (h.getD len).toNat, (m.getD cap).toNat) w := by
  have sb : ∀ (v : Value) (kd : IntKind) (k : Int) (y : Nat) (c : BoundsCode), v = .int kd k → 0 ≤ k → k ≤ y → (Instr.sliceBound v y c).run P w = .ok k.toNat w := by
    intro v kd k y c hv a b
    subst hv
    simp [Instr.sliceBound, asIntOf, a, b]
  cases mx with
  | none =>
    cases m with
    | some _ => exact hm.elim
    | none =>
      simp only [Option.getD_none] at *
      cases hi with
      | none =>
        cases h with
        | some _ => exact hh.elim
        | none =>
          simp only [Option.getD_none] at *
          cases lo with
          | none => cases l with
            | some _ => exact hl.elim
            | none => simp [Instr.sliceBounds]
          | some y => cases l with
            | none => exact hl.elim
            | some k =>
              obtain ⟨kd, hk⟩ := hl
              simp only [Option.getD_some] at *
              simp [Instr.sliceBounds, sb _ kd k len .sliceB hk h0 h1]
      | some z =>
        cases h with
        | none => exact hh.elim
        | some j =>
          obtain ⟨kd', hj⟩ := hh
          simp only [Option.getD_some] at *
          have s1 := fun c => sb _ kd' j cap c hj (by omega) h2
          cases lo with
          | none => cases l with
            | some _ => exact hl.elim
            | none => simp [Instr.sliceBounds, s1]
          | some y => cases l with
            | none => exact hl.elim
            | some k =>
              obtain ⟨kd, hk⟩ := hl
              simp only [Option.getD_some] at *
              have s2 := fun c => sb _ kd k j.toNat c hk h0 (by omega)
              simp [Instr.sliceBounds, s1, s2]
  | some u =>
    cases m with
    | none => exact hm.elim
    | some i =>
      obtain ⟨kd'', hi'⟩ := hm
      simp only [Option.getD_some] at *
      have s0 := fun c => sb _ kd'' i cap c hi' (by omega) h3
      cases hi with
      | none => cases h with
        | some _ => exact hh.elim
        | none => simp at hx
      | some z =>
        cases h with
        | none => exact hh.elim
        | some j =>
          obtain ⟨kd', hj⟩ := hh
          simp only [Option.getD_some] at *
          have s1 := fun c => sb _ kd' j i.toNat c hj (by omega) (by omega)
          cases lo with
          | none => cases l with
            | some _ => exact hl.elim
            | none => simp [Instr.sliceBounds, s0, s1]
          | some y => cases l with
            | none => exact hl.elim
            | some k =>
              obtain ⟨kd, hk⟩ := hl
              simp only [Option.getD_some] at *
              have s2 := fun c => sb _ kd k j.toNat c hk h0 (by omega)
              simp [Instr.sliceBounds, s0, s1, s2]
theorem q_slice {t : TypeId} {x : Operand} {lo hi mx : Option Operand} (h : pureA P ev ⟨dst, .slice t x lo hi mx, ty, pos, after, guard⟩ = some r)
    (he : EvOK ρ n ev e (Op.slice t x lo hi mx).operands.toList) : Quiet P e ρ n ⟨dst, .slice t x lo hi mx, ty, pos, after, guard⟩ r w := by
  simp only [pureA] at h
  split at h
  · rename_i r' hr; simp only [Option.some.injEq] at h; subst h; exact scal_sound hr he w
  · have hex := he x (by simp [Op.operands])
    have hlo := fun y (hy : y ∈ lo) => he y (by simp only [Option.mem_def] at hy; subst hy; simp [Op.operands])
    have hhi := fun y (hy : y ∈ hi) => he y (by simp only [Option.mem_def] at hy; subst hy; simp [Op.operands])
    have hmx := fun y (hy : y ∈ mx) => he y (by simp only [Option.mem_def] at hy; subst hy; simp [Op.operands])
    split at h
    · rename_i el id off len cp es ex l hh m hu hx h1 h2 h3
      rw [hx] at hex; obtain ⟨hl, hc, o, c, hv, ho, hx1, hx2⟩ := hex
      split at h
      · rename_i s hs
        cases hse : Nat.beq s es with
        | false => simp only [hse, cond_false, reduceCtorEq] at h
        | true =>
          simp only [hse, cond_true] at h
          have : s = es := Nat.eq_of_beq_eq_true hse
          subst this
          cases hb : ((decide (0 ≤ l.getD 0) && (decide (l.getD 0 ≤ hh.getD len) && (decide (hh.getD len ≤ m.getD cp) && decide (m.getD cp ≤ cp)))) && (hh.isSome || !m.isSome)) with
          | false => simp only [hb, cond_false, reduceCtorEq] at h
          | true =>
            simp only [hb, cond_true, Option.some.injEq] at h
            subst h
            simp only [Bool.and_eq_true, decide_eq_true_eq] at hb
            obtain ⟨⟨b0, b1, b2, b3⟩, b4⟩ := hb
            have hcc : (cp : Int) ≤ c := by
              cases ex with
              | true => have := hx1 rfl; omega
              | false => have := (hx2 rfl).1; omega
            have hm2 : hh.getD len ≤ m.getD (c : Int) ∧ m.getD (c : Int) ≤ c := by
              cases m with
              | none => simp at b2 ⊢; omega
              | some i => simp at b2 b3 ⊢; omega
            have hrun := run_bounds (P := P) (e := e) (w := w) (isSlice := true) (len := len) (cap := c) (bound_den h1 hlo) (bound_den h2 hhi) (bound_den h3 hmx) b0 b1 hm2.1 hm2.2 b4
            have hex' : (execOp e ⟨dst, .slice t x lo hi mx, ty, pos, after, guard⟩).run P w =
                .ok (.value (.slice (if (m.getD (c : Int)).toNat = (l.getD 0).toNat then some ⟨ρ.blk id, o, none⟩ else some ⟨ρ.blk id, o + (l.getD 0).toNat * s, none⟩)
                  ((hh.getD len).toNat - (l.getD 0).toNat) ((m.getD (c : Int)).toNat - (l.getD 0).toNat))) w := by
              have hat : Instr.sliceAt t (e x) (lo.map e) (hi.map e) (mx.map e) = Instr.sliceAt t (.slice (some ⟨ρ.blk id, o, none⟩) len c) (lo.map e) (hi.map e) (mx.map e) := by rw [hv]
              simp only [execOp, hat]
              simp [Instr.sliceAt, Instr.slice, run_underlying hu, hrun, run_size hs, add_at]
            refine ⟨_, hex', hl, ?_, (if (m.getD (c : Int)).toNat = (l.getD 0).toNat then o else o + (l.getD 0).toNat * s), (m.getD (c : Int)).toNat - (l.getD 0).toNat, ?_, ?_, ?_, ?_⟩
            · omega
            · have e1 : (hh.getD len).toNat - (l.getD 0).toNat = (hh.getD ↑len - l.getD 0).toNat := by omega
              rw [e1]
              split <;> rfl
            · intro hne
              rw [if_neg (by omega), ho (by omega)]; omega
            · intro hex
              cases m with
              | none =>
                simp only [Option.isSome_none, Bool.false_or] at hex
                have := hx1 hex
                subst this; simp only [Option.getD_none]; omega
              | some i => simp only [Option.getD_some]; omega
            · intro hex
              cases m with
              | some i => simp at hex
              | none =>
                simp only [Option.isSome_none, Bool.false_or] at hex
                obtain ⟨h5, h6⟩ := hx2 hex
                simp only [Option.getD_none] at b2 b3 ⊢
                refine ⟨by omega, ?_⟩
                split
                · rename_i heq
                  have : (Int.toNat (c : Int)) - (l.getD 0).toNat = 0 := by omega
                  rw [this, Nat.zero_mul]; omega
                · have hle : (l.getD 0).toNat ≤ c := by omega
                  have e2 : (Int.toNat (c : Int)) = c := by omega
                  rw [e2, Nat.add_assoc, ← Nat.add_mul]
                  have e3 : (l.getD 0).toNat + (c - (l.getD 0).toNat) = c := by omega
                  rw [e3]; exact h6
      · simp at h
    · rename_i k el id off l hh m hu hx h1 h2 h3
      rw [hx] at hex; obtain ⟨hl, hv⟩ := hex
      split at h
      · rename_i s hs
        cases hb : ((decide (0 ≤ l.getD 0) && (decide (l.getD 0 ≤ hh.getD k) && (decide (hh.getD k ≤ m.getD k) && decide (m.getD k ≤ k)))) && (hh.isSome || !m.isSome)) with
        | false => simp only [hb, cond_false, reduceCtorEq] at h
        | true =>
          simp only [hb, cond_true, Option.some.injEq] at h
          subst h
          simp only [Bool.and_eq_true, decide_eq_true_eq] at hb
          obtain ⟨⟨b0, b1, b2, b3⟩, b4⟩ := hb
          have hrun := run_bounds (P := P) (e := e) (w := w) (isSlice := false) (len := k) (cap := k) (bound_den h1 hlo) (bound_den h2 hhi) (bound_den h3 hmx) b0 b1 b2 b3 b4
          have hex' : (execOp e ⟨dst, .slice t x lo hi mx, ty, pos, after, guard⟩).run P w =
              .ok (.value (.slice (some (if (m.getD (k : Int)).toNat = (l.getD 0).toNat then ⟨ρ.blk id, ρ.base id + off, none⟩ else ⟨ρ.blk id, ρ.base id + off + (l.getD 0).toNat * s, none⟩))
                ((hh.getD k).toNat - (l.getD 0).toNat) ((m.getD (k : Int)).toNat - (l.getD 0).toNat))) w := by
            have hat : Instr.sliceAt t (e x) (lo.map e) (hi.map e) (mx.map e) = Instr.sliceAt t (.pointer (some ⟨ρ.blk id, ρ.base id + off, none⟩)) (lo.map e) (hi.map e) (mx.map e) := by rw [hv]
            simp only [execOp, hat]
            simp [Instr.sliceAt, Instr.sureAddr, run_underlying hu, hrun, run_size hs, add_at]
          refine ⟨_, hex', hl, by omega, (if (m.getD (k : Int)).toNat = (l.getD 0).toNat then ρ.base id + off else ρ.base id + off + (l.getD 0).toNat * s), (m.getD (k : Int)).toNat - (l.getD 0).toNat, ?_, ?_, ?_, ?_⟩
          · have e1 : (hh.getD (k : Int)).toNat - (l.getD 0).toNat = (hh.getD ↑k - l.getD 0).toNat := by omega
            rw [e1]
            split <;> rfl
          · intro hne
            rw [if_neg (by omega)]; omega
          · intro _; omega
          · intro hex; simp at hex
      · simp at h
    · simp at h
end
end Go.Proofs.YtbifklibdkjbeaaGreatDoor
