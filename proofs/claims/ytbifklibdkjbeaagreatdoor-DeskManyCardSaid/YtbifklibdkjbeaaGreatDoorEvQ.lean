/-
  Operations that look at no memory: each one. No condition.
-/
import Derived.Test.YtbifklibdkjbeaaGreatDoorEvP
namespace Go.Proofs.YtbifklibdkjbeaaGreatDoor
open Go
set_option linter.unusedSimpArgs false
set_option linter.unusedVariables false

section
variable {P : Program} {ρ : Rho} {n : Nat} {e : Operand → Value} {ev : Ev}

theorem fn_den : ∀ {x : AC} {u : Value} {f : Fn} {a l : List AC}, x.fn? = some (f, a, l) → x.den ρ n u →
    ∃ fs cs, u = .func f fs cs ∧ All2 (AC.den ρ n) a.reverse fs.toList ∧ All2 (AC.den ρ n) l.reverse cs.toList
  | .fn g, u, f, a, l, h, d => by
    simp only [AC.fn?, Option.some.injEq, Prod.mk.injEq] at h
    obtain ⟨rfl, rfl, rfl⟩ := h
    exact ⟨#[], #[], d, trivial, trivial⟩
  | .cap r x, u, f, a, l, h, d => by
    simp only [AC.fn?, Option.map_eq_some_iff] at h
    obtain ⟨⟨f', a', l'⟩, h1, h2⟩ := h
    simp only [Prod.mk.injEq] at h2
    obtain ⟨rfl, rfl, rfl⟩ := h2
    obtain ⟨g, fs, cs, y, hr, hx, rfl⟩ := d
    obtain ⟨fs', cs', he, h3, h4⟩ := fn_den h1 hr
    simp only [Value.func.injEq] at he
    obtain ⟨rfl, rfl, rfl⟩ := he
    exact ⟨fs, cs.push y, rfl, h3, by simpa using h4.app (l' := [_]) (m' := [_]) ⟨hx, trivial⟩⟩
  | .fst r x, u, f, a, l, h, d => by
    simp only [AC.fn?, Option.map_eq_some_iff] at h
    obtain ⟨⟨f', a', l'⟩, h1, h2⟩ := h
    simp only [Prod.mk.injEq] at h2
    obtain ⟨rfl, rfl, rfl⟩ := h2
    obtain ⟨g, fs, cs, y, hr, hx, rfl⟩ := d
    obtain ⟨fs', cs', he, h3, h4⟩ := fn_den h1 hr
    simp only [Value.func.injEq] at he
    obtain ⟨rfl, rfl, rfl⟩ := he
    exact ⟨fs.push y, cs, rfl, by simpa using h3.app (l' := [_]) (m' := [_]) ⟨hx, trivial⟩, h4⟩
  | .lit .., _, _, _, _, h, _ => by simp [AC.fn?] at h
  | .ptr .., _, _, _, _, h, _ => by simp [AC.fn?] at h
  | .sl .., _, _, _, _, h, _ => by simp [AC.fn?] at h
  | .ifc .., _, _, _, _, h, _ => by simp [AC.fn?] at h
theorem capFn_den {f : Fn} : ∀ {l : List AR} {us : List Value} {x : AC}, capFn f l = some x → All2 (AR.den ρ n) l us → x.den ρ n (.func f #[] us.reverse.toArray)
  | [], [], x, h, _ => by simp [capFn] at h; subst h; rfl
  | .one (.c y) :: l, u :: us, x, h, d => by
    simp only [capFn, Option.map_eq_some_iff] at h
    obtain ⟨r, hr, rfl⟩ := h
    exact ⟨f, #[], us.reverse.toArray, u, capFn_den hr d.2, d.1, by simp⟩
  | .one (.agg _) :: _, _ :: _, _, h, _ => by simp [capFn] at h
  | .tup _ :: _, _ :: _, _, h, _ => by simp [capFn] at h
  | .any :: _, _ :: _, _, h, _ => by simp [capFn] at h
  | [], _ :: _, _, _, d => d.elim
  | _ :: _, [], _, _, d => d.elim
theorem fstFn_den {f : Fn} : ∀ {l : List AR} {us : List Value} {x : AC}, fstFn f l = some x → All2 (AR.den ρ n) l us → x.den ρ n (.func f us.reverse.toArray #[])
  | [], [], x, h, _ => by simp [fstFn] at h; subst h; rfl
  | .one (.c y) :: l, u :: us, x, h, d => by
    simp only [fstFn, Option.map_eq_some_iff] at h
    obtain ⟨r, hr, rfl⟩ := h
    exact ⟨f, us.reverse.toArray, #[], u, fstFn_den hr d.2, d.1, by simp⟩
  | .one (.agg _) :: _, _ :: _, _, h, _ => by simp [fstFn] at h
  | .tup _ :: _, _ :: _, _, h, _ => by simp [fstFn] at h
  | .any :: _, _ :: _, _, h, _ => by simp [fstFn] at h
  | [], _ :: _, _, _, d => d.elim
  | _ :: _, [], _, _, d => d.elim
theorem evs_den : ∀ {l : List Operand}, EvOK ρ n ev e l → All2 (AR.den ρ n) (l.map ev) (l.map e)
  | [], _ => trivial
  | x :: l, h => ⟨h x (by simp), evs_den fun y hy => h y (by simp [hy])⟩
theorem intArg_den {x : AR} {k : Int} {u : Value} (h : intArg x = some k) (d : x.den ρ n u) : ∃ kd, u = .int kd k := by
  unfold intArg at h
  split at h
  · simp only [Option.some.injEq] at h; subst h; exact ⟨_, d.1⟩
  · simp at h
theorem bool_den {b : Bool} {u : Value} (d : (AR.one (.c (.lit (.bool b)))).den ρ n u) : u = .bool b := d.1

/-- What is asked of one operation. -/
def Quiet (P : Program) (e : Operand → Value) (ρ : Rho) (n : Nat) (o : Oper) (r : AR) (w : World) : Prop := ∃ v, (execOp e o).run P w = .ok (.value v) w ∧ r.den ρ n v

variable {dst : Option Tmp} {ty : TypeId} {pos : String} {after : Array Edge} {guard : Option (Nat × Bool)} {r : AR} {w : World}

theorem q_nilCheck {x : Operand} (h : pureA P ev ⟨dst, .nilCheck x, ty, pos, after, guard⟩ = some r) (he : (ev x).den ρ n (e x)) : Quiet P e ρ n ⟨dst, .nilCheck x, ty, pos, after, guard⟩ r w := by
  simp only [pureA] at h
  unfold Quiet
  simp only [execOp]
  split at h
  · rename_i id off hx; rw [hx] at he; obtain ⟨hl, hv⟩ := he
    simp only [Option.some.injEq] at h; subst h
    rw [hv]; exact ⟨_, rfl, hl, rfl⟩
  · rename_i a b hx; rw [hx] at he
    split at h
    · rename_i g l hf
      simp only [Option.some.injEq] at h; subst h
      obtain ⟨fs, cs, hv, _⟩ := fn_den (a := l.1) (l := l.2) hf he
      rw [hv]; exact ⟨_, rfl, hv ▸ he⟩
    · simp at h
  · rename_i f hx; rw [hx] at he
    simp only [Option.some.injEq] at h; subst h
    have hv : e x = .func (.func f) #[] #[] := he
    rw [hv]; exact ⟨_, rfl, rfl⟩
  · rename_i a b hx; rw [hx] at he
    split at h
    · rename_i g l hf
      simp only [Option.some.injEq] at h; subst h
      obtain ⟨fs, cs, hv, _⟩ := fn_den (a := l.1) (l := l.2) hf he
      rw [hv]; exact ⟨_, rfl, hv ▸ he⟩
    · simp at h
  · rename_i t c hx; rw [hx] at he; obtain ⟨y, hv, hy⟩ := he
    simp only [Option.some.injEq] at h; subst h
    rw [hv]; exact ⟨_, rfl, y, rfl, hy⟩
  · simp at h
theorem q_makeFunc {f : Fn} {first captured : Array Operand} (h : pureA P ev ⟨dst, .makeFunc f first captured, ty, pos, after, guard⟩ = some r)
    (he : EvOK ρ n ev e (first ++ captured).toList) : Quiet P e ρ n ⟨dst, .makeFunc f first captured, ty, pos, after, guard⟩ r w := by
  simp only [pureA] at h
  have run : (execOp e ⟨dst, .makeFunc f first captured, ty, pos, after, guard⟩).run P w = .ok (.value (.func f (first.map e) (captured.map e))) w := rfl
  refine ⟨_, run, ?_⟩
  have h1 := evs_den (fun x hx => he x (by simp at hx ⊢; exact .inl hx) : EvOK ρ n ev e first.toList)
  have h2 := evs_den (fun x hx => he x (by simp at hx ⊢; exact .inr hx) : EvOK ρ n ev e captured.toList)
  split at h
  · rename_i hf
    simp only [Option.map_eq_some_iff] at h
    obtain ⟨x, hx, rfl⟩ := h
    have := capFn_den hx h2.rev
    have e1 : first.map e = #[] := by rw [show first = #[] from by simpa using hf]; simp
    have e2 : (List.map e captured.toList).reverse.reverse.toArray = captured.map e := by simp [← Array.toList_map]
    rw [e1, ← e2]; exact this
  · split at h
    · rename_i hc
      simp only [Option.map_eq_some_iff] at h
      obtain ⟨x, hx, rfl⟩ := h
      have := fstFn_den hx h1.rev
      have e1 : captured.map e = #[] := by rw [show captured = #[] from by simpa using hc]; simp
      have e2 : (List.map e first.toList).reverse.reverse.toArray = first.map e := by simp [← Array.toList_map]
      rw [e1, ← e2]; exact this
    · simp at h
theorem q_fieldAddr {s : TypeId} {x : Operand} {f : Nat} (h : pureA P ev ⟨dst, .fieldAddr s x f, ty, pos, after, guard⟩ = some r) (he : (ev x).den ρ n (e x)) :
    Quiet P e ρ n ⟨dst, .fieldAddr s x f, ty, pos, after, guard⟩ r w := by
  simp only [pureA] at h
  split at h
  · rename_i off ft k id o hf hx
    simp only [Option.some.injEq] at h; subst h
    rw [hx] at he; obtain ⟨hl, hv⟩ := he
    obtain ⟨fields, y, hu, hy, rfl, rfl, hs⟩ := fieldOf_spec hf
    refine ⟨.pointer (some ⟨ρ.blk id, ρ.base id + (o + y.offset), none⟩), ?_, hl, rfl⟩
    have ha : (⟨ρ.blk id, ρ.base id + o, none⟩ : Addr).add y.offset = ⟨ρ.blk id, ρ.base id + (o + y.offset), none⟩ := by
      unfold Addr.add; split <;> simp_all [Nat.add_assoc]
    simp [execOp, Instr.fieldAt, run_underlying hu, hy, hv, Instr.sureAddr, fieldPlace, run_size hs, ha]
  · simp at h
theorem q_field {t : TypeId} {x : Operand} {f : Nat} (h : pureA P ev ⟨dst, .field t x f, ty, pos, after, guard⟩ = some r) (he : (ev x).den ρ n (e x)) :
    Quiet P e ρ n ⟨dst, .field t x f, ty, pos, after, guard⟩ r w := by
  simp only [pureA] at h
  split at h
  · rename_i fields cs hu hx
    rw [hx] at he; obtain ⟨vs, hv, hd⟩ := he
    split at h
    · rename_i y hy
      simp only [Option.map_eq_some_iff] at h
      obtain ⟨a, ha, rfl⟩ := h
      obtain ⟨v, hr, hdv⟩ := run_part ha hd w
      exact ⟨v, by simp [execOp, Instr.field, run_underlying hu, hy, hv, asAgg, hr], hdv⟩
    · simp at h
  · simp at h
theorem add_at (b o k : Nat) : (⟨b, o, none⟩ : Addr).add k = ⟨b, o + k, none⟩ := by unfold Addr.add; split <;> simp_all
theorem q_indexAddr {t : TypeId} {x i : Operand} (h : pureA P ev ⟨dst, .indexAddr t x i, ty, pos, after, guard⟩ = some r) (he : (ev x).den ρ n (e x)) (hi : (ev i).den ρ n (e i)) :
    Quiet P e ρ n ⟨dst, .indexAddr t x i, ty, pos, after, guard⟩ r w := by
  simp only [pureA] at h
  split at h
  · rename_i k hk
    obtain ⟨kd, hi⟩ := intArg_den hk hi
    split at h
    · rename_i len el id off hu hx
      rw [hx] at he; obtain ⟨hl, hv⟩ := he
      split at h
      · rename_i s hs
        cases hb : Nat.blt k len with
        | false => simp only [hb, cond_false, reduceCtorEq] at h
        | true =>
          simp only [hb, cond_true, Option.some.injEq] at h; subst h
          have hlt : k < len := by simpa [Nat.blt_eq] using hb
          refine ⟨_, ?_, hl, rfl⟩
          have h0 : (0 : Int) ≤ (k : Int) ∧ (k : Int) < (len : Int) := by omega
          simp [execOp, Instr.indexAt, hi, asIntOf, run_underlying hu, hv, Instr.sureAddr, run_size hs, h0, add_at, Nat.add_assoc, hlt]
      · simp at h
    · rename_i el id off len cp es ex hu hx
      rw [hx] at he; obtain ⟨hl, hc, o, c, hv, ho, hx1, hx2⟩ := he
      split at h
      · rename_i s hs
        cases hb : (Nat.blt k len && Nat.beq s es) with
        | false => simp only [hb, cond_false, reduceCtorEq] at h
        | true =>
          simp only [hb, cond_true, Option.some.injEq] at h; subst h
          simp only [Bool.and_eq_true, Nat.blt_eq] at hb
          have hlt : k < len := hb.1
          have hcap : c ≠ 0 := by
            cases ex with
            | true => have := hx1 rfl; omega
            | false => have := hx2 rfl; omega
          refine ⟨_, ?_, hl, rfl⟩
          have h0 : (0 : Int) ≤ (k : Int) ∧ (k : Int) < (len : Int) := by omega
          simp [execOp, Instr.indexAt, hi, asIntOf, run_underlying hu, hv, run_size hs, h0, add_at, Nat.add_assoc, hlt, ho hcap]
      · simp at h
    · simp at h
  · simp at h
theorem q_index {t : TypeId} {x i : Operand} (h : pureA P ev ⟨dst, .index t x i, ty, pos, after, guard⟩ = some r) (he : EvOK ρ n ev e [x, i]) :
    Quiet P e ρ n ⟨dst, .index t x i, ty, pos, after, guard⟩ r w := by
  simp only [pureA] at h
  split at h
  · rename_i r' hr; simp only [Option.some.injEq] at h; subst h; exact scal_sound hr he w
  · split at h
    · rename_i k len el cs hk hu hx
      have hex := he x (by simp)
      rw [hx] at hex; obtain ⟨vs, hv, hd⟩ := hex
      obtain ⟨kd, hi⟩ := intArg_den hk (he i (by simp))
      split at h
      · rename_i s hs
        cases hb : Nat.blt k len with
        | false => simp only [hb, cond_false, reduceCtorEq] at h
        | true =>
          simp only [hb, cond_true, Option.map_eq_some_iff] at h
          obtain ⟨a, ha, rfl⟩ := h
          have hlt : k < len := by simpa [Nat.blt_eq] using hb
          have h0 : (0 : Int) ≤ (k : Int) ∧ (k : Int) < (len : Int) := by omega
          obtain ⟨v, hr, hdv⟩ := run_part ha hd w
          exact ⟨v, by simp [execOp, Instr.index, hi, asIntOf, run_underlying hu, hv, run_size hs, h0, hr, hlt], hdv⟩
      · simp at h
    · simp at h
end
end Go.Proofs.YtbifklibdkjbeaaGreatDoor
