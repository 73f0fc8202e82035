/-
  Several texts in one: Operations that look at no memory: each one. No condition. Operations that look at no memory: all. No condition. Operations that look at no memory: slices, literals, and all of them together. No condition. Operations that look at no memory: all of them together. No condition.
-/
import Derived.Test.YtgobcnheemocnaaGreatDoorMg4
section
namespace Go.Proofs.YtgobcnheemocnaaGreatDoor
open Go
set_option linter.unusedSimpArgs false
set_option linter.unusedVariables false

section
variable {P : Program} {ρ : Rho} {n : Nat} {e : Operand → Value} {ev : Ev}

theorem fn_den : ∀ {x : AC} {u : Value} {f : Fn} {a l : List AC}, x.fn? = some (f, a, l) → x.den ρ n u →
    ∃ fs cs, u = .func f fs cs ∧ All2 (AC.den ρ n) a.reverse fs.toList ∧ All2 (AC.den ρ n) l.reverse cs.toList
  | .fn g, u, f, a, l, h, d => by
    simp only [AC.fn?, Option.some.injEq, Prod.mk.injEq] at h
    obtain ⟨rfl, rfl, rfl⟩ := h
    exact ⟨#[], #[], d, trivial, trivial⟩
  | .cap r x, u, f, a, l, h, d => by
    simp only [AC.fn?, Option.map_eq_some_iff] at h
    obtain ⟨⟨f', a', l'⟩, h1, h2⟩ := h
    simp only [Prod.mk.injEq] at h2
    obtain ⟨rfl, rfl, rfl⟩ := h2
    obtain ⟨g, fs, cs, y, hr, hx, rfl⟩ := d
    obtain ⟨fs', cs', he, h3, h4⟩ := fn_den h1 hr
    simp only [Value.func.injEq] at he
    obtain ⟨rfl, rfl, rfl⟩ := he
    exact ⟨fs, cs.push y, rfl, h3, by simpa using h4.app (l' := [_]) (m' := [_]) ⟨hx, trivial⟩⟩
  | .fst r x, u, f, a, l, h, d => by
    simp only [AC.fn?, Option.map_eq_some_iff] at h
    obtain ⟨⟨f', a', l'⟩, h1, h2⟩ := h
    simp only [Prod.mk.injEq] at h2
    obtain ⟨rfl, rfl, rfl⟩ := h2
    obtain ⟨g, fs, cs, y, hr, hx, rfl⟩ := d
    obtain ⟨fs', cs', he, h3, h4⟩ := fn_den h1 hr
    simp only [Value.func.injEq] at he
    obtain ⟨rfl, rfl, rfl⟩ := he
    exact ⟨fs.push y, cs, rfl, by simpa using h3.app (l' := [_]) (m' := [_]) ⟨hx, trivial⟩, h4⟩
  | .lit .., _, _, _, _, h, _ => by simp [AC.fn?] at h
  | .ptr .., _, _, _, _, h, _ => by simp [AC.fn?] at h
  | .sl .., _, _, _, _, h, _ => by simp [AC.fn?] at h
  | .ifc .., _, _, _, _, h, _ => by simp [AC.fn?] at h
theorem capFn_den {f : Fn} : ∀ {l : List AR} {us : List Value} {x : AC}, capFn f l = some x → All2 (AR.den ρ n) l us → x.den ρ n (.func f #[] us.reverse.toArray)
  | [], [], x, h, _ => by simp [capFn] at h; subst h; rfl
  | .one (.c y) :: l, u :: us, x, h, d => by
    simp only [capFn, Option.map_eq_some_iff] at h
    obtain ⟨r, hr, rfl⟩ := h
    exact ⟨f, #[], us.reverse.toArray, u, capFn_den hr d.2, d.1, by simp⟩
  | .one (.agg _) :: _, _ :: _, _, h, _ => by simp [capFn] at h
  | .tup _ :: _, _ :: _, _, h, _ => by simp [capFn] at h
  | .any :: _, _ :: _, _, h, _ => by simp [capFn] at h
  | [], _ :: _, _, _, d => d.elim
  | _ :: _, [], _, _, d => d.elim
theorem fstFn_den {f : Fn} : ∀ {l : List AR} {us : List Value} {x : AC}, fstFn f l = some x → All2 (AR.den ρ n) l us → x.den ρ n (.func f us.reverse.toArray #[])
  | [], [], x, h, _ => by simp [fstFn] at h; subst h; rfl
  | .one (.c y) :: l, u :: us, x, h, d => by
    simp only [fstFn, Option.map_eq_some_iff] at h
    obtain ⟨r, hr, rfl⟩ := h
    exact ⟨f, us.reverse.toArray, #[], u, fstFn_den hr d.2, d.1, by simp⟩
  | .one (.agg _) :: _, _ :: _, _, h, _ => by simp [fstFn] at h
  | .tup _ :: _, _ :: _, _, h, _ => by simp [fstFn] at h
  | .any :: _, _ :: _, _, h, _ => by simp [fstFn] at h
  | [], _ :: _, _, _, d => d.elim
  | _ :: _, [], _, _, d => d.elim
theorem evs_den : ∀ {l : List Operand}, EvOK ρ n ev e l → All2 (AR.den ρ n) (l.map ev) (l.map e)
  | [], _ => trivial
  | x :: l, h => ⟨h x (by simp), evs_den fun y hy => h y (by simp [hy])⟩
theorem intArg_den {x : AR} {k : Int} {u : Value} (h : intArg x = some k) (d : x.den ρ n u) : ∃ kd, u = .int kd k := by
  unfold intArg at h
  split at h
  · simp only [Option.some.injEq] at h; subst h; exact ⟨_, d.1⟩
  · simp at h
theorem bool_den {b : Bool} {u : Value} (d : (AR.one (.c (.lit (.bool b)))).den ρ n u) : u = .bool b := d.1

/-- What is asked of one operation. -/
def Quiet (P : Program) (e : Operand → Value) (ρ : Rho) (n : Nat) (o : Oper) (r : AR) (w : World) : Prop := ∃ v, (execOp e o).run P w = .ok (.value v) w ∧ r.den ρ n v

variable {dst : Option Tmp} {ty : TypeId} {pos : String} {after : Array Edge} {guard : Option (Nat × Bool)} {r : AR} {w : World}

theorem q_nilCheck {x : Operand} (h : pureA P ev ⟨dst, .nilCheck x, ty, pos, after, guard⟩ = some r) (he : (ev x).den ρ n (e x)) : Quiet P e ρ n ⟨dst, .nilCheck x, ty, pos, after, guard⟩ r w := by
  simp only [pureA] at h
  unfold Quiet
  simp only [execOp]
  split at h
  · rename_i id off hx; rw [hx] at he; obtain ⟨hl, hv⟩ := he
    simp only [Option.some.injEq] at h; subst h
    rw [hv]; exact ⟨_, rfl, hl, rfl⟩
  · rename_i a b hx; rw [hx] at he
    split at h
    · rename_i g l hf
      simp only [Option.some.injEq] at h; subst h
      obtain ⟨fs, cs, hv, _⟩ := fn_den (a := l.1) (l := l.2) hf he
      rw [hv]; exact ⟨_, rfl, hv ▸ he⟩
    · simp at h
  · rename_i f hx; rw [hx] at he
    simp only [Option.some.injEq] at h; subst h
    have hv : e x = .func (.func f) #[] #[] := he
    rw [hv]; exact ⟨_, rfl, rfl⟩
  · rename_i a b hx; rw [hx] at he
    split at h
    · rename_i g l hf
      simp only [Option.some.injEq] at h; subst h
      obtain ⟨fs, cs, hv, _⟩ := fn_den (a := l.1) (l := l.2) hf he
      rw [hv]; exact ⟨_, rfl, hv ▸ he⟩
    · simp at h
  · rename_i t c hx; rw [hx] at he; obtain ⟨y, hv, hy⟩ := he
    simp only [Option.some.injEq] at h; subst h
    rw [hv]; exact ⟨_, rfl, y, rfl, hy⟩
  · simp at h
theorem q_makeFunc {f : Fn} {first captured : Array Operand} (h : pureA P ev ⟨dst, .makeFunc f first captured, ty, pos, after, guard⟩ = some r)
    (he : EvOK ρ n ev e (first ++ captured).toList) : Quiet P e ρ n ⟨dst, .makeFunc f first captured, ty, pos, after, guard⟩ r w := by
  simp only [pureA] at h
  have run : (execOp e ⟨dst, .makeFunc f first captured, ty, pos, after, guard⟩).run P w = .ok (.value (.func f (first.map e) (captured.map e))) w := rfl
  refine ⟨_, run, ?_⟩
  have h1 := evs_den (fun x hx => he x (by simp at hx ⊢; exact .inl hx) : EvOK ρ n ev e first.toList)
  have h2 := evs_den (fun x hx => he x (by simp at hx ⊢; exact .inr hx) : EvOK ρ n ev e captured.toList)
  split at h
  · rename_i hf
    simp only [Option.map_eq_some_iff] at h
    obtain ⟨x, hx, rfl⟩ := h
    have := capFn_den hx h2.rev
    have e1 : first.map e = #[] := by rw [show first = #[] from by simpa using hf]; simp
    have e2 : (List.map e captured.toList).reverse.reverse.toArray = captured.map e := by simp [← Array.toList_map]
    rw [e1, ← e2]; exact this
  · split at h
    · rename_i hc
      simp only [Option.map_eq_some_iff] at h
      obtain ⟨x, hx, rfl⟩ := h
      have := fstFn_den hx h1.rev
      have e1 : captured.map e = #[] := by rw [show captured = #[] from by simpa using hc]; simp
      have e2 : (List.map e first.toList).reverse.reverse.toArray = first.map e := by simp [← Array.toList_map]
      rw [e1, ← e2]; exact this
    · simp at h
theorem q_fieldAddr {s : TypeId} {x : Operand} {f : Nat} (h : pureA P ev ⟨dst, .fieldAddr s x f, ty, pos, after, guard⟩ = some r) (he : (ev x).den ρ n (e x)) :
    Quiet P e ρ n ⟨dst, .fieldAddr s x f, ty, pos, after, guard⟩ r w := by
  simp only [pureA] at h
  split at h
  · rename_i off ft k id o hf hx
    simp only [Option.some.injEq] at h; subst h
    rw [hx] at he; obtain ⟨hl, hv⟩ := he
    obtain ⟨fields, y, hu, hy, rfl, rfl, hs⟩ := fieldOf_spec hf
    refine ⟨.pointer (some ⟨ρ.blk id, ρ.base id + (o + y.offset), none⟩), ?_, hl, rfl⟩
    have ha : (⟨ρ.blk id, ρ.base id + o, none⟩ : Addr).add y.offset = ⟨ρ.blk id, ρ.base id + (o + y.offset), none⟩ := by
      unfold Addr.add; split <;> simp_all [Nat.add_assoc]
    simp [execOp, Instr.fieldAt, run_underlying hu, hy, hv, Instr.sureAddr, fieldPlace, run_size hs, ha]
  · simp at h
theorem q_field {t : TypeId} {x : Operand} {f : Nat} (h : pureA P ev ⟨dst, .field t x f, ty, pos, after, guard⟩ = some r) (he : (ev x).den ρ n (e x)) :
    Quiet P e ρ n ⟨dst, .field t x f, ty, pos, after, guard⟩ r w := by
  simp only [pureA] at h
  split at h
  · rename_i fields cs hu hx
    rw [hx] at he; obtain ⟨vs, hv, hd⟩ := he
    split at h
    · rename_i y hy
      simp only [Option.map_eq_some_iff] at h
      obtain ⟨a, ha, rfl⟩ := h
      obtain ⟨v, hr, hdv⟩ := run_part ha hd w
      exact ⟨v, by simp [execOp, Instr.field, run_underlying hu, hy, hv, asAgg, hr], hdv⟩
    · simp at h
  · simp at h
theorem add_at (b o k : Nat) : (⟨b, o, none⟩ : Addr).add k = ⟨b, o + k, none⟩ := by unfold Addr.add; split <;> simp_all
theorem q_indexAddr {t : TypeId} {x i : Operand} (h : pureA P ev ⟨dst, .indexAddr t x i, ty, pos, after, guard⟩ = some r) (he : (ev x).den ρ n (e x)) (hi : (ev i).den ρ n (e i)) :
    Quiet P e ρ n ⟨dst, .indexAddr t x i, ty, pos, after, guard⟩ r w := by
  simp only [pureA] at h
  split at h
  · rename_i k hk
    obtain ⟨kd, hi⟩ := intArg_den hk hi
    split at h
    · rename_i len el id off hu hx
      rw [hx] at he; obtain ⟨hl, hv⟩ := he
      split at h
      · rename_i s hs
        cases hb : Nat.blt k len with
        | false => simp only [hb, cond_false, reduceCtorEq] at h
        | true =>
          simp only [hb, cond_true, Option.some.injEq] at h; subst h
          have hlt : k < len := by simpa [Nat.blt_eq] using hb
          refine ⟨_, ?_, hl, rfl⟩
          have h0 : (0 : Int) ≤ (k : Int) ∧ (k : Int) < (len : Int) := by omega
          simp [execOp, Instr.indexAt, hi, asIntOf, run_underlying hu, hv, Instr.sureAddr, run_size hs, h0, add_at, Nat.add_assoc, hlt]
      · simp at h
    · rename_i el id off len cp es ex hu hx
      rw [hx] at he; obtain ⟨hl, hc, o, c, hv, ho, hx1, hx2⟩ := he
      split at h
      · rename_i s hs
        cases hb : (Nat.blt k len && Nat.beq s es) with
        | false => simp only [hb, cond_false, reduceCtorEq] at h
        | true =>
          simp only [hb, cond_true, Option.some.injEq] at h; subst h
          simp only [Bool.and_eq_true, Nat.blt_eq] at hb
          have hlt : k < len := hb.1
          have hcap : c ≠ 0 := by
            cases ex with
            | true => have := hx1 rfl; omega
            | false => have := hx2 rfl; omega
          refine ⟨_, ?_, hl, rfl⟩
          have h0 : (0 : Int) ≤ (k : Int) ∧ (k : Int) < (len : Int) := by omega
          simp [execOp, Instr.indexAt, hi, asIntOf, run_underlying hu, hv, run_size hs, h0, add_at, Nat.add_assoc, hlt, ho hcap]
      · simp at h
    · simp at h
  · simp at h
theorem q_index {t : TypeId} {x i : Operand} (h : pureA P ev ⟨dst, .index t x i, ty, pos, after, guard⟩ = some r) (he : EvOK ρ n ev e [x, i]) :
    Quiet P e ρ n ⟨dst, .index t x i, ty, pos, after, guard⟩ r w := by
  simp only [pureA] at h
  split at h
  · rename_i r' hr; simp only [Option.some.injEq] at h; subst h; exact scal_sound hr he w
  · split at h
    · rename_i k len el cs hk hu hx
      have hex := he x (by simp)
      rw [hx] at hex; obtain ⟨vs, hv, hd⟩ := hex
      obtain ⟨kd, hi⟩ := intArg_den hk (he i (by simp))
      split at h
      · rename_i s hs
        cases hb : Nat.blt k len with
        | false => simp only [hb, cond_false, reduceCtorEq] at h
        | true =>
          simp only [hb, cond_true, Option.map_eq_some_iff] at h
          obtain ⟨a, ha, rfl⟩ := h
          have hlt : k < len := by simpa [Nat.blt_eq] using hb
          have h0 : (0 : Int) ≤ (k : Int) ∧ (k : Int) < (len : Int) := by omega
          obtain ⟨v, hr, hdv⟩ := run_part ha hd w
          exact ⟨v, by simp [execOp, Instr.index, hi, asIntOf, run_underlying hu, hv, run_size hs, h0, hr, hlt], hdv⟩
      · simp at h
    · simp at h
end
end Go.Proofs.YtgobcnheemocnaaGreatDoor
end
section
namespace Go.Proofs.YtgobcnheemocnaaGreatDoor
open Go
set_option linter.unusedSimpArgs false
set_option linter.unusedVariables false

section
variable {P : Program} {ρ : Rho} {n : Nat} {e : Operand → Value} {ev : Ev}
variable {dst : Option Tmp} {ty : TypeId} {pos : String} {after : Array Edge} {guard : Option (Nat × Bool)} {r : AR} {w : World}

theorem eq_once {t : TypeId} {x y : Value} {b : Bool} (h : (Op.equalIn (9999 + 1) t x y).run P w = .ok b w) : (Op.equal t x y).run P w = .ok b w := h
theorem q_bin {op : BinOp} {t yt : TypeId} {x y : Operand} (h : pureA P ev ⟨dst, .binOp op t x y yt, ty, pos, after, guard⟩ = some r) (he : EvOK ρ n ev e [x, y]) :
    Quiet P e ρ n ⟨dst, .binOp op t x y yt, ty, pos, after, guard⟩ r w := by
  simp only [pureA] at h
  split at h
  · rename_i r' hr; simp only [Option.some.injEq] at h; subst h; exact scal_sound hr he w
  · have hx := he x (by simp)
    have hy := he y (by simp)
    have key : ∀ b : Bool, (Op.equal t (e x) (e y)).run P w = .ok b w → (∀ (w : World), (eqGuard op t x y (e x) (e y)).run P w = .ok () w) →
        (∀ k, e x ≠ .int k 0 ∨ True) → (match e x, e y with | .int .., _ | .float .., _ | .complex .., _ | .string _, _ => False | _, _ => True) →
        (op = .eql ∧ r = .one (.c (.lit (.bool b))) ∨ op = .neq ∧ r = .one (.c (.lit (.bool !b)))) → Quiet P e ρ n ⟨dst, .binOp op t x y yt, ty, pos, after, guard⟩ r w := by
      intro b hb hg _ hm hr
      rcases hr with ⟨rfl, rfl⟩ | ⟨rfl, rfl⟩
      · refine ⟨.bool b, ?_, rfl, rfl⟩
        have hbin : binOp .eql t (e x) (e y) = (do pure (.bool (← Op.equal t (e x) (e y)))) := by
          cases hex : e x <;> simp [hex] at hm <;> cases e y <;> rfl
        simp [execOp, hg, hbin, hb]
      · refine ⟨.bool !b, ?_, rfl, rfl⟩
        have hbin : binOp .neq t (e x) (e y) = (do pure (.bool (!(← Op.equal t (e x) (e y))))) := by
          cases hex : e x <;> simp [hex] at hm <;> cases e y <;> rfl
        simp [execOp, hg, hbin, hb]
    generalize hz : nilCmp P t (ev x) (ev y) = z at h
    cases z with
    | none => simp at h
    | some b =>
      have hr : op = .eql ∧ r = .one (.c (.lit (.bool b))) ∨ op = .neq ∧ r = .one (.c (.lit (.bool !b))) := by
        cases op <;> first | exact .inl ⟨rfl, (Option.some.inj h).symm⟩ | exact .inr ⟨rfl, (Option.some.inj h).symm⟩ | (exact absurd h (by intro h; cases h))
      clear h
      unfold nilCmp at hz
      split at hz
      · rename_i el i o hu h1 h2
        rw [h1] at hx; rw [h2] at hy
        simp only [Option.some.injEq] at hz; subst hz
        have ex : e x = _ := hx.2
        have ey : e y = _ := hy.1
        refine key false ?_ (fun w => by rw [ex, ey]; rcases hr with ⟨rfl, _⟩ | ⟨rfl, _⟩ <;> rfl) (fun _ => .inr trivial) (by rw [ex, ey]; trivial) hr
        rw [ex, ey]; exact eq_once (by rw [Op.equalIn]; simp [run_underlying hu])
      · rename_i el i o hu h1 h2
        rw [h1] at hx; rw [h2] at hy
        simp only [Option.some.injEq] at hz; subst hz
        have ex : e x = _ := hx.1
        have ey : e y = _ := hy.2
        refine key false ?_ (fun w => by rw [ex, ey]; rcases hr with ⟨rfl, _⟩ | ⟨rfl, _⟩ <;> rfl) (fun _ => .inr trivial) (by rw [ex, ey]; trivial) hr
        rw [ex, ey]; exact eq_once (by rw [Op.equalIn]; simp [run_underlying hu])
      · rename_i el i o j p hu h1 h2
        rw [h1] at hx; rw [h2] at hy
        have ex : e x = _ := hx.2
        have ey : e y = _ := hy.2
        split at hz
        · rename_i k hk
          cases hij : Nat.beq i j with
          | false => simp only [hij, cond_false, reduceCtorEq] at hz
          | true =>
            have : i = j := Nat.eq_of_beq_eq_true hij
            subst this
            simp only [hij, cond_true, Option.some.injEq] at hz
            refine key b ?_ (fun w => by rw [ex, ey]; rcases hr with ⟨rfl, _⟩ | ⟨rfl, _⟩ <;> rfl) (fun _ => .inr trivial) (by rw [ex, ey]; trivial) hr
            rw [ex, ey]
            have : ((⟨ρ.blk i, ρ.base i + o, none⟩ : Addr) == ⟨ρ.blk i, ρ.base i + p, none⟩) = b := by
              rw [← hz, Bool.eq_iff_iff]; simp [Nat.beq_eq]
            exact eq_once (by rw [Op.equalIn]; simp [run_underlying hu, run_size hk, sameAddr, this])
        · simp at hz
      · rename_i el i o l c s x' a b' hu h1 h2
        rw [h1] at hx; rw [h2] at hy
        simp only [Option.some.injEq] at hz; subst hz
        obtain ⟨_, _, o, c, ex, _⟩ := hx
        have ey : e y = _ := hy.1
        refine key false ?_ (fun w => by rw [ex, ey]; rcases hr with ⟨rfl, _⟩ | ⟨rfl, _⟩ <;> rfl) (fun _ => .inr trivial) (by rw [ex, ey]; trivial) hr
        rw [ex, ey]; exact eq_once (by rw [Op.equalIn]; simp [run_underlying hu])
      · rename_i el a b' i o l c s x' hu h1 h2
        rw [h1] at hx; rw [h2] at hy
        simp only [Option.some.injEq] at hz; subst hz
        obtain ⟨_, _, o, c, ey, _⟩ := hy
        have ex : e x = _ := hx.1
        refine key false ?_ (fun w => by rw [ex, ey]; rcases hr with ⟨rfl, _⟩ | ⟨rfl, _⟩ <;> rfl) (fun _ => .inr trivial) (by rw [ex, ey]; trivial) hr
        rw [ex, ey]; exact eq_once (by rw [Op.equalIn]; simp [run_underlying hu])
      · rename_i ms tt c hu h1 h2
        rw [h1] at hx; rw [h2] at hy
        simp only [Option.some.injEq] at hz; subst hz
        obtain ⟨v, ex, _⟩ := hx
        have ey : e y = _ := hy.1
        refine key false ?_ (fun w => by rw [ex, ey]; rcases hr with ⟨rfl, _⟩ | ⟨rfl, _⟩ <;> rfl) (fun _ => .inr trivial) (by rw [ex, ey]; trivial) hr
        rw [ex, ey]; exact eq_once (by rw [Op.equalIn]; simp [run_underlying hu])
      · rename_i ms tt c hu h1 h2
        rw [h1] at hx; rw [h2] at hy
        simp only [Option.some.injEq] at hz; subst hz
        obtain ⟨v, ey, _⟩ := hy
        have ex : e x = _ := hx.1
        refine key false ?_ (fun w => by rw [ex, ey]; rcases hr with ⟨rfl, _⟩ | ⟨rfl, _⟩ <;> rfl) (fun _ => .inr trivial) (by rw [ex, ey]; trivial) hr
        rw [ex, ey]; exact eq_once (by rw [Op.equalIn]; simp [run_underlying hu])
      · rename_i a1 a2 a3 tt c hu h1 h2
        rw [h1] at hx; rw [h2] at hy
        simp only [Option.some.injEq] at hz; subst hz
        obtain ⟨_, _, _, _, _, _, ex⟩ := hx
        have ey : e y = _ := hy.1
        refine key false ?_ (fun w => by rw [ex, ey]; rcases hr with ⟨rfl, _⟩ | ⟨rfl, _⟩ <;> rfl) (fun _ => .inr trivial) (by rw [ex, ey]; trivial) hr
        rw [ex, ey]; exact eq_once (by rw [Op.equalIn]; simp [run_underlying hu])
      · rename_i a1 a2 a3 tt c hu h1 h2
        rw [h1] at hx; rw [h2] at hy
        simp only [Option.some.injEq] at hz; subst hz
        obtain ⟨_, _, _, _, _, _, ex⟩ := hx
        have ey : e y = _ := hy.1
        refine key false ?_ (fun w => by rw [ex, ey]; rcases hr with ⟨rfl, _⟩ | ⟨rfl, _⟩ <;> rfl) (fun _ => .inr trivial) (by rw [ex, ey]; trivial) hr
        rw [ex, ey]; exact eq_once (by rw [Op.equalIn]; simp [run_underlying hu])
      · simp at hz
theorem q_iface {t : TypeId} {x : Operand} (h : pureA P ev ⟨dst, .makeInterface t x, ty, pos, after, guard⟩ = some r) (he : EvOK ρ n ev e [x]) :
    Quiet P e ρ n ⟨dst, .makeInterface t x, ty, pos, after, guard⟩ r w := by
  simp only [pureA] at h
  split at h
  · rename_i r' hr; simp only [Option.some.injEq] at h; subst h; exact scal_sound hr he w
  · split at h
    · simp at h
    · rename_i d c hne hu hx
      simp only [Option.some.injEq] at h; subst h
      have hd := he x (by simp)
      rw [hx] at hd
      refine ⟨.iface t (e x), ?_, _, rfl, hd⟩
      cases d <;> first
        | (simp [execOp, Instr.makeInterface, run_underlying hu]; done)
        | (exact absurd hu (by intro hh; simp_all))
    · simp at h
end
end Go.Proofs.YtgobcnheemocnaaGreatDoor
end
section
namespace Go.Proofs.YtgobcnheemocnaaGreatDoor
open Go
set_option linter.unusedSimpArgs false
set_option linter.unusedVariables false

section
variable {P : Program} {ρ : Rho} {n : Nat} {e : Operand → Value} {ev : Ev}
variable {dst : Option Tmp} {ty : TypeId} {pos : String} {after : Array Edge} {guard : Option (Nat × Bool)} {r : AR} {w : World}

def Bd (e : Operand → Value) : Option Operand → Option Int → Prop
  | none, none => True
  | some y, some k => ∃ kd, e y = .int kd k
  | _, _ => False
theorem bound_den {x : Option Operand} {b : Option Int} (h : bound (x.map ev) = some b) (he : ∀ y ∈ x, (ev y).den ρ n (e y)) : Bd e x b := by
  cases x with
  | none => simp [bound] at h; subst h; trivial
  | some y =>
    simp only [bound, Option.map_some, Option.map_eq_some_iff] at h
    obtain ⟨k, hk, rfl⟩ := h
    exact intArg_den hk (he y rfl)
/-- Three bounds in order: what the model's own check says. -/
theorem run_bounds {isSlice : Bool} {len cap : Nat} {lo hi mx : Option Operand} {l h m : Option Int}
    (hl : Bd e lo l)
    (hh : Bd e hi h)
    (hm : Bd e mx m)
    (h0 : 0 ≤ l.getD 0) (h1 : l.getD 0 ≤ h.getD len) (h2 : h.getD len ≤ m.getD cap) (h3 : m.getD cap ≤ cap) (hx : (h.isSome || !m.isSome) = true) :
    (Instr.sliceBounds isSlice len cap (lo.map e) (hi.map e) (mx.map e)).run P w = .ok ((l.getD 0).toNat, (h.getD len).toNat, (m.getD cap).toNat) w := by
  have sb : ∀ (v : Value) (kd : IntKind) (k : Int) (y : Nat) (c : BoundsCode), v = .int kd k → 0 ≤ k → k ≤ y → (Instr.sliceBound v y c).run P w = .ok k.toNat w := by
    intro v kd k y c hv a b
    subst hv
    simp [Instr.sliceBound, asIntOf, a, b]
  cases mx with
  | none =>
    cases m with
    | some _ => exact hm.elim
    | none =>
      simp only [Option.getD_none] at *
      cases hi with
      | none =>
        cases h with
        | some _ => exact hh.elim
        | none =>
          simp only [Option.getD_none] at *
          cases lo with
          | none => cases l with
            | some _ => exact hl.elim
            | none => simp [Instr.sliceBounds]
          | some y => cases l with
            | none => exact hl.elim
            | some k =>
              obtain ⟨kd, hk⟩ := hl
              simp only [Option.getD_some] at *
              simp [Instr.sliceBounds, sb _ kd k len .sliceB hk h0 h1]
      | some z =>
        cases h with
        | none => exact hh.elim
        | some j =>
          obtain ⟨kd', hj⟩ := hh
          simp only [Option.getD_some] at *
          have s1 := fun c => sb _ kd' j cap c hj (by omega) h2
          cases lo with
          | none => cases l with
            | some _ => exact hl.elim
            | none => simp [Instr.sliceBounds, s1]
          | some y => cases l with
            | none => exact hl.elim
            | some k =>
              obtain ⟨kd, hk⟩ := hl
              simp only [Option.getD_some] at *
              have s2 := fun c => sb _ kd k j.toNat c hk h0 (by omega)
              simp [Instr.sliceBounds, s1, s2]
  | some u =>
    cases m with
    | none => exact hm.elim
    | some i =>
      obtain ⟨kd'', hi'⟩ := hm
      simp only [Option.getD_some] at *
      have s0 := fun c => sb _ kd'' i cap c hi' (by omega) h3
      cases hi with
      | none => cases h with
        | some _ => exact hh.elim
        | none => simp at hx
      | some z =>
        cases h with
        | none => exact hh.elim
        | some j =>
          obtain ⟨kd', hj⟩ := hh
          simp only [Option.getD_some] at *
          have s1 := fun c => sb _ kd' j i.toNat c hj (by omega) (by omega)
          cases lo with
          | none => cases l with
            | some _ => exact hl.elim
            | none => simp [Instr.sliceBounds, s0, s1]
          | some y => cases l with
            | none => exact hl.elim
            | some k =>
              obtain ⟨kd, hk⟩ := hl
              simp only [Option.getD_some] at *
              have s2 := fun c => sb _ kd k j.toNat c hk h0 (by omega)
              simp [Instr.sliceBounds, s0, s1, s2]
theorem q_slice {t : TypeId} {x : Operand} {lo hi mx : Option Operand} (h : pureA P ev ⟨dst, .slice t x lo hi mx, ty, pos, after, guard⟩ = some r)
    (he : EvOK ρ n ev e (Op.slice t x lo hi mx).operands.toList) : Quiet P e ρ n ⟨dst, .slice t x lo hi mx, ty, pos, after, guard⟩ r w := by
  simp only [pureA] at h
  split at h
  · rename_i r' hr; simp only [Option.some.injEq] at h; subst h; exact scal_sound hr he w
  · have hex := he x (by simp [Op.operands])
    have hlo := fun y (hy : y ∈ lo) => he y (by simp only [Option.mem_def] at hy; subst hy; simp [Op.operands])
    have hhi := fun y (hy : y ∈ hi) => he y (by simp only [Option.mem_def] at hy; subst hy; simp [Op.operands])
    have hmx := fun y (hy : y ∈ mx) => he y (by simp only [Option.mem_def] at hy; subst hy; simp [Op.operands])
    split at h
    · rename_i el id off len cp es ex l hh m hu hx h1 h2 h3
      rw [hx] at hex; obtain ⟨hl, hc, o, c, hv, ho, hx1, hx2⟩ := hex
      split at h
      · rename_i s hs
        cases hse : Nat.beq s es with
        | false => simp only [hse, cond_false, reduceCtorEq] at h
        | true =>
          simp only [hse, cond_true] at h
          have : s = es := Nat.eq_of_beq_eq_true hse
          subst this
          cases hb : ((decide (0 ≤ l.getD 0) && (decide (l.getD 0 ≤ hh.getD len) && (decide (hh.getD len ≤ m.getD cp) && decide (m.getD cp ≤ cp)))) && (hh.isSome || !m.isSome)) with
          | false => simp only [hb, cond_false, reduceCtorEq] at h
          | true =>
            simp only [hb, cond_true, Option.some.injEq] at h
            subst h
            simp only [Bool.and_eq_true, decide_eq_true_eq] at hb
            obtain ⟨⟨b0, b1, b2, b3⟩, b4⟩ := hb
            have hcc : (cp : Int) ≤ c := by
              cases ex with
              | true => have := hx1 rfl; omega
              | false => have := (hx2 rfl).1; omega
            have hm2 : hh.getD len ≤ m.getD (c : Int) ∧ m.getD (c : Int) ≤ c := by
              cases m with
              | none => simp at b2 ⊢; omega
              | some i => simp at b2 b3 ⊢; omega
            have hrun := run_bounds (P := P) (e := e) (w := w) (isSlice := true) (len := len) (cap := c) (bound_den h1 hlo) (bound_den h2 hhi) (bound_den h3 hmx) b0 b1 hm2.1 hm2.2 b4
            have hex' : (execOp e ⟨dst, .slice t x lo hi mx, ty, pos, after, guard⟩).run P w =
                .ok (.value (.slice (if (m.getD (c : Int)).toNat = (l.getD 0).toNat then some ⟨ρ.blk id, o, none⟩ else some ⟨ρ.blk id, o + (l.getD 0).toNat * s, none⟩)
                  ((hh.getD len).toNat - (l.getD 0).toNat) ((m.getD (c : Int)).toNat - (l.getD 0).toNat))) w := by
              have hat : Instr.sliceAt t (e x) (lo.map e) (hi.map e) (mx.map e) = Instr.sliceAt t (.slice (some ⟨ρ.blk id, o, none⟩) len c) (lo.map e) (hi.map e) (mx.map e) := by rw [hv]
              simp only [execOp, hat]
              simp [Instr.sliceAt, Instr.slice, run_underlying hu, hrun, run_size hs, add_at]
            refine ⟨_, hex', hl, ?_, (if (m.getD (c : Int)).toNat = (l.getD 0).toNat then o else o + (l.getD 0).toNat * s), (m.getD (c : Int)).toNat - (l.getD 0).toNat, ?_, ?_, ?_, ?_⟩
            · omega
            · have e1 : (hh.getD len).toNat - (l.getD 0).toNat = (hh.getD ↑len - l.getD 0).toNat := by omega
              rw [e1]
              split <;> rfl
            · intro hne
              rw [if_neg (by omega), ho (by omega)]; omega
            · intro hex
              cases m with
              | none =>
                simp only [Option.isSome_none, Bool.false_or] at hex
                have := hx1 hex
                subst this; simp only [Option.getD_none]; omega
              | some i => simp only [Option.getD_some]; omega
            · intro hex
              cases m with
              | some i => simp at hex
              | none =>
                simp only [Option.isSome_none, Bool.false_or] at hex
                obtain ⟨h5, h6⟩ := hx2 hex
                simp only [Option.getD_none] at b2 b3 ⊢
                refine ⟨by omega, ?_⟩
                split
                · rename_i heq
                  have : (Int.toNat (c : Int)) - (l.getD 0).toNat = 0 := by omega
                  rw [this, Nat.zero_mul]; omega
                · have hle : (l.getD 0).toNat ≤ c := by omega
                  have e2 : (Int.toNat (c : Int)) = c := by omega
                  rw [e2, Nat.add_assoc, ← Nat.add_mul]
                  have e3 : (l.getD 0).toNat + (c - (l.getD 0).toNat) = c := by omega
                  rw [e3]; exact h6
      · simp at h
    · rename_i k el id off l hh m hu hx h1 h2 h3
      rw [hx] at hex; obtain ⟨hl, hv⟩ := hex
      split at h
      · rename_i s hs
        cases hb : ((decide (0 ≤ l.getD 0) && (decide (l.getD 0 ≤ hh.getD k) && (decide (hh.getD k ≤ m.getD k) && decide (m.getD k ≤ k)))) && (hh.isSome || !m.isSome)) with
        | false => simp only [hb, cond_false, reduceCtorEq] at h
        | true =>
          simp only [hb, cond_true, Option.some.injEq] at h
          subst h
          simp only [Bool.and_eq_true, decide_eq_true_eq] at hb
          obtain ⟨⟨b0, b1, b2, b3⟩, b4⟩ := hb
          have hrun := run_bounds (P := P) (e := e) (w := w) (isSlice := false) (len := k) (cap := k) (bound_den h1 hlo) (bound_den h2 hhi) (bound_den h3 hmx) b0 b1 b2 b3 b4
          have hex' : (execOp e ⟨dst, .slice t x lo hi mx, ty, pos, after, guard⟩).run P w =
              .ok (.value (.slice (some (if (m.getD (k : Int)).toNat = (l.getD 0).toNat then ⟨ρ.blk id, ρ.base id + off, none⟩ else ⟨ρ.blk id, ρ.base id + off + (l.getD 0).toNat * s, none⟩))
                ((hh.getD k).toNat - (l.getD 0).toNat) ((m.getD (k : Int)).toNat - (l.getD 0).toNat))) w := by
            have hat : Instr.sliceAt t (e x) (lo.map e) (hi.map e) (mx.map e) = Instr.sliceAt t (.pointer (some ⟨ρ.blk id, ρ.base id + off, none⟩)) (lo.map e) (hi.map e) (mx.map e) := by rw [hv]
            simp only [execOp, hat]
            simp [Instr.sliceAt, Instr.sureAddr, run_underlying hu, hrun, run_size hs, add_at]
          refine ⟨_, hex', hl, by omega, (if (m.getD (k : Int)).toNat = (l.getD 0).toNat then ρ.base id + off else ρ.base id + off + (l.getD 0).toNat * s), (m.getD (k : Int)).toNat - (l.getD 0).toNat, ?_, ?_, ?_, ?_⟩
          · have e1 : (hh.getD (k : Int)).toNat - (l.getD 0).toNat = (hh.getD ↑k - l.getD 0).toNat := by omega
            rw [e1]
            split <;> rfl
          · intro hne
            rw [if_neg (by omega)]; omega
          · intro _; omega
          · intro hex; simp at hex
      · simp at h
    · simp at h
end
end Go.Proofs.YtgobcnheemocnaaGreatDoor
end
section
namespace Go.Proofs.YtgobcnheemocnaaGreatDoor
open Go
set_option linter.unusedSimpArgs false
set_option linter.unusedVariables false

section
variable {P : Program} {ρ : Rho} {n : Nat} {e : Operand → Value} {ev : Ev}
variable {dst : Option Tmp} {ty : TypeId} {pos : String} {after : Array Edge} {guard : Option (Nat × Bool)} {r : AR} {w : World}

theorem q_typeAssert {x : Operand} {xt t : TypeId} {ok : Bool} (h : pureA P ev ⟨dst, .typeAssert x xt t ok, ty, pos, after, guard⟩ = some r) (he : EvOK ρ n ev e [x]) :
    Quiet P e ρ n ⟨dst, .typeAssert x xt t ok, ty, pos, after, guard⟩ r w := by
  simp only [pureA] at h
  split at h
  · rename_i r' hr; simp only [Option.some.injEq] at h; subst h; exact scal_sound hr he w
  · have hex := he x (by simp)
    split at h
    · rename_i want u c hu hx
      rw [hx] at hex
      obtain ⟨y, hv, hy⟩ := hex
      split at h
      · rename_i i hi
        split at h
        · rename_i hm
          simp only [Option.some.injEq] at h; subst h
          cases ok with
          | true => exact ⟨.tuple #[.iface u y, .bool true], by simp [execOp, Instr.typeAssert, run_underlying hu, hv, typeInfo, hi, hm], _, rfl, ⟨⟨y, rfl, hy⟩, ⟨rfl, rfl⟩, trivial⟩⟩
          | false => exact ⟨.iface u y, by simp [execOp, Instr.typeAssert, run_underlying hu, hv, typeInfo, hi, hm], y, rfl, hy⟩
        · simp at h
      · simp at h
    · rename_i d u c hne hu hx
      rw [hx] at hex
      obtain ⟨y, hv, hy⟩ := hex
      cases hb : Nat.beq u t with
      | false => simp only [hb, cond_false, reduceCtorEq] at h
      | true =>
        have : u = t := Nat.eq_of_beq_eq_true hb
        subst this
        simp only [hb, cond_true, Option.some.injEq] at h; subst h
        have run : (execOp e ⟨dst, .typeAssert x xt u ok, ty, pos, after, guard⟩).run P w = .ok (.value (if ok then .tuple #[y, .bool true] else y)) w := by
          cases d <;> first
            | (simp [execOp, Instr.typeAssert, run_underlying hu, hv]; done)
            | (exact absurd hu (by intro hh; simp_all))
        cases ok with
        | true => exact ⟨_, run, _, rfl, ⟨hy, ⟨rfl, rfl⟩, trivial⟩⟩
        | false => exact ⟨_, run, hy⟩
    · simp at h
theorem q_len {args : Array Operand} {ats : Array TypeId} (h : pureA P ev ⟨dst, .call ⟨.builtin .len, args, ats⟩, ty, pos, after, guard⟩ = some r) (he : EvOK ρ n ev e args.toList) :
    Quiet P e ρ n ⟨dst, .call ⟨.builtin .len, args, ats⟩, ty, pos, after, guard⟩ r w := by
  simp only [pureA] at h
  split at h
  · rename_i r' hr; simp only [Option.some.injEq] at h; subst h; exact scal_sound hr (by simpa [Op.operands, Call.operands] using he) w
  · split at h
    · rename_i t x ht hx
      have hmem : x ∈ args.toList := by simpa using Array.mem_of_getElem? hx
      have hex := he x hmem
      have harg : (args.map e)[0]? = some (e x) := by simp [hx]
      split at h
      · rename_i el id off len cp es ex hu hxx
        simp only [Option.some.injEq] at h; subst h
        rw [hxx] at hex; obtain ⟨_, _, o, c, hv, _⟩ := hex
        exact ⟨.int .i64 len, by simp [execOp, resolve, invoke, builtin, Builtin.len_, ht, hx, run_underlying hu, hv, goInt], rfl, rfl⟩
      · rename_i k el hu
        simp only [Option.some.injEq] at h; subst h
        exact ⟨.int .i64 k, by simp [execOp, resolve, invoke, builtin, Builtin.len_, ht, hx, run_underlying hu, goInt], rfl, rfl⟩
      · rename_i a id off hu hxx
        rw [hxx] at hex; obtain ⟨_, hv⟩ := hex
        split at h
        · rename_i k el hua
          simp only [Option.some.injEq] at h; subst h
          exact ⟨.int .i64 k, by simp [execOp, resolve, invoke, builtin, Builtin.len_, ht, hx, run_underlying hu, run_underlying hua, goInt], rfl, rfl⟩
        · simp at h
      · simp at h
    · simp at h
theorem noesc_run {g : Nat} {fn : Func} (hf : P.funcs[g]? = some fn) (hn : noEsc fn = true) (v : Value) : (callFunc g #[v]).run P w = .ok (.value v) w := by
  simp only [noEsc, Bool.and_eq_true, beq_iff_eq] at hn
  obtain ⟨hb, hname, ho⟩ := hn
  have h1 : Extern.findNext fn = none := by
    unfold Extern.findNext; rw [hname, ho]; rfl
  have h2 : Extern.find fn = some Extern.AbiNoEscape.same := by
    unfold Extern.find; rw [hname, ho]; rfl
  have hb2 : fn.body = none := by simpa using hb
  have h3 : (Extern.AbiNoEscape.same #[v]).run P w = .ok v w := rfl
  simp [callFunc, hf, hname, hb2, h1, h2, h3]
theorem q_noesc {f : Operand} {args : Array Operand} {ats : Array TypeId} (h : pureA P ev ⟨dst, .call ⟨.value f, args, ats⟩, ty, pos, after, guard⟩ = some r) (he : EvOK ρ n ev e (f :: args.toList)) :
    Quiet P e ρ n ⟨dst, .call ⟨.value f, args, ats⟩, ty, pos, after, guard⟩ r w := by
  simp only [pureA] at h
  split at h
  · rename_i g x hf ha
    split at h
    · rename_i fn hfn
      cases hn : noEsc fn with
      | false => simp only [hn, cond_false, reduceCtorEq] at h
      | true =>
        simp only [hn, cond_true] at h
        split at h
        · rename_i id o hx
          simp only [Option.some.injEq] at h; subst h
          have h1 := he f (by simp)
          have h2 := he x (by simp [ha])
          rw [hf] at h1; rw [hx] at h2
          have h1' : e f = .func (.func g) #[] #[] := h1
          have hargs : args = #[x] := Array.toList_inj.1 (by simpa using ha)
          subst hargs
          refine ⟨e x, ?_, h2⟩
          have := noesc_run (w := w) hfn hn (e x)
          simp [execOp, resolve, invoke, h1', Deferred.ofValue, this]
        · simp at h
    · simp at h
  · simp at h
theorem q_build {t : TypeId} {parts : Array (Nat × Operand)} (h : pureA P ev ⟨dst, .build t parts, ty, pos, after, guard⟩ = some r) (he : EvOK ρ n ev e (parts.toList.map (·.2))) :
    Quiet P e ρ n ⟨dst, .build t parts, ty, pos, after, guard⟩ r w := by
  simp only [pureA] at h
  split at h
  · rename_i r' hr; simp only [Option.some.injEq] at h; subst h; exact scal_sound hr (by simpa [Op.operands] using he) w
  · split at h
    · rename_i z pl ps hz hpl hps
      simp only [Option.map_eq_some_iff] at h
      obtain ⟨l, hl, rfl⟩ := h
      obtain ⟨i, v, hi, hzz, hdz⟩ := zero_den hz ρ n
      obtain ⟨cells, hfill, hd⟩ := fill_den pl ps _ z l v.cells hl hdz (parts_den hps he)
      refine ⟨.agg cells, ?_, cells, rfl, hd⟩
      have hb : P.built t (parts.map fun x => (x.1, e x.2)).toList = some cells := by
        unfold placesOf at hpl
        unfold Program.built
        split at hpl
        · rename_i fields hu
          simp only [Option.map_eq_some_iff] at hpl
          obtain ⟨places, hp, rfl⟩ := hpl
          simp only [hi, hu, hzz, hp]
          simpa using hfill
        · rename_i k el hu
          simp only [Option.map_eq_some_iff, szOf] at hpl
          obtain ⟨s, ⟨ie, hie, rfl⟩, rfl⟩ := hpl
          simp only [hi, hu, hzz, hie]
          simpa using hfill
        · simp at hpl
      simp [execOp, run_build w t _ cells hb]
    · simp at h
theorem pureA_sound {o : Oper} (h : pureA P ev o = some r) (he : EvOK ρ n ev e o.op.operands.toList) (w : World) : Quiet P e ρ n o r w := by
  obtain ⟨dst, op, ty, pos, after, guard⟩ := o
  cases op with
  | move x => simp only [pureA, Option.some.injEq] at h; subst h; exact ⟨e x, rfl, he x (by simp [Op.operands])⟩
  | assign x => simp only [pureA, Option.some.injEq] at h; subst h; exact ⟨e x, rfl, he x (by simp [Op.operands])⟩
  | pick c a b =>
    simp only [pureA] at h
    split at h
    · rename_i t hc
      simp only [Option.some.injEq] at h; subst h
      have h1 := he c (by simp [Op.operands])
      rw [hc] at h1
      have h1' := bool_den h1
      cases t with
      | true => exact ⟨e a, by simp [execOp, h1', asBool], he a (by simp [Op.operands])⟩
      | false => exact ⟨e b, by simp [execOp, h1', asBool], he b (by simp [Op.operands])⟩
    · simp at h
  | nilCheck x => exact q_nilCheck h (he x (by simp [Op.operands]))
  | binOp op t x y yt => exact q_bin h (by simpa [Op.operands] using he)
  | makeInterface t x => exact q_iface h (by simpa [Op.operands] using he)
  | makeFunc f a b => exact q_makeFunc h (by simpa [Op.operands] using he)
  | fieldAddr s x f => exact q_fieldAddr h (he x (by simp [Op.operands]))
  | field s x f => exact q_field h (he x (by simp [Op.operands]))
  | indexAddr t x i => exact q_indexAddr h (he x (by simp [Op.operands])) (he i (by simp [Op.operands]))
  | index t x i => exact q_index h (by simpa [Op.operands] using he)
  | slice t x a b c => exact q_slice h he
  | typeAssert x a b c => exact q_typeAssert h (by simpa [Op.operands] using he)
  | extract x i =>
    simp only [pureA] at h
    split at h
    · rename_i vs hx
      simp only [Option.map_eq_some_iff] at h
      obtain ⟨a, ha, rfl⟩ := h
      have h1 := he x (by simp [Op.operands])
      rw [hx] at h1
      obtain ⟨us, hv, hd⟩ := h1
      obtain ⟨y, hy, hdy⟩ := hd.get ha
      have hy' : us[i]? = some y := by simpa using hy
      exact ⟨y, by simp [execOp, Instr.extract, hv, hy'], hdy⟩
    · simp at h
  | build t ps => exact q_build h (by simpa [Op.operands] using he)
  | unOp a b x => exact scal_sound h he w
  | convert a b x =>
    simp only [pureA] at h
    split at h
    · rename_i r' hr; simp only [Option.some.injEq] at h; subst h; exact scal_sound hr he w
    · simp at h
  | call c =>
    obtain ⟨callee, args, ats⟩ := c
    cases callee with
    | value f => exact q_noesc h (by simpa [Op.operands, Call.operands] using he)
    | invoke r m => simp [pureA] at h
    | builtin b =>
      cases b with
      | len => exact q_len h (by simpa [Op.operands, Call.operands] using he)
      | _ => exact scal_sound h he w
  | _ => simp [pureA] at h
end
end Go.Proofs.YtgobcnheemocnaaGreatDoor
end
