/-
  Several texts in one: Operations that look at no memory: slices, literals, and all of them together. No condition. Operations that look at no memory: all of them together. No condition. The reckoned run's memory and the world's; operations that read. No condition. Operations that read memory: each one. No condition.
-/
import Derived.Test.YtbifklibdkjbeaaGreatDoorMg33
import Derived.Laws.Cells
namespace Go.Proofs.YtbifklibdkjbeaaGreatDoor
open Go.RowKit
set_option linter.unusedVariables false
set_option linter.unusedSimpArgs false
set_option maxRecDepth 100000
section
open Go
section
variable {P : Program} {ρ : Rho} {n : Nat} {e : Operand → Value} {ev : Ev}
variable {dst : Option Tmp} {ty : TypeId} {pos : String} {after : Array Edge} {guard : Option (Nat × Bool)} {r : AR} {w : World}
def Bd (e : Operand → Value) : Option Operand → Option Int → Prop
 | none, none => True
 | some y, some k => ∃ kd, e y = .int kd k
 | _, _ => False
theorem xb9 {x : Option Operand} {b : Option Int} (h : xhm (x.map ev) = some b) (he : ∀ y ∈ x, (ev y).den ρ n (e y)) : Bd e x b := by
 cases x with
 | none => simp [xhm] at h; subst h; trivial
 | some y =>
  simp only [xhm, Option.map_some, Option.map_eq_some_iff] at h
  obtain ⟨k, hk, rfl⟩ := h
  exact xb8 hk (he y rfl)
theorem xfj {isSlice : Bool} {len cap : Nat} {lo hi mx : Option Operand} {l h m : Option Int}
 (hl : Bd e lo l)
 (hh : Bd e hi h)
 (hm : Bd e mx m)
 (h0 : 0 ≤ l.getD 0) (h1 : l.getD 0 ≤ h.getD len) (h2 : h.getD len ≤ m.getD cap) (h3 : m.getD cap ≤ cap) (hx : (h.isSome || !m.isSome) = true) :
 (Instr.sliceBounds isSlice len cap (lo.map e) (hi.map e) (mx.map e)).run P w = .ok ((l.getD 0).toNat, (h.getD len).toNat, (m.getD cap).toNat) w := by
 have sb : ∀ (v : Value) (kd : IntKind) (k : Int) (y : Nat) (c : BoundsCode), v = .int kd k → 0 ≤ k → k ≤ y → (Instr.sliceBound v y c).run P w = .ok k.toNat w := by
  intro v kd k y c hv a b
  subst hv
  simp [Instr.sliceBound, asIntOf, a, b]
 cases mx with
 | none =>
  cases m with
  | some _ => exact hm.elim
  | none =>
   simp only [Option.getD_none] at *
   cases hi with
   | none =>
    cases h with
    | some _ => exact hh.elim
    | none =>
     simp only [Option.getD_none] at *
     cases lo with
     | none => cases l with
      | some _ => exact hl.elim
      | none => simp [Instr.sliceBounds]
     | some y => cases l with
      | none => exact hl.elim
      | some k =>
       obtain ⟨kd, hk⟩ := hl
       simp only [Option.getD_some] at *
       simp [Instr.sliceBounds, sb _ kd k len .sliceB hk h0 h1]
   | some z =>
    cases h with
    | none => exact hh.elim
    | some j =>
     obtain ⟨kd', hj⟩ := hh
     simp only [Option.getD_some] at *
     have s1 := fun c => sb _ kd' j cap c hj (by omega) h2
     cases lo with
     | none => cases l with
      | some _ => exact hl.elim
      | none => simp [Instr.sliceBounds, s1]
     | some y => cases l with
      | none => exact hl.elim
      | some k =>
       obtain ⟨kd, hk⟩ := hl
       simp only [Option.getD_some] at *
       have s2 := fun c => sb _ kd k j.toNat c hk h0 (by omega)
       simp [Instr.sliceBounds, s1, s2]
 | some u =>
  cases m with
  | none => exact hm.elim
  | some i =>
   obtain ⟨kd'', hi'⟩ := hm
   simp only [Option.getD_some] at *
   have s0 := fun c => sb _ kd'' i cap c hi' (by omega) h3
   cases hi with
   | none => cases h with
    | some _ => exact hh.elim
    | none => simp at hx
   | some z =>
    cases h with
    | none => exact hh.elim
    | some j =>
     obtain ⟨kd', hj⟩ := hh
     simp only [Option.getD_some] at *
     have s1 := fun c => sb _ kd' j i.toNat c hj (by omega) (by omega)
     cases lo with
     | none => cases l with
      | some _ => exact hl.elim
      | none => simp [Instr.sliceBounds, s0, s1]
     | some y => cases l with
      | none => exact hl.elim
      | some k =>
       obtain ⟨kd, hk⟩ := hl
       simp only [Option.getD_some] at *
       have s2 := fun c => sb _ kd k j.toNat c hk h0 (by omega)
       simp [Instr.sliceBounds, s0, s1, s2]
theorem q_slice {t : TypeId} {x : Operand} {lo hi mx : Option Operand} (h : xaQ P ev ⟨dst, .slice t x lo hi mx, ty, pos, after, guard⟩ = some r)
 (he : EvOK ρ n ev e (Op.slice t x lo hi mx).operands.toList) : xck P e ρ n ⟨dst, .slice t x lo hi mx, ty, pos, after, guard⟩ r w := by
 simp only [xaQ] at h
 split at h
 · rename_i r' hr; simp only [Option.some.injEq] at h; subst h; exact xaY hr he w
 have hex := he x (by simp [Op.operands])
 have hlo := fun y (hy : y ∈ lo) => he y (by simp only [Option.mem_def] at hy; subst hy; simp [Op.operands])
 have hhi := fun y (hy : y ∈ hi) => he y (by simp only [Option.mem_def] at hy; subst hy; simp [Op.operands])
 have hmx := fun y (hy : y ∈ mx) => he y (by simp only [Option.mem_def] at hy; subst hy; simp [Op.operands])
 split at h
 · rename_i el id off len cp es ex l hh m hu hx h1 h2 h3
   rw [hx] at hex; obtain ⟨hl, hc, o, c, hv, ho, hx1, hx2⟩ := hex
   split at h
   · rename_i s hs
     cases hse : Nat.beq s es with
     | false => simp only [hse, cond_false, reduceCtorEq] at h
     | true =>
      simp only [hse, cond_true] at h
      have : s = es := Nat.eq_of_beq_eq_true hse
      subst this
      cases hb : ((decide (0 ≤ l.getD 0) && (decide (l.getD 0 ≤ hh.getD len) && (decide (hh.getD len ≤ m.getD cp) && decide (m.getD cp ≤ cp)))) && (hh.isSome || !m.isSome)) with
      | false => simp only [hb, cond_false, reduceCtorEq] at h
      | true =>
       simp only [hb, cond_true, Option.some.injEq] at h
       subst h
       simp only [Bool.and_eq_true, decide_eq_true_eq] at hb
       obtain ⟨⟨b0, b1, b2, b3⟩, b4⟩ := hb
       have hcc : (cp : Int) ≤ c := by
        cases ex with
        | true => have := hx1 rfl; omega
        | false => have := (hx2 rfl).1; omega
       have hm2 : hh.getD len ≤ m.getD (c : Int) ∧ m.getD (c : Int) ≤ c := by
        cases m with
        | none => simp at b2 ⊢; omega
        | some i => simp at b2 b3 ⊢; omega
       have hrun := xfj (P := P) (e := e) (w := w) (isSlice := true) (len := len) (cap := c) (xb9 h1 hlo) (xb9 h2 hhi) (xb9 h3 hmx) b0 b1 hm2.1 hm2.2 b4
       have hex' : (execOp e ⟨dst, .slice t x lo hi mx, ty, pos, after, guard⟩).run P w =
        .ok (.value (.slice (if (m.getD (c : Int)).toNat = (l.getD 0).toNat then some ⟨ρ.blk id, o, none⟩ else some ⟨ρ.blk id, o + (l.getD 0).toNat * s, none⟩)
         ((hh.getD len).toNat - (l.getD 0).toNat) ((m.getD (c : Int)).toNat - (l.getD 0).toNat))) w := by
        have hat : Instr.sliceAt t (e x) (lo.map e) (hi.map e) (mx.map e) = Instr.sliceAt t (.slice (some ⟨ρ.blk id, o, none⟩) len c) (lo.map e) (hi.map e) (mx.map e) := by rw [hv]
        simp only [execOp, hat]
        simp [Instr.sliceAt, Instr.slice, run_underlying hu, hrun, xaT hs, xcG]
       refine ⟨_, hex', hl, ?_, (if (m.getD (c : Int)).toNat = (l.getD 0).toNat then o else o + (l.getD 0).toNat * s), (m.getD (c : Int)).toNat - (l.getD 0).toNat, ?_, ?_, ?_, ?_⟩
       · omega
       · have e1 : (hh.getD len).toNat - (l.getD 0).toNat = (hh.getD ↑len - l.getD 0).toNat := by omega
         rw [e1]
         split <;> rfl
       · intro hne
         rw [if_neg (by omega), ho (by omega)]; omega
       · intro hex
         cases m with
         | none =>
          simp only [Option.isSome_none, Bool.false_or] at hex
          have := hx1 hex
          subst this; simp only [Option.getD_none]; omega
         | some i => simp only [Option.getD_some]; omega
       intro hex
       cases m with
       | some i => simp at hex
       | none =>
        simp only [Option.isSome_none, Bool.false_or] at hex
        obtain ⟨h5, h6⟩ := hx2 hex
        simp only [Option.getD_none] at b2 b3 ⊢
        refine ⟨by omega, ?_⟩
        split
        · rename_i heq
          have : (Int.toNat (c : Int)) - (l.getD 0).toNat = 0 := by omega
          rw [this, Nat.zero_mul]; omega
        have hle : (l.getD 0).toNat ≤ c := by omega
        have e2 : (Int.toNat (c : Int)) = c := by omega
        rw [e2, Nat.add_assoc, ← Nat.add_mul]
        have e3 : (l.getD 0).toNat + (c - (l.getD 0).toNat) = c := by omega
        rw [e3]; exact h6
   simp at h
 · rename_i k el id off l hh m hu hx h1 h2 h3
   rw [hx] at hex; obtain ⟨hl, hv⟩ := hex
   split at h
   · rename_i s hs
     cases hb : ((decide (0 ≤ l.getD 0) && (decide (l.getD 0 ≤ hh.getD k) && (decide (hh.getD k ≤ m.getD k) && decide (m.getD k ≤ k)))) && (hh.isSome || !m.isSome)) with
     | false => simp only [hb, cond_false, reduceCtorEq] at h
     | true =>
      simp only [hb, cond_true, Option.some.injEq] at h
      subst h
      simp only [Bool.and_eq_true, decide_eq_true_eq] at hb
      obtain ⟨⟨b0, b1, b2, b3⟩, b4⟩ := hb
      have hrun := xfj (P := P) (e := e) (w := w) (isSlice := false) (len := k) (cap := k) (xb9 h1 hlo) (xb9 h2 hhi) (xb9 h3 hmx) b0 b1 b2 b3 b4
      have hex' : (execOp e ⟨dst, .slice t x lo hi mx, ty, pos, after, guard⟩).run P w =
       .ok (.value (.slice (some (if (m.getD (k : Int)).toNat = (l.getD 0).toNat then ⟨ρ.blk id, ρ.base id + off, none⟩ else ⟨ρ.blk id, ρ.base id + off + (l.getD 0).toNat * s, none⟩))
        ((hh.getD k).toNat - (l.getD 0).toNat) ((m.getD (k : Int)).toNat - (l.getD 0).toNat))) w := by
       have hat : Instr.sliceAt t (e x) (lo.map e) (hi.map e) (mx.map e) = Instr.sliceAt t (.pointer (some ⟨ρ.blk id, ρ.base id + off, none⟩)) (lo.map e) (hi.map e) (mx.map e) := by rw [hv]
       simp only [execOp, hat]
       simp [Instr.sliceAt, Instr.sureAddr, run_underlying hu, hrun, xaT hs, xcG]
      refine ⟨_, hex', hl, by omega, (if (m.getD (k : Int)).toNat = (l.getD 0).toNat then ρ.base id + off else ρ.base id + off + (l.getD 0).toNat * s), (m.getD (k : Int)).toNat - (l.getD 0).toNat, ?_, ?_, ?_, ?_⟩
      · have e1 : (hh.getD (k : Int)).toNat - (l.getD 0).toNat = (hh.getD ↑k - l.getD 0).toNat := by omega
        rw [e1]
        split <;> rfl
      · intro hne
        rw [if_neg (by omega)]; omega
      · intro _; omega
      intro hex; simp at hex
   simp at h
 simp at h
end
end
section
open Go
section
variable {P : Program} {ρ : Rho} {n : Nat} {e : Operand → Value} {ev : Ev}
variable {dst : Option Tmp} {ty : TypeId} {pos : String} {after : Array Edge} {guard : Option (Nat × Bool)} {r : AR} {w : World}
theorem xgI {x : Operand} {xt t : TypeId} {ok : Bool} (h : xaQ P ev ⟨dst, .typeAssert x xt t ok, ty, pos, after, guard⟩ = some r) (he : EvOK ρ n ev e [x]) :
 xck P e ρ n ⟨dst, .typeAssert x xt t ok, ty, pos, after, guard⟩ r w := by
 simp only [xaQ] at h
 split at h
 · rename_i r' hr; simp only [Option.some.injEq] at h; subst h; exact xaY hr he w
 have hex := he x (by simp)
 split at h
 · rename_i want u c hu hx
   rw [hx] at hex
   obtain ⟨y, hv, hy⟩ := hex
   split at h
   · rename_i i hi
     split at h
     · rename_i hm
       simp only [Option.some.injEq] at h; subst h
       cases ok with
       | true => exact ⟨.tuple #[.iface u y, .bool true], by simp [execOp, Instr.typeAssert, run_underlying hu, hv, typeInfo, hi, hm], _, rfl, ⟨⟨y, rfl, hy⟩, ⟨rfl, rfl⟩, trivial⟩⟩
       | false => exact ⟨.iface u y, by simp [execOp, Instr.typeAssert, run_underlying hu, hv, typeInfo, hi, hm], y, rfl, hy⟩
     simp at h
   simp at h
 · rename_i d u c hne hu hx
   rw [hx] at hex
   obtain ⟨y, hv, hy⟩ := hex
   cases hb : Nat.beq u t with
   | false => simp only [hb, cond_false, reduceCtorEq] at h
   | true =>
    have : u = t := Nat.eq_of_beq_eq_true hb
    subst this
    simp only [hb, cond_true, Option.some.injEq] at h; subst h
    have run : (execOp e ⟨dst, .typeAssert x xt u ok, ty, pos, after, guard⟩).run P w = .ok (.value (if ok then .tuple #[y, .bool true] else y)) w := by
     cases d <;> first
      | (simp [execOp, Instr.typeAssert, run_underlying hu, hv]; done)
      | (exact absurd hu (by intro hh; simp_all))
    cases ok with
    | true => exact ⟨_, run, _, rfl, ⟨hy, ⟨rfl, rfl⟩, trivial⟩⟩
    | false => exact ⟨_, run, hy⟩
 simp at h
theorem q_len {args : Array Operand} {ats : Array TypeId} (h : xaQ P ev ⟨dst, .call ⟨.builtin .len, args, ats⟩, ty, pos, after, guard⟩ = some r) (he : EvOK ρ n ev e args.toList) :
 xck P e ρ n ⟨dst, .call ⟨.builtin .len, args, ats⟩, ty, pos, after, guard⟩ r w := by
 simp only [xaQ] at h
 split at h
 · rename_i r' hr; simp only [Option.some.injEq] at h; subst h; exact xaY hr (by simpa [Op.operands, Call.operands] using he) w
 split at h
 · rename_i t x ht hx
   have hmem : x ∈ args.toList := by simpa using Array.mem_of_getElem? hx
   have hex := he x hmem
   have harg : (args.map e)[0]? = some (e x) := by simp [hx]
   split at h
   · rename_i el id off len cp es ex hu hxx
     simp only [Option.some.injEq] at h; subst h
     rw [hxx] at hex; obtain ⟨_, _, o, c, hv, _⟩ := hex
     exact ⟨.int .i64 len, by simp [execOp, resolve, invoke, builtin, Builtin.len_, ht, hx, run_underlying hu, hv, goInt], rfl, rfl⟩
   · rename_i k el hu
     simp only [Option.some.injEq] at h; subst h
     exact ⟨.int .i64 k, by simp [execOp, resolve, invoke, builtin, Builtin.len_, ht, hx, run_underlying hu, goInt], rfl, rfl⟩
   · rename_i a id off hu hxx
     rw [hxx] at hex; obtain ⟨_, hv⟩ := hex
     split at h
     · rename_i k el hua
       simp only [Option.some.injEq] at h; subst h
       exact ⟨.int .i64 k, by simp [execOp, resolve, invoke, builtin, Builtin.len_, ht, hx, run_underlying hu, run_underlying hua, goInt], rfl, rfl⟩
     simp at h
   simp at h
 simp at h
theorem xlk {g : Nat} {fn : Func} (hf : P.funcs[g]? = some fn) (hn : xjT fn = true) (v : Value) : (callFunc g #[v]).run P w = .ok (.value v) w := by
 simp only [xjT, Bool.and_eq_true, beq_iff_eq] at hn
 obtain ⟨hb, hname, ho⟩ := hn
 have h1 : Extern.findNext fn = none := by
  unfold Extern.findNext; rw [hname, ho]; rfl
 have h2 : Extern.find fn = some Extern.AbiNoEscape.same := by
  unfold Extern.find; rw [hname, ho]; rfl
 have hb2 : fn.body = none := by simpa using hb
 have h3 : (Extern.AbiNoEscape.same #[v]).run P w = .ok v w := rfl
 simp [callFunc, hf, hname, hb2, h1, h2, h3]
theorem q_noesc {f : Operand} {args : Array Operand} {ats : Array TypeId} (h : xaQ P ev ⟨dst, .call ⟨.value f, args, ats⟩, ty, pos, after, guard⟩ = some r) (he : EvOK ρ n ev e (f :: args.toList)) :
 xck P e ρ n ⟨dst, .call ⟨.value f, args, ats⟩, ty, pos, after, guard⟩ r w := by
 simp only [xaQ] at h
 split at h
 · rename_i g x hf ha
   split at h
   · rename_i fn hfn
     cases hn : xjT fn with
     | false => simp only [hn, cond_false, reduceCtorEq] at h
     | true =>
      simp only [hn, cond_true] at h
      split at h
      · rename_i id o hx
        simp only [Option.some.injEq] at h; subst h
        have h1 := he f (by simp)
        have h2 := he x (by simp [ha])
        rw [hf] at h1; rw [hx] at h2
        have h1' : e f = .func (.func g) #[] #[] := h1
        have hargs : args = #[x] := Array.toList_inj.1 (by simpa using ha)
        subst hargs
        refine ⟨e x, ?_, h2⟩
        have := xlk (w := w) hfn hn (e x)
        simp [execOp, resolve, invoke, h1', Deferred.ofValue, this]
      simp at h
   simp at h
 simp at h
theorem q_build {t : TypeId} {parts : Array (Nat × Operand)} (h : xaQ P ev ⟨dst, .build t parts, ty, pos, after, guard⟩ = some r) (he : EvOK ρ n ev e (parts.toList.map (·.2))) :
 xck P e ρ n ⟨dst, .build t parts, ty, pos, after, guard⟩ r w := by
 simp only [xaQ] at h
 split at h
 · rename_i r' hr; simp only [Option.some.injEq] at h; subst h; exact xaY hr (by simpa [Op.operands] using he) w
 split at h
 · rename_i z pl ps hz hpl hps
   simp only [Option.map_eq_some_iff] at h
   obtain ⟨l, hl, rfl⟩ := h
   obtain ⟨i, v, hi, hzz, hdz⟩ := xc hz ρ n
   obtain ⟨cells, hfill, hd⟩ := xgb pl ps _ z l v.cells hl hdz (xeA hps he)
   refine ⟨.agg cells, ?_, cells, rfl, hd⟩
   have hb : P.built t (parts.map fun x => (x.1, e x.2)).toList = some cells := by
    unfold xiw at hpl
    unfold Program.built
    split at hpl
    · rename_i fields hu
      simp only [Option.map_eq_some_iff] at hpl
      obtain ⟨places, hp, rfl⟩ := hpl
      simp only [hi, hu, hzz, hp]
      simpa using hfill
    · rename_i k el hu
      simp only [Option.map_eq_some_iff, szOf] at hpl
      obtain ⟨s, ⟨ie, hie, rfl⟩, rfl⟩ := hpl
      simp only [hi, hu, hzz, hie]
      simpa using hfill
    simp at hpl
   simp [execOp, run_build w t _ cells hb]
 simp at h
theorem xev {o : Oper} (h : xaQ P ev o = some r) (he : EvOK ρ n ev e o.op.operands.toList) (w : World) : xck P e ρ n o r w := by
 obtain ⟨dst, op, ty, pos, after, guard⟩ := o
 cases op with
 | move x => simp only [xaQ, Option.some.injEq] at h; subst h; exact ⟨e x, rfl, he x (by simp [Op.operands])⟩
 | assign x => simp only [xaQ, Option.some.injEq] at h; subst h; exact ⟨e x, rfl, he x (by simp [Op.operands])⟩
 | pick c a b =>
  simp only [xaQ] at h
  split at h
  · rename_i t hc
    simp only [Option.some.injEq] at h; subst h
    have h1 := he c (by simp [Op.operands])
    rw [hc] at h1
    have h1' := xee h1
    cases t with
    | true => exact ⟨e a, by simp [execOp, h1', asBool], he a (by simp [Op.operands])⟩
    | false => exact ⟨e b, by simp [execOp, h1', asBool], he b (by simp [Op.operands])⟩
  simp at h
 | nilCheck x => exact xjD h (he x (by simp [Op.operands]))
 | binOp op t x y yt => exact q_bin h (by simpa [Op.operands] using he)
 | makeInterface t x => exact q_iface h (by simpa [Op.operands] using he)
 | makeFunc f a b => exact xjE h (by simpa [Op.operands] using he)
 | fieldAddr s x f => exact xhI h (he x (by simp [Op.operands]))
 | field s x f => exact q_field h (he x (by simp [Op.operands]))
 | indexAddr t x i => exact xhH h (he x (by simp [Op.operands])) (he i (by simp [Op.operands]))
 | index t x i => exact q_index h (by simpa [Op.operands] using he)
 | slice t x a b c => exact q_slice h he
 | typeAssert x a b c => exact xgI h (by simpa [Op.operands] using he)
 | extract x i =>
  simp only [xaQ] at h
  split at h
  · rename_i vs hx
    simp only [Option.map_eq_some_iff] at h
    obtain ⟨a, ha, rfl⟩ := h
    have h1 := he x (by simp [Op.operands])
    rw [hx] at h1
    obtain ⟨us, hv, hd⟩ := h1
    obtain ⟨y, hy, hdy⟩ := hd.get ha
    have hy' : us[i]? = some y := by simpa using hy
    exact ⟨y, by simp [execOp, Instr.extract, hv, hy'], hdy⟩
  simp at h
 | build t ps => exact q_build h (by simpa [Op.operands] using he)
 | unOp a b x => exact xaY h he w
 | convert a b x =>
  simp only [xaQ] at h
  split at h
  · rename_i r' hr; simp only [Option.some.injEq] at h; subst h; exact xaY hr he w
  simp at h
 | call c =>
  obtain ⟨callee, args, ats⟩ := c
  cases callee with
  | value f => exact q_noesc h (by simpa [Op.operands, Call.operands] using he)
  | invoke r m => simp [xaQ] at h
  | builtin b =>
   cases b with
   | len => exact q_len h (by simpa [Op.operands, Call.operands] using he)
   | _ => exact xaY h he w
 | _ => simp [xaQ] at h
end
end
section
open Go
structure Lies (ρ : Rho) (n : Nat) (w : World) (id : Nat) (b : Blk) (cs : Array Value) (fz : Nat × Nat) : Prop where
 heap : w.heap[ρ.blk id]? = some (.cells cs b.elem fz)
 size : cs.size = ρ.size id
 thaw : fz.1 = fz.2 ∨ cs.size ≤ fz.1
 room : ρ.base id + b.cells.length ≤ cs.size
 whole : b.whole = true → ρ.base id = 0 ∧ cs.size = b.cells.length
 den : ∀ i x, b.cells[i]? = some x → ∃ u, cs[ρ.base id + i]? = some u ∧ x.den ρ n u
structure HOK (ρ : Rho) (H : AH) (w : World) : Prop where
 lt : ∀ id b, H.get id = some b → id < H.next
 inj : ∀ id id' b b', H.get id = some b → H.get id' = some b' → ρ.blk id = ρ.blk id' → id = id'
 row : ∀ id b, H.get id = some b → ∃ cs fz, Lies ρ H.next w id b cs fz
structure Kp (H : AH) (ρ : Rho) (w : World) (H' : AH) (ρ' : Rho) (w' : World) : Prop where
 ext : Ext ρ ρ' H.next
 next : H.next ≤ H'.next
 size : w.heap.size ≤ w'.heap.size
 os : w'.os = w.os
 tape : w'.tape = w.tape
 output : w'.output = w.output
 frame : ∀ k, k < w.heap.size → (∀ id b, H.get id = some b → ρ.blk id ≠ k) → w'.heap[k]? = w.heap[k]?
 come : ∀ id b, H'.get id = some b → w.heap.size ≤ ρ'.blk id ∨ ∃ id0 b0, H.get id0 = some b0 ∧ ρ.blk id0 = ρ'.blk id
theorem Kp.refl (H : AH) (ρ : Rho) (w : World) : Kp H ρ w H ρ w :=
 ⟨.refl _ _, Nat.le_refl _, Nat.le_refl _, rfl, rfl, rfl, fun _ _ _ => rfl, fun id b h => .inr ⟨id, b, h, rfl⟩⟩
theorem Kp.trans {H H' H'' : AH} {ρ ρ' ρ'' : Rho} {w w' w'' : World} (h : Kp H ρ w H' ρ' w') (k : Kp H' ρ' w' H'' ρ'' w'') : Kp H ρ w H'' ρ'' w'' where
 ext := h.ext.trans k.ext h.next
 next := Nat.le_trans h.next k.next
 size := Nat.le_trans h.size k.size
 os := k.os.trans h.os
 tape := k.tape.trans h.tape
 output := k.output.trans h.output
 frame := fun i hi hn => (k.frame i (Nat.lt_of_lt_of_le hi h.size) fun id b hb e => by
  rcases h.come id b hb with h1 | ⟨id0, b0, h1, h2⟩
  · omega
  exact hn id0 b0 h1 (h2.trans e)).trans (h.frame i hi hn)
 come := fun id b hb => by
  rcases k.come id b hb with h1 | ⟨id1, b1, h1, h2⟩
  · exact .inl (Nat.le_trans h.size h1)
  rcases h.come id1 b1 h1 with h3 | ⟨id0, b0, h3, h4⟩
  · exact .inl (h2 ▸ h3)
  exact .inr ⟨id0, b0, h3, h4.trans h2⟩
section
variable {P : Program} {ρ : Rho} {H : AH} {w : World} {e : Operand → Value} {ev : Ev}
theorem Lies.cell {n id : Nat} {b : Blk} {cs : Array Value} {fz : Nat × Nat} (h : Lies ρ n w id b cs fz) {i : Nat} {x : AC} (hx : b.cells[i]? = some x) :
 ∃ u, w.cell? ⟨ρ.blk id, ρ.base id + i, none⟩ = some u ∧ x.den ρ n u := by
 obtain ⟨u, hu, hd⟩ := h.den i x hx
 exact ⟨u, by simp [World.cell?, h.heap, hu], hd⟩
theorem HOK.lt_size (h : HOK ρ H w) {id : Nat} {b : Blk} (hb : H.get id = some b) : ρ.blk id < w.heap.size := by
 obtain ⟨cs, fz, hl⟩ := h.row id b hb
 exact (Array.getElem?_eq_some_iff.1 hl.heap).1
theorem xly {id : Nat} {b : Blk} (h : HOK ρ H w) (hb : H.get id = some b) {off k : Nat} {r : List AC} (hc : cut b.cells off k = some r) :
 ∃ vs : List Value, (∀ d, (loadCells ⟨ρ.blk id, ρ.base id + off, none⟩ k).run P { w with drawn := d } = .ok vs.toArray { w with drawn := d }) ∧ All2 (AC.den ρ H.next) r vs ∧
  ∀ i v, vs[i]? = some v → w.cell? ⟨ρ.blk id, ρ.base id + off + i, none⟩ = some v := by
 obtain ⟨cs, fz, hl⟩ := h.row id b hb
 have hlen := xc6 hc
 have hr : r = (b.cells.drop off).take k := by
  unfold cut at hc
  cases hx : Nat.beq ((b.cells.drop off).take k).length k with
  | false => simp only [hx, cond_false, reduceCtorEq] at hc
  | true => simp only [hx, cond_true, Option.some.injEq] at hc; exact hc.symm
 let vs : List Value := (cs.toList.drop (ρ.base id + off)).take k
 have hcell : ∀ i, i < k → ∃ x u, r[i]? = some x ∧ b.cells[off + i]? = some x ∧ cs[ρ.base id + (off + i)]? = some u ∧ x.den ρ H.next u := by
  intro i hi
  have h1 : i < r.length := by omega
  have h2 : r[i]? = some r[i] := by simp [h1]
  have h3 : b.cells[off + i]? = some r[i] := by
   rw [← h2, hr, List.getElem?_take, if_pos hi, List.getElem?_drop]
  obtain ⟨u, hu, hd⟩ := hl.den _ _ h3
  exact ⟨_, u, h2, h3, hu, hd⟩
 have hv : ∀ i, i < k → ∃ x u, r[i]? = some x ∧ vs[i]? = some u ∧ x.den ρ H.next u := by
  intro i hi
  obtain ⟨x, u, h2, _, hu, hd⟩ := hcell i hi
  refine ⟨x, u, h2, ?_, hd⟩
  show ((cs.toList.drop (ρ.base id + off)).take k)[i]? = some u
  rw [List.getElem?_take, if_pos hi, List.getElem?_drop]
  rw [Nat.add_assoc, Array.getElem?_toList]; exact hu
 have hvl : vs.length = k := by
  rcases Nat.eq_zero_or_pos k with rfl | hk
  · show ((cs.toList.drop (ρ.base id + off)).take 0).length = 0; simp
  obtain ⟨x, u, _, hu, _⟩ := hv (k - 1) (by omega)
  have h1 := (List.getElem?_eq_some_iff.1 hu).1
  have h2 : vs.length ≤ k := List.length_take_le _ _
  omega
 have hcells : ∀ i v, vs[i]? = some v → w.cell? ⟨ρ.blk id, ρ.base id + off + i, none⟩ = some v := by
  intro i v hi
  have hik : i < k := by have := (List.getElem?_eq_some_iff.1 hi).1; omega
  have : cs[ρ.base id + off + i]? = some v := by
   have h4 : ((cs.toList.drop (ρ.base id + off)).take k)[i]? = some v := hi
   rw [List.getElem?_take, if_pos hik, List.getElem?_drop, Array.getElem?_toList] at h4
   exact h4
  simp [World.cell?, hl.heap, this]
 refine ⟨vs, ?_, All2.of (by omega) ?_, hcells⟩
 · intro d
   have := run_loadCells_list (P := P) (w := { w with drawn := d }) ⟨ρ.blk id, ρ.base id + off, none⟩ vs (fun j v hj => by rw [xcG]; exact hcells j v hj)
   rw [hvl] at this; exact this
 intro i x y hx hy
 have hik : i < k := by have := (List.getElem?_eq_some_iff.1 hy).1; omega
 obtain ⟨x', u, h1, h2, h3⟩ := hv i hik
 rw [hx] at h1; rw [hy] at h2
 cases h1; cases h2; exact h3
theorem xe0 {ρ : Rho} {n : Nat} : ∀ {l : List AC} {vs : List Value} {acc s : ByteArray}, xfK l acc = some s → All2 (AC.den ρ n) l vs →
 ∃ ns : List Int, vs = ns.map (Value.int .u8 ·) ∧ s = ns.foldl (fun a k => a.push (UInt8.ofNat k.toNat)) acc
 | [], [], acc, s, h, _ => by simp [xfK] at h; exact ⟨[], rfl, h.symm⟩
 | x :: l, v :: vs, acc, s, h, d => by
  unfold xfK at h
  split at h
  · rename_i heq; cases heq
  · rename_i k l' heq
    cases heq
    obtain ⟨ns, h1, h2⟩ := xe0 h d.2
    exact ⟨k :: ns, by rw [List.map_cons, ← h1]; rw [show v = _ from d.1.1], h2⟩
  simp at h
 | x :: l, [], _, _, _, d => d.elim
 | [], _ :: _, _, _, _, d => d.elim
theorem xjm (f : Value → ByteArray → Sem (ForInStep ByteArray)) (hf : ∀ k s, f (.int .u8 k) s = pure (.yield (s.push (UInt8.ofNat k.toNat)))) (ns : List Int) :
 ∀ (acc : ByteArray), (forIn (m := Sem) (ns.map (Value.int .u8 ·)).toArray acc f).run P w = .ok (ns.foldl (fun a k => a.push (UInt8.ofNat k.toNat)) acc) w := by
 intro acc
 rw [← Array.forIn_toList]
 simp only []
 induction ns generalizing acc with
 | nil => simp
 | cons k ns ih => simp [List.forIn_cons, hf, ih]
end
end
section
open Go
section
variable {P : Program} {ρ : Rho} {H : AH} {w : World} {e : Operand → Value} {ev : Ev}
variable {dst : Option Tmp} {ty : TypeId} {pos : String} {after : Array Edge} {guard : Option (Nat × Bool)} {r : AR}
theorem xir {b : Nat} {cs : Array Value} {t : TypeId} {fz : Nat × Nat} (h : w.heap[b]? = some (.cells cs t fz)) : (viewAt b).run P w = .ok none w := by
 simp [viewAt, World.shape?, h]
theorem xn4 {t : TypeId} {a : Operand} (hH : HOK ρ H w) (h : xbt P H ev ⟨dst, .load t a, ty, pos, after, guard⟩ = some r) (he : (ev a).den ρ H.next (e a)) :
 xck P e ρ H.next ⟨dst, .load t a, ty, pos, after, guard⟩ r w := by
 simp only [xbt] at h
 split at h
 · rename_i id off hx
   rw [hx] at he; obtain ⟨_, hv⟩ := he
   cases hb : H.get id with
   | none => simp [hb] at h
   | some b =>
    simp only [hb, Option.bind_some, Option.map_eq_some_iff] at h
    obtain ⟨x, hp, rfl⟩ := h
    unfold xdX at hp
    simp only [xhO] at hp
    cases hag : xmC P t with
    | none => simp [hag] at hp
    | some q =>
     cases hs : szOf P t with
     | none => simp [hag, hs] at hp
     | some k =>
      cases q with
      | true =>
       simp only [hag, hs, Option.map_eq_some_iff] at hp
       obtain ⟨l, hc, rfl⟩ := hp
       obtain ⟨vs, hrun, hd, _⟩ := xly (P := P) hH hb hc
       have hrun := hrun w.drawn
       exact ⟨.agg vs.toArray, by simp [execOp, Instr.loadAt, hv, Instr.sureAddr, loadVar, xfV hag, xaT hs, hrun], _, rfl, by simpa using hd⟩
      | false =>
       simp only [hag, hs, Option.map_eq_some_iff] at hp
       obtain ⟨c, hc, rfl⟩ := hp
       obtain ⟨cs, fz, hl⟩ := hH.row id b hb
       obtain ⟨u, hu, hd⟩ := hl.cell hc
       exact ⟨u, by simp [execOp, Instr.loadAt, hv, Instr.sureAddr, loadVar, xfV hag, hu], hd⟩
 simp at h
theorem xio {n size : Nat} {x : AR} {u : Value} {l : List AC} (hH : HOK ρ H w) (h : xcr H n size x = some l) (hd : x.den ρ H.next u) :
 (∃ vs : List Value, All2 (AC.den ρ H.next) l vs ∧ ((∃ a len c, u = .slice (some a) len c ∧ n ≤ len ∧ ∀ d, (loadCells a (n * size)).run P { w with drawn := d } = .ok vs.toArray { w with drawn := d }) ∨
   (∃ len c, u = .slice none len c ∧ n = 0 ∧ vs = []) ∨ (∃ s : ByteArray, u = .string s ∧ n = s.size ∧ vs = s.data.toList.map fun b => .int .u8 b.toNat))) := by
 unfold xcr at h
 split at h
 · rename_i id off len cp es ex
   cases hb : (Nat.ble n len && Nat.beq es size) with
   | false => simp only [hb, cond_false, reduceCtorEq] at h
   | true =>
    simp only [hb, cond_true] at h
    simp only [Bool.and_eq_true, Nat.ble_eq, Nat.beq_eq] at hb
    cases hg : H.get id with
    | none => simp [hg] at h
    | some b =>
     simp only [hg, Option.bind_some] at h
     obtain ⟨hl, hc, o, c, hv, ho, hx1, hx2⟩ := hd
     obtain ⟨vs, hrun, hdv, _⟩ := xly (P := P) hH hg h
     refine ⟨vs, hdv, .inl ⟨⟨ρ.blk id, o, none⟩, len, c, hv, hb.1, ?_⟩⟩
     by_cases hc0 : c = 0
     · have : n = 0 := by
        cases ex with
        | true => have := hx1 rfl; omega
        | false => have := hx2 rfl; omega
       subst this
       have hl0 : l = [] := List.eq_nil_of_length_eq_zero (by have := xc6 h; omega)
       subst hl0
       have : vs = [] := List.eq_nil_of_length_eq_zero (by have := hdv.len; simpa using this.symm)
       subst this
       simp [loadCells, loadCellsFrom]
     rw [ho hc0]; exact hrun
 · rename_i a b
   cases hb : Nat.beq n 0 with
   | false => simp only [hb, cond_false, reduceCtorEq] at h
   | true =>
    simp only [hb, cond_true, Option.some.injEq] at h; subst h
    exact ⟨[], trivial, .inr (.inl ⟨_, _, hd.1, Nat.eq_of_beq_eq_true hb, rfl⟩)⟩
 · rename_i s
   cases hb : (Nat.beq n s.size && Nat.beq size 1) with
   | false => simp only [hb, cond_false, reduceCtorEq] at h
   | true =>
    simp only [hb, cond_true, Option.some.injEq] at h; subst h
    simp only [Bool.and_eq_true] at hb
    refine ⟨_, All2.of (l := s.data.toList.map fun b => AC.lit (.int .u8 b.toNat)) (m := s.data.toList.map fun b => Value.int .u8 b.toNat) (by simp) ?_, .inr (.inr ⟨s, hd.1, Nat.eq_of_beq_eq_true hb.1, rfl⟩)⟩
    intro i x y hx hy
    simp only [List.getElem?_map, Option.map_eq_some_iff] at hx hy
    obtain ⟨b, hb1, rfl⟩ := hx
    obtain ⟨b', hb2, rfl⟩ := hy
    rw [hb1] at hb2; cases hb2
    exact ⟨rfl, rfl⟩
 simp at h
theorem xkZ {s d : TypeId} {x : Operand} (hH : HOK ρ H w) (h : xbt P H ev ⟨dst, .convert s d x, ty, pos, after, guard⟩ = some r) (he : (ev x).den ρ H.next (e x)) :
 xck P e ρ H.next ⟨dst, .convert s d x, ty, pos, after, guard⟩ r w := by
 simp only [xbt] at h
 split at h
 · rename_i el id off len cp es ex hs hdd hx
   rw [hx] at he
   split at h
   · rename_i hel
     cases hb : Nat.beq es 1 with
     | false => simp only [hb, cond_false, reduceCtorEq] at h
     | true =>
      simp only [hb, cond_true] at h
      cases hc : xcr H len 1 (.one (.c (.sl id off len cp es ex))) with
      | none => simp [hc] at h
      | some l =>
       simp only [hc, Option.bind_some, Option.map_eq_some_iff] at h
       obtain ⟨b, hby, rfl⟩ := h
       obtain ⟨vs, hdv, hor⟩ := xio (P := P) hH hc he
       obtain ⟨ns, hvs, hs2⟩ := xe0 hby hdv
       rcases hor with ⟨a, l', c, hv, _, hrun⟩ | ⟨_, _, hv, _⟩ | ⟨_, hv, _⟩
       · refine ⟨.string b, ?_, rfl, rfl⟩
         obtain ⟨_, _, o', c', hv', _⟩ := he
         rw [hv'] at hv
         simp only [Value.slice.injEq, Option.some.injEq] at hv
         obtain ⟨rfl, rfl, rfl⟩ := hv
         have hrun := hrun w.drawn
         rw [Nat.mul_one] at hrun
         subst hvs
         simp only [execOp, convert, Sem.run_bind, run_underlying hs, run_underlying hdd, Result.andThen_ok, hv', run_underlying hel, Conv.bytesToString, hrun]
         rw [hs2]
         rw [xjm _ (fun _ _ => rfl)]
         rfl
       · obtain ⟨_, _, o', c', hv', _⟩ := he; rw [hv'] at hv; simp at hv
       obtain ⟨_, _, o', c', hv', _⟩ := he; rw [hv'] at hv; simp at hv
   simp at h
 · rename_i t id off hs hdd hx
   rw [hx] at he
   obtain ⟨hl, hv⟩ := he
   split at h
   · rename_i k b hsz hb
     cases hlt : Nat.blt off b.cells.length with
     | false => simp only [hlt, cond_false, reduceCtorEq] at h
     | true =>
      simp only [hlt, cond_true, Option.some.injEq] at h; subst h
      have hlt' : off < b.cells.length := by simpa [Nat.blt_eq] using hlt
      obtain ⟨cs, fz, hli⟩ := hH.row id b hb
      have hroom := hli.room
      refine ⟨_, ?_, hl, rfl⟩
      have hno : ¬ cs.size ≤ ρ.base id + off := by omega
      simp only [execOp, convert, Sem.run_bind, run_underlying hs, run_underlying hdd, Result.andThen_ok, hv]
      simp [Conv.unsafePointer, run_underlying hs, run_underlying hdd, Conv.seenAt, xir hli.heap, cellsIn, World.shape?, hli.heap, xaT hsz, hno]
   simp at h
 · rename_i u id off hs hdd hx
   rw [hx] at he
   obtain ⟨hl, hv⟩ := he
   split at h
   · rename_i k b hsz hb
     cases hlt : (b.whole && liesAt P P.depth b.elem (b.cells.length / P.cellsOf b.elem) off u 1) with
     | false => simp only [hlt, cond_false, reduceCtorEq] at h
     | true =>
      simp only [hlt, cond_true, Option.some.injEq] at h; subst h
      simp only [Bool.and_eq_true] at hlt
      obtain ⟨cs, fz, hli⟩ := hH.row id b hb
      obtain ⟨hba, hsi⟩ := hli.whole hlt.1
      refine ⟨_, ?_, hl, rfl⟩
      have hlies := hlt.2
      rw [← hsi] at hlies
      simp only [execOp, convert, Sem.run_bind, run_underlying hs, run_underlying hdd, Result.andThen_ok, hv]
      simp [Conv.unsafePointer, run_underlying hs, run_underlying hdd, Conv.seenAt, xir hli.heap, World.shape?, hli.heap, xaT hsz, variablesAt, hba, hlies]
   simp at h
 simp at h
theorem xet {o : Oper} (hH : HOK ρ H w) (h : xbt P H ev o = some r) (he : EvOK ρ H.next ev e o.op.operands.toList) : xck P e ρ H.next o r w := by
 obtain ⟨dst, op, ty, pos, after, guard⟩ := o
 cases op with
 | load t a => exact xn4 hH h (he a (by simp [Op.operands]))
 | convert s d x => exact xkZ hH h (he x (by simp [Op.operands]))
 | call c =>
  obtain ⟨callee, args, ats⟩ := c
  cases callee with
  | value f => simp [xbt] at h
  | invoke r m => simp [xbt] at h
  | builtin b =>
   cases b with
   | unsafeSliceData =>
    simp only [xbt] at h
    split at h
    · rename_i id off len cp es ex hl
      simp only [Option.some.injEq] at h; subst h
      obtain ⟨y, hy⟩ : ∃ y, args.toList = [y] := by
       cases hal : args.toList with
       | nil => simp [hal] at hl
       | cons y l => cases l with
        | nil => exact ⟨y, rfl⟩
        | cons z l => simp [hal] at hl
      have ha : args = #[y] := Array.toList_inj.1 (by simpa using hy)
      subst ha
      have h1 := he y (by simp [Op.operands, Call.operands])
      simp only [List.map_cons, List.map_nil, List.cons.injEq, and_true] at hl
      rw [hl] at h1
      obtain ⟨hlt, _, o', c', hv, ho, hx1, hx2⟩ := h1
      have hc : c' ≠ 0 := by
       cases ex with
       | true => have := hx1 rfl; omega
       | false => have := hx2 rfl; omega
      refine ⟨_, ?_, hlt, rfl⟩
      have hrun : (Builtin.unsafeSliceData_ ats ty #[e y]).run P w = .ok (.pointer (some ⟨ρ.blk id, ρ.base id + off, none⟩)) w := by
       rw [hv, ho hc]
       show (if c' ≠ 0 then (pure (Value.pointer (some _)) : Sem Value) else _).run P w = _
       rw [if_pos hc]; rfl
      simp [execOp, resolve, invoke, builtin, hrun]
    simp at h
   | _ => simp [xbt] at h
 | _ => simp [xbt] at h
end
end
end Go.Proofs.YtbifklibdkjbeaaGreatDoor
