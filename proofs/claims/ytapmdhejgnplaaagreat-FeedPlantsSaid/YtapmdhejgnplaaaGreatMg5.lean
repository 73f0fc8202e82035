/-
  Operations that look at no memory: slices, literals, and all of them together. No condition.
-/
import Derived.Test.YtapmdhejgnplaaaGreatEvRG
import Derived.Laws.Cells
import Derived.Laws.Append
import Derived.Deep.AppendSrc
namespace Go.Proofs.YtapmdhejgnplaaaGreat
open Go.RowKit
set_option linter.unusedVariables false
set_option linter.unusedSimpArgs false
set_option maxRecDepth 100000
section
open Go
section
variable {P : Program} {ρ : Rho} {n : Nat} {e : Operand -> Value} {ev : Ev}
variable {dst : Option Tmp} {ty : TypeId} {pos : String} {after : Array Edge} {guard : Option (Nat × Bool)} {r : AR} {w : World}
def Bd (e : Operand -> Value) : Option Operand -> Option Int -> Prop
 | none, none => True
 | some y, some k => ∃ kd, e y = .int kd k
 | _, _ => False
theorem xb8 {x : Option Operand} {b : Option Int} (h : xhp (x.map ev) = some b) (he : ∀ y ∈ x, (ev y).den ρ n (e y)) : Bd e x b := by
 cases x with
 | none => simp [xhp] at h; subst h; trivial
 | some y =>
  simp only [xhp, Option.map_some, Option.map_eq_some_iff] at h
  obtain ⟨k, hk, rfl⟩ := h
  exact xb7 hk (he y rfl)
theorem xfl {isSlice : Bool} {len cap : Nat} {lo hi mx : Option Operand} {l h m : Option Int}
 (hl : Bd e lo l)
 (hh : Bd e hi h)
 (hm : Bd e mx m)
 (h0 : 0 <= l.getD 0) (h1 : l.getD 0 <= h.getD len) (h2 : h.getD len <= m.getD cap) (h3 : m.getD cap <= cap) (hx : (h.isSome || !m.isSome) = true) :
 (Instr.sliceBounds isSlice len cap (lo.map e) (hi.map e) (mx.map e)).run P w = .ok ((l.getD 0).toNat, (h.getD len).toNat, (m.getD cap).toNat) w := by
 have sb : ∀ (v : Value) (kd : IntKind) (k : Int) (y : Nat) (c : BoundsCode), v = .int kd k -> 0 <= k -> k <= y -> (Instr.sliceBound v y c).run P w = .ok k.toNat w := by
  intro v kd k y c hv a b
  subst hv
  simp [Instr.sliceBound, asIntOf, a, b]
 cases mx with
 | none =>
  cases m with
  | some _ => exact hm.elim
  | none =>
   simp only [Option.getD_none] at *
   cases hi with
   | none =>
    cases h with
    | some _ => exact hh.elim
    | none =>
     simp only [Option.getD_none] at *
     cases lo with
     | none => cases l with
      | some _ => exact hl.elim
      | none => simp [Instr.sliceBounds]
     | some y => cases l with
      | none => exact hl.elim
      | some k =>
       obtain ⟨kd, hk⟩ := hl
       simp only [Option.getD_some] at *
       simp [Instr.sliceBounds, sb _ kd k len .sliceB hk h0 h1]
   | some z =>
    cases h with
    | none => exact hh.elim
    | some j =>
     obtain ⟨kd', hj⟩ := hh
     simp only [Option.getD_some] at *
     have s1 := fun c => sb _ kd' j cap c hj (by omega) h2
     cases lo with
     | none => cases l with
      | some _ => exact hl.elim
      | none => simp [Instr.sliceBounds, s1]
     | some y => cases l with
      | none => exact hl.elim
      | some k =>
       obtain ⟨kd, hk⟩ := hl
       simp only [Option.getD_some] at *
       have s2 := fun c => sb _ kd k j.toNat c hk h0 (by omega)
       simp [Instr.sliceBounds, s1, s2]
 | some u =>
  cases m with
  | none => exact hm.elim
  | some i =>
   obtain ⟨kd'', hi'⟩ := hm
   simp only [Option.getD_some] at *
   have s0 := fun c => sb _ kd'' i cap c hi' (by omega) h3
   cases hi with
   | none => cases h with
    | some _ => exact hh.elim
    | none => simp at hx
   | some z =>
    cases h with
    | none => exact hh.elim
    | some j =>
     obtain ⟨kd', hj⟩ := hh
     simp only [Option.getD_some] at *
     have s1 := fun c => sb _ kd' j i.toNat c hj (by omega) (by omega)
     cases lo with
     | none => cases l with
      | some _ => exact hl.elim
      | none => simp [Instr.sliceBounds, s0, s1]
     | some y => cases l with
      | none => exact hl.elim
      | some k =>
       obtain ⟨kd, hk⟩ := hl
       simp only [Option.getD_some] at *
       have s2 := fun c => sb _ kd k j.toNat c hk h0 (by omega)
       simp [Instr.sliceBounds, s0, s1, s2]
theorem q_slice {t : TypeId} {x : Operand} {lo hi mx : Option Operand} (h : xaP P ev ⟨dst, .slice t x lo hi mx, ty, pos, after, guard⟩ = some r)
 (he : EvOK ρ n ev e (Op.slice t x lo hi mx).operands.toList) : xck P e ρ n ⟨dst, .slice t x lo hi mx, ty, pos, after, guard⟩ r w := by
 simp only [xaP] at h
 split at h
 · rename_i r' hr; simp only [Option.some.injEq] at h; subst h; exact xaW hr he w
 have hex := he x (by simp [Op.operands])
 have hlo := fun y (hy : y ∈ lo) => he y (by simp only [Option.mem_def] at hy; subst hy; simp [Op.operands])
 have hhi := fun y (hy : y ∈ hi) => he y (by simp only [Option.mem_def] at hy; subst hy; simp [Op.operands])
 have hmx := fun y (hy : y ∈ mx) => he y (by simp only [Option.mem_def] at hy; subst hy; simp [Op.operands])
 split at h
 · rename_i el id off len cp es ex l hh m hu hx h1 h2 h3
   rw [hx] at hex; obtain ⟨hl, hc, o, c, hv, ho, hx1, hx2⟩ := hex
   split at h
   · rename_i s hs
     cases hse : Nat.beq s es with
     | false => simp only [hse, cond_false, reduceCtorEq] at h
     | true =>
      simp only [hse, cond_true] at h
      have : s = es := Nat.eq_of_beq_eq_true hse
      subst this
      cases hb : ((decide (0 <= l.getD 0) && (decide (l.getD 0 <= hh.getD len) && (decide (hh.getD len <= m.getD cp) && decide (m.getD cp <= cp)))) && (hh.isSome || !m.isSome)) with
      | false => simp only [hb, cond_false, reduceCtorEq] at h
      | true =>
       simp only [hb, cond_true, Option.some.injEq] at h
       subst h
       simp only [Bool.and_eq_true, decide_eq_true_eq] at hb
       obtain ⟨⟨b0, b1, b2, b3⟩, b4⟩ := hb
       have hcc : (cp : Int) <= c := by
        cases ex with
        | true => have := hx1 rfl; omega
        | false => have := (hx2 rfl).1; omega
       have hm2 : hh.getD len <= m.getD (c : Int) /\ m.getD (c : Int) <= c := by
        cases m with
        | none => simp at b2 ⊢; omega
        | some i => simp at b2 b3 ⊢; omega
       have hrun := xfl (P := P) (e := e) (w := w) (isSlice := true) (len := len) (cap := c) (xb8 h1 hlo) (xb8 h2 hhi) (xb8 h3 hmx) b0 b1 hm2.1 hm2.2 b4
       have hex' : (execOp e ⟨dst, .slice t x lo hi mx, ty, pos, after, guard⟩).run P w =
        .ok (.value (.slice (if (m.getD (c : Int)).toNat = (l.getD 0).toNat then some ⟨ρ.blk id, o, none⟩ else some ⟨ρ.blk id, o + (l.getD 0).toNat * s, none⟩)
         ((hh.getD len).toNat - (l.getD 0).toNat) ((m.getD (c : Int)).toNat - (l.getD 0).toNat))) w := by
        have hat : Instr.sliceAt t (e x) (lo.map e) (hi.map e) (mx.map e) = Instr.sliceAt t (.slice (some ⟨ρ.blk id, o, none⟩) len c) (lo.map e) (hi.map e) (mx.map e) := by rw [hv]
        simp only [execOp, hat]
        simp [Instr.sliceAt, Instr.slice, run_underlying hu, hrun, xaS hs, xcI]
       refine ⟨_, hex', hl, ?_, (if (m.getD (c : Int)).toNat = (l.getD 0).toNat then o else o + (l.getD 0).toNat * s), (m.getD (c : Int)).toNat - (l.getD 0).toNat, ?_, ?_, ?_, ?_⟩
       · omega
       · have e1 : (hh.getD len).toNat - (l.getD 0).toNat = (hh.getD ↑len - l.getD 0).toNat := by omega
         rw [e1]
         split <;> rfl
       · intro hne
         rw [if_neg (by omega), ho (by omega)]; omega
       · intro hex
         cases m with
         | none =>
          simp only [Option.isSome_none, Bool.false_or] at hex
          have := hx1 hex
          subst this; simp only [Option.getD_none]; omega
         | some i => simp only [Option.getD_some]; omega
       intro hex
       cases m with
       | some i => simp at hex
       | none =>
        simp only [Option.isSome_none, Bool.false_or] at hex
        obtain ⟨h5, h6⟩ := hx2 hex
        simp only [Option.getD_none] at b2 b3 ⊢
        refine ⟨by omega, ?_⟩
        split
        · rename_i heq
          have : (Int.toNat (c : Int)) - (l.getD 0).toNat = 0 := by omega
          rw [this, Nat.zero_mul]; omega
        have hle : (l.getD 0).toNat <= c := by omega
        have e2 : (Int.toNat (c : Int)) = c := by omega
        rw [e2, Nat.add_assoc, <- Nat.add_mul]
        have e3 : (l.getD 0).toNat + (c - (l.getD 0).toNat) = c := by omega
        rw [e3]; exact h6
   simp at h
 · rename_i k el id off l hh m hu hx h1 h2 h3
   rw [hx] at hex; obtain ⟨hl, hv⟩ := hex
   split at h
   · rename_i s hs
     cases hb : ((decide (0 <= l.getD 0) && (decide (l.getD 0 <= hh.getD k) && (decide (hh.getD k <= m.getD k) && decide (m.getD k <= k)))) && (hh.isSome || !m.isSome)) with
     | false => simp only [hb, cond_false, reduceCtorEq] at h
     | true =>
      simp only [hb, cond_true, Option.some.injEq] at h
      subst h
      simp only [Bool.and_eq_true, decide_eq_true_eq] at hb
      obtain ⟨⟨b0, b1, b2, b3⟩, b4⟩ := hb
      have hrun := xfl (P := P) (e := e) (w := w) (isSlice := false) (len := k) (cap := k) (xb8 h1 hlo) (xb8 h2 hhi) (xb8 h3 hmx) b0 b1 b2 b3 b4
      have hex' : (execOp e ⟨dst, .slice t x lo hi mx, ty, pos, after, guard⟩).run P w =
       .ok (.value (.slice (some (if (m.getD (k : Int)).toNat = (l.getD 0).toNat then ⟨ρ.blk id, ρ.base id + off, none⟩ else ⟨ρ.blk id, ρ.base id + off + (l.getD 0).toNat * s, none⟩))
        ((hh.getD k).toNat - (l.getD 0).toNat) ((m.getD (k : Int)).toNat - (l.getD 0).toNat))) w := by
       have hat : Instr.sliceAt t (e x) (lo.map e) (hi.map e) (mx.map e) = Instr.sliceAt t (.pointer (some ⟨ρ.blk id, ρ.base id + off, none⟩)) (lo.map e) (hi.map e) (mx.map e) := by rw [hv]
       simp only [execOp, hat]
       simp [Instr.sliceAt, Instr.sureAddr, run_underlying hu, hrun, xaS hs, xcI]
      refine ⟨_, hex', hl, by omega, (if (m.getD (k : Int)).toNat = (l.getD 0).toNat then ρ.base id + off else ρ.base id + off + (l.getD 0).toNat * s), (m.getD (k : Int)).toNat - (l.getD 0).toNat, ?_, ?_, ?_, ?_⟩
      · have e1 : (hh.getD (k : Int)).toNat - (l.getD 0).toNat = (hh.getD ↑k - l.getD 0).toNat := by omega
        rw [e1]
        split <;> rfl
      · intro hne
        rw [if_neg (by omega)]; omega
      · intro _; omega
      intro hex; simp at hex
   simp at h
 simp at h
end
end
section
open Go
section
variable {P : Program} {ρ : Rho} {n : Nat} {e : Operand -> Value} {ev : Ev}
variable {dst : Option Tmp} {ty : TypeId} {pos : String} {after : Array Edge} {guard : Option (Nat × Bool)} {r : AR} {w : World}
theorem xgG {x : Operand} {xt t : TypeId} {ok : Bool} (h : xaP P ev ⟨dst, .typeAssert x xt t ok, ty, pos, after, guard⟩ = some r) (he : EvOK ρ n ev e [x]) :
 xck P e ρ n ⟨dst, .typeAssert x xt t ok, ty, pos, after, guard⟩ r w := by
 simp only [xaP] at h
 split at h
 · rename_i r' hr; simp only [Option.some.injEq] at h; subst h; exact xaW hr he w
 have hex := he x (by simp)
 split at h
 · rename_i want u c hu hx
   rw [hx] at hex
   obtain ⟨y, hv, hy⟩ := hex
   split at h
   · rename_i i hi
     split at h
     · rename_i hm
       simp only [Option.some.injEq] at h; subst h
       cases ok with
       | true => exact ⟨.tuple #[.iface u y, .bool true], by simp [execOp, Instr.typeAssert, run_underlying hu, hv, typeInfo, hi, hm], _, rfl, ⟨⟨y, rfl, hy⟩, ⟨rfl, rfl⟩, trivial⟩⟩
       | false => exact ⟨.iface u y, by simp [execOp, Instr.typeAssert, run_underlying hu, hv, typeInfo, hi, hm], y, rfl, hy⟩
     simp at h
   simp at h
 · rename_i d u c hne hu hx
   rw [hx] at hex
   obtain ⟨y, hv, hy⟩ := hex
   cases hb : Nat.beq u t with
   | false => simp only [hb, cond_false, reduceCtorEq] at h
   | true =>
    have : u = t := Nat.eq_of_beq_eq_true hb
    subst this
    simp only [hb, cond_true, Option.some.injEq] at h; subst h
    have run : (execOp e ⟨dst, .typeAssert x xt u ok, ty, pos, after, guard⟩).run P w = .ok (.value (if ok then .tuple #[y, .bool true] else y)) w := by
     cases d <;> first
      | (simp [execOp, Instr.typeAssert, run_underlying hu, hv]; done)
      | (exact absurd hu (by intro hh; simp_all))
    cases ok with
    | true => exact ⟨_, run, _, rfl, ⟨hy, ⟨rfl, rfl⟩, trivial⟩⟩
    | false => exact ⟨_, run, hy⟩
 simp at h
theorem q_len {args : Array Operand} {ats : Array TypeId} (h : xaP P ev ⟨dst, .call ⟨.builtin .len, args, ats⟩, ty, pos, after, guard⟩ = some r) (he : EvOK ρ n ev e args.toList) :
 xck P e ρ n ⟨dst, .call ⟨.builtin .len, args, ats⟩, ty, pos, after, guard⟩ r w := by
 simp only [xaP] at h
 split at h
 · rename_i r' hr; simp only [Option.some.injEq] at h; subst h; exact xaW hr (by simpa [Op.operands, Call.operands] using he) w
 split at h
 · rename_i t x ht hx
   have hmem : x ∈ args.toList := by simpa using Array.mem_of_getElem? hx
   have hex := he x hmem
   have harg : (args.map e)[0]? = some (e x) := by simp [hx]
   split at h
   · rename_i el id off len cp es ex hu hxx
     simp only [Option.some.injEq] at h; subst h
     rw [hxx] at hex; obtain ⟨_, _, o, c, hv, _⟩ := hex
     exact ⟨.int .i64 len, by simp [execOp, resolve, invoke, builtin, Builtin.len_, ht, hx, run_underlying hu, hv, goInt], rfl, rfl⟩
   · rename_i k el hu
     simp only [Option.some.injEq] at h; subst h
     exact ⟨.int .i64 k, by simp [execOp, resolve, invoke, builtin, Builtin.len_, ht, hx, run_underlying hu, goInt], rfl, rfl⟩
   · rename_i a id off hu hxx
     rw [hxx] at hex; obtain ⟨_, hv⟩ := hex
     split at h
     · rename_i k el hua
       simp only [Option.some.injEq] at h; subst h
       exact ⟨.int .i64 k, by simp [execOp, resolve, invoke, builtin, Builtin.len_, ht, hx, run_underlying hu, run_underlying hua, goInt], rfl, rfl⟩
     simp at h
   simp at h
 simp at h
theorem xlx {g : Nat} {fn : Func} (hf : P.funcs[g]? = some fn) (hn : xjW fn = true) (v : Value) : (callFunc g #[v]).run P w = .ok (.value v) w := by
 simp only [xjW, Bool.and_eq_true, beq_iff_eq] at hn
 obtain ⟨hb, hname, ho⟩ := hn
 have h1 : Extern.findNext fn = none := by
  unfold Extern.findNext; rw [hname, ho]; rfl
 have h2 : Extern.find fn = some Extern.AbiNoEscape.same := by
  unfold Extern.find; rw [hname, ho]; rfl
 have hb2 : fn.body = none := by simpa using hb
 have h3 : (Extern.AbiNoEscape.same #[v]).run P w = .ok v w := rfl
 simp [callFunc, hf, hname, hb2, h1, h2, h3]
theorem q_noesc {f : Operand} {args : Array Operand} {ats : Array TypeId} (h : xaP P ev ⟨dst, .call ⟨.value f, args, ats⟩, ty, pos, after, guard⟩ = some r) (he : EvOK ρ n ev e (f :: args.toList)) :
 xck P e ρ n ⟨dst, .call ⟨.value f, args, ats⟩, ty, pos, after, guard⟩ r w := by
 simp only [xaP] at h
 split at h
 · rename_i g x hf ha
   split at h
   · rename_i fn hfn
     cases hn : xjW fn with
     | false => simp only [hn, cond_false, reduceCtorEq] at h
     | true =>
      simp only [hn, cond_true] at h
      split at h
      · rename_i id o hx
        simp only [Option.some.injEq] at h; subst h
        have h1 := he f (by simp)
        have h2 := he x (by simp [ha])
        rw [hf] at h1; rw [hx] at h2
        have h1' : e f = .func (.func g) #[] #[] := h1
        have hargs : args = #[x] := Array.toList_inj.1 (by simpa using ha)
        subst hargs
        refine ⟨e x, ?_, h2⟩
        have := xlx (w := w) hfn hn (e x)
        simp [execOp, resolve, invoke, h1', Deferred.ofValue, this]
      simp at h
   simp at h
 simp at h
theorem q_build {t : TypeId} {parts : Array (Nat × Operand)} (h : xaP P ev ⟨dst, .build t parts, ty, pos, after, guard⟩ = some r) (he : EvOK ρ n ev e (parts.toList.map (·.2))) :
 xck P e ρ n ⟨dst, .build t parts, ty, pos, after, guard⟩ r w := by
 simp only [xaP] at h
 split at h
 · rename_i r' hr; simp only [Option.some.injEq] at h; subst h; exact xaW hr (by simpa [Op.operands] using he) w
 split at h
 · rename_i z pl ps hz hpl hps
   simp only [Option.map_eq_some_iff] at h
   obtain ⟨l, hl, rfl⟩ := h
   obtain ⟨i, v, hi, hzz, hdz⟩ := xb9 hz ρ n
   obtain ⟨cells, hfill, hd⟩ := xg pl ps _ z l v.cells hl hdz (xeF hps he)
   refine ⟨.agg cells, ?_, cells, rfl, hd⟩
   have hb : P.built t (parts.map fun x => (x.1, e x.2)).toList = some cells := by
    unfold xiB at hpl
    unfold Program.built
    split at hpl
    · rename_i fields hu
      simp only [Option.map_eq_some_iff] at hpl
      obtain ⟨places, hp, rfl⟩ := hpl
      simp only [hi, hu, hzz, hp]
      simpa using hfill
    · rename_i k el hu
      simp only [Option.map_eq_some_iff, szOf] at hpl
      obtain ⟨s, ⟨ie, hie, rfl⟩, rfl⟩ := hpl
      simp only [hi, hu, hzz, hie]
      simpa using hfill
    simp at hpl
   simp [execOp, run_build w t _ cells hb]
 simp at h
theorem xeA {o : Oper} (h : xaP P ev o = some r) (he : EvOK ρ n ev e o.op.operands.toList) (w : World) : xck P e ρ n o r w := by
 obtain ⟨dst, op, ty, pos, after, guard⟩ := o
 cases op with
 | move x => simp only [xaP, Option.some.injEq] at h; subst h; exact ⟨e x, rfl, he x (by simp [Op.operands])⟩
 | assign x => simp only [xaP, Option.some.injEq] at h; subst h; exact ⟨e x, rfl, he x (by simp [Op.operands])⟩
 | pick c a b =>
  simp only [xaP] at h
  split at h
  · rename_i t hc
    simp only [Option.some.injEq] at h; subst h
    have h1 := he c (by simp [Op.operands])
    rw [hc] at h1
    have h1' := xei h1
    cases t with
    | true => exact ⟨e a, by simp [execOp, h1', asBool], he a (by simp [Op.operands])⟩
    | false => exact ⟨e b, by simp [execOp, h1', asBool], he b (by simp [Op.operands])⟩
  simp at h
 | nilCheck x => exact xjE h (he x (by simp [Op.operands]))
 | binOp op t x y yt => exact q_bin h (by simpa [Op.operands] using he)
 | makeInterface t x => exact q_iface h (by simpa [Op.operands] using he)
 | makeFunc f a b => exact xjF h (by simpa [Op.operands] using he)
 | fieldAddr s x f => exact xhK h (he x (by simp [Op.operands]))
 | field s x f => exact q_field h (he x (by simp [Op.operands]))
 | indexAddr t x i => exact xhJ h (he x (by simp [Op.operands])) (he i (by simp [Op.operands]))
 | index t x i => exact q_index h (by simpa [Op.operands] using he)
 | slice t x a b c => exact q_slice h he
 | typeAssert x a b c => exact xgG h (by simpa [Op.operands] using he)
 | extract x i =>
  simp only [xaP] at h
  split at h
  · rename_i vs hx
    simp only [Option.map_eq_some_iff] at h
    obtain ⟨a, ha, rfl⟩ := h
    have h1 := he x (by simp [Op.operands])
    rw [hx] at h1
    obtain ⟨us, hv, hd⟩ := h1
    obtain ⟨y, hy, hdy⟩ := hd.get ha
    have hy' : us[i]? = some y := by simpa using hy
    exact ⟨y, by simp [execOp, Instr.extract, hv, hy'], hdy⟩
  simp at h
 | build t ps => exact q_build h (by simpa [Op.operands] using he)
 | unOp a b x => exact xaW h he w
 | convert a b x =>
  simp only [xaP] at h
  split at h
  · rename_i r' hr; simp only [Option.some.injEq] at h; subst h; exact xaW hr he w
  simp at h
 | call c =>
  obtain ⟨callee, args, ats⟩ := c
  cases callee with
  | value f => exact q_noesc h (by simpa [Op.operands, Call.operands] using he)
  | invoke r m => simp [xaP] at h
  | builtin b =>
   cases b with
   | len => exact q_len h (by simpa [Op.operands, Call.operands] using he)
   | _ => exact xaW h he w
 | _ => simp [xaP] at h
end
end
section
open Go
structure Lies (ρ : Rho) (n : Nat) (w : World) (id : Nat) (b : Blk) (cs : Array Value) (fz : Nat × Nat) : Prop where
 heap : w.heap[ρ.blk id]? = some (.cells cs b.elem fz)
 size : cs.size = ρ.size id
 thaw : fz.1 = fz.2 \/ cs.size <= fz.1
 room : ρ.base id + b.cells.length <= cs.size
 whole : b.whole = true -> ρ.base id = 0 /\ cs.size = b.cells.length
 den : ∀ i x, b.cells[i]? = some x -> ∃ u, cs[ρ.base id + i]? = some u /\ x.den ρ n u
structure HOK (ρ : Rho) (H : AH) (w : World) : Prop where
 lt : ∀ id b, H.get id = some b -> id < H.next
 inj : ∀ id id' b b', H.get id = some b -> H.get id' = some b' -> ρ.blk id = ρ.blk id' -> id = id'
 row : ∀ id b, H.get id = some b -> ∃ cs fz, Lies ρ H.next w id b cs fz
structure Kp (H : AH) (ρ : Rho) (w : World) (H' : AH) (ρ' : Rho) (w' : World) : Prop where
 ext : Ext ρ ρ' H.next
 next : H.next <= H'.next
 size : w.heap.size <= w'.heap.size
 os : w'.os = w.os
 tape : w'.tape = w.tape
 output : w'.output = w.output
 frame : ∀ k, k < w.heap.size -> (∀ id b, H.get id = some b -> ρ.blk id ≠ k) -> w'.heap[k]? = w.heap[k]?
 come : ∀ id b, H'.get id = some b -> w.heap.size <= ρ'.blk id \/ ∃ id0 b0, H.get id0 = some b0 /\ ρ.blk id0 = ρ'.blk id
theorem Kp.refl (H : AH) (ρ : Rho) (w : World) : Kp H ρ w H ρ w :=
 ⟨.refl _ _, Nat.le_refl _, Nat.le_refl _, rfl, rfl, rfl, fun _ _ _ => rfl, fun id b h => .inr ⟨id, b, h, rfl⟩⟩
theorem Kp.trans {H H' H'' : AH} {ρ ρ' ρ'' : Rho} {w w' w'' : World} (h : Kp H ρ w H' ρ' w') (k : Kp H' ρ' w' H'' ρ'' w'') : Kp H ρ w H'' ρ'' w'' where
 ext := h.ext.trans k.ext h.next
 next := Nat.le_trans h.next k.next
 size := Nat.le_trans h.size k.size
 os := k.os.trans h.os
 tape := k.tape.trans h.tape
 output := k.output.trans h.output
 frame := fun i hi hn => (k.frame i (Nat.lt_of_lt_of_le hi h.size) fun id b hb e => by
  rcases h.come id b hb with h1 | ⟨id0, b0, h1, h2⟩
  · omega
  exact hn id0 b0 h1 (h2.trans e)).trans (h.frame i hi hn)
 come := fun id b hb => by
  rcases k.come id b hb with h1 | ⟨id1, b1, h1, h2⟩
  · exact .inl (Nat.le_trans h.size h1)
  rcases h.come id1 b1 h1 with h3 | ⟨id0, b0, h3, h4⟩
  · exact .inl (h2 ▸ h3)
  exact .inr ⟨id0, b0, h3, h4.trans h2⟩
section
variable {P : Program} {ρ : Rho} {H : AH} {w : World} {e : Operand -> Value} {ev : Ev}
theorem Lies.cell {n id : Nat} {b : Blk} {cs : Array Value} {fz : Nat × Nat} (h : Lies ρ n w id b cs fz) {i : Nat} {x : AC} (hx : b.cells[i]? = some x) :
 ∃ u, w.cell? ⟨ρ.blk id, ρ.base id + i, none⟩ = some u /\ x.den ρ n u := by
 obtain ⟨u, hu, hd⟩ := h.den i x hx
 exact ⟨u, by simp [World.cell?, h.heap, hu], hd⟩
theorem HOK.lt_size (h : HOK ρ H w) {id : Nat} {b : Blk} (hb : H.get id = some b) : ρ.blk id < w.heap.size := by
 obtain ⟨cs, fz, hl⟩ := h.row id b hb
 exact (Array.getElem?_eq_some_iff.1 hl.heap).1
theorem xlN {id : Nat} {b : Blk} (h : HOK ρ H w) (hb : H.get id = some b) {off k : Nat} {r : List AC} (hc : cut b.cells off k = some r) :
 ∃ vs : List Value, (∀ d, (loadCells ⟨ρ.blk id, ρ.base id + off, none⟩ k).run P { w with drawn := d } = .ok vs.toArray { w with drawn := d }) /\ All2 (AC.den ρ H.next) r vs /\
  ∀ i v, vs[i]? = some v -> w.cell? ⟨ρ.blk id, ρ.base id + off + i, none⟩ = some v := by
 obtain ⟨cs, fz, hl⟩ := h.row id b hb
 have hlen := xc9 hc
 have hr : r = (b.cells.drop off).take k := by
  unfold cut at hc
  cases hx : Nat.beq ((b.cells.drop off).take k).length k with
  | false => simp only [hx, cond_false, reduceCtorEq] at hc
  | true => simp only [hx, cond_true, Option.some.injEq] at hc; exact hc.symm
 let vs : List Value := (cs.toList.drop (ρ.base id + off)).take k
 have hcell : ∀ i, i < k -> ∃ x u, r[i]? = some x /\ b.cells[off + i]? = some x /\ cs[ρ.base id + (off + i)]? = some u /\ x.den ρ H.next u := by
  intro i hi
  have h1 : i < r.length := by omega
  have h2 : r[i]? = some r[i] := by simp [h1]
  have h3 : b.cells[off + i]? = some r[i] := by
   rw [<- h2, hr, List.getElem?_take, if_pos hi, List.getElem?_drop]
  obtain ⟨u, hu, hd⟩ := hl.den _ _ h3
  exact ⟨_, u, h2, h3, hu, hd⟩
 have hv : ∀ i, i < k -> ∃ x u, r[i]? = some x /\ vs[i]? = some u /\ x.den ρ H.next u := by
  intro i hi
  obtain ⟨x, u, h2, _, hu, hd⟩ := hcell i hi
  refine ⟨x, u, h2, ?_, hd⟩
  show ((cs.toList.drop (ρ.base id + off)).take k)[i]? = some u
  rw [List.getElem?_take, if_pos hi, List.getElem?_drop]
  rw [Nat.add_assoc, Array.getElem?_toList]; exact hu
 have hvl : vs.length = k := by
  rcases Nat.eq_zero_or_pos k with rfl | hk
  · show ((cs.toList.drop (ρ.base id + off)).take 0).length = 0; simp
  obtain ⟨x, u, _, hu, _⟩ := hv (k - 1) (by omega)
  have h1 := (List.getElem?_eq_some_iff.1 hu).1
  have h2 : vs.length <= k := List.length_take_le _ _
  omega
 have hcells : ∀ i v, vs[i]? = some v -> w.cell? ⟨ρ.blk id, ρ.base id + off + i, none⟩ = some v := by
  intro i v hi
  have hik : i < k := by have := (List.getElem?_eq_some_iff.1 hi).1; omega
  have : cs[ρ.base id + off + i]? = some v := by
   have h4 : ((cs.toList.drop (ρ.base id + off)).take k)[i]? = some v := hi
   rw [List.getElem?_take, if_pos hik, List.getElem?_drop, Array.getElem?_toList] at h4
   exact h4
  simp [World.cell?, hl.heap, this]
 refine ⟨vs, ?_, All2.of (by omega) ?_, hcells⟩
 · intro d
   have := run_loadCells_list (P := P) (w := { w with drawn := d }) ⟨ρ.blk id, ρ.base id + off, none⟩ vs (fun j v hj => by rw [xcI]; exact hcells j v hj)
   rw [hvl] at this; exact this
 intro i x y hx hy
 have hik : i < k := by have := (List.getElem?_eq_some_iff.1 hy).1; omega
 obtain ⟨x', u, h1, h2, h3⟩ := hv i hik
 rw [hx] at h1; rw [hy] at h2
 cases h1; cases h2; exact h3
theorem xe3 {ρ : Rho} {n : Nat} : ∀ {l : List AC} {vs : List Value} {acc s : ByteArray}, xfI l acc = some s -> All2 (AC.den ρ n) l vs ->
 ∃ ns : List Int, vs = ns.map (Value.int .u8 ·) /\ s = ns.foldl (fun a k => a.push (UInt8.ofNat k.toNat)) acc
 | [], [], acc, s, h, _ => by simp [xfI] at h; exact ⟨[], rfl, h.symm⟩
 | x :: l, v :: vs, acc, s, h, d => by
  unfold xfI at h
  split at h
  · rename_i heq; cases heq
  · rename_i k l' heq
    cases heq
    obtain ⟨ns, h1, h2⟩ := xe3 h d.2
    exact ⟨k :: ns, by rw [List.map_cons, <- h1]; rw [show v = _ from d.1.1], h2⟩
  simp at h
 | x :: l, [], _, _, _, d => d.elim
 | [], _ :: _, _, _, _, d => d.elim
theorem xjo (f : Value -> ByteArray -> Sem (ForInStep ByteArray)) (hf : ∀ k s, f (.int .u8 k) s = pure (.yield (s.push (UInt8.ofNat k.toNat)))) (ns : List Int) :
 ∀ (acc : ByteArray), (forIn (m := Sem) (ns.map (Value.int .u8 ·)).toArray acc f).run P w = .ok (ns.foldl (fun a k => a.push (UInt8.ofNat k.toNat)) acc) w := by
 intro acc
 rw [<- Array.forIn_toList]
 simp only []
 induction ns generalizing acc with
 | nil => simp
 | cons k ns ih => simp [List.forIn_cons, hf, ih]
end
end
section
open Go
section
variable {P : Program} {ρ : Rho} {H : AH} {w : World} {e : Operand -> Value} {ev : Ev}
variable {dst : Option Tmp} {ty : TypeId} {pos : String} {after : Array Edge} {guard : Option (Nat × Bool)} {r : AR}
theorem xiw {b : Nat} {cs : Array Value} {t : TypeId} {fz : Nat × Nat} (h : w.heap[b]? = some (.cells cs t fz)) : (viewAt b).run P w = .ok none w := by
 simp [viewAt, World.shape?, h]
theorem xog {t : TypeId} {a : Operand} (hH : HOK ρ H w) (h : xbr P H ev ⟨dst, .load t a, ty, pos, after, guard⟩ = some r) (he : (ev a).den ρ H.next (e a)) :
 xck P e ρ H.next ⟨dst, .load t a, ty, pos, after, guard⟩ r w := by
 simp only [xbr] at h
 split at h
 · rename_i id off hx
   rw [hx] at he; obtain ⟨_, hv⟩ := he
   cases hb : H.get id with
   | none => simp [hb] at h
   | some b =>
    simp only [hb, Option.bind_some, Option.map_eq_some_iff] at h
    obtain ⟨x, hp, rfl⟩ := h
    unfold xd2 at hp
    simp only [xhR] at hp
    cases hag : xmw P t with
    | none => simp [hag] at hp
    | some q =>
     cases hs : szOf P t with
     | none => simp [hag, hs] at hp
     | some k =>
      cases q with
      | true =>
       simp only [hag, hs, Option.map_eq_some_iff] at hp
       obtain ⟨l, hc, rfl⟩ := hp
       obtain ⟨vs, hrun, hd, _⟩ := xlN (P := P) hH hb hc
       have hrun := hrun w.drawn
       exact ⟨.agg vs.toArray, by simp [execOp, Instr.loadAt, hv, Instr.sureAddr, loadVar, xfU hag, xaS hs, hrun], _, rfl, by simpa using hd⟩
      | false =>
       simp only [hag, hs, Option.map_eq_some_iff] at hp
       obtain ⟨c, hc, rfl⟩ := hp
       obtain ⟨cs, fz, hl⟩ := hH.row id b hb
       obtain ⟨u, hu, hd⟩ := hl.cell hc
       exact ⟨u, by simp [execOp, Instr.loadAt, hv, Instr.sureAddr, loadVar, xfU hag, hu], hd⟩
 simp at h
theorem xit {n size : Nat} {x : AR} {u : Value} {l : List AC} (hH : HOK ρ H w) (h : xct H n size x = some l) (hd : x.den ρ H.next u) :
 (∃ vs : List Value, All2 (AC.den ρ H.next) l vs /\ ((∃ a len c, u = .slice (some a) len c /\ n <= len /\ ∀ d, (loadCells a (n * size)).run P { w with drawn := d } = .ok vs.toArray { w with drawn := d }) \/
   (∃ len c, u = .slice none len c /\ n = 0 /\ vs = []) \/ (∃ s : ByteArray, u = .string s /\ n = s.size /\ vs = s.data.toList.map fun b => .int .u8 b.toNat))) := by
 unfold xct at h
 split at h
 · rename_i id off len cp es ex
   cases hb : (Nat.ble n len && Nat.beq es size) with
   | false => simp only [hb, cond_false, reduceCtorEq] at h
   | true =>
    simp only [hb, cond_true] at h
    simp only [Bool.and_eq_true, Nat.ble_eq, Nat.beq_eq] at hb
    cases hg : H.get id with
    | none => simp [hg] at h
    | some b =>
     simp only [hg, Option.bind_some] at h
     obtain ⟨hl, hc, o, c, hv, ho, hx1, hx2⟩ := hd
     obtain ⟨vs, hrun, hdv, _⟩ := xlN (P := P) hH hg h
     refine ⟨vs, hdv, .inl ⟨⟨ρ.blk id, o, none⟩, len, c, hv, hb.1, ?_⟩⟩
     by_cases hc0 : c = 0
     · have : n = 0 := by
        cases ex with
        | true => have := hx1 rfl; omega
        | false => have := hx2 rfl; omega
       subst this
       have hl0 : l = [] := List.eq_nil_of_length_eq_zero (by have := xc9 h; omega)
       subst hl0
       have : vs = [] := List.eq_nil_of_length_eq_zero (by have := hdv.len; simpa using this.symm)
       subst this
       simp [loadCells, loadCellsFrom]
     rw [ho hc0]; exact hrun
 · rename_i a b
   cases hb : Nat.beq n 0 with
   | false => simp only [hb, cond_false, reduceCtorEq] at h
   | true =>
    simp only [hb, cond_true, Option.some.injEq] at h; subst h
    exact ⟨[], trivial, .inr (.inl ⟨_, _, hd.1, Nat.eq_of_beq_eq_true hb, rfl⟩)⟩
 · rename_i s
   cases hb : (Nat.beq n s.size && Nat.beq size 1) with
   | false => simp only [hb, cond_false, reduceCtorEq] at h
   | true =>
    simp only [hb, cond_true, Option.some.injEq] at h; subst h
    simp only [Bool.and_eq_true] at hb
    refine ⟨_, All2.of (l := s.data.toList.map fun b => AC.lit (.int .u8 b.toNat)) (m := s.data.toList.map fun b => Value.int .u8 b.toNat) (by simp) ?_, .inr (.inr ⟨s, hd.1, Nat.eq_of_beq_eq_true hb.1, rfl⟩)⟩
    intro i x y hx hy
    simp only [List.getElem?_map, Option.map_eq_some_iff] at hx hy
    obtain ⟨b, hb1, rfl⟩ := hx
    obtain ⟨b', hb2, rfl⟩ := hy
    rw [hb1] at hb2; cases hb2
    exact ⟨rfl, rfl⟩
 simp at h
theorem xk8 {s d : TypeId} {x : Operand} (hH : HOK ρ H w) (h : xbr P H ev ⟨dst, .convert s d x, ty, pos, after, guard⟩ = some r) (he : (ev x).den ρ H.next (e x)) :
 xck P e ρ H.next ⟨dst, .convert s d x, ty, pos, after, guard⟩ r w := by
 simp only [xbr] at h
 split at h
 · rename_i el id off len cp es ex hs hdd hx
   rw [hx] at he
   split at h
   · rename_i hel
     cases hb : Nat.beq es 1 with
     | false => simp only [hb, cond_false, reduceCtorEq] at h
     | true =>
      simp only [hb, cond_true] at h
      cases hc : xct H len 1 (.one (.c (.sl id off len cp es ex))) with
      | none => simp [hc] at h
      | some l =>
       simp only [hc, Option.bind_some, Option.map_eq_some_iff] at h
       obtain ⟨b, hby, rfl⟩ := h
       obtain ⟨vs, hdv, hor⟩ := xit (P := P) hH hc he
       obtain ⟨ns, hvs, hs2⟩ := xe3 hby hdv
       rcases hor with ⟨a, l', c, hv, _, hrun⟩ | ⟨_, _, hv, _⟩ | ⟨_, hv, _⟩
       · refine ⟨.string b, ?_, rfl, rfl⟩
         obtain ⟨_, _, o', c', hv', _⟩ := he
         rw [hv'] at hv
         simp only [Value.slice.injEq, Option.some.injEq] at hv
         obtain ⟨rfl, rfl, rfl⟩ := hv
         have hrun := hrun w.drawn
         rw [Nat.mul_one] at hrun
         subst hvs
         simp only [execOp, convert, Sem.run_bind, run_underlying hs, run_underlying hdd, Result.andThen_ok, hv', run_underlying hel, Conv.bytesToString, hrun]
         rw [hs2]
         rw [xjo _ (fun _ _ => rfl)]
         rfl
       · obtain ⟨_, _, o', c', hv', _⟩ := he; rw [hv'] at hv; simp at hv
       obtain ⟨_, _, o', c', hv', _⟩ := he; rw [hv'] at hv; simp at hv
   simp at h
 · rename_i t id off hs hdd hx
   rw [hx] at he
   obtain ⟨hl, hv⟩ := he
   split at h
   · rename_i k b hsz hb
     cases hlt : Nat.blt off b.cells.length with
     | false => simp only [hlt, cond_false, reduceCtorEq] at h
     | true =>
      simp only [hlt, cond_true, Option.some.injEq] at h; subst h
      have hlt' : off < b.cells.length := by simpa [Nat.blt_eq] using hlt
      obtain ⟨cs, fz, hli⟩ := hH.row id b hb
      have hroom := hli.room
      refine ⟨_, ?_, hl, rfl⟩
      have hno : ¬ cs.size <= ρ.base id + off := by omega
      simp only [execOp, convert, Sem.run_bind, run_underlying hs, run_underlying hdd, Result.andThen_ok, hv]
      simp [Conv.unsafePointer, run_underlying hs, run_underlying hdd, Conv.seenAt, xiw hli.heap, cellsIn, World.shape?, hli.heap, xaS hsz, hno]
   simp at h
 · rename_i u id off hs hdd hx
   rw [hx] at he
   obtain ⟨hl, hv⟩ := he
   split at h
   · rename_i k b hsz hb
     cases hlt : (b.whole && liesAt P P.depth b.elem (b.cells.length / P.cellsOf b.elem) off u 1) with
     | false => simp only [hlt, cond_false, reduceCtorEq] at h
     | true =>
      simp only [hlt, cond_true, Option.some.injEq] at h; subst h
      simp only [Bool.and_eq_true] at hlt
      obtain ⟨cs, fz, hli⟩ := hH.row id b hb
      obtain ⟨hba, hsi⟩ := hli.whole hlt.1
      refine ⟨_, ?_, hl, rfl⟩
      have hlies := hlt.2
      rw [<- hsi] at hlies
      simp only [execOp, convert, Sem.run_bind, run_underlying hs, run_underlying hdd, Result.andThen_ok, hv]
      simp [Conv.unsafePointer, run_underlying hs, run_underlying hdd, Conv.seenAt, xiw hli.heap, World.shape?, hli.heap, xaS hsz, variablesAt, hba, hlies]
   simp at h
 simp at h
theorem xex {o : Oper} (hH : HOK ρ H w) (h : xbr P H ev o = some r) (he : EvOK ρ H.next ev e o.op.operands.toList) : xck P e ρ H.next o r w := by
 obtain ⟨dst, op, ty, pos, after, guard⟩ := o
 cases op with
 | load t a => exact xog hH h (he a (by simp [Op.operands]))
 | convert s d x => exact xk8 hH h (he x (by simp [Op.operands]))
 | call c =>
  obtain ⟨callee, args, ats⟩ := c
  cases callee with
  | value f => simp [xbr] at h
  | invoke r m => simp [xbr] at h
  | builtin b =>
   cases b with
   | unsafeSliceData =>
    simp only [xbr] at h
    split at h
    · rename_i id off len cp es ex hl
      simp only [Option.some.injEq] at h; subst h
      obtain ⟨y, hy⟩ : ∃ y, args.toList = [y] := by
       cases hal : args.toList with
       | nil => simp [hal] at hl
       | cons y l => cases l with
        | nil => exact ⟨y, rfl⟩
        | cons z l => simp [hal] at hl
      have ha : args = #[y] := Array.toList_inj.1 (by simpa using hy)
      subst ha
      have h1 := he y (by simp [Op.operands, Call.operands])
      simp only [List.map_cons, List.map_nil, List.cons.injEq, and_true] at hl
      rw [hl] at h1
      obtain ⟨hlt, _, o', c', hv, ho, hx1, hx2⟩ := h1
      have hc : c' ≠ 0 := by
       cases ex with
       | true => have := hx1 rfl; omega
       | false => have := hx2 rfl; omega
      refine ⟨_, ?_, hlt, rfl⟩
      have hrun : (Builtin.unsafeSliceData_ ats ty #[e y]).run P w = .ok (.pointer (some ⟨ρ.blk id, ρ.base id + off, none⟩)) w := by
       rw [hv, ho hc]
       show (if c' ≠ 0 then (pure (Value.pointer (some _)) : Sem Value) else _).run P w = _
       rw [if_pos hc]; rfl
      simp [execOp, resolve, invoke, builtin, hrun]
    simp at h
   | _ => simp [xbr] at h
 | _ => simp [xbr] at h
end
end
section
open Go
def Rho.upd (ρ : Rho) (i b o s : Nat) : Rho :=
 ⟨fun j => if j = i then b else ρ.blk j, fun j => if j = i then o else ρ.base j, fun j => if j = i then s else ρ.size j⟩
theorem Rho.upd_ext (ρ : Rho) (i b o s : Nat) : Ext ρ (ρ.upd i b o s) i :=
 ⟨fun j hj => if_neg (by omega), fun j hj => if_neg (by omega), fun j hj => if_neg (by omega)⟩
theorem AH.get_new (H : AH) (b : Blk) (i : Nat) : (H.new b).get i = if i = H.next then some b else H.get i := by show Tr.getR (H.heap.put H.next (some b)) i = _; rw [Tr.getR_eq]; unfold AH.get; rw [Tr.getR_eq]; exact Tr.get_put _ _ _ _
theorem AH.get_set (H : AH) (k : Nat) (b : Option Blk) (i : Nat) : (H.set k b).get i = if i = k then b else H.get i := by show Tr.getR (H.heap.put k b) i = _; rw [Tr.getR_eq]; unfold AH.get; rw [Tr.getR_eq]; exact Tr.get_put _ _ _ _
section
variable {P : Program} {ρ : Rho} {H : AH} {w : World}
theorem xiW (hH : HOK ρ H w) {w' : World} {b : Blk} {cs : Array Value} {fz : Nat × Nat} {g o : Nat}
 (hsz : w.heap.size <= w'.heap.size) (hoth : ∀ k, k < w.heap.size -> k ≠ g -> w'.heap[k]? = w.heap[k]?) (hg : w'.heap[g]? = some (.cells cs b.elem fz))
 (hfree : ∀ id b, H.get id = some b -> ρ.blk id ≠ g)
 (hthaw : fz.1 = fz.2 \/ cs.size <= fz.1) (hroom : o + b.cells.length <= cs.size) (hwh : b.whole = true -> o = 0 /\ cs.size = b.cells.length)
 (hden : ∀ (i : Nat) (x : AC), b.cells[i]? = some x -> ∃ u, cs[o + i]? = some u /\ x.den ρ H.next u) :
 HOK (ρ.upd H.next g o cs.size) (H.new b) w' where
 lt := fun id b' h => by
  rw [AH.get_new] at h
  split at h
  · subst_vars; exact Nat.lt_succ_self _
  exact Nat.lt_succ_of_lt (hH.lt id b' h)
 inj := fun id id' c c' h h' e => by
  rw [AH.get_new] at h h'
  simp only [Rho.upd] at e
  by_cases h1 : id = H.next <;> by_cases h2 : id' = H.next
  · rw [h1, h2]
  · simp only [h1, if_true, h2, if_false] at e h'
    exact absurd e.symm (hfree id' c' h')
  · simp only [h1, if_false, h2, if_true] at e h
    exact absurd e (hfree id c h)
  simp only [h1, h2, if_false] at e h h'
  exact hH.inj id id' c c' h h' e
 row := fun id c h => by
  rw [AH.get_new] at h
  have ext := Rho.upd_ext ρ H.next g o cs.size
  split at h
  · rename_i hid
    subst hid
    simp only [Option.some.injEq] at h; subst h
    refine ⟨cs, fz, by simpa [Rho.upd] using hg, by simp [Rho.upd], hthaw, by simpa [Rho.upd] using hroom, by simpa [Rho.upd] using hwh, fun i x hx => ?_⟩
    obtain ⟨u, hu, hd⟩ := hden i x hx
    exact ⟨u, by simpa [Rho.upd] using hu, AC.den_mono ext (Nat.le_succ _) x u hd⟩
  rename_i hid
  obtain ⟨cs', fz', hl⟩ := hH.row id c h
  have hlt := hH.lt id c h
  have hb : (ρ.upd H.next g o cs.size).blk id = ρ.blk id := ext.blk id hlt
  have hne : ρ.blk id ≠ g := hfree id c h
  refine ⟨cs', fz', ?_, by rw [ext.size id hlt]; exact hl.size, hl.thaw, by rw [ext.base id hlt]; exact hl.room, by rw [ext.base id hlt]; exact hl.whole, fun i x hx => ?_⟩
  · rw [hb, hoth _ (hH.lt_size h) hne]; exact hl.heap
  obtain ⟨u, hu, hd⟩ := hl.den i x hx
  exact ⟨u, by rw [ext.base id hlt]; exact hu, AC.den_mono ext (Nat.le_succ _) x u hd⟩
theorem xot {w' : World} {b : Blk} {g o s : Nat} (hsz : w.heap.size <= w'.heap.size) (hos : w'.os = w.os) (hta : w'.tape = w.tape) (hou : w'.output = w.output)
 (hoth : ∀ k, k < w.heap.size -> k ≠ g -> w'.heap[k]? = w.heap[k]?) (hnew : w.heap.size <= g) (hH : HOK ρ H w) : Kp H ρ w (H.new b) (ρ.upd H.next g o s) w' where
 ext := Rho.upd_ext ρ H.next g o s
 next := Nat.le_succ _
 size := hsz
 os := hos
 tape := hta
 output := hou
 frame := fun k hk _ => hoth k hk (by omega)
 come := fun id c h => by
  rw [AH.get_new] at h
  split at h
  · rename_i hid; subst hid; left; simpa [Rho.upd] using hnew
  rename_i hid
  right; exact ⟨id, c, h, by simp [Rho.upd, hid]⟩
theorem xgO (hH : HOK ρ H w) {w' : World} {b : Blk} {cs : Array Value} {fz : Nat × Nat} (hh : w'.heap = w.heap.push (.cells cs b.elem fz)) (hos : w'.os = w.os) (hta : w'.tape = w.tape) (hou : w'.output = w.output)
 (hthaw : fz.1 = fz.2 \/ cs.size <= fz.1) (hroom : b.cells.length <= cs.size) (hwh : b.whole = true -> cs.size = b.cells.length)
 (hden : ∀ (i : Nat) (x : AC), b.cells[i]? = some x -> ∃ u, cs[i]? = some u /\ x.den ρ H.next u) :
 HOK (ρ.upd H.next w.heap.size 0 cs.size) (H.new b) w' /\ Kp H ρ w (H.new b) (ρ.upd H.next w.heap.size 0 cs.size) w' := by
 have hoth : ∀ k, k < w.heap.size -> k ≠ w.heap.size -> w'.heap[k]? = w.heap[k]? := fun k hk _ => by
  rw [hh, Array.getElem?_push, if_neg (by omega)]
 have hsz : w.heap.size <= w'.heap.size := by rw [hh]; simp
 refine ⟨xiW hH hsz hoth (by rw [hh]; simp) (fun id c h => by have := hH.lt_size h; omega) hthaw (by omega) (fun h => ⟨rfl, hwh h⟩) (fun i x hx => ?_), xot hsz hos hta hou hoth (Nat.le_refl _) hH⟩
 rw [Nat.zero_add]; exact hden i x hx
theorem xdR {ρ : Rho} {n : Nat} {l : List AC} {cs : Array Value} (h : All2 (AC.den ρ n) l cs.toList) : ∀ (i : Nat) (x : AC), l[i]? = some x -> ∃ u, cs[i]? = some u /\ x.den ρ n u := fun i x hx => by
 obtain ⟨u, hu, hd⟩ := h.get hx
 exact ⟨u, by simpa using hu, hd⟩
theorem xbh {ρ : Rho} {n : Nat} {l : List AC} {cs : Array Value} (h : All2 (AC.den ρ n) l cs.toList) : cs.size = l.length := by
 have := h.len; simpa using this.symm
theorem xow (hH : HOK ρ H w) (id : Nat) : HOK ρ (H.set id none) w /\ Kp H ρ w (H.set id none) ρ w := by
 have sub : ∀ {i b}, (H.set id none).get i = some b -> H.get i = some b := by
  intro i b h
  rw [AH.get_set] at h
  split at h
  · simp at h
  exact h
 exact ⟨⟨fun i b h => hH.lt i b (sub h), fun i j b c h h' e => hH.inj i j b c (sub h) (sub h') e, fun i b h => hH.row i b (sub h)⟩,
  ⟨.refl _ _, Nat.le_refl _, Nat.le_refl _, rfl, rfl, rfl, fun _ _ _ => rfl, fun i b h => .inr ⟨i, b, sub h, rfl⟩⟩⟩
theorem xdG (P : Program) (b o : Nat) (t : TypeId) (fz : Nat × Nat) : ∀ (vs : List Value) (i : Nat) (cur : Array Value) (w : World),
 w.heap[b]? = some (.cells cur t fz) -> (fz.1 = fz.2 \/ cur.size <= fz.1) -> o + i + vs.length <= cur.size -> (∀ v ∈ vs, v.oneCell' = true) ->
 ∃ w' cur', (storeCells ⟨b, o, none⟩ vs i).run P w = .ok () w' /\ w'.heap.size = w.heap.size /\ w'.os = w.os /\ w'.tape = w.tape /\ w'.output = w.output /\
  (∀ k, k ≠ b -> w'.heap[k]? = w.heap[k]?) /\ w'.heap[b]? = some (.cells cur' t fz) /\ cur'.size = cur.size /\
  ∀ k, cur'[k]? = if o + i <= k /\ k < o + i + vs.length then vs[k - (o + i)]? else cur[k]?
 | [], i, cur, w, h, _, _, _ => ⟨w, cur, rfl, rfl, rfl, rfl, rfl, fun _ _ => rfl, h, rfl, fun k => by rw [if_neg (by simp)]⟩
 | v :: vs, i, cur, w, h, hf, hl, h1 => by
  simp only [List.length_cons] at hl
  have hlt : o + i < cur.size := by omega
  have hc : w.cell? ⟨b, o + i, none⟩ = some cur[o + i] := by simp [World.cell?, h, hlt]
  have hfr : w.frozen? ⟨b, o + i, none⟩ = false := by
   obtain ⟨lo, hi⟩ := fz
   simp only at hf
   simp only [World.frozen?, h]
   rw [Bool.and_eq_false_iff]
   simp only [decide_eq_false_iff_not]
   omega
  let w1 := w.setCell ⟨b, o + i, none⟩ v
  have hw1 : w1.heap[b]? = some (.cells (cur.setIfInBounds (o + i) v) t fz) := by
   show (w.heap.modify b _)[b]? = _
   rw [Array.getElem?_modify]; simp [h]
  have hoth : ∀ k, k ≠ b -> w1.heap[k]? = w.heap[k]? := fun k hk => by
   show (w.heap.modify b _)[k]? = _
   rw [Array.getElem?_modify, if_neg (Ne.symm hk)]
  obtain ⟨w', cur', hrun, hs, hos, hta, hou, ho, hb, hcs, hk⟩ := xdG P b o t fz vs (i + 1) (cur.setIfInBounds (o + i) v) w1 hw1 (by simpa using hf) (by simp; omega) (fun u hu => h1 u (by simp [hu]))
  refine ⟨w', cur', ?_, hs.trans (by show (w.heap.modify b _).size = _; simp), hos, hta, hou, fun k hk => (ho k hk).trans (hoth k hk), hb, hcs.trans (by simp), fun k => ?_⟩
  · simp only [storeCells, Sem.run_bind, xcI]
    rw [run_store P w _ v .plain (h1 v (by simp)), hc]
    simp only [hfr]
    exact hrun
  rw [hk, Array.getElem?_setIfInBounds]
  simp only [List.length_cons]
  by_cases c1 : k = o + i
  · subst c1
    rw [if_neg (by omega), if_pos rfl, if_pos hlt, if_pos (by omega)]; simp
  by_cases c2 : o + (i + 1) <= k /\ k < o + (i + 1) + vs.length
  · rw [if_pos c2, if_pos (by omega)]
    have : k - (o + i) = (k - (o + (i + 1))) + 1 := by omega
    rw [this]; simp
  rw [if_neg c2, if_neg (Ne.symm c1), if_neg (by omega)]
theorem xoh (hH : HOK ρ H w) {id off : Nat} {b : Blk} (hb : H.get id = some b) {l : List AC} {vs : List Value} (hd : All2 (AC.den ρ H.next) l vs) (hlen : off + l.length <= b.cells.length) :
 ∃ w', (storeCells ⟨ρ.blk id, ρ.base id + off, none⟩ vs).run P w = .ok () w' /\ HOK ρ (H.set id (some ⟨xcm b.cells off l, b.elem, b.whole⟩)) w' /\
  Kp H ρ w (H.set id (some ⟨xcm b.cells off l, b.elem, b.whole⟩)) ρ w' := by
 obtain ⟨cs, fz, hl⟩ := hH.row id b hb
 have hroom := hl.room
 have hvl := hd.len
 have h1 : ∀ v ∈ vs, v.oneCell' = true := fun v hv => by
  obtain ⟨i, hi⟩ := List.mem_iff_getElem?.1 hv
  have : i < l.length := by have := (List.getElem?_eq_some_iff.1 hi).1; omega
  obtain ⟨u, hu, hdu⟩ := hd.get (List.getElem?_eq_getElem this)
  rw [hi] at hu; cases hu; exact AC.den_one hdu
 obtain ⟨w', cur', hrun, hs, hos, hta, hou, ho, hbk, hcs, hk⟩ := xdG P (ρ.blk id) (ρ.base id + off) b.elem fz vs 0 cs w hl.heap hl.thaw (by omega) h1
 have hsl : (xcm b.cells off l).length = b.cells.length := xjl hlen
 refine ⟨w', hrun, ⟨fun i c h => ?_, fun i j c c' h h' e => ?_, fun i c h => ?_⟩, .refl _ _, Nat.le_refl _, by omega, hos, hta, hou, fun k hk' hn => ho k (Ne.symm (hn id b hb)), fun i c h => ?_⟩
 · rw [AH.get_set] at h
   split at h
   · rename_i e; subst e; exact hH.lt _ b hb
   exact hH.lt i c h
 · rw [AH.get_set] at h h'
   have g1 : ∃ c, H.get i = some c := by
    split at h
    · rename_i e; subst e; exact ⟨b, hb⟩
    exact ⟨c, h⟩
   have g2 : ∃ c, H.get j = some c := by
    split at h'
    · rename_i e; subst e; exact ⟨b, hb⟩
    exact ⟨c', h'⟩
   obtain ⟨c1, g1⟩ := g1
   obtain ⟨c2, g2⟩ := g2
   exact hH.inj i j c1 c2 g1 g2 e
 · rw [AH.get_set] at h
   split at h
   · rename_i e; subst e
     simp only [Option.some.injEq] at h; subst h
     refine ⟨cur', fz, hbk, hcs.trans hl.size, by rw [hcs]; exact hl.thaw, by rw [hcs, hsl]; exact hl.room, fun hw => by rw [hcs, hsl]; exact hl.whole hw, fun k x hx => ?_⟩
     rw [hk]
     simp only [xer] at hx
     by_cases c1 : k < off
     · rw [List.getElem?_append_left (by simp; omega), List.getElem?_take, if_pos c1] at hx
       rw [if_neg (by omega)]
       exact hl.den k x hx
     rw [List.getElem?_append_right (by simp; omega)] at hx
     simp only [List.length_take] at hx
     have e1 : k - min off b.cells.length = k - off := by omega
     rw [e1] at hx
     by_cases c2 : k - off < l.length
     · rw [List.getElem?_append_left c2] at hx
       rw [if_pos (by omega)]
       obtain ⟨u, hu, hdu⟩ := hd.get hx
       refine ⟨u, ?_, hdu⟩
       have e2 : ρ.base i + k - (ρ.base i + off + 0) = k - off := by omega
       rw [e2]; exact hu
     rw [List.getElem?_append_right (by omega), List.getElem?_drop] at hx
     rw [if_neg (by omega)]
     have e2 : off + l.length + (k - off - l.length) = k := by omega
     rw [e2] at hx
     exact hl.den k x hx
   rename_i hne
   obtain ⟨cs', fz', hl'⟩ := hH.row i c h
   refine ⟨cs', fz', ?_, hl'.size, hl'.thaw, hl'.room, hl'.whole, hl'.den⟩
   rw [ho _ (fun e => hne (hH.inj i id c b h hb e))]
   exact hl'.heap
 rw [AH.get_set] at h
 split at h
 · rename_i e; subst e; exact .inr ⟨i, b, hb, rfl⟩
 exact .inr ⟨i, c, h, rfl⟩
end
end
section
open Go
section
variable {P : Program} {ρ : Rho} {H : AH} {w : World} {e : Operand -> Value} {ev : Ev}
variable {dst : Option Tmp} {ty : TypeId} {pos : String} {after : Array Edge} {guard : Option (Nat × Bool)} {r : AR} {H' : AH}
def Does (P : Program) (e : Operand -> Value) (ρ : Rho) (H : AH) (w : World) (o : Oper) (r : AR) (H' : AH) : Prop :=
 ∃ v w' ρ', ((execOp e o).run P w = .ok (.value v) w' \/ ((execOp e o).run P w = .ok .skip w' /\ v = undef)) /\ r.den ρ' H'.next v /\ HOK ρ' H' w' /\ Kp H ρ w H' ρ' w'
theorem xk0 (k : Nat) (z : List AC) : (rep k z).length = k * z.length := by
 induction k with
 | zero => simp [rep]
 | succ k ih => simp [rep, ih, Nat.succ_mul]; omega
theorem xk1 (z : List AC) : ∀ (k i : Nat), i < k * z.length -> (rep k z)[i]? = z[i % z.length]?
 | 0, i, h => by simp at h
 | k + 1, i, h => by
  simp only [rep]
  by_cases c : i < z.length
  · rw [List.getElem?_append_left c, Nat.mod_eq_of_lt c]
  rw [List.getElem?_append_right (by omega), xk1 z k (i - z.length) (by rw [Nat.succ_mul] at h; omega), Nat.mod_eq_sub_mod (a := i) (by omega)]
theorem xk2 {n : Nat} {z : List AC} {zc : Array Value} (hz : All2 (AC.den ρ n) z zc.toList) (k : Nat) :
 All2 (AC.den ρ n) (rep k z) ((Array.range (k * z.length)).map (zc[· % zc.size]!)).toList := by
 have hs := xbh hz
 refine All2.of (by simp [xk0]) fun i x y hx hy => ?_
 have hi : i < k * z.length := by have := (List.getElem?_eq_some_iff.1 hx).1; rw [xk0] at this; exact this
 rw [xk1 z k i hi] at hx
 obtain ⟨u, hu, hd⟩ := xdR hz _ _ hx
 simp only [Array.toList_map, List.getElem?_map, Array.toList_range, List.getElem?_range hi, Option.map_some, Option.some.injEq] at hy
 rw [<- hs] at hu
 have : zc[i % zc.size]! = u := by rw [getElem!_def, hu]
 rw [<- hy, this]; exact hd
theorem a_alloc {t : TypeId} (hH : HOK ρ H w) (h : actA P H ev ⟨dst, .alloc t, ty, pos, after, guard⟩ = some (r, H')) : Does P e ρ H w ⟨dst, .alloc t, ty, pos, after, guard⟩ r H' := by
 simp only [actA, Option.map_eq_some_iff, Prod.mk.injEq] at h
 obtain ⟨z, hz, rfl, rfl⟩ := h
 obtain ⟨i, v, hi, hzz, hd⟩ := xb9 hz ρ H.next
 obtain ⟨h1, h2⟩ := xgO hH (w' := w.alloc (.cells v.cells t)) (b := ⟨z, t, true⟩) (cs := v.cells) (fz := (0, 0)) rfl rfl rfl rfl (.inl rfl) (by rw [xbh hd]; exact Nat.le_refl _) (fun _ => xbh hd) (xdR hd)
 refine ⟨.pointer (some ⟨w.heap.size, 0, none⟩), _, _, .inl ?_, ⟨Nat.lt_succ_self _, by simp [Rho.upd]⟩, h1, h2⟩
 simp [execOp, Instr.alloc, zeroValue, typeInfo, hi, hzz, newVar, newRow]
theorem a_box {t : TypeId} {x : Operand} (hH : HOK ρ H w) (h : actA P H ev ⟨dst, .box t x, ty, pos, after, guard⟩ = some (r, H')) (he : (ev x).den ρ H.next (e x)) :
 Does P e ρ H w ⟨dst, .box t x, ty, pos, after, guard⟩ r H' := by
 simp only [actA] at h
 split at h
 · rename_i a hx
   simp only [Option.some.injEq, Prod.mk.injEq] at h
   obtain ⟨rfl, rfl⟩ := h
   rw [hx] at he
   have hd := AV.den_cells he
   obtain ⟨h1, h2⟩ := xgO hH (w' := w.alloc (.cells (e x).cells t)) (b := ⟨a.cells, t, true⟩) (cs := (e x).cells) (fz := (0, 0)) rfl rfl rfl rfl (.inl rfl) (by rw [xbh hd]; exact Nat.le_refl _) (fun _ => xbh hd) (xdR hd)
   refine ⟨.pointer (some ⟨w.heap.size, 0, none⟩), _, _, .inl ?_, ⟨Nat.lt_succ_self _, by simp [Rho.upd]⟩, h1, h2⟩
   simp [execOp, Instr.box, newVar, newRow]
 simp at h
theorem xht {t : TypeId} {len : Nat} {parts : Array (Nat × Operand)} (hH : HOK ρ H w) (h : actA P H ev ⟨dst, .buildSlice t len parts, ty, pos, after, guard⟩ = some (r, H'))
 (he : EvOK ρ H.next ev e (parts.toList.map (·.2))) : Does P e ρ H w ⟨dst, .buildSlice t len parts, ty, pos, after, guard⟩ r H' := by
 simp only [actA] at h
 split at h
 · rename_i el hu
   split at h
   · rename_i s z ps hs hz hps
     cases hb : (Nat.beq z.length s && Nat.ble (len * s) 16777216) with
     | false => simp only [hb, cond_false, reduceCtorEq] at h
     | true =>
      simp only [hb, cond_true, Option.map_eq_some_iff, Prod.mk.injEq] at h
      simp only [Bool.and_eq_true, Nat.beq_eq, Nat.ble_eq] at hb
      obtain ⟨l, hl, rfl, rfl⟩ := h
      obtain ⟨i, v, hi, hzz, hdz⟩ := xb9 hz ρ H.next
      have hsz : i.size = s := by simp [szOf, hi] at hs; exact hs
      have hrep := xk2 hdz len
      rw [hb.1] at hrep
      obtain ⟨cells, hfill, hd⟩ := xg (fun i => some (i * s, s)) ps _ (rep len z) l ((Array.range (len * s)).map (v.cells[· % v.cells.size]!)) hl hrep (xeF hps he)
      obtain ⟨h1, h2⟩ := xgO hH (w' := w.alloc (.cells cells el)) (b := ⟨l, el, true⟩) (cs := cells) (fz := (0, 0)) rfl rfl rfl rfl (.inl rfl) (by rw [xbh hd]; exact Nat.le_refl _) (fun _ => xbh hd) (xdR hd)
      refine ⟨.slice (some ⟨w.heap.size, 0, none⟩) len len, _, _, .inl ?_, ⟨Nat.lt_succ_self _, Nat.le_refl _, 0, len, by simp [Rho.upd], fun _ => by simp [Rho.upd], fun _ => rfl, fun hh => by simp at hh⟩, h1, h2⟩
      have hf : Instr.fill (fun i => some (i * s, s)) ((Array.range (len * s)).map (v.cells[· % v.cells.size]!)) (parts.map fun x => (x.1, e x.2)).toList = some cells := by simpa using hfill
      have hbig : ¬ len * s > 2 ^ 24 := by omega
      by_cases h0 : len * s = 0
      · rw [h0] at hf
        have he0 : (Array.range 0).map (v.cells[· % v.cells.size]!) = #[] := by simp
        rw [he0] at hf
        have hf' : Instr.fill (fun i => some (i * s, s)) #[] (parts.toList.map fun x => (x.1, e x.2)) = some cells := by simpa using hf
        have hr0 : Array.range 0 = #[] := rfl
        simp [execOp, Instr.buildSlice, run_underlying hu, xaS hs, h0, newRow, hf', hr0]
      have hf' : Instr.fill (fun i => some (i * s, s)) ((Array.range (len * s)).map (v.cells[· % v.cells.size]!)) (parts.toList.map fun x => (x.1, e x.2)) = some cells := by simpa using hf
      simp [execOp, Instr.buildSlice, run_underlying hu, xaS hs, h0, hbig, zeroValue, typeInfo, hi, hzz, newRow, hf']
   simp at h
 simp at h
theorem xik {t : TypeId} {l c : Operand} (hH : HOK ρ H w) (h : actA P H ev ⟨dst, .makeSlice t l c, ty, pos, after, guard⟩ = some (r, H'))
 (hel : (ev l).den ρ H.next (e l)) (hec : (ev c).den ρ H.next (e c)) : Does P e ρ H w ⟨dst, .makeSlice t l c, ty, pos, after, guard⟩ r H' := by
 simp only [actA] at h
 split at h
 · rename_i el ln cn hu hl hc
   obtain ⟨kl, hl⟩ := xb7 hl hel
   obtain ⟨kc, hc⟩ := xb7 hc hec
   split at h
   · rename_i s z by' hs hz hby
     cases hb : (Nat.ble ln cn && (Nat.blt cn 1000000 && (Nat.beq z.length s && Nat.ble (by' * cn) 140737488355328))) with
     | false => simp only [hb, cond_false, reduceCtorEq] at h
     | true =>
      simp only [hb, cond_true, Option.some.injEq, Prod.mk.injEq] at h
      simp only [Bool.and_eq_true, Nat.beq_eq, Nat.ble_eq, Nat.blt_eq] at hb
      obtain ⟨b1, b2, b3, b4⟩ := hb
      obtain ⟨rfl, rfl⟩ := h
      obtain ⟨i, v, hi, hzz, hdz⟩ := xb9 hz ρ H.next
      have hbyt : i.bytes = by' := by simp [hi] at hby; exact hby
      have hrep := xk2 hdz cn
      rw [b3] at hrep
      obtain ⟨h1, h2⟩ := xgO hH (w' := w.alloc (.cells ((Array.range (cn * s)).map (v.cells[· % v.cells.size]!)) el)) (b := ⟨rep cn z, el, true⟩) (cs := (Array.range (cn * s)).map (v.cells[· % v.cells.size]!)) (fz := (0, 0))
       rfl rfl rfl rfl (.inl rfl) (by rw [xbh hrep]; exact Nat.le_refl _) (fun _ => xbh hrep) (xdR hrep)
      refine ⟨.slice (some ⟨w.heap.size, 0, none⟩) ln cn, _, _, .inl ?_, ⟨Nat.lt_succ_self _, b1, 0, cn, by simp [Rho.upd], fun _ => by simp [Rho.upd], fun _ => rfl, fun hh => by simp at hh⟩, h1, h2⟩
      have w1 : IntKind.i64.wrap (ln : Int) = ln := by simp [IntKind.wrap, IntKind.signed, IntKind.bits]; omega
      have w2 : IntKind.i64.wrap (cn : Int) = cn := by simp [IntKind.wrap, IntKind.signed, IntKind.bits]; omega
      have t1 : ¬ ((cn : Int) < 0) := by omega
      have t2 : ¬ (281474976710656 < (i.bytes : Int) * (cn : Int)) := by
       rw [hbyt, <- Int.natCast_mul]; omega
      have t3 : ¬ ((ln : Int) < 0) := by omega
      have t4 : ¬ ((ln : Int) > (cn : Int)) := by omega
      have run : (Instr.makeSlice t (e l) (e c)).run P w = .ok (.slice (some ⟨w.heap.size, 0, none⟩) ln cn) (w.alloc (.cells ((Array.range (cn * s)).map (v.cells[· % v.cells.size]!)) el)) := by
       have hsz : (sizeOf el).run P w = .ok s w := xaS hs w
       by_cases h0 : cn * s = 0
       · rw [h0]
         have hr0 : Array.range 0 = #[] := rfl
         simp [hr0, Instr.makeSlice, run_underlying hu, hl, hc, asInt, asIntOf, typeInfo, hi, w1, w2, t1, t2, t3, t4, hsz, h0, newRow]
       simp [Instr.makeSlice, run_underlying hu, hl, hc, asInt, asIntOf, typeInfo, hi, w1, w2, t1, t2, t3, t4, hsz, h0, newRow, zeroValue, hzz]
      simp [execOp, run]
   simp at h
 simp at h
theorem a_store {t : TypeId} {a x : Operand} (hH : HOK ρ H w) (h : actA P H ev ⟨dst, .store t a x, ty, pos, after, guard⟩ = some (r, H'))
 (hea : (ev a).den ρ H.next (e a)) (hex : (ev x).den ρ H.next (e x)) : Does P e ρ H w ⟨dst, .store t a x, ty, pos, after, guard⟩ r H' := by
 simp only [actA] at h
 split at h
 · rename_i id off v ha hx
   rw [ha] at hea; rw [hx] at hex
   obtain ⟨hlt, hv⟩ := hea
   split at h
   · rename_i b k hb hs
     cases hc : (Nat.beq v.cells.length k && Nat.ble (off + k) b.cells.length) with
     | false => simp only [hc, cond_false, reduceCtorEq] at h
     | true =>
      simp only [hc, cond_true, Option.some.injEq, Prod.mk.injEq] at h
      simp only [Bool.and_eq_true, Nat.beq_eq, Nat.ble_eq] at hc
      obtain ⟨rfl, rfl⟩ := h
      have hd := AV.den_cells hex
      obtain ⟨w', hrun, h1, h2⟩ := xoh (P := P) (off := off) hH hb hd (by omega)
      refine ⟨undef, w', ρ, .inr ⟨?_, rfl⟩, ⟨#[], rfl, trivial⟩, h1, h2⟩
      have hsz : (e x).cells.size = k := by rw [xbh hd]; exact hc.1
      simp [execOp, Instr.storeAt, hv, Instr.sureAddr, storeVar, xaS hs, hsz, hrun]
   simp at h
 simp at h
end
end
section
open Go
section
variable {P : Program} {ρ : Rho} {H : AH} {w : World} {e : Operand -> Value} {ev : Ev}
variable {dst : Option Tmp} {ty : TypeId} {pos : String} {after : Array Edge} {guard : Option (Nat × Bool)} {r : AR} {H' : AH}
theorem HOK.drawn (h : HOK ρ H w) (d : Nat) : HOK ρ H { w with drawn := d } := ⟨h.lt, h.inj, fun id b hb => let ⟨cs, fz, hl⟩ := h.row id b hb; ⟨cs, fz, hl.heap, hl.size, hl.thaw, hl.room, hl.whole, hl.den⟩⟩
theorem xfD {u : TypeId} (h : xnx P u = true) : (∃ e', P.underlying u = some (.slice e')) \/ P.underlying u = some .string := by
 unfold xnx at h
 split at h
 · rename_i hu; exact .inl ⟨_, hu⟩
 · rename_i hu; exact .inr hu
 simp at h
theorem ones_of {n : Nat} {l : List AC} {vs : List Value} (h : All2 (AC.den ρ n) l vs) : ∀ v ∈ vs, v.oneCell' = true := fun v hv => by
 obtain ⟨i, hi⟩ := List.mem_iff_getElem?.1 hv
 have : i < l.length := by have := (List.getElem?_eq_some_iff.1 hi).1; have := h.len; omega
 obtain ⟨u, hu, hdu⟩ := h.get (List.getElem?_eq_getElem this)
 rw [hi] at hu; cases hu; exact AC.den_one hdu
theorem xf6 {n : Nat} {x : AR} {u : Value} {k : Nat} (h : lenA x = some n) (hd : x.den ρ k u) (w' : World) : (Builtin.lenOf u).run P w' = .ok n w' := by
 unfold lenA at h
 split at h
 · simp only [Option.some.injEq] at h; subst h
   obtain ⟨_, _, o, c, hv, _⟩ := hd; rw [hv]; rfl
 · simp only [Option.some.injEq] at h; subst h; rw [show u = _ from hd.1]; rfl
 · simp only [Option.some.injEq] at h; subst h; rw [show u = _ from hd.1]; rfl
 simp at h
theorem src_of {tx : TypeId} {n size : Nat} {x : AR} {u : Value} {l : List AC} (hH : HOK ρ H w) (hk : xnx P tx = true) (hn : lenA x = some n) (h : xct H n size x = some l) (hl : l.length = n * size)
 (hd : x.den ρ H.next u) : ∃ vs : List Value, Src P size tx u n vs w /\ All2 (AC.den ρ H.next) l vs := by
 obtain ⟨vs, hdv, hor⟩ := xit (P := P) hH h hd
 have hlen := hdv.len
 have hfc : ∀ d, (Builtin.firstCells size n u).run P { w with drawn := d } = .ok vs.toArray { w with drawn := d } := by
  intro d
  rcases hor with ⟨a, len, c, hv, hle, hrun⟩ | ⟨len, c, hv, h0, hvs⟩ | ⟨s, hv, hs, hvs⟩
  · rw [hv]; exact hrun d
  · rw [hv, hvs]; rfl
  rw [hv, hvs, hs]
  simp only [Builtin.firstCells, Sem.run_pure]
  congr 1
  apply Array.ext'
  have : s.extract 0 s.size = s := by
   apply ByteArray.ext; simp
  simp [this]
 exact ⟨vs, ⟨xfD hk, fun w' => xf6 hn hd w', hfc w.drawn, hfc (w.drawn + 1), by omega, ones_of hdv⟩, hdv⟩
theorem xby {t tx el : TypeId} {i : TypeInfo} (ht : P.underlying t = some (.slice el)) (hi : P.info? el = some i) (base : Option Addr) (len cap : Nat) (x : Value) (n : Nat) (news : List Value) (hs : Src P i.size tx x n news w)
 (hroom : len + n <= cap) {w' : World} (hst : ∀ a, base = some a -> (storeCells (a.add (len * i.size)) news).run P w = .ok () w') (hno : base = none -> w' = w) :
 (Builtin.append_ #[t, tx] ty #[.slice base len cap, x]).run P w = .ok (.slice base (len + n) cap) w' := by
 cases base with
 | none =>
  obtain rfl := hno rfl
  rcases hs.kind with ⟨e', hk⟩ | hk <;> simp [Builtin.append_, run_underlying ht, run_underlying hk, sizeOf, typeInfo, hi, hs.len, hroom, hs.cells]
 | some a =>
  have hst := hst a rfl
  rcases hs.kind with ⟨e', hk⟩ | hk <;> simp [Builtin.append_, run_underlying ht, run_underlying hk, sizeOf, typeInfo, hi, hs.len, hroom, hs.cells, hst]
theorem xi1 (hH : HOK ρ H w) {b : Blk} {olds news : List Value} {zs : Array Value} (hwh : b.whole = false) (hd : All2 (AC.den ρ H.next) b.cells (olds ++ news)) :
 HOK (ρ.upd H.next w.heap.size 0 ((olds ++ news).toArray ++ zs).size) (H.new b) (w.drew.alloc (.cells ((olds ++ news).toArray ++ zs) b.elem)) /\
  Kp H ρ w (H.new b) (ρ.upd H.next w.heap.size 0 ((olds ++ news).toArray ++ zs).size) (w.drew.alloc (.cells ((olds ++ news).toArray ++ zs) b.elem)) := by
 have hlen := hd.len
 refine xgO hH (fz := (0, 0)) rfl rfl rfl rfl (.inl rfl) (by simp at hlen ⊢; omega) (fun h => by rw [hwh] at h; simp at h) fun k x hx => ?_
 obtain ⟨u, hu, hdu⟩ := hd.get hx
 refine ⟨u, ?_, hdu⟩
 have hk : k < (olds ++ news).length := (List.getElem?_eq_some_iff.1 hu).1
 rw [Array.getElem?_append_left (by simpa using hk)]
 simpa using hu
end
end
section
open Go
section
variable {P : Program} {ρ : Rho} {H : AH} {w : World} {e : Operand -> Value} {ev : Ev}
variable {dst : Option Tmp} {ty : TypeId} {pos : String} {after : Array Edge} {guard : Option (Nat × Bool)} {r : AR} {H' : AH}
theorem xig {x y : Operand} {t u : TypeId} : execOp e ⟨dst, .call ⟨.builtin .append, #[x, y], #[t, u]⟩, ty, pos, after, guard⟩ = (do pure (.value (<- Builtin.append_ #[t, u] ty #[e x, e y]))) := by
 simp [execOp, resolve, invoke, builtin]
theorem over_ok {t tx el : TypeId} {i : TypeInfo} {z : Value} (hH : HOK ρ H w) (ht : P.underlying t = some (.slice el)) (hi : P.info? el = some i) (hz : i.zero = some z)
 {id off len cp n : Nat} {b : Blk} (hb : H.get id = some b) {s u : Value} (hsl : (AC.sl id off len cp i.size false).den ρ H.next s)
 {old new : List AC} {news : List Value} (hs : Src P i.size tx u n news w) (hdn : All2 (AC.den ρ H.next) new news) (hn : 0 < n)
 (hold : cut b.cells off (len * i.size) = some old) (hoff : off + len * i.size = b.cells.length) (hel : b.elem = el)
 (hzc : z.cells.size = i.size) (hby : (len + n) * i.bytes <= 1099511627776) (hsm : len + n < 2 ^ 62) :
 ∃ v w' ρ', (Builtin.append_ #[t, tx] ty #[s, u]).run P w = .ok v w' /\
  (AC.sl H.next 0 (len + n) (len + n) i.size false).den ρ' (H.next + 1) v /\ HOK ρ' ((H.set id none).new ⟨old ++ new, el, false⟩) w' /\
  Kp H ρ w ((H.set id none).new ⟨old ++ new, el, false⟩) ρ' w' := by
 obtain ⟨hlt, hlc, o, c, rfl, ho, _, hx⟩ := hsl
 obtain ⟨hcc, hsz⟩ := hx rfl
 obtain ⟨hD, hK⟩ := xow hH id
 obtain ⟨cs, fz, hl⟩ := hH.row id b hb
 have hnl := hs.newsLen
 have hol := xc9 hold
 by_cases hfit : len + n <= c
 · have hc0 : c ≠ 0 := by omega
   have hoe := ho hc0
   subst hoe
   have hmul : (len + n) * i.size <= c * i.size := Nat.mul_le_mul_right _ hfit
   rw [Nat.add_mul] at hmul
   have hcs := hl.size
   obtain ⟨w', cur', hrun, hs1, hos, hta, hou, hoth, hbk, hcur, hk⟩ := xdG P (ρ.blk id) (ρ.base id + off + len * i.size) b.elem fz news 0 cs w hl.heap hl.thaw (by omega) hs.one
   have hap := xby (P := P) (ty := ty) ht hi (some ⟨ρ.blk id, ρ.base id + off, none⟩) len c u n news hs hfit (w' := w') (fun a ha => by cases ha; rw [xcI]; exact hrun) (fun h => by cases h)
   have hothk : ∀ k, k < w.heap.size -> k ≠ ρ.blk id -> w'.heap[k]? = w.heap[k]? := fun k _ hk => hoth k hk
   have hfree : ∀ id' b', (H.set id none).get id' = some b' -> ρ.blk id' ≠ ρ.blk id := fun id' b' h' e => by
    rw [AH.get_set] at h'
    split at h'
    · simp at h'
    rename_i hne; exact hne (hH.inj id' id b' b h' hb e)
   have hlen2 : (old ++ new).length = (len + n) * i.size := by rw [List.length_append, hol, hdn.len, hnl, Nat.add_mul]
   have hdold : ∀ k x, old[k]? = some x -> ∃ v, cs[ρ.base id + off + k]? = some v /\ x.den ρ H.next v := fun k x hx => by
    have hk' : k < len * i.size := by have := (List.getElem?_eq_some_iff.1 hx).1; omega
    have hoc : b.cells[off + k]? = some x := by
     unfold cut at hold
     cases hq : Nat.beq ((b.cells.drop off).take (len * i.size)).length (len * i.size) with
     | false => simp only [hq, cond_false, reduceCtorEq] at hold
     | true =>
      simp only [hq, cond_true, Option.some.injEq] at hold
      rw [<- hold, List.getElem?_take, if_pos hk', List.getElem?_drop] at hx
      exact hx
    obtain ⟨v, hv, hd⟩ := hl.den _ _ hoc
    exact ⟨v, by rw [Nat.add_assoc]; exact hv, hd⟩
   refine ⟨_, w', ρ.upd H.next (ρ.blk id) (ρ.base id + off) cur'.size, hap, ⟨Nat.lt_succ_self _, Nat.le_refl _, ρ.base id + off, c, by simp [Rho.upd], fun _ => by simp [Rho.upd], fun h => by simp at h, fun _ => ⟨hfit, by simp [Rho.upd]; omega⟩⟩, ?_, ?_⟩
   · refine xiW hD (by omega) hothk (by rw [<- hel]; exact hbk) hfree (by rw [hcur]; exact hl.thaw) (by rw [hlen2, hcur, Nat.add_mul]; omega) (fun h => by simp at h) fun k x hx => ?_
     simp only at hx
     rw [hk]
     by_cases c1 : k < len * i.size
     · rw [List.getElem?_append_left (by omega)] at hx
       rw [if_neg (by omega)]
       exact hdold k x hx
     rw [List.getElem?_append_right (by omega), hol] at hx
     obtain ⟨v, hv, hd⟩ := hdn.get hx
     have : k - len * i.size < news.length := (List.getElem?_eq_some_iff.1 hv).1
     rw [if_pos (by omega)]
     have e2 : ρ.base id + off + k - (ρ.base id + off + len * i.size + 0) = k - len * i.size := by omega
     exact ⟨v, by rw [e2]; exact hv, hd⟩
   refine ⟨Rho.upd_ext _ _ _ _ _, Nat.le_succ _, by omega, hos, hta, hou, fun k hk' hn' => hoth k (Ne.symm (hn' id b hb)), fun id' b' h' => ?_⟩
   rw [AH.get_new] at h'
   split at h'
   · rename_i hid
     have hid : id' = H.next := hid
     exact .inr ⟨id, b, hb, by simp [Rho.upd, hid]⟩
   rename_i hid
   have hid : ¬ id' = H.next := hid
   rw [AH.get_set] at h'
   split at h'
   · simp at h'
   exact .inr ⟨id', b', h', by simp [Rho.upd, hid]⟩
 have hdold : ∃ olds : List Value, (∀ d, (Builtin.firstCells i.size len (.slice (some ⟨ρ.blk id, o, none⟩) len c)).run P { w with drawn := d } = .ok olds.toArray { w with drawn := d }) /\ All2 (AC.den ρ H.next) old olds := by
  obtain ⟨olds, hrun, hdo, _⟩ := xlN (P := P) hH hb hold
  refine ⟨olds, fun d => ?_, hdo⟩
  by_cases hc0 : c = 0
  · have hl0 : len = 0 := by omega
    subst hl0
    have : old = [] := List.eq_nil_of_length_eq_zero (by omega)
    subst this
    have : olds = [] := List.eq_nil_of_length_eq_zero (by have := hdo.len; simpa using this.symm)
    subst this
    simp [Builtin.firstCells, loadCells, loadCellsFrom]
  rw [ho hc0]; exact hrun d
 obtain ⟨olds, hrun, hdo⟩ := hdold
 have hgr := run_append_grow_src (P := P) w t tx ty el i z ht hi hz (some ⟨ρ.blk id, o, none⟩) len c olds (hrun (w.drawn + 1)) u n news hs (by omega) (by omega) (growslice_fits (by omega) (by omega))
 have hge := grownCap_ge w (len + n) c el
 obtain ⟨h1, h2⟩ := xi1 (zs := Builtin.zeroCells z.cells (grownCap w (len + n) c el - (len + n))) hD (b := ⟨old ++ new, el, false⟩) rfl (hdo.app hdn)
 refine ⟨_, _, _, hgr, ⟨Nat.lt_succ_self _, Nat.le_refl _, 0, _, by simp [Rho.upd, AH.set_next], fun _ => by simp [Rho.upd, AH.set_next], fun h => by simp at h, fun _ => ⟨hge, ?_⟩⟩, h1, hK.trans h2⟩
 have ho2 : olds.length = len * i.size := by rw [<- hdo.len]; exact hol
 simp only [Rho.upd, AH.set_next, if_true, Array.size_append, List.size_toArray, List.length_append, size_zeroCells, ho2, hnl]
 rw [Nat.zero_add, <- Nat.add_mul]
 rw [hzc, <- Nat.add_mul]
 have : len + n + (grownCap w (len + n) c el - (len + n)) = grownCap w (len + n) c el := by omega
 rw [this]; exact Nat.le_refl _
theorem xhA {n size : Nat} {x : AR} {l : List AC} (h : xct H n size x = some l) : l.length = n * size := by
 unfold xct at h
 split at h
 · rename_i id off len cp es ex
   cases hb : (Nat.ble n len && Nat.beq es size) with
   | false => simp only [hb, cond_false, reduceCtorEq] at h
   | true =>
    simp only [hb, cond_true] at h
    cases hg : H.get id with
    | none => simp [hg] at h
    | some b => simp only [hg, Option.bind_some] at h; exact xc9 h
 · cases hb : Nat.beq n 0 with
   | false => simp only [hb, cond_false, reduceCtorEq] at h
   | true =>
    simp only [hb, cond_true, Option.some.injEq] at h; subst h
    rw [Nat.eq_of_beq_eq_true hb]; simp
 · rename_i s
   cases hb : (Nat.beq n s.size && Nat.beq size 1) with
   | false => simp only [hb, cond_false, reduceCtorEq] at h
   | true =>
    simp only [hb, cond_true, Option.some.injEq] at h; subst h
    simp only [Bool.and_eq_true] at hb
    rw [Nat.eq_of_beq_eq_true hb.1, Nat.eq_of_beq_eq_true hb.2]; simp
 simp at h
theorem xn9 {args : Array Operand} {ats : Array TypeId} (hH : HOK ρ H w) (h : actA P H ev ⟨dst, .call ⟨.builtin .append, args, ats⟩, ty, pos, after, guard⟩ = some (r, H'))
 (he : EvOK ρ H.next ev e args.toList) : Does P e ρ H w ⟨dst, .call ⟨.builtin .append, args, ats⟩, ty, pos, after, guard⟩ r H' := by
 simp only [actA] at h
 split at h
 · rename_i t u s x hats hargs
   obtain ⟨p, q, hpq⟩ : ∃ p q, args.toList = [p, q] := by
    cases hl : args.toList with
    | nil => simp [hl] at hargs
    | cons p l => cases l with
     | nil => simp [hl] at hargs
     | cons q l => cases l with
      | nil => exact ⟨p, q, rfl⟩
      | cons _ _ => simp [hl] at hargs
   rw [hpq] at hargs he
   simp only [List.map_cons, List.map_nil, List.cons.injEq, and_true] at hargs
   obtain ⟨hp, hq⟩ := hargs
   have hep := he p (by simp)
   have heq := he q (by simp)
   rw [hp] at hep; rw [hq] at heq
   have hA : args = #[p, q] := Array.toList_inj.1 (by simpa using hpq)
   have hT : ats = #[t, u] := Array.toList_inj.1 (by simpa using hats)
   subst hA; subst hT
   clear hpq hats
   unfold Does
   rw [xig]
   have fin : ∀ {v w'}, (Builtin.append_ #[t, u] ty #[e p, e q]).run P w = .ok v w' -> (do pure (Next.value (<- Builtin.append_ #[t, u] ty #[e p, e q]))).run P w = .ok (.value v) w' := by
    intro v w' hh; simp [hh]
   split at h
   · rename_i el ht hsrc
     split at h
     · rename_i size n bytes hs hn hby
       have hinfo : ∃ i, P.info? el = some i /\ i.size = size /\ i.bytes = bytes := by
        simp only [szOf, Option.map_eq_some_iff] at hs hby
        obtain ⟨i, hi, h1⟩ := hs
        obtain ⟨j, hj, h2⟩ := hby
        rw [hi] at hj; cases hj
        exact ⟨i, hi, h1, h2⟩
       obtain ⟨i, hi, rfl, rfl⟩ := hinfo
       split at h
       · -- nothing is appended
         have hS : Src P i.size u (e q) 0 [] w := by
          refine ⟨xfD hsrc, fun w' => xf6 hn heq w', ?_, ?_, by simp, by simp⟩ <;>
          · have hle := xf6 (P := P) hn heq w
            cases hqv : e q <;> rw [hqv] at hle <;> first
             | (simp [Builtin.lenOf] at hle; done)
             | skip
            case string s => simp [Builtin.firstCells]
            case slice a l c => cases a <;> simp [Builtin.firstCells, loadCells, loadCellsFrom]
         split at h
         · rename_i id off len cp es ex
           simp only [Option.some.injEq, Prod.mk.injEq] at h
           obtain ⟨rfl, rfl⟩ := h
           have hep' := hep
           obtain ⟨_, hlc, o, c, hv, ho, hx1, hx2⟩ := hep'
           have hle : len + 0 <= c := by
            cases ex with
            | true => have := hx1 rfl; omega
            | false => have := (hx2 rfl).1; omega
           refine ⟨e p, w, ρ, .inl (fin ?_), hep, hH, Kp.refl _ _ _⟩
           rw [hv]
           exact xby ht hi _ len c (e q) 0 [] hS hle (fun a ha => rfl) (fun h => rfl)
         · simp only [Option.some.injEq, Prod.mk.injEq] at h
           obtain ⟨rfl, rfl⟩ := h
           refine ⟨e p, w, ρ, .inl (fin ?_), hep, hH, Kp.refl _ _ _⟩
           rw [show e p = _ from hep.1]
           exact xby ht hi none 0 0 (e q) 0 [] hS (Nat.le_refl _) (fun a ha => rfl) (fun h => rfl)
         simp at h
       rename_i n'
       split at h
       · rename_i new z hnew hz
         cases hb1 : (Nat.beq z.length i.size && (Nat.ble ((n' + 1) * i.bytes) 1099511627776 && Nat.ble (n' + 1) 1000000000)) with
         | false => simp only [hb1, cond_false, reduceCtorEq] at h
         | true =>
          simp only [hb1, cond_true] at h
          simp only [Bool.and_eq_true, Nat.beq_eq, Nat.ble_eq] at hb1
          obtain ⟨i', zv, hi', hzz, hdz⟩ := xb9 hz ρ H.next
          rw [hi] at hi'; cases hi'
          have hzc : zv.cells.size = i.size := by rw [xbh hdz]; exact hb1.1
          have hnl := xhA hnew
          obtain ⟨news, hS, hdn⟩ := src_of hH hsrc hn hnew hnl heq
          have hn62 : ∀ k, k * i.bytes <= 1099511627776 -> k * i.bytes <= 140737488355328 := fun k hk => by omega
          -- a new row behind elements that are known
          have grow : ∀ {base : Option Addr} {len c : Nat} {old : List AC} {olds : List Value}, e p = .slice base len c -> All2 (AC.den ρ H.next) old olds -> old.length = len * i.size ->
           (Builtin.firstCells i.size len (.slice base len c)).run P w.drew = .ok olds.toArray w.drew -> ¬ len + (n' + 1) <= c -> (len + (n' + 1)) * i.bytes <= 1099511627776 -> len + (n' + 1) < 2 ^ 62 ->
           r = .one (.c (.sl H.next 0 (len + (n' + 1)) (len + (n' + 1)) i.size false)) -> H' = H.new ⟨old ++ new, el, false⟩ ->
           ∃ v w' ρ', ((do pure (Next.value (<- Builtin.append_ #[t, u] ty #[e p, e q]))).run P w = .ok (.value v) w' \/ (do pure (Next.value (<- Builtin.append_ #[t, u] ty #[e p, e q]))).run P w = .ok .skip w' /\ v = undef) /\
            AR.den ρ' H'.next r v /\ HOK ρ' H' w' /\ Kp H ρ w H' ρ' w' := by
           intro base len c old olds hv hdo hol hold hfit hby2 h62 hr hH'
           subst hr; subst hH'
           have hgr := run_append_grow_src (P := P) (ty := ty) w t u el i zv ht hi hzz base len c olds hold (e q) (n' + 1) news hS (by omega) (by omega) (growslice_fits (by omega) (by omega))
           have hge := grownCap_ge w (len + (n' + 1)) c el
           obtain ⟨h1, h2⟩ := xi1 (zs := Builtin.zeroCells zv.cells (grownCap w (len + (n' + 1)) c el - (len + (n' + 1)))) hH (b := ⟨old ++ new, el, false⟩) rfl (hdo.app hdn)
           refine ⟨_, _, _, .inl (fin (by rw [hv]; exact hgr)), ⟨Nat.lt_succ_self _, Nat.le_refl _, 0, _, by simp [Rho.upd], fun _ => by simp [Rho.upd], fun h => by simp at h, fun _ => ⟨hge, ?_⟩⟩, h1, h2⟩
           have ho2 : olds.length = len * i.size := by rw [<- hdo.len]; exact hol
           simp only [Rho.upd, if_true, Array.size_append, List.size_toArray, List.length_append, size_zeroCells, ho2, hS.newsLen]
           rw [Nat.zero_add, <- Nat.add_mul, hzc, <- Nat.add_mul]
           have : len + (n' + 1) + (grownCap w (len + (n' + 1)) c el - (len + (n' + 1))) = grownCap w (len + (n' + 1)) c el := by omega
           rw [this]; exact Nat.le_refl _
          split at h
          · simp only [Option.some.injEq, Prod.mk.injEq] at h
            obtain ⟨rfl, rfl⟩ := h
            have h62 : n' + 1 < 2 ^ 62 := by omega
            refine grow (base := none) (len := 0) (c := 0) (old := []) (olds := []) hep.1 trivial (by simp) (by simp [Builtin.firstCells]) (by omega) (by simpa using hb1.2.1) (by simpa using h62) (by simp) (by simp)
          · rename_i id off len cp es ex
            split at h
            · rename_i b hb
              cases hb2 : (Nat.beq es i.size && (Nat.ble ((len + (n' + 1)) * i.bytes) 1099511627776 && Nat.ble (len + (n' + 1)) 1000000000)) with
              | false => simp only [hb2, cond_false, reduceCtorEq] at h
              | true =>
               simp only [hb2, cond_true] at h
               simp only [Bool.and_eq_true, Nat.beq_eq, Nat.ble_eq] at hb2
               obtain ⟨hes, hby2, hne⟩ := hb2
               subst hes
               have h62 : len + (n' + 1) < 2 ^ 62 := by omega
               have hep' := hep
               obtain ⟨hlt, hlc, o, c, hv, ho, hx1, hx2⟩ := hep'
               cases hb3 : Nat.ble (len + (n' + 1)) cp with
               | true =>
                simp only [hb3, cond_true] at h
                simp only [Nat.ble_eq] at hb3
                cases hb4 : Nat.ble (off + (len + (n' + 1)) * i.size) b.cells.length with
                | false => simp only [hb4, cond_false, reduceCtorEq] at h
                | true =>
                 simp only [hb4, cond_true, Option.some.injEq, Prod.mk.injEq] at h
                 simp only [Nat.ble_eq] at hb4
                 obtain ⟨rfl, rfl⟩ := h
                 have hcc : cp <= c := by
                  cases ex with
                  | true => have := hx1 rfl; omega
                  | false => exact (hx2 rfl).1
                 rw [Nat.add_mul] at hb4
                 obtain ⟨w', hrun, h1, h2⟩ := xoh (P := P) (off := off + len * i.size) hH hb hdn (by rw [hnl]; simp only [Nat.succ_eq_add_one]; omega)
                 refine ⟨.slice (some ⟨ρ.blk id, o, none⟩) (len + (n' + 1)) c, w', ρ, .inl (fin ?_), ⟨hlt, hb3, o, c, rfl, ho, hx1, hx2⟩, h1, h2⟩
                 rw [hv]
                 refine xby ht hi _ len c (e q) _ news hS (by omega) (fun a ha => ?_) (fun h => by cases h)
                 cases ha
                 rw [xcI, ho (by omega), Nat.add_assoc]; exact hrun
               | false =>
                simp only [hb3, cond_false] at h
                have hb3' : ¬ len + (n' + 1) <= cp := fun hh => by rw [Nat.ble_eq_true_of_le hh] at hb3; cases hb3
                split at h
                · simp at h
                rename_i old hold
                cases ex with
                | true =>
                 simp only [cond_true, Option.some.injEq, Prod.mk.injEq] at h
                 obtain ⟨rfl, rfl⟩ := h
                 have hcc := hx1 rfl
                 obtain ⟨olds, hrun, hdo, _⟩ := xlN (P := P) hH hb hold
                 refine grow hv hdo (xc9 hold) ?_ (by omega) hby2 h62 rfl rfl
                 by_cases hc0 : c = 0
                 · have hl0 : len = 0 := by omega
                   subst hl0
                   have : old = [] := List.eq_nil_of_length_eq_zero (by have := xc9 hold; omega)
                   subst this
                   have : olds = [] := List.eq_nil_of_length_eq_zero (by have := hdo.len; simpa using this.symm)
                   subst this
                   simp [Builtin.firstCells, loadCells, loadCellsFrom]
                 rw [ho hc0]; exact hrun (w.drawn + 1)
                | false =>
                 simp only [cond_false] at h
                 cases hb5 : (Nat.beq (off + len * i.size) b.cells.length && Nat.beq b.elem el) with
                 | false => simp only [hb5, cond_false, reduceCtorEq] at h
                 | true =>
                  simp only [hb5, cond_true, Option.some.injEq, Prod.mk.injEq] at h
                  simp only [Bool.and_eq_true, Nat.beq_eq] at hb5
                  obtain ⟨rfl, rfl⟩ := h
                  obtain ⟨v, w', ρ', h1, h2, h3, h4⟩ := over_ok (ty := ty) hH ht hi hzz hb hep hS hdn (Nat.succ_pos _) hold hb5.1 hb5.2 hzc hby2 h62
                  exact ⟨v, w', ρ', .inl (fin h1), h2, h3, h4⟩
            simp at h
          simp at h
       simp at h
     simp at h
   simp at h
 simp at h
end
end
end Go.Proofs.YtapmdhejgnplaaaGreat
