/-
  Operations that look at no memory: all of them together. No condition.
-/
import Derived.Test.YtbifklibdkjbeaaGreatDoorEvS
namespace Go.Proofs.YtbifklibdkjbeaaGreatDoor
open Go
set_option linter.unusedSimpArgs false
set_option linter.unusedVariables false

section
variable {P : Program} {ρ : Rho} {n : Nat} {e : Operand → Value} {ev : Ev}
variable {dst : Option Tmp} {ty : TypeId} {pos : String} {after : Array Edge} {guard : Option (Nat × Bool)} {r : AR} {w : World}

theorem q_typeAssert {x : Operand} {xt t : TypeId} {ok : Bool} (h : pureA P ev ⟨dst, .typeAssert x xt t ok, ty, pos, after, guard⟩ = some r) (he : EvOK ρ n ev e [x]) :
    Quiet P e ρ n ⟨dst, .typeAssert x xt t ok, ty, pos, after, guard⟩ r w := by
  simp only [pureA] at h
  split at h
  · rename_i r' hr; simp only [Option.some.injEq] at h; subst h; exact scal_sound hr he w
  · have hex := he x (by simp)
    split at h
    · rename_i want u c hu hx
      rw [hx] at hex
      obtain ⟨y, hv, hy⟩ := hex
      split at h
      · rename_i i hi
        split at h
        · rename_i hm
          simp only [Option.some.injEq] at h; subst h
          cases ok with
          | true => exact ⟨.tuple #[.iface u y, .bool true], by simp [execOp, Instr.typeAssert, run_underlying hu, hv, typeInfo, hi, hm], _, rfl, ⟨⟨y, rfl, hy⟩, ⟨rfl, rfl⟩, trivial⟩⟩
          | false => exact ⟨.iface u y, by simp [execOp, Instr.typeAssert, run_underlying hu, hv, typeInfo, hi, hm], y, rfl, hy⟩
        · simp at h
      · simp at h
    · rename_i d u c hne hu hx
      rw [hx] at hex
      obtain ⟨y, hv, hy⟩ := hex
      cases hb : Nat.beq u t with
      | false => simp only [hb, cond_false, reduceCtorEq] at h
      | true =>
        have : u = t := Nat.eq_of_beq_eq_true hb
        subst this
        simp only [hb, cond_true, Option.some.injEq] at h; subst h
        have run : (execOp e ⟨dst, .typeAssert x xt u ok, ty, pos, after, guard⟩).run P w = .ok (.value (if ok then .tuple #[y, .bool true] else y)) w := by
          cases d <;> first
            | (simp [execOp, Instr.typeAssert, run_underlying hu, hv]; done)
            | (exact absurd hu (by intro hh; simp_all))
        cases ok with
        | true => exact ⟨_, run, _, rfl, ⟨hy, ⟨rfl, rfl⟩, trivial⟩⟩
        | false => exact ⟨_, run, hy⟩
    · simp at h
theorem q_len {args : Array Operand} {ats : Array TypeId} (h : pureA P ev ⟨dst, .call ⟨.builtin .len, args, ats⟩, ty, pos, after, guard⟩ = some r) (he : EvOK ρ n ev e args.toList) :
    Quiet P e ρ n ⟨dst, .call ⟨.builtin .len, args, ats⟩, ty, pos, after, guard⟩ r w := by
  simp only [pureA] at h
  split at h
  · rename_i r' hr; simp only [Option.some.injEq] at h; subst h; exact scal_sound hr (by simpa [Op.operands, Call.operands] using he) w
  · split at h
    · rename_i t x ht hx
      have hmem : x ∈ args.toList := by simpa using Array.mem_of_getElem? hx
      have hex := he x hmem
      have harg : (args.map e)[0]? = some (e x) := by simp [hx]
      split at h
      · rename_i el id off len cp es ex hu hxx
        simp only [Option.some.injEq] at h; subst h
        rw [hxx] at hex; obtain ⟨_, _, o, c, hv, _⟩ := hex
        exact ⟨.int .i64 len, by simp [execOp, resolve, invoke, builtin, Builtin.len_, ht, hx, run_underlying hu, hv, goInt], rfl, rfl⟩
      · rename_i k el hu
        simp only [Option.some.injEq] at h; subst h
        exact ⟨.int .i64 k, by simp [execOp, resolve, invoke, builtin, Builtin.len_, ht, hx, run_underlying hu, goInt], rfl, rfl⟩
      · rename_i a id off hu hxx
        rw [hxx] at hex; obtain ⟨_, hv⟩ := hex
        split at h
        · rename_i k el hua
          simp only [Option.some.injEq] at h; subst h
          exact ⟨.int .i64 k, by simp [execOp, resolve, invoke, builtin, Builtin.len_, ht, hx, run_underlying hu, run_underlying hua, goInt], rfl, rfl⟩
        · simp at h
      · simp at h
    · simp at h
theorem noesc_run {g : Nat} {fn : Func} (hf : P.funcs[g]? = some fn) (hn : noEsc fn = true) (v : Value) : (callFunc g #[v]).run P w = .ok (.value v) w := by
  simp only [noEsc, Bool.and_eq_true, beq_iff_eq] at hn
  obtain ⟨hb, hname, ho⟩ := hn
  have h1 : Extern.findNext fn = none := by
    unfold Extern.findNext; rw [hname, ho]; rfl
  have h2 : Extern.find fn = some Extern.AbiNoEscape.same := by
    unfold Extern.find; rw [hname, ho]; rfl
  have hb2 : fn.body = none := by simpa using hb
  have h3 : (Extern.AbiNoEscape.same #[v]).run P w = .ok v w := rfl
  simp [callFunc, hf, hname, hb2, h1, h2, h3]
theorem q_noesc {f : Operand} {args : Array Operand} {ats : Array TypeId} (h : pureA P ev ⟨dst, .call ⟨.value f, args, ats⟩, ty, pos, after, guard⟩ = some r) (he : EvOK ρ n ev e (f :: args.toList)) :
    Quiet P e ρ n ⟨dst, .call ⟨.value f, args, ats⟩, ty, pos, after, guard⟩ r w := by
  simp only [pureA] at h
  split at h
  · rename_i g x hf ha
    split at h
    · rename_i fn hfn
      cases hn : noEsc fn with
      | false => simp only [hn, cond_false, reduceCtorEq] at h
      | true =>
        simp only [hn, cond_true] at h
        split at h
        · rename_i id o hx
          simp only [Option.some.injEq] at h; subst h
          have h1 := he f (by simp)
          have h2 := he x (by simp [ha])
          rw [hf] at h1; rw [hx] at h2
          have h1' : e f = .func (.func g) #[] #[] := h1
          have hargs : args = #[x] := Array.toList_inj.1 (by simpa using ha)
          subst hargs
          refine ⟨e x, ?_, h2⟩
          have := noesc_run (w := w) hfn hn (e x)
          simp [execOp, resolve, invoke, h1', Deferred.ofValue, this]
        · simp at h
    · simp at h
  · simp at h
theorem q_build {t : TypeId} {parts : Array (Nat × Operand)} (h : pureA P ev ⟨dst, .build t parts, ty, pos, after, guard⟩ = some r) (he : EvOK ρ n ev e (parts.toList.map (·.2))) :
    Quiet P e ρ n ⟨dst, .build t parts, ty, pos, after, guard⟩ r w := by
  simp only [pureA] at h
  split at h
  · rename_i r' hr; simp only [Option.some.injEq] at h; subst h; exact scal_sound hr (by simpa [Op.operands] using he) w
  · split at h
    · rename_i z pl ps hz hpl hps
      simp only [Option.map_eq_some_iff] at h
      obtain ⟨l, hl, rfl⟩ := h
      obtain ⟨i, v, hi, hzz, hdz⟩ := zero_den hz ρ n
      obtain ⟨cells, hfill, hd⟩ := fill_den pl ps _ z l v.cells hl hdz (parts_den hps he)
      refine ⟨.agg cells, ?_, cells, rfl, hd⟩
      have hb : P.built t (parts.map fun x => (x.1, e x.2)).toList = some cells := by
        unfold placesOf at hpl
        unfold Program.built
        split at hpl
        · rename_i fields hu
          simp only [Option.map_eq_some_iff] at hpl
          obtain ⟨places, hp, rfl⟩ := hpl
          simp only [hi, hu, hzz, hp]
          simpa using hfill
        · rename_i k el hu
          simp only [Option.map_eq_some_iff, szOf] at hpl
          obtain ⟨s, ⟨ie, hie, rfl⟩, rfl⟩ := hpl
          simp only [hi, hu, hzz, hie]
          simpa using hfill
        · simp at hpl
      simp [execOp, run_build w t _ cells hb]
    · simp at h
theorem pureA_sound {o : Oper} (h : pureA P ev o = some r) (he : EvOK ρ n ev e o.op.operands.toList) (w : World) : Quiet P e ρ n o r w := by
  obtain ⟨dst, op, ty, pos, after, guard⟩ := o
  cases op with
  | move x => simp only [pureA, Option.some.injEq] at h; subst h; exact ⟨e x, rfl, he x (by simp [Op.operands])⟩
  | assign x => simp only [pureA, Option.some.injEq] at h; subst h; exact ⟨e x, rfl, he x (by simp [Op.operands])⟩
  | pick c a b =>
    simp only [pureA] at h
    split at h
    · rename_i t hc
      simp only [Option.some.injEq] at h; subst h
      have h1 := he c (by simp [Op.operands])
      rw [hc] at h1
      have h1' := bool_den h1
      cases t with
      | true => exact ⟨e a, by simp [execOp, h1', asBool], he a (by simp [Op.operands])⟩
      | false => exact ⟨e b, by simp [execOp, h1', asBool], he b (by simp [Op.operands])⟩
    · simp at h
  | nilCheck x => exact q_nilCheck h (he x (by simp [Op.operands]))
  | binOp op t x y yt => exact q_bin h (by simpa [Op.operands] using he)
  | makeInterface t x => exact q_iface h (by simpa [Op.operands] using he)
  | makeFunc f a b => exact q_makeFunc h (by simpa [Op.operands] using he)
  | fieldAddr s x f => exact q_fieldAddr h (he x (by simp [Op.operands]))
  | field s x f => exact q_field h (he x (by simp [Op.operands]))
  | indexAddr t x i => exact q_indexAddr h (he x (by simp [Op.operands])) (he i (by simp [Op.operands]))
  | index t x i => exact q_index h (by simpa [Op.operands] using he)
  | slice t x a b c => exact q_slice h he
  | typeAssert x a b c => exact q_typeAssert h (by simpa [Op.operands] using he)
  | extract x i =>
    simp only [pureA] at h
    split at h
    · rename_i vs hx
      simp only [Option.map_eq_some_iff] at h
      obtain ⟨a, ha, rfl⟩ := h
      have h1 := he x (by simp [Op.operands])
      rw [hx] at h1
      obtain ⟨us, hv, hd⟩ := h1
      obtain ⟨y, hy, hdy⟩ := hd.get ha
      have hy' : us[i]? = some y := by simpa using hy
      exact ⟨y, by simp [execOp, Instr.extract, hv, hy'], hdy⟩
    · simp at h
  | build t ps => exact q_build h (by simpa [Op.operands] using he)
  | unOp a b x => exact scal_sound h he w
  | convert a b x =>
    simp only [pureA] at h
    split at h
    · rename_i r' hr; simp only [Option.some.injEq] at h; subst h; exact scal_sound hr he w
    · simp at h
  | call c =>
    obtain ⟨callee, args, ats⟩ := c
    cases callee with
    | value f => exact q_noesc h (by simpa [Op.operands, Call.operands] using he)
    | invoke r m => simp [pureA] at h
    | builtin b =>
      cases b with
      | len => exact q_len h (by simpa [Op.operands, Call.operands] using he)
      | _ => exact scal_sound h he w
  | _ => simp [pureA] at h
end
end Go.Proofs.YtbifklibdkjbeaaGreatDoor
