/-
  Operations that read memory: each one. No condition.
-/
import Derived.Test.YtbifklibdkjbeaaGreatDoorEvU
namespace Go.Proofs.YtbifklibdkjbeaaGreatDoor
open Go
set_option linter.unusedSimpArgs false
set_option linter.unusedVariables false

section
variable {P : Program} {ρ : Rho} {H : AH} {w : World} {e : Operand → Value} {ev : Ev}
variable {dst : Option Tmp} {ty : TypeId} {pos : String} {after : Array Edge} {guard : Option (Nat × Bool)} {r : AR}

theorem run_view {b : Nat} {cs : Array Value} {t : TypeId} {fz : Nat × Nat} (h : w.heap[b]? = some (.cells cs t fz)) : (viewAt b).run P w = .ok none w := by
  simp [viewAt, World.shape?, h]
theorem r_load {t : TypeId} {a : Operand} (hH : HOK ρ H w) (h : readA P H ev ⟨dst, .load t a, ty, pos, after, guard⟩ = some r) (he : (ev a).den ρ H.next (e a)) :
    Quiet P e ρ H.next ⟨dst, .load t a, ty, pos, after, guard⟩ r w := by
  simp only [readA] at h
  split at h
  · rename_i id off hx
    rw [hx] at he; obtain ⟨_, hv⟩ := he
    cases hb : H.get id with
    | none => simp [hb] at h
    | some b =>
      simp only [hb, Option.bind_some, Option.map_eq_some_iff] at h
      obtain ⟨x, hp, rfl⟩ := h
      unfold partOf at hp
      simp only [nthR_eq] at hp
      cases hag : aggOf P t with
      | none => simp [hag] at hp
      | some q =>
        cases hs : szOf P t with
        | none => simp [hag, hs] at hp
        | some k =>
          cases q with
          | true =>
            simp only [hag, hs, Option.map_eq_some_iff] at hp
            obtain ⟨l, hc, rfl⟩ := hp
            obtain ⟨vs, hrun, hd, _⟩ := loads (P := P) hH hb hc
            have hrun := hrun w.drawn
            exact ⟨.agg vs.toArray, by simp [execOp, Instr.loadAt, hv, Instr.sureAddr, loadVar, run_agg hag, run_size hs, hrun], _, rfl, by simpa using hd⟩
          | false =>
            simp only [hag, hs, Option.map_eq_some_iff] at hp
            obtain ⟨c, hc, rfl⟩ := hp
            obtain ⟨cs, fz, hl⟩ := hH.row id b hb
            obtain ⟨u, hu, hd⟩ := hl.cell hc
            exact ⟨u, by simp [execOp, Instr.loadAt, hv, Instr.sureAddr, loadVar, run_agg hag, hu], hd⟩
  · simp at h
/-- A slice's elements, as the model loads them. -/
theorem sl_loads {n size : Nat} {x : AR} {u : Value} {l : List AC} (hH : HOK ρ H w) (h : slCells H n size x = some l) (hd : x.den ρ H.next u) :
    (∃ vs : List Value, All2 (AC.den ρ H.next) l vs ∧ ((∃ a len c, u = .slice (some a) len c ∧ n ≤ len ∧ ∀ d, (loadCells a (n * size)).run P { w with drawn := d } = .ok vs.toArray { w with drawn := d }) ∨
      (∃ len c, u = .slice none len c ∧ n = 0 ∧ vs = []) ∨ (∃ s : ByteArray, u = .string s ∧ n = s.size ∧ vs = s.data.toList.map fun b => .int .u8 b.toNat))) := by
  unfold slCells at h
  split at h
  · rename_i id off len cp es ex
    cases hb : (Nat.ble n len && Nat.beq es size) with
    | false => simp only [hb, cond_false, reduceCtorEq] at h
    | true =>
      simp only [hb, cond_true] at h
      simp only [Bool.and_eq_true, Nat.ble_eq, Nat.beq_eq] at hb
      cases hg : H.get id with
      | none => simp [hg] at h
      | some b =>
        simp only [hg, Option.bind_some] at h
        obtain ⟨hl, hc, o, c, hv, ho, hx1, hx2⟩ := hd
        obtain ⟨vs, hrun, hdv, _⟩ := loads (P := P) hH hg h
        refine ⟨vs, hdv, .inl ⟨⟨ρ.blk id, o, none⟩, len, c, hv, hb.1, ?_⟩⟩
        by_cases hc0 : c = 0
        · have : n = 0 := by
            cases ex with
            | true => have := hx1 rfl; omega
            | false => have := hx2 rfl; omega
          subst this
          have hl0 : l = [] := List.eq_nil_of_length_eq_zero (by have := cut_len h; omega)
          subst hl0
          have : vs = [] := List.eq_nil_of_length_eq_zero (by have := hdv.len; simpa using this.symm)
          subst this
          simp [loadCells, loadCellsFrom]
        · rw [ho hc0]; exact hrun
  · rename_i a b
    cases hb : Nat.beq n 0 with
    | false => simp only [hb, cond_false, reduceCtorEq] at h
    | true =>
      simp only [hb, cond_true, Option.some.injEq] at h; subst h
      exact ⟨[], trivial, .inr (.inl ⟨_, _, hd.1, Nat.eq_of_beq_eq_true hb, rfl⟩)⟩
  · rename_i s
    cases hb : (Nat.beq n s.size && Nat.beq size 1) with
    | false => simp only [hb, cond_false, reduceCtorEq] at h
    | true =>
      simp only [hb, cond_true, Option.some.injEq] at h; subst h
      simp only [Bool.and_eq_true] at hb
      refine ⟨_, All2.of (l := s.data.toList.map fun b => AC.lit (.int .u8 b.toNat)) (m := s.data.toList.map fun b => Value.int .u8 b.toNat) (by simp) ?_, .inr (.inr ⟨s, hd.1, Nat.eq_of_beq_eq_true hb.1, rfl⟩)⟩
      intro i x y hx hy
      simp only [List.getElem?_map, Option.map_eq_some_iff] at hx hy
      obtain ⟨b, hb1, rfl⟩ := hx
      obtain ⟨b', hb2, rfl⟩ := hy
      rw [hb1] at hb2; cases hb2
      exact ⟨rfl, rfl⟩
  · simp at h
theorem r_convert {s d : TypeId} {x : Operand} (hH : HOK ρ H w) (h : readA P H ev ⟨dst, .convert s d x, ty, pos, after, guard⟩ = some r) (he : (ev x).den ρ H.next (e x)) :
    Quiet P e ρ H.next ⟨dst, .convert s d x, ty, pos, after, guard⟩ r w := by
  simp only [readA] at h
  split at h
  · rename_i el id off len cp es ex hs hdd hx
    rw [hx] at he
    split at h
    · rename_i hel
      cases hb : Nat.beq es 1 with
      | false => simp only [hb, cond_false, reduceCtorEq] at h
      | true =>
        simp only [hb, cond_true] at h
        cases hc : slCells H len 1 (.one (.c (.sl id off len cp es ex))) with
        | none => simp [hc] at h
        | some l =>
          simp only [hc, Option.bind_some, Option.map_eq_some_iff] at h
          obtain ⟨b, hby, rfl⟩ := h
          obtain ⟨vs, hdv, hor⟩ := sl_loads (P := P) hH hc he
          obtain ⟨ns, hvs, hs2⟩ := bytes_den hby hdv
          rcases hor with ⟨a, l', c, hv, _, hrun⟩ | ⟨_, _, hv, _⟩ | ⟨_, hv, _⟩
          · refine ⟨.string b, ?_, rfl, rfl⟩
            obtain ⟨_, _, o', c', hv', _⟩ := he
            rw [hv'] at hv
            simp only [Value.slice.injEq, Option.some.injEq] at hv
            obtain ⟨rfl, rfl, rfl⟩ := hv
            have hrun := hrun w.drawn
            rw [Nat.mul_one] at hrun
            subst hvs
            simp only [execOp, convert, Sem.run_bind, run_underlying hs, run_underlying hdd, Result.andThen_ok, hv', run_underlying hel, Conv.bytesToString, hrun]
            rw [hs2]
            rw [run_pushes _ (fun _ _ => rfl)]
            rfl
          · obtain ⟨_, _, o', c', hv', _⟩ := he; rw [hv'] at hv; simp at hv
          · obtain ⟨_, _, o', c', hv', _⟩ := he; rw [hv'] at hv; simp at hv
    · simp at h
  · rename_i t id off hs hdd hx
    rw [hx] at he
    obtain ⟨hl, hv⟩ := he
    split at h
    · rename_i k b hsz hb
      cases hlt : Nat.blt off b.cells.length with
      | false => simp only [hlt, cond_false, reduceCtorEq] at h
      | true =>
        simp only [hlt, cond_true, Option.some.injEq] at h; subst h
        have hlt' : off < b.cells.length := by simpa [Nat.blt_eq] using hlt
        obtain ⟨cs, fz, hli⟩ := hH.row id b hb
        have hroom := hli.room
        refine ⟨_, ?_, hl, rfl⟩
        have hno : ¬ cs.size ≤ ρ.base id + off := by omega
        simp only [execOp, convert, Sem.run_bind, run_underlying hs, run_underlying hdd, Result.andThen_ok, hv]
        simp [Conv.unsafePointer, run_underlying hs, run_underlying hdd, Conv.seenAt, run_view hli.heap, cellsIn, World.shape?, hli.heap, run_size hsz, hno]
    · simp at h
  · rename_i u id off hs hdd hx
    rw [hx] at he
    obtain ⟨hl, hv⟩ := he
    split at h
    · rename_i k b hsz hb
      cases hlt : (b.whole && liesAt P P.depth b.elem (b.cells.length / P.cellsOf b.elem) off u 1) with
      | false => simp only [hlt, cond_false, reduceCtorEq] at h
      | true =>
        simp only [hlt, cond_true, Option.some.injEq] at h; subst h
        simp only [Bool.and_eq_true] at hlt
        obtain ⟨cs, fz, hli⟩ := hH.row id b hb
        obtain ⟨hba, hsi⟩ := hli.whole hlt.1
        refine ⟨_, ?_, hl, rfl⟩
        have hlies := hlt.2
        rw [← hsi] at hlies
        simp only [execOp, convert, Sem.run_bind, run_underlying hs, run_underlying hdd, Result.andThen_ok, hv]
        simp [Conv.unsafePointer, run_underlying hs, run_underlying hdd, Conv.seenAt, run_view hli.heap, World.shape?, hli.heap, run_size hsz, variablesAt, hba, hlies]
    · simp at h
  · simp at h
theorem readA_sound {o : Oper} (hH : HOK ρ H w) (h : readA P H ev o = some r) (he : EvOK ρ H.next ev e o.op.operands.toList) : Quiet P e ρ H.next o r w := by
  obtain ⟨dst, op, ty, pos, after, guard⟩ := o
  cases op with
  | load t a => exact r_load hH h (he a (by simp [Op.operands]))
  | convert s d x => exact r_convert hH h (he x (by simp [Op.operands]))
  | call c =>
    obtain ⟨callee, args, ats⟩ := c
    cases callee with
    | value f => simp [readA] at h
    | invoke r m => simp [readA] at h
    | builtin b =>
      cases b with
      | unsafeSliceData =>
        simp only [readA] at h
        split at h
        · rename_i id off len cp es ex hl
          simp only [Option.some.injEq] at h; subst h
          obtain ⟨y, hy⟩ : ∃ y, args.toList = [y] := by
            cases hal : args.toList with
            | nil => simp [hal] at hl
            | cons y l => cases l with
              | nil => exact ⟨y, rfl⟩
              | cons z l => simp [hal] at hl
          have ha : args = #[y] := Array.toList_inj.1 (by simpa using hy)
          subst ha
          have h1 := he y (by simp [Op.operands, Call.operands])
          simp only [List.map_cons, List.map_nil, List.cons.injEq, and_true] at hl
          rw [hl] at h1
          obtain ⟨hlt, _, o', c', hv, ho, hx1, hx2⟩ := h1
          have hc : c' ≠ 0 := by
            cases ex with
            | true => have := hx1 rfl; omega
            | false => have := hx2 rfl; omega
          refine ⟨_, ?_, hlt, rfl⟩
          have hrun : (Builtin.unsafeSliceData_ ats ty #[e y]).run P w = .ok (.pointer (some ⟨ρ.blk id, ρ.base id + off, none⟩)) w := by
            rw [hv, ho hc]
            show (if c' ≠ 0 then (pure (Value.pointer (some _)) : Sem Value) else _).run P w = _
            rw [if_pos hc]; rfl
          simp [execOp, resolve, invoke, builtin, hrun]
        · simp at h
      | _ => simp [readA] at h
  | _ => simp [readA] at h
end
end Go.Proofs.YtbifklibdkjbeaaGreatDoor
