/-
  Several texts in one: The reckoned run's memory and the world's; operations that read. No condition. Operations that read memory: each one. No condition. Operations that make or write memory: what becomes of the two memories. No condition. Operations that make or write memory: each one. No condition.
-/
import Derived.Test.YtgobcnheemocnaaGreatDoorMg5
import Derived.Laws.Cells
import Derived.Laws.Append
section
namespace Go.Proofs.YtgobcnheemocnaaGreatDoor
open Go
set_option linter.unusedSimpArgs false
set_option linter.unusedVariables false

/-- A block as it lies. -/
structure Lies (ρ : Rho) (n : Nat) (w : World) (id : Nat) (b : Blk) (cs : Array Value) (fz : Nat × Nat) : Prop where
  heap : w.heap[ρ.blk id]? = some (.cells cs b.elem fz)
  size : cs.size = ρ.size id
  thaw : fz.1 = fz.2 ∨ cs.size ≤ fz.1
  room : ρ.base id + b.cells.length ≤ cs.size
  whole : b.whole = true → ρ.base id = 0 ∧ cs.size = b.cells.length
  den : ∀ i x, b.cells[i]? = some x → ∃ u, cs[ρ.base id + i]? = some u ∧ x.den ρ n u
structure HOK (ρ : Rho) (H : AH) (w : World) : Prop where
  lt : ∀ id b, H.get id = some b → id < H.next
  inj : ∀ id id' b b', H.get id = some b → H.get id' = some b' → ρ.blk id = ρ.blk id' → id = id'
  row : ∀ id b, H.get id = some b → ∃ cs fz, Lies ρ H.next w id b cs fz
/-- What a step does to memory. -/
structure Kp (H : AH) (ρ : Rho) (w : World) (H' : AH) (ρ' : Rho) (w' : World) : Prop where
  ext : Ext ρ ρ' H.next
  next : H.next ≤ H'.next
  size : w.heap.size ≤ w'.heap.size
  os : w'.os = w.os
  tape : w'.tape = w.tape
  output : w'.output = w.output
  frame : ∀ k, k < w.heap.size → (∀ id b, H.get id = some b → ρ.blk id ≠ k) → w'.heap[k]? = w.heap[k]?
  come : ∀ id b, H'.get id = some b → w.heap.size ≤ ρ'.blk id ∨ ∃ id0 b0, H.get id0 = some b0 ∧ ρ.blk id0 = ρ'.blk id
theorem Kp.refl (H : AH) (ρ : Rho) (w : World) : Kp H ρ w H ρ w :=
  ⟨.refl _ _, Nat.le_refl _, Nat.le_refl _, rfl, rfl, rfl, fun _ _ _ => rfl, fun id b h => .inr ⟨id, b, h, rfl⟩⟩
theorem Kp.trans {H H' H'' : AH} {ρ ρ' ρ'' : Rho} {w w' w'' : World} (h : Kp H ρ w H' ρ' w') (k : Kp H' ρ' w' H'' ρ'' w'') : Kp H ρ w H'' ρ'' w'' where
  ext := h.ext.trans k.ext h.next
  next := Nat.le_trans h.next k.next
  size := Nat.le_trans h.size k.size
  os := k.os.trans h.os
  tape := k.tape.trans h.tape
  output := k.output.trans h.output
  frame := fun i hi hn => (k.frame i (Nat.lt_of_lt_of_le hi h.size) fun id b hb e => by
    rcases h.come id b hb with h1 | ⟨id0, b0, h1, h2⟩
    · omega
    · exact hn id0 b0 h1 (h2.trans e)).trans (h.frame i hi hn)
  come := fun id b hb => by
    rcases k.come id b hb with h1 | ⟨id1, b1, h1, h2⟩
    · exact .inl (Nat.le_trans h.size h1)
    · rcases h.come id1 b1 h1 with h3 | ⟨id0, b0, h3, h4⟩
      · exact .inl (h2 ▸ h3)
      · exact .inr ⟨id0, b0, h3, h4.trans h2⟩

section
variable {P : Program} {ρ : Rho} {H : AH} {w : World} {e : Operand → Value} {ev : Ev}
theorem Lies.cell {n id : Nat} {b : Blk} {cs : Array Value} {fz : Nat × Nat} (h : Lies ρ n w id b cs fz) {i : Nat} {x : AC} (hx : b.cells[i]? = some x) :
    ∃ u, w.cell? ⟨ρ.blk id, ρ.base id + i, none⟩ = some u ∧ x.den ρ n u := by
  obtain ⟨u, hu, hd⟩ := h.den i x hx
  exact ⟨u, by simp [World.cell?, h.heap, hu], hd⟩
theorem HOK.lt_size (h : HOK ρ H w) {id : Nat} {b : Blk} (hb : H.get id = some b) : ρ.blk id < w.heap.size := by
  obtain ⟨cs, fz, hl⟩ := h.row id b hb
  exact (Array.getElem?_eq_some_iff.1 hl.heap).1
/-- A cut of a block's known cells, as the model loads it. -/
theorem loads {id : Nat} {b : Blk} (h : HOK ρ H w) (hb : H.get id = some b) {off k : Nat} {r : List AC} (hc : cut b.cells off k = some r) :
    ∃ vs : List Value, (∀ d, (loadCells ⟨ρ.blk id, ρ.base id + off, none⟩ k).run P { w with drawn := d } = .ok vs.toArray { w with drawn := d }) ∧ All2 (AC.den ρ H.next) r vs ∧
      ∀ i v, vs[i]? = some v → w.cell? ⟨ρ.blk id, ρ.base id + off + i, none⟩ = some v := by
  obtain ⟨cs, fz, hl⟩ := h.row id b hb
  have hlen := cut_len hc
  have hr : r = (b.cells.drop off).take k := by
    unfold cut at hc
    cases hx : Nat.beq ((b.cells.drop off).take k).length k with
    | false => simp only [hx, cond_false, reduceCtorEq] at hc
    | true => simp only [hx, cond_true, Option.some.injEq] at hc; exact hc.symm
  let vs : List Value := (cs.toList.drop (ρ.base id + off)).take k
  have hcell : ∀ i, i < k → ∃ x u, r[i]? = some x ∧ b.cells[off + i]? = some x ∧ cs[ρ.base id + (off + i)]? = some u ∧ x.den ρ H.next u := by
    intro i hi
    have h1 : i < r.length := by omega
    have h2 : r[i]? = some r[i] := by simp [h1]
    have h3 : b.cells[off + i]? = some r[i] := by
      rw [← h2, hr, List.getElem?_take, if_pos hi, List.getElem?_drop]
    obtain ⟨u, hu, hd⟩ := hl.den _ _ h3
    exact ⟨_, u, h2, h3, hu, hd⟩
  have hv : ∀ i, i < k → ∃ x u, r[i]? = some x ∧ vs[i]? = some u ∧ x.den ρ H.next u := by
    intro i hi
    obtain ⟨x, u, h2, _, hu, hd⟩ := hcell i hi
    refine ⟨x, u, h2, ?_, hd⟩
    show ((cs.toList.drop (ρ.base id + off)).take k)[i]? = some u
    rw [List.getElem?_take, if_pos hi, List.getElem?_drop]
    rw [Nat.add_assoc, Array.getElem?_toList]; exact hu
  have hvl : vs.length = k := by
    rcases Nat.eq_zero_or_pos k with rfl | hk
    · show ((cs.toList.drop (ρ.base id + off)).take 0).length = 0; simp
    · obtain ⟨x, u, _, hu, _⟩ := hv (k - 1) (by omega)
      have h1 := (List.getElem?_eq_some_iff.1 hu).1
      have h2 : vs.length ≤ k := List.length_take_le _ _
      omega
  have hcells : ∀ i v, vs[i]? = some v → w.cell? ⟨ρ.blk id, ρ.base id + off + i, none⟩ = some v := by
    intro i v hi
    have hik : i < k := by have := (List.getElem?_eq_some_iff.1 hi).1; omega
    have : cs[ρ.base id + off + i]? = some v := by
      have h4 : ((cs.toList.drop (ρ.base id + off)).take k)[i]? = some v := hi
      rw [List.getElem?_take, if_pos hik, List.getElem?_drop, Array.getElem?_toList] at h4
      exact h4
    simp [World.cell?, hl.heap, this]
  refine ⟨vs, ?_, All2.of (by omega) ?_, hcells⟩
  · intro d
    have := run_loadCells_list (P := P) (w := { w with drawn := d }) ⟨ρ.blk id, ρ.base id + off, none⟩ vs (fun j v hj => by rw [add_at]; exact hcells j v hj)
    rw [hvl] at this; exact this
  · intro i x y hx hy
    have hik : i < k := by have := (List.getElem?_eq_some_iff.1 hy).1; omega
    obtain ⟨x', u, h1, h2, h3⟩ := hv i hik
    rw [hx] at h1; rw [hy] at h2
    cases h1; cases h2; exact h3
theorem bytes_den {ρ : Rho} {n : Nat} : ∀ {l : List AC} {vs : List Value} {acc s : ByteArray}, bytesA l acc = some s → All2 (AC.den ρ n) l vs →
    ∃ ns : List Int, vs = ns.map (Value.int .u8 ·) ∧ s = ns.foldl (fun a k => a.push (UInt8.ofNat k.toNat)) acc
  | [], [], acc, s, h, _ => by simp [bytesA] at h; exact ⟨[], rfl, h.symm⟩
  | x :: l, v :: vs, acc, s, h, d => by
    unfold bytesA at h
    split at h
    · rename_i heq; cases heq
    · rename_i k l' heq
      cases heq
      obtain ⟨ns, h1, h2⟩ := bytes_den h d.2
      exact ⟨k :: ns, by rw [List.map_cons, ← h1]; rw [show v = _ from d.1.1], h2⟩
    · simp at h
  | x :: l, [], _, _, _, d => d.elim
  | [], _ :: _, _, _, _, d => d.elim
/-- Cells that are bytes: as a range loop of the model reads them. -/
theorem run_pushes (f : Value → ByteArray → Sem (ForInStep ByteArray)) (hf : ∀ k s, f (.int .u8 k) s = pure (.yield (s.push (UInt8.ofNat k.toNat)))) (ns : List Int) :
    ∀ (acc : ByteArray), (forIn (m := Sem) (ns.map (Value.int .u8 ·)).toArray acc f).run P w = .ok (ns.foldl (fun a k => a.push (UInt8.ofNat k.toNat)) acc) w := by
  intro acc
  rw [← Array.forIn_toList]
  simp only []
  induction ns generalizing acc with
  | nil => simp
  | cons k ns ih => simp [List.forIn_cons, hf, ih]
end
end Go.Proofs.YtgobcnheemocnaaGreatDoor
end
section
namespace Go.Proofs.YtgobcnheemocnaaGreatDoor
open Go
set_option linter.unusedSimpArgs false
set_option linter.unusedVariables false

section
variable {P : Program} {ρ : Rho} {H : AH} {w : World} {e : Operand → Value} {ev : Ev}
variable {dst : Option Tmp} {ty : TypeId} {pos : String} {after : Array Edge} {guard : Option (Nat × Bool)} {r : AR}

theorem run_view {b : Nat} {cs : Array Value} {t : TypeId} {fz : Nat × Nat} (h : w.heap[b]? = some (.cells cs t fz)) : (viewAt b).run P w = .ok none w := by
  simp [viewAt, World.shape?, h]
theorem r_load {t : TypeId} {a : Operand} (hH : HOK ρ H w) (h : readA P H ev ⟨dst, .load t a, ty, pos, after, guard⟩ = some r) (he : (ev a).den ρ H.next (e a)) :
    Quiet P e ρ H.next ⟨dst, .load t a, ty, pos, after, guard⟩ r w := by
  simp only [readA] at h
  split at h
  · rename_i id off hx
    rw [hx] at he; obtain ⟨_, hv⟩ := he
    cases hb : H.get id with
    | none => simp [hb] at h
    | some b =>
      simp only [hb, Option.bind_some, Option.map_eq_some_iff] at h
      obtain ⟨x, hp, rfl⟩ := h
      unfold partOf at hp
      simp only [nthR_eq] at hp
      cases hag : aggOf P t with
      | none => simp [hag] at hp
      | some q =>
        cases hs : szOf P t with
        | none => simp [hag, hs] at hp
        | some k =>
          cases q with
          | true =>
            simp only [hag, hs, Option.map_eq_some_iff] at hp
            obtain ⟨l, hc, rfl⟩ := hp
            obtain ⟨vs, hrun, hd, _⟩ := loads (P := P) hH hb hc
            have hrun := hrun w.drawn
            exact ⟨.agg vs.toArray, by simp [execOp, Instr.loadAt, hv, Instr.sureAddr, loadVar, run_agg hag, run_size hs, hrun], _, rfl, by simpa using hd⟩
          | false =>
            simp only [hag, hs, Option.map_eq_some_iff] at hp
            obtain ⟨c, hc, rfl⟩ := hp
            obtain ⟨cs, fz, hl⟩ := hH.row id b hb
            obtain ⟨u, hu, hd⟩ := hl.cell hc
            exact ⟨u, by simp [execOp, Instr.loadAt, hv, Instr.sureAddr, loadVar, run_agg hag, hu], hd⟩
  · simp at h
/-- A slice's elements, as the model loads them. -/
theorem sl_loads {n size : Nat} {x : AR} {u : Value} {l : List AC} (hH : HOK ρ H w) (h : slCells H n size x = some l) (hd : x.den ρ H.next u) :
    (∃ vs : List Value, All2 (AC.den ρ H.next) l vs ∧ ((∃ a len c, u = .slice (some a) len c ∧ n ≤ len ∧ ∀ d, (loadCells a (n * size)).run P { w with drawn := d } = .ok vs.toArray { w with drawn := d }) ∨
      (∃ len c, u = .slice none len c ∧ n = 0 ∧ vs = []) ∨ (∃ s : ByteArray, u = .string s ∧ n = s.size ∧ vs = s.data.toList.map fun b => .int .u8 b.toNat))) := by
  unfold slCells at h
  split at h
  · rename_i id off len cp es ex
    cases hb : (Nat.ble n len && Nat.beq es size) with
    | false => simp only [hb, cond_false, reduceCtorEq] at h
    | true =>
      simp only [hb, cond_true] at h
      simp only [Bool.and_eq_true, Nat.ble_eq, Nat.beq_eq] at hb
      cases hg : H.get id with
      | none => simp [hg] at h
      | some b =>
        simp only [hg, Option.bind_some] at h
        obtain ⟨hl, hc, o, c, hv, ho, hx1, hx2⟩ := hd
        obtain ⟨vs, hrun, hdv, _⟩ := loads (P := P) hH hg h
        refine ⟨vs, hdv, .inl ⟨⟨ρ.blk id, o, none⟩, len, c, hv, hb.1, ?_⟩⟩
        by_cases hc0 : c = 0
        · have : n = 0 := by
            cases ex with
            | true => have := hx1 rfl; omega
            | false => have := hx2 rfl; omega
          subst this
          have hl0 : l = [] := List.eq_nil_of_length_eq_zero (by have := cut_len h; omega)
          subst hl0
          have : vs = [] := List.eq_nil_of_length_eq_zero (by have := hdv.len; simpa using this.symm)
          subst this
          simp [loadCells, loadCellsFrom]
        · rw [ho hc0]; exact hrun
  · rename_i a b
    cases hb : Nat.beq n 0 with
    | false => simp only [hb, cond_false, reduceCtorEq] at h
    | true =>
      simp only [hb, cond_true, Option.some.injEq] at h; subst h
      exact ⟨[], trivial, .inr (.inl ⟨_, _, hd.1, Nat.eq_of_beq_eq_true hb, rfl⟩)⟩
  · rename_i s
    cases hb : (Nat.beq n s.size && Nat.beq size 1) with
    | false => simp only [hb, cond_false, reduceCtorEq] at h
    | true =>
      simp only [hb, cond_true, Option.some.injEq] at h; subst h
      simp only [Bool.and_eq_true] at hb
      refine ⟨_, All2.of (l := s.data.toList.map fun b => AC.lit (.int .u8 b.toNat)) (m := s.data.toList.map fun b => Value.int .u8 b.toNat) (by simp) ?_, .inr (.inr ⟨s, hd.1, Nat.eq_of_beq_eq_true hb.1, rfl⟩)⟩
      intro i x y hx hy
      simp only [List.getElem?_map, Option.map_eq_some_iff] at hx hy
      obtain ⟨b, hb1, rfl⟩ := hx
      obtain ⟨b', hb2, rfl⟩ := hy
      rw [hb1] at hb2; cases hb2
      exact ⟨rfl, rfl⟩
  · simp at h
theorem r_convert {s d : TypeId} {x : Operand} (hH : HOK ρ H w) (h : readA P H ev ⟨dst, .convert s d x, ty, pos, after, guard⟩ = some r) (he : (ev x).den ρ H.next (e x)) :
    Quiet P e ρ H.next ⟨dst, .convert s d x, ty, pos, after, guard⟩ r w := by
  simp only [readA] at h
  split at h
  · rename_i el id off len cp es ex hs hdd hx
    rw [hx] at he
    split at h
    · rename_i hel
      cases hb : Nat.beq es 1 with
      | false => simp only [hb, cond_false, reduceCtorEq] at h
      | true =>
        simp only [hb, cond_true] at h
        cases hc : slCells H len 1 (.one (.c (.sl id off len cp es ex))) with
        | none => simp [hc] at h
        | some l =>
          simp only [hc, Option.bind_some, Option.map_eq_some_iff] at h
          obtain ⟨b, hby, rfl⟩ := h
          obtain ⟨vs, hdv, hor⟩ := sl_loads (P := P) hH hc he
          obtain ⟨ns, hvs, hs2⟩ := bytes_den hby hdv
          rcases hor with ⟨a, l', c, hv, _, hrun⟩ | ⟨_, _, hv, _⟩ | ⟨_, hv, _⟩
          · refine ⟨.string b, ?_, rfl, rfl⟩
            obtain ⟨_, _, o', c', hv', _⟩ := he
            rw [hv'] at hv
            simp only [Value.slice.injEq, Option.some.injEq] at hv
            obtain ⟨rfl, rfl, rfl⟩ := hv
            have hrun := hrun w.drawn
            rw [Nat.mul_one] at hrun
            subst hvs
            simp only [execOp, convert, Sem.run_bind, run_underlying hs, run_underlying hdd, Result.andThen_ok, hv', run_underlying hel, Conv.bytesToString, hrun]
            rw [hs2]
            rw [run_pushes _ (fun _ _ => rfl)]
            rfl
          · obtain ⟨_, _, o', c', hv', _⟩ := he; rw [hv'] at hv; simp at hv
          · obtain ⟨_, _, o', c', hv', _⟩ := he; rw [hv'] at hv; simp at hv
    · simp at h
  · rename_i t id off hs hdd hx
    rw [hx] at he
    obtain ⟨hl, hv⟩ := he
    split at h
    · rename_i k b hsz hb
      cases hlt : Nat.blt off b.cells.length with
      | false => simp only [hlt, cond_false, reduceCtorEq] at h
      | true =>
        simp only [hlt, cond_true, Option.some.injEq] at h; subst h
        have hlt' : off < b.cells.length := by simpa [Nat.blt_eq] using hlt
        obtain ⟨cs, fz, hli⟩ := hH.row id b hb
        have hroom := hli.room
        refine ⟨_, ?_, hl, rfl⟩
        have hno : ¬ cs.size ≤ ρ.base id + off := by omega
        simp only [execOp, convert, Sem.run_bind, run_underlying hs, run_underlying hdd, Result.andThen_ok, hv]
        simp [Conv.unsafePointer, run_underlying hs, run_underlying hdd, Conv.seenAt, run_view hli.heap, cellsIn, World.shape?, hli.heap, run_size hsz, hno]
    · simp at h
  · rename_i u id off hs hdd hx
    rw [hx] at he
    obtain ⟨hl, hv⟩ := he
    split at h
    · rename_i k b hsz hb
      cases hlt : (b.whole && liesAt P P.depth b.elem (b.cells.length / P.cellsOf b.elem) off u 1) with
      | false => simp only [hlt, cond_false, reduceCtorEq] at h
      | true =>
        simp only [hlt, cond_true, Option.some.injEq] at h; subst h
        simp only [Bool.and_eq_true] at hlt
        obtain ⟨cs, fz, hli⟩ := hH.row id b hb
        obtain ⟨hba, hsi⟩ := hli.whole hlt.1
        refine ⟨_, ?_, hl, rfl⟩
        have hlies := hlt.2
        rw [← hsi] at hlies
        simp only [execOp, convert, Sem.run_bind, run_underlying hs, run_underlying hdd, Result.andThen_ok, hv]
        simp [Conv.unsafePointer, run_underlying hs, run_underlying hdd, Conv.seenAt, run_view hli.heap, World.shape?, hli.heap, run_size hsz, variablesAt, hba, hlies]
    · simp at h
  · simp at h
theorem readA_sound {o : Oper} (hH : HOK ρ H w) (h : readA P H ev o = some r) (he : EvOK ρ H.next ev e o.op.operands.toList) : Quiet P e ρ H.next o r w := by
  obtain ⟨dst, op, ty, pos, after, guard⟩ := o
  cases op with
  | load t a => exact r_load hH h (he a (by simp [Op.operands]))
  | convert s d x => exact r_convert hH h (he x (by simp [Op.operands]))
  | call c =>
    obtain ⟨callee, args, ats⟩ := c
    cases callee with
    | value f => simp [readA] at h
    | invoke r m => simp [readA] at h
    | builtin b =>
      cases b with
      | unsafeSliceData =>
        simp only [readA] at h
        split at h
        · rename_i id off len cp es ex hl
          simp only [Option.some.injEq] at h; subst h
          obtain ⟨y, hy⟩ : ∃ y, args.toList = [y] := by
            cases hal : args.toList with
            | nil => simp [hal] at hl
            | cons y l => cases l with
              | nil => exact ⟨y, rfl⟩
              | cons z l => simp [hal] at hl
          have ha : args = #[y] := Array.toList_inj.1 (by simpa using hy)
          subst ha
          have h1 := he y (by simp [Op.operands, Call.operands])
          simp only [List.map_cons, List.map_nil, List.cons.injEq, and_true] at hl
          rw [hl] at h1
          obtain ⟨hlt, _, o', c', hv, ho, hx1, hx2⟩ := h1
          have hc : c' ≠ 0 := by
            cases ex with
            | true => have := hx1 rfl; omega
            | false => have := hx2 rfl; omega
          refine ⟨_, ?_, hlt, rfl⟩
          have hrun : (Builtin.unsafeSliceData_ ats ty #[e y]).run P w = .ok (.pointer (some ⟨ρ.blk id, ρ.base id + off, none⟩)) w := by
            rw [hv, ho hc]
            show (if c' ≠ 0 then (pure (Value.pointer (some _)) : Sem Value) else _).run P w = _
            rw [if_pos hc]; rfl
          simp [execOp, resolve, invoke, builtin, hrun]
        · simp at h
      | _ => simp [readA] at h
  | _ => simp [readA] at h
end
end Go.Proofs.YtgobcnheemocnaaGreatDoor
end
section
namespace Go.Proofs.YtgobcnheemocnaaGreatDoor
open Go
set_option linter.unusedSimpArgs false
set_option linter.unusedVariables false

def Rho.upd (ρ : Rho) (i b o s : Nat) : Rho :=
  ⟨fun j => if j = i then b else ρ.blk j, fun j => if j = i then o else ρ.base j, fun j => if j = i then s else ρ.size j⟩
theorem Rho.upd_ext (ρ : Rho) (i b o s : Nat) : Ext ρ (ρ.upd i b o s) i :=
  ⟨fun j hj => if_neg (by omega), fun j hj => if_neg (by omega), fun j hj => if_neg (by omega)⟩
theorem AH.get_new (H : AH) (b : Blk) (i : Nat) : (H.new b).get i = if i = H.next then some b else H.get i := by show Tr.getR (H.heap.put H.next (some b)) i = _; rw [Tr.getR_eq]; unfold AH.get; rw [Tr.getR_eq]; exact Tr.get_put _ _ _ _
theorem AH.get_set (H : AH) (k : Nat) (b : Option Blk) (i : Nat) : (H.set k b).get i = if i = k then b else H.get i := by show Tr.getR (H.heap.put k b) i = _; rw [Tr.getR_eq]; unfold AH.get; rw [Tr.getR_eq]; exact Tr.get_put _ _ _ _

section
variable {P : Program} {ρ : Rho} {H : AH} {w : World}

/-- A block that is laid anew (or taken over: 'g' is nobody's that is left). -/
theorem lay_ok (hH : HOK ρ H w) {w' : World} {b : Blk} {cs : Array Value} {fz : Nat × Nat} {g o : Nat}
    (hsz : w.heap.size ≤ w'.heap.size) (hoth : ∀ k, k < w.heap.size → k ≠ g → w'.heap[k]? = w.heap[k]?) (hg : w'.heap[g]? = some (.cells cs b.elem fz))
    (hfree : ∀ id b, H.get id = some b → ρ.blk id ≠ g)
    (hthaw : fz.1 = fz.2 ∨ cs.size ≤ fz.1) (hroom : o + b.cells.length ≤ cs.size) (hwh : b.whole = true → o = 0 ∧ cs.size = b.cells.length)
    (hden : ∀ (i : Nat) (x : AC), b.cells[i]? = some x → ∃ u, cs[o + i]? = some u ∧ x.den ρ H.next u) :
    HOK (ρ.upd H.next g o cs.size) (H.new b) w' where
  lt := fun id b' h => by
    rw [AH.get_new] at h
    split at h
    · subst_vars; exact Nat.lt_succ_self _
    · exact Nat.lt_succ_of_lt (hH.lt id b' h)
  inj := fun id id' c c' h h' e => by
    rw [AH.get_new] at h h'
    simp only [Rho.upd] at e
    by_cases h1 : id = H.next <;> by_cases h2 : id' = H.next
    · rw [h1, h2]
    · simp only [h1, if_true, h2, if_false] at e h'
      exact absurd e.symm (hfree id' c' h')
    · simp only [h1, if_false, h2, if_true] at e h
      exact absurd e (hfree id c h)
    · simp only [h1, h2, if_false] at e h h'
      exact hH.inj id id' c c' h h' e
  row := fun id c h => by
    rw [AH.get_new] at h
    have ext := Rho.upd_ext ρ H.next g o cs.size
    split at h
    · rename_i hid
      subst hid
      simp only [Option.some.injEq] at h; subst h
      refine ⟨cs, fz, by simpa [Rho.upd] using hg, by simp [Rho.upd], hthaw, by simpa [Rho.upd] using hroom, by simpa [Rho.upd] using hwh, fun i x hx => ?_⟩
      obtain ⟨u, hu, hd⟩ := hden i x hx
      exact ⟨u, by simpa [Rho.upd] using hu, AC.den_mono ext (Nat.le_succ _) x u hd⟩
    · rename_i hid
      obtain ⟨cs', fz', hl⟩ := hH.row id c h
      have hlt := hH.lt id c h
      have hb : (ρ.upd H.next g o cs.size).blk id = ρ.blk id := ext.blk id hlt
      have hne : ρ.blk id ≠ g := hfree id c h
      refine ⟨cs', fz', ?_, by rw [ext.size id hlt]; exact hl.size, hl.thaw, by rw [ext.base id hlt]; exact hl.room, by rw [ext.base id hlt]; exact hl.whole, fun i x hx => ?_⟩
      · rw [hb, hoth _ (hH.lt_size h) hne]; exact hl.heap
      · obtain ⟨u, hu, hd⟩ := hl.den i x hx
        exact ⟨u, by rw [ext.base id hlt]; exact hu, AC.den_mono ext (Nat.le_succ _) x u hd⟩
theorem lay_kp {w' : World} {b : Blk} {g o s : Nat} (hsz : w.heap.size ≤ w'.heap.size) (hos : w'.os = w.os) (hta : w'.tape = w.tape) (hou : w'.output = w.output)
    (hoth : ∀ k, k < w.heap.size → k ≠ g → w'.heap[k]? = w.heap[k]?) (hnew : w.heap.size ≤ g) (hH : HOK ρ H w) : Kp H ρ w (H.new b) (ρ.upd H.next g o s) w' where
  ext := Rho.upd_ext ρ H.next g o s
  next := Nat.le_succ _
  size := hsz
  os := hos
  tape := hta
  output := hou
  frame := fun k hk _ => hoth k hk (by omega)
  come := fun id c h => by
    rw [AH.get_new] at h
    split at h
    · rename_i hid; subst hid; left; simpa [Rho.upd] using hnew
    · rename_i hid
      right; exact ⟨id, c, h, by simp [Rho.upd, hid]⟩
/-- One block of cells, made new. -/
theorem new_ok (hH : HOK ρ H w) {w' : World} {b : Blk} {cs : Array Value} {fz : Nat × Nat} (hh : w'.heap = w.heap.push (.cells cs b.elem fz)) (hos : w'.os = w.os) (hta : w'.tape = w.tape) (hou : w'.output = w.output)
    (hthaw : fz.1 = fz.2 ∨ cs.size ≤ fz.1) (hroom : b.cells.length ≤ cs.size) (hwh : b.whole = true → cs.size = b.cells.length)
    (hden : ∀ (i : Nat) (x : AC), b.cells[i]? = some x → ∃ u, cs[i]? = some u ∧ x.den ρ H.next u) :
    HOK (ρ.upd H.next w.heap.size 0 cs.size) (H.new b) w' ∧ Kp H ρ w (H.new b) (ρ.upd H.next w.heap.size 0 cs.size) w' := by
  have hoth : ∀ k, k < w.heap.size → k ≠ w.heap.size → w'.heap[k]? = w.heap[k]? := fun k hk _ => by
    rw [hh, Array.getElem?_push, if_neg (by omega)]
  have hsz : w.heap.size ≤ w'.heap.size := by rw [hh]; simp
  refine ⟨lay_ok hH hsz hoth (by rw [hh]; simp) (fun id c h => by have := hH.lt_size h; omega) hthaw (by omega) (fun h => ⟨rfl, hwh h⟩) (fun i x hx => ?_), lay_kp hsz hos hta hou hoth (Nat.le_refl _) hH⟩
  rw [Nat.zero_add]; exact hden i x hx
theorem den_get {ρ : Rho} {n : Nat} {l : List AC} {cs : Array Value} (h : All2 (AC.den ρ n) l cs.toList) : ∀ (i : Nat) (x : AC), l[i]? = some x → ∃ u, cs[i]? = some u ∧ x.den ρ n u := fun i x hx => by
  obtain ⟨u, hu, hd⟩ := h.get hx
  exact ⟨u, by simpa using hu, hd⟩
theorem den_size {ρ : Rho} {n : Nat} {l : List AC} {cs : Array Value} (h : All2 (AC.den ρ n) l cs.toList) : cs.size = l.length := by
  have := h.len; simpa using this.symm

/-- A block that is forgotten. -/
theorem del_ok (hH : HOK ρ H w) (id : Nat) : HOK ρ (H.set id none) w ∧ Kp H ρ w (H.set id none) ρ w := by
  have sub : ∀ {i b}, (H.set id none).get i = some b → H.get i = some b := by
    intro i b h
    rw [AH.get_set] at h
    split at h
    · simp at h
    · exact h
  exact ⟨⟨fun i b h => hH.lt i b (sub h), fun i j b c h h' e => hH.inj i j b c (sub h) (sub h') e, fun i b h => hH.row i b (sub h)⟩,
    ⟨.refl _ _, Nat.le_refl _, Nat.le_refl _, rfl, rfl, rfl, fun _ _ _ => rfl, fun i b h => .inr ⟨i, b, sub h, rfl⟩⟩⟩

/-- Stores into one block, one by one. -/
theorem run_stores (P : Program) (b o : Nat) (t : TypeId) (fz : Nat × Nat) : ∀ (vs : List Value) (i : Nat) (cur : Array Value) (w : World),
    w.heap[b]? = some (.cells cur t fz) → (fz.1 = fz.2 ∨ cur.size ≤ fz.1) → o + i + vs.length ≤ cur.size → (∀ v ∈ vs, v.oneCell' = true) →
    ∃ w' cur', (storeCells ⟨b, o, none⟩ vs i).run P w = .ok () w' ∧ w'.heap.size = w.heap.size ∧ w'.os = w.os ∧ w'.tape = w.tape ∧ w'.output = w.output ∧
      (∀ k, k ≠ b → w'.heap[k]? = w.heap[k]?) ∧ w'.heap[b]? = some (.cells cur' t fz) ∧ cur'.size = cur.size ∧
      ∀ k, cur'[k]? = if o + i ≤ k ∧ k < o + i + vs.length then vs[k - (o + i)]? else cur[k]?
  | [], i, cur, w, h, _, _, _ => ⟨w, cur, rfl, rfl, rfl, rfl, rfl, fun _ _ => rfl, h, rfl, fun k => by rw [if_neg (by simp)]⟩
  | v :: vs, i, cur, w, h, hf, hl, h1 => by
    simp only [List.length_cons] at hl
    have hlt : o + i < cur.size := by omega
    have hc : w.cell? ⟨b, o + i, none⟩ = some cur[o + i] := by simp [World.cell?, h, hlt]
    have hfr : w.frozen? ⟨b, o + i, none⟩ = false := by
      obtain ⟨lo, hi⟩ := fz
      simp only at hf
      simp only [World.frozen?, h]
      rw [Bool.and_eq_false_iff]
      simp only [decide_eq_false_iff_not]
      omega
    let w1 := w.setCell ⟨b, o + i, none⟩ v
    have hw1 : w1.heap[b]? = some (.cells (cur.setIfInBounds (o + i) v) t fz) := by
      show (w.heap.modify b _)[b]? = _
      rw [Array.getElem?_modify]; simp [h]
    have hoth : ∀ k, k ≠ b → w1.heap[k]? = w.heap[k]? := fun k hk => by
      show (w.heap.modify b _)[k]? = _
      rw [Array.getElem?_modify, if_neg (Ne.symm hk)]
    obtain ⟨w', cur', hrun, hs, hos, hta, hou, ho, hb, hcs, hk⟩ := run_stores P b o t fz vs (i + 1) (cur.setIfInBounds (o + i) v) w1 hw1 (by simpa using hf) (by simp; omega) (fun u hu => h1 u (by simp [hu]))
    refine ⟨w', cur', ?_, hs.trans (by show (w.heap.modify b _).size = _; simp), hos, hta, hou, fun k hk => (ho k hk).trans (hoth k hk), hb, hcs.trans (by simp), fun k => ?_⟩
    · simp only [storeCells, Sem.run_bind, add_at]
      rw [run_store P w _ v .plain (h1 v (by simp)), hc]
      simp only [hfr]
      exact hrun
    · rw [hk, Array.getElem?_setIfInBounds]
      simp only [List.length_cons]
      by_cases c1 : k = o + i
      · subst c1
        rw [if_neg (by omega), if_pos rfl, if_pos hlt, if_pos (by omega)]; simp
      · by_cases c2 : o + (i + 1) ≤ k ∧ k < o + (i + 1) + vs.length
        · rw [if_pos c2, if_pos (by omega)]
          have : k - (o + i) = (k - (o + (i + 1))) + 1 := by omega
          rw [this]; simp
        · rw [if_neg c2, if_neg (Ne.symm c1), if_neg (by omega)]
/-- Cells of a block written. -/
theorem put_ok (hH : HOK ρ H w) {id off : Nat} {b : Blk} (hb : H.get id = some b) {l : List AC} {vs : List Value} (hd : All2 (AC.den ρ H.next) l vs) (hlen : off + l.length ≤ b.cells.length) :
    ∃ w', (storeCells ⟨ρ.blk id, ρ.base id + off, none⟩ vs).run P w = .ok () w' ∧ HOK ρ (H.set id (some ⟨splice b.cells off l, b.elem, b.whole⟩)) w' ∧
      Kp H ρ w (H.set id (some ⟨splice b.cells off l, b.elem, b.whole⟩)) ρ w' := by
  obtain ⟨cs, fz, hl⟩ := hH.row id b hb
  have hroom := hl.room
  have hvl := hd.len
  have h1 : ∀ v ∈ vs, v.oneCell' = true := fun v hv => by
    obtain ⟨i, hi⟩ := List.mem_iff_getElem?.1 hv
    have : i < l.length := by have := (List.getElem?_eq_some_iff.1 hi).1; omega
    obtain ⟨u, hu, hdu⟩ := hd.get (List.getElem?_eq_getElem this)
    rw [hi] at hu; cases hu; exact AC.den_one hdu
  obtain ⟨w', cur', hrun, hs, hos, hta, hou, ho, hbk, hcs, hk⟩ := run_stores P (ρ.blk id) (ρ.base id + off) b.elem fz vs 0 cs w hl.heap hl.thaw (by omega) h1
  have hsl : (splice b.cells off l).length = b.cells.length := splice_len hlen
  refine ⟨w', hrun, ⟨fun i c h => ?_, fun i j c c' h h' e => ?_, fun i c h => ?_⟩, .refl _ _, Nat.le_refl _, by omega, hos, hta, hou, fun k hk' hn => ho k (Ne.symm (hn id b hb)), fun i c h => ?_⟩
  · rw [AH.get_set] at h
    split at h
    · rename_i e; subst e; exact hH.lt _ b hb
    · exact hH.lt i c h
  · rw [AH.get_set] at h h'
    have g1 : ∃ c, H.get i = some c := by
      split at h
      · rename_i e; subst e; exact ⟨b, hb⟩
      · exact ⟨c, h⟩
    have g2 : ∃ c, H.get j = some c := by
      split at h'
      · rename_i e; subst e; exact ⟨b, hb⟩
      · exact ⟨c', h'⟩
    obtain ⟨c1, g1⟩ := g1
    obtain ⟨c2, g2⟩ := g2
    exact hH.inj i j c1 c2 g1 g2 e
  · rw [AH.get_set] at h
    split at h
    · rename_i e; subst e
      simp only [Option.some.injEq] at h; subst h
      refine ⟨cur', fz, hbk, hcs.trans hl.size, by rw [hcs]; exact hl.thaw, by rw [hcs, hsl]; exact hl.room, fun hw => by rw [hcs, hsl]; exact hl.whole hw, fun k x hx => ?_⟩
      rw [hk]
      simp only [splice_eq] at hx
      by_cases c1 : k < off
      · rw [List.getElem?_append_left (by simp; omega), List.getElem?_take, if_pos c1] at hx
        rw [if_neg (by omega)]
        exact hl.den k x hx
      · rw [List.getElem?_append_right (by simp; omega)] at hx
        simp only [List.length_take] at hx
        have e1 : k - min off b.cells.length = k - off := by omega
        rw [e1] at hx
        by_cases c2 : k - off < l.length
        · rw [List.getElem?_append_left c2] at hx
          rw [if_pos (by omega)]
          obtain ⟨u, hu, hdu⟩ := hd.get hx
          refine ⟨u, ?_, hdu⟩
          have e2 : ρ.base i + k - (ρ.base i + off + 0) = k - off := by omega
          rw [e2]; exact hu
        · rw [List.getElem?_append_right (by omega), List.getElem?_drop] at hx
          rw [if_neg (by omega)]
          have e2 : off + l.length + (k - off - l.length) = k := by omega
          rw [e2] at hx
          exact hl.den k x hx
    · rename_i hne
      obtain ⟨cs', fz', hl'⟩ := hH.row i c h
      refine ⟨cs', fz', ?_, hl'.size, hl'.thaw, hl'.room, hl'.whole, hl'.den⟩
      rw [ho _ (fun e => hne (hH.inj i id c b h hb e))]
      exact hl'.heap
  · rw [AH.get_set] at h
    split at h
    · rename_i e; subst e; exact .inr ⟨i, b, hb, rfl⟩
    · exact .inr ⟨i, c, h, rfl⟩
end
end Go.Proofs.YtgobcnheemocnaaGreatDoor
end
section
namespace Go.Proofs.YtgobcnheemocnaaGreatDoor
open Go
set_option linter.unusedSimpArgs false
set_option linter.unusedVariables false

section
variable {P : Program} {ρ : Rho} {H : AH} {w : World} {e : Operand → Value} {ev : Ev}
variable {dst : Option Tmp} {ty : TypeId} {pos : String} {after : Array Edge} {guard : Option (Nat × Bool)} {r : AR} {H' : AH}

/-- What is asked of an operation that may write. -/
def Does (P : Program) (e : Operand → Value) (ρ : Rho) (H : AH) (w : World) (o : Oper) (r : AR) (H' : AH) : Prop :=
  ∃ v w' ρ', ((execOp e o).run P w = .ok (.value v) w' ∨ ((execOp e o).run P w = .ok .skip w' ∧ v = undef)) ∧ r.den ρ' H'.next v ∧ HOK ρ' H' w' ∧ Kp H ρ w H' ρ' w'

theorem rep_len (k : Nat) (z : List AC) : (rep k z).length = k * z.length := by
  induction k with
  | zero => simp [rep]
  | succ k ih => simp [rep, ih, Nat.succ_mul]; omega
theorem rep_get (z : List AC) : ∀ (k i : Nat), i < k * z.length → (rep k z)[i]? = z[i % z.length]?
  | 0, i, h => by simp at h
  | k + 1, i, h => by
    simp only [rep]
    by_cases c : i < z.length
    · rw [List.getElem?_append_left c, Nat.mod_eq_of_lt c]
    · rw [List.getElem?_append_right (by omega), rep_get z k (i - z.length) (by rw [Nat.succ_mul] at h; omega), Nat.mod_eq_sub_mod (a := i) (by omega)]
theorem rep_den {n : Nat} {z : List AC} {zc : Array Value} (hz : All2 (AC.den ρ n) z zc.toList) (k : Nat) :
    All2 (AC.den ρ n) (rep k z) ((Array.range (k * z.length)).map (zc[· % zc.size]!)).toList := by
  have hs := den_size hz
  refine All2.of (by simp [rep_len]) fun i x y hx hy => ?_
  have hi : i < k * z.length := by have := (List.getElem?_eq_some_iff.1 hx).1; rw [rep_len] at this; exact this
  rw [rep_get z k i hi] at hx
  obtain ⟨u, hu, hd⟩ := den_get hz _ _ hx
  simp only [Array.toList_map, List.getElem?_map, Array.toList_range, List.getElem?_range hi, Option.map_some, Option.some.injEq] at hy
  rw [← hs] at hu
  have : zc[i % zc.size]! = u := by rw [getElem!_def, hu]
  rw [← hy, this]; exact hd
theorem a_alloc {t : TypeId} (hH : HOK ρ H w) (h : actA P H ev ⟨dst, .alloc t, ty, pos, after, guard⟩ = some (r, H')) : Does P e ρ H w ⟨dst, .alloc t, ty, pos, after, guard⟩ r H' := by
  simp only [actA, Option.map_eq_some_iff, Prod.mk.injEq] at h
  obtain ⟨z, hz, rfl, rfl⟩ := h
  obtain ⟨i, v, hi, hzz, hd⟩ := zero_den hz ρ H.next
  obtain ⟨h1, h2⟩ := new_ok hH (w' := w.alloc (.cells v.cells t)) (b := ⟨z, t, true⟩) (cs := v.cells) (fz := (0, 0)) rfl rfl rfl rfl (.inl rfl) (by rw [den_size hd]; exact Nat.le_refl _) (fun _ => den_size hd) (den_get hd)
  refine ⟨.pointer (some ⟨w.heap.size, 0, none⟩), _, _, .inl ?_, ⟨Nat.lt_succ_self _, by simp [Rho.upd]⟩, h1, h2⟩
  simp [execOp, Instr.alloc, zeroValue, typeInfo, hi, hzz, newVar, newRow]
theorem a_box {t : TypeId} {x : Operand} (hH : HOK ρ H w) (h : actA P H ev ⟨dst, .box t x, ty, pos, after, guard⟩ = some (r, H')) (he : (ev x).den ρ H.next (e x)) :
    Does P e ρ H w ⟨dst, .box t x, ty, pos, after, guard⟩ r H' := by
  simp only [actA] at h
  split at h
  · rename_i a hx
    simp only [Option.some.injEq, Prod.mk.injEq] at h
    obtain ⟨rfl, rfl⟩ := h
    rw [hx] at he
    have hd := AV.den_cells he
    obtain ⟨h1, h2⟩ := new_ok hH (w' := w.alloc (.cells (e x).cells t)) (b := ⟨a.cells, t, true⟩) (cs := (e x).cells) (fz := (0, 0)) rfl rfl rfl rfl (.inl rfl) (by rw [den_size hd]; exact Nat.le_refl _) (fun _ => den_size hd) (den_get hd)
    refine ⟨.pointer (some ⟨w.heap.size, 0, none⟩), _, _, .inl ?_, ⟨Nat.lt_succ_self _, by simp [Rho.upd]⟩, h1, h2⟩
    simp [execOp, Instr.box, newVar, newRow]
  · simp at h
theorem a_buildSlice {t : TypeId} {len : Nat} {parts : Array (Nat × Operand)} (hH : HOK ρ H w) (h : actA P H ev ⟨dst, .buildSlice t len parts, ty, pos, after, guard⟩ = some (r, H'))
    (he : EvOK ρ H.next ev e (parts.toList.map (·.2))) : Does P e ρ H w ⟨dst, .buildSlice t len parts, ty, pos, after, guard⟩ r H' := by
  simp only [actA] at h
  split at h
  · rename_i el hu
    split at h
    · rename_i s z ps hs hz hps
      cases hb : (Nat.beq z.length s && Nat.ble (len * s) 16777216) with
      | false => simp only [hb, cond_false, reduceCtorEq] at h
      | true =>
        simp only [hb, cond_true, Option.map_eq_some_iff, Prod.mk.injEq] at h
        simp only [Bool.and_eq_true, Nat.beq_eq, Nat.ble_eq] at hb
        obtain ⟨l, hl, rfl, rfl⟩ := h
        obtain ⟨i, v, hi, hzz, hdz⟩ := zero_den hz ρ H.next
        have hsz : i.size = s := by simp [szOf, hi] at hs; exact hs
        have hrep := rep_den hdz len
        rw [hb.1] at hrep
        obtain ⟨cells, hfill, hd⟩ := fill_den (fun i => some (i * s, s)) ps _ (rep len z) l ((Array.range (len * s)).map (v.cells[· % v.cells.size]!)) hl hrep (parts_den hps he)
        obtain ⟨h1, h2⟩ := new_ok hH (w' := w.alloc (.cells cells el)) (b := ⟨l, el, true⟩) (cs := cells) (fz := (0, 0)) rfl rfl rfl rfl (.inl rfl) (by rw [den_size hd]; exact Nat.le_refl _) (fun _ => den_size hd) (den_get hd)
        refine ⟨.slice (some ⟨w.heap.size, 0, none⟩) len len, _, _, .inl ?_, ⟨Nat.lt_succ_self _, Nat.le_refl _, 0, len, by simp [Rho.upd], fun _ => by simp [Rho.upd], fun _ => rfl, fun hh => by simp at hh⟩, h1, h2⟩
        have hf : Instr.fill (fun i => some (i * s, s)) ((Array.range (len * s)).map (v.cells[· % v.cells.size]!)) (parts.map fun x => (x.1, e x.2)).toList = some cells := by simpa using hfill
        have hbig : ¬ len * s > 2 ^ 24 := by omega
        by_cases h0 : len * s = 0
        · rw [h0] at hf
          have he0 : (Array.range 0).map (v.cells[· % v.cells.size]!) = #[] := by simp
          rw [he0] at hf
          have hf' : Instr.fill (fun i => some (i * s, s)) #[] (parts.toList.map fun x => (x.1, e x.2)) = some cells := by simpa using hf
          have hr0 : Array.range 0 = #[] := rfl
          simp [execOp, Instr.buildSlice, run_underlying hu, run_size hs, h0, newRow, hf', hr0]
        · have hf' : Instr.fill (fun i => some (i * s, s)) ((Array.range (len * s)).map (v.cells[· % v.cells.size]!)) (parts.toList.map fun x => (x.1, e x.2)) = some cells := by simpa using hf
          simp [execOp, Instr.buildSlice, run_underlying hu, run_size hs, h0, hbig, zeroValue, typeInfo, hi, hzz, newRow, hf']
    · simp at h
  · simp at h
theorem a_makeSlice {t : TypeId} {l c : Operand} (hH : HOK ρ H w) (h : actA P H ev ⟨dst, .makeSlice t l c, ty, pos, after, guard⟩ = some (r, H'))
    (hel : (ev l).den ρ H.next (e l)) (hec : (ev c).den ρ H.next (e c)) : Does P e ρ H w ⟨dst, .makeSlice t l c, ty, pos, after, guard⟩ r H' := by
  simp only [actA] at h
  split at h
  · rename_i el ln cn hu hl hc
    obtain ⟨kl, hl⟩ := intArg_den hl hel
    obtain ⟨kc, hc⟩ := intArg_den hc hec
    split at h
    · rename_i s z by' hs hz hby
      cases hb : (Nat.ble ln cn && (Nat.blt cn 1000000 && (Nat.beq z.length s && Nat.ble (by' * cn) 140737488355328))) with
      | false => simp only [hb, cond_false, reduceCtorEq] at h
      | true =>
        simp only [hb, cond_true, Option.some.injEq, Prod.mk.injEq] at h
        simp only [Bool.and_eq_true, Nat.beq_eq, Nat.ble_eq, Nat.blt_eq] at hb
        obtain ⟨b1, b2, b3, b4⟩ := hb
        obtain ⟨rfl, rfl⟩ := h
        obtain ⟨i, v, hi, hzz, hdz⟩ := zero_den hz ρ H.next
        have hbyt : i.bytes = by' := by simp [hi] at hby; exact hby
        have hrep := rep_den hdz cn
        rw [b3] at hrep
        obtain ⟨h1, h2⟩ := new_ok hH (w' := w.alloc (.cells ((Array.range (cn * s)).map (v.cells[· % v.cells.size]!)) el)) (b := ⟨rep cn z, el, true⟩) (cs := (Array.range (cn * s)).map (v.cells[· % v.cells.size]!)) (fz := (0, 0))
          rfl rfl rfl rfl (.inl rfl) (by rw [den_size hrep]; exact Nat.le_refl _) (fun _ => den_size hrep) (den_get hrep)
        refine ⟨.slice (some ⟨w.heap.size, 0, none⟩) ln cn, _, _, .inl ?_, ⟨Nat.lt_succ_self _, b1, 0, cn, by simp [Rho.upd], fun _ => by simp [Rho.upd], fun _ => rfl, fun hh => by simp at hh⟩, h1, h2⟩
        have w1 : IntKind.i64.wrap (ln : Int) = ln := by simp [IntKind.wrap, IntKind.signed, IntKind.bits]; omega
        have w2 : IntKind.i64.wrap (cn : Int) = cn := by simp [IntKind.wrap, IntKind.signed, IntKind.bits]; omega
        have t1 : ¬ ((cn : Int) < 0) := by omega
        have t2 : ¬ (281474976710656 < (i.bytes : Int) * (cn : Int)) := by
          rw [hbyt, ← Int.natCast_mul]; omega
        have t3 : ¬ ((ln : Int) < 0) := by omega
        have t4 : ¬ ((ln : Int) > (cn : Int)) := by omega
        have run : (Instr.makeSlice t (e l) (e c)).run P w = .ok (.slice (some ⟨w.heap.size, 0, none⟩) ln cn) (w.alloc (.cells ((Array.range (cn * s)).map (v.cells[· % v.cells.size]!)) el)) := by
          have hsz : (sizeOf el).run P w = .ok s w := run_size hs w
          by_cases h0 : cn * s = 0
          · rw [h0]
            have hr0 : Array.range 0 = #[] := rfl
            simp [hr0, Instr.makeSlice, run_underlying hu, hl, hc, asInt, asIntOf, typeInfo, hi, w1, w2, t1, t2, t3, t4, hsz, h0, newRow]
          · simp [Instr.makeSlice, run_underlying hu, hl, hc, asInt, asIntOf, typeInfo, hi, w1, w2, t1, t2, t3, t4, hsz, h0, newRow, zeroValue, hzz]
        simp [execOp, run]
    · simp at h
  · simp at h
theorem a_store {t : TypeId} {a x : Operand} (hH : HOK ρ H w) (h : actA P H ev ⟨dst, .store t a x, ty, pos, after, guard⟩ = some (r, H'))
    (hea : (ev a).den ρ H.next (e a)) (hex : (ev x).den ρ H.next (e x)) : Does P e ρ H w ⟨dst, .store t a x, ty, pos, after, guard⟩ r H' := by
  simp only [actA] at h
  split at h
  · rename_i id off v ha hx
    rw [ha] at hea; rw [hx] at hex
    obtain ⟨hlt, hv⟩ := hea
    split at h
    · rename_i b k hb hs
      cases hc : (Nat.beq v.cells.length k && Nat.ble (off + k) b.cells.length) with
      | false => simp only [hc, cond_false, reduceCtorEq] at h
      | true =>
        simp only [hc, cond_true, Option.some.injEq, Prod.mk.injEq] at h
        simp only [Bool.and_eq_true, Nat.beq_eq, Nat.ble_eq] at hc
        obtain ⟨rfl, rfl⟩ := h
        have hd := AV.den_cells hex
        obtain ⟨w', hrun, h1, h2⟩ := put_ok (P := P) (off := off) hH hb hd (by omega)
        refine ⟨undef, w', ρ, .inr ⟨?_, rfl⟩, ⟨#[], rfl, trivial⟩, h1, h2⟩
        have hsz : (e x).cells.size = k := by rw [den_size hd]; exact hc.1
        simp [execOp, Instr.storeAt, hv, Instr.sureAddr, storeVar, run_size hs, hsz, hrun]
    · simp at h
  · simp at h
end
end Go.Proofs.YtgobcnheemocnaaGreatDoor
end
