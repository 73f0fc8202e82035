/-
  The reckoned run's memory and the world's; operations that read. No condition.
-/
import Derived.Test.YtbifklibdkjbeaaGreatDoorEvT
import Derived.Laws.Cells
namespace Go.Proofs.YtbifklibdkjbeaaGreatDoor
open Go
set_option linter.unusedSimpArgs false
set_option linter.unusedVariables false

/-- A block as it lies. -/
structure Lies (ρ : Rho) (n : Nat) (w : World) (id : Nat) (b : Blk) (cs : Array Value) (fz : Nat × Nat) : Prop where
  heap : w.heap[ρ.blk id]? = some (.cells cs b.elem fz)
  size : cs.size = ρ.size id
  thaw : fz.1 = fz.2 ∨ cs.size ≤ fz.1
  room : ρ.base id + b.cells.length ≤ cs.size
  whole : b.whole = true → ρ.base id = 0 ∧ cs.size = b.cells.length
  den : ∀ i x, b.cells[i]? = some x → ∃ u, cs[ρ.base id + i]? = some u ∧ x.den ρ n u
structure HOK (ρ : Rho) (H : AH) (w : World) : Prop where
  lt : ∀ id b, H.get id = some b → id < H.next
  inj : ∀ id id' b b', H.get id = some b → H.get id' = some b' → ρ.blk id = ρ.blk id' → id = id'
  row : ∀ id b, H.get id = some b → ∃ cs fz, Lies ρ H.next w id b cs fz
/-- What a step does to memory. -/
structure Kp (H : AH) (ρ : Rho) (w : World) (H' : AH) (ρ' : Rho) (w' : World) : Prop where
  ext : Ext ρ ρ' H.next
  next : H.next ≤ H'.next
  size : w.heap.size ≤ w'.heap.size
  os : w'.os = w.os
  tape : w'.tape = w.tape
  output : w'.output = w.output
  frame : ∀ k, k < w.heap.size → (∀ id b, H.get id = some b → ρ.blk id ≠ k) → w'.heap[k]? = w.heap[k]?
  come : ∀ id b, H'.get id = some b → w.heap.size ≤ ρ'.blk id ∨ ∃ id0 b0, H.get id0 = some b0 ∧ ρ.blk id0 = ρ'.blk id
theorem Kp.refl (H : AH) (ρ : Rho) (w : World) : Kp H ρ w H ρ w :=
  ⟨.refl _ _, Nat.le_refl _, Nat.le_refl _, rfl, rfl, rfl, fun _ _ _ => rfl, fun id b h => .inr ⟨id, b, h, rfl⟩⟩
theorem Kp.trans {H H' H'' : AH} {ρ ρ' ρ'' : Rho} {w w' w'' : World} (h : Kp H ρ w H' ρ' w') (k : Kp H' ρ' w' H'' ρ'' w'') : Kp H ρ w H'' ρ'' w'' where
  ext := h.ext.trans k.ext h.next
  next := Nat.le_trans h.next k.next
  size := Nat.le_trans h.size k.size
  os := k.os.trans h.os
  tape := k.tape.trans h.tape
  output := k.output.trans h.output
  frame := fun i hi hn => (k.frame i (Nat.lt_of_lt_of_le hi h.size) fun id b hb e => by
    rcases h.come id b hb with h1 | ⟨id0, b0, h1, h2⟩
    · omega
    · exact hn id0 b0 h1 (h2.trans e)).trans (h.frame i hi hn)
  come := fun id b hb => by
    rcases k.come id b hb with h1 | ⟨id1, b1, h1, h2⟩
    · exact .inl (Nat.le_trans h.size h1)
    · rcases h.come id1 b1 h1 with h3 | ⟨id0, b0, h3, h4⟩
      · exact .inl (h2 ▸ h3)
      · exact .inr ⟨id0, b0, h3, h4.trans h2⟩

section
variable {P : Program} {ρ : Rho} {H : AH} {w : World} {e : Operand → Value} {ev : Ev}
theorem Lies.cell {n id : Nat} {b : Blk} {cs : Array Value} {fz : Nat × Nat} (h : Lies ρ n w id b cs fz) {i : Nat} {x : AC} (hx : b.cells[i]? = some x) :
    ∃ u, w.cell? ⟨ρ.blk id, ρ.base id + i, none⟩ = some u ∧ x.den ρ n u := by
  obtain ⟨u, hu, hd⟩ := h.den i x hx
  exact ⟨u, by simp [World.cell?, h.heap, hu], hd⟩
theorem HOK.lt_size (h : HOK ρ H w) {id : Nat} {b : Blk} (hb : H.get id = some b) : ρ.blk id < w.heap.size := by
  obtain ⟨cs, fz, hl⟩ := h.row id b hb
  exact (Array.getElem?_eq_some_iff.1 hl.heap).1
/-- A cut of a block's known cells, as the model loads it. -/
theorem loads {id : Nat} {b : Blk} (h : HOK ρ H w) (hb : H.get id = some b) {off k : Nat} {r : List AC} (hc : cut b.cells off k = some r) :
    ∃ vs : List Value, (∀ d, (loadCells ⟨ρ.blk id, ρ.base id + off, none⟩ k).run P { w with drawn := d } = .ok vs.toArray { w with drawn := d }) ∧ All2 (AC.den ρ H.next) r vs ∧
      ∀ i v, vs[i]? = some v → w.cell? ⟨ρ.blk id, ρ.base id + off + i, none⟩ = some v := by
  obtain ⟨cs, fz, hl⟩ := h.row id b hb
  have hlen := cut_len hc
  have hr : r = (b.cells.drop off).take k := by
    unfold cut at hc
    cases hx : Nat.beq ((b.cells.drop off).take k).length k with
    | false => simp only [hx, cond_false, reduceCtorEq] at hc
    | true => simp only [hx, cond_true, Option.some.injEq] at hc; exact hc.symm
  let vs : List Value := (cs.toList.drop (ρ.base id + off)).take k
  have hcell : ∀ i, i < k → ∃ x u, r[i]? = some x ∧ b.cells[off + i]? = some x ∧ cs[ρ.base id + (off + i)]? = some u ∧ x.den ρ H.next u := by
    intro i hi
    have h1 : i < r.length := by omega
    have h2 : r[i]? = some r[i] := by simp [h1]
    have h3 : b.cells[off + i]? = some r[i] := by
      rw [← h2, hr, List.getElem?_take, if_pos hi, List.getElem?_drop]
    obtain ⟨u, hu, hd⟩ := hl.den _ _ h3
    exact ⟨_, u, h2, h3, hu, hd⟩
  have hv : ∀ i, i < k → ∃ x u, r[i]? = some x ∧ vs[i]? = some u ∧ x.den ρ H.next u := by
    intro i hi
    obtain ⟨x, u, h2, _, hu, hd⟩ := hcell i hi
    refine ⟨x, u, h2, ?_, hd⟩
    show ((cs.toList.drop (ρ.base id + off)).take k)[i]? = some u
    rw [List.getElem?_take, if_pos hi, List.getElem?_drop]
    rw [Nat.add_assoc, Array.getElem?_toList]; exact hu
  have hvl : vs.length = k := by
    rcases Nat.eq_zero_or_pos k with rfl | hk
    · show ((cs.toList.drop (ρ.base id + off)).take 0).length = 0; simp
    · obtain ⟨x, u, _, hu, _⟩ := hv (k - 1) (by omega)
      have h1 := (List.getElem?_eq_some_iff.1 hu).1
      have h2 : vs.length ≤ k := List.length_take_le _ _
      omega
  have hcells : ∀ i v, vs[i]? = some v → w.cell? ⟨ρ.blk id, ρ.base id + off + i, none⟩ = some v := by
    intro i v hi
    have hik : i < k := by have := (List.getElem?_eq_some_iff.1 hi).1; omega
    have : cs[ρ.base id + off + i]? = some v := by
      have h4 : ((cs.toList.drop (ρ.base id + off)).take k)[i]? = some v := hi
      rw [List.getElem?_take, if_pos hik, List.getElem?_drop, Array.getElem?_toList] at h4
      exact h4
    simp [World.cell?, hl.heap, this]
  refine ⟨vs, ?_, All2.of (by omega) ?_, hcells⟩
  · intro d
    have := run_loadCells_list (P := P) (w := { w with drawn := d }) ⟨ρ.blk id, ρ.base id + off, none⟩ vs (fun j v hj => by rw [add_at]; exact hcells j v hj)
    rw [hvl] at this; exact this
  · intro i x y hx hy
    have hik : i < k := by have := (List.getElem?_eq_some_iff.1 hy).1; omega
    obtain ⟨x', u, h1, h2, h3⟩ := hv i hik
    rw [hx] at h1; rw [hy] at h2
    cases h1; cases h2; exact h3
theorem bytes_den {ρ : Rho} {n : Nat} : ∀ {l : List AC} {vs : List Value} {acc s : ByteArray}, bytesA l acc = some s → All2 (AC.den ρ n) l vs →
    ∃ ns : List Int, vs = ns.map (Value.int .u8 ·) ∧ s = ns.foldl (fun a k => a.push (UInt8.ofNat k.toNat)) acc
  | [], [], acc, s, h, _ => by simp [bytesA] at h; exact ⟨[], rfl, h.symm⟩
  | x :: l, v :: vs, acc, s, h, d => by
    unfold bytesA at h
    split at h
    · rename_i heq; cases heq
    · rename_i k l' heq
      cases heq
      obtain ⟨ns, h1, h2⟩ := bytes_den h d.2
      exact ⟨k :: ns, by rw [List.map_cons, ← h1]; rw [show v = _ from d.1.1], h2⟩
    · simp at h
  | x :: l, [], _, _, _, d => d.elim
  | [], _ :: _, _, _, _, d => d.elim
/-- Cells that are bytes: as a range loop of the model reads them. -/
theorem run_pushes (f : Value → ByteArray → Sem (ForInStep ByteArray)) (hf : ∀ k s, f (.int .u8 k) s = pure (.yield (s.push (UInt8.ofNat k.toNat)))) (ns : List Int) :
    ∀ (acc : ByteArray), (forIn (m := Sem) (ns.map (Value.int .u8 ·)).toArray acc f).run P w = .ok (ns.foldl (fun a k => a.push (UInt8.ofNat k.toNat)) acc) w := by
  intro acc
  rw [← Array.forIn_toList]
  simp only []
  induction ns generalizing acc with
  | nil => simp
  | cons k ns ih => simp [List.forIn_cons, hf, ih]
end
end Go.Proofs.YtbifklibdkjbeaaGreatDoor
