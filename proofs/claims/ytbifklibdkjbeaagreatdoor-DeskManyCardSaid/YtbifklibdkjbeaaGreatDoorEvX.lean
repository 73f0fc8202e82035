/-
  Operations that make or write memory: each one. No condition.
-/
import Derived.Test.YtbifklibdkjbeaaGreatDoorEvW
namespace Go.Proofs.YtbifklibdkjbeaaGreatDoor
open Go
set_option linter.unusedSimpArgs false
set_option linter.unusedVariables false

section
variable {P : Program} {ρ : Rho} {H : AH} {w : World} {e : Operand → Value} {ev : Ev}
variable {dst : Option Tmp} {ty : TypeId} {pos : String} {after : Array Edge} {guard : Option (Nat × Bool)} {r : AR} {H' : AH}

/-- What is asked of an operation that may write. -/
def Does (P : Program) (e : Operand → Value) (ρ : Rho) (H : AH) (w : World) (o : Oper) (r : AR) (H' : AH) : Prop :=
  ∃ v w' ρ', ((execOp e o).run P w = .ok (.value v) w' ∨ ((execOp e o).run P w = .ok .skip w' ∧ v = undef)) ∧ r.den ρ' H'.next v ∧ HOK ρ' H' w' ∧ Kp H ρ w H' ρ' w'

theorem rep_len (k : Nat) (z : List AC) : (rep k z).length = k * z.length := by
  induction k with
  | zero => simp [rep]
  | succ k ih => simp [rep, ih, Nat.succ_mul]; omega
theorem rep_get (z : List AC) : ∀ (k i : Nat), i < k * z.length → (rep k z)[i]? = z[i % z.length]?
  | 0, i, h => by simp at h
  | k + 1, i, h => by
    simp only [rep]
    by_cases c : i < z.length
    · rw [List.getElem?_append_left c, Nat.mod_eq_of_lt c]
    · rw [List.getElem?_append_right (by omega), rep_get z k (i - z.length) (by rw [Nat.succ_mul] at h; omega), Nat.mod_eq_sub_mod (a := i) (by omega)]
theorem rep_den {n : Nat} {z : List AC} {zc : Array Value} (hz : All2 (AC.den ρ n) z zc.toList) (k : Nat) :
    All2 (AC.den ρ n) (rep k z) ((Array.range (k * z.length)).map (zc[· % zc.size]!)).toList := by
  have hs := den_size hz
  refine All2.of (by simp [rep_len]) fun i x y hx hy => ?_
  have hi : i < k * z.length := by have := (List.getElem?_eq_some_iff.1 hx).1; rw [rep_len] at this; exact this
  rw [rep_get z k i hi] at hx
  obtain ⟨u, hu, hd⟩ := den_get hz _ _ hx
  simp only [Array.toList_map, List.getElem?_map, Array.toList_range, List.getElem?_range hi, Option.map_some, Option.some.injEq] at hy
  rw [← hs] at hu
  have : zc[i % zc.size]! = u := by rw [getElem!_def, hu]
  rw [← hy, this]; exact hd
theorem a_alloc {t : TypeId} (hH : HOK ρ H w) (h : actA P H ev ⟨dst, .alloc t, ty, pos, after, guard⟩ = some (r, H')) : Does P e ρ H w ⟨dst, .alloc t, ty, pos, after, guard⟩ r H' := by
  simp only [actA, Option.map_eq_some_iff, Prod.mk.injEq] at h
  obtain ⟨z, hz, rfl, rfl⟩ := h
  obtain ⟨i, v, hi, hzz, hd⟩ := zero_den hz ρ H.next
  obtain ⟨h1, h2⟩ := new_ok hH (w' := w.alloc (.cells v.cells t)) (b := ⟨z, t, true⟩) (cs := v.cells) (fz := (0, 0)) rfl rfl rfl rfl (.inl rfl) (by rw [den_size hd]; exact Nat.le_refl _) (fun _ => den_size hd) (den_get hd)
  refine ⟨.pointer (some ⟨w.heap.size, 0, none⟩), _, _, .inl ?_, ⟨Nat.lt_succ_self _, by simp [Rho.upd]⟩, h1, h2⟩
  simp [execOp, Instr.alloc, zeroValue, typeInfo, hi, hzz, newVar, newRow]
theorem a_box {t : TypeId} {x : Operand} (hH : HOK ρ H w) (h : actA P H ev ⟨dst, .box t x, ty, pos, after, guard⟩ = some (r, H')) (he : (ev x).den ρ H.next (e x)) :
    Does P e ρ H w ⟨dst, .box t x, ty, pos, after, guard⟩ r H' := by
  simp only [actA] at h
  split at h
  · rename_i a hx
    simp only [Option.some.injEq, Prod.mk.injEq] at h
    obtain ⟨rfl, rfl⟩ := h
    rw [hx] at he
    have hd := AV.den_cells he
    obtain ⟨h1, h2⟩ := new_ok hH (w' := w.alloc (.cells (e x).cells t)) (b := ⟨a.cells, t, true⟩) (cs := (e x).cells) (fz := (0, 0)) rfl rfl rfl rfl (.inl rfl) (by rw [den_size hd]; exact Nat.le_refl _) (fun _ => den_size hd) (den_get hd)
    refine ⟨.pointer (some ⟨w.heap.size, 0, none⟩), _, _, .inl ?_, ⟨Nat.lt_succ_self _, by simp [Rho.upd]⟩, h1, h2⟩
    simp [execOp, Instr.box, newVar, newRow]
  · simp at h
theorem a_buildSlice {t : TypeId} {len : Nat} {parts : Array (Nat × Operand)} (hH : HOK ρ H w) (h : actA P H ev ⟨dst, .buildSlice t len parts, ty, pos, after, guard⟩ = some (r, H'))
    (he : EvOK ρ H.next ev e (parts.toList.map (·.2))) : Does P e ρ H w ⟨dst, .buildSlice t len parts, ty, pos, after, guard⟩ r H' := by
  simp only [actA] at h
  split at h
  · rename_i el hu
    split at h
    · rename_i s z ps hs hz hps
      cases hb : (Nat.beq z.length s && Nat.ble (len * s) 16777216) with
      | false => simp only [hb, cond_false, reduceCtorEq] at h
      | true =>
        simp only [hb, cond_true, Option.map_eq_some_iff, Prod.mk.injEq] at h
        simp only [Bool.and_eq_true, Nat.beq_eq, Nat.ble_eq] at hb
        obtain ⟨l, hl, rfl, rfl⟩ := h
        obtain ⟨i, v, hi, hzz, hdz⟩ := zero_den hz ρ H.next
        have hsz : i.size = s := by simp [szOf, hi] at hs; exact hs
        have hrep := rep_den hdz len
        rw [hb.1] at hrep
        obtain ⟨cells, hfill, hd⟩ := fill_den (fun i => some (i * s, s)) ps _ (rep len z) l ((Array.range (len * s)).map (v.cells[· % v.cells.size]!)) hl hrep (parts_den hps he)
        obtain ⟨h1, h2⟩ := new_ok hH (w' := w.alloc (.cells cells el)) (b := ⟨l, el, true⟩) (cs := cells) (fz := (0, 0)) rfl rfl rfl rfl (.inl rfl) (by rw [den_size hd]; exact Nat.le_refl _) (fun _ => den_size hd) (den_get hd)
        refine ⟨.slice (some ⟨w.heap.size, 0, none⟩) len len, _, _, .inl ?_, ⟨Nat.lt_succ_self _, Nat.le_refl _, 0, len, by simp [Rho.upd], fun _ => by simp [Rho.upd], fun _ => rfl, fun hh => by simp at hh⟩, h1, h2⟩
        have hf : Instr.fill (fun i => some (i * s, s)) ((Array.range (len * s)).map (v.cells[· % v.cells.size]!)) (parts.map fun x => (x.1, e x.2)).toList = some cells := by simpa using hfill
        have hbig : ¬ len * s > 2 ^ 24 := by omega
        by_cases h0 : len * s = 0
        · rw [h0] at hf
          have he0 : (Array.range 0).map (v.cells[· % v.cells.size]!) = #[] := by simp
          rw [he0] at hf
          have hf' : Instr.fill (fun i => some (i * s, s)) #[] (parts.toList.map fun x => (x.1, e x.2)) = some cells := by simpa using hf
          have hr0 : Array.range 0 = #[] := rfl
          simp [execOp, Instr.buildSlice, run_underlying hu, run_size hs, h0, newRow, hf', hr0]
        · have hf' : Instr.fill (fun i => some (i * s, s)) ((Array.range (len * s)).map (v.cells[· % v.cells.size]!)) (parts.toList.map fun x => (x.1, e x.2)) = some cells := by simpa using hf
          simp [execOp, Instr.buildSlice, run_underlying hu, run_size hs, h0, hbig, zeroValue, typeInfo, hi, hzz, newRow, hf']
    · simp at h
  · simp at h
theorem a_makeSlice {t : TypeId} {l c : Operand} (hH : HOK ρ H w) (h : actA P H ev ⟨dst, .makeSlice t l c, ty, pos, after, guard⟩ = some (r, H'))
    (hel : (ev l).den ρ H.next (e l)) (hec : (ev c).den ρ H.next (e c)) : Does P e ρ H w ⟨dst, .makeSlice t l c, ty, pos, after, guard⟩ r H' := by
  simp only [actA] at h
  split at h
  · rename_i el ln cn hu hl hc
    obtain ⟨kl, hl⟩ := intArg_den hl hel
    obtain ⟨kc, hc⟩ := intArg_den hc hec
    split at h
    · rename_i s z by' hs hz hby
      cases hb : (Nat.ble ln cn && (Nat.blt cn 1000000 && (Nat.beq z.length s && Nat.ble (by' * cn) 140737488355328))) with
      | false => simp only [hb, cond_false, reduceCtorEq] at h
      | true =>
        simp only [hb, cond_true, Option.some.injEq, Prod.mk.injEq] at h
        simp only [Bool.and_eq_true, Nat.beq_eq, Nat.ble_eq, Nat.blt_eq] at hb
        obtain ⟨b1, b2, b3, b4⟩ := hb
        obtain ⟨rfl, rfl⟩ := h
        obtain ⟨i, v, hi, hzz, hdz⟩ := zero_den hz ρ H.next
        have hbyt : i.bytes = by' := by simp [hi] at hby; exact hby
        have hrep := rep_den hdz cn
        rw [b3] at hrep
        obtain ⟨h1, h2⟩ := new_ok hH (w' := w.alloc (.cells ((Array.range (cn * s)).map (v.cells[· % v.cells.size]!)) el)) (b := ⟨rep cn z, el, true⟩) (cs := (Array.range (cn * s)).map (v.cells[· % v.cells.size]!)) (fz := (0, 0))
          rfl rfl rfl rfl (.inl rfl) (by rw [den_size hrep]; exact Nat.le_refl _) (fun _ => den_size hrep) (den_get hrep)
        refine ⟨.slice (some ⟨w.heap.size, 0, none⟩) ln cn, _, _, .inl ?_, ⟨Nat.lt_succ_self _, b1, 0, cn, by simp [Rho.upd], fun _ => by simp [Rho.upd], fun _ => rfl, fun hh => by simp at hh⟩, h1, h2⟩
        have w1 : IntKind.i64.wrap (ln : Int) = ln := by simp [IntKind.wrap, IntKind.signed, IntKind.bits]; omega
        have w2 : IntKind.i64.wrap (cn : Int) = cn := by simp [IntKind.wrap, IntKind.signed, IntKind.bits]; omega
        have t1 : ¬ ((cn : Int) < 0) := by omega
        have t2 : ¬ (281474976710656 < (i.bytes : Int) * (cn : Int)) := by
          rw [hbyt, ← Int.natCast_mul]; omega
        have t3 : ¬ ((ln : Int) < 0) := by omega
        have t4 : ¬ ((ln : Int) > (cn : Int)) := by omega
        have run : (Instr.makeSlice t (e l) (e c)).run P w = .ok (.slice (some ⟨w.heap.size, 0, none⟩) ln cn) (w.alloc (.cells ((Array.range (cn * s)).map (v.cells[· % v.cells.size]!)) el)) := by
          have hsz : (sizeOf el).run P w = .ok s w := run_size hs w
          by_cases h0 : cn * s = 0
          · rw [h0]
            have hr0 : Array.range 0 = #[] := rfl
            simp [hr0, Instr.makeSlice, run_underlying hu, hl, hc, asInt, asIntOf, typeInfo, hi, w1, w2, t1, t2, t3, t4, hsz, h0, newRow]
          · simp [Instr.makeSlice, run_underlying hu, hl, hc, asInt, asIntOf, typeInfo, hi, w1, w2, t1, t2, t3, t4, hsz, h0, newRow, zeroValue, hzz]
        simp [execOp, run]
    · simp at h
  · simp at h
theorem a_store {t : TypeId} {a x : Operand} (hH : HOK ρ H w) (h : actA P H ev ⟨dst, .store t a x, ty, pos, after, guard⟩ = some (r, H'))
    (hea : (ev a).den ρ H.next (e a)) (hex : (ev x).den ρ H.next (e x)) : Does P e ρ H w ⟨dst, .store t a x, ty, pos, after, guard⟩ r H' := by
  simp only [actA] at h
  split at h
  · rename_i id off v ha hx
    rw [ha] at hea; rw [hx] at hex
    obtain ⟨hlt, hv⟩ := hea
    split at h
    · rename_i b k hb hs
      cases hc : (Nat.beq v.cells.length k && Nat.ble (off + k) b.cells.length) with
      | false => simp only [hc, cond_false, reduceCtorEq] at h
      | true =>
        simp only [hc, cond_true, Option.some.injEq, Prod.mk.injEq] at h
        simp only [Bool.and_eq_true, Nat.beq_eq, Nat.ble_eq] at hc
        obtain ⟨rfl, rfl⟩ := h
        have hd := AV.den_cells hex
        obtain ⟨w', hrun, h1, h2⟩ := put_ok (P := P) (off := off) hH hb hd (by omega)
        refine ⟨undef, w', ρ, .inr ⟨?_, rfl⟩, ⟨#[], rfl, trivial⟩, h1, h2⟩
        have hsz : (e x).cells.size = k := by rw [den_size hd]; exact hc.1
        simp [execOp, Instr.storeAt, hv, Instr.sureAddr, storeVar, run_size hs, hsz, hrun]
    · simp at h
  · simp at h
end
end Go.Proofs.YtbifklibdkjbeaaGreatDoor
