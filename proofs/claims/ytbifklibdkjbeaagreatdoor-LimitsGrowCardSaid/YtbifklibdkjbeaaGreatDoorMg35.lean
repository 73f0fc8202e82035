/-
  Several texts in one: Operations that make or write memory: what becomes of the two memories. No condition. Operations that make or write memory: each one. No condition. Appends: what becomes of the two memories. No condition. The append operation, and all operations that make or write memory. No condition.
-/
import Derived.Test.YtbifklibdkjbeaaGreatDoorMg34
import Derived.Laws.Append
import Derived.Deep.AppendSrc
namespace Go.Proofs.YtbifklibdkjbeaaGreatDoor
open Go.RowKit
set_option linter.unusedVariables false
set_option linter.unusedSimpArgs false
set_option maxRecDepth 100000
section
open Go
def Rho.upd (ρ : Rho) (i b o s : Nat) : Rho :=
 ⟨fun j => if j = i then b else ρ.blk j, fun j => if j = i then o else ρ.base j, fun j => if j = i then s else ρ.size j⟩
theorem Rho.upd_ext (ρ : Rho) (i b o s : Nat) : Ext ρ (ρ.upd i b o s) i :=
 ⟨fun j hj => if_neg (by omega), fun j hj => if_neg (by omega), fun j hj => if_neg (by omega)⟩
theorem AH.get_new (H : AH) (b : Blk) (i : Nat) : (H.new b).get i = if i = H.next then some b else H.get i := by show Tr.getR (H.heap.put H.next (some b)) i = _; rw [Tr.getR_eq]; unfold AH.get; rw [Tr.getR_eq]; exact Tr.get_put _ _ _ _
theorem AH.get_set (H : AH) (k : Nat) (b : Option Blk) (i : Nat) : (H.set k b).get i = if i = k then b else H.get i := by show Tr.getR (H.heap.put k b) i = _; rw [Tr.getR_eq]; unfold AH.get; rw [Tr.getR_eq]; exact Tr.get_put _ _ _ _
section
variable {P : Program} {ρ : Rho} {H : AH} {w : World}
theorem xiS (hH : HOK ρ H w) {w' : World} {b : Blk} {cs : Array Value} {fz : Nat × Nat} {g o : Nat}
 (hsz : w.heap.size ≤ w'.heap.size) (hoth : ∀ k, k < w.heap.size → k ≠ g → w'.heap[k]? = w.heap[k]?) (hg : w'.heap[g]? = some (.cells cs b.elem fz))
 (hfree : ∀ id b, H.get id = some b → ρ.blk id ≠ g)
 (hthaw : fz.1 = fz.2 ∨ cs.size ≤ fz.1) (hroom : o + b.cells.length ≤ cs.size) (hwh : b.whole = true → o = 0 ∧ cs.size = b.cells.length)
 (hden : ∀ (i : Nat) (x : AC), b.cells[i]? = some x → ∃ u, cs[o + i]? = some u ∧ x.den ρ H.next u) :
 HOK (ρ.upd H.next g o cs.size) (H.new b) w' where
 lt := fun id b' h => by
  rw [AH.get_new] at h
  split at h
  · subst_vars; exact Nat.lt_succ_self _
  exact Nat.lt_succ_of_lt (hH.lt id b' h)
 inj := fun id id' c c' h h' e => by
  rw [AH.get_new] at h h'
  simp only [Rho.upd] at e
  by_cases h1 : id = H.next <;> by_cases h2 : id' = H.next
  · rw [h1, h2]
  · simp only [h1, if_true, h2, if_false] at e h'
    exact absurd e.symm (hfree id' c' h')
  · simp only [h1, if_false, h2, if_true] at e h
    exact absurd e (hfree id c h)
  simp only [h1, h2, if_false] at e h h'
  exact hH.inj id id' c c' h h' e
 row := fun id c h => by
  rw [AH.get_new] at h
  have ext := Rho.upd_ext ρ H.next g o cs.size
  split at h
  · rename_i hid
    subst hid
    simp only [Option.some.injEq] at h; subst h
    refine ⟨cs, fz, by simpa [Rho.upd] using hg, by simp [Rho.upd], hthaw, by simpa [Rho.upd] using hroom, by simpa [Rho.upd] using hwh, fun i x hx => ?_⟩
    obtain ⟨u, hu, hd⟩ := hden i x hx
    exact ⟨u, by simpa [Rho.upd] using hu, AC.den_mono ext (Nat.le_succ _) x u hd⟩
  rename_i hid
  obtain ⟨cs', fz', hl⟩ := hH.row id c h
  have hlt := hH.lt id c h
  have hb : (ρ.upd H.next g o cs.size).blk id = ρ.blk id := ext.blk id hlt
  have hne : ρ.blk id ≠ g := hfree id c h
  refine ⟨cs', fz', ?_, by rw [ext.size id hlt]; exact hl.size, hl.thaw, by rw [ext.base id hlt]; exact hl.room, by rw [ext.base id hlt]; exact hl.whole, fun i x hx => ?_⟩
  · rw [hb, hoth _ (hH.lt_size h) hne]; exact hl.heap
  obtain ⟨u, hu, hd⟩ := hl.den i x hx
  exact ⟨u, by rw [ext.base id hlt]; exact hu, AC.den_mono ext (Nat.le_succ _) x u hd⟩
theorem xoc {w' : World} {b : Blk} {g o s : Nat} (hsz : w.heap.size ≤ w'.heap.size) (hos : w'.os = w.os) (hta : w'.tape = w.tape) (hou : w'.output = w.output)
 (hoth : ∀ k, k < w.heap.size → k ≠ g → w'.heap[k]? = w.heap[k]?) (hnew : w.heap.size ≤ g) (hH : HOK ρ H w) : Kp H ρ w (H.new b) (ρ.upd H.next g o s) w' where
 ext := Rho.upd_ext ρ H.next g o s
 next := Nat.le_succ _
 size := hsz
 os := hos
 tape := hta
 output := hou
 frame := fun k hk _ => hoth k hk (by omega)
 come := fun id c h => by
  rw [AH.get_new] at h
  split at h
  · rename_i hid; subst hid; left; simpa [Rho.upd] using hnew
  rename_i hid
  right; exact ⟨id, c, h, by simp [Rho.upd, hid]⟩
theorem xgP (hH : HOK ρ H w) {w' : World} {b : Blk} {cs : Array Value} {fz : Nat × Nat} (hh : w'.heap = w.heap.push (.cells cs b.elem fz)) (hos : w'.os = w.os) (hta : w'.tape = w.tape) (hou : w'.output = w.output)
 (hthaw : fz.1 = fz.2 ∨ cs.size ≤ fz.1) (hroom : b.cells.length ≤ cs.size) (hwh : b.whole = true → cs.size = b.cells.length)
 (hden : ∀ (i : Nat) (x : AC), b.cells[i]? = some x → ∃ u, cs[i]? = some u ∧ x.den ρ H.next u) :
 HOK (ρ.upd H.next w.heap.size 0 cs.size) (H.new b) w' ∧ Kp H ρ w (H.new b) (ρ.upd H.next w.heap.size 0 cs.size) w' := by
 have hoth : ∀ k, k < w.heap.size → k ≠ w.heap.size → w'.heap[k]? = w.heap[k]? := fun k hk _ => by
  rw [hh, Array.getElem?_push, if_neg (by omega)]
 have hsz : w.heap.size ≤ w'.heap.size := by rw [hh]; simp
 refine ⟨xiS hH hsz hoth (by rw [hh]; simp) (fun id c h => by have := hH.lt_size h; omega) hthaw (by omega) (fun h => ⟨rfl, hwh h⟩) (fun i x hx => ?_), xoc hsz hos hta hou hoth (Nat.le_refl _) hH⟩
 rw [Nat.zero_add]; exact hden i x hx
theorem xdM {ρ : Rho} {n : Nat} {l : List AC} {cs : Array Value} (h : All2 (AC.den ρ n) l cs.toList) : ∀ (i : Nat) (x : AC), l[i]? = some x → ∃ u, cs[i]? = some u ∧ x.den ρ n u := fun i x hx => by
 obtain ⟨u, hu, hd⟩ := h.get hx
 exact ⟨u, by simpa using hu, hd⟩
theorem xbj {ρ : Rho} {n : Nat} {l : List AC} {cs : Array Value} (h : All2 (AC.den ρ n) l cs.toList) : cs.size = l.length := by
 have := h.len; simpa using this.symm
theorem xof (hH : HOK ρ H w) (id : Nat) : HOK ρ (H.set id none) w ∧ Kp H ρ w (H.set id none) ρ w := by
 have sub : ∀ {i b}, (H.set id none).get i = some b → H.get i = some b := by
  intro i b h
  rw [AH.get_set] at h
  split at h
  · simp at h
  exact h
 exact ⟨⟨fun i b h => hH.lt i b (sub h), fun i j b c h h' e => hH.inj i j b c (sub h) (sub h') e, fun i b h => hH.row i b (sub h)⟩,
  ⟨.refl _ _, Nat.le_refl _, Nat.le_refl _, rfl, rfl, rfl, fun _ _ _ => rfl, fun i b h => .inr ⟨i, b, sub h, rfl⟩⟩⟩
theorem xdA (P : Program) (b o : Nat) (t : TypeId) (fz : Nat × Nat) : ∀ (vs : List Value) (i : Nat) (cur : Array Value) (w : World),
 w.heap[b]? = some (.cells cur t fz) → (fz.1 = fz.2 ∨ cur.size ≤ fz.1) → o + i + vs.length ≤ cur.size → (∀ v ∈ vs, v.oneCell' = true) →
 ∃ w' cur', (storeCells ⟨b, o, none⟩ vs i).run P w = .ok () w' ∧ w'.heap.size = w.heap.size ∧ w'.os = w.os ∧ w'.tape = w.tape ∧ w'.output = w.output ∧
  (∀ k, k ≠ b → w'.heap[k]? = w.heap[k]?) ∧ w'.heap[b]? = some (.cells cur' t fz) ∧ cur'.size = cur.size ∧
  ∀ k, cur'[k]? = if o + i ≤ k ∧ k < o + i + vs.length then vs[k - (o + i)]? else cur[k]?
 | [], i, cur, w, h, _, _, _ => ⟨w, cur, rfl, rfl, rfl, rfl, rfl, fun _ _ => rfl, h, rfl, fun k => by rw [if_neg (by simp)]⟩
 | v :: vs, i, cur, w, h, hf, hl, h1 => by
  simp only [List.length_cons] at hl
  have hlt : o + i < cur.size := by omega
  have hc : w.cell? ⟨b, o + i, none⟩ = some cur[o + i] := by simp [World.cell?, h, hlt]
  have hfr : w.frozen? ⟨b, o + i, none⟩ = false := by
   obtain ⟨lo, hi⟩ := fz
   simp only at hf
   simp only [World.frozen?, h]
   rw [Bool.and_eq_false_iff]
   simp only [decide_eq_false_iff_not]
   omega
  let w1 := w.setCell ⟨b, o + i, none⟩ v
  have hw1 : w1.heap[b]? = some (.cells (cur.setIfInBounds (o + i) v) t fz) := by
   show (w.heap.modify b _)[b]? = _
   rw [Array.getElem?_modify]; simp [h]
  have hoth : ∀ k, k ≠ b → w1.heap[k]? = w.heap[k]? := fun k hk => by
   show (w.heap.modify b _)[k]? = _
   rw [Array.getElem?_modify, if_neg (Ne.symm hk)]
  obtain ⟨w', cur', hrun, hs, hos, hta, hou, ho, hb, hcs, hk⟩ := xdA P b o t fz vs (i + 1) (cur.setIfInBounds (o + i) v) w1 hw1 (by simpa using hf) (by simp; omega) (fun u hu => h1 u (by simp [hu]))
  refine ⟨w', cur', ?_, hs.trans (by show (w.heap.modify b _).size = _; simp), hos, hta, hou, fun k hk => (ho k hk).trans (hoth k hk), hb, hcs.trans (by simp), fun k => ?_⟩
  · simp only [storeCells, Sem.run_bind, xcG]
    rw [run_store P w _ v .plain (h1 v (by simp)), hc]
    simp only [hfr]
    exact hrun
  rw [hk, Array.getElem?_setIfInBounds]
  simp only [List.length_cons]
  by_cases c1 : k = o + i
  · subst c1
    rw [if_neg (by omega), if_pos rfl, if_pos hlt, if_pos (by omega)]; simp
  by_cases c2 : o + (i + 1) ≤ k ∧ k < o + (i + 1) + vs.length
  · rw [if_pos c2, if_pos (by omega)]
    have : k - (o + i) = (k - (o + (i + 1))) + 1 := by omega
    rw [this]; simp
  rw [if_neg c2, if_neg (Ne.symm c1), if_neg (by omega)]
theorem xn5 (hH : HOK ρ H w) {id off : Nat} {b : Blk} (hb : H.get id = some b) {l : List AC} {vs : List Value} (hd : All2 (AC.den ρ H.next) l vs) (hlen : off + l.length ≤ b.cells.length) :
 ∃ w', (storeCells ⟨ρ.blk id, ρ.base id + off, none⟩ vs).run P w = .ok () w' ∧ HOK ρ (H.set id (some ⟨xcm b.cells off l, b.elem, b.whole⟩)) w' ∧
  Kp H ρ w (H.set id (some ⟨xcm b.cells off l, b.elem, b.whole⟩)) ρ w' := by
 obtain ⟨cs, fz, hl⟩ := hH.row id b hb
 have hroom := hl.room
 have hvl := hd.len
 have h1 : ∀ v ∈ vs, v.oneCell' = true := fun v hv => by
  obtain ⟨i, hi⟩ := List.mem_iff_getElem?.1 hv
  have : i < l.length := by have := (List.getElem?_eq_some_iff.1 hi).1; omega
  obtain ⟨u, hu, hdu⟩ := hd.get (List.getElem?_eq_getElem this)
  rw [hi] at hu; cases hu; exact AC.den_one hdu
 obtain ⟨w', cur', hrun, hs, hos, hta, hou, ho, hbk, hcs, hk⟩ := xdA P (ρ.blk id) (ρ.base id + off) b.elem fz vs 0 cs w hl.heap hl.thaw (by omega) h1
 have hsl : (xcm b.cells off l).length = b.cells.length := xjj hlen
 refine ⟨w', hrun, ⟨fun i c h => ?_, fun i j c c' h h' e => ?_, fun i c h => ?_⟩, .refl _ _, Nat.le_refl _, by omega, hos, hta, hou, fun k hk' hn => ho k (Ne.symm (hn id b hb)), fun i c h => ?_⟩
 · rw [AH.get_set] at h
   split at h
   · rename_i e; subst e; exact hH.lt _ b hb
   exact hH.lt i c h
 · rw [AH.get_set] at h h'
   have g1 : ∃ c, H.get i = some c := by
    split at h
    · rename_i e; subst e; exact ⟨b, hb⟩
    exact ⟨c, h⟩
   have g2 : ∃ c, H.get j = some c := by
    split at h'
    · rename_i e; subst e; exact ⟨b, hb⟩
    exact ⟨c', h'⟩
   obtain ⟨c1, g1⟩ := g1
   obtain ⟨c2, g2⟩ := g2
   exact hH.inj i j c1 c2 g1 g2 e
 · rw [AH.get_set] at h
   split at h
   · rename_i e; subst e
     simp only [Option.some.injEq] at h; subst h
     refine ⟨cur', fz, hbk, hcs.trans hl.size, by rw [hcs]; exact hl.thaw, by rw [hcs, hsl]; exact hl.room, fun hw => by rw [hcs, hsl]; exact hl.whole hw, fun k x hx => ?_⟩
     rw [hk]
     simp only [xem] at hx
     by_cases c1 : k < off
     · rw [List.getElem?_append_left (by simp; omega), List.getElem?_take, if_pos c1] at hx
       rw [if_neg (by omega)]
       exact hl.den k x hx
     rw [List.getElem?_append_right (by simp; omega)] at hx
     simp only [List.length_take] at hx
     have e1 : k - min off b.cells.length = k - off := by omega
     rw [e1] at hx
     by_cases c2 : k - off < l.length
     · rw [List.getElem?_append_left c2] at hx
       rw [if_pos (by omega)]
       obtain ⟨u, hu, hdu⟩ := hd.get hx
       refine ⟨u, ?_, hdu⟩
       have e2 : ρ.base i + k - (ρ.base i + off + 0) = k - off := by omega
       rw [e2]; exact hu
     rw [List.getElem?_append_right (by omega), List.getElem?_drop] at hx
     rw [if_neg (by omega)]
     have e2 : off + l.length + (k - off - l.length) = k := by omega
     rw [e2] at hx
     exact hl.den k x hx
   rename_i hne
   obtain ⟨cs', fz', hl'⟩ := hH.row i c h
   refine ⟨cs', fz', ?_, hl'.size, hl'.thaw, hl'.room, hl'.whole, hl'.den⟩
   rw [ho _ (fun e => hne (hH.inj i id c b h hb e))]
   exact hl'.heap
 rw [AH.get_set] at h
 split at h
 · rename_i e; subst e; exact .inr ⟨i, b, hb, rfl⟩
 exact .inr ⟨i, c, h, rfl⟩
end
end
section
open Go
section
variable {P : Program} {ρ : Rho} {H : AH} {w : World} {e : Operand → Value} {ev : Ev}
variable {dst : Option Tmp} {ty : TypeId} {pos : String} {after : Array Edge} {guard : Option (Nat × Bool)} {r : AR} {H' : AH}
def Does (P : Program) (e : Operand → Value) (ρ : Rho) (H : AH) (w : World) (o : Oper) (r : AR) (H' : AH) : Prop :=
 ∃ v w' ρ', ((execOp e o).run P w = .ok (.value v) w' ∨ ((execOp e o).run P w = .ok .skip w' ∧ v = undef)) ∧ r.den ρ' H'.next v ∧ HOK ρ' H' w' ∧ Kp H ρ w H' ρ' w'
theorem xkR (k : Nat) (z : List AC) : (rep k z).length = k * z.length := by
 induction k with
 | zero => simp [rep]
 | succ k ih => simp [rep, ih, Nat.succ_mul]; omega
theorem xkS (z : List AC) : ∀ (k i : Nat), i < k * z.length → (rep k z)[i]? = z[i % z.length]?
 | 0, i, h => by simp at h
 | k + 1, i, h => by
  simp only [rep]
  by_cases c : i < z.length
  · rw [List.getElem?_append_left c, Nat.mod_eq_of_lt c]
  rw [List.getElem?_append_right (by omega), xkS z k (i - z.length) (by rw [Nat.succ_mul] at h; omega), Nat.mod_eq_sub_mod (a := i) (by omega)]
theorem xkT {n : Nat} {z : List AC} {zc : Array Value} (hz : All2 (AC.den ρ n) z zc.toList) (k : Nat) :
 All2 (AC.den ρ n) (rep k z) ((Array.range (k * z.length)).map (zc[· % zc.size]!)).toList := by
 have hs := xbj hz
 refine All2.of (by simp [xkR]) fun i x y hx hy => ?_
 have hi : i < k * z.length := by have := (List.getElem?_eq_some_iff.1 hx).1; rw [xkR] at this; exact this
 rw [xkS z k i hi] at hx
 obtain ⟨u, hu, hd⟩ := xdM hz _ _ hx
 simp only [Array.toList_map, List.getElem?_map, Array.toList_range, List.getElem?_range hi, Option.map_some, Option.some.injEq] at hy
 rw [← hs] at hu
 have : zc[i % zc.size]! = u := by rw [getElem!_def, hu]
 rw [← hy, this]; exact hd
theorem a_alloc {t : TypeId} (hH : HOK ρ H w) (h : actA P H ev ⟨dst, .alloc t, ty, pos, after, guard⟩ = some (r, H')) : Does P e ρ H w ⟨dst, .alloc t, ty, pos, after, guard⟩ r H' := by
 simp only [actA, Option.map_eq_some_iff, Prod.mk.injEq] at h
 obtain ⟨z, hz, rfl, rfl⟩ := h
 obtain ⟨i, v, hi, hzz, hd⟩ := xc hz ρ H.next
 obtain ⟨h1, h2⟩ := xgP hH (w' := w.alloc (.cells v.cells t)) (b := ⟨z, t, true⟩) (cs := v.cells) (fz := (0, 0)) rfl rfl rfl rfl (.inl rfl) (by rw [xbj hd]; exact Nat.le_refl _) (fun _ => xbj hd) (xdM hd)
 refine ⟨.pointer (some ⟨w.heap.size, 0, none⟩), _, _, .inl ?_, ⟨Nat.lt_succ_self _, by simp [Rho.upd]⟩, h1, h2⟩
 simp [execOp, Instr.alloc, zeroValue, typeInfo, hi, hzz, newVar, newRow]
theorem a_box {t : TypeId} {x : Operand} (hH : HOK ρ H w) (h : actA P H ev ⟨dst, .box t x, ty, pos, after, guard⟩ = some (r, H')) (he : (ev x).den ρ H.next (e x)) :
 Does P e ρ H w ⟨dst, .box t x, ty, pos, after, guard⟩ r H' := by
 simp only [actA] at h
 split at h
 · rename_i a hx
   simp only [Option.some.injEq, Prod.mk.injEq] at h
   obtain ⟨rfl, rfl⟩ := h
   rw [hx] at he
   have hd := AV.den_cells he
   obtain ⟨h1, h2⟩ := xgP hH (w' := w.alloc (.cells (e x).cells t)) (b := ⟨a.cells, t, true⟩) (cs := (e x).cells) (fz := (0, 0)) rfl rfl rfl rfl (.inl rfl) (by rw [xbj hd]; exact Nat.le_refl _) (fun _ => xbj hd) (xdM hd)
   refine ⟨.pointer (some ⟨w.heap.size, 0, none⟩), _, _, .inl ?_, ⟨Nat.lt_succ_self _, by simp [Rho.upd]⟩, h1, h2⟩
   simp [execOp, Instr.box, newVar, newRow]
 simp at h
theorem xhq {t : TypeId} {len : Nat} {parts : Array (Nat × Operand)} (hH : HOK ρ H w) (h : actA P H ev ⟨dst, .buildSlice t len parts, ty, pos, after, guard⟩ = some (r, H'))
 (he : EvOK ρ H.next ev e (parts.toList.map (·.2))) : Does P e ρ H w ⟨dst, .buildSlice t len parts, ty, pos, after, guard⟩ r H' := by
 simp only [actA] at h
 split at h
 · rename_i el hu
   split at h
   · rename_i s z ps hs hz hps
     cases hb : (Nat.beq z.length s && Nat.ble (len * s) 16777216) with
     | false => simp only [hb, cond_false, reduceCtorEq] at h
     | true =>
      simp only [hb, cond_true, Option.map_eq_some_iff, Prod.mk.injEq] at h
      simp only [Bool.and_eq_true, Nat.beq_eq, Nat.ble_eq] at hb
      obtain ⟨l, hl, rfl, rfl⟩ := h
      obtain ⟨i, v, hi, hzz, hdz⟩ := xc hz ρ H.next
      have hsz : i.size = s := by simp [szOf, hi] at hs; exact hs
      have hrep := xkT hdz len
      rw [hb.1] at hrep
      obtain ⟨cells, hfill, hd⟩ := xgb (fun i => some (i * s, s)) ps _ (rep len z) l ((Array.range (len * s)).map (v.cells[· % v.cells.size]!)) hl hrep (xeA hps he)
      obtain ⟨h1, h2⟩ := xgP hH (w' := w.alloc (.cells cells el)) (b := ⟨l, el, true⟩) (cs := cells) (fz := (0, 0)) rfl rfl rfl rfl (.inl rfl) (by rw [xbj hd]; exact Nat.le_refl _) (fun _ => xbj hd) (xdM hd)
      refine ⟨.slice (some ⟨w.heap.size, 0, none⟩) len len, _, _, .inl ?_, ⟨Nat.lt_succ_self _, Nat.le_refl _, 0, len, by simp [Rho.upd], fun _ => by simp [Rho.upd], fun _ => rfl, fun hh => by simp at hh⟩, h1, h2⟩
      have hf : Instr.fill (fun i => some (i * s, s)) ((Array.range (len * s)).map (v.cells[· % v.cells.size]!)) (parts.map fun x => (x.1, e x.2)).toList = some cells := by simpa using hfill
      have hbig : ¬ len * s > 2 ^ 24 := by omega
      by_cases h0 : len * s = 0
      · rw [h0] at hf
        have he0 : (Array.range 0).map (v.cells[· % v.cells.size]!) = #[] := by simp
        rw [he0] at hf
        have hf' : Instr.fill (fun i => some (i * s, s)) #[] (parts.toList.map fun x => (x.1, e x.2)) = some cells := by simpa using hf
        have hr0 : Array.range 0 = #[] := rfl
        simp [execOp, Instr.buildSlice, run_underlying hu, xaT hs, h0, newRow, hf', hr0]
      have hf' : Instr.fill (fun i => some (i * s, s)) ((Array.range (len * s)).map (v.cells[· % v.cells.size]!)) (parts.toList.map fun x => (x.1, e x.2)) = some cells := by simpa using hf
      simp [execOp, Instr.buildSlice, run_underlying hu, xaT hs, h0, hbig, zeroValue, typeInfo, hi, hzz, newRow, hf']
   simp at h
 simp at h
theorem xig {t : TypeId} {l c : Operand} (hH : HOK ρ H w) (h : actA P H ev ⟨dst, .makeSlice t l c, ty, pos, after, guard⟩ = some (r, H'))
 (hel : (ev l).den ρ H.next (e l)) (hec : (ev c).den ρ H.next (e c)) : Does P e ρ H w ⟨dst, .makeSlice t l c, ty, pos, after, guard⟩ r H' := by
 simp only [actA] at h
 split at h
 · rename_i el ln cn hu hl hc
   obtain ⟨kl, hl⟩ := xb8 hl hel
   obtain ⟨kc, hc⟩ := xb8 hc hec
   split at h
   · rename_i s z by' hs hz hby
     cases hb : (Nat.ble ln cn && (Nat.blt cn 1000000 && (Nat.beq z.length s && Nat.ble (by' * cn) 140737488355328))) with
     | false => simp only [hb, cond_false, reduceCtorEq] at h
     | true =>
      simp only [hb, cond_true, Option.some.injEq, Prod.mk.injEq] at h
      simp only [Bool.and_eq_true, Nat.beq_eq, Nat.ble_eq, Nat.blt_eq] at hb
      obtain ⟨b1, b2, b3, b4⟩ := hb
      obtain ⟨rfl, rfl⟩ := h
      obtain ⟨i, v, hi, hzz, hdz⟩ := xc hz ρ H.next
      have hbyt : i.bytes = by' := by simp [hi] at hby; exact hby
      have hrep := xkT hdz cn
      rw [b3] at hrep
      obtain ⟨h1, h2⟩ := xgP hH (w' := w.alloc (.cells ((Array.range (cn * s)).map (v.cells[· % v.cells.size]!)) el)) (b := ⟨rep cn z, el, true⟩) (cs := (Array.range (cn * s)).map (v.cells[· % v.cells.size]!)) (fz := (0, 0))
       rfl rfl rfl rfl (.inl rfl) (by rw [xbj hrep]; exact Nat.le_refl _) (fun _ => xbj hrep) (xdM hrep)
      refine ⟨.slice (some ⟨w.heap.size, 0, none⟩) ln cn, _, _, .inl ?_, ⟨Nat.lt_succ_self _, b1, 0, cn, by simp [Rho.upd], fun _ => by simp [Rho.upd], fun _ => rfl, fun hh => by simp at hh⟩, h1, h2⟩
      have w1 : IntKind.i64.wrap (ln : Int) = ln := by simp [IntKind.wrap, IntKind.signed, IntKind.bits]; omega
      have w2 : IntKind.i64.wrap (cn : Int) = cn := by simp [IntKind.wrap, IntKind.signed, IntKind.bits]; omega
      have t1 : ¬ ((cn : Int) < 0) := by omega
      have t2 : ¬ (281474976710656 < (i.bytes : Int) * (cn : Int)) := by
       rw [hbyt, ← Int.natCast_mul]; omega
      have t3 : ¬ ((ln : Int) < 0) := by omega
      have t4 : ¬ ((ln : Int) > (cn : Int)) := by omega
      have run : (Instr.makeSlice t (e l) (e c)).run P w = .ok (.slice (some ⟨w.heap.size, 0, none⟩) ln cn) (w.alloc (.cells ((Array.range (cn * s)).map (v.cells[· % v.cells.size]!)) el)) := by
       have hsz : (sizeOf el).run P w = .ok s w := xaT hs w
       by_cases h0 : cn * s = 0
       · rw [h0]
         have hr0 : Array.range 0 = #[] := rfl
         simp [hr0, Instr.makeSlice, run_underlying hu, hl, hc, asInt, asIntOf, typeInfo, hi, w1, w2, t1, t2, t3, t4, hsz, h0, newRow]
       simp [Instr.makeSlice, run_underlying hu, hl, hc, asInt, asIntOf, typeInfo, hi, w1, w2, t1, t2, t3, t4, hsz, h0, newRow, zeroValue, hzz]
      simp [execOp, run]
   simp at h
 simp at h
theorem a_store {t : TypeId} {a x : Operand} (hH : HOK ρ H w) (h : actA P H ev ⟨dst, .store t a x, ty, pos, after, guard⟩ = some (r, H'))
 (hea : (ev a).den ρ H.next (e a)) (hex : (ev x).den ρ H.next (e x)) : Does P e ρ H w ⟨dst, .store t a x, ty, pos, after, guard⟩ r H' := by
 simp only [actA] at h
 split at h
 · rename_i id off v ha hx
   rw [ha] at hea; rw [hx] at hex
   obtain ⟨hlt, hv⟩ := hea
   split at h
   · rename_i b k hb hs
     cases hc : (Nat.beq v.cells.length k && Nat.ble (off + k) b.cells.length) with
     | false => simp only [hc, cond_false, reduceCtorEq] at h
     | true =>
      simp only [hc, cond_true, Option.some.injEq, Prod.mk.injEq] at h
      simp only [Bool.and_eq_true, Nat.beq_eq, Nat.ble_eq] at hc
      obtain ⟨rfl, rfl⟩ := h
      have hd := AV.den_cells hex
      obtain ⟨w', hrun, h1, h2⟩ := xn5 (P := P) (off := off) hH hb hd (by omega)
      refine ⟨undef, w', ρ, .inr ⟨?_, rfl⟩, ⟨#[], rfl, trivial⟩, h1, h2⟩
      have hsz : (e x).cells.size = k := by rw [xbj hd]; exact hc.1
      simp [execOp, Instr.storeAt, hv, Instr.sureAddr, storeVar, xaT hs, hsz, hrun]
   simp at h
 simp at h
end
end
section
open Go
section
variable {P : Program} {ρ : Rho} {H : AH} {w : World} {e : Operand → Value} {ev : Ev}
variable {dst : Option Tmp} {ty : TypeId} {pos : String} {after : Array Edge} {guard : Option (Nat × Bool)} {r : AR} {H' : AH}
theorem HOK.drawn (h : HOK ρ H w) (d : Nat) : HOK ρ H { w with drawn := d } := ⟨h.lt, h.inj, fun id b hb => let ⟨cs, fz, hl⟩ := h.row id b hb; ⟨cs, fz, hl.heap, hl.size, hl.thaw, hl.room, hl.whole, hl.den⟩⟩
theorem xfE {u : TypeId} (h : xnq P u = true) : (∃ e', P.underlying u = some (.slice e')) ∨ P.underlying u = some .string := by
 unfold xnq at h
 split at h
 · rename_i hu; exact .inl ⟨_, hu⟩
 · rename_i hu; exact .inr hu
 simp at h
theorem ones_of {n : Nat} {l : List AC} {vs : List Value} (h : All2 (AC.den ρ n) l vs) : ∀ v ∈ vs, v.oneCell' = true := fun v hv => by
 obtain ⟨i, hi⟩ := List.mem_iff_getElem?.1 hv
 have : i < l.length := by have := (List.getElem?_eq_some_iff.1 hi).1; have := h.len; omega
 obtain ⟨u, hu, hdu⟩ := h.get (List.getElem?_eq_getElem this)
 rw [hi] at hu; cases hu; exact AC.den_one hdu
theorem xf7 {n : Nat} {x : AR} {u : Value} {k : Nat} (h : lenA x = some n) (hd : x.den ρ k u) (w' : World) : (Builtin.lenOf u).run P w' = .ok n w' := by
 unfold lenA at h
 split at h
 · simp only [Option.some.injEq] at h; subst h
   obtain ⟨_, _, o, c, hv, _⟩ := hd; rw [hv]; rfl
 · simp only [Option.some.injEq] at h; subst h; rw [show u = _ from hd.1]; rfl
 · simp only [Option.some.injEq] at h; subst h; rw [show u = _ from hd.1]; rfl
 simp at h
theorem src_of {tx : TypeId} {n size : Nat} {x : AR} {u : Value} {l : List AC} (hH : HOK ρ H w) (hk : xnq P tx = true) (hn : lenA x = some n) (h : xcr H n size x = some l) (hl : l.length = n * size)
 (hd : x.den ρ H.next u) : ∃ vs : List Value, Src P size tx u n vs w ∧ All2 (AC.den ρ H.next) l vs := by
 obtain ⟨vs, hdv, hor⟩ := xio (P := P) hH h hd
 have hlen := hdv.len
 have hfc : ∀ d, (Builtin.firstCells size n u).run P { w with drawn := d } = .ok vs.toArray { w with drawn := d } := by
  intro d
  rcases hor with ⟨a, len, c, hv, hle, hrun⟩ | ⟨len, c, hv, h0, hvs⟩ | ⟨s, hv, hs, hvs⟩
  · rw [hv]; exact hrun d
  · rw [hv, hvs]; rfl
  rw [hv, hvs, hs]
  simp only [Builtin.firstCells, Sem.run_pure]
  congr 1
  apply Array.ext'
  have : s.extract 0 s.size = s := by
   apply ByteArray.ext; simp
  simp [this]
 exact ⟨vs, ⟨xfE hk, fun w' => xf7 hn hd w', hfc w.drawn, hfc (w.drawn + 1), by omega, ones_of hdv⟩, hdv⟩
theorem xbz {t tx el : TypeId} {i : TypeInfo} (ht : P.underlying t = some (.slice el)) (hi : P.info? el = some i) (base : Option Addr) (len cap : Nat) (x : Value) (n : Nat) (news : List Value) (hs : Src P i.size tx x n news w)
 (hroom : len + n ≤ cap) {w' : World} (hst : ∀ a, base = some a → (storeCells (a.add (len * i.size)) news).run P w = .ok () w') (hno : base = none → w' = w) :
 (Builtin.append_ #[t, tx] ty #[.slice base len cap, x]).run P w = .ok (.slice base (len + n) cap) w' := by
 cases base with
 | none =>
  obtain rfl := hno rfl
  rcases hs.kind with ⟨e', hk⟩ | hk <;> simp [Builtin.append_, run_underlying ht, run_underlying hk, sizeOf, typeInfo, hi, hs.len, hroom, hs.cells]
 | some a =>
  have hst := hst a rfl
  rcases hs.kind with ⟨e', hk⟩ | hk <;> simp [Builtin.append_, run_underlying ht, run_underlying hk, sizeOf, typeInfo, hi, hs.len, hroom, hs.cells, hst]
theorem xiY (hH : HOK ρ H w) {b : Blk} {olds news : List Value} {zs : Array Value} (hwh : b.whole = false) (hd : All2 (AC.den ρ H.next) b.cells (olds ++ news)) :
 HOK (ρ.upd H.next w.heap.size 0 ((olds ++ news).toArray ++ zs).size) (H.new b) (w.drew.alloc (.cells ((olds ++ news).toArray ++ zs) b.elem)) ∧
  Kp H ρ w (H.new b) (ρ.upd H.next w.heap.size 0 ((olds ++ news).toArray ++ zs).size) (w.drew.alloc (.cells ((olds ++ news).toArray ++ zs) b.elem)) := by
 have hlen := hd.len
 refine xgP hH (fz := (0, 0)) rfl rfl rfl rfl (.inl rfl) (by simp at hlen ⊢; omega) (fun h => by rw [hwh] at h; simp at h) fun k x hx => ?_
 obtain ⟨u, hu, hdu⟩ := hd.get hx
 refine ⟨u, ?_, hdu⟩
 have hk : k < (olds ++ news).length := (List.getElem?_eq_some_iff.1 hu).1
 rw [Array.getElem?_append_left (by simpa using hk)]
 simpa using hu
end
end
section
open Go
section
variable {P : Program} {ρ : Rho} {H : AH} {w : World} {e : Operand → Value} {ev : Ev}
variable {dst : Option Tmp} {ty : TypeId} {pos : String} {after : Array Edge} {guard : Option (Nat × Bool)} {r : AR} {H' : AH}
theorem xic {x y : Operand} {t u : TypeId} : execOp e ⟨dst, .call ⟨.builtin .append, #[x, y], #[t, u]⟩, ty, pos, after, guard⟩ = (do pure (.value (← Builtin.append_ #[t, u] ty #[e x, e y]))) := by
 simp [execOp, resolve, invoke, builtin]
theorem over_ok {t tx el : TypeId} {i : TypeInfo} {z : Value} (hH : HOK ρ H w) (ht : P.underlying t = some (.slice el)) (hi : P.info? el = some i) (hz : i.zero = some z)
 {id off len cp n : Nat} {b : Blk} (hb : H.get id = some b) {s u : Value} (hsl : (AC.sl id off len cp i.size false).den ρ H.next s)
 {old new : List AC} {news : List Value} (hs : Src P i.size tx u n news w) (hdn : All2 (AC.den ρ H.next) new news) (hn : 0 < n)
 (hold : cut b.cells off (len * i.size) = some old) (hoff : off + len * i.size = b.cells.length) (hel : b.elem = el)
 (hzc : z.cells.size = i.size) (hby : (len + n) * i.bytes ≤ 1099511627776) (hsm : len + n < 2 ^ 62) :
 ∃ v w' ρ', (Builtin.append_ #[t, tx] ty #[s, u]).run P w = .ok v w' ∧
  (AC.sl H.next 0 (len + n) (len + n) i.size false).den ρ' (H.next + 1) v ∧ HOK ρ' ((H.set id none).new ⟨old ++ new, el, false⟩) w' ∧
  Kp H ρ w ((H.set id none).new ⟨old ++ new, el, false⟩) ρ' w' := by
 obtain ⟨hlt, hlc, o, c, rfl, ho, _, hx⟩ := hsl
 obtain ⟨hcc, hsz⟩ := hx rfl
 obtain ⟨hD, hK⟩ := xof hH id
 obtain ⟨cs, fz, hl⟩ := hH.row id b hb
 have hnl := hs.newsLen
 have hol := xc6 hold
 by_cases hfit : len + n ≤ c
 · have hc0 : c ≠ 0 := by omega
   have hoe := ho hc0
   subst hoe
   have hmul : (len + n) * i.size ≤ c * i.size := Nat.mul_le_mul_right _ hfit
   rw [Nat.add_mul] at hmul
   have hcs := hl.size
   obtain ⟨w', cur', hrun, hs1, hos, hta, hou, hoth, hbk, hcur, hk⟩ := xdA P (ρ.blk id) (ρ.base id + off + len * i.size) b.elem fz news 0 cs w hl.heap hl.thaw (by omega) hs.one
   have hap := xbz (P := P) (ty := ty) ht hi (some ⟨ρ.blk id, ρ.base id + off, none⟩) len c u n news hs hfit (w' := w') (fun a ha => by cases ha; rw [xcG]; exact hrun) (fun h => by cases h)
   have hothk : ∀ k, k < w.heap.size → k ≠ ρ.blk id → w'.heap[k]? = w.heap[k]? := fun k _ hk => hoth k hk
   have hfree : ∀ id' b', (H.set id none).get id' = some b' → ρ.blk id' ≠ ρ.blk id := fun id' b' h' e => by
    rw [AH.get_set] at h'
    split at h'
    · simp at h'
    rename_i hne; exact hne (hH.inj id' id b' b h' hb e)
   have hlen2 : (old ++ new).length = (len + n) * i.size := by rw [List.length_append, hol, hdn.len, hnl, Nat.add_mul]
   have hdold : ∀ k x, old[k]? = some x → ∃ v, cs[ρ.base id + off + k]? = some v ∧ x.den ρ H.next v := fun k x hx => by
    have hk' : k < len * i.size := by have := (List.getElem?_eq_some_iff.1 hx).1; omega
    have hoc : b.cells[off + k]? = some x := by
     unfold cut at hold
     cases hq : Nat.beq ((b.cells.drop off).take (len * i.size)).length (len * i.size) with
     | false => simp only [hq, cond_false, reduceCtorEq] at hold
     | true =>
      simp only [hq, cond_true, Option.some.injEq] at hold
      rw [← hold, List.getElem?_take, if_pos hk', List.getElem?_drop] at hx
      exact hx
    obtain ⟨v, hv, hd⟩ := hl.den _ _ hoc
    exact ⟨v, by rw [Nat.add_assoc]; exact hv, hd⟩
   refine ⟨_, w', ρ.upd H.next (ρ.blk id) (ρ.base id + off) cur'.size, hap, ⟨Nat.lt_succ_self _, Nat.le_refl _, ρ.base id + off, c, by simp [Rho.upd], fun _ => by simp [Rho.upd], fun h => by simp at h, fun _ => ⟨hfit, by simp [Rho.upd]; omega⟩⟩, ?_, ?_⟩
   · refine xiS hD (by omega) hothk (by rw [← hel]; exact hbk) hfree (by rw [hcur]; exact hl.thaw) (by rw [hlen2, hcur, Nat.add_mul]; omega) (fun h => by simp at h) fun k x hx => ?_
     simp only at hx
     rw [hk]
     by_cases c1 : k < len * i.size
     · rw [List.getElem?_append_left (by omega)] at hx
       rw [if_neg (by omega)]
       exact hdold k x hx
     rw [List.getElem?_append_right (by omega), hol] at hx
     obtain ⟨v, hv, hd⟩ := hdn.get hx
     have : k - len * i.size < news.length := (List.getElem?_eq_some_iff.1 hv).1
     rw [if_pos (by omega)]
     have e2 : ρ.base id + off + k - (ρ.base id + off + len * i.size + 0) = k - len * i.size := by omega
     exact ⟨v, by rw [e2]; exact hv, hd⟩
   refine ⟨Rho.upd_ext _ _ _ _ _, Nat.le_succ _, by omega, hos, hta, hou, fun k hk' hn' => hoth k (Ne.symm (hn' id b hb)), fun id' b' h' => ?_⟩
   rw [AH.get_new] at h'
   split at h'
   · rename_i hid
     have hid : id' = H.next := hid
     exact .inr ⟨id, b, hb, by simp [Rho.upd, hid]⟩
   rename_i hid
   have hid : ¬ id' = H.next := hid
   rw [AH.get_set] at h'
   split at h'
   · simp at h'
   exact .inr ⟨id', b', h', by simp [Rho.upd, hid]⟩
 have hdold : ∃ olds : List Value, (∀ d, (Builtin.firstCells i.size len (.slice (some ⟨ρ.blk id, o, none⟩) len c)).run P { w with drawn := d } = .ok olds.toArray { w with drawn := d }) ∧ All2 (AC.den ρ H.next) old olds := by
  obtain ⟨olds, hrun, hdo, _⟩ := xly (P := P) hH hb hold
  refine ⟨olds, fun d => ?_, hdo⟩
  by_cases hc0 : c = 0
  · have hl0 : len = 0 := by omega
    subst hl0
    have : old = [] := List.eq_nil_of_length_eq_zero (by omega)
    subst this
    have : olds = [] := List.eq_nil_of_length_eq_zero (by have := hdo.len; simpa using this.symm)
    subst this
    simp [Builtin.firstCells, loadCells, loadCellsFrom]
  rw [ho hc0]; exact hrun d
 obtain ⟨olds, hrun, hdo⟩ := hdold
 have hgr := run_append_grow_src (P := P) w t tx ty el i z ht hi hz (some ⟨ρ.blk id, o, none⟩) len c olds (hrun (w.drawn + 1)) u n news hs (by omega) (by omega) (growslice_fits (by omega) (by omega))
 have hge := grownCap_ge w (len + n) c el
 obtain ⟨h1, h2⟩ := xiY (zs := Builtin.zeroCells z.cells (grownCap w (len + n) c el - (len + n))) hD (b := ⟨old ++ new, el, false⟩) rfl (hdo.app hdn)
 refine ⟨_, _, _, hgr, ⟨Nat.lt_succ_self _, Nat.le_refl _, 0, _, by simp [Rho.upd, AH.set_next], fun _ => by simp [Rho.upd, AH.set_next], fun h => by simp at h, fun _ => ⟨hge, ?_⟩⟩, h1, hK.trans h2⟩
 have ho2 : olds.length = len * i.size := by rw [← hdo.len]; exact hol
 simp only [Rho.upd, AH.set_next, if_true, Array.size_append, List.size_toArray, List.length_append, size_zeroCells, ho2, hnl]
 rw [Nat.zero_add, ← Nat.add_mul]
 rw [hzc, ← Nat.add_mul]
 have : len + n + (grownCap w (len + n) c el - (len + n)) = grownCap w (len + n) c el := by omega
 rw [this]; exact Nat.le_refl _
theorem xhx {n size : Nat} {x : AR} {l : List AC} (h : xcr H n size x = some l) : l.length = n * size := by
 unfold xcr at h
 split at h
 · rename_i id off len cp es ex
   cases hb : (Nat.ble n len && Nat.beq es size) with
   | false => simp only [hb, cond_false, reduceCtorEq] at h
   | true =>
    simp only [hb, cond_true] at h
    cases hg : H.get id with
    | none => simp [hg] at h
    | some b => simp only [hg, Option.bind_some] at h; exact xc6 h
 · cases hb : Nat.beq n 0 with
   | false => simp only [hb, cond_false, reduceCtorEq] at h
   | true =>
    simp only [hb, cond_true, Option.some.injEq] at h; subst h
    rw [Nat.eq_of_beq_eq_true hb]; simp
 · rename_i s
   cases hb : (Nat.beq n s.size && Nat.beq size 1) with
   | false => simp only [hb, cond_false, reduceCtorEq] at h
   | true =>
    simp only [hb, cond_true, Option.some.injEq] at h; subst h
    simp only [Bool.and_eq_true] at hb
    rw [Nat.eq_of_beq_eq_true hb.1, Nat.eq_of_beq_eq_true hb.2]; simp
 simp at h
theorem xnX {args : Array Operand} {ats : Array TypeId} (hH : HOK ρ H w) (h : actA P H ev ⟨dst, .call ⟨.builtin .append, args, ats⟩, ty, pos, after, guard⟩ = some (r, H'))
 (he : EvOK ρ H.next ev e args.toList) : Does P e ρ H w ⟨dst, .call ⟨.builtin .append, args, ats⟩, ty, pos, after, guard⟩ r H' := by
 simp only [actA] at h
 split at h
 · rename_i t u s x hats hargs
   obtain ⟨p, q, hpq⟩ : ∃ p q, args.toList = [p, q] := by
    cases hl : args.toList with
    | nil => simp [hl] at hargs
    | cons p l => cases l with
     | nil => simp [hl] at hargs
     | cons q l => cases l with
      | nil => exact ⟨p, q, rfl⟩
      | cons _ _ => simp [hl] at hargs
   rw [hpq] at hargs he
   simp only [List.map_cons, List.map_nil, List.cons.injEq, and_true] at hargs
   obtain ⟨hp, hq⟩ := hargs
   have hep := he p (by simp)
   have heq := he q (by simp)
   rw [hp] at hep; rw [hq] at heq
   have hA : args = #[p, q] := Array.toList_inj.1 (by simpa using hpq)
   have hT : ats = #[t, u] := Array.toList_inj.1 (by simpa using hats)
   subst hA; subst hT
   clear hpq hats
   unfold Does
   rw [xic]
   have fin : ∀ {v w'}, (Builtin.append_ #[t, u] ty #[e p, e q]).run P w = .ok v w' → (do pure (Next.value (← Builtin.append_ #[t, u] ty #[e p, e q]))).run P w = .ok (.value v) w' := by
    intro v w' hh; simp [hh]
   split at h
   · rename_i el ht hsrc
     split at h
     · rename_i size n bytes hs hn hby
       have hinfo : ∃ i, P.info? el = some i ∧ i.size = size ∧ i.bytes = bytes := by
        simp only [szOf, Option.map_eq_some_iff] at hs hby
        obtain ⟨i, hi, h1⟩ := hs
        obtain ⟨j, hj, h2⟩ := hby
        rw [hi] at hj; cases hj
        exact ⟨i, hi, h1, h2⟩
       obtain ⟨i, hi, rfl, rfl⟩ := hinfo
       split at h
       · -- nothing is appended
         have hS : Src P i.size u (e q) 0 [] w := by
          refine ⟨xfE hsrc, fun w' => xf7 hn heq w', ?_, ?_, by simp, by simp⟩ <;>
          · have hle := xf7 (P := P) hn heq w
            cases hqv : e q <;> rw [hqv] at hle <;> first
             | (simp [Builtin.lenOf] at hle; done)
             | skip
            case string s => simp [Builtin.firstCells]
            case slice a l c => cases a <;> simp [Builtin.firstCells, loadCells, loadCellsFrom]
         split at h
         · rename_i id off len cp es ex
           simp only [Option.some.injEq, Prod.mk.injEq] at h
           obtain ⟨rfl, rfl⟩ := h
           have hep' := hep
           obtain ⟨_, hlc, o, c, hv, ho, hx1, hx2⟩ := hep'
           have hle : len + 0 ≤ c := by
            cases ex with
            | true => have := hx1 rfl; omega
            | false => have := (hx2 rfl).1; omega
           refine ⟨e p, w, ρ, .inl (fin ?_), hep, hH, Kp.refl _ _ _⟩
           rw [hv]
           exact xbz ht hi _ len c (e q) 0 [] hS hle (fun a ha => rfl) (fun h => rfl)
         · simp only [Option.some.injEq, Prod.mk.injEq] at h
           obtain ⟨rfl, rfl⟩ := h
           refine ⟨e p, w, ρ, .inl (fin ?_), hep, hH, Kp.refl _ _ _⟩
           rw [show e p = _ from hep.1]
           exact xbz ht hi none 0 0 (e q) 0 [] hS (Nat.le_refl _) (fun a ha => rfl) (fun h => rfl)
         simp at h
       rename_i n'
       split at h
       · rename_i new z hnew hz
         cases hb1 : (Nat.beq z.length i.size && (Nat.ble ((n' + 1) * i.bytes) 1099511627776 && Nat.ble (n' + 1) 1000000000)) with
         | false => simp only [hb1, cond_false, reduceCtorEq] at h
         | true =>
          simp only [hb1, cond_true] at h
          simp only [Bool.and_eq_true, Nat.beq_eq, Nat.ble_eq] at hb1
          obtain ⟨i', zv, hi', hzz, hdz⟩ := xc hz ρ H.next
          rw [hi] at hi'; cases hi'
          have hzc : zv.cells.size = i.size := by rw [xbj hdz]; exact hb1.1
          have hnl := xhx hnew
          obtain ⟨news, hS, hdn⟩ := src_of hH hsrc hn hnew hnl heq
          have hn62 : ∀ k, k * i.bytes ≤ 1099511627776 → k * i.bytes ≤ 140737488355328 := fun k hk => by omega
          -- a new row behind elements that are known
          have grow : ∀ {base : Option Addr} {len c : Nat} {old : List AC} {olds : List Value}, e p = .slice base len c → All2 (AC.den ρ H.next) old olds → old.length = len * i.size →
           (Builtin.firstCells i.size len (.slice base len c)).run P w.drew = .ok olds.toArray w.drew → ¬ len + (n' + 1) ≤ c → (len + (n' + 1)) * i.bytes ≤ 1099511627776 → len + (n' + 1) < 2 ^ 62 →
           r = .one (.c (.sl H.next 0 (len + (n' + 1)) (len + (n' + 1)) i.size false)) → H' = H.new ⟨old ++ new, el, false⟩ →
           ∃ v w' ρ', ((do pure (Next.value (← Builtin.append_ #[t, u] ty #[e p, e q]))).run P w = .ok (.value v) w' ∨ (do pure (Next.value (← Builtin.append_ #[t, u] ty #[e p, e q]))).run P w = .ok .skip w' ∧ v = undef) ∧
            AR.den ρ' H'.next r v ∧ HOK ρ' H' w' ∧ Kp H ρ w H' ρ' w' := by
           intro base len c old olds hv hdo hol hold hfit hby2 h62 hr hH'
           subst hr; subst hH'
           have hgr := run_append_grow_src (P := P) (ty := ty) w t u el i zv ht hi hzz base len c olds hold (e q) (n' + 1) news hS (by omega) (by omega) (growslice_fits (by omega) (by omega))
           have hge := grownCap_ge w (len + (n' + 1)) c el
           obtain ⟨h1, h2⟩ := xiY (zs := Builtin.zeroCells zv.cells (grownCap w (len + (n' + 1)) c el - (len + (n' + 1)))) hH (b := ⟨old ++ new, el, false⟩) rfl (hdo.app hdn)
           refine ⟨_, _, _, .inl (fin (by rw [hv]; exact hgr)), ⟨Nat.lt_succ_self _, Nat.le_refl _, 0, _, by simp [Rho.upd], fun _ => by simp [Rho.upd], fun h => by simp at h, fun _ => ⟨hge, ?_⟩⟩, h1, h2⟩
           have ho2 : olds.length = len * i.size := by rw [← hdo.len]; exact hol
           simp only [Rho.upd, if_true, Array.size_append, List.size_toArray, List.length_append, size_zeroCells, ho2, hS.newsLen]
           rw [Nat.zero_add, ← Nat.add_mul, hzc, ← Nat.add_mul]
           have : len + (n' + 1) + (grownCap w (len + (n' + 1)) c el - (len + (n' + 1))) = grownCap w (len + (n' + 1)) c el := by omega
           rw [this]; exact Nat.le_refl _
          split at h
          · simp only [Option.some.injEq, Prod.mk.injEq] at h
            obtain ⟨rfl, rfl⟩ := h
            have h62 : n' + 1 < 2 ^ 62 := by omega
            refine grow (base := none) (len := 0) (c := 0) (old := []) (olds := []) hep.1 trivial (by simp) (by simp [Builtin.firstCells]) (by omega) (by simpa using hb1.2.1) (by simpa using h62) (by simp) (by simp)
          · rename_i id off len cp es ex
            split at h
            · rename_i b hb
              cases hb2 : (Nat.beq es i.size && (Nat.ble ((len + (n' + 1)) * i.bytes) 1099511627776 && Nat.ble (len + (n' + 1)) 1000000000)) with
              | false => simp only [hb2, cond_false, reduceCtorEq] at h
              | true =>
               simp only [hb2, cond_true] at h
               simp only [Bool.and_eq_true, Nat.beq_eq, Nat.ble_eq] at hb2
               obtain ⟨hes, hby2, hne⟩ := hb2
               subst hes
               have h62 : len + (n' + 1) < 2 ^ 62 := by omega
               have hep' := hep
               obtain ⟨hlt, hlc, o, c, hv, ho, hx1, hx2⟩ := hep'
               cases hb3 : Nat.ble (len + (n' + 1)) cp with
               | true =>
                simp only [hb3, cond_true] at h
                simp only [Nat.ble_eq] at hb3
                cases hb4 : Nat.ble (off + (len + (n' + 1)) * i.size) b.cells.length with
                | false => simp only [hb4, cond_false, reduceCtorEq] at h
                | true =>
                 simp only [hb4, cond_true, Option.some.injEq, Prod.mk.injEq] at h
                 simp only [Nat.ble_eq] at hb4
                 obtain ⟨rfl, rfl⟩ := h
                 have hcc : cp ≤ c := by
                  cases ex with
                  | true => have := hx1 rfl; omega
                  | false => exact (hx2 rfl).1
                 rw [Nat.add_mul] at hb4
                 obtain ⟨w', hrun, h1, h2⟩ := xn5 (P := P) (off := off + len * i.size) hH hb hdn (by rw [hnl]; simp only [Nat.succ_eq_add_one]; omega)
                 refine ⟨.slice (some ⟨ρ.blk id, o, none⟩) (len + (n' + 1)) c, w', ρ, .inl (fin ?_), ⟨hlt, hb3, o, c, rfl, ho, hx1, hx2⟩, h1, h2⟩
                 rw [hv]
                 refine xbz ht hi _ len c (e q) _ news hS (by omega) (fun a ha => ?_) (fun h => by cases h)
                 cases ha
                 rw [xcG, ho (by omega), Nat.add_assoc]; exact hrun
               | false =>
                simp only [hb3, cond_false] at h
                have hb3' : ¬ len + (n' + 1) ≤ cp := fun hh => by rw [Nat.ble_eq_true_of_le hh] at hb3; cases hb3
                split at h
                · simp at h
                rename_i old hold
                cases ex with
                | true =>
                 simp only [cond_true, Option.some.injEq, Prod.mk.injEq] at h
                 obtain ⟨rfl, rfl⟩ := h
                 have hcc := hx1 rfl
                 obtain ⟨olds, hrun, hdo, _⟩ := xly (P := P) hH hb hold
                 refine grow hv hdo (xc6 hold) ?_ (by omega) hby2 h62 rfl rfl
                 by_cases hc0 : c = 0
                 · have hl0 : len = 0 := by omega
                   subst hl0
                   have : old = [] := List.eq_nil_of_length_eq_zero (by have := xc6 hold; omega)
                   subst this
                   have : olds = [] := List.eq_nil_of_length_eq_zero (by have := hdo.len; simpa using this.symm)
                   subst this
                   simp [Builtin.firstCells, loadCells, loadCellsFrom]
                 rw [ho hc0]; exact hrun (w.drawn + 1)
                | false =>
                 simp only [cond_false] at h
                 cases hb5 : (Nat.beq (off + len * i.size) b.cells.length && Nat.beq b.elem el) with
                 | false => simp only [hb5, cond_false, reduceCtorEq] at h
                 | true =>
                  simp only [hb5, cond_true, Option.some.injEq, Prod.mk.injEq] at h
                  simp only [Bool.and_eq_true, Nat.beq_eq] at hb5
                  obtain ⟨rfl, rfl⟩ := h
                  obtain ⟨v, w', ρ', h1, h2, h3, h4⟩ := over_ok (ty := ty) hH ht hi hzz hb hep hS hdn (Nat.succ_pos _) hold hb5.1 hb5.2 hzc hby2 h62
                  exact ⟨v, w', ρ', .inl (fin h1), h2, h3, h4⟩
            simp at h
          simp at h
       simp at h
     simp at h
   simp at h
 simp at h
end
end
end Go.Proofs.YtbifklibdkjbeaaGreatDoor
