/-
  Operations that make or write memory: what becomes of the two memories. No condition.
-/
import Derived.Test.YtbifklibdkjbeaaGreatDoorEvV
import Derived.Laws.Append
namespace Go.Proofs.YtbifklibdkjbeaaGreatDoor
open Go
set_option linter.unusedSimpArgs false
set_option linter.unusedVariables false

def Rho.upd (ρ : Rho) (i b o s : Nat) : Rho :=
  ⟨fun j => if j = i then b else ρ.blk j, fun j => if j = i then o else ρ.base j, fun j => if j = i then s else ρ.size j⟩
theorem Rho.upd_ext (ρ : Rho) (i b o s : Nat) : Ext ρ (ρ.upd i b o s) i :=
  ⟨fun j hj => if_neg (by omega), fun j hj => if_neg (by omega), fun j hj => if_neg (by omega)⟩
theorem AH.get_new (H : AH) (b : Blk) (i : Nat) : (H.new b).get i = if i = H.next then some b else H.get i := by show Tr.getR (H.heap.put H.next (some b)) i = _; rw [Tr.getR_eq]; unfold AH.get; rw [Tr.getR_eq]; exact Tr.get_put _ _ _ _
theorem AH.get_set (H : AH) (k : Nat) (b : Option Blk) (i : Nat) : (H.set k b).get i = if i = k then b else H.get i := by show Tr.getR (H.heap.put k b) i = _; rw [Tr.getR_eq]; unfold AH.get; rw [Tr.getR_eq]; exact Tr.get_put _ _ _ _

section
variable {P : Program} {ρ : Rho} {H : AH} {w : World}

/-- A block that is laid anew (or taken over: 'g' is nobody's that is left). -/
theorem lay_ok (hH : HOK ρ H w) {w' : World} {b : Blk} {cs : Array Value} {fz : Nat × Nat} {g o : Nat}
    (hsz : w.heap.size ≤ w'.heap.size) (hoth : ∀ k, k < w.heap.size → k ≠ g → w'.heap[k]? = w.heap[k]?) (hg : w'.heap[g]? = some (.cells cs b.elem fz))
    (hfree : ∀ id b, H.get id = some b → ρ.blk id ≠ g)
    (hthaw : fz.1 = fz.2 ∨ cs.size ≤ fz.1) (hroom : o + b.cells.length ≤ cs.size) (hwh : b.whole = true → o = 0 ∧ cs.size = b.cells.length)
    (hden : ∀ (i : Nat) (x : AC), b.cells[i]? = some x → ∃ u, cs[o + i]? = some u ∧ x.den ρ H.next u) :
    HOK (ρ.upd H.next g o cs.size) (H.new b) w' where
  lt := fun id b' h => by
    rw [AH.get_new] at h
    split at h
    · subst_vars; exact Nat.lt_succ_self _
    · exact Nat.lt_succ_of_lt (hH.lt id b' h)
  inj := fun id id' c c' h h' e => by
    rw [AH.get_new] at h h'
    simp only [Rho.upd] at e
    by_cases h1 : id = H.next <;> by_cases h2 : id' = H.next
    · rw [h1, h2]
    · simp only [h1, if_true, h2, if_false] at e h'
      exact absurd e.symm (hfree id' c' h')
    · simp only [h1, if_false, h2, if_true] at e h
      exact absurd e (hfree id c h)
    · simp only [h1, h2, if_false] at e h h'
      exact hH.inj id id' c c' h h' e
  row := fun id c h => by
    rw [AH.get_new] at h
    have ext := Rho.upd_ext ρ H.next g o cs.size
    split at h
    · rename_i hid
      subst hid
      simp only [Option.some.injEq] at h; subst h
      refine ⟨cs, fz, by simpa [Rho.upd] using hg, by simp [Rho.upd], hthaw, by simpa [Rho.upd] using hroom, by simpa [Rho.upd] using hwh, fun i x hx => ?_⟩
      obtain ⟨u, hu, hd⟩ := hden i x hx
      exact ⟨u, by simpa [Rho.upd] using hu, AC.den_mono ext (Nat.le_succ _) x u hd⟩
    · rename_i hid
      obtain ⟨cs', fz', hl⟩ := hH.row id c h
      have hlt := hH.lt id c h
      have hb : (ρ.upd H.next g o cs.size).blk id = ρ.blk id := ext.blk id hlt
      have hne : ρ.blk id ≠ g := hfree id c h
      refine ⟨cs', fz', ?_, by rw [ext.size id hlt]; exact hl.size, hl.thaw, by rw [ext.base id hlt]; exact hl.room, by rw [ext.base id hlt]; exact hl.whole, fun i x hx => ?_⟩
      · rw [hb, hoth _ (hH.lt_size h) hne]; exact hl.heap
      · obtain ⟨u, hu, hd⟩ := hl.den i x hx
        exact ⟨u, by rw [ext.base id hlt]; exact hu, AC.den_mono ext (Nat.le_succ _) x u hd⟩
theorem lay_kp {w' : World} {b : Blk} {g o s : Nat} (hsz : w.heap.size ≤ w'.heap.size) (hos : w'.os = w.os) (hta : w'.tape = w.tape) (hou : w'.output = w.output)
    (hoth : ∀ k, k < w.heap.size → k ≠ g → w'.heap[k]? = w.heap[k]?) (hnew : w.heap.size ≤ g) (hH : HOK ρ H w) : Kp H ρ w (H.new b) (ρ.upd H.next g o s) w' where
  ext := Rho.upd_ext ρ H.next g o s
  next := Nat.le_succ _
  size := hsz
  os := hos
  tape := hta
  output := hou
  frame := fun k hk _ => hoth k hk (by omega)
  come := fun id c h => by
    rw [AH.get_new] at h
    split at h
    · rename_i hid; subst hid; left; simpa [Rho.upd] using hnew
    · rename_i hid
      right; exact ⟨id, c, h, by simp [Rho.upd, hid]⟩
/-- One block of cells, made new. -/
theorem new_ok (hH : HOK ρ H w) {w' : World} {b : Blk} {cs : Array Value} {fz : Nat × Nat} (hh : w'.heap = w.heap.push (.cells cs b.elem fz)) (hos : w'.os = w.os) (hta : w'.tape = w.tape) (hou : w'.output = w.output)
    (hthaw : fz.1 = fz.2 ∨ cs.size ≤ fz.1) (hroom : b.cells.length ≤ cs.size) (hwh : b.whole = true → cs.size = b.cells.length)
    (hden : ∀ (i : Nat) (x : AC), b.cells[i]? = some x → ∃ u, cs[i]? = some u ∧ x.den ρ H.next u) :
    HOK (ρ.upd H.next w.heap.size 0 cs.size) (H.new b) w' ∧ Kp H ρ w (H.new b) (ρ.upd H.next w.heap.size 0 cs.size) w' := by
  have hoth : ∀ k, k < w.heap.size → k ≠ w.heap.size → w'.heap[k]? = w.heap[k]? := fun k hk _ => by
    rw [hh, Array.getElem?_push, if_neg (by omega)]
  have hsz : w.heap.size ≤ w'.heap.size := by rw [hh]; simp
  refine ⟨lay_ok hH hsz hoth (by rw [hh]; simp) (fun id c h => by have := hH.lt_size h; omega) hthaw (by omega) (fun h => ⟨rfl, hwh h⟩) (fun i x hx => ?_), lay_kp hsz hos hta hou hoth (Nat.le_refl _) hH⟩
  rw [Nat.zero_add]; exact hden i x hx
theorem den_get {ρ : Rho} {n : Nat} {l : List AC} {cs : Array Value} (h : All2 (AC.den ρ n) l cs.toList) : ∀ (i : Nat) (x : AC), l[i]? = some x → ∃ u, cs[i]? = some u ∧ x.den ρ n u := fun i x hx => by
  obtain ⟨u, hu, hd⟩ := h.get hx
  exact ⟨u, by simpa using hu, hd⟩
theorem den_size {ρ : Rho} {n : Nat} {l : List AC} {cs : Array Value} (h : All2 (AC.den ρ n) l cs.toList) : cs.size = l.length := by
  have := h.len; simpa using this.symm

/-- A block that is forgotten. -/
theorem del_ok (hH : HOK ρ H w) (id : Nat) : HOK ρ (H.set id none) w ∧ Kp H ρ w (H.set id none) ρ w := by
  have sub : ∀ {i b}, (H.set id none).get i = some b → H.get i = some b := by
    intro i b h
    rw [AH.get_set] at h
    split at h
    · simp at h
    · exact h
  exact ⟨⟨fun i b h => hH.lt i b (sub h), fun i j b c h h' e => hH.inj i j b c (sub h) (sub h') e, fun i b h => hH.row i b (sub h)⟩,
    ⟨.refl _ _, Nat.le_refl _, Nat.le_refl _, rfl, rfl, rfl, fun _ _ _ => rfl, fun i b h => .inr ⟨i, b, sub h, rfl⟩⟩⟩

/-- Stores into one block, one by one. -/
theorem run_stores (P : Program) (b o : Nat) (t : TypeId) (fz : Nat × Nat) : ∀ (vs : List Value) (i : Nat) (cur : Array Value) (w : World),
    w.heap[b]? = some (.cells cur t fz) → (fz.1 = fz.2 ∨ cur.size ≤ fz.1) → o + i + vs.length ≤ cur.size → (∀ v ∈ vs, v.oneCell' = true) →
    ∃ w' cur', (storeCells ⟨b, o, none⟩ vs i).run P w = .ok () w' ∧ w'.heap.size = w.heap.size ∧ w'.os = w.os ∧ w'.tape = w.tape ∧ w'.output = w.output ∧
      (∀ k, k ≠ b → w'.heap[k]? = w.heap[k]?) ∧ w'.heap[b]? = some (.cells cur' t fz) ∧ cur'.size = cur.size ∧
      ∀ k, cur'[k]? = if o + i ≤ k ∧ k < o + i + vs.length then vs[k - (o + i)]? else cur[k]?
  | [], i, cur, w, h, _, _, _ => ⟨w, cur, rfl, rfl, rfl, rfl, rfl, fun _ _ => rfl, h, rfl, fun k => by rw [if_neg (by simp)]⟩
  | v :: vs, i, cur, w, h, hf, hl, h1 => by
    simp only [List.length_cons] at hl
    have hlt : o + i < cur.size := by omega
    have hc : w.cell? ⟨b, o + i, none⟩ = some cur[o + i] := by simp [World.cell?, h, hlt]
    have hfr : w.frozen? ⟨b, o + i, none⟩ = false := by
      obtain ⟨lo, hi⟩ := fz
      simp only at hf
      simp only [World.frozen?, h]
      rw [Bool.and_eq_false_iff]
      simp only [decide_eq_false_iff_not]
      omega
    let w1 := w.setCell ⟨b, o + i, none⟩ v
    have hw1 : w1.heap[b]? = some (.cells (cur.setIfInBounds (o + i) v) t fz) := by
      show (w.heap.modify b _)[b]? = _
      rw [Array.getElem?_modify]; simp [h]
    have hoth : ∀ k, k ≠ b → w1.heap[k]? = w.heap[k]? := fun k hk => by
      show (w.heap.modify b _)[k]? = _
      rw [Array.getElem?_modify, if_neg (Ne.symm hk)]
    obtain ⟨w', cur', hrun, hs, hos, hta, hou, ho, hb, hcs, hk⟩ := run_stores P b o t fz vs (i + 1) (cur.setIfInBounds (o + i) v) w1 hw1 (by simpa using hf) (by simp; omega) (fun u hu => h1 u (by simp [hu]))
    refine ⟨w', cur', ?_, hs.trans (by show (w.heap.modify b _).size = _; simp), hos, hta, hou, fun k hk => (ho k hk).trans (hoth k hk), hb, hcs.trans (by simp), fun k => ?_⟩
    · simp only [storeCells, Sem.run_bind, add_at]
      rw [run_store P w _ v .plain (h1 v (by simp)), hc]
      simp only [hfr]
      exact hrun
    · rw [hk, Array.getElem?_setIfInBounds]
      simp only [List.length_cons]
      by_cases c1 : k = o + i
      · subst c1
        rw [if_neg (by omega), if_pos rfl, if_pos hlt, if_pos (by omega)]; simp
      · by_cases c2 : o + (i + 1) ≤ k ∧ k < o + (i + 1) + vs.length
        · rw [if_pos c2, if_pos (by omega)]
          have : k - (o + i) = (k - (o + (i + 1))) + 1 := by omega
          rw [this]; simp
        · rw [if_neg c2, if_neg (Ne.symm c1), if_neg (by omega)]
/-- Cells of a block written. -/
theorem put_ok (hH : HOK ρ H w) {id off : Nat} {b : Blk} (hb : H.get id = some b) {l : List AC} {vs : List Value} (hd : All2 (AC.den ρ H.next) l vs) (hlen : off + l.length ≤ b.cells.length) :
    ∃ w', (storeCells ⟨ρ.blk id, ρ.base id + off, none⟩ vs).run P w = .ok () w' ∧ HOK ρ (H.set id (some ⟨splice b.cells off l, b.elem, b.whole⟩)) w' ∧
      Kp H ρ w (H.set id (some ⟨splice b.cells off l, b.elem, b.whole⟩)) ρ w' := by
  obtain ⟨cs, fz, hl⟩ := hH.row id b hb
  have hroom := hl.room
  have hvl := hd.len
  have h1 : ∀ v ∈ vs, v.oneCell' = true := fun v hv => by
    obtain ⟨i, hi⟩ := List.mem_iff_getElem?.1 hv
    have : i < l.length := by have := (List.getElem?_eq_some_iff.1 hi).1; omega
    obtain ⟨u, hu, hdu⟩ := hd.get (List.getElem?_eq_getElem this)
    rw [hi] at hu; cases hu; exact AC.den_one hdu
  obtain ⟨w', cur', hrun, hs, hos, hta, hou, ho, hbk, hcs, hk⟩ := run_stores P (ρ.blk id) (ρ.base id + off) b.elem fz vs 0 cs w hl.heap hl.thaw (by omega) h1
  have hsl : (splice b.cells off l).length = b.cells.length := splice_len hlen
  refine ⟨w', hrun, ⟨fun i c h => ?_, fun i j c c' h h' e => ?_, fun i c h => ?_⟩, .refl _ _, Nat.le_refl _, by omega, hos, hta, hou, fun k hk' hn => ho k (Ne.symm (hn id b hb)), fun i c h => ?_⟩
  · rw [AH.get_set] at h
    split at h
    · rename_i e; subst e; exact hH.lt _ b hb
    · exact hH.lt i c h
  · rw [AH.get_set] at h h'
    have g1 : ∃ c, H.get i = some c := by
      split at h
      · rename_i e; subst e; exact ⟨b, hb⟩
      · exact ⟨c, h⟩
    have g2 : ∃ c, H.get j = some c := by
      split at h'
      · rename_i e; subst e; exact ⟨b, hb⟩
      · exact ⟨c', h'⟩
    obtain ⟨c1, g1⟩ := g1
    obtain ⟨c2, g2⟩ := g2
    exact hH.inj i j c1 c2 g1 g2 e
  · rw [AH.get_set] at h
    split at h
    · rename_i e; subst e
      simp only [Option.some.injEq] at h; subst h
      refine ⟨cur', fz, hbk, hcs.trans hl.size, by rw [hcs]; exact hl.thaw, by rw [hcs, hsl]; exact hl.room, fun hw => by rw [hcs, hsl]; exact hl.whole hw, fun k x hx => ?_⟩
      rw [hk]
      simp only [splice_eq] at hx
      by_cases c1 : k < off
      · rw [List.getElem?_append_left (by simp; omega), List.getElem?_take, if_pos c1] at hx
        rw [if_neg (by omega)]
        exact hl.den k x hx
      · rw [List.getElem?_append_right (by simp; omega)] at hx
        simp only [List.length_take] at hx
        have e1 : k - min off b.cells.length = k - off := by omega
        rw [e1] at hx
        by_cases c2 : k - off < l.length
        · rw [List.getElem?_append_left c2] at hx
          rw [if_pos (by omega)]
          obtain ⟨u, hu, hdu⟩ := hd.get hx
          refine ⟨u, ?_, hdu⟩
          have e2 : ρ.base i + k - (ρ.base i + off + 0) = k - off := by omega
          rw [e2]; exact hu
        · rw [List.getElem?_append_right (by omega), List.getElem?_drop] at hx
          rw [if_neg (by omega)]
          have e2 : off + l.length + (k - off - l.length) = k := by omega
          rw [e2] at hx
          exact hl.den k x hx
    · rename_i hne
      obtain ⟨cs', fz', hl'⟩ := hH.row i c h
      refine ⟨cs', fz', ?_, hl'.size, hl'.thaw, hl'.room, hl'.whole, hl'.den⟩
      rw [ho _ (fun e => hne (hH.inj i id c b h hb e))]
      exact hl'.heap
  · rw [AH.get_set] at h
    split at h
    · rename_i e; subst e; exact .inr ⟨i, b, hb, rfl⟩
    · exact .inr ⟨i, c, h, rfl⟩
end
end Go.Proofs.YtbifklibdkjbeaaGreatDoor
