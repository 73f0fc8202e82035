/-
  Conversions that make memory, unsafe.String, and all operations that make or write memory. No condition.
-/
import Derived.Test.YtbifklibdkjbeaaGreatDoorEvZ
namespace Go.Proofs.YtbifklibdkjbeaaGreatDoor
open Go
set_option linter.unusedSimpArgs false
set_option linter.unusedVariables false

section
variable {P : Program} {ρ : Rho} {H : AH} {w : World} {e : Operand → Value} {ev : Ev}
variable {dst : Option Tmp} {ty : TypeId} {pos : String} {after : Array Edge} {guard : Option (Nat × Bool)} {r : AR} {H' : AH}

theorem freeze_heap (w : World) (b o k : Nat) (h : 0 < k) : (w.freeze ⟨b, o, none⟩ k).heap.size = w.heap.size ∧ (∀ j, j ≠ b → (w.freeze ⟨b, o, none⟩ k).heap[j]? = w.heap[j]?) ∧
    ∀ cs t fz, w.heap[b]? = some (.cells cs t fz) → (w.freeze ⟨b, o, none⟩ k).heap[b]? = some (.cells cs t (if fz.1 = fz.2 then (o, o + k) else (min fz.1 o, max fz.2 (o + k)))) := by
  unfold World.freeze
  rw [if_neg (by omega)]
  refine ⟨by simp, fun j hj => ?_, fun cs t fz hb => ?_⟩
  · simp only [Array.getElem?_modify]; rw [if_neg (Ne.symm hj)]
  · simp only [Array.getElem?_modify, if_true, hb, Option.map_some]
    obtain ⟨lo, hi⟩ := fz
    simp only [beq_iff_eq]
theorem a_convert {s d : TypeId} {x : Operand} (hH : HOK ρ H w) (h : actA P H ev ⟨dst, .convert s d x, ty, pos, after, guard⟩ = some (r, H')) (he : (ev x).den ρ H.next (e x)) :
    Does P e ρ H w ⟨dst, .convert s d x, ty, pos, after, guard⟩ r H' := by
  simp only [actA] at h
  split at h
  · rename_i el t hs hd hx
    rw [hx] at he
    have hv : e x = .string t := he.1
    split at h
    · rename_i hel hsz
      simp only [Option.some.injEq, Prod.mk.injEq] at h
      obtain ⟨rfl, rfl⟩ := h
      let q := Question.appendCap t.size 0 el
      let c := q.cut (w.tape w.drawn q)
      have hc : t.size ≤ c := by show _ ≤ t.size + _; omega
      let cs : Array Value := t.data.map (fun b => .int .u8 b.toNat) ++ Array.replicate (c - t.size) (.int .u8 0)
      have hcs : cs.size = c := by
        show (t.data.map _ ++ Array.replicate _ _).size = c
        simp only [Array.size_append, Array.size_map, Array.size_replicate]
        have : t.data.size = t.size := rfl
        omega
      let w1 : World := w.drew.alloc (.cells cs el)
      have hw1 : w1.heap[w.heap.size]? = some (.cells cs el (0, 0)) := by show (w.heap.push _)[_]? = _; simp
      obtain ⟨f1, f2, f3⟩ := freeze_heap w1 w.heap.size cs.size 1 (by omega)
      have f3 := f3 _ _ _ hw1
      simp only [if_true] at f3
      let w' := w1.freeze ⟨w.heap.size, cs.size, none⟩ 1
      have hoth : ∀ k, k < w.heap.size → k ≠ w.heap.size → w'.heap[k]? = w.heap[k]? := fun k hk hne => (f2 k hne).trans (by show (w.heap.push _)[k]? = _; rw [Array.getElem?_push, if_neg (by omega)])
      have hsz' : w.heap.size ≤ w'.heap.size := by
        have : w'.heap.size = w1.heap.size := f1
        have h2 : w1.heap.size = w.heap.size + 1 := by show (w.heap.push _).size = _; simp
        omega
      have hos : w'.os = w.os ∧ w'.tape = w.tape ∧ w'.output = w.output := by
        show (World.freeze _ _ _).os = _ ∧ (World.freeze _ _ _).tape = _ ∧ (World.freeze _ _ _).output = _
        unfold World.freeze; rw [if_neg (by omega)]; exact ⟨rfl, rfl, rfl⟩
      have hdl : (t.data.toList.map fun b => AC.lit (.int .u8 b.toNat)).length = t.size := by simp
      refine ⟨.slice (some ⟨w.heap.size, 0, none⟩) t.size c, w', ρ.upd H.next w.heap.size 0 cs.size, .inl ?_, ⟨Nat.lt_succ_self _, Nat.le_refl _, 0, c, by simp [Rho.upd], fun _ => by simp [Rho.upd], fun hh => by simp at hh, fun _ => ⟨hc, by simp [Rho.upd, hcs]⟩⟩, ?_,
        lay_kp hsz' hos.1 hos.2.1 hos.2.2 hoth (Nat.le_refl _) hH⟩
      · have hfor : q.forced = false := rfl
        have hrun : (Conv.stringToBytes el t).run P w = .ok (.slice (some ⟨w.heap.size, 0, none⟩) t.size c) w' := by
          simp only [Conv.stringToBytes, Sem.run_bind, run_choose]
          rw [show (Question.appendCap t.size 0 el).forced = false from rfl]
          simp only [Bool.false_eq_true, if_false, Result.andThen_ok, newRow, Sem.run_bind, run_newObj, Sem.run_pure, markStringish, run_shape]
          have hshape : World.shape? w1 w.heap.size = some (el, cs.size) := by simp [World.shape?, hw1]
          simp only [World.shape?] at hshape
          show Result.andThen _ _ = _
          simp [World.shape?]
          refine ⟨rfl, ?_⟩
          have hX : t.size + (c - t.size) = cs.size := by omega
          show w1.freeze ⟨w.heap.size, t.size + (c - t.size), none⟩ 1 = w1.freeze ⟨w.heap.size, cs.size, none⟩ 1
          rw [hX]
        simp only [execOp, convert, Sem.run_bind, run_underlying hs, run_underlying hd, Result.andThen_ok, hv, run_underlying hel, hrun, Sem.run_pure]
      · refine lay_ok hH hsz' hoth f3 (fun id b hb => by have := hH.lt_size hb; omega) (.inr (Nat.le_refl _)) (by rw [hdl]; omega) (fun hh => by simp at hh) fun i y hy => ?_
        simp only [List.getElem?_map, Option.map_eq_some_iff] at hy
        obtain ⟨b, hb, rfl⟩ := hy
        refine ⟨.int .u8 b.toNat, ?_, rfl, rfl⟩
        have hi : i < t.data.size := by have := (List.getElem?_eq_some_iff.1 hb).1; simpa using this
        rw [Nat.zero_add]
        show (t.data.map _ ++ Array.replicate _ _)[i]? = _
        rw [Array.getElem?_append_left (by simpa using hi)]
        have hb' : t.data[i]? = some b := by simpa using hb
        simp [hb']
    · simp at h
  · rename_i s1 el id off len cp es ex hs hd hx
    rw [hx] at he
    have he' := he
    obtain ⟨hlt, hlc, o, c, hv, ho, hx1, hx2⟩ := he'
    split at h
    · rename_i hsd hel
      cases hg : H.get id with
      | none => simp [hg] at h
      | some b =>
        simp only [hg, Option.isSome_some, cond_true, Option.some.injEq, Prod.mk.injEq] at h
        obtain ⟨rfl, rfl⟩ := h
        have hsd' : s = d := Nat.eq_of_beq_eq_true hsd
        subst hsd'
        have hse : s1 = el := by rw [hs] at hd; cases hd; rfl
        subst hse
        obtain ⟨cs, fz, hl⟩ := hH.row id b hg
        obtain ⟨f1, f2, f3⟩ := freeze_heap w (ρ.blk id) cs.size 1 (by omega)
        have f3 := f3 _ _ _ hl.heap
        let w' := w.freeze ⟨ρ.blk id, cs.size, none⟩ 1
        have hos : w'.os = w.os ∧ w'.tape = w.tape ∧ w'.output = w.output := by
          show (World.freeze _ _ _).os = _ ∧ (World.freeze _ _ _).tape = _ ∧ (World.freeze _ _ _).output = _
          unfold World.freeze; rw [if_neg (by omega)]; exact ⟨rfl, rfl, rfl⟩
        refine ⟨e x, w', ρ, .inl ?_, he, ⟨hH.lt, hH.inj, fun i b' hb' => ?_⟩, ⟨.refl _ _, Nat.le_refl _, by show _ ≤ w'.heap.size; rw [show w'.heap.size = _ from f1]; exact Nat.le_refl _, hos.1, hos.2.1, hos.2.2, fun k hk hn => f2 k (Ne.symm (hn id b hg)), fun i b' hb' => .inr ⟨i, b', hb', rfl⟩⟩⟩
        · have hsh : World.shape? w (ρ.blk id) = some (b.elem, cs.size) := by simp [World.shape?, hl.heap]
          simp only [execOp, convert, Sem.run_bind, run_underlying hs, Result.andThen_ok, hv, run_underlying hel, BEq.rfl]
          simp [markStringish, hsh]
          rfl
        · obtain ⟨cs', fz', hl'⟩ := hH.row i b' hb'
          by_cases hii : ρ.blk i = ρ.blk id
          · have := hH.inj i id b' b hb' hg hii
            subst this
            rw [hg] at hb'; cases hb'
            have hcs : cs' = cs ∧ fz' = fz := by
              have := hl'.heap.symm.trans hl.heap
              simp only [Option.some.injEq, Obj.cells.injEq] at this
              exact ⟨this.1, this.2.2⟩
            obtain ⟨rfl, rfl⟩ := hcs
            refine ⟨cs', _, f3, hl'.size, ?_, hl'.room, hl'.whole, hl'.den⟩
            have ht := hl'.thaw
            split
            · right; simp
            · right
              show cs'.size ≤ min fz'.1 cs'.size
              omega
          · exact ⟨cs', fz', (f2 _ hii).trans hl'.heap, hl'.size, hl'.thaw, hl'.room, hl'.whole, hl'.den⟩
    · simp at h
  · simp at h
theorem lies_bytes {u : TypeId} {cells off n : Nat} (hc : P.cellsOf u = 1) (hd : 1 < P.depth) (h : off + n ≤ cells) : liesAt P P.depth u (cells / P.cellsOf u) off u n = true := by
  obtain ⟨d, hd'⟩ : ∃ d, P.depth = d + 1 := ⟨P.depth - 1, by omega⟩
  have hs : sameLayout P P.depth u u = true := by rw [hd']; simp [sameLayout]
  rw [hd', liesAt, hc]
  have hr : rowAt P (fun x => sameLayout P P.depth x u) P.depth u (cells / 1) off n = true := by
    rw [hd', rowAt, hc]
    rw [← hd']
    simp [hs, Nat.mod_one]
    exact .inl h
  rw [hr]; simp
theorem run_loadBytes (a : Addr) : ∀ (ns : List Int) (i : Nat) (acc : ByteArray), (∀ j v, (ns.map (Value.int .u8 ·))[j]? = some v → w.cell? (a.add (i + j)) = some v) →
    (loadBytes (a.add i) acc ns.length).run P w = .ok (ns.foldl (fun b k => b.push (UInt8.ofNat k.toNat)) acc) w
  | [], i, acc, _ => rfl
  | k :: ns, i, acc, h => by
    have h0 := h 0 (.int .u8 k) (by simp)
    rw [Nat.add_zero] at h0
    have ih := run_loadBytes a ns (i + 1) (acc.push (UInt8.ofNat k.toNat)) (fun j v hj => by
      have := h (j + 1) v (by simpa using hj)
      rw [show i + (j + 1) = i + 1 + j from by omega] at this; exact this)
    have hadd : (a.add i).add 1 = a.add (i + 1) := by
      unfold Addr.add
      by_cases hi : i = 0
      · subst hi; simp
      · simp [hi]; omega
    simp only [List.length_cons, loadBytes, Sem.run_bind, run_load, h0, Result.andThen_ok, hadd]
    exact ih
theorem a_unsafeString {args : Array Operand} {ats : Array TypeId} (hH : HOK ρ H w) (h : actA P H ev ⟨dst, .call ⟨.builtin .unsafeString, args, ats⟩, ty, pos, after, guard⟩ = some (r, H'))
    (he : EvOK ρ H.next ev e args.toList) : Does P e ρ H w ⟨dst, .call ⟨.builtin .unsafeString, args, ats⟩, ty, pos, after, guard⟩ r H' := by
  simp only [actA] at h
  split at h
  · rename_i pt tl id off kd n hats hargs
    obtain ⟨p, q, hpq⟩ : ∃ p q, args.toList = [p, q] := by
      cases hl : args.toList with
      | nil => simp [hl] at hargs
      | cons p l => cases l with
        | nil => simp [hl] at hargs
        | cons q l => cases l with
          | nil => exact ⟨p, q, rfl⟩
          | cons _ _ => simp [hl] at hargs
    rw [hpq] at hargs he
    simp only [List.map_cons, List.map_nil, List.cons.injEq, and_true] at hargs
    obtain ⟨hp, hq⟩ := hargs
    have hep := he p (by simp)
    have heq := he q (by simp)
    rw [hp] at hep; rw [hq] at heq
    obtain ⟨hlt, hv⟩ := hep
    have hvq : e q = .int kd n := heq.1
    have hA : args = #[p, q] := Array.toList_inj.1 (by simpa using hpq)
    subst hA
    have hat : ats[0]? = some pt := by
      have : ats.toList[0]? = some pt := by rw [hats]; rfl
      simpa using this
    split at h
    · rename_i u b hpt hg
      split at h
      · rename_i hu
        cases hb1 : (Nat.beq u b.elem && (decide (0 < n) && decide (n < 1000000))) with
        | false => simp only [hb1, cond_false, reduceCtorEq] at h
        | true =>
          simp only [hb1, cond_true] at h
          simp only [Bool.and_eq_true, Nat.beq_eq, decide_eq_true_eq] at hb1
          obtain ⟨hub, hn0, hn1⟩ := hb1
          split at h
          · rename_i s hs
            cases hb2 : (Nat.beq (P.cellsOf u) 1 && Nat.blt 1 P.depth) with
            | false => simp only [hb2, cond_false, reduceCtorEq] at h
            | true =>
              simp only [hb2, cond_true, Option.some.injEq, Prod.mk.injEq] at h
              simp only [Bool.and_eq_true, Nat.beq_eq, Nat.blt_eq] at hb2
              obtain ⟨rfl, rfl⟩ := h
              simp only [Option.bind_eq_some_iff] at hs
              obtain ⟨l, hcut, hby⟩ := hs
              obtain ⟨vs, hrun, hdv, hcell⟩ := loads (P := P) hH hg hcut
              obtain ⟨ns, hvs, hs2⟩ := bytes_den hby hdv
              obtain ⟨cs, fz, hl⟩ := hH.row id b hg
              have hll := cut_len hcut
              have hlen : ns.length = n.toNat := by have := hdv.len; rw [hvs] at this; simp at this; omega
              have hin : off + n.toNat ≤ b.cells.length := by
                rcases cut_den hcut (R := fun _ _ => True) (m := b.cells.map fun _ => default) (All2.of (by simp) fun _ _ _ _ _ => trivial) with h1 | h1
                · omega
                · omega
              have hroom := hl.room
              let a : Addr := ⟨ρ.blk id, ρ.base id + off, none⟩
              obtain ⟨f1, f2, f3⟩ := freeze_heap w (ρ.blk id) (ρ.base id + off) n.toNat (by omega)
              let w' := w.freeze a n.toNat
              have hos : w'.os = w.os ∧ w'.tape = w.tape ∧ w'.output = w.output := by
                show (World.freeze _ _ _).os = _ ∧ (World.freeze _ _ _).tape = _ ∧ (World.freeze _ _ _).output = _
                unfold World.freeze; rw [if_neg (by omega)]; exact ⟨rfl, rfl, rfl⟩
              obtain ⟨hD, hK⟩ := del_ok hH id
              have hrow : ∀ i b', (H.set id none).get i = some b' → ρ.blk i ≠ ρ.blk id := fun i b' h' e => by
                rw [AH.get_set] at h'
                split at h'
                · simp at h'
                · rename_i hne
                  have hb' : H.get i = some b' := h'
                  exact hne (hH.inj i id b' b hb' hg e)
              refine ⟨.string s, w', ρ, .inl ?_, ⟨rfl, rfl⟩, ⟨hD.lt, hD.inj, fun i b' hb' => ?_⟩, ⟨.refl _ _, Nat.le_refl _, by show _ ≤ w'.heap.size; rw [show w'.heap.size = _ from f1]; exact Nat.le_refl _, hos.1, hos.2.1, hos.2.2, fun k hk hn => f2 k (Ne.symm (hn id b hg)), hK.come⟩⟩
              · have hsh : World.shape? w (ρ.blk id) = some (u, cs.size) := by simp [World.shape?, hl.heap, hub]
                have hlies := lies_bytes (P := P) (cells := cs.size) (off := ρ.base id + off) (n := n.toNat) hb2.1 hb2.2 (by omega)
                have hvar : (variablesAt a u n.toNat).run P w = .ok true w := by
                  simp only [variablesAt, Sem.run_bind, run_program, Result.andThen_ok, run_shape]
                  have hsh' : World.shape? w a.block = some (u, cs.size) := hsh
                  rw [hsh']
                  simp only [Sem.run_pure]
                  rw [show liesAt P P.depth u (cs.size / P.cellsOf u) a.off u n.toNat = true from hlies]
                have hlb := run_loadBytes (P := P) (w := w) a ns 0 .empty (fun j v hj => by
                  rw [← hvs] at hj
                  show w.cell? ((⟨ρ.blk id, ρ.base id + off, none⟩ : Addr).add (0 + j)) = _
                  rw [Nat.zero_add, add_at]; exact hcell j v hj)
                rw [hlen, ← hs2] at hlb
                have hlb' : (loadBytes a .empty n.toNat).run P w = .ok s w := hlb
                have hrun : (Builtin.unsafeString_ ats ty #[e p, e q]).run P w = .ok (.string s) w' := by
                  rw [hv, hvq]
                  have hn' : ¬ n < 0 := by omega
                  have hn'' : ¬ 9223372036854775807 < n := by omega
                  have hmax : IntKind.i64.max = 9223372036854775807 := rfl
                  have hn3 : ¬ n = 0 := by omega
                  show ((do
                    let k ← asInt (.int kd n)
                    let some pt := ats[0]? | stuck "unsafe.String: no argument types"
                    if k < 0 then runtimePanic (.error "unsafe.String: len out of range")
                    if k > IntKind.i64.max then unsupported (.unsafePointer "String: a length above the largest int")
                    if k = 0 then pure (.string .empty)
                    else if ← variablesAt a (← elemOf pt) k.toNat then do
                      let s ← loadBytes a .empty k.toNat
                      freeze a k.toNat
                      pure (.string s)
                    else unsupported (.unsafePointer "String: not so many bytes at ptr") : Sem Value)).run P w = _
                  simp [asInt, asIntOf, hat, hn', hmax, hn'', hn3, elemOf, run_underlying hpt, hvar, hlb']
                  rfl
                simp [execOp, resolve, invoke, builtin, hrun]
              · obtain ⟨cs', fz', hl'⟩ := hD.row i b' hb'
                exact ⟨cs', fz', (f2 _ (hrow i b' hb')).trans hl'.heap, hl'.size, hl'.thaw, hl'.room, hl'.whole, hl'.den⟩
          · simp at h
      · simp at h
    · simp at h
  · simp at h
theorem actA_sound {o : Oper} (hH : HOK ρ H w) (h : actA P H ev o = some (r, H')) (he : EvOK ρ H.next ev e o.op.operands.toList) : Does P e ρ H w o r H' := by
  obtain ⟨dst, op, ty, pos, after, guard⟩ := o
  cases op with
  | alloc t => exact a_alloc hH h
  | box t x => exact a_box hH h (he x (by simp [Op.operands]))
  | buildSlice t n ps => exact a_buildSlice hH h (by simpa [Op.operands] using he)
  | makeSlice t a b => exact a_makeSlice hH h (he a (by simp [Op.operands])) (he b (by simp [Op.operands]))
  | store t a x => exact a_store hH h (he a (by simp [Op.operands])) (he x (by simp [Op.operands]))
  | convert s d x => exact a_convert hH h (he x (by simp [Op.operands]))
  | call c =>
    obtain ⟨callee, args, ats⟩ := c
    cases callee with
    | value f => simp [actA] at h
    | invoke r m => simp [actA] at h
    | builtin b =>
      cases b with
      | append => exact a_append hH h (by simpa [Op.operands, Call.operands] using he)
      | unsafeString => exact a_unsafeString hH h (by simpa [Op.operands, Call.operands] using he)
      | _ => simp [actA] at h
  | _ => simp [actA] at h
end
end Go.Proofs.YtbifklibdkjbeaaGreatDoor
