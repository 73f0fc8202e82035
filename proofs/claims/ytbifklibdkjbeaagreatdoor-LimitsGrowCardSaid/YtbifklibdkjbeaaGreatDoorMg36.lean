/-
  Several texts in one: Conversions that make memory, unsafe.String, and all operations that make or write memory. No condition. One operation of any kind; a list of operations. No condition.
-/
import Derived.Test.YtbifklibdkjbeaaGreatDoorMg35
namespace Go.Proofs.YtbifklibdkjbeaaGreatDoor
open Go.RowKit
set_option linter.unusedVariables false
set_option linter.unusedSimpArgs false
set_option maxRecDepth 100000
section
open Go
section
variable {P : Program} {ρ : Rho} {H : AH} {w : World} {e : Operand → Value} {ev : Ev}
variable {dst : Option Tmp} {ty : TypeId} {pos : String} {after : Array Edge} {guard : Option (Nat × Bool)} {r : AR} {H' : AH}
theorem xc4 (w : World) (b o k : Nat) (h : 0 < k) : (w.freeze ⟨b, o, none⟩ k).heap.size = w.heap.size ∧ (∀ j, j ≠ b → (w.freeze ⟨b, o, none⟩ k).heap[j]? = w.heap[j]?) ∧
 ∀ cs t fz, w.heap[b]? = some (.cells cs t fz) → (w.freeze ⟨b, o, none⟩ k).heap[b]? = some (.cells cs t (if fz.1 = fz.2 then (o, o + k) else (min fz.1 o, max fz.2 (o + k)))) := by
 unfold World.freeze
 rw [if_neg (by omega)]
 refine ⟨by simp, fun j hj => ?_, fun cs t fz hb => ?_⟩
 · simp only [Array.getElem?_modify]; rw [if_neg (Ne.symm hj)]
 simp only [Array.getElem?_modify, if_true, hb, Option.map_some]
 obtain ⟨lo, hi⟩ := fz
 simp only [beq_iff_eq]
theorem xmD {s d : TypeId} {x : Operand} (hH : HOK ρ H w) (h : actA P H ev ⟨dst, .convert s d x, ty, pos, after, guard⟩ = some (r, H')) (he : (ev x).den ρ H.next (e x)) :
 Does P e ρ H w ⟨dst, .convert s d x, ty, pos, after, guard⟩ r H' := by
 simp only [actA] at h
 split at h
 · rename_i el t hs hd hx
   rw [hx] at he
   have hv : e x = .string t := he.1
   split at h
   · rename_i hel hsz
     simp only [Option.some.injEq, Prod.mk.injEq] at h
     obtain ⟨rfl, rfl⟩ := h
     let q := Question.appendCap t.size 0 el
     let c := q.cut (w.tape w.drawn q)
     have hc : t.size ≤ c := by show _ ≤ t.size + _; omega
     let cs : Array Value := t.data.map (fun b => .int .u8 b.toNat) ++ Array.replicate (c - t.size) (.int .u8 0)
     have hcs : cs.size = c := by
      show (t.data.map _ ++ Array.replicate _ _).size = c
      simp only [Array.size_append, Array.size_map, Array.size_replicate]
      have : t.data.size = t.size := rfl
      omega
     let w1 : World := w.drew.alloc (.cells cs el)
     have hw1 : w1.heap[w.heap.size]? = some (.cells cs el (0, 0)) := by show (w.heap.push _)[_]? = _; simp
     obtain ⟨f1, f2, f3⟩ := xc4 w1 w.heap.size cs.size 1 (by omega)
     have f3 := f3 _ _ _ hw1
     simp only [if_true] at f3
     let w' := w1.freeze ⟨w.heap.size, cs.size, none⟩ 1
     have hoth : ∀ k, k < w.heap.size → k ≠ w.heap.size → w'.heap[k]? = w.heap[k]? := fun k hk hne => (f2 k hne).trans (by show (w.heap.push _)[k]? = _; rw [Array.getElem?_push, if_neg (by omega)])
     have hsz' : w.heap.size ≤ w'.heap.size := by
      have : w'.heap.size = w1.heap.size := f1
      have h2 : w1.heap.size = w.heap.size + 1 := by show (w.heap.push _).size = _; simp
      omega
     have hos : w'.os = w.os ∧ w'.tape = w.tape ∧ w'.output = w.output := by
      show (World.freeze _ _ _).os = _ ∧ (World.freeze _ _ _).tape = _ ∧ (World.freeze _ _ _).output = _
      unfold World.freeze; rw [if_neg (by omega)]; exact ⟨rfl, rfl, rfl⟩
     have hdl : (t.data.toList.map fun b => AC.lit (.int .u8 b.toNat)).length = t.size := by simp
     refine ⟨.slice (some ⟨w.heap.size, 0, none⟩) t.size c, w', ρ.upd H.next w.heap.size 0 cs.size, .inl ?_, ⟨Nat.lt_succ_self _, Nat.le_refl _, 0, c, by simp [Rho.upd], fun _ => by simp [Rho.upd], fun hh => by simp at hh, fun _ => ⟨hc, by simp [Rho.upd, hcs]⟩⟩, ?_,
      xoc hsz' hos.1 hos.2.1 hos.2.2 hoth (Nat.le_refl _) hH⟩
     · have hfor : q.forced = false := rfl
       have hrun : (Conv.stringToBytes el t).run P w = .ok (.slice (some ⟨w.heap.size, 0, none⟩) t.size c) w' := by
        simp only [Conv.stringToBytes, Sem.run_bind, run_choose]
        rw [show (Question.appendCap t.size 0 el).forced = false from rfl]
        simp only [Bool.false_eq_true, if_false, Result.andThen_ok, newRow, Sem.run_bind, run_newObj, Sem.run_pure, markStringish, run_shape]
        have hshape : World.shape? w1 w.heap.size = some (el, cs.size) := by simp [World.shape?, hw1]
        simp only [World.shape?] at hshape
        show Result.andThen _ _ = _
        simp [World.shape?]
        refine ⟨rfl, ?_⟩
        have hX : t.size + (c - t.size) = cs.size := by omega
        show w1.freeze ⟨w.heap.size, t.size + (c - t.size), none⟩ 1 = w1.freeze ⟨w.heap.size, cs.size, none⟩ 1
        rw [hX]
       simp only [execOp, convert, Sem.run_bind, run_underlying hs, run_underlying hd, Result.andThen_ok, hv, run_underlying hel, hrun, Sem.run_pure]
     refine xiS hH hsz' hoth f3 (fun id b hb => by have := hH.lt_size hb; omega) (.inr (Nat.le_refl _)) (by rw [hdl]; omega) (fun hh => by simp at hh) fun i y hy => ?_
     simp only [List.getElem?_map, Option.map_eq_some_iff] at hy
     obtain ⟨b, hb, rfl⟩ := hy
     refine ⟨.int .u8 b.toNat, ?_, rfl, rfl⟩
     have hi : i < t.data.size := by have := (List.getElem?_eq_some_iff.1 hb).1; simpa using this
     rw [Nat.zero_add]
     show (t.data.map _ ++ Array.replicate _ _)[i]? = _
     rw [Array.getElem?_append_left (by simpa using hi)]
     have hb' : t.data[i]? = some b := by simpa using hb
     simp [hb']
   simp at h
 · rename_i s1 el id off len cp es ex hs hd hx
   rw [hx] at he
   have he' := he
   obtain ⟨hlt, hlc, o, c, hv, ho, hx1, hx2⟩ := he'
   split at h
   · rename_i hsd hel
     cases hg : H.get id with
     | none => simp [hg] at h
     | some b =>
      simp only [hg, Option.isSome_some, cond_true, Option.some.injEq, Prod.mk.injEq] at h
      obtain ⟨rfl, rfl⟩ := h
      have hsd' : s = d := Nat.eq_of_beq_eq_true hsd
      subst hsd'
      have hse : s1 = el := by rw [hs] at hd; cases hd; rfl
      subst hse
      obtain ⟨cs, fz, hl⟩ := hH.row id b hg
      obtain ⟨f1, f2, f3⟩ := xc4 w (ρ.blk id) cs.size 1 (by omega)
      have f3 := f3 _ _ _ hl.heap
      let w' := w.freeze ⟨ρ.blk id, cs.size, none⟩ 1
      have hos : w'.os = w.os ∧ w'.tape = w.tape ∧ w'.output = w.output := by
       show (World.freeze _ _ _).os = _ ∧ (World.freeze _ _ _).tape = _ ∧ (World.freeze _ _ _).output = _
       unfold World.freeze; rw [if_neg (by omega)]; exact ⟨rfl, rfl, rfl⟩
      refine ⟨e x, w', ρ, .inl ?_, he, ⟨hH.lt, hH.inj, fun i b' hb' => ?_⟩, ⟨.refl _ _, Nat.le_refl _, by show _ ≤ w'.heap.size; rw [show w'.heap.size = _ from f1]; exact Nat.le_refl _, hos.1, hos.2.1, hos.2.2, fun k hk hn => f2 k (Ne.symm (hn id b hg)), fun i b' hb' => .inr ⟨i, b', hb', rfl⟩⟩⟩
      · have hsh : World.shape? w (ρ.blk id) = some (b.elem, cs.size) := by simp [World.shape?, hl.heap]
        simp only [execOp, convert, Sem.run_bind, run_underlying hs, Result.andThen_ok, hv, run_underlying hel, BEq.rfl]
        simp [markStringish, hsh]
        rfl
      obtain ⟨cs', fz', hl'⟩ := hH.row i b' hb'
      by_cases hii : ρ.blk i = ρ.blk id
      · have := hH.inj i id b' b hb' hg hii
        subst this
        rw [hg] at hb'; cases hb'
        have hcs : cs' = cs ∧ fz' = fz := by
         have := hl'.heap.symm.trans hl.heap
         simp only [Option.some.injEq, Obj.cells.injEq] at this
         exact ⟨this.1, this.2.2⟩
        obtain ⟨rfl, rfl⟩ := hcs
        refine ⟨cs', _, f3, hl'.size, ?_, hl'.room, hl'.whole, hl'.den⟩
        have ht := hl'.thaw
        split
        · right; simp
        right
        show cs'.size ≤ min fz'.1 cs'.size
        omega
      exact ⟨cs', fz', (f2 _ hii).trans hl'.heap, hl'.size, hl'.thaw, hl'.room, hl'.whole, hl'.den⟩
   simp at h
 simp at h
theorem xj2 {u : TypeId} {cells off n : Nat} (hc : P.cellsOf u = 1) (hd : 1 < P.depth) (h : off + n ≤ cells) : liesAt P P.depth u (cells / P.cellsOf u) off u n = true := by
 obtain ⟨d, hd'⟩ : ∃ d, P.depth = d + 1 := ⟨P.depth - 1, by omega⟩
 have hs : sameLayout P P.depth u u = true := by rw [hd']; simp [sameLayout]
 rw [hd', liesAt, hc]
 have hr : rowAt P (fun x => sameLayout P P.depth x u) P.depth u (cells / 1) off n = true := by
  rw [hd', rowAt, hc]
  rw [← hd']
  simp [hs, Nat.mod_one]
  exact .inl h
 rw [hr]; simp
theorem xdf (a : Addr) : ∀ (ns : List Int) (i : Nat) (acc : ByteArray), (∀ j v, (ns.map (Value.int .u8 ·))[j]? = some v → w.cell? (a.add (i + j)) = some v) →
 (loadBytes (a.add i) acc ns.length).run P w = .ok (ns.foldl (fun b k => b.push (UInt8.ofNat k.toNat)) acc) w
 | [], i, acc, _ => rfl
 | k :: ns, i, acc, h => by
  have h0 := h 0 (.int .u8 k) (by simp)
  rw [Nat.add_zero] at h0
  have ih := xdf a ns (i + 1) (acc.push (UInt8.ofNat k.toNat)) (fun j v hj => by
   have := h (j + 1) v (by simpa using hj)
   rw [show i + (j + 1) = i + 1 + j from by omega] at this; exact this)
  have hadd : (a.add i).add 1 = a.add (i + 1) := by
   unfold Addr.add
   by_cases hi : i = 0
   · subst hi; simp
   simp [hi]; omega
  simp only [List.length_cons, loadBytes, Sem.run_bind, run_load, h0, Result.andThen_ok, hadd]
  exact ih
theorem xfb {args : Array Operand} {ats : Array TypeId} (hH : HOK ρ H w) (h : actA P H ev ⟨dst, .call ⟨.builtin .unsafeString, args, ats⟩, ty, pos, after, guard⟩ = some (r, H'))
 (he : EvOK ρ H.next ev e args.toList) : Does P e ρ H w ⟨dst, .call ⟨.builtin .unsafeString, args, ats⟩, ty, pos, after, guard⟩ r H' := by
 simp only [actA] at h
 split at h
 · rename_i pt tl id off kd n hats hargs
   obtain ⟨p, q, hpq⟩ : ∃ p q, args.toList = [p, q] := by
    cases hl : args.toList with
    | nil => simp [hl] at hargs
    | cons p l => cases l with
     | nil => simp [hl] at hargs
     | cons q l => cases l with
      | nil => exact ⟨p, q, rfl⟩
      | cons _ _ => simp [hl] at hargs
   rw [hpq] at hargs he
   simp only [List.map_cons, List.map_nil, List.cons.injEq, and_true] at hargs
   obtain ⟨hp, hq⟩ := hargs
   have hep := he p (by simp)
   have heq := he q (by simp)
   rw [hp] at hep; rw [hq] at heq
   obtain ⟨hlt, hv⟩ := hep
   have hvq : e q = .int kd n := heq.1
   have hA : args = #[p, q] := Array.toList_inj.1 (by simpa using hpq)
   subst hA
   have hat : ats[0]? = some pt := by
    have : ats.toList[0]? = some pt := by rw [hats]; rfl
    simpa using this
   split at h
   · rename_i u b hpt hg
     split at h
     · rename_i hu
       cases hb1 : (Nat.beq u b.elem && (decide (0 < n) && decide (n < 1000000))) with
       | false => simp only [hb1, cond_false, reduceCtorEq] at h
       | true =>
        simp only [hb1, cond_true] at h
        simp only [Bool.and_eq_true, Nat.beq_eq, decide_eq_true_eq] at hb1
        obtain ⟨hub, hn0, hn1⟩ := hb1
        split at h
        · rename_i s hs
          cases hb2 : (Nat.beq (P.cellsOf u) 1 && Nat.blt 1 P.depth) with
          | false => simp only [hb2, cond_false, reduceCtorEq] at h
          | true =>
           simp only [hb2, cond_true, Option.some.injEq, Prod.mk.injEq] at h
           simp only [Bool.and_eq_true, Nat.beq_eq, Nat.blt_eq] at hb2
           obtain ⟨rfl, rfl⟩ := h
           simp only [Option.bind_eq_some_iff] at hs
           obtain ⟨l, hcut, hby⟩ := hs
           obtain ⟨vs, hrun, hdv, hcell⟩ := xly (P := P) hH hg hcut
           obtain ⟨ns, hvs, hs2⟩ := xe0 hby hdv
           obtain ⟨cs, fz, hl⟩ := hH.row id b hg
           have hll := xc6 hcut
           have hlen : ns.length = n.toNat := by have := hdv.len; rw [hvs] at this; simp at this; omega
           have hin : off + n.toNat ≤ b.cells.length := by
            rcases xmd hcut (R := fun _ _ => True) (m := b.cells.map fun _ => default) (All2.of (by simp) fun _ _ _ _ _ => trivial) with h1 | h1
            · omega
            omega
           have hroom := hl.room
           let a : Addr := ⟨ρ.blk id, ρ.base id + off, none⟩
           obtain ⟨f1, f2, f3⟩ := xc4 w (ρ.blk id) (ρ.base id + off) n.toNat (by omega)
           let w' := w.freeze a n.toNat
           have hos : w'.os = w.os ∧ w'.tape = w.tape ∧ w'.output = w.output := by
            show (World.freeze _ _ _).os = _ ∧ (World.freeze _ _ _).tape = _ ∧ (World.freeze _ _ _).output = _
            unfold World.freeze; rw [if_neg (by omega)]; exact ⟨rfl, rfl, rfl⟩
           obtain ⟨hD, hK⟩ := xof hH id
           have hrow : ∀ i b', (H.set id none).get i = some b' → ρ.blk i ≠ ρ.blk id := fun i b' h' e => by
            rw [AH.get_set] at h'
            split at h'
            · simp at h'
            rename_i hne
            have hb' : H.get i = some b' := h'
            exact hne (hH.inj i id b' b hb' hg e)
           refine ⟨.string s, w', ρ, .inl ?_, ⟨rfl, rfl⟩, ⟨hD.lt, hD.inj, fun i b' hb' => ?_⟩, ⟨.refl _ _, Nat.le_refl _, by show _ ≤ w'.heap.size; rw [show w'.heap.size = _ from f1]; exact Nat.le_refl _, hos.1, hos.2.1, hos.2.2, fun k hk hn => f2 k (Ne.symm (hn id b hg)), hK.come⟩⟩
           · have hsh : World.shape? w (ρ.blk id) = some (u, cs.size) := by simp [World.shape?, hl.heap, hub]
             have hlies := xj2 (P := P) (cells := cs.size) (off := ρ.base id + off) (n := n.toNat) hb2.1 hb2.2 (by omega)
             have hvar : (variablesAt a u n.toNat).run P w = .ok true w := by
              simp only [variablesAt, Sem.run_bind, run_program, Result.andThen_ok, run_shape]
              have hsh' : World.shape? w a.block = some (u, cs.size) := hsh
              rw [hsh']
              simp only [Sem.run_pure]
              rw [show liesAt P P.depth u (cs.size / P.cellsOf u) a.off u n.toNat = true from hlies]
             have hlb := xdf (P := P) (w := w) a ns 0 .empty (fun j v hj => by
              rw [← hvs] at hj
              show w.cell? ((⟨ρ.blk id, ρ.base id + off, none⟩ : Addr).add (0 + j)) = _
              rw [Nat.zero_add, xcG]; exact hcell j v hj)
             rw [hlen, ← hs2] at hlb
             have hlb' : (loadBytes a .empty n.toNat).run P w = .ok s w := hlb
             have hrun : (Builtin.unsafeString_ ats ty #[e p, e q]).run P w = .ok (.string s) w' := by
              rw [hv, hvq]
              have hn' : ¬ n < 0 := by omega
              have hn'' : ¬ 9223372036854775807 < n := by omega
              have hmax : IntKind.i64.max = 9223372036854775807 := rfl
              have hn3 : ¬ n = 0 := by omega
              show ((do
               let k ← asInt (.int kd n)
               let some pt := ats[0]? | stuck "unsafe.String: no argument types"
               if k < 0 then runtimePanic (.error "unsafe.String: len out of range")
               if k > IntKind.i64.max then unsupported (.unsafePointer "String: a length above the largest int")
               if k = 0 then pure (.string .empty)
               else if ← variablesAt a (← elemOf pt) k.toNat then do
                let s ← loadBytes a .empty k.toNat
                freeze a k.toNat
                pure (.string s)
               else unsupported (.unsafePointer "String: not so many bytes at ptr") : Sem Value)).run P w = _
              simp [asInt, asIntOf, hat, hn', hmax, hn'', hn3, elemOf, run_underlying hpt, hvar, hlb']
              rfl
             simp [execOp, resolve, invoke, builtin, hrun]
           obtain ⟨cs', fz', hl'⟩ := hD.row i b' hb'
           exact ⟨cs', fz', (f2 _ (hrow i b' hb')).trans hl'.heap, hl'.size, hl'.thaw, hl'.room, hl'.whole, hl'.den⟩
        simp at h
     simp at h
   simp at h
 simp at h
theorem xkq {o : Oper} (hH : HOK ρ H w) (h : actA P H ev o = some (r, H')) (he : EvOK ρ H.next ev e o.op.operands.toList) : Does P e ρ H w o r H' := by
 obtain ⟨dst, op, ty, pos, after, guard⟩ := o
 cases op with
 | alloc t => exact a_alloc hH h
 | box t x => exact a_box hH h (he x (by simp [Op.operands]))
 | buildSlice t n ps => exact xhq hH h (by simpa [Op.operands] using he)
 | makeSlice t a b => exact xig hH h (he a (by simp [Op.operands])) (he b (by simp [Op.operands]))
 | store t a x => exact a_store hH h (he a (by simp [Op.operands])) (he x (by simp [Op.operands]))
 | convert s d x => exact xmD hH h (he x (by simp [Op.operands]))
 | call c =>
  obtain ⟨callee, args, ats⟩ := c
  cases callee with
  | value f => simp [actA] at h
  | invoke r m => simp [actA] at h
  | builtin b =>
   cases b with
   | append => exact xnX hH h (by simpa [Op.operands, Call.operands] using he)
   | unsafeString => exact xfb hH h (by simpa [Op.operands, Call.operands] using he)
   | _ => simp [actA] at h
 | _ => simp [actA] at h
end
end
section
open Go
structure FrOK (D : List Deferred) (ρ : Rho) (n : Nat) (fr : Fr) (a : Act) : Prop where
 size : a.tmps.size = fr.size
 den : ∀ t, (fr.get t).den ρ n (a.tmps.getD t undef)
 defers : a.defers = D
theorem FrOK.mono {D : List Deferred} {ρ ρ' : Rho} {n m : Nat} {fr : Fr} {a : Act} (h : FrOK D ρ n fr a) (hx : Ext ρ ρ' n) (hm : n ≤ m) : FrOK D ρ' m fr a :=
 ⟨h.size, fun t => AR.den_mono hx hm _ _ (h.den t), h.defers⟩
theorem FrOK.ev {D : List Deferred} {ρ : Rho} {n : Nat} {fr : Fr} {a : Act} (h : FrOK D ρ n fr a) : ∀ x : Operand, (fr.ev x).den ρ n (a.eval x)
 | .tmp t => h.den t
 | .const v => by
  show ((AR.of? v).getD .any).den ρ n v
  cases hv : AR.of? v with
  | none => trivial
  | some x => exact AR.of_den ρ n v x hv
 | .global g => ⟨rfl, rfl⟩
 | .func f => rfl
theorem FrOK.put {D : List Deferred} {ρ : Rho} {n : Nat} {fr fr' : Fr} {a : Act} (h : FrOK D ρ n fr a) {d : Option Tmp} {r : AR} {v : Value} (hp : fr.put d r = some fr') (hr : r.den ρ n v) : FrOK D ρ n fr' (a.put d v) := by
 rw [Fr.put_def] at hp
 cases d with
 | none => simp only [Option.some.injEq] at hp; subst hp; exact h
 | some d =>
  simp only at hp
  cases hb : Nat.blt d fr.size with
  | false => simp only [hb, cond_false, reduceCtorEq] at hp
  | true =>
   simp only [hb, cond_true, Option.some.injEq] at hp
   subst hp
   have hlt : d < a.tmps.size := by rw [h.size]; simpa [Nat.blt_eq] using hb
   refine ⟨by simp [Act.put, h.size], fun t => ?_, h.defers⟩
   simp only [Fr.get_put, Act.put]
   by_cases ht : t = d
   · subst ht
     rw [if_pos rfl]
     simp only [Array.getD_eq_getD_getElem?, Array.getElem?_setIfInBounds_self_of_lt hlt]
     exact hr
   rw [if_neg ht]
   simp only [Array.getD_eq_getD_getElem?, Array.getElem?_setIfInBounds_ne (Ne.symm ht)]
   have := h.den t
   simpa [Array.getD_eq_getD_getElem?] using this
theorem FrOK.flush {D : List Deferred} {ρ : Rho} {n : Nat} {fr : Fr} {a : Act} (h : FrOK D ρ n fr a) : FrOK D ρ n fr.flush a :=
 ⟨h.size, fun t => by
  rcases Fr.get_flush fr t with e | e <;> rw [e]
  · exact h.den t
  trivial, h.defers⟩
def noNG (P : Program) : Prop := ∀ (f : Nat) (fn : Func), P.funcs[f]? = some fn → fn.body.isSome = true → (fn.name == "runtime.NumGoroutine") = false
def OutEv (ρ : Rho) (n : Nat) : Out → Ending → Prop
 | .ret r, e => ∃ v, e = .returned v ∧ r.den ρ n v
 | .pan x, e => ∃ v, e = .panicked [{ v, recovered := false }] ∧ x.den ρ n v
def xcp (P : Program) (call : xa2) : Prop := ∀ (f : FuncId) (az : List AV) (H : AH) (out : Out) (H' : AH), call f az H = some (out, H') → ∀ (ρ : Rho) (w : World) (vs : Array Value), HOK ρ H w →
 All2 (AV.den ρ H.next) az vs.toList → Calls P f vs w fun e w' => ∃ ρ', OutEv ρ' H'.next out e ∧ HOK ρ' H' w' ∧ Kp H ρ w H' ρ' w'
section
variable {P : Program} {ρ : Rho} {H : AH} {w : World} {e : Operand → Value} {ev : Ev} {D : List Deferred}
theorem xef : ∀ {l : List Operand} {az : List AV}, xho ev l = some az → EvOK ρ H.next ev e l → All2 (AV.den ρ H.next) az (l.map e)
 | [], az, h, _ => by simp [xho] at h; subst h; trivial
 | x :: l, az, h, he => by
  simp only [xho] at h
  split at h
  · rename_i a r ha hr
    simp only [Option.some.injEq] at h; subst h
    have hx := he x (by simp)
    rw [ha] at hx
    exact ⟨hx, xef hr fun y hy => he y (by simp [hy])⟩
  simp at h
theorem xc2 (hn : noNG P) {g : FuncId} (h : xbS P g = true) (args : Array Value) : (callFunc g args).run P w = .ok (.enter g args) w := by
 unfold xbS at h
 split at h
 · rename_i fn hfn
   have hne := hn g fn hfn h
   have hb : fn.body.isNone = false := by cases hb : fn.body <;> simp_all
   have hbn : ¬ fn.body = none := by intro hh; rw [hh] at h; simp at h
   simp only [callFunc, Sem.run_bind, run_program, Result.andThen_ok, hfn, hne, Bool.false_eq_true, if_false, hb, Sem.run_pure]
 simp at h
def xih (ρ : Rho) (n : Nat) : AC ⊕ (Nat × Nat) → Place → Prop
 | .inl c, .val v => c.den ρ n v
 | .inr (id, o), .var a => id < n ∧ a = ⟨ρ.blk id, ρ.base id + o, none⟩
 | _, _ => False
theorem xdK : ∀ {l : List FieldStep} {t xt : TypeId} {x y : AC ⊕ (Nat × Nat)} {p : Place}, xdL P l t x = some (xt, y) → xih ρ H.next x p →
 ∃ q, (follow l t p).run P w = .ok (xt, q) w ∧ xih ρ H.next y q
 | [], t, xt, x, y, p, h, hp => by
  simp only [xdL, Option.some.injEq, Prod.mk.injEq] at h
  obtain ⟨rfl, rfl⟩ := h
  exact ⟨p, rfl, hp⟩
 | s :: rest, t, xt, x, y, p, h, hp => by
  simp only [xdL] at h
  split at h
  · rename_i off ft k hf
    obtain ⟨fields, fy, hu, hy, rfl, rfl, hs⟩ := xd0 hf
    split at h
    · rename_i id o hd
      cases p with
      | var a => exact hp.elim
      | val v =>
       obtain ⟨hl, hv⟩ := hp
       obtain ⟨q, hq, hqo⟩ := xdK (p := .var ⟨ρ.blk id, ρ.base id + (o + fy.offset), none⟩) h ⟨hl, rfl⟩
       refine ⟨q, ?_, hqo⟩
       simp [follow, run_underlying hu, hy, hd, Place.get, hv, asAddr, fieldPlace, xaT hs, xcG, Nat.add_assoc]
       exact hq
    · rename_i id o hd
      cases p with
      | val v => exact hp.elim
      | var a =>
       obtain ⟨hl, hv⟩ := hp
       obtain ⟨q, hq, hqo⟩ := xdK (p := .var ⟨ρ.blk id, ρ.base id + (o + fy.offset), none⟩) h ⟨hl, rfl⟩
       refine ⟨q, ?_, hqo⟩
       simp [follow, run_underlying hu, hy, hd, hv, fieldPlace, xaT hs, xcG, Nat.add_assoc]
       exact hq
    simp at h
  simp at h
theorem xgH {xt : TypeId} {x : AC ⊕ (Nat × Nat)} {ptr : Bool} {c : AC} {p : Place} (h : xes P xt x ptr = some c) (hp : xih ρ H.next x p) (wr : Option String) :
 ∃ v, (receiverAt xt p ptr wr).run P w = .ok v w ∧ c.den ρ H.next v := by
 unfold xes at h
 split at h
 · rename_i el c' hu
   simp only [Option.some.injEq] at h; subst h
   cases p with
   | var a => exact hp.elim
   | val v => exact ⟨v, by simp [receiverAt, run_underlying hu, Place.get], hp⟩
 · simp at h
 · rename_i d id o hne hu
   simp only [Option.some.injEq] at h; subst h
   cases p with
   | val v => exact hp.elim
   | var a =>
    obtain ⟨hl, rfl⟩ := hp
    refine ⟨_, ?_, hl, rfl⟩
    simp only [receiverAt, Sem.run_bind, run_underlying hu, Result.andThen_ok]
    cases d <;> first | rfl | (exact absurd hu (by intro hh; simp_all))
 · rename_i d c' hne hu
   simp only [Option.some.injEq] at h; subst h
   cases p with
   | var a => exact hp.elim
   | val v =>
    refine ⟨v, ?_, hp⟩
    simp only [receiverAt, Sem.run_bind, run_underlying hu, Result.andThen_ok]
    cases d <;> first | rfl | (exact absurd hu (by intro hh; simp_all))
 simp at h
theorem xj0 {t : TypeId} {c r : AC} {name : String} {f : FuncId} {v : Value} (h : xhP P t c name = some (f, r)) (hc : c.den ρ H.next v) (fuel : Nat) :
 ∃ u, (method (fuel + 1) t v name).run P w = .ok (f, u) w ∧ r.den ρ H.next u := by
 unfold xhP at h
 split at h
 · rename_i i hi
   split at h
   · rename_i m hm
     split at h
     · rename_i xt x g ptr hf hg
       simp only [Option.map_eq_some_iff, Prod.mk.injEq] at h
       obtain ⟨r', hr, rfl, rfl⟩ := h
       obtain ⟨q, hq, hqo⟩ := xdK (P := P) (w := w) (p := .val v) hf hc
       obtain ⟨u, hu, hd⟩ := xgH (P := P) (w := w) hr hqo (if m.path.isEmpty then some ((name.splitOn ".").getLastD name) else none)
       refine ⟨u, ?_, hd⟩
       simp only [method, Sem.run_bind, typeInfo, run_program, Result.andThen_ok, hi, Sem.run_pure, hm, hq, hg, hu]
     simp at h
   simp at h
 simp at h
theorem xhl (hn : noNG P) {o : Oper} {f : FuncId} {az : List AV} (h : xbk P ev o = some (f, az)) (he : EvOK ρ H.next ev e o.op.operands.toList) :
 ∃ vs, (execOp e o).run P w = .ok (.enter f vs) w ∧ All2 (AV.den ρ H.next) az vs.toList := by
 obtain ⟨dst, op, ty, pos, after, guard⟩ := o
 cases op with
 | call c =>
  obtain ⟨callee, args, ats⟩ := c
  cases callee with
  | value g =>
   simp only [xbk] at h
   split at h
   · rename_i x as' hg ha
     split at h
     · rename_i k fs cs hf
       cases hb : xbS P k with
       | false => simp only [hb, cond_false, reduceCtorEq] at h
       | true =>
        simp only [hb, cond_true, Option.some.injEq, Prod.mk.injEq] at h
        obtain ⟨rfl, rfl⟩ := h
        have h1 := he g (by simp [Op.operands, Call.operands])
        rw [hg] at h1
        obtain ⟨fv, cv, hv, hdf, hdc⟩ := xfF hf h1
        have hda := xef ha (fun y hy => he y (by simp [Op.operands, Call.operands] at hy ⊢; exact .inr hy) : EvOK ρ H.next ev e args.toList)
        refine ⟨fv ++ args.map e ++ cv, ?_, ?_⟩
        · simp [execOp, resolve, invoke, hv, Deferred.ofValue, xc2 hn hb]
        have lift : ∀ {l : List AC} {m : List Value}, All2 (AC.den ρ H.next) l m → All2 (AV.den ρ H.next) (l.map .c) m := by
         intro l m hh
         refine All2.of (by simpa using hh.len) fun i x y hx hy => ?_
         simp only [List.getElem?_map, Option.map_eq_some_iff] at hx
         obtain ⟨c, hc, rfl⟩ := hx
         obtain ⟨y', hy', hd⟩ := hh.get hc
         rw [hy] at hy'; cases hy'; exact hd
        simp only [Array.toList_append, Array.toList_map, List.append_assoc]
        exact (lift hdf).app (hda.app (lift hdc))
     simp at h
   simp at h
  | invoke r name =>
   simp only [xbk] at h
   split at h
   · rename_i t c as' hr ha
     split at h
     · rename_i g x hm
       cases hb : xbS P g with
       | false => simp only [hb, cond_false, reduceCtorEq] at h
       | true =>
        simp only [hb, cond_true, Option.some.injEq, Prod.mk.injEq] at h
        obtain ⟨rfl, rfl⟩ := h
        have h1 := he r (by simp [Op.operands, Call.operands])
        rw [hr] at h1
        obtain ⟨v, hv, hd⟩ := h1
        have hda := xef ha (fun y hy => he y (by simp [Op.operands, Call.operands] at hy ⊢; exact .inr hy) : EvOK ρ H.next ev e args.toList)
        obtain ⟨u, hu, hdu⟩ := xj0 (P := P) (w := w) hm hd (P.types.size + (Made.depth - 1))
        have hdp : 0 < Made.depth := by decide
        have hdep : P.types.size + (Made.depth - 1) + 1 = P.types.size + Made.depth := by omega
        rw [hdep] at hu
        refine ⟨#[u] ++ args.map e, ?_, ?_⟩
        · have hex : (#[e r] ++ args.map e).extract 1 (#[e r] ++ args.map e).size = args.map e := by
           apply Array.ext'
           simp [List.take_of_length_le]
          have h0 : (#[e r] ++ args.map e)[0]? = some (.iface t v) := by rw [Array.getElem?_append_left (by simp), hv]; rfl
          simp only [execOp, resolve, Sem.run_bind, Sem.run_pure, Result.andThen_ok, invoke, h0, hex]
          simp [callMethod, hu, xc2 hn hb]
        have hl : (#[u] ++ args.map e).toList = u :: args.toList.map e := by simp
        rw [hl]; exact ⟨hdu, hda⟩
     simp at h
   simp at h
  | builtin b => simp [xbk] at h
 | _ => simp [xbk] at h
theorem xbP (hn : noNG P) {call : xa2} (hcall : xcp P call) {o : Oper} {out : Out} {H' : AH} (h : opA P call ev H o = some (out, H')) {a : Act} (hH : HOK ρ H w)
 (he : EvOK ρ H.next ev a.eval o.op.operands.toList) {next : Act → World → Prop} {Q : Exit → Act → World → Prop}
 (hret : ∀ r v w' ρ', out = .ret r → r.den ρ' H'.next v → HOK ρ' H' w' → Kp H ρ w H' ρ' w' → next (a.put o.dst v) w')
 (hpan : ∀ x v w' ρ', out = .pan x → x.den ρ' H'.next v → HOK ρ' H' w' → Kp H ρ w H' ρ' w' → Q (.panic [{ v, recovered := false }]) a w') : o.wp P a w next Q := by
 unfold opA at h
 unfold Oper.wp
 split at h
 · rename_i r hp
   simp only [Option.some.injEq, Prod.mk.injEq] at h
   obtain ⟨rfl, rfl⟩ := h
   obtain ⟨v, hv, hd⟩ := xev hp he w
   rw [hv]; exact hret r v w ρ rfl hd hH (Kp.refl _ _ _)
 split at h
 · rename_i r hp
   simp only [Option.some.injEq, Prod.mk.injEq] at h
   obtain ⟨rfl, rfl⟩ := h
   obtain ⟨v, hv, hd⟩ := xet hH hp he
   rw [hv]; exact hret r v w ρ rfl hd hH (Kp.refl _ _ _)
 split at h
 · rename_i r H1 hp
   simp only [Option.some.injEq, Prod.mk.injEq] at h
   obtain ⟨rfl, rfl⟩ := h
   obtain ⟨v, w', ρ', hv, hd, hH', hK⟩ := xkq hH hp he
   rcases hv with hv | ⟨hv, rfl⟩
   · rw [hv]; exact hret r v w' ρ' rfl hd hH' hK
   rw [hv]; exact hret r undef w' ρ' rfl hd hH' hK
 split at h
 · rename_i f az hc
   obtain ⟨vs, hv, hda⟩ := xhl (w := w) hn hc he
   rw [hv]
   simp only [Oper.upon]
   split at h
   · rename_i r H1 hcl
     simp only [Option.some.injEq, Prod.mk.injEq] at h
     obtain ⟨rfl, rfl⟩ := h
     refine (hcall f az H _ _ hcl ρ w vs hH hda).mono ?_
     rintro en w' ⟨ρ', ⟨v, rfl, hd⟩, hH', hK⟩
     exact hret r v w' ρ' rfl hd hH' hK
   · rename_i x H1 hcl
     simp only [Option.some.injEq, Prod.mk.injEq] at h
     obtain ⟨rfl, rfl⟩ := h
     refine (hcall f az H _ _ hcl ρ w vs hH hda).mono ?_
     rintro en w' ⟨ρ', ⟨v, rfl, hd⟩, hH', hK⟩
     exact hpan x v w' ρ' rfl hd hH' hK
   simp at h
 split at h
 · rename_i r hp
   simp only [Option.some.injEq, Prod.mk.injEq] at h
   obtain ⟨rfl, rfl⟩ := h
   have hp' : scal P ev o = some r := by
    unfold xjl at hp
    split at hp
    · exact hp
    simp at hp
   obtain ⟨v, hv, hd⟩ := xaY hp' he w
   rw [hv]; exact hret r v w ρ rfl hd hH (Kp.refl _ _ _)
 simp only [Option.map_eq_some_iff, Prod.mk.injEq] at h
 obtain ⟨x, hp, rfl, rfl⟩ := h
 have key : ∃ v, (execOp a.eval o).run P w = .halt (.panic v) w ∧ x.den ρ H.next v := by
  obtain ⟨dst, op, ty, pos, after, guard⟩ := o
  have pan : ∀ v : Value, (∃ t y, v = .iface t y) → (Instr.panic v).run P w = .halt (.panic v) w := by
   rintro v ⟨t, y, rfl⟩; simp [Instr.panic]
  cases op with
  | panic y =>
   have hy := he y (by simp [Op.operands])
   simp only [xct] at hp
   split at hp
   · rename_i t c hc
     simp only [Option.some.injEq] at hp; subst hp
     rw [hc] at hy
     obtain ⟨u, hu, hd⟩ := hy
     exact ⟨a.eval y, by simp [execOp, pan _ ⟨t, u, hu⟩], u, hu, hd⟩
   · rename_i t u hc
     simp only [Option.some.injEq] at hp; subst hp
     rw [hc] at hy
     exact ⟨a.eval y, by simp [execOp, pan _ ⟨t, u, hy.1⟩], hy⟩
   simp at hp
  | call c =>
   obtain ⟨callee, args, ats⟩ := c
   cases callee with
   | value f => simp [xct] at hp
   | invoke r m => simp [xct] at hp
   | builtin b =>
    cases b with
    | panic =>
     simp only [xct] at hp
     cases hl : args.toList with
     | nil => simp [hl] at hp
     | cons y l =>
      have hy := he y (by simp [Op.operands, Call.operands, hl])
      have hy0 : (args.map a.eval)[0]? = some (a.eval y) := by
       have : args[0]? = some y := by rw [← Array.getElem?_toList, hl]; rfl
       simp [this]
      have hg : (args.map a.eval).getD 0 .nilIface = a.eval y := by rw [Array.getD_eq_getD_getElem?, hy0]; rfl
      simp only [hl, List.map_cons] at hp
      split at hp
      · rename_i t c r hc
        simp only [Option.some.injEq] at hp; subst hp
        simp only [List.cons.injEq] at hc
        rw [hc.1] at hy
        obtain ⟨u, hu, hd⟩ := hy
        refine ⟨a.eval y, ?_, u, hu, hd⟩
        simp only [execOp, resolve, Sem.run_bind, Sem.run_pure, Result.andThen_ok, invoke, builtin, hg, pan _ ⟨t, u, hu⟩, Result.andThen_halt]
      · rename_i t u r hc
        simp only [Option.some.injEq] at hp; subst hp
        simp only [List.cons.injEq] at hc
        rw [hc.1] at hy
        refine ⟨a.eval y, ?_, hy⟩
        simp only [execOp, resolve, Sem.run_bind, Sem.run_pure, Result.andThen_ok, invoke, builtin, hg, pan _ ⟨t, u, hy.1⟩, Result.andThen_halt]
      simp at hp
    | _ => simp [xct] at hp
  | _ => simp [xct] at hp
 obtain ⟨v, hv, hd⟩ := key
 rw [hv]
 exact hpan x v w ρ rfl hd hH (Kp.refl _ _ _)
theorem xnM {n : Nat} {fr : Fr} {a : Act} {d : Tmp} (h : (fr.get d).den ρ n (a.tmps.getD d undef)) {b : Bool} (hd : fr.get d = .one (.c (.lit (.bool b)))) : a.tmps[d]? = some (.bool b) := by
 rw [hd] at h
 have h1 := h.1
 rw [Array.getD_eq_getD_getElem?] at h1
 cases hx : a.tmps[d]? with
 | none => rw [hx] at h1; simp [undef] at h1
 | some x => rw [hx] at h1; simp at h1; rw [h1]
theorem xgv {n : Nat} {ops : Array Oper} {fr : Fr} {a : Act} {o : Oper} (hF : ∀ g c d, o.guard = some (g, c) → (ops[g]?).bind (·.dst) = some d → (fr.get d).den ρ n (a.tmps.getD d undef)) {b : Bool} (h : xa9 ops.toList fr o = some b) : Region.wanted o (yielded ops a.tmps) = b := by
 unfold xa9 at h
 unfold Region.wanted
 cases hg : o.guard with
 | none => simp only [hg, Option.some.injEq] at h ⊢; exact h
 | some p =>
  obtain ⟨j, want⟩ := p
  have hF := fun d => hF j want d hg
  simp only [hg] at h ⊢
  have hj : ops.toList[j]? = ops[j]? := by simp
  rw [hj] at h
  unfold yielded
  cases hd : (ops[j]?).bind (·.dst) with
  | none =>
   simp only [hd, Option.some.injEq] at h
   subst h; simp
  | some d =>
   simp only [hd] at h
   split at h
   · rename_i c hc
     simp only [Option.some.injEq] at h; subst h
     have := xnM (hF d hd) hc
     simp only [Option.bind_some, this]
     cases c <;> cases want <;> rfl
   · rename_i hc
     simp only [Option.some.injEq] at h; subst h
     have hh := hF d hd
     rw [hc] at hh
     obtain ⟨vs, hv, hd'⟩ := hh
     have hne : ∀ c, a.tmps[d]? ≠ some (.bool c) := fun c hx => by
      rw [Array.getD_eq_getD_getElem?, hx] at hv; simp at hv
     simp only [Option.bind_some]
     cases hx : a.tmps[d]? with
     | none => rfl
     | some x => cases x <;> first | rfl | (exact absurd hx (hne _))
   simp at h
theorem xbM {ops : Array Oper} {fr : Fr} {a : Act} (hF : FrOK D ρ H.next fr a) {o : Oper} {b : Bool} (h : xa9 ops.toList fr o = some b) : Region.wanted o (yielded ops a.tmps) = b :=
 xgv (fun _ _ d _ _ => hF.den d) h
def ExE (ρ : Rho) (n : Nat) : Ex → Exit → Prop
 | .normal, x => x = .normal
 | .exit id, x => x = .exit id
 | .ret, x => x = .ret
 | .pan y, x => ∃ v, x = .panic [{ v, recovered := false }] ∧ y.den ρ n v
def xmF (D : List Deferred) (ρ : Rho) (H : AH) (w : World) (r : Ex × Fr × AH) (Q : Exit → Act → World → Prop) : Prop :=
 ∀ x a w' ρ', ExE ρ' r.2.2.next r.1 x → FrOK D ρ' r.2.2.next r.2.1 a → HOK ρ' r.2.2 w' → Kp H ρ w r.2.2 ρ' w' → Q x a w'
theorem xc0 (hn : noNG P) {call : xa2} (hcall : xcp P call) {ops : Array Oper} {Q : Exit → Act → World → Prop} :
 ∀ (l : List Oper) {fr : Fr} {ρ : Rho} {H : AH} {w : World} {a : Act} {r : Ex × Fr × AH}, xg0 P call ops.toList l fr H = some r → FrOK D ρ H.next fr a → HOK ρ H w → xmF D ρ H w r Q → wpList P ops Q l a w
 | [], fr, ρ, H, w, a, r, h, hF, hH, hQ => by
  simp only [xlz, Option.some.injEq] at h; subst h
  exact hQ .normal a w ρ rfl hF hH (Kp.refl _ _ _)
 | o :: l, fr, ρ, H, w, a, r, h, hF, hH, hQ => by
  rw [xj1] at h
  refine wpList_step fun K hK => ?_
  split at h
  · rename_i hw
    rw [if_pos (xbM hF hw)]
    split at h
    · rename_i r1 H1 ho
      split at h
      · rename_i fr1 hp
        refine xbP hn hcall ho hH (fun x _ => hF.ev x) (fun r2 v w' ρ' he hd hH' hK' => ?_) (fun x v w' ρ' he => by cases he)
        cases he
        refine hK _ _ (xc0 hn hcall l h ((hF.mono hK'.ext hK'.next).put hp hd) hH' fun x a2 w2 ρ2 h1 h2 h3 h4 => hQ x a2 w2 ρ2 h1 h2 h3 (hK'.trans h4))
      simp at h
    · rename_i x1 H1 ho
      simp only [Option.some.injEq] at h; subst h
      refine xbP hn hcall ho hH (fun x _ => hF.ev x) (fun r2 v w' ρ' he => by cases he) (fun x v w' ρ' he hd hH' hK' => ?_)
      cases he
      exact hQ _ a w' ρ' ⟨v, rfl, hd⟩ (hF.mono hK'.ext hK'.next) hH' hK'
    simp at h
  · rename_i hw
    rw [if_neg (by rw [xbM hF hw]; simp)]
    split at h
    · rename_i fr1 hp
      exact hK _ _ (xc0 hn hcall l h (hF.put hp ⟨#[], rfl, trivial⟩) hH hQ)
    simp at h
  simp at h
end
end
end Go.Proofs.YtbifklibdkjbeaaGreatDoor
