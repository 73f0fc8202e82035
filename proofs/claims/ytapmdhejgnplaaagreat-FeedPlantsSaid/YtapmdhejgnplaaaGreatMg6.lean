/-
  Conversions that make memory, unsafe.String, and all operations that make or write memory. No condition.
-/
import Derived.Test.YtapmdhejgnplaaaGreatMg5
namespace Go.Proofs.YtapmdhejgnplaaaGreat
open Go.RowKit
set_option linter.unusedVariables false
set_option linter.unusedSimpArgs false
set_option maxRecDepth 100000
section
open Go
section
variable {P : Program} {ρ : Rho} {H : AH} {w : World} {e : Operand -> Value} {ev : Ev}
variable {dst : Option Tmp} {ty : TypeId} {pos : String} {after : Array Edge} {guard : Option (Nat × Bool)} {r : AR} {H' : AH}
theorem xc7 (w : World) (b o k : Nat) (h : 0 < k) : (w.freeze ⟨b, o, none⟩ k).heap.size = w.heap.size /\ (∀ j, j ≠ b -> (w.freeze ⟨b, o, none⟩ k).heap[j]? = w.heap[j]?) /\
 ∀ cs t fz, w.heap[b]? = some (.cells cs t fz) -> (w.freeze ⟨b, o, none⟩ k).heap[b]? = some (.cells cs t (if fz.1 = fz.2 then (o, o + k) else (min fz.1 o, max fz.2 (o + k)))) := by
 unfold World.freeze
 rw [if_neg (by omega)]
 refine ⟨by simp, fun j hj => ?_, fun cs t fz hb => ?_⟩
 · simp only [Array.getElem?_modify]; rw [if_neg (Ne.symm hj)]
 simp only [Array.getElem?_modify, if_true, hb, Option.map_some]
 obtain ⟨lo, hi⟩ := fz
 simp only [beq_iff_eq]
theorem xmx {s d : TypeId} {x : Operand} (hH : HOK ρ H w) (h : actA P H ev ⟨dst, .convert s d x, ty, pos, after, guard⟩ = some (r, H')) (he : (ev x).den ρ H.next (e x)) :
 Does P e ρ H w ⟨dst, .convert s d x, ty, pos, after, guard⟩ r H' := by
 simp only [actA] at h
 split at h
 · rename_i el t hs hd hx
   rw [hx] at he
   have hv : e x = .string t := he.1
   split at h
   · rename_i hel hsz
     simp only [Option.some.injEq, Prod.mk.injEq] at h
     obtain ⟨rfl, rfl⟩ := h
     let q := Question.appendCap t.size 0 el
     let c := q.cut (w.tape w.drawn q)
     have hc : t.size <= c := by show _ <= t.size + _; omega
     let cs : Array Value := t.data.map (fun b => .int .u8 b.toNat) ++ Array.replicate (c - t.size) (.int .u8 0)
     have hcs : cs.size = c := by
      show (t.data.map _ ++ Array.replicate _ _).size = c
      simp only [Array.size_append, Array.size_map, Array.size_replicate]
      have : t.data.size = t.size := rfl
      omega
     let w1 : World := w.drew.alloc (.cells cs el)
     have hw1 : w1.heap[w.heap.size]? = some (.cells cs el (0, 0)) := by show (w.heap.push _)[_]? = _; simp
     obtain ⟨f1, f2, f3⟩ := xc7 w1 w.heap.size cs.size 1 (by omega)
     have f3 := f3 _ _ _ hw1
     simp only [if_true] at f3
     let w' := w1.freeze ⟨w.heap.size, cs.size, none⟩ 1
     have hoth : ∀ k, k < w.heap.size -> k ≠ w.heap.size -> w'.heap[k]? = w.heap[k]? := fun k hk hne => (f2 k hne).trans (by show (w.heap.push _)[k]? = _; rw [Array.getElem?_push, if_neg (by omega)])
     have hsz' : w.heap.size <= w'.heap.size := by
      have : w'.heap.size = w1.heap.size := f1
      have h2 : w1.heap.size = w.heap.size + 1 := by show (w.heap.push _).size = _; simp
      omega
     have hos : w'.os = w.os /\ w'.tape = w.tape /\ w'.output = w.output := by
      show (World.freeze _ _ _).os = _ /\ (World.freeze _ _ _).tape = _ /\ (World.freeze _ _ _).output = _
      unfold World.freeze; rw [if_neg (by omega)]; exact ⟨rfl, rfl, rfl⟩
     have hdl : (t.data.toList.map fun b => AC.lit (.int .u8 b.toNat)).length = t.size := by simp
     refine ⟨.slice (some ⟨w.heap.size, 0, none⟩) t.size c, w', ρ.upd H.next w.heap.size 0 cs.size, .inl ?_, ⟨Nat.lt_succ_self _, Nat.le_refl _, 0, c, by simp [Rho.upd], fun _ => by simp [Rho.upd], fun hh => by simp at hh, fun _ => ⟨hc, by simp [Rho.upd, hcs]⟩⟩, ?_,
      xot hsz' hos.1 hos.2.1 hos.2.2 hoth (Nat.le_refl _) hH⟩
     · have hfor : q.forced = false := rfl
       have hrun : (Conv.stringToBytes el t).run P w = .ok (.slice (some ⟨w.heap.size, 0, none⟩) t.size c) w' := by
        simp only [Conv.stringToBytes, Sem.run_bind, run_choose]
        rw [show (Question.appendCap t.size 0 el).forced = false from rfl]
        simp only [Bool.false_eq_true, if_false, Result.andThen_ok, newRow, Sem.run_bind, run_newObj, Sem.run_pure, markStringish, run_shape]
        have hshape : World.shape? w1 w.heap.size = some (el, cs.size) := by simp [World.shape?, hw1]
        simp only [World.shape?] at hshape
        show Result.andThen _ _ = _
        simp [World.shape?]
        refine ⟨rfl, ?_⟩
        have hX : t.size + (c - t.size) = cs.size := by omega
        show w1.freeze ⟨w.heap.size, t.size + (c - t.size), none⟩ 1 = w1.freeze ⟨w.heap.size, cs.size, none⟩ 1
        rw [hX]
       simp only [execOp, convert, Sem.run_bind, run_underlying hs, run_underlying hd, Result.andThen_ok, hv, run_underlying hel, hrun, Sem.run_pure]
     refine xiW hH hsz' hoth f3 (fun id b hb => by have := hH.lt_size hb; omega) (.inr (Nat.le_refl _)) (by rw [hdl]; omega) (fun hh => by simp at hh) fun i y hy => ?_
     simp only [List.getElem?_map, Option.map_eq_some_iff] at hy
     obtain ⟨b, hb, rfl⟩ := hy
     refine ⟨.int .u8 b.toNat, ?_, rfl, rfl⟩
     have hi : i < t.data.size := by have := (List.getElem?_eq_some_iff.1 hb).1; simpa using this
     rw [Nat.zero_add]
     show (t.data.map _ ++ Array.replicate _ _)[i]? = _
     rw [Array.getElem?_append_left (by simpa using hi)]
     have hb' : t.data[i]? = some b := by simpa using hb
     simp [hb']
   simp at h
 · rename_i s1 el id off len cp es ex hs hd hx
   rw [hx] at he
   have he' := he
   obtain ⟨hlt, hlc, o, c, hv, ho, hx1, hx2⟩ := he'
   split at h
   · rename_i hsd hel
     cases hg : H.get id with
     | none => simp [hg] at h
     | some b =>
      simp only [hg, Option.isSome_some, cond_true, Option.some.injEq, Prod.mk.injEq] at h
      obtain ⟨rfl, rfl⟩ := h
      have hsd' : s = d := Nat.eq_of_beq_eq_true hsd
      subst hsd'
      have hse : s1 = el := by rw [hs] at hd; cases hd; rfl
      subst hse
      obtain ⟨cs, fz, hl⟩ := hH.row id b hg
      obtain ⟨f1, f2, f3⟩ := xc7 w (ρ.blk id) cs.size 1 (by omega)
      have f3 := f3 _ _ _ hl.heap
      let w' := w.freeze ⟨ρ.blk id, cs.size, none⟩ 1
      have hos : w'.os = w.os /\ w'.tape = w.tape /\ w'.output = w.output := by
       show (World.freeze _ _ _).os = _ /\ (World.freeze _ _ _).tape = _ /\ (World.freeze _ _ _).output = _
       unfold World.freeze; rw [if_neg (by omega)]; exact ⟨rfl, rfl, rfl⟩
      refine ⟨e x, w', ρ, .inl ?_, he, ⟨hH.lt, hH.inj, fun i b' hb' => ?_⟩, ⟨.refl _ _, Nat.le_refl _, by show _ <= w'.heap.size; rw [show w'.heap.size = _ from f1]; exact Nat.le_refl _, hos.1, hos.2.1, hos.2.2, fun k hk hn => f2 k (Ne.symm (hn id b hg)), fun i b' hb' => .inr ⟨i, b', hb', rfl⟩⟩⟩
      · have hsh : World.shape? w (ρ.blk id) = some (b.elem, cs.size) := by simp [World.shape?, hl.heap]
        simp only [execOp, convert, Sem.run_bind, run_underlying hs, Result.andThen_ok, hv, run_underlying hel, BEq.rfl]
        simp [markStringish, hsh]
        rfl
      obtain ⟨cs', fz', hl'⟩ := hH.row i b' hb'
      by_cases hii : ρ.blk i = ρ.blk id
      · have := hH.inj i id b' b hb' hg hii
        subst this
        rw [hg] at hb'; cases hb'
        have hcs : cs' = cs /\ fz' = fz := by
         have := hl'.heap.symm.trans hl.heap
         simp only [Option.some.injEq, Obj.cells.injEq] at this
         exact ⟨this.1, this.2.2⟩
        obtain ⟨rfl, rfl⟩ := hcs
        refine ⟨cs', _, f3, hl'.size, ?_, hl'.room, hl'.whole, hl'.den⟩
        have ht := hl'.thaw
        split
        · right; simp
        right
        show cs'.size <= min fz'.1 cs'.size
        omega
      exact ⟨cs', fz', (f2 _ hii).trans hl'.heap, hl'.size, hl'.thaw, hl'.room, hl'.whole, hl'.den⟩
   simp at h
 simp at h
theorem xj7 {u : TypeId} {cells off n : Nat} (hc : P.cellsOf u = 1) (hd : 1 < P.depth) (h : off + n <= cells) : liesAt P P.depth u (cells / P.cellsOf u) off u n = true := by
 obtain ⟨d, hd'⟩ : ∃ d, P.depth = d + 1 := ⟨P.depth - 1, by omega⟩
 have hs : sameLayout P P.depth u u = true := by rw [hd']; simp [sameLayout]
 rw [hd', liesAt, hc]
 have hr : rowAt P (fun x => sameLayout P P.depth x u) P.depth u (cells / 1) off n = true := by
  rw [hd', rowAt, hc]
  rw [<- hd']
  simp [hs, Nat.mod_one]
  exact .inl h
 rw [hr]; simp
theorem xdi (a : Addr) : ∀ (ns : List Int) (i : Nat) (acc : ByteArray), (∀ j v, (ns.map (Value.int .u8 ·))[j]? = some v -> w.cell? (a.add (i + j)) = some v) ->
 (loadBytes (a.add i) acc ns.length).run P w = .ok (ns.foldl (fun b k => b.push (UInt8.ofNat k.toNat)) acc) w
 | [], i, acc, _ => rfl
 | k :: ns, i, acc, h => by
  have h0 := h 0 (.int .u8 k) (by simp)
  rw [Nat.add_zero] at h0
  have ih := xdi a ns (i + 1) (acc.push (UInt8.ofNat k.toNat)) (fun j v hj => by
   have := h (j + 1) v (by simpa using hj)
   rw [show i + (j + 1) = i + 1 + j from by omega] at this; exact this)
  have hadd : (a.add i).add 1 = a.add (i + 1) := by
   unfold Addr.add
   by_cases hi : i = 0
   · subst hi; simp
   simp [hi]; omega
  simp only [List.length_cons, loadBytes, Sem.run_bind, run_load, h0, Result.andThen_ok, hadd]
  exact ih
theorem xfd {args : Array Operand} {ats : Array TypeId} (hH : HOK ρ H w) (h : actA P H ev ⟨dst, .call ⟨.builtin .unsafeString, args, ats⟩, ty, pos, after, guard⟩ = some (r, H'))
 (he : EvOK ρ H.next ev e args.toList) : Does P e ρ H w ⟨dst, .call ⟨.builtin .unsafeString, args, ats⟩, ty, pos, after, guard⟩ r H' := by
 simp only [actA] at h
 split at h
 · rename_i pt tl id off kd n hats hargs
   obtain ⟨p, q, hpq⟩ : ∃ p q, args.toList = [p, q] := by
    cases hl : args.toList with
    | nil => simp [hl] at hargs
    | cons p l => cases l with
     | nil => simp [hl] at hargs
     | cons q l => cases l with
      | nil => exact ⟨p, q, rfl⟩
      | cons _ _ => simp [hl] at hargs
   rw [hpq] at hargs he
   simp only [List.map_cons, List.map_nil, List.cons.injEq, and_true] at hargs
   obtain ⟨hp, hq⟩ := hargs
   have hep := he p (by simp)
   have heq := he q (by simp)
   rw [hp] at hep; rw [hq] at heq
   obtain ⟨hlt, hv⟩ := hep
   have hvq : e q = .int kd n := heq.1
   have hA : args = #[p, q] := Array.toList_inj.1 (by simpa using hpq)
   subst hA
   have hat : ats[0]? = some pt := by
    have : ats.toList[0]? = some pt := by rw [hats]; rfl
    simpa using this
   split at h
   · rename_i u b hpt hg
     split at h
     · rename_i hu
       cases hb1 : (Nat.beq u b.elem && (decide (0 < n) && decide (n < 1000000))) with
       | false => simp only [hb1, cond_false, reduceCtorEq] at h
       | true =>
        simp only [hb1, cond_true] at h
        simp only [Bool.and_eq_true, Nat.beq_eq, decide_eq_true_eq] at hb1
        obtain ⟨hub, hn0, hn1⟩ := hb1
        split at h
        · rename_i s hs
          cases hb2 : (Nat.beq (P.cellsOf u) 1 && Nat.blt 1 P.depth) with
          | false => simp only [hb2, cond_false, reduceCtorEq] at h
          | true =>
           simp only [hb2, cond_true, Option.some.injEq, Prod.mk.injEq] at h
           simp only [Bool.and_eq_true, Nat.beq_eq, Nat.blt_eq] at hb2
           obtain ⟨rfl, rfl⟩ := h
           simp only [Option.bind_eq_some_iff] at hs
           obtain ⟨l, hcut, hby⟩ := hs
           obtain ⟨vs, hrun, hdv, hcell⟩ := xlN (P := P) hH hg hcut
           obtain ⟨ns, hvs, hs2⟩ := xe3 hby hdv
           obtain ⟨cs, fz, hl⟩ := hH.row id b hg
           have hll := xc9 hcut
           have hlen : ns.length = n.toNat := by have := hdv.len; rw [hvs] at this; simp at this; omega
           have hin : off + n.toNat <= b.cells.length := by
            rcases xl5 hcut (R := fun _ _ => True) (m := b.cells.map fun _ => default) (All2.of (by simp) fun _ _ _ _ _ => trivial) with h1 | h1
            · omega
            omega
           have hroom := hl.room
           let a : Addr := ⟨ρ.blk id, ρ.base id + off, none⟩
           obtain ⟨f1, f2, f3⟩ := xc7 w (ρ.blk id) (ρ.base id + off) n.toNat (by omega)
           let w' := w.freeze a n.toNat
           have hos : w'.os = w.os /\ w'.tape = w.tape /\ w'.output = w.output := by
            show (World.freeze _ _ _).os = _ /\ (World.freeze _ _ _).tape = _ /\ (World.freeze _ _ _).output = _
            unfold World.freeze; rw [if_neg (by omega)]; exact ⟨rfl, rfl, rfl⟩
           obtain ⟨hD, hK⟩ := xow hH id
           have hrow : ∀ i b', (H.set id none).get i = some b' -> ρ.blk i ≠ ρ.blk id := fun i b' h' e => by
            rw [AH.get_set] at h'
            split at h'
            · simp at h'
            rename_i hne
            have hb' : H.get i = some b' := h'
            exact hne (hH.inj i id b' b hb' hg e)
           refine ⟨.string s, w', ρ, .inl ?_, ⟨rfl, rfl⟩, ⟨hD.lt, hD.inj, fun i b' hb' => ?_⟩, ⟨.refl _ _, Nat.le_refl _, by show _ <= w'.heap.size; rw [show w'.heap.size = _ from f1]; exact Nat.le_refl _, hos.1, hos.2.1, hos.2.2, fun k hk hn => f2 k (Ne.symm (hn id b hg)), hK.come⟩⟩
           · have hsh : World.shape? w (ρ.blk id) = some (u, cs.size) := by simp [World.shape?, hl.heap, hub]
             have hlies := xj7 (P := P) (cells := cs.size) (off := ρ.base id + off) (n := n.toNat) hb2.1 hb2.2 (by omega)
             have hvar : (variablesAt a u n.toNat).run P w = .ok true w := by
              simp only [variablesAt, Sem.run_bind, run_program, Result.andThen_ok, run_shape]
              have hsh' : World.shape? w a.block = some (u, cs.size) := hsh
              rw [hsh']
              simp only [Sem.run_pure]
              rw [show liesAt P P.depth u (cs.size / P.cellsOf u) a.off u n.toNat = true from hlies]
             have hlb := xdi (P := P) (w := w) a ns 0 .empty (fun j v hj => by
              rw [<- hvs] at hj
              show w.cell? ((⟨ρ.blk id, ρ.base id + off, none⟩ : Addr).add (0 + j)) = _
              rw [Nat.zero_add, xcI]; exact hcell j v hj)
             rw [hlen, <- hs2] at hlb
             have hlb' : (loadBytes a .empty n.toNat).run P w = .ok s w := hlb
             have hrun : (Builtin.unsafeString_ ats ty #[e p, e q]).run P w = .ok (.string s) w' := by
              rw [hv, hvq]
              have hn' : ¬ n < 0 := by omega
              have hn'' : ¬ 9223372036854775807 < n := by omega
              have hmax : IntKind.i64.max = 9223372036854775807 := rfl
              have hn3 : ¬ n = 0 := by omega
              show ((do
               let k <- asInt (.int kd n)
               let some pt := ats[0]? | stuck "unsafe.String: no argument types"
               if k < 0 then runtimePanic (.error "unsafe.String: len out of range")
               if k > IntKind.i64.max then unsupported (.unsafePointer "String: a length above the largest int")
               if k = 0 then pure (.string .empty)
               else if <- variablesAt a (<- elemOf pt) k.toNat then do
                let s <- loadBytes a .empty k.toNat
                freeze a k.toNat
                pure (.string s)
               else unsupported (.unsafePointer "String: not so many bytes at ptr") : Sem Value)).run P w = _
              simp [asInt, asIntOf, hat, hn', hmax, hn'', hn3, elemOf, run_underlying hpt, hvar, hlb']
              rfl
             simp [execOp, resolve, invoke, builtin, hrun]
           obtain ⟨cs', fz', hl'⟩ := hD.row i b' hb'
           exact ⟨cs', fz', (f2 _ (hrow i b' hb')).trans hl'.heap, hl'.size, hl'.thaw, hl'.room, hl'.whole, hl'.den⟩
        simp at h
     simp at h
   simp at h
 simp at h
theorem xky {o : Oper} (hH : HOK ρ H w) (h : actA P H ev o = some (r, H')) (he : EvOK ρ H.next ev e o.op.operands.toList) : Does P e ρ H w o r H' := by
 obtain ⟨dst, op, ty, pos, after, guard⟩ := o
 cases op with
 | alloc t => exact a_alloc hH h
 | box t x => exact a_box hH h (he x (by simp [Op.operands]))
 | buildSlice t n ps => exact xht hH h (by simpa [Op.operands] using he)
 | makeSlice t a b => exact xik hH h (he a (by simp [Op.operands])) (he b (by simp [Op.operands]))
 | store t a x => exact a_store hH h (he a (by simp [Op.operands])) (he x (by simp [Op.operands]))
 | convert s d x => exact xmx hH h (he x (by simp [Op.operands]))
 | call c =>
  obtain ⟨callee, args, ats⟩ := c
  cases callee with
  | value f => simp [actA] at h
  | invoke r m => simp [actA] at h
  | builtin b =>
   cases b with
   | append => exact xn9 hH h (by simpa [Op.operands, Call.operands] using he)
   | unsafeString => exact xfd hH h (by simpa [Op.operands, Call.operands] using he)
   | _ => simp [actA] at h
 | _ => simp [actA] at h
end
end
section
open Go
structure FrOK (D : List Deferred) (ρ : Rho) (n : Nat) (fr : Fr) (a : Act) : Prop where
 size : a.tmps.size = fr.size
 den : ∀ t, (fr.get t).den ρ n (a.tmps.getD t undef)
 defers : a.defers = D
theorem FrOK.mono {D : List Deferred} {ρ ρ' : Rho} {n m : Nat} {fr : Fr} {a : Act} (h : FrOK D ρ n fr a) (hx : Ext ρ ρ' n) (hm : n <= m) : FrOK D ρ' m fr a :=
 ⟨h.size, fun t => AR.den_mono hx hm _ _ (h.den t), h.defers⟩
theorem FrOK.ev {D : List Deferred} {ρ : Rho} {n : Nat} {fr : Fr} {a : Act} (h : FrOK D ρ n fr a) : ∀ x : Operand, (fr.ev x).den ρ n (a.eval x)
 | .tmp t => h.den t
 | .const v => by
  show ((AR.of? v).getD .any).den ρ n v
  cases hv : AR.of? v with
  | none => trivial
  | some x => exact AR.of_den ρ n v x hv
 | .global g => ⟨rfl, rfl⟩
 | .func f => rfl
theorem FrOK.put {D : List Deferred} {ρ : Rho} {n : Nat} {fr fr' : Fr} {a : Act} (h : FrOK D ρ n fr a) {d : Option Tmp} {r : AR} {v : Value} (hp : fr.put d r = some fr') (hr : r.den ρ n v) : FrOK D ρ n fr' (a.put d v) := by
 rw [Fr.put_def] at hp
 cases d with
 | none => simp only [Option.some.injEq] at hp; subst hp; exact h
 | some d =>
  simp only at hp
  cases hb : Nat.blt d fr.size with
  | false => simp only [hb, cond_false, reduceCtorEq] at hp
  | true =>
   simp only [hb, cond_true, Option.some.injEq] at hp
   subst hp
   have hlt : d < a.tmps.size := by rw [h.size]; simpa [Nat.blt_eq] using hb
   refine ⟨by simp [Act.put, h.size], fun t => ?_, h.defers⟩
   simp only [Fr.get_put, Act.put]
   by_cases ht : t = d
   · subst ht
     rw [if_pos rfl]
     simp only [Array.getD_eq_getD_getElem?, Array.getElem?_setIfInBounds_self_of_lt hlt]
     exact hr
   rw [if_neg ht]
   simp only [Array.getD_eq_getD_getElem?, Array.getElem?_setIfInBounds_ne (Ne.symm ht)]
   have := h.den t
   simpa [Array.getD_eq_getD_getElem?] using this
theorem FrOK.flush {D : List Deferred} {ρ : Rho} {n : Nat} {fr : Fr} {a : Act} (h : FrOK D ρ n fr a) : FrOK D ρ n fr.flush a :=
 ⟨h.size, fun t => by
  rcases Fr.get_flush fr t with e | e <;> rw [e]
  · exact h.den t
  trivial, h.defers⟩
def noNG (P : Program) : Prop := ∀ (f : Nat) (fn : Func), P.funcs[f]? = some fn -> fn.body.isSome = true -> (fn.name == "runtime.NumGoroutine") = false
def OutEv (ρ : Rho) (n : Nat) : Out -> Ending -> Prop
 | .ret r, e => ∃ v, e = .returned v /\ r.den ρ n v
 | .pan x, e => ∃ v, e = .panicked [{ v, recovered := false }] /\ x.den ρ n v
def xcq (P : Program) (call : xa0) : Prop := ∀ (f : FuncId) (az : List AV) (H : AH) (out : Out) (H' : AH), call f az H = some (out, H') -> ∀ (ρ : Rho) (w : World) (vs : Array Value), HOK ρ H w ->
 All2 (AV.den ρ H.next) az vs.toList -> Calls P f vs w fun e w' => ∃ ρ', OutEv ρ' H'.next out e /\ HOK ρ' H' w' /\ Kp H ρ w H' ρ' w'
section
variable {P : Program} {ρ : Rho} {H : AH} {w : World} {e : Operand -> Value} {ev : Ev} {D : List Deferred}
theorem xej : ∀ {l : List Operand} {az : List AV}, xhr ev l = some az -> EvOK ρ H.next ev e l -> All2 (AV.den ρ H.next) az (l.map e)
 | [], az, h, _ => by simp [xhr] at h; subst h; trivial
 | x :: l, az, h, he => by
  simp only [xhr] at h
  split at h
  · rename_i a r ha hr
    simp only [Option.some.injEq] at h; subst h
    have hx := he x (by simp)
    rw [ha] at hx
    exact ⟨hx, xej hr fun y hy => he y (by simp [hy])⟩
  simp at h
theorem xc5 (hn : noNG P) {g : FuncId} (h : xbQ P g = true) (args : Array Value) : (callFunc g args).run P w = .ok (.enter g args) w := by
 unfold xbQ at h
 split at h
 · rename_i fn hfn
   have hne := hn g fn hfn h
   have hb : fn.body.isNone = false := by cases hb : fn.body <;> simp_all
   have hbn : ¬ fn.body = none := by intro hh; rw [hh] at h; simp at h
   simp only [callFunc, Sem.run_bind, run_program, Result.andThen_ok, hfn, hne, Bool.false_eq_true, if_false, hb, Sem.run_pure]
 simp at h
def xil (ρ : Rho) (n : Nat) : AC ⊕ (Nat × Nat) -> Place -> Prop
 | .inl c, .val v => c.den ρ n v
 | .inr (id, o), .var a => id < n /\ a = ⟨ρ.blk id, ρ.base id + o, none⟩
 | _, _ => False
theorem xdP : ∀ {l : List FieldStep} {t xt : TypeId} {x y : AC ⊕ (Nat × Nat)} {p : Place}, xdQ P l t x = some (xt, y) -> xil ρ H.next x p ->
 ∃ q, (follow l t p).run P w = .ok (xt, q) w /\ xil ρ H.next y q
 | [], t, xt, x, y, p, h, hp => by
  simp only [xdQ, Option.some.injEq, Prod.mk.injEq] at h
  obtain ⟨rfl, rfl⟩ := h
  exact ⟨p, rfl, hp⟩
 | s :: rest, t, xt, x, y, p, h, hp => by
  simp only [xdQ] at h
  split at h
  · rename_i off ft k hf
    obtain ⟨fields, fy, hu, hy, rfl, rfl, hs⟩ := xd5 hf
    split at h
    · rename_i id o hd
      cases p with
      | var a => exact hp.elim
      | val v =>
       obtain ⟨hl, hv⟩ := hp
       obtain ⟨q, hq, hqo⟩ := xdP (p := .var ⟨ρ.blk id, ρ.base id + (o + fy.offset), none⟩) h ⟨hl, rfl⟩
       refine ⟨q, ?_, hqo⟩
       simp [follow, run_underlying hu, hy, hd, Place.get, hv, asAddr, fieldPlace, xaS hs, xcI, Nat.add_assoc]
       exact hq
    · rename_i id o hd
      cases p with
      | val v => exact hp.elim
      | var a =>
       obtain ⟨hl, hv⟩ := hp
       obtain ⟨q, hq, hqo⟩ := xdP (p := .var ⟨ρ.blk id, ρ.base id + (o + fy.offset), none⟩) h ⟨hl, rfl⟩
       refine ⟨q, ?_, hqo⟩
       simp [follow, run_underlying hu, hy, hd, hv, fieldPlace, xaS hs, xcI, Nat.add_assoc]
       exact hq
    simp at h
  simp at h
theorem xgF {xt : TypeId} {x : AC ⊕ (Nat × Nat)} {ptr : Bool} {c : AC} {p : Place} (h : xew P xt x ptr = some c) (hp : xil ρ H.next x p) (wr : Option String) :
 ∃ v, (receiverAt xt p ptr wr).run P w = .ok v w /\ c.den ρ H.next v := by
 unfold xew at h
 split at h
 · rename_i el c' hu
   simp only [Option.some.injEq] at h; subst h
   cases p with
   | var a => exact hp.elim
   | val v => exact ⟨v, by simp [receiverAt, run_underlying hu, Place.get], hp⟩
 · simp at h
 · rename_i d id o hne hu
   simp only [Option.some.injEq] at h; subst h
   cases p with
   | val v => exact hp.elim
   | var a =>
    obtain ⟨hl, rfl⟩ := hp
    refine ⟨_, ?_, hl, rfl⟩
    simp only [receiverAt, Sem.run_bind, run_underlying hu, Result.andThen_ok]
    cases d <;> first | rfl | (exact absurd hu (by intro hh; simp_all))
 · rename_i d c' hne hu
   simp only [Option.some.injEq] at h; subst h
   cases p with
   | var a => exact hp.elim
   | val v =>
    refine ⟨v, ?_, hp⟩
    simp only [receiverAt, Sem.run_bind, run_underlying hu, Result.andThen_ok]
    cases d <;> first | rfl | (exact absurd hu (by intro hh; simp_all))
 simp at h
theorem xj3 {t : TypeId} {c r : AC} {name : String} {f : FuncId} {v : Value} (h : xhT P t c name = some (f, r)) (hc : c.den ρ H.next v) (fuel : Nat) :
 ∃ u, (method (fuel + 1) t v name).run P w = .ok (f, u) w /\ r.den ρ H.next u := by
 unfold xhT at h
 split at h
 · rename_i i hi
   split at h
   · rename_i m hm
     split at h
     · rename_i xt x g ptr hf hg
       simp only [Option.map_eq_some_iff, Prod.mk.injEq] at h
       obtain ⟨r', hr, rfl, rfl⟩ := h
       obtain ⟨q, hq, hqo⟩ := xdP (P := P) (w := w) (p := .val v) hf hc
       obtain ⟨u, hu, hd⟩ := xgF (P := P) (w := w) hr hqo (if m.path.isEmpty then some ((name.splitOn ".").getLastD name) else none)
       refine ⟨u, ?_, hd⟩
       simp only [method, Sem.run_bind, typeInfo, run_program, Result.andThen_ok, hi, Sem.run_pure, hm, hq, hg, hu]
     simp at h
   simp at h
 simp at h
theorem xho (hn : noNG P) {o : Oper} {f : FuncId} {az : List AV} (h : xbi P ev o = some (f, az)) (he : EvOK ρ H.next ev e o.op.operands.toList) :
 ∃ vs, (execOp e o).run P w = .ok (.enter f vs) w /\ All2 (AV.den ρ H.next) az vs.toList := by
 obtain ⟨dst, op, ty, pos, after, guard⟩ := o
 cases op with
 | call c =>
  obtain ⟨callee, args, ats⟩ := c
  cases callee with
  | value g =>
   simp only [xbi] at h
   split at h
   · rename_i x as' hg ha
     split at h
     · rename_i k fs cs hf
       cases hb : xbQ P k with
       | false => simp only [hb, cond_false, reduceCtorEq] at h
       | true =>
        simp only [hb, cond_true, Option.some.injEq, Prod.mk.injEq] at h
        obtain ⟨rfl, rfl⟩ := h
        have h1 := he g (by simp [Op.operands, Call.operands])
        rw [hg] at h1
        obtain ⟨fv, cv, hv, hdf, hdc⟩ := xfE hf h1
        have hda := xej ha (fun y hy => he y (by simp [Op.operands, Call.operands] at hy ⊢; exact .inr hy) : EvOK ρ H.next ev e args.toList)
        refine ⟨fv ++ args.map e ++ cv, ?_, ?_⟩
        · simp [execOp, resolve, invoke, hv, Deferred.ofValue, xc5 hn hb]
        have lift : ∀ {l : List AC} {m : List Value}, All2 (AC.den ρ H.next) l m -> All2 (AV.den ρ H.next) (l.map .c) m := by
         intro l m hh
         refine All2.of (by simpa using hh.len) fun i x y hx hy => ?_
         simp only [List.getElem?_map, Option.map_eq_some_iff] at hx
         obtain ⟨c, hc, rfl⟩ := hx
         obtain ⟨y', hy', hd⟩ := hh.get hc
         rw [hy] at hy'; cases hy'; exact hd
        simp only [Array.toList_append, Array.toList_map, List.append_assoc]
        exact (lift hdf).app (hda.app (lift hdc))
     simp at h
   simp at h
  | invoke r name =>
   simp only [xbi] at h
   split at h
   · rename_i t c as' hr ha
     split at h
     · rename_i g x hm
       cases hb : xbQ P g with
       | false => simp only [hb, cond_false, reduceCtorEq] at h
       | true =>
        simp only [hb, cond_true, Option.some.injEq, Prod.mk.injEq] at h
        obtain ⟨rfl, rfl⟩ := h
        have h1 := he r (by simp [Op.operands, Call.operands])
        rw [hr] at h1
        obtain ⟨v, hv, hd⟩ := h1
        have hda := xej ha (fun y hy => he y (by simp [Op.operands, Call.operands] at hy ⊢; exact .inr hy) : EvOK ρ H.next ev e args.toList)
        obtain ⟨u, hu, hdu⟩ := xj3 (P := P) (w := w) hm hd (P.types.size + (Made.depth - 1))
        have hdp : 0 < Made.depth := by decide
        have hdep : P.types.size + (Made.depth - 1) + 1 = P.types.size + Made.depth := by omega
        rw [hdep] at hu
        refine ⟨#[u] ++ args.map e, ?_, ?_⟩
        · have hex : (#[e r] ++ args.map e).extract 1 (#[e r] ++ args.map e).size = args.map e := by
           apply Array.ext'
           simp [List.take_of_length_le]
          have h0 : (#[e r] ++ args.map e)[0]? = some (.iface t v) := by rw [Array.getElem?_append_left (by simp), hv]; rfl
          simp only [execOp, resolve, Sem.run_bind, Sem.run_pure, Result.andThen_ok, invoke, h0, hex]
          simp [callMethod, hu, xc5 hn hb]
        have hl : (#[u] ++ args.map e).toList = u :: args.toList.map e := by simp
        rw [hl]; exact ⟨hdu, hda⟩
     simp at h
   simp at h
  | builtin b => simp [xbi] at h
 | _ => simp [xbi] at h
theorem xbO (hn : noNG P) {call : xa0} (hcall : xcq P call) {o : Oper} {out : Out} {H' : AH} (h : opA P call ev H o = some (out, H')) {a : Act} (hH : HOK ρ H w)
 (he : EvOK ρ H.next ev a.eval o.op.operands.toList) {next : Act -> World -> Prop} {Q : Exit -> Act -> World -> Prop}
 (hret : ∀ r v w' ρ', out = .ret r -> r.den ρ' H'.next v -> HOK ρ' H' w' -> Kp H ρ w H' ρ' w' -> next (a.put o.dst v) w')
 (hpan : ∀ x v w' ρ', out = .pan x -> x.den ρ' H'.next v -> HOK ρ' H' w' -> Kp H ρ w H' ρ' w' -> Q (.panic [{ v, recovered := false }]) a w') : o.wp P a w next Q := by
 unfold opA at h
 unfold Oper.wp
 split at h
 · rename_i r hp
   simp only [Option.some.injEq, Prod.mk.injEq] at h
   obtain ⟨rfl, rfl⟩ := h
   obtain ⟨v, hv, hd⟩ := xeA hp he w
   rw [hv]; exact hret r v w ρ rfl hd hH (Kp.refl _ _ _)
 split at h
 · rename_i r hp
   simp only [Option.some.injEq, Prod.mk.injEq] at h
   obtain ⟨rfl, rfl⟩ := h
   obtain ⟨v, hv, hd⟩ := xex hH hp he
   rw [hv]; exact hret r v w ρ rfl hd hH (Kp.refl _ _ _)
 split at h
 · rename_i r H1 hp
   simp only [Option.some.injEq, Prod.mk.injEq] at h
   obtain ⟨rfl, rfl⟩ := h
   obtain ⟨v, w', ρ', hv, hd, hH', hK⟩ := xky hH hp he
   rcases hv with hv | ⟨hv, rfl⟩
   · rw [hv]; exact hret r v w' ρ' rfl hd hH' hK
   rw [hv]; exact hret r undef w' ρ' rfl hd hH' hK
 split at h
 · rename_i f az hc
   obtain ⟨vs, hv, hda⟩ := xho (w := w) hn hc he
   rw [hv]
   simp only [Oper.upon]
   split at h
   · rename_i r H1 hcl
     simp only [Option.some.injEq, Prod.mk.injEq] at h
     obtain ⟨rfl, rfl⟩ := h
     refine (hcall f az H _ _ hcl ρ w vs hH hda).mono ?_
     rintro en w' ⟨ρ', ⟨v, rfl, hd⟩, hH', hK⟩
     exact hret r v w' ρ' rfl hd hH' hK
   · rename_i x H1 hcl
     simp only [Option.some.injEq, Prod.mk.injEq] at h
     obtain ⟨rfl, rfl⟩ := h
     refine (hcall f az H _ _ hcl ρ w vs hH hda).mono ?_
     rintro en w' ⟨ρ', ⟨v, rfl, hd⟩, hH', hK⟩
     exact hpan x v w' ρ' rfl hd hH' hK
   simp at h
 split at h
 · rename_i r hp
   simp only [Option.some.injEq, Prod.mk.injEq] at h
   obtain ⟨rfl, rfl⟩ := h
   have hp' : scal P ev o = some r := by
    unfold xjn at hp
    split at hp
    · exact hp
    simp at hp
   obtain ⟨v, hv, hd⟩ := xaW hp' he w
   rw [hv]; exact hret r v w ρ rfl hd hH (Kp.refl _ _ _)
 simp only [Option.map_eq_some_iff, Prod.mk.injEq] at h
 obtain ⟨x, hp, rfl, rfl⟩ := h
 have key : ∃ v, (execOp a.eval o).run P w = .halt (.panic v) w /\ x.den ρ H.next v := by
  obtain ⟨dst, op, ty, pos, after, guard⟩ := o
  have pan : ∀ v : Value, (∃ t y, v = .iface t y) -> (Instr.panic v).run P w = .halt (.panic v) w := by
   rintro v ⟨t, y, rfl⟩; simp [Instr.panic]
  cases op with
  | panic y =>
   have hy := he y (by simp [Op.operands])
   simp only [xcw] at hp
   split at hp
   · rename_i t c hc
     simp only [Option.some.injEq] at hp; subst hp
     rw [hc] at hy
     obtain ⟨u, hu, hd⟩ := hy
     exact ⟨a.eval y, by simp [execOp, pan _ ⟨t, u, hu⟩], u, hu, hd⟩
   · rename_i t u hc
     simp only [Option.some.injEq] at hp; subst hp
     rw [hc] at hy
     exact ⟨a.eval y, by simp [execOp, pan _ ⟨t, u, hy.1⟩], hy⟩
   simp at hp
  | call c =>
   obtain ⟨callee, args, ats⟩ := c
   cases callee with
   | value f => simp [xcw] at hp
   | invoke r m => simp [xcw] at hp
   | builtin b =>
    cases b with
    | panic =>
     simp only [xcw] at hp
     cases hl : args.toList with
     | nil => simp [hl] at hp
     | cons y l =>
      have hy := he y (by simp [Op.operands, Call.operands, hl])
      have hy0 : (args.map a.eval)[0]? = some (a.eval y) := by
       have : args[0]? = some y := by rw [<- Array.getElem?_toList, hl]; rfl
       simp [this]
      have hg : (args.map a.eval).getD 0 .nilIface = a.eval y := by rw [Array.getD_eq_getD_getElem?, hy0]; rfl
      simp only [hl, List.map_cons] at hp
      split at hp
      · rename_i t c r hc
        simp only [Option.some.injEq] at hp; subst hp
        simp only [List.cons.injEq] at hc
        rw [hc.1] at hy
        obtain ⟨u, hu, hd⟩ := hy
        refine ⟨a.eval y, ?_, u, hu, hd⟩
        simp only [execOp, resolve, Sem.run_bind, Sem.run_pure, Result.andThen_ok, invoke, builtin, hg, pan _ ⟨t, u, hu⟩, Result.andThen_halt]
      · rename_i t u r hc
        simp only [Option.some.injEq] at hp; subst hp
        simp only [List.cons.injEq] at hc
        rw [hc.1] at hy
        refine ⟨a.eval y, ?_, hy⟩
        simp only [execOp, resolve, Sem.run_bind, Sem.run_pure, Result.andThen_ok, invoke, builtin, hg, pan _ ⟨t, u, hy.1⟩, Result.andThen_halt]
      simp at hp
    | _ => simp [xcw] at hp
  | _ => simp [xcw] at hp
 obtain ⟨v, hv, hd⟩ := key
 rw [hv]
 exact hpan x v w ρ rfl hd hH (Kp.refl _ _ _)
theorem xnY {n : Nat} {fr : Fr} {a : Act} {d : Tmp} (h : (fr.get d).den ρ n (a.tmps.getD d undef)) {b : Bool} (hd : fr.get d = .one (.c (.lit (.bool b)))) : a.tmps[d]? = some (.bool b) := by
 rw [hd] at h
 have h1 := h.1
 rw [Array.getD_eq_getD_getElem?] at h1
 cases hx : a.tmps[d]? with
 | none => rw [hx] at h1; simp [undef] at h1
 | some x => rw [hx] at h1; simp at h1; rw [h1]
theorem xgr {n : Nat} {ops : Array Oper} {fr : Fr} {a : Act} {o : Oper} (hF : ∀ g c d, o.guard = some (g, c) -> (ops[g]?).bind (·.dst) = some d -> (fr.get d).den ρ n (a.tmps.getD d undef)) {b : Bool} (h : xa6 ops.toList fr o = some b) : Region.wanted o (yielded ops a.tmps) = b := by
 unfold xa6 at h
 unfold Region.wanted
 cases hg : o.guard with
 | none => simp only [hg, Option.some.injEq] at h ⊢; exact h
 | some p =>
  obtain ⟨j, want⟩ := p
  have hF := fun d => hF j want d hg
  simp only [hg] at h ⊢
  have hj : ops.toList[j]? = ops[j]? := by simp
  rw [hj] at h
  unfold yielded
  cases hd : (ops[j]?).bind (·.dst) with
  | none =>
   simp only [hd, Option.some.injEq] at h
   subst h; simp
  | some d =>
   simp only [hd] at h
   split at h
   · rename_i c hc
     simp only [Option.some.injEq] at h; subst h
     have := xnY (hF d hd) hc
     simp only [Option.bind_some, this]
     cases c <;> cases want <;> rfl
   · rename_i hc
     simp only [Option.some.injEq] at h; subst h
     have hh := hF d hd
     rw [hc] at hh
     obtain ⟨vs, hv, hd'⟩ := hh
     have hne : ∀ c, a.tmps[d]? ≠ some (.bool c) := fun c hx => by
      rw [Array.getD_eq_getD_getElem?, hx] at hv; simp at hv
     simp only [Option.bind_some]
     cases hx : a.tmps[d]? with
     | none => rfl
     | some x => cases x <;> first | rfl | (exact absurd hx (hne _))
   simp at h
theorem xbL {ops : Array Oper} {fr : Fr} {a : Act} (hF : FrOK D ρ H.next fr a) {o : Oper} {b : Bool} (h : xa6 ops.toList fr o = some b) : Region.wanted o (yielded ops a.tmps) = b :=
 xgr (fun _ _ d _ _ => hF.den d) h
def ExE (ρ : Rho) (n : Nat) : Ex -> Exit -> Prop
 | .normal, x => x = .normal
 | .exit id, x => x = .exit id
 | .ret, x => x = .ret
 | .pan y, x => ∃ v, x = .panic [{ v, recovered := false }] /\ y.den ρ n v
def xmz (D : List Deferred) (ρ : Rho) (H : AH) (w : World) (r : Ex × Fr × AH) (Q : Exit -> Act -> World -> Prop) : Prop :=
 ∀ x a w' ρ', ExE ρ' r.2.2.next r.1 x -> FrOK D ρ' r.2.2.next r.2.1 a -> HOK ρ' r.2.2 w' -> Kp H ρ w r.2.2 ρ' w' -> Q x a w'
theorem xc3 (hn : noNG P) {call : xa0} (hcall : xcq P call) {ops : Array Oper} {Q : Exit -> Act -> World -> Prop} :
 ∀ (l : List Oper) {fr : Fr} {ρ : Rho} {H : AH} {w : World} {a : Act} {r : Ex × Fr × AH}, xgZ P call ops.toList l fr H = some r -> FrOK D ρ H.next fr a -> HOK ρ H w -> xmz D ρ H w r Q -> wpList P ops Q l a w
 | [], fr, ρ, H, w, a, r, h, hF, hH, hQ => by
  simp only [xlO, Option.some.injEq] at h; subst h
  exact hQ .normal a w ρ rfl hF hH (Kp.refl _ _ _)
 | o :: l, fr, ρ, H, w, a, r, h, hF, hH, hQ => by
  rw [xj6] at h
  refine wpList_step fun K hK => ?_
  split at h
  · rename_i hw
    rw [if_pos (xbL hF hw)]
    split at h
    · rename_i r1 H1 ho
      split at h
      · rename_i fr1 hp
        refine xbO hn hcall ho hH (fun x _ => hF.ev x) (fun r2 v w' ρ' he hd hH' hK' => ?_) (fun x v w' ρ' he => by cases he)
        cases he
        refine hK _ _ (xc3 hn hcall l h ((hF.mono hK'.ext hK'.next).put hp hd) hH' fun x a2 w2 ρ2 h1 h2 h3 h4 => hQ x a2 w2 ρ2 h1 h2 h3 (hK'.trans h4))
      simp at h
    · rename_i x1 H1 ho
      simp only [Option.some.injEq] at h; subst h
      refine xbO hn hcall ho hH (fun x _ => hF.ev x) (fun r2 v w' ρ' he => by cases he) (fun x v w' ρ' he hd hH' hK' => ?_)
      cases he
      exact hQ _ a w' ρ' ⟨v, rfl, hd⟩ (hF.mono hK'.ext hK'.next) hH' hK'
    simp at h
  · rename_i hw
    rw [if_neg (by rw [xbL hF hw]; simp)]
    split at h
    · rename_i fr1 hp
      exact hK _ _ (xc3 hn hcall l h (hF.put hp ⟨#[], rfl, trivial⟩) hH hQ)
    simp at h
  simp at h
end
end
section
open Go
theorem xdB {α : Type} {p : Nat -> α -> Bool} : ∀ {l : List α} {i : Nat}, xij p l i = true -> ∀ k x, l[k]? = some x -> p (i + k) x = true
 | [], _, _, k, x, h => by simp at h
 | y :: l, i, h, 0, x, hx => by
  simp only [xij, Bool.and_eq_true] at h
  simp only [List.getElem?_cons_zero, Option.some.injEq] at hx
  subst hx; exact h.1
 | y :: l, i, h, k + 1, x, hx => by
  simp only [xij, Bool.and_eq_true] at h
  have := xdB h.2 k x (by simpa using hx)
  rw [show i + (k + 1) = i + 1 + k from by omega]; exact this
def xcK (ops : List Oper) (L : Nat -> Bool) : Prop := ∀ i x, ops[i]? = some x -> L i = true -> ∀ e ∈ x.after.toList, Region.binds .any e = true -> L e.on = true
def xji (ops : List Oper) (t : Tr Nat) : Prop := ∀ L, xcK ops L -> ∀ i x j, ops[i]? = some x -> xbD t i j = true -> (∀ e ∈ x.after.toList, Region.binds .any e = true -> L e.on = true) -> L j = true
theorem xgU (t : Tr Nat) (j : Nat) : ∀ (es : List Edge) (s : Nat), (es.foldl (fun s e => bif Region.binds .any e then Nat.lor (Nat.lor s (2 ^ e.on)) ((t.get e.on).getD 0) else s) s).testBit j = true ->
 s.testBit j = true \/ ∃ e ∈ es, Region.binds .any e = true /\ (j = e.on \/ xbD t e.on j = true)
 | [], s, h => .inl h
 | e :: es, s, h => by
  simp only [List.foldl_cons] at h
  rcases xgU t j es _ h with h1 | ⟨e', he, hb, hj⟩
  · cases hbe : Region.binds .any e with
    | false => rw [hbe] at h1; exact .inl h1
    | true =>
     rw [hbe, cond_true] at h1
     have h2 : ((s ||| 2 ^ e.on) ||| ((t.get e.on).getD 0)).testBit j = true := h1
     rw [Nat.testBit_or, Nat.testBit_or] at h2
     simp only [Bool.or_eq_true] at h2
     rcases h2 with (h2 | h2) | h2
     · exact .inl h2
     · rw [Nat.testBit_two_pow] at h2
       simp only [decide_eq_true_eq] at h2
       exact .inr ⟨e, by simp, hbe, .inl h2.symm⟩
     exact .inr ⟨e, by simp, hbe, .inr h2⟩
  exact .inr ⟨e', by simp [he], hb, hj⟩
theorem xiU (ops : List Oper) : ∀ (l pre : List Oper) (t : Tr Nat), ops = pre ++ l -> (∀ i, pre.length <= i -> t.get i = none) -> xji ops t -> xji ops (xgT l pre.length t)
 | [], _, _, _, _, h => h
 | o :: l, pre, t, ho, hnone, h => by
  simp only [xgT]
  have hlen : pre.length + 1 = (pre ++ [o]).length := by simp
  rw [hlen]
  refine xiU ops l (pre ++ [o]) _ (by simp [ho]) (fun i hi => ?_) ?_
  · rw [Tr.get_put]
    simp at hi
    rw [if_neg (by omega)]; exact hnone i (by omega)
  intro L hL i x j hx hj he
  have ho' : ops[pre.length]? = some o := by rw [ho]; simp
  unfold xbD at hj
  rw [Tr.get_put] at hj
  by_cases hi : i = pre.length
  · subst hi
    rw [if_pos rfl] at hj
    rw [ho'] at hx; cases hx
    rcases xgU t j _ 0 hj with h1 | ⟨e, hem, hb, hj'⟩
    · simp at h1
    have hLe := he e hem hb
    rcases hj' with rfl | hj'
    · exact hLe
    cases hy : ops[e.on]? with
    | none =>
     have : t.get e.on = none := hnone _ (by
      have h1 := List.getElem?_eq_none_iff.1 hy
      rw [ho] at h1; simp at h1; omega)
     simp [xbD, this] at hj'
    | some y => exact h L hL e.on y j hy hj' fun e' he' hb' => hL e.on y hy hLe e' he' hb'
  rw [if_neg hi] at hj
  exact h L hL i x j hx hj he
theorem xlH (ops : List Oper) : xji ops (xgT ops 0 .nil) :=
 xiU ops ops [] .nil rfl (fun _ _ => rfl) (fun L _ i x j _ hj _ => by simp [xbD, Tr.get] at hj)
theorem Value.same_eq {v u : Value} (h : Value.same v u = true) : v = u := by
 unfold Value.same at h
 split at h <;> first | (simp_all; done) | skip
 · rename_i a b
   simp only [beq_iff_eq] at h
   rw [show a = b from ByteArray.ext (Array.toList_inj.1 h)]
theorem AC.same_eq : ∀ {x y : AC}, x.same y = true -> x = y
 | .lit v, .lit u, h => by rw [Value.same_eq (v := v) (u := u) h]
 | .ptr a b, .ptr c d, h => by simp only [AC.same, Bool.and_eq_true, Nat.beq_eq] at h; rw [h.1, h.2]
 | .sl a b c d e f, .sl a' b' c' d' e' f', h => by
  simp only [AC.same, Bool.and_eq_true, Nat.beq_eq, beq_iff_eq] at h
  obtain ⟨rfl, rfl, rfl, rfl, rfl, rfl⟩ := h; rfl
 | .ifc t c, .ifc u d, h => by simp only [AC.same, Bool.and_eq_true, Nat.beq_eq] at h; rw [h.1, AC.same_eq h.2]
 | .fn f, .fn g, h => by simp only [AC.same, beq_iff_eq] at h; rw [h]
 | .cap a b, .cap c d, h => by simp only [AC.same, Bool.and_eq_true] at h; rw [AC.same_eq h.1, AC.same_eq h.2]
 | .fst a b, .fst c d, h => by simp only [AC.same, Bool.and_eq_true] at h; rw [AC.same_eq h.1, AC.same_eq h.2]
 | .lit _, .ptr .., h => by simp [AC.same] at h
 | .lit _, .sl .., h => by simp [AC.same] at h
 | .lit _, .ifc .., h => by simp [AC.same] at h
 | .lit _, .fn .., h => by simp [AC.same] at h
 | .lit _, .cap .., h => by simp [AC.same] at h
 | .lit _, .fst .., h => by simp [AC.same] at h
 | .ptr .., .lit .., h => by simp [AC.same] at h
 | .ptr .., .sl .., h => by simp [AC.same] at h
 | .ptr .., .ifc .., h => by simp [AC.same] at h
 | .ptr .., .fn .., h => by simp [AC.same] at h
 | .ptr .., .cap .., h => by simp [AC.same] at h
 | .ptr .., .fst .., h => by simp [AC.same] at h
 | .sl .., .lit .., h => by simp [AC.same] at h
 | .sl .., .ptr .., h => by simp [AC.same] at h
 | .sl .., .ifc .., h => by simp [AC.same] at h
 | .sl .., .fn .., h => by simp [AC.same] at h
 | .sl .., .cap .., h => by simp [AC.same] at h
 | .sl .., .fst .., h => by simp [AC.same] at h
 | .ifc .., .lit .., h => by simp [AC.same] at h
 | .ifc .., .ptr .., h => by simp [AC.same] at h
 | .ifc .., .sl .., h => by simp [AC.same] at h
 | .ifc .., .fn .., h => by simp [AC.same] at h
 | .ifc .., .cap .., h => by simp [AC.same] at h
 | .ifc .., .fst .., h => by simp [AC.same] at h
 | .fn .., .lit .., h => by simp [AC.same] at h
 | .fn .., .ptr .., h => by simp [AC.same] at h
 | .fn .., .sl .., h => by simp [AC.same] at h
 | .fn .., .ifc .., h => by simp [AC.same] at h
 | .fn .., .cap .., h => by simp [AC.same] at h
 | .fn .., .fst .., h => by simp [AC.same] at h
 | .cap .., .lit .., h => by simp [AC.same] at h
 | .cap .., .ptr .., h => by simp [AC.same] at h
 | .cap .., .sl .., h => by simp [AC.same] at h
 | .cap .., .ifc .., h => by simp [AC.same] at h
 | .cap .., .fn .., h => by simp [AC.same] at h
 | .cap .., .fst .., h => by simp [AC.same] at h
 | .fst .., .lit .., h => by simp [AC.same] at h
 | .fst .., .ptr .., h => by simp [AC.same] at h
 | .fst .., .sl .., h => by simp [AC.same] at h
 | .fst .., .ifc .., h => by simp [AC.same] at h
 | .fst .., .fn .., h => by simp [AC.same] at h
 | .fst .., .cap .., h => by simp [AC.same] at h
theorem xfk : ∀ {l m : List AC}, xdF l m = true -> l = m
 | [], [], _ => rfl
 | x :: l, y :: m, h => by simp only [xdF, Bool.and_eq_true] at h; rw [AC.same_eq h.1, xfk h.2]
 | [], _ :: _, h => by simp [xdF] at h
 | _ :: _, [], h => by simp [xdF] at h
theorem xfq {P : Program} {H : AH} {ev : Ev} {o : Oper} {r : AR} (h : xfY P H ev o r = true) : xbr P H ev o = some r := by
 unfold xfY at h
 split at h
 · rename_i x y hx
   rw [hx]
   cases x <;> cases y <;> simp only [AV.same, Bool.false_eq_true] at h
   · rw [AC.same_eq h]
   rw [xfk h]
 simp at h
def xfM (P : Program) (call : xa0) (ops : List Oper) (o : Oper) (fr : Fr) (H : AH) (cls : Nat) (r : AR) (H' : AH) : Prop :=
 (xa6 ops fr o = some false /\ r = .tup [] /\ H' = H /\ (xba P o = 0 /\ cls = 0 \/ xba P o ≠ 0 /\ cls = 1)) \/
 (xa6 ops fr o = some true /\ xba P o = 0 /\ cls = 0 /\ xaP P fr.ev o = some r /\ H' = H) \/
 (xa6 ops fr o = some true /\ xba P o = 0 /\ cls = 2 /\ xbr P H fr.ev o = some r /\ H' = H) \/
 (xa6 ops fr o = some true /\ xba P o ≠ 0 /\ cls = 1 /\ opA P call fr.ev H o = some (.ret r, H'))
theorem xfM.same {P : Program} {call : xa0} {ops : List Oper} {o : Oper} {fr : Fr} {H : AH} {cls : Nat} {r : AR} {H' : AH} (h : xfM P call ops o fr H cls r H') (hc : cls ≠ 1) : H' = H := by
 rcases h with ⟨_, _, h, _⟩ | ⟨_, _, _, _, h⟩ | ⟨_, _, _, _, h⟩ | ⟨_, _, h, _⟩
 · exact h
 · exact h
 · exact h
 exact absurd h hc
structure xoC (P : Program) (call : xa0) (ops l : List Oper) (rs : List Rc) (fr : Fr) (H : AH) (fr' : Fr) (H' : AH) (fs : Nat -> Fr) (hs : Nat -> AH) (rr : Nat -> AR) (cl : Nat -> Nat) : Prop where
 f0 : fs 0 = fr
 h0 : hs 0 = H
 fn : fs l.length = fr'
 hn : hs l.length = H'
 put : ∀ i x, l[i]? = some x -> (fs i).put x.dst (rr i) = some (fs (i + 1))
 step : ∀ i x, l[i]? = some x -> xfM P call ops x (fs i) (hs i) (cl i) (rr i) (hs (i + 1))
 len : rs.length = l.length
 rc : ∀ i c, rs[i]? = some c -> c.fr = fs i /\ c.cls = cl i /\ c.r = rr i /\ c.H = hs i
theorem xli {P : Program} {call : xa0} {ops : List Oper} : ∀ {l : List Oper} {rs : List Rc} {fr : Fr} {H : AH} {fr' : Fr} {H' : AH}, xjQ P call ops l fr H = some (rs, fr', H') ->
 ∃ fs hs rr cl, xoC P call ops l rs fr H fr' H' fs hs rr cl
 | [], rs, fr, H, fr', H', h => by
  simp only [xjQ, Option.some.injEq, Prod.mk.injEq] at h
  obtain ⟨rfl, rfl, rfl⟩ := h
  exact ⟨fun _ => fr, fun _ => H, fun _ => .any, fun _ => 0, rfl, rfl, rfl, rfl, fun _ _ h => by simp at h, fun _ _ h => by simp at h, rfl, fun _ _ h => by simp at h⟩
 | o :: l, rs, fr, H, fr', H', h => by
  have key : ∀ cls r H1, xfM P call ops o fr H cls r H1 -> (match fr.put o.dst r with
   | some fr' => (xjQ P call ops l fr' H1).map fun (rs, x) => ((⟨fr, cls, r, H⟩ : Rc) :: rs, x)
   | none => none) = some (rs, fr', H') -> ∃ fs hs rr cl, xoC P call ops (o :: l) rs fr H fr' H' fs hs rr cl := by
   intro cls r H1 hst hm
   split at hm
   · rename_i fr1 hp
     simp only [Option.map_eq_some_iff] at hm
     obtain ⟨⟨rs1, fr2, H2⟩, hr, he⟩ := hm
     simp only [Prod.mk.injEq] at he
     obtain ⟨rfl, rfl, rfl⟩ := he
     obtain ⟨fs, hs, rr, cl, ok⟩ := xli hr
     refine ⟨fun i => match i with | 0 => fr | i + 1 => fs i, fun i => match i with | 0 => H | i + 1 => hs i, fun i => match i with | 0 => r | i + 1 => rr i, fun i => match i with | 0 => cls | i + 1 => cl i,
      rfl, rfl, ok.fn, ok.hn, fun i x hx => ?_, fun i x hx => ?_, by simp [ok.len], fun i c hc => ?_⟩
     · cases i with
       | zero => simp only [List.getElem?_cons_zero, Option.some.injEq] at hx; subst hx; rw [hp, <- ok.f0]
       | succ i => exact ok.put i x (by simpa using hx)
     · cases i with
       | zero => simp only [List.getElem?_cons_zero, Option.some.injEq] at hx; subst hx; show xfM _ _ _ _ _ _ _ _ (hs 0); rw [ok.h0]; exact hst
       | succ i => exact ok.step i x (by simpa using hx)
     cases i with
     | zero => simp only [List.getElem?_cons_zero, Option.some.injEq] at hc; subst hc; exact ⟨rfl, rfl, rfl, rfl⟩
     | succ i => exact ok.rc i c (by simpa using hc)
   simp at hm
  simp only [xjQ, xiK] at h
  split at h
  · simp at h
  · rename_i hw
    refine key _ _ _ (.inl ⟨hw, rfl, rfl, ?_⟩) h
    cases hk : Nat.beq (xba P o) 0 with
    | true => exact .inl ⟨Nat.eq_of_beq_eq_true hk, rfl⟩
    | false => exact .inr ⟨(fun e => by rw [e] at hk; cases hk), rfl⟩
  rename_i hw
  cases hk : Nat.beq (xba P o) 0 with
  | true =>
   simp only [hk, cond_true] at h
   have hk' := Nat.eq_of_beq_eq_true hk
   split at h
   · rename_i r hp
     exact key _ _ _ (.inr (.inl ⟨hw, hk', rfl, hp, rfl⟩)) h
   split at h
   · rename_i r hp
     exact key _ _ _ (.inr (.inr (.inl ⟨hw, hk', rfl, hp, rfl⟩))) h
   simp at h
  | false =>
   simp only [hk, cond_false] at h
   have hk' : xba P o ≠ 0 := fun e => by rw [e] at hk; cases hk
   split at h
   · rename_i r H1 hp
     exact key _ _ _ (.inr (.inr (.inr ⟨hw, hk', rfl, hp⟩))) h
   simp at h
theorem xoy {P : Program} {t : Tr Nat} {i : Nat} {ev : Ev} {o : Oper} {r : AR} {H' : AH} : ∀ (rs : List Rc) (k : Nat), chkA P t i ev o r (xep rs k H') = true -> ∀ p, (p < rs.length -> xbD t i (k + p) = false) ->
 (∀ q, q < p -> ∀ c, rs[q]? = some c -> c.cls = 1 -> xbD t (k + q) i = false) ->
 (∀ c, rs[p]? = some c -> c.cls = 1 -> xbr P c.H ev o = some r) /\ (p = rs.length -> xbr P H' ev o = some r)
 | [], k, h, p, _, _ => ⟨fun c hc => by simp at hc, fun _ => xfq h⟩
 | d :: rs, k, h, p, hi, hq => by
  simp only [xep] at h
  have ind : chkA P t i ev o r (xep rs (k + 1) H') = true -> ∀ p', p = p' + 1 ->
   (∀ c, (d :: rs)[p]? = some c -> c.cls = 1 -> xbr P c.H ev o = some r) /\ (p = (d :: rs).length -> xbr P H' ev o = some r) := by
   intro h1 p' hp
   subst hp
   obtain ⟨a1, a2⟩ := xoy rs (k + 1) h1 p' (fun hh => by rw [show k + 1 + p' = k + (p' + 1) from by omega]; exact hi (by simpa using hh))
    (fun q hqp c hc h1 => by rw [show k + 1 + q = k + (q + 1) from by omega]; exact hq (q + 1) (by omega) c (by simpa using hc) h1)
   exact ⟨fun c hc => a1 c (by simpa using hc), fun hh => a2 (by simpa using hh)⟩
  cases hcl : Nat.beq d.cls 1 with
  | true =>
   simp only [hcl, cond_true, chkA, Bool.and_eq_true, Bool.or_eq_true] at h
   cases p with
   | zero =>
    refine ⟨fun c hc _ => ?_, fun hh => by simp at hh⟩
    simp only [List.getElem?_cons_zero, Option.some.injEq] at hc; subst hc
    have h1 := hi (by simp)
    rcases h.1 with h2 | h2
    · rw [Nat.add_zero] at h1; rw [h1] at h2; simp at h2
    exact xfq h2
   | succ p' =>
    refine ind ?_ p' rfl
    have h1 := hq 0 (by omega) d rfl (Nat.eq_of_beq_eq_true hcl)
    rcases h.2 with h2 | h2
    · rw [Nat.add_zero] at h1; rw [h1] at h2; simp at h2
    exact h2
  | false =>
   simp only [hcl, cond_false] at h
   cases p with
   | zero =>
    refine ⟨fun c hc h1 => ?_, fun hh => by simp at hh⟩
    simp only [List.getElem?_cons_zero, Option.some.injEq] at hc; subst hc
    rw [h1] at hcl; cases hcl
   | succ p' => exact ind h p' rfl
theorem xhi {P : Program} {t : Tr Nat} {stops : List (Option Nat × AH)} : ∀ {l : List Oper} {rs : List Rc} {k : Nat}, xhj P t stops l rs k = true -> ∀ i o c, l[i]? = some o -> rs[i]? = some c -> c.cls = 2 ->
 chkA P t (k + i) c.fr.ev o c.r stops = true
 | [], rs, k, _, i, o, c, ho, _, _ => by simp at ho
 | x :: l, [], k, _, i, o, c, _, hc, _ => by simp at hc
 | x :: l, d :: rs, k, h, i, o, c, ho, hc, h2 => by
  simp only [xhj, Bool.and_eq_true, Bool.or_eq_true] at h
  cases i with
  | zero =>
   simp only [List.getElem?_cons_zero, Option.some.injEq] at ho hc
   subst ho; subst hc
   rcases h.1 with h1 | h1
   · rw [h2] at h1; cases h1
   exact h1
  | succ i =>
   have := xhi h.2 i o c (by simpa using ho) (by simpa using hc) h2
   rw [show k + (i + 1) = k + 1 + i from by omega]; exact this
end
section
open Go
structure Reg (P : Program) (call : xa0) (ops : Array Oper) (t : Tr Nat) (fs : Nat -> Fr) (hs : Nat -> AH) (rr : Nat -> AR) (cl : Nat -> Nat) : Prop where
 mask : xji ops.toList t
 edge : ∀ (i : Nat) x, ops[i]? = some x -> ∀ e ∈ x.after.toList, Region.binds .any e = true -> e.on < i
 pair : ∀ (i j : Nat) x y, ops[i]? = some x -> ops[j]? = some y -> i < j -> xbD t j i = false -> Oper.apart ops x y = true /\
  (xba P x = 0 \/ xba P y = 0 \/ (xba P y = 2 /\ ∀ (k : Nat) z, ops[k]? = some z -> k = j \/ Oper.apart ops y z = true \/ xbD t k i = true))
 put : ∀ (i : Nat) x, ops[i]? = some x -> (fs i).put x.dst (rr i) = some (fs (i + 1))
 step : ∀ (i : Nat) x, ops[i]? = some x -> xfM P call ops.toList x (fs i) (hs i) (cl i) (rr i) (hs (i + 1))
 read : ∀ (i : Nat) x, ops[i]? = some x -> cl i = 2 -> ∀ p, p <= ops.size -> (p = ops.size \/ cl p = 1) -> (p < ops.size -> xbD t i p = false) -> (∀ q, q < p -> cl q = 1 -> xbD t q i = false) ->
  xbr P (hs p) (fs i).ev x = some (rr i)
noncomputable def Lk (ops : Array Oper) (fr : Fr) (rr : Nat -> AR) (L : Nat -> Bool) (t : Tmp) : Nat -> AR
 | 0 => fr.get t
 | k + 1 => if L k = true /\ (ops[k]?).bind (·.dst) = some t then rr k else Lk ops fr rr L t k
def More (L : Nat -> Bool) (i : Nat) : Nat -> Bool := fun j => decide (j = i) || L j
section
variable {ops : Array Oper} {fr : Fr} {rr : Nat -> AR} {L : Nat -> Bool} {t : Tmp}
theorem xnH {fr fr' : Fr} {d : Option Tmp} {r : AR} (h : fr.put d r = some fr') (t : Tmp) : fr'.get t = if d = some t then r else fr.get t := by
 rw [Fr.put_def] at h
 cases d with
 | none => simp only [Option.some.injEq] at h; subst h; simp
 | some d =>
  simp only at h
  cases hb : Nat.blt d fr.size with
  | false => simp only [hb, cond_false, reduceCtorEq] at h
  | true =>
   simp only [hb, cond_true, Option.some.injEq] at h
   subst h
   simp only [Fr.get_put, Option.some.injEq]
   by_cases ht : t = d
   · subst ht; simp
   rw [if_neg ht, if_neg (Ne.symm ht)]
theorem xiz {fr fr' : Fr} {d : Option Tmp} {r : AR} (h : fr.put d r = some fr') : fr'.size = fr.size /\ ∀ k, d = some k -> k < fr.size := by
 rw [Fr.put_def] at h
 cases d with
 | none => simp only [Option.some.injEq] at h; subst h; simp
 | some d =>
  simp only at h
  cases hb : Nat.blt d fr.size with
  | false => simp only [hb, cond_false, reduceCtorEq] at h
  | true =>
   simp only [hb, cond_true, Option.some.injEq] at h
   subst h
   exact ⟨rfl, fun k hk => by cases hk; simpa [Nat.blt_eq] using hb⟩
theorem xgV {i : Nat} : ∀ {m : Nat}, (∀ j, j < m -> (ops[j]?).bind (·.dst) = some t -> (L j = true ↔ j < i)) -> i <= m -> Lk ops fr rr L t m = Lk ops fr rr (fun _ => true) t i
 | 0, _, hi => by have : i = 0 := (by omega); subst this; rfl
 | m + 1, h, hi => by
  by_cases hm : i = m + 1
  · subst hm
    simp only [Lk, true_and]
    by_cases hd : (ops[m]?).bind (·.dst) = some t
    · have := (h m (by omega) hd).2 (by omega)
      simp [hd, this]
    simp only [hd, and_false, if_false]
    exact xgV (i := m) (fun j hj hd' => ⟨fun _ => hj, fun _ => (h j (by omega) hd').2 (by omega)⟩) (Nat.le_refl _)
  have hne : ¬ (L m = true /\ (ops[m]?).bind (·.dst) = some t) := by
   rintro ⟨h1, h2⟩
   have := (h m (by omega) h2).1 h1
   omega
  simp only [Lk, if_neg hne]
  exact xgV (fun j hj => h j (by omega)) (by omega)
theorem xoq {i : Nat} (hd : (ops[i]?).bind (·.dst) = some t) : ∀ {m : Nat}, i < m -> (∀ j, i < j -> j < m -> L j = true -> (ops[j]?).bind (·.dst) ≠ some t) -> Lk ops fr rr (More L i) t m = rr i
 | 0, h, _ => by omega
 | m + 1, h, hj => by
  simp only [Lk]
  by_cases hm : m = i
  · subst hm; simp [More, hd]
  have : ¬ (More L i m = true /\ (ops[m]?).bind (·.dst) = some t) := by
   rintro ⟨h1, h2⟩
   simp only [More, Bool.or_eq_true, decide_eq_true_eq] at h1
   rcases h1 with h1 | h1
   · exact hm h1
   exact hj m (by omega) (by omega) h1 h2
  rw [if_neg this]
  exact xoq hd (by omega) (fun j h1 h2 => hj j h1 (by omega))
theorem xiV {i : Nat} (hd : (ops[i]?).bind (·.dst) ≠ some t) : ∀ (m : Nat), Lk ops fr rr (More L i) t m = Lk ops fr rr L t m
 | 0 => rfl
 | m + 1 => by
  simp only [Lk]
  rw [xiV hd m]
  by_cases hm : m = i
  · subst hm; rw [if_neg (fun h => hd h.2), if_neg (fun h => hd h.2)]
  have : More L i m = L m := by simp [More, hm]
  rw [this]
theorem xop {q : Nat} (hL : L q = true) (hd : (ops[q]?).bind (·.dst) = some t) : ∀ {m : Nat}, q < m -> (∀ j, j < m -> L j = true -> j ≠ q -> (ops[j]?).bind (·.dst) ≠ some t) -> Lk ops fr rr L t m = rr q
 | 0, h, _ => by omega
 | m + 1, h, hj => by
  simp only [Lk]
  by_cases hm : m = q
  · subst hm; rw [if_pos ⟨hL, hd⟩]
  rw [if_neg (fun hh => hj m (by omega) hh.1 hm hh.2)]
  exact xop hL hd (by omega) (fun j h1 => hj j (by omega))
end
section
variable {P : Program} {call : xa0} {ops : Array Oper} {t : Tr Nat} {fs : Nat -> Fr} {hs : Nat -> AH} {rr : Nat -> AR} {cl : Nat -> Nat}
theorem Reg.lk (R : Reg P call ops t fs hs rr cl) (d : Tmp) : ∀ i, i <= ops.size -> (fs i).get d = Lk ops (fs 0) rr (fun _ => true) d i
 | 0, _ => rfl
 | i + 1, h => by
  have hx : ops[i]? = some ops[i] := Array.getElem?_eq_getElem (by omega)
  rw [xnH (R.put i _ hx) d, Lk, hx, R.lk d i (by omega)]
  simp
theorem Reg.size (R : Reg P call ops t fs hs rr cl) : ∀ i, i <= ops.size -> (fs i).size = (fs 0).size
 | 0, _ => rfl
 | i + 1, h => by
  have hx : ops[i]? = some ops[i] := Array.getElem?_eq_getElem (by omega)
  rw [(xiz (R.put i _ hx)).1, R.size i (by omega)]
structure Early (P : Program) (ops : Array Oper) (L : Nat -> Bool) (a : Act) (w : World) (n0 : Nat) (H : AH) (ρ : Rho) (q β : Nat) (x : Oper) (T : TypeId) (i : TypeInfo) (v : Value) : Prop where
 at_ : ops[q]? = some x
 op : x.op = .alloc T
 kind : xba P x = 2
 info : P.info? T = some i
 zero : i.zero = some v
 heap : w.heap[β]? = some (.cells v.cells T (0, 0))
 old : n0 <= β
 free : ∀ id b, H.get id = some b -> ρ.blk id ≠ β
 tmp : ∀ d, x.dst = some d -> a.tmps.getD d undef = .pointer (some ⟨β, 0, none⟩)
 only : ∀ j, L j = true -> j ≠ q -> ∀ d, x.dst = some d -> (ops[j]?).bind (·.dst) ≠ some d
structure Rel (D : List Deferred) (P : Program) (ops : Array Oper) (fs : Nat -> Fr) (hs : Nat -> AH) (rr : Nat -> AR) (cl : Nat -> Nat) (ρ0 : Rho) (w0 : World) (p : Nat) (L : Nat -> Bool) (a : Act) (w : World) (ρ : Rho) (β : Nat -> Nat) : Prop where
 pn : p <= ops.size
 done : ∀ c, c < p -> cl c = 1 -> L c = true
 hok : HOK ρ (hs p) w
 kp : Kp (hs 0) ρ0 w0 (hs p) ρ w
 size : a.tmps.size = (fs 0).size
 defers : a.defers = D
 den : ∀ d, (∀ q x, p <= q -> ops[q]? = some x -> cl q = 1 -> L q = true -> x.dst ≠ some d) -> (Lk ops (fs 0) rr L d ops.size).den ρ (hs p).next (a.tmps.getD d undef)
 early : ∀ q, p <= q -> q < ops.size -> cl q = 1 -> L q = true -> ∃ x T i v, Early P ops L a w w0.heap.size (hs p) ρ q (β q) x T i v
 apart : ∀ q q', p <= q -> p <= q' -> q < ops.size -> q' < ops.size -> cl q = 1 -> cl q' = 1 -> L q = true -> L q' = true -> q ≠ q' -> β q ≠ β q'
theorem xfL {x : Oper} {T : TypeId} (ho : x.op = .alloc T) (hk : xba P x = 2) : x.guard = none := by
 obtain ⟨dst, op, ty, pos, after, guard⟩ := x
 simp only at ho; subst ho
 cases guard with
 | none => rfl
 | some g => simp [xba] at hk
theorem kind2 {x : Oper} (hk : xba P x = 2) : ∃ T, x.op = .alloc T := by
 obtain ⟨dst, op, ty, pos, after, guard⟩ := x
 cases op with
 | alloc T => exact ⟨T, rfl⟩
 | convert s d x => simp only [xba] at hk; split at hk <;> simp at hk
 | call c =>
  obtain ⟨callee, args, ats⟩ := c
  cases callee with
  | builtin b => cases b <;> simp [xba] at hk
  | _ => simp [xba] at hk
 | _ => simp [xba] at hk
theorem xfK (R : Reg P call ops t fs hs rr cl) {q : Nat} {x : Oper} {T : TypeId} (hx : ops[q]? = some x) (ho : x.op = .alloc T) (hk : xba P x = 2) :
 ∃ z, zeroCells? P T = some z /\ rr q = .one (.c (.ptr (hs q).next 0)) /\ hs (q + 1) = (hs q).new ⟨z, T, true⟩ := by
 have hg := xfL ho hk
 have hst := R.step q x hx
 have hw : xa6 ops.toList (fs q) x = some true := by unfold xa6; rw [hg]
 rcases hst with ⟨h, _⟩ | ⟨_, h, _⟩ | ⟨_, h, _⟩ | ⟨_, _, _, h⟩
 · rw [hw] at h; simp at h
 · rw [hk] at h; simp at h
 · rw [hk] at h; simp at h
 obtain ⟨dst, op, ty, pos, after, guard⟩ := x
 simp only at ho; subst ho
 have h1 : xaP P (fs q).ev ⟨dst, .alloc T, ty, pos, after, guard⟩ = none := rfl
 have h2 : xbr P (hs q) (fs q).ev ⟨dst, .alloc T, ty, pos, after, guard⟩ = none := rfl
 simp only [opA, h1, h2, actA] at h
 cases hz : zeroCells? P T with
 | some z =>
  simp only [hz, Option.map_some, Option.some.injEq, Prod.mk.injEq, Out.ret.injEq] at h
  exact ⟨z, rfl, h.1.symm, h.2.symm⟩
 | none =>
  exfalso
  have h3 : xbi P (fs q).ev ⟨dst, .alloc T, ty, pos, after, guard⟩ = none := rfl
  have h4 : xcw (fs q).ev ⟨dst, .alloc T, ty, pos, after, guard⟩ = none := rfl
  have h5 : xjn P (fs q).ev ⟨dst, .alloc T, ty, pos, after, guard⟩ = none := rfl
  simp [hz, h3, h4, h5] at h
end
end
section
open Go
section
variable {P : Program} {call : xa0} {ops : Array Oper} {t : Tr Nat} {fs : Nat -> Fr} {hs : Nat -> AH} {rr : Nat -> AR} {cl : Nat -> Nat} {ρ0 : Rho} {w0 : World} {D : List Deferred}
theorem tl {i : Nat} {x : Oper} (h : ops[i]? = some x) : ops.toList[i]? = some x := by rw [Array.getElem?_toList]; exact h
theorem xbZ {q : Nat} {x : Oper} (hx : ops[q]? = some x) : (ops[q]?).bind (·.dst) = x.dst := by rw [hx]; rfl
theorem xjh (R : Reg P call ops t fs hs rr cl) (hk1 : ∀ q x, ops[q]? = some x -> cl q = 1 -> xba P x ≠ 0) (L : Nat -> Bool) (a : Act) (w : World) (β : Nat -> Nat) : ∀ (m p : Nat) (ρ : Rho), ops.size - p = m -> Rel D P ops fs hs rr cl ρ0 w0 p L a w ρ β ->
 ∃ p' ρ', Rel D P ops fs hs rr cl ρ0 w0 p' L a w ρ' β /\ (p' = ops.size \/ (p' < ops.size /\ cl p' = 1 /\ L p' = false))
 | 0, p, ρ, hm, h => ⟨p, ρ, h, .inl (by have := h.pn; omega)⟩
 | m + 1, p, ρ, hm, h => by
  have hp : p < ops.size := by omega
  have hx : ops[p]? = some ops[p] := Array.getElem?_eq_getElem hp
  by_cases hc : cl p = 1
  · cases hL : L p with
    | false => exact ⟨p, ρ, h, .inr ⟨hp, hc, hL⟩⟩
    | true =>
     obtain ⟨x, T, i, v, e⟩ := h.early p (Nat.le_refl _) hp hc hL
     obtain ⟨z, hz, hr, hh⟩ := xfK R e.at_ e.op e.kind
     obtain ⟨i', v', hi', hv', hdz⟩ := xb9 hz ρ (hs p).next
     rw [e.info] at hi'; cases hi'
     rw [e.zero] at hv'; cases hv'
     have hsz := xbh hdz
     have hok := xiW (b := ⟨z, T, true⟩) (cs := v.cells) (fz := (0, 0)) (g := β p) (o := 0) h.hok (w' := w) (Nat.le_refl _) (fun _ _ _ => rfl) e.heap e.free (.inl rfl) (by rw [hsz, Nat.zero_add]; exact Nat.le_refl _) (fun _ => ⟨rfl, hsz⟩)
      (fun k y hy => by rw [Nat.zero_add]; exact xdR hdz k y hy)
     have ext := Rho.upd_ext ρ (hs p).next (β p) 0 v.cells.size
     refine xjh R hk1 L a w β m (p + 1) (ρ.upd (hs p).next (β p) 0 v.cells.size) (by omega) ⟨hp, fun c hc' h1 => ?_, by rw [hh]; exact hok, ?_, h.size, h.defers, fun d hd => ?_, fun q hq hqn h1 h2 => ?_, fun q q' h1 h2 => h.apart q q' (by omega) (by omega)⟩
     · by_cases hcp : c = p
       · subst hcp; exact hL
       exact h.done c (by omega) h1
     · rw [hh]
       have k := h.kp
       refine ⟨k.ext.trans ext k.next, Nat.le_trans k.next (Nat.le_succ _), k.size, k.os, k.tape, k.output, k.frame, fun id b hb => ?_⟩
       rw [AH.get_new] at hb
       split at hb
       · rename_i hid; subst hid; left; simpa [Rho.upd] using e.old
       rename_i hid
       rcases k.come id b hb with h1 | ⟨id0, b0, h1, h2⟩
       · left; simpa [Rho.upd, hid] using h1
       right; exact ⟨id0, b0, h1, by simpa [Rho.upd, hid] using h2⟩
     · have hnx : (hs (p + 1)).next = (hs p).next + 1 := by rw [hh]; rfl
       by_cases hdp : x.dst = some d
       · have : Lk ops (fs 0) rr L d ops.size = rr p := xop hL (by rw [xbZ e.at_]; exact hdp) hp (fun j _ hj hne => e.only j hj hne d hdp)
         rw [this, hr, e.tmp d hdp, hnx]
         exact ⟨Nat.lt_succ_self _, by simp [Rho.upd]⟩
       have := h.den d (fun q y hq hy h1 h2 => by
        by_cases hqp : q = p
        · subst hqp; rw [e.at_] at hy; cases hy; exact hdp
        exact hd q y (by omega) hy h1 h2)
       rw [hnx]
       exact AR.den_mono ext (Nat.le_succ _) _ _ this
     obtain ⟨x', T', i', v', e'⟩ := h.early q (by omega) hqn h1 h2
     refine ⟨x', T', i', v', e'.at_, e'.op, e'.kind, e'.info, e'.zero, e'.heap, e'.old, fun id b hb => ?_, e'.tmp, e'.only⟩
     rw [hh, AH.get_new] at hb
     split at hb
     · rename_i hid
       subst hid
       simp only [Rho.upd, if_true]
       exact h.apart p q (Nat.le_refl _) (by omega) hp hqn hc h1 hL h2 (by omega)
     rename_i hid
     simp only [Rho.upd, if_neg hid]
     exact e'.free id b hb
  have hh : hs (p + 1) = hs p := (R.step p _ hx).same hc
  refine xjh R hk1 L a w β m (p + 1) ρ (by omega) ⟨hp, fun c hc' h1 => ?_, by rw [hh]; exact h.hok, by rw [hh]; exact h.kp, h.size, h.defers, fun d hd => ?_, fun q hq hqn h1 h2 => ?_, fun q q' h1 h2 => h.apart q q' (by omega) (by omega)⟩
  · by_cases hcp : c = p
    · subst hcp; exact absurd h1 hc
    exact h.done c (by omega) h1
  · rw [hh]
    exact h.den d (fun q y hq hy h1 h2 => by
     by_cases hqp : q = p
     · subst hqp; exact absurd h1 hc
     exact hd q y (by omega) hy h1 h2)
  rw [hh]; exact h.early q (by omega) hqn h1 h2
theorem xlL {x : Oper} {d : Tmp} (h : Operand.tmp d ∈ x.op.operands.toList) : d ∈ x.looksAt ops :=
 List.mem_append_left _ (List.mem_filterMap.2 ⟨.tmp d, h, rfl⟩)
theorem xhV {x : Oper} {g : Nat} {b : Bool} {d : Tmp} (h : x.guard = some (g, b)) (hd : (ops[g]?).bind (·.dst) = some d) : d ∈ x.looksAt ops := by
 unfold Oper.looksAt
 rw [h]
 simp only
 rw [hd]
 exact List.mem_append_right _ (by simp)
theorem xlM (R : Reg P call ops t fs hs rr cl) (hk1 : ∀ q x, ops[q]? = some x -> cl q = 1 -> xba P x ≠ 0) {L : Nat -> Bool} (hL : xcK ops.toList L) {a : Act} {w : World} {p : Nat} {ρ : Rho} {β : Nat -> Nat} (h : Rel D P ops fs hs rr cl ρ0 w0 p L a w ρ β)
 (hp : p = ops.size \/ (p < ops.size /\ cl p = 1 /\ L p = false)) {i : Nat} {o : Oper} (ho : ops[i]? = some o) (hi : L i = false) (he : ∀ e ∈ o.after.toList, Region.binds .any e = true -> L e.on = true) {d : Tmp} (hd : d ∈ o.looksAt ops) :
 ((fs i).get d).den ρ (hs p).next (a.tmps.getD d undef) := by
 have hin : i < ops.size := (Array.getElem?_eq_some_iff.1 ho).1
 have F1 : ∀ j, xbD t i j = true -> L j = true := fun j hj => R.mask L hL i o j (tl ho) hj he
 have F2 : ∀ j, j < ops.size -> xbD t j i = true -> L j = false := fun j hjn hj => by
  cases hLj : L j with
  | false => rfl
  | true =>
   have hy : ops[j]? = some ops[j] := Array.getElem?_eq_getElem hjn
   have := R.mask L hL j _ i (tl hy) hj (fun e hem hb => hL j _ (tl hy) hLj e hem hb)
   rw [hi] at this; cases this
 have key : Lk ops (fs 0) rr L d ops.size = (fs i).get d := by
  rw [R.lk d i (by omega)]
  refine xgV (fun j hj hdj => ?_) (by omega)
  have hy : ops[j]? = some ops[j] := Array.getElem?_eq_getElem hj
  rw [xbZ hy] at hdj
  rcases Nat.lt_trichotomy j i with hji | hji | hji
  · refine ⟨fun _ => hji, fun _ => ?_⟩
    cases ha : xbD t i j with
    | true => exact F1 j ha
    | false => exact absurd hd ((Oper.apart_spec (R.pair j i _ _ hy ho hji ha).1).1 d hdj)
  · subst hji
    exact ⟨fun hh => (by rw [hi] at hh; cases hh), fun hh => by omega⟩
  refine ⟨fun hh => ?_, fun hh => by omega⟩
  exfalso
  cases ha : xbD t j i with
  | true => rw [F2 j hj ha] at hh; cases hh
  | false => exact absurd hd ((Oper.apart_spec (R.pair i j _ _ ho hy hji ha).1).2.2 d hdj)
 rw [<- key]
 refine h.den d (fun q x hq hx h1 h2 hxd => ?_)
 have hqn : q < ops.size := (Array.getElem?_eq_some_iff.1 hx).1
 rcases hp with hp | ⟨hpn, hpc, hpL⟩
 · omega
 have hne : q ≠ p := fun hh => by subst hh; rw [hpL] at h2; cases h2
 have hpx : ops[p]? = some ops[p] := Array.getElem?_eq_getElem hpn
 cases ha : xbD t q p with
 | true =>
  have := R.mask L hL q x p (tl hx) ha (fun e hem hb => hL q x (tl hx) h2 e hem hb)
  rw [hpL] at this; cases this
 | false =>
  obtain ⟨_, hor⟩ := R.pair p q _ _ hpx hx (by omega) ha
  rcases hor with h3 | h3 | ⟨_, h3⟩
  · exact hk1 p _ hpx hpc h3
  · exact hk1 q _ hx h1 h3
  rcases h3 i o ho with h4 | h4 | h4
  · subst h4; rw [hi] at h2; cases h2
  · exact (Oper.apart_spec h4).1 d hxd hd
  have := F1 p h4
  rw [hpL] at this; cases this
end
end
section
open Go
section
variable {P : Program} {call : xa0} {ops : Array Oper} {t : Tr Nat} {fs : Nat -> Fr} {hs : Nat -> AH} {rr : Nat -> AR} {cl : Nat -> Nat} {ρ0 : Rho} {w0 : World} {D : List Deferred}
theorem xmZ {a : Act} {k : Option Tmp} {v : Value} {n : Nat} (hn : a.tmps.size = n) (hk : ∀ j, k = some j -> j < n) (d : Tmp) :
 (a.put k v).tmps.getD d undef = if k = some d then v else a.tmps.getD d undef := by
 cases k with
 | none => simp [Act.put]
 | some k =>
  have hlt : k < a.tmps.size := by rw [hn]; exact hk k rfl
  simp only [Act.put, Option.some.injEq, Array.getD_eq_getD_getElem?]
  by_cases h : k = d
  · rw [if_pos h, <- h, Array.getElem?_setIfInBounds_self_of_lt hlt]; rfl
  rw [if_neg h, Array.getElem?_setIfInBounds_ne h]
theorem xb4 (a : Act) (k : Option Tmp) (v : Value) : (a.put k v).tmps.size = a.tmps.size /\ (a.put k v).defers = a.defers := by
 cases k <;> simp [Act.put]
def xcJ (n : Nat) (cl : Nat -> Nat) (L : Nat -> Bool) (p : Nat) : Prop := p = n \/ (p < n /\ cl p = 1 /\ L p = false)
theorem xc8 (R : Reg P call ops t fs hs rr cl) (hk1 : ∀ q x, ops[q]? = some x -> cl q = 1 -> xba P x ≠ 0) {L : Nat -> Bool} (hL : xcK ops.toList L) {p : Nat}
 (hp : xcJ ops.size cl L p) {i : Nat} {o : Oper} (ho : ops[i]? = some o) (hi : L i = false) (he : ∀ e ∈ o.after.toList, Region.binds .any e = true -> L e.on = true)
 {q : Nat} {x : Oper} (hq : p <= q) (hx : ops[q]? = some x) (h1 : cl q = 1) (h2 : L q = true) : Oper.apart ops x o = true := by
 have hqn : q < ops.size := (Array.getElem?_eq_some_iff.1 hx).1
 rcases hp with hp | ⟨hpn, hpc, hpL⟩
 · omega
 have hne : q ≠ p := fun hh => by subst hh; rw [hpL] at h2; cases h2
 have hpx : ops[p]? = some ops[p] := Array.getElem?_eq_getElem hpn
 cases ha : xbD t q p with
 | true =>
  have := R.mask L hL q x p (tl hx) ha (fun e hem hb => hL q x (tl hx) h2 e hem hb)
  rw [hpL] at this; cases this
 | false =>
  obtain ⟨_, hor⟩ := R.pair p q _ _ hpx hx (by omega) ha
  rcases hor with h3 | h3 | ⟨_, h3⟩
  · exact absurd h3 (hk1 p _ hpx hpc)
  · exact absurd h3 (hk1 q _ hx h1)
  rcases h3 i o ho with h4 | h4 | h4
  · subst h4; rw [hi] at h2; cases h2
  · exact h4
  have := R.mask L hL i o p (tl ho) h4 he
  rw [hpL] at this; cases this
theorem xcc (R : Reg P call ops t fs hs rr cl) {L : Nat -> Bool} (hL : xcK ops.toList L) {i : Nat} {o : Oper} (ho : ops[i]? = some o) (hi : L i = false) {a : Act} (hsz : a.tmps.size = (fs 0).size) {v : Value} (d : Tmp) :
 (o.dst = some d /\ Lk ops (fs 0) rr (More L i) d ops.size = rr i /\ (a.put o.dst v).tmps.getD d undef = v) \/
 (o.dst ≠ some d /\ Lk ops (fs 0) rr (More L i) d ops.size = Lk ops (fs 0) rr L d ops.size /\ (a.put o.dst v).tmps.getD d undef = a.tmps.getD d undef) := by
 have hin : i < ops.size := (Array.getElem?_eq_some_iff.1 ho).1
 have hput := xmZ (v := v) hsz (k := o.dst) (fun j hj => by rw [<- R.size i (by omega)]; exact (xiz (R.put i o ho)).2 j hj) d
 by_cases hd : o.dst = some d
 · refine .inl ⟨hd, xoq (by rw [xbZ ho]; exact hd) hin fun j hij hj hLj hdj => ?_, by rw [hput, if_pos hd]⟩
   have hy : ops[j]? = some ops[j] := Array.getElem?_eq_getElem hj
   rw [xbZ hy] at hdj
   cases ha : xbD t j i with
   | true =>
    have := R.mask L hL j _ i (tl hy) ha (fun e hem hb => hL j _ (tl hy) hLj e hem hb)
    rw [hi] at this; cases this
   | false => exact (Oper.apart_spec (R.pair i j _ _ ho hy hij ha).1).2.1 d hd hdj
 exact .inr ⟨hd, xiV (by rw [xbZ ho]; exact hd) _, by rw [hput, if_neg hd]⟩
theorem xaQ {L : Nat -> Bool} {i j : Nat} (h : More L i j = true) : j = i \/ L j = true := by
 simpa [More] using h
theorem xcy {L : Nat -> Bool} {i j : Nat} (h : L j = true) : More L i j = true := by simp [More, h]
theorem xfX (R : Reg P call ops t fs hs rr cl) (hk1 : ∀ q x, ops[q]? = some x -> cl q = 1 -> xba P x ≠ 0) {L : Nat -> Bool} (hL : xcK ops.toList L) {a : Act} {w : World} {p : Nat} {ρ : Rho} {β : Nat -> Nat}
 (h : Rel D P ops fs hs rr cl ρ0 w0 p L a w ρ β) (hp : xcJ ops.size cl L p) {i : Nat} {o : Oper} (ho : ops[i]? = some o) (hi : L i = false) (he : ∀ e ∈ o.after.toList, Region.binds .any e = true -> L e.on = true)
 (hc : cl i ≠ 1) {v : Value} (hv : (rr i).den ρ (hs p).next v) : Rel D P ops fs hs rr cl ρ0 w0 p (More L i) (a.put o.dst v) w ρ β where
 pn := h.pn
 done := fun c hc1 h1 => xcy (h.done c hc1 h1)
 hok := h.hok
 kp := h.kp
 size := (xb4 a _ _).1.trans h.size
 defers := (xb4 a _ _).2.trans h.defers
 den := fun d hd => by
  rcases xcc R hL ho hi h.size (v := v) d with ⟨_, e1, e2⟩ | ⟨_, e1, e2⟩
  · rw [e1, e2]; exact hv
  rw [e1, e2]; exact h.den d fun q x hq hx h1 h2 => hd q x hq hx h1 (xcy h2)
 early := fun q hq hqn h1 h2 => by
  rcases xaQ h2 with rfl | h2
  · exact absurd h1 hc
  obtain ⟨x, T, inf, z, e⟩ := h.early q hq hqn h1 h2
  have hap := Oper.apart_spec (xc8 R hk1 hL hp ho hi he hq e.at_ h1 h2)
  refine ⟨x, T, inf, z, e.at_, e.op, e.kind, e.info, e.zero, e.heap, e.old, e.free, fun d hd => ?_, fun j hj hne d hd => ?_⟩
  · rcases xcc R hL ho hi h.size (v := v) d with ⟨e0, _, _⟩ | ⟨_, _, e2⟩
    · exact absurd e0 (hap.2.1 d hd)
    rw [e2]; exact e.tmp d hd
  rcases xaQ hj with rfl | hj
  · rw [xbZ ho]; exact hap.2.1 d hd
  exact e.only j hj hne d hd
 apart := fun q q' a1 a2 a3 a4 a5 a6 a7 a8 => by
  rcases xaQ a7 with rfl | a7
  · exact absurd a5 hc
  rcases xaQ a8 with rfl | a8
  · exact absurd a6 hc
  exact h.apart q q' a1 a2 a3 a4 a5 a6 a7 a8
theorem xiy (R : Reg P call ops t fs hs rr cl) (hk1 : ∀ q x, ops[q]? = some x -> cl q = 1 -> xba P x ≠ 0) {L : Nat -> Bool} (hL : xcK ops.toList L) {a : Act} {w : World} {p : Nat} {ρ : Rho} {β : Nat -> Nat}
 (h : Rel D P ops fs hs rr cl ρ0 w0 p L a w ρ β) (hp : xcJ ops.size cl L p) {o : Oper} (ho : ops[p]? = some o) (hi : L p = false) (he : ∀ e ∈ o.after.toList, Region.binds .any e = true -> L e.on = true)
 {v : Value} {ρ' : Rho} {w' : World} (hv : (rr p).den ρ' (hs (p + 1)).next v) (hH : HOK ρ' (hs (p + 1)) w') (hK : Kp (hs p) ρ w (hs (p + 1)) ρ' w') :
 Rel D P ops fs hs rr cl ρ0 w0 (p + 1) (More L p) (a.put o.dst v) w' ρ' β where
 pn := (Array.getElem?_eq_some_iff.1 ho).1
 done := fun c hc1 h1 => by
  by_cases hcp : c = p
  · subst hcp; simp [More]
  exact xcy (h.done c (by omega) h1)
 hok := hH
 kp := h.kp.trans hK
 size := (xb4 a _ _).1.trans h.size
 defers := (xb4 a _ _).2.trans h.defers
 den := fun d hd => by
  rcases xcc R hL ho hi h.size (v := v) d with ⟨_, e1, e2⟩ | ⟨_, e1, e2⟩
  · rw [e1, e2]; exact hv
  rw [e1, e2]
  refine AR.den_mono hK.ext hK.next _ _ (h.den d fun q x hq hx h1 h2 => ?_)
  by_cases hqp : q = p
  · subst hqp; rw [hi] at h2; cases h2
  exact hd q x (by omega) hx h1 (xcy h2)
 early := fun q hq hqn h1 h2 => by
  rcases xaQ h2 with rfl | h2
  · omega
  obtain ⟨x, T, inf, z, e⟩ := h.early q (by omega) hqn h1 h2
  have hap := Oper.apart_spec (xc8 R hk1 hL hp ho hi he (by omega) e.at_ h1 h2)
  have hlt : β q < w.heap.size := (Array.getElem?_eq_some_iff.1 e.heap).1
  refine ⟨x, T, inf, z, e.at_, e.op, e.kind, e.info, e.zero, (hK.frame _ hlt e.free).trans e.heap, e.old, fun id b hb hh => ?_, fun d hd => ?_, fun j hj hne d hd => ?_⟩
  · rcases hK.come id b hb with h3 | ⟨id0, b0, h3, h4⟩
    · omega
    exact e.free id0 b0 h3 (h4.trans hh)
  · rcases xcc R hL ho hi h.size (v := v) d with ⟨e0, _, _⟩ | ⟨_, _, e2⟩
    · exact absurd e0 (hap.2.1 d hd)
    rw [e2]; exact e.tmp d hd
  rcases xaQ hj with rfl | hj
  · rw [xbZ ho]; exact hap.2.1 d hd
  exact e.only j hj hne d hd
 apart := fun q q' a1 a2 a3 a4 a5 a6 a7 a8 => by
  rcases xaQ a7 with rfl | a7
  · omega
  rcases xaQ a8 with rfl | a8
  · omega
  exact h.apart q q' (by omega) (by omega) a3 a4 a5 a6 a7 a8
theorem xkx (w : World) (o : Obj) : (∀ k, k < w.heap.size -> (w.alloc o).heap[k]? = w.heap[k]?) /\ (w.alloc o).heap[w.heap.size]? = some o /\ (w.alloc o).heap.size = w.heap.size + 1 :=
 ⟨fun k hk => by show (w.heap.push _)[k]? = _; rw [Array.getElem?_push, if_neg (by omega)], by show (w.heap.push _)[_]? = _; simp, by show (w.heap.push _).size = _; simp⟩
theorem xk3 (R : Reg P call ops t fs hs rr cl) (hk1 : ∀ q x, ops[q]? = some x -> cl q = 1 -> xba P x ≠ 0) {L : Nat -> Bool} (hL : xcK ops.toList L) {a : Act} {w : World} {p : Nat} {ρ : Rho} {β : Nat -> Nat}
 (h : Rel D P ops fs hs rr cl ρ0 w0 p L a w ρ β) (hp : xcJ ops.size cl L p) {i : Nat} {o : Oper} (ho : ops[i]? = some o) (hi : L i = false) (he : ∀ e ∈ o.after.toList, Region.binds .any e = true -> L e.on = true)
 (hc : cl i = 1) (hpi : p < i) (hk : xba P o = 2) {T : TypeId} (hop : o.op = .alloc T) {inf : TypeInfo} {z : Value} (hinf : P.info? T = some inf) (hz : inf.zero = some z)
 (honly : ∀ j, L j = true -> j ≠ i -> ∀ d, o.dst = some d -> (ops[j]?).bind (·.dst) ≠ some d) :
 Rel D P ops fs hs rr cl ρ0 w0 p (More L i) (a.put o.dst (.pointer (some ⟨w.heap.size, 0, none⟩))) (w.alloc (.cells z.cells T)) ρ (fun q => if q = i then w.heap.size else β q) := by
 obtain ⟨a1, a2, a3⟩ := xkx w (.cells z.cells T)
 have hne : ∀ id b, (hs p).get id = some b -> ρ.blk id < w.heap.size := fun id b hb => h.hok.lt_size hb
 refine ⟨h.pn, fun c hc1 h1 => xcy (h.done c hc1 h1), ⟨h.hok.lt, h.hok.inj, fun id b hb => ?_⟩, ?_, (xb4 a _ _).1.trans h.size, (xb4 a _ _).2.trans h.defers, fun d hd => ?_, fun q hq hqn h1 h2 => ?_, fun q q' b1 b2 b3 b4 b5 b6 b7 b8 b9 => ?_⟩
 · obtain ⟨cs, fz, hl⟩ := h.hok.row id b hb
   exact ⟨cs, fz, (a1 _ (hne id b hb)).trans hl.heap, hl.size, hl.thaw, hl.room, hl.whole, hl.den⟩
 · have k := h.kp
   exact ⟨k.ext, k.next, by have := k.size; omega, k.os, k.tape, k.output, fun j hj hn => (a1 j (by have := k.size; omega)).trans (k.frame j hj hn), k.come⟩
 · rcases xcc R hL ho hi h.size (v := .pointer (some ⟨w.heap.size, 0, none⟩)) d with ⟨e0, _, _⟩ | ⟨_, e1, e2⟩
   · exact absurd e0 (hd i o (by omega) ho hc (by simp [More]))
   rw [e1, e2]; exact h.den d fun q x hq hx h1 h2 => hd q x hq hx h1 (xcy h2)
 · by_cases hqi : q = i
   · subst hqi
     refine ⟨o, T, inf, z, ho, hop, hk, hinf, hz, by rw [if_pos rfl]; exact a2, by rw [if_pos rfl]; exact h.kp.size, fun id b hb => by rw [if_pos rfl]; have := hne id b hb; omega, fun d hd => ?_, fun j hj hne' d hd => ?_⟩
     · rcases xcc R hL ho hi h.size (v := .pointer (some ⟨w.heap.size, 0, none⟩)) d with ⟨_, _, e2⟩ | ⟨e0, _, _⟩
       · rw [e2, if_pos rfl]
       exact absurd hd e0
     rcases xaQ hj with hj | hj
     · exact absurd hj hne'
     exact honly j hj hne' d hd
   rcases xaQ h2 with h2 | h2
   · exact absurd h2 hqi
   obtain ⟨x, T', inf', z', e⟩ := h.early q hq hqn h1 h2
   have hap := Oper.apart_spec (xc8 R hk1 hL hp ho hi he hq e.at_ h1 h2)
   have hlt : β q < w.heap.size := (Array.getElem?_eq_some_iff.1 e.heap).1
   refine ⟨x, T', inf', z', e.at_, e.op, e.kind, e.info, e.zero, by rw [if_neg hqi]; exact (a1 _ hlt).trans e.heap, by rw [if_neg hqi]; exact e.old, by rw [if_neg hqi]; exact e.free, fun d hd => ?_, fun j hj hne' d hd => ?_⟩
   · rcases xcc R hL ho hi h.size (v := .pointer (some ⟨w.heap.size, 0, none⟩)) d with ⟨e0, _, _⟩ | ⟨_, _, e2⟩
     · exact absurd e0 (hap.2.1 d hd)
     rw [e2, if_neg hqi]; exact e.tmp d hd
   rcases xaQ hj with rfl | hj
   · rw [xbZ ho]; exact hap.2.1 d hd
   exact e.only j hj hne' d hd
 have lt : ∀ r, p <= r -> r < ops.size -> cl r = 1 -> More L i r = true -> r ≠ i -> β r < w.heap.size := fun r r1 r2 r3 r4 r5 => by
  rcases xaQ r4 with r4 | r4
  · exact absurd r4 r5
  obtain ⟨x, T', inf', z', e⟩ := h.early r r1 r2 r3 r4
  exact (Array.getElem?_eq_some_iff.1 e.heap).1
 by_cases c1 : q = i <;> by_cases c2 : q' = i
 · omega
 · rw [if_pos c1, if_neg c2]; have := lt q' b2 b4 b6 b8 c2; omega
 · rw [if_neg c1, if_pos c2]; have := lt q b1 b3 b5 b7 c1; omega
 rw [if_neg c1, if_neg c2]
 rcases xaQ b7 with b7 | b7
 · exact absurd b7 c1
 rcases xaQ b8 with b8 | b8
 · exact absurd b8 c2
 exact h.apart q q' b1 b2 b3 b4 b5 b6 b7 b8 b9
end
end
end Go.Proofs.YtapmdhejgnplaaaGreat
