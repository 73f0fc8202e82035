/-
  Several texts in one: Appends: what becomes of the two memories. No condition. The append operation, and all operations that make or write memory. No condition. Conversions that make memory, unsafe.String, and all operations that make or write memory. No condition.
-/
import Derived.Test.YtgobcnheemocnaaGreatDoorMg6
import Derived.Deep.AppendSrc
section
namespace Go.Proofs.YtgobcnheemocnaaGreatDoor
open Go
set_option linter.unusedSimpArgs false
set_option linter.unusedVariables false

section
variable {P : Program} {ρ : Rho} {H : AH} {w : World} {e : Operand → Value} {ev : Ev}
variable {dst : Option Tmp} {ty : TypeId} {pos : String} {after : Array Edge} {guard : Option (Nat × Bool)} {r : AR} {H' : AH}

theorem HOK.drawn (h : HOK ρ H w) (d : Nat) : HOK ρ H { w with drawn := d } := ⟨h.lt, h.inj, fun id b hb => let ⟨cs, fz, hl⟩ := h.row id b hb; ⟨cs, fz, hl.heap, hl.size, hl.thaw, hl.room, hl.whole, hl.den⟩⟩
theorem isSrc_kind {u : TypeId} (h : isSrc P u = true) : (∃ e', P.underlying u = some (.slice e')) ∨ P.underlying u = some .string := by
  unfold isSrc at h
  split at h
  · rename_i hu; exact .inl ⟨_, hu⟩
  · rename_i hu; exact .inr hu
  · simp at h
theorem ones_of {n : Nat} {l : List AC} {vs : List Value} (h : All2 (AC.den ρ n) l vs) : ∀ v ∈ vs, v.oneCell' = true := fun v hv => by
  obtain ⟨i, hi⟩ := List.mem_iff_getElem?.1 hv
  have : i < l.length := by have := (List.getElem?_eq_some_iff.1 hi).1; have := h.len; omega
  obtain ⟨u, hu, hdu⟩ := h.get (List.getElem?_eq_getElem this)
  rw [hi] at hu; cases hu; exact AC.den_one hdu
theorem lenA_den {n : Nat} {x : AR} {u : Value} {k : Nat} (h : lenA x = some n) (hd : x.den ρ k u) (w' : World) : (Builtin.lenOf u).run P w' = .ok n w' := by
  unfold lenA at h
  split at h
  · simp only [Option.some.injEq] at h; subst h
    obtain ⟨_, _, o, c, hv, _⟩ := hd; rw [hv]; rfl
  · simp only [Option.some.injEq] at h; subst h; rw [show u = _ from hd.1]; rfl
  · simp only [Option.some.injEq] at h; subst h; rw [show u = _ from hd.1]; rfl
  · simp at h
/-- What an append takes in. -/
theorem src_of {tx : TypeId} {n size : Nat} {x : AR} {u : Value} {l : List AC} (hH : HOK ρ H w) (hk : isSrc P tx = true) (hn : lenA x = some n) (h : slCells H n size x = some l) (hl : l.length = n * size)
    (hd : x.den ρ H.next u) : ∃ vs : List Value, Src P size tx u n vs w ∧ All2 (AC.den ρ H.next) l vs := by
  obtain ⟨vs, hdv, hor⟩ := sl_loads (P := P) hH h hd
  have hlen := hdv.len
  have hfc : ∀ d, (Builtin.firstCells size n u).run P { w with drawn := d } = .ok vs.toArray { w with drawn := d } := by
    intro d
    rcases hor with ⟨a, len, c, hv, hle, hrun⟩ | ⟨len, c, hv, h0, hvs⟩ | ⟨s, hv, hs, hvs⟩
    · rw [hv]; exact hrun d
    · rw [hv, hvs]; rfl
    · rw [hv, hvs, hs]
      simp only [Builtin.firstCells, Sem.run_pure]
      congr 1
      apply Array.ext'
      have : s.extract 0 s.size = s := by
        apply ByteArray.ext; simp
      simp [this]
  exact ⟨vs, ⟨isSrc_kind hk, fun w' => lenA_den hn hd w', hfc w.drawn, hfc (w.drawn + 1), by omega, ones_of hdv⟩, hdv⟩
theorem run_append_fit {t tx el : TypeId} {i : TypeInfo} (ht : P.underlying t = some (.slice el)) (hi : P.info? el = some i) (base : Option Addr) (len cap : Nat) (x : Value) (n : Nat) (news : List Value) (hs : Src P i.size tx x n news w)
    (hroom : len + n ≤ cap) {w' : World} (hst : ∀ a, base = some a → (storeCells (a.add (len * i.size)) news).run P w = .ok () w') (hno : base = none → w' = w) :
    (Builtin.append_ #[t, tx] ty #[.slice base len cap, x]).run P w = .ok (.slice base (len + n) cap) w' := by
  cases base with
  | none =>
    obtain rfl := hno rfl
    rcases hs.kind with ⟨e', hk⟩ | hk <;> simp [Builtin.append_, run_underlying ht, run_underlying hk, sizeOf, typeInfo, hi, hs.len, hroom, hs.cells]
  | some a =>
    have hst := hst a rfl
    rcases hs.kind with ⟨e', hk⟩ | hk <;> simp [Builtin.append_, run_underlying ht, run_underlying hk, sizeOf, typeInfo, hi, hs.len, hroom, hs.cells, hst]
/-- The row that an append makes. -/
theorem grown_ev (hH : HOK ρ H w) {b : Blk} {olds news : List Value} {zs : Array Value} (hwh : b.whole = false) (hd : All2 (AC.den ρ H.next) b.cells (olds ++ news)) :
    HOK (ρ.upd H.next w.heap.size 0 ((olds ++ news).toArray ++ zs).size) (H.new b) (w.drew.alloc (.cells ((olds ++ news).toArray ++ zs) b.elem)) ∧
      Kp H ρ w (H.new b) (ρ.upd H.next w.heap.size 0 ((olds ++ news).toArray ++ zs).size) (w.drew.alloc (.cells ((olds ++ news).toArray ++ zs) b.elem)) := by
  have hlen := hd.len
  refine new_ok hH (fz := (0, 0)) rfl rfl rfl rfl (.inl rfl) (by simp at hlen ⊢; omega) (fun h => by rw [hwh] at h; simp at h) fun k x hx => ?_
  obtain ⟨u, hu, hdu⟩ := hd.get hx
  refine ⟨u, ?_, hdu⟩
  have hk : k < (olds ++ news).length := (List.getElem?_eq_some_iff.1 hu).1
  rw [Array.getElem?_append_left (by simpa using hk)]
  simpa using hu
end
end Go.Proofs.YtgobcnheemocnaaGreatDoor
end
section
namespace Go.Proofs.YtgobcnheemocnaaGreatDoor
open Go
set_option linter.unusedSimpArgs false
set_option linter.unusedVariables false

section
variable {P : Program} {ρ : Rho} {H : AH} {w : World} {e : Operand → Value} {ev : Ev}
variable {dst : Option Tmp} {ty : TypeId} {pos : String} {after : Array Edge} {guard : Option (Nat × Bool)} {r : AR} {H' : AH}

theorem append_exec {x y : Operand} {t u : TypeId} : execOp e ⟨dst, .call ⟨.builtin .append, #[x, y], #[t, u]⟩, ty, pos, after, guard⟩ = (do pure (.value (← Builtin.append_ #[t, u] ty #[e x, e y]))) := by
  simp [execOp, resolve, invoke, builtin]
/-- An append that takes over its slice's block, or makes another one: nobody sees which. -/
theorem over_ok {t tx el : TypeId} {i : TypeInfo} {z : Value} (hH : HOK ρ H w) (ht : P.underlying t = some (.slice el)) (hi : P.info? el = some i) (hz : i.zero = some z)
    {id off len cp n : Nat} {b : Blk} (hb : H.get id = some b) {s u : Value} (hsl : (AC.sl id off len cp i.size false).den ρ H.next s)
    {old new : List AC} {news : List Value} (hs : Src P i.size tx u n news w) (hdn : All2 (AC.den ρ H.next) new news) (hn : 0 < n)
    (hold : cut b.cells off (len * i.size) = some old) (hoff : off + len * i.size = b.cells.length) (hel : b.elem = el)
    (hzc : z.cells.size = i.size) (hby : (len + n) * i.bytes ≤ 1099511627776) (hsm : len + n < 2 ^ 62) :
    ∃ v w' ρ', (Builtin.append_ #[t, tx] ty #[s, u]).run P w = .ok v w' ∧
      (AC.sl H.next 0 (len + n) (len + n) i.size false).den ρ' (H.next + 1) v ∧ HOK ρ' ((H.set id none).new ⟨old ++ new, el, false⟩) w' ∧
      Kp H ρ w ((H.set id none).new ⟨old ++ new, el, false⟩) ρ' w' := by
  obtain ⟨hlt, hlc, o, c, rfl, ho, _, hx⟩ := hsl
  obtain ⟨hcc, hsz⟩ := hx rfl
  obtain ⟨hD, hK⟩ := del_ok hH id
  obtain ⟨cs, fz, hl⟩ := hH.row id b hb
  have hnl := hs.newsLen
  have hol := cut_len hold
  by_cases hfit : len + n ≤ c
  · have hc0 : c ≠ 0 := by omega
    have hoe := ho hc0
    subst hoe
    have hmul : (len + n) * i.size ≤ c * i.size := Nat.mul_le_mul_right _ hfit
    rw [Nat.add_mul] at hmul
    have hcs := hl.size
    obtain ⟨w', cur', hrun, hs1, hos, hta, hou, hoth, hbk, hcur, hk⟩ := run_stores P (ρ.blk id) (ρ.base id + off + len * i.size) b.elem fz news 0 cs w hl.heap hl.thaw (by omega) hs.one
    have hap := run_append_fit (P := P) (ty := ty) ht hi (some ⟨ρ.blk id, ρ.base id + off, none⟩) len c u n news hs hfit (w' := w') (fun a ha => by cases ha; rw [add_at]; exact hrun) (fun h => by cases h)
    have hothk : ∀ k, k < w.heap.size → k ≠ ρ.blk id → w'.heap[k]? = w.heap[k]? := fun k _ hk => hoth k hk
    have hfree : ∀ id' b', (H.set id none).get id' = some b' → ρ.blk id' ≠ ρ.blk id := fun id' b' h' e => by
      rw [AH.get_set] at h'
      split at h'
      · simp at h'
      · rename_i hne; exact hne (hH.inj id' id b' b h' hb e)
    have hlen2 : (old ++ new).length = (len + n) * i.size := by rw [List.length_append, hol, hdn.len, hnl, Nat.add_mul]
    have hdold : ∀ k x, old[k]? = some x → ∃ v, cs[ρ.base id + off + k]? = some v ∧ x.den ρ H.next v := fun k x hx => by
      have hk' : k < len * i.size := by have := (List.getElem?_eq_some_iff.1 hx).1; omega
      have hoc : b.cells[off + k]? = some x := by
        unfold cut at hold
        cases hq : Nat.beq ((b.cells.drop off).take (len * i.size)).length (len * i.size) with
        | false => simp only [hq, cond_false, reduceCtorEq] at hold
        | true =>
          simp only [hq, cond_true, Option.some.injEq] at hold
          rw [← hold, List.getElem?_take, if_pos hk', List.getElem?_drop] at hx
          exact hx
      obtain ⟨v, hv, hd⟩ := hl.den _ _ hoc
      exact ⟨v, by rw [Nat.add_assoc]; exact hv, hd⟩
    refine ⟨_, w', ρ.upd H.next (ρ.blk id) (ρ.base id + off) cur'.size, hap, ⟨Nat.lt_succ_self _, Nat.le_refl _, ρ.base id + off, c, by simp [Rho.upd], fun _ => by simp [Rho.upd], fun h => by simp at h, fun _ => ⟨hfit, by simp [Rho.upd]; omega⟩⟩, ?_, ?_⟩
    · refine lay_ok hD (by omega) hothk (by rw [← hel]; exact hbk) hfree (by rw [hcur]; exact hl.thaw) (by rw [hlen2, hcur, Nat.add_mul]; omega) (fun h => by simp at h) fun k x hx => ?_
      simp only at hx
      rw [hk]
      by_cases c1 : k < len * i.size
      · rw [List.getElem?_append_left (by omega)] at hx
        rw [if_neg (by omega)]
        exact hdold k x hx
      · rw [List.getElem?_append_right (by omega), hol] at hx
        obtain ⟨v, hv, hd⟩ := hdn.get hx
        have : k - len * i.size < news.length := (List.getElem?_eq_some_iff.1 hv).1
        rw [if_pos (by omega)]
        have e2 : ρ.base id + off + k - (ρ.base id + off + len * i.size + 0) = k - len * i.size := by omega
        exact ⟨v, by rw [e2]; exact hv, hd⟩
    · refine ⟨Rho.upd_ext _ _ _ _ _, Nat.le_succ _, by omega, hos, hta, hou, fun k hk' hn' => hoth k (Ne.symm (hn' id b hb)), fun id' b' h' => ?_⟩
      rw [AH.get_new] at h'
      split at h'
      · rename_i hid
        have hid : id' = H.next := hid
        exact .inr ⟨id, b, hb, by simp [Rho.upd, hid]⟩
      · rename_i hid
        have hid : ¬ id' = H.next := hid
        rw [AH.get_set] at h'
        split at h'
        · simp at h'
        · exact .inr ⟨id', b', h', by simp [Rho.upd, hid]⟩
  · have hdold : ∃ olds : List Value, (∀ d, (Builtin.firstCells i.size len (.slice (some ⟨ρ.blk id, o, none⟩) len c)).run P { w with drawn := d } = .ok olds.toArray { w with drawn := d }) ∧ All2 (AC.den ρ H.next) old olds := by
      obtain ⟨olds, hrun, hdo, _⟩ := loads (P := P) hH hb hold
      refine ⟨olds, fun d => ?_, hdo⟩
      by_cases hc0 : c = 0
      · have hl0 : len = 0 := by omega
        subst hl0
        have : old = [] := List.eq_nil_of_length_eq_zero (by omega)
        subst this
        have : olds = [] := List.eq_nil_of_length_eq_zero (by have := hdo.len; simpa using this.symm)
        subst this
        simp [Builtin.firstCells, loadCells, loadCellsFrom]
      · rw [ho hc0]; exact hrun d
    obtain ⟨olds, hrun, hdo⟩ := hdold
    have hgr := run_append_grow_src (P := P) w t tx ty el i z ht hi hz (some ⟨ρ.blk id, o, none⟩) len c olds (hrun (w.drawn + 1)) u n news hs (by omega) (by omega) (growslice_fits (by omega) (by omega))
    have hge := grownCap_ge w (len + n) c el
    obtain ⟨h1, h2⟩ := grown_ev (zs := Builtin.zeroCells z.cells (grownCap w (len + n) c el - (len + n))) hD (b := ⟨old ++ new, el, false⟩) rfl (hdo.app hdn)
    refine ⟨_, _, _, hgr, ⟨Nat.lt_succ_self _, Nat.le_refl _, 0, _, by simp [Rho.upd, AH.set_next], fun _ => by simp [Rho.upd, AH.set_next], fun h => by simp at h, fun _ => ⟨hge, ?_⟩⟩, h1, hK.trans h2⟩
    have ho2 : olds.length = len * i.size := by rw [← hdo.len]; exact hol
    simp only [Rho.upd, AH.set_next, if_true, Array.size_append, List.size_toArray, List.length_append, size_zeroCells, ho2, hnl]
    rw [Nat.zero_add, ← Nat.add_mul]
    rw [hzc, ← Nat.add_mul]
    have : len + n + (grownCap w (len + n) c el - (len + n)) = grownCap w (len + n) c el := by omega
    rw [this]; exact Nat.le_refl _
theorem slCells_len {n size : Nat} {x : AR} {l : List AC} (h : slCells H n size x = some l) : l.length = n * size := by
  unfold slCells at h
  split at h
  · rename_i id off len cp es ex
    cases hb : (Nat.ble n len && Nat.beq es size) with
    | false => simp only [hb, cond_false, reduceCtorEq] at h
    | true =>
      simp only [hb, cond_true] at h
      cases hg : H.get id with
      | none => simp [hg] at h
      | some b => simp only [hg, Option.bind_some] at h; exact cut_len h
  · cases hb : Nat.beq n 0 with
    | false => simp only [hb, cond_false, reduceCtorEq] at h
    | true =>
      simp only [hb, cond_true, Option.some.injEq] at h; subst h
      rw [Nat.eq_of_beq_eq_true hb]; simp
  · rename_i s
    cases hb : (Nat.beq n s.size && Nat.beq size 1) with
    | false => simp only [hb, cond_false, reduceCtorEq] at h
    | true =>
      simp only [hb, cond_true, Option.some.injEq] at h; subst h
      simp only [Bool.and_eq_true] at hb
      rw [Nat.eq_of_beq_eq_true hb.1, Nat.eq_of_beq_eq_true hb.2]; simp
  · simp at h
theorem a_append {args : Array Operand} {ats : Array TypeId} (hH : HOK ρ H w) (h : actA P H ev ⟨dst, .call ⟨.builtin .append, args, ats⟩, ty, pos, after, guard⟩ = some (r, H'))
    (he : EvOK ρ H.next ev e args.toList) : Does P e ρ H w ⟨dst, .call ⟨.builtin .append, args, ats⟩, ty, pos, after, guard⟩ r H' := by
  simp only [actA] at h
  split at h
  · rename_i t u s x hats hargs
    obtain ⟨p, q, hpq⟩ : ∃ p q, args.toList = [p, q] := by
      cases hl : args.toList with
      | nil => simp [hl] at hargs
      | cons p l => cases l with
        | nil => simp [hl] at hargs
        | cons q l => cases l with
          | nil => exact ⟨p, q, rfl⟩
          | cons _ _ => simp [hl] at hargs
    rw [hpq] at hargs he
    simp only [List.map_cons, List.map_nil, List.cons.injEq, and_true] at hargs
    obtain ⟨hp, hq⟩ := hargs
    have hep := he p (by simp)
    have heq := he q (by simp)
    rw [hp] at hep; rw [hq] at heq
    have hA : args = #[p, q] := Array.toList_inj.1 (by simpa using hpq)
    have hT : ats = #[t, u] := Array.toList_inj.1 (by simpa using hats)
    subst hA; subst hT
    clear hpq hats
    unfold Does
    rw [append_exec]
    have fin : ∀ {v w'}, (Builtin.append_ #[t, u] ty #[e p, e q]).run P w = .ok v w' → (do pure (Next.value (← Builtin.append_ #[t, u] ty #[e p, e q]))).run P w = .ok (.value v) w' := by
      intro v w' hh; simp [hh]
    split at h
    · rename_i el ht hsrc
      split at h
      · rename_i size n bytes hs hn hby
        have hinfo : ∃ i, P.info? el = some i ∧ i.size = size ∧ i.bytes = bytes := by
          simp only [szOf, Option.map_eq_some_iff] at hs hby
          obtain ⟨i, hi, h1⟩ := hs
          obtain ⟨j, hj, h2⟩ := hby
          rw [hi] at hj; cases hj
          exact ⟨i, hi, h1, h2⟩
        obtain ⟨i, hi, rfl, rfl⟩ := hinfo
        split at h
        · -- nothing is appended
          have hS : Src P i.size u (e q) 0 [] w := by
            refine ⟨isSrc_kind hsrc, fun w' => lenA_den hn heq w', ?_, ?_, by simp, by simp⟩ <;>
            · have hle := lenA_den (P := P) hn heq w
              cases hqv : e q <;> rw [hqv] at hle <;> first
                | (simp [Builtin.lenOf] at hle; done)
                | skip
              case string s => simp [Builtin.firstCells]
              case slice a l c => cases a <;> simp [Builtin.firstCells, loadCells, loadCellsFrom]
          split at h
          · rename_i id off len cp es ex
            simp only [Option.some.injEq, Prod.mk.injEq] at h
            obtain ⟨rfl, rfl⟩ := h
            have hep' := hep
            obtain ⟨_, hlc, o, c, hv, ho, hx1, hx2⟩ := hep'
            have hle : len + 0 ≤ c := by
              cases ex with
              | true => have := hx1 rfl; omega
              | false => have := (hx2 rfl).1; omega
            refine ⟨e p, w, ρ, .inl (fin ?_), hep, hH, Kp.refl _ _ _⟩
            rw [hv]
            exact run_append_fit ht hi _ len c (e q) 0 [] hS hle (fun a ha => rfl) (fun h => rfl)
          · simp only [Option.some.injEq, Prod.mk.injEq] at h
            obtain ⟨rfl, rfl⟩ := h
            refine ⟨e p, w, ρ, .inl (fin ?_), hep, hH, Kp.refl _ _ _⟩
            rw [show e p = _ from hep.1]
            exact run_append_fit ht hi none 0 0 (e q) 0 [] hS (Nat.le_refl _) (fun a ha => rfl) (fun h => rfl)
          · simp at h
        · rename_i n'
          split at h
          · rename_i new z hnew hz
            cases hb1 : (Nat.beq z.length i.size && (Nat.ble ((n' + 1) * i.bytes) 1099511627776 && Nat.ble (n' + 1) 1000000000)) with
            | false => simp only [hb1, cond_false, reduceCtorEq] at h
            | true =>
              simp only [hb1, cond_true] at h
              simp only [Bool.and_eq_true, Nat.beq_eq, Nat.ble_eq] at hb1
              obtain ⟨i', zv, hi', hzz, hdz⟩ := zero_den hz ρ H.next
              rw [hi] at hi'; cases hi'
              have hzc : zv.cells.size = i.size := by rw [den_size hdz]; exact hb1.1
              have hnl := slCells_len hnew
              obtain ⟨news, hS, hdn⟩ := src_of hH hsrc hn hnew hnl heq
              have hn62 : ∀ k, k * i.bytes ≤ 1099511627776 → k * i.bytes ≤ 140737488355328 := fun k hk => by omega
              -- a new row behind elements that are known
              have grow : ∀ {base : Option Addr} {len c : Nat} {old : List AC} {olds : List Value}, e p = .slice base len c → All2 (AC.den ρ H.next) old olds → old.length = len * i.size →
                  (Builtin.firstCells i.size len (.slice base len c)).run P w.drew = .ok olds.toArray w.drew → ¬ len + (n' + 1) ≤ c → (len + (n' + 1)) * i.bytes ≤ 1099511627776 → len + (n' + 1) < 2 ^ 62 →
                  r = .one (.c (.sl H.next 0 (len + (n' + 1)) (len + (n' + 1)) i.size false)) → H' = H.new ⟨old ++ new, el, false⟩ →
                  ∃ v w' ρ', ((do pure (Next.value (← Builtin.append_ #[t, u] ty #[e p, e q]))).run P w = .ok (.value v) w' ∨ (do pure (Next.value (← Builtin.append_ #[t, u] ty #[e p, e q]))).run P w = .ok .skip w' ∧ v = undef) ∧
                    AR.den ρ' H'.next r v ∧ HOK ρ' H' w' ∧ Kp H ρ w H' ρ' w' := by
                intro base len c old olds hv hdo hol hold hfit hby2 h62 hr hH'
                subst hr; subst hH'
                have hgr := run_append_grow_src (P := P) (ty := ty) w t u el i zv ht hi hzz base len c olds hold (e q) (n' + 1) news hS (by omega) (by omega) (growslice_fits (by omega) (by omega))
                have hge := grownCap_ge w (len + (n' + 1)) c el
                obtain ⟨h1, h2⟩ := grown_ev (zs := Builtin.zeroCells zv.cells (grownCap w (len + (n' + 1)) c el - (len + (n' + 1)))) hH (b := ⟨old ++ new, el, false⟩) rfl (hdo.app hdn)
                refine ⟨_, _, _, .inl (fin (by rw [hv]; exact hgr)), ⟨Nat.lt_succ_self _, Nat.le_refl _, 0, _, by simp [Rho.upd], fun _ => by simp [Rho.upd], fun h => by simp at h, fun _ => ⟨hge, ?_⟩⟩, h1, h2⟩
                have ho2 : olds.length = len * i.size := by rw [← hdo.len]; exact hol
                simp only [Rho.upd, if_true, Array.size_append, List.size_toArray, List.length_append, size_zeroCells, ho2, hS.newsLen]
                rw [Nat.zero_add, ← Nat.add_mul, hzc, ← Nat.add_mul]
                have : len + (n' + 1) + (grownCap w (len + (n' + 1)) c el - (len + (n' + 1))) = grownCap w (len + (n' + 1)) c el := by omega
                rw [this]; exact Nat.le_refl _
              split at h
              · simp only [Option.some.injEq, Prod.mk.injEq] at h
                obtain ⟨rfl, rfl⟩ := h
                have h62 : n' + 1 < 2 ^ 62 := by omega
                refine grow (base := none) (len := 0) (c := 0) (old := []) (olds := []) hep.1 trivial (by simp) (by simp [Builtin.firstCells]) (by omega) (by simpa using hb1.2.1) (by simpa using h62) (by simp) (by simp)
              · rename_i id off len cp es ex
                split at h
                · rename_i b hb
                  cases hb2 : (Nat.beq es i.size && (Nat.ble ((len + (n' + 1)) * i.bytes) 1099511627776 && Nat.ble (len + (n' + 1)) 1000000000)) with
                  | false => simp only [hb2, cond_false, reduceCtorEq] at h
                  | true =>
                    simp only [hb2, cond_true] at h
                    simp only [Bool.and_eq_true, Nat.beq_eq, Nat.ble_eq] at hb2
                    obtain ⟨hes, hby2, hne⟩ := hb2
                    subst hes
                    have h62 : len + (n' + 1) < 2 ^ 62 := by omega
                    have hep' := hep
                    obtain ⟨hlt, hlc, o, c, hv, ho, hx1, hx2⟩ := hep'
                    cases hb3 : Nat.ble (len + (n' + 1)) cp with
                    | true =>
                      simp only [hb3, cond_true] at h
                      simp only [Nat.ble_eq] at hb3
                      cases hb4 : Nat.ble (off + (len + (n' + 1)) * i.size) b.cells.length with
                      | false => simp only [hb4, cond_false, reduceCtorEq] at h
                      | true =>
                        simp only [hb4, cond_true, Option.some.injEq, Prod.mk.injEq] at h
                        simp only [Nat.ble_eq] at hb4
                        obtain ⟨rfl, rfl⟩ := h
                        have hcc : cp ≤ c := by
                          cases ex with
                          | true => have := hx1 rfl; omega
                          | false => exact (hx2 rfl).1
                        rw [Nat.add_mul] at hb4
                        obtain ⟨w', hrun, h1, h2⟩ := put_ok (P := P) (off := off + len * i.size) hH hb hdn (by rw [hnl]; simp only [Nat.succ_eq_add_one]; omega)
                        refine ⟨.slice (some ⟨ρ.blk id, o, none⟩) (len + (n' + 1)) c, w', ρ, .inl (fin ?_), ⟨hlt, hb3, o, c, rfl, ho, hx1, hx2⟩, h1, h2⟩
                        rw [hv]
                        refine run_append_fit ht hi _ len c (e q) _ news hS (by omega) (fun a ha => ?_) (fun h => by cases h)
                        cases ha
                        rw [add_at, ho (by omega), Nat.add_assoc]; exact hrun
                    | false =>
                      simp only [hb3, cond_false] at h
                      have hb3' : ¬ len + (n' + 1) ≤ cp := fun hh => by rw [Nat.ble_eq_true_of_le hh] at hb3; cases hb3
                      split at h
                      · simp at h
                      · rename_i old hold
                        cases ex with
                        | true =>
                          simp only [cond_true, Option.some.injEq, Prod.mk.injEq] at h
                          obtain ⟨rfl, rfl⟩ := h
                          have hcc := hx1 rfl
                          obtain ⟨olds, hrun, hdo, _⟩ := loads (P := P) hH hb hold
                          refine grow hv hdo (cut_len hold) ?_ (by omega) hby2 h62 rfl rfl
                          by_cases hc0 : c = 0
                          · have hl0 : len = 0 := by omega
                            subst hl0
                            have : old = [] := List.eq_nil_of_length_eq_zero (by have := cut_len hold; omega)
                            subst this
                            have : olds = [] := List.eq_nil_of_length_eq_zero (by have := hdo.len; simpa using this.symm)
                            subst this
                            simp [Builtin.firstCells, loadCells, loadCellsFrom]
                          · rw [ho hc0]; exact hrun (w.drawn + 1)
                        | false =>
                          simp only [cond_false] at h
                          cases hb5 : (Nat.beq (off + len * i.size) b.cells.length && Nat.beq b.elem el) with
                          | false => simp only [hb5, cond_false, reduceCtorEq] at h
                          | true =>
                            simp only [hb5, cond_true, Option.some.injEq, Prod.mk.injEq] at h
                            simp only [Bool.and_eq_true, Nat.beq_eq] at hb5
                            obtain ⟨rfl, rfl⟩ := h
                            obtain ⟨v, w', ρ', h1, h2, h3, h4⟩ := over_ok (ty := ty) hH ht hi hzz hb hep hS hdn (Nat.succ_pos _) hold hb5.1 hb5.2 hzc hby2 h62
                            exact ⟨v, w', ρ', .inl (fin h1), h2, h3, h4⟩
                · simp at h
              · simp at h
          · simp at h
      · simp at h
    · simp at h
  · simp at h
end
end Go.Proofs.YtgobcnheemocnaaGreatDoor
end
section
namespace Go.Proofs.YtgobcnheemocnaaGreatDoor
open Go
set_option linter.unusedSimpArgs false
set_option linter.unusedVariables false

section
variable {P : Program} {ρ : Rho} {H : AH} {w : World} {e : Operand → Value} {ev : Ev}
variable {dst : Option Tmp} {ty : TypeId} {pos : String} {after : Array Edge} {guard : Option (Nat × Bool)} {r : AR} {H' : AH}

theorem freeze_heap (w : World) (b o k : Nat) (h : 0 < k) : (w.freeze ⟨b, o, none⟩ k).heap.size = w.heap.size ∧ (∀ j, j ≠ b → (w.freeze ⟨b, o, none⟩ k).heap[j]? = w.heap[j]?) ∧
    ∀ cs t fz, w.heap[b]? = some (.cells cs t fz) → (w.freeze ⟨b, o, none⟩ k).heap[b]? = some (.cells cs t (if fz.1 = fz.2 then (o, o + k) else (min fz.1 o, max fz.2 (o + k)))) := by
  unfold World.freeze
  rw [if_neg (by omega)]
  refine ⟨by simp, fun j hj => ?_, fun cs t fz hb => ?_⟩
  · simp only [Array.getElem?_modify]; rw [if_neg (Ne.symm hj)]
  · simp only [Array.getElem?_modify, if_true, hb, Option.map_some]
    obtain ⟨lo, hi⟩ := fz
    simp only [beq_iff_eq]
theorem a_convert {s d : TypeId} {x : Operand} (hH : HOK ρ H w) (h : actA P H ev ⟨dst, .convert s d x, ty, pos, after, guard⟩ = some (r, H')) (he : (ev x).den ρ H.next (e x)) :
    Does P e ρ H w ⟨dst, .convert s d x, ty, pos, after, guard⟩ r H' := by
  simp only [actA] at h
  split at h
  · rename_i el t hs hd hx
    rw [hx] at he
    have hv : e x = .string t := he.1
    split at h
    · rename_i hel hsz
      simp only [Option.some.injEq, Prod.mk.injEq] at h
      obtain ⟨rfl, rfl⟩ := h
      let q := Question.appendCap t.size 0 el
      let c := q.cut (w.tape w.drawn q)
      have hc : t.size ≤ c := by show _ ≤ t.size + _; omega
      let cs : Array Value := t.data.map (fun b => .int .u8 b.toNat) ++ Array.replicate (c - t.size) (.int .u8 0)
      have hcs : cs.size = c := by
        show (t.data.map _ ++ Array.replicate _ _).size = c
        simp only [Array.size_append, Array.size_map, Array.size_replicate]
        have : t.data.size = t.size := rfl
        omega
      let w1 : World := w.drew.alloc (.cells cs el)
      have hw1 : w1.heap[w.heap.size]? = some (.cells cs el (0, 0)) := by show (w.heap.push _)[_]? = _; simp
      obtain ⟨f1, f2, f3⟩ := freeze_heap w1 w.heap.size cs.size 1 (by omega)
      have f3 := f3 _ _ _ hw1
      simp only [if_true] at f3
      let w' := w1.freeze ⟨w.heap.size, cs.size, none⟩ 1
      have hoth : ∀ k, k < w.heap.size → k ≠ w.heap.size → w'.heap[k]? = w.heap[k]? := fun k hk hne => (f2 k hne).trans (by show (w.heap.push _)[k]? = _; rw [Array.getElem?_push, if_neg (by omega)])
      have hsz' : w.heap.size ≤ w'.heap.size := by
        have : w'.heap.size = w1.heap.size := f1
        have h2 : w1.heap.size = w.heap.size + 1 := by show (w.heap.push _).size = _; simp
        omega
      have hos : w'.os = w.os ∧ w'.tape = w.tape ∧ w'.output = w.output := by
        show (World.freeze _ _ _).os = _ ∧ (World.freeze _ _ _).tape = _ ∧ (World.freeze _ _ _).output = _
        unfold World.freeze; rw [if_neg (by omega)]; exact ⟨rfl, rfl, rfl⟩
      have hdl : (t.data.toList.map fun b => AC.lit (.int .u8 b.toNat)).length = t.size := by simp
      refine ⟨.slice (some ⟨w.heap.size, 0, none⟩) t.size c, w', ρ.upd H.next w.heap.size 0 cs.size, .inl ?_, ⟨Nat.lt_succ_self _, Nat.le_refl _, 0, c, by simp [Rho.upd], fun _ => by simp [Rho.upd], fun hh => by simp at hh, fun _ => ⟨hc, by simp [Rho.upd, hcs]⟩⟩, ?_,
        lay_kp hsz' hos.1 hos.2.1 hos.2.2 hoth (Nat.le_refl _) hH⟩
      · have hfor : q.forced = false := rfl
        have hrun : (Conv.stringToBytes el t).run P w = .ok (.slice (some ⟨w.heap.size, 0, none⟩) t.size c) w' := by
          simp only [Conv.stringToBytes, Sem.run_bind, run_choose]
          rw [show (Question.appendCap t.size 0 el).forced = false from rfl]
          simp only [Bool.false_eq_true, if_false, Result.andThen_ok, newRow, Sem.run_bind, run_newObj, Sem.run_pure, markStringish, run_shape]
          have hshape : World.shape? w1 w.heap.size = some (el, cs.size) := by simp [World.shape?, hw1]
          simp only [World.shape?] at hshape
          show Result.andThen _ _ = _
          simp [World.shape?]
          refine ⟨rfl, ?_⟩
          have hX : t.size + (c - t.size) = cs.size := by omega
          show w1.freeze ⟨w.heap.size, t.size + (c - t.size), none⟩ 1 = w1.freeze ⟨w.heap.size, cs.size, none⟩ 1
          rw [hX]
        simp only [execOp, convert, Sem.run_bind, run_underlying hs, run_underlying hd, Result.andThen_ok, hv, run_underlying hel, hrun, Sem.run_pure]
      · refine lay_ok hH hsz' hoth f3 (fun id b hb => by have := hH.lt_size hb; omega) (.inr (Nat.le_refl _)) (by rw [hdl]; omega) (fun hh => by simp at hh) fun i y hy => ?_
        simp only [List.getElem?_map, Option.map_eq_some_iff] at hy
        obtain ⟨b, hb, rfl⟩ := hy
        refine ⟨.int .u8 b.toNat, ?_, rfl, rfl⟩
        have hi : i < t.data.size := by have := (List.getElem?_eq_some_iff.1 hb).1; simpa using this
        rw [Nat.zero_add]
        show (t.data.map _ ++ Array.replicate _ _)[i]? = _
        rw [Array.getElem?_append_left (by simpa using hi)]
        have hb' : t.data[i]? = some b := by simpa using hb
        simp [hb']
    · simp at h
  · rename_i s1 el id off len cp es ex hs hd hx
    rw [hx] at he
    have he' := he
    obtain ⟨hlt, hlc, o, c, hv, ho, hx1, hx2⟩ := he'
    split at h
    · rename_i hsd hel
      cases hg : H.get id with
      | none => simp [hg] at h
      | some b =>
        simp only [hg, Option.isSome_some, cond_true, Option.some.injEq, Prod.mk.injEq] at h
        obtain ⟨rfl, rfl⟩ := h
        have hsd' : s = d := Nat.eq_of_beq_eq_true hsd
        subst hsd'
        have hse : s1 = el := by rw [hs] at hd; cases hd; rfl
        subst hse
        obtain ⟨cs, fz, hl⟩ := hH.row id b hg
        obtain ⟨f1, f2, f3⟩ := freeze_heap w (ρ.blk id) cs.size 1 (by omega)
        have f3 := f3 _ _ _ hl.heap
        let w' := w.freeze ⟨ρ.blk id, cs.size, none⟩ 1
        have hos : w'.os = w.os ∧ w'.tape = w.tape ∧ w'.output = w.output := by
          show (World.freeze _ _ _).os = _ ∧ (World.freeze _ _ _).tape = _ ∧ (World.freeze _ _ _).output = _
          unfold World.freeze; rw [if_neg (by omega)]; exact ⟨rfl, rfl, rfl⟩
        refine ⟨e x, w', ρ, .inl ?_, he, ⟨hH.lt, hH.inj, fun i b' hb' => ?_⟩, ⟨.refl _ _, Nat.le_refl _, by show _ ≤ w'.heap.size; rw [show w'.heap.size = _ from f1]; exact Nat.le_refl _, hos.1, hos.2.1, hos.2.2, fun k hk hn => f2 k (Ne.symm (hn id b hg)), fun i b' hb' => .inr ⟨i, b', hb', rfl⟩⟩⟩
        · have hsh : World.shape? w (ρ.blk id) = some (b.elem, cs.size) := by simp [World.shape?, hl.heap]
          simp only [execOp, convert, Sem.run_bind, run_underlying hs, Result.andThen_ok, hv, run_underlying hel, BEq.rfl]
          simp [markStringish, hsh]
          rfl
        · obtain ⟨cs', fz', hl'⟩ := hH.row i b' hb'
          by_cases hii : ρ.blk i = ρ.blk id
          · have := hH.inj i id b' b hb' hg hii
            subst this
            rw [hg] at hb'; cases hb'
            have hcs : cs' = cs ∧ fz' = fz := by
              have := hl'.heap.symm.trans hl.heap
              simp only [Option.some.injEq, Obj.cells.injEq] at this
              exact ⟨this.1, this.2.2⟩
            obtain ⟨rfl, rfl⟩ := hcs
            refine ⟨cs', _, f3, hl'.size, ?_, hl'.room, hl'.whole, hl'.den⟩
            have ht := hl'.thaw
            split
            · right; simp
            · right
              show cs'.size ≤ min fz'.1 cs'.size
              omega
          · exact ⟨cs', fz', (f2 _ hii).trans hl'.heap, hl'.size, hl'.thaw, hl'.room, hl'.whole, hl'.den⟩
    · simp at h
  · simp at h
theorem lies_bytes {u : TypeId} {cells off n : Nat} (hc : P.cellsOf u = 1) (hd : 1 < P.depth) (h : off + n ≤ cells) : liesAt P P.depth u (cells / P.cellsOf u) off u n = true := by
  obtain ⟨d, hd'⟩ : ∃ d, P.depth = d + 1 := ⟨P.depth - 1, by omega⟩
  have hs : sameLayout P P.depth u u = true := by rw [hd']; simp [sameLayout]
  rw [hd', liesAt, hc]
  have hr : rowAt P (fun x => sameLayout P P.depth x u) P.depth u (cells / 1) off n = true := by
    rw [hd', rowAt, hc]
    rw [← hd']
    simp [hs, Nat.mod_one]
    exact .inl h
  rw [hr]; simp
theorem run_loadBytes (a : Addr) : ∀ (ns : List Int) (i : Nat) (acc : ByteArray), (∀ j v, (ns.map (Value.int .u8 ·))[j]? = some v → w.cell? (a.add (i + j)) = some v) →
    (loadBytes (a.add i) acc ns.length).run P w = .ok (ns.foldl (fun b k => b.push (UInt8.ofNat k.toNat)) acc) w
  | [], i, acc, _ => rfl
  | k :: ns, i, acc, h => by
    have h0 := h 0 (.int .u8 k) (by simp)
    rw [Nat.add_zero] at h0
    have ih := run_loadBytes a ns (i + 1) (acc.push (UInt8.ofNat k.toNat)) (fun j v hj => by
      have := h (j + 1) v (by simpa using hj)
      rw [show i + (j + 1) = i + 1 + j from by omega] at this; exact this)
    have hadd : (a.add i).add 1 = a.add (i + 1) := by
      unfold Addr.add
      by_cases hi : i = 0
      · subst hi; simp
      · simp [hi]; omega
    simp only [List.length_cons, loadBytes, Sem.run_bind, run_load, h0, Result.andThen_ok, hadd]
    exact ih
theorem a_unsafeString {args : Array Operand} {ats : Array TypeId} (hH : HOK ρ H w) (h : actA P H ev ⟨dst, .call ⟨.builtin .unsafeString, args, ats⟩, ty, pos, after, guard⟩ = some (r, H'))
    (he : EvOK ρ H.next ev e args.toList) : Does P e ρ H w ⟨dst, .call ⟨.builtin .unsafeString, args, ats⟩, ty, pos, after, guard⟩ r H' := by
  simp only [actA] at h
  split at h
  · rename_i pt tl id off kd n hats hargs
    obtain ⟨p, q, hpq⟩ : ∃ p q, args.toList = [p, q] := by
      cases hl : args.toList with
      | nil => simp [hl] at hargs
      | cons p l => cases l with
        | nil => simp [hl] at hargs
        | cons q l => cases l with
          | nil => exact ⟨p, q, rfl⟩
          | cons _ _ => simp [hl] at hargs
    rw [hpq] at hargs he
    simp only [List.map_cons, List.map_nil, List.cons.injEq, and_true] at hargs
    obtain ⟨hp, hq⟩ := hargs
    have hep := he p (by simp)
    have heq := he q (by simp)
    rw [hp] at hep; rw [hq] at heq
    obtain ⟨hlt, hv⟩ := hep
    have hvq : e q = .int kd n := heq.1
    have hA : args = #[p, q] := Array.toList_inj.1 (by simpa using hpq)
    subst hA
    have hat : ats[0]? = some pt := by
      have : ats.toList[0]? = some pt := by rw [hats]; rfl
      simpa using this
    split at h
    · rename_i u b hpt hg
      split at h
      · rename_i hu
        cases hb1 : (Nat.beq u b.elem && (decide (0 < n) && decide (n < 1000000))) with
        | false => simp only [hb1, cond_false, reduceCtorEq] at h
        | true =>
          simp only [hb1, cond_true] at h
          simp only [Bool.and_eq_true, Nat.beq_eq, decide_eq_true_eq] at hb1
          obtain ⟨hub, hn0, hn1⟩ := hb1
          split at h
          · rename_i s hs
            cases hb2 : (Nat.beq (P.cellsOf u) 1 && Nat.blt 1 P.depth) with
            | false => simp only [hb2, cond_false, reduceCtorEq] at h
            | true =>
              simp only [hb2, cond_true, Option.some.injEq, Prod.mk.injEq] at h
              simp only [Bool.and_eq_true, Nat.beq_eq, Nat.blt_eq] at hb2
              obtain ⟨rfl, rfl⟩ := h
              simp only [Option.bind_eq_some_iff] at hs
              obtain ⟨l, hcut, hby⟩ := hs
              obtain ⟨vs, hrun, hdv, hcell⟩ := loads (P := P) hH hg hcut
              obtain ⟨ns, hvs, hs2⟩ := bytes_den hby hdv
              obtain ⟨cs, fz, hl⟩ := hH.row id b hg
              have hll := cut_len hcut
              have hlen : ns.length = n.toNat := by have := hdv.len; rw [hvs] at this; simp at this; omega
              have hin : off + n.toNat ≤ b.cells.length := by
                rcases cut_den hcut (R := fun _ _ => True) (m := b.cells.map fun _ => default) (All2.of (by simp) fun _ _ _ _ _ => trivial) with h1 | h1
                · omega
                · omega
              have hroom := hl.room
              let a : Addr := ⟨ρ.blk id, ρ.base id + off, none⟩
              obtain ⟨f1, f2, f3⟩ := freeze_heap w (ρ.blk id) (ρ.base id + off) n.toNat (by omega)
              let w' := w.freeze a n.toNat
              have hos : w'.os = w.os ∧ w'.tape = w.tape ∧ w'.output = w.output := by
                show (World.freeze _ _ _).os = _ ∧ (World.freeze _ _ _).tape = _ ∧ (World.freeze _ _ _).output = _
                unfold World.freeze; rw [if_neg (by omega)]; exact ⟨rfl, rfl, rfl⟩
              obtain ⟨hD, hK⟩ := del_ok hH id
              have hrow : ∀ i b', (H.set id none).get i = some b' → ρ.blk i ≠ ρ.blk id := fun i b' h' e => by
                rw [AH.get_set] at h'
                split at h'
                · simp at h'
                · rename_i hne
                  have hb' : H.get i = some b' := h'
                  exact hne (hH.inj i id b' b hb' hg e)
              refine ⟨.string s, w', ρ, .inl ?_, ⟨rfl, rfl⟩, ⟨hD.lt, hD.inj, fun i b' hb' => ?_⟩, ⟨.refl _ _, Nat.le_refl _, by show _ ≤ w'.heap.size; rw [show w'.heap.size = _ from f1]; exact Nat.le_refl _, hos.1, hos.2.1, hos.2.2, fun k hk hn => f2 k (Ne.symm (hn id b hg)), hK.come⟩⟩
              · have hsh : World.shape? w (ρ.blk id) = some (u, cs.size) := by simp [World.shape?, hl.heap, hub]
                have hlies := lies_bytes (P := P) (cells := cs.size) (off := ρ.base id + off) (n := n.toNat) hb2.1 hb2.2 (by omega)
                have hvar : (variablesAt a u n.toNat).run P w = .ok true w := by
                  simp only [variablesAt, Sem.run_bind, run_program, Result.andThen_ok, run_shape]
                  have hsh' : World.shape? w a.block = some (u, cs.size) := hsh
                  rw [hsh']
                  simp only [Sem.run_pure]
                  rw [show liesAt P P.depth u (cs.size / P.cellsOf u) a.off u n.toNat = true from hlies]
                have hlb := run_loadBytes (P := P) (w := w) a ns 0 .empty (fun j v hj => by
                  rw [← hvs] at hj
                  show w.cell? ((⟨ρ.blk id, ρ.base id + off, none⟩ : Addr).add (0 + j)) = _
                  rw [Nat.zero_add, add_at]; exact hcell j v hj)
                rw [hlen, ← hs2] at hlb
                have hlb' : (loadBytes a .empty n.toNat).run P w = .ok s w := hlb
                have hrun : (Builtin.unsafeString_ ats ty #[e p, e q]).run P w = .ok (.string s) w' := by
                  rw [hv, hvq]
                  have hn' : ¬ n < 0 := by omega
                  have hn'' : ¬ 9223372036854775807 < n := by omega
                  have hmax : IntKind.i64.max = 9223372036854775807 := rfl
                  have hn3 : ¬ n = 0 := by omega
                  show ((do
                    let k ← asInt (.int kd n)
                    let some pt := ats[0]? | stuck "unsafe.String: no argument types"
                    if k < 0 then runtimePanic (.error "unsafe.String: len out of range")
                    if k > IntKind.i64.max then unsupported (.unsafePointer "String: a length above the largest int")
                    if k = 0 then pure (.string .empty)
                    else if ← variablesAt a (← elemOf pt) k.toNat then do
                      let s ← loadBytes a .empty k.toNat
                      freeze a k.toNat
                      pure (.string s)
                    else unsupported (.unsafePointer "String: not so many bytes at ptr") : Sem Value)).run P w = _
                  simp [asInt, asIntOf, hat, hn', hmax, hn'', hn3, elemOf, run_underlying hpt, hvar, hlb']
                  rfl
                simp [execOp, resolve, invoke, builtin, hrun]
              · obtain ⟨cs', fz', hl'⟩ := hD.row i b' hb'
                exact ⟨cs', fz', (f2 _ (hrow i b' hb')).trans hl'.heap, hl'.size, hl'.thaw, hl'.room, hl'.whole, hl'.den⟩
          · simp at h
      · simp at h
    · simp at h
  · simp at h
theorem actA_sound {o : Oper} (hH : HOK ρ H w) (h : actA P H ev o = some (r, H')) (he : EvOK ρ H.next ev e o.op.operands.toList) : Does P e ρ H w o r H' := by
  obtain ⟨dst, op, ty, pos, after, guard⟩ := o
  cases op with
  | alloc t => exact a_alloc hH h
  | box t x => exact a_box hH h (he x (by simp [Op.operands]))
  | buildSlice t n ps => exact a_buildSlice hH h (by simpa [Op.operands] using he)
  | makeSlice t a b => exact a_makeSlice hH h (he a (by simp [Op.operands])) (he b (by simp [Op.operands]))
  | store t a x => exact a_store hH h (he a (by simp [Op.operands])) (he x (by simp [Op.operands]))
  | convert s d x => exact a_convert hH h (he x (by simp [Op.operands]))
  | call c =>
    obtain ⟨callee, args, ats⟩ := c
    cases callee with
    | value f => simp [actA] at h
    | invoke r m => simp [actA] at h
    | builtin b =>
      cases b with
      | append => exact a_append hH h (by simpa [Op.operands, Call.operands] using he)
      | unsafeString => exact a_unsafeString hH h (by simpa [Op.operands, Call.operands] using he)
      | _ => simp [actA] at h
  | _ => simp [actA] at h
end
end Go.Proofs.YtgobcnheemocnaaGreatDoor
end
