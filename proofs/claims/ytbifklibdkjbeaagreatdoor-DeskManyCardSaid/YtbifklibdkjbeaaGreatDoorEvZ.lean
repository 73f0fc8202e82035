/-
  The append operation, and all operations that make or write memory. No condition.
-/
import Derived.Test.YtbifklibdkjbeaaGreatDoorEvY
namespace Go.Proofs.YtbifklibdkjbeaaGreatDoor
open Go
set_option linter.unusedSimpArgs false
set_option linter.unusedVariables false

section
variable {P : Program} {ρ : Rho} {H : AH} {w : World} {e : Operand → Value} {ev : Ev}
variable {dst : Option Tmp} {ty : TypeId} {pos : String} {after : Array Edge} {guard : Option (Nat × Bool)} {r : AR} {H' : AH}

theorem append_exec {x y : Operand} {t u : TypeId} : execOp e ⟨dst, .call ⟨.builtin .append, #[x, y], #[t, u]⟩, ty, pos, after, guard⟩ = (do pure (.value (← Builtin.append_ #[t, u] ty #[e x, e y]))) := by
  simp [execOp, resolve, invoke, builtin]
/-- An append that takes over its slice's block, or makes another one: nobody sees which. -/
theorem over_ok {t tx el : TypeId} {i : TypeInfo} {z : Value} (hH : HOK ρ H w) (ht : P.underlying t = some (.slice el)) (hi : P.info? el = some i) (hz : i.zero = some z)
    {id off len cp n : Nat} {b : Blk} (hb : H.get id = some b) {s u : Value} (hsl : (AC.sl id off len cp i.size false).den ρ H.next s)
    {old new : List AC} {news : List Value} (hs : Src P i.size tx u n news w) (hdn : All2 (AC.den ρ H.next) new news) (hn : 0 < n)
    (hold : cut b.cells off (len * i.size) = some old) (hoff : off + len * i.size = b.cells.length) (hel : b.elem = el)
    (hzc : z.cells.size = i.size) (hby : (len + n) * i.bytes ≤ 1099511627776) (hsm : len + n < 2 ^ 62) :
    ∃ v w' ρ', (Builtin.append_ #[t, tx] ty #[s, u]).run P w = .ok v w' ∧
      (AC.sl H.next 0 (len + n) (len + n) i.size false).den ρ' (H.next + 1) v ∧ HOK ρ' ((H.set id none).new ⟨old ++ new, el, false⟩) w' ∧
      Kp H ρ w ((H.set id none).new ⟨old ++ new, el, false⟩) ρ' w' := by
  obtain ⟨hlt, hlc, o, c, rfl, ho, _, hx⟩ := hsl
  obtain ⟨hcc, hsz⟩ := hx rfl
  obtain ⟨hD, hK⟩ := del_ok hH id
  obtain ⟨cs, fz, hl⟩ := hH.row id b hb
  have hnl := hs.newsLen
  have hol := cut_len hold
  by_cases hfit : len + n ≤ c
  · have hc0 : c ≠ 0 := by omega
    have hoe := ho hc0
    subst hoe
    have hmul : (len + n) * i.size ≤ c * i.size := Nat.mul_le_mul_right _ hfit
    rw [Nat.add_mul] at hmul
    have hcs := hl.size
    obtain ⟨w', cur', hrun, hs1, hos, hta, hou, hoth, hbk, hcur, hk⟩ := run_stores P (ρ.blk id) (ρ.base id + off + len * i.size) b.elem fz news 0 cs w hl.heap hl.thaw (by omega) hs.one
    have hap := run_append_fit (P := P) (ty := ty) ht hi (some ⟨ρ.blk id, ρ.base id + off, none⟩) len c u n news hs hfit (w' := w') (fun a ha => by cases ha; rw [add_at]; exact hrun) (fun h => by cases h)
    have hothk : ∀ k, k < w.heap.size → k ≠ ρ.blk id → w'.heap[k]? = w.heap[k]? := fun k _ hk => hoth k hk
    have hfree : ∀ id' b', (H.set id none).get id' = some b' → ρ.blk id' ≠ ρ.blk id := fun id' b' h' e => by
      rw [AH.get_set] at h'
      split at h'
      · simp at h'
      · rename_i hne; exact hne (hH.inj id' id b' b h' hb e)
    have hlen2 : (old ++ new).length = (len + n) * i.size := by rw [List.length_append, hol, hdn.len, hnl, Nat.add_mul]
    have hdold : ∀ k x, old[k]? = some x → ∃ v, cs[ρ.base id + off + k]? = some v ∧ x.den ρ H.next v := fun k x hx => by
      have hk' : k < len * i.size := by have := (List.getElem?_eq_some_iff.1 hx).1; omega
      have hoc : b.cells[off + k]? = some x := by
        unfold cut at hold
        cases hq : Nat.beq ((b.cells.drop off).take (len * i.size)).length (len * i.size) with
        | false => simp only [hq, cond_false, reduceCtorEq] at hold
        | true =>
          simp only [hq, cond_true, Option.some.injEq] at hold
          rw [← hold, List.getElem?_take, if_pos hk', List.getElem?_drop] at hx
          exact hx
      obtain ⟨v, hv, hd⟩ := hl.den _ _ hoc
      exact ⟨v, by rw [Nat.add_assoc]; exact hv, hd⟩
    refine ⟨_, w', ρ.upd H.next (ρ.blk id) (ρ.base id + off) cur'.size, hap, ⟨Nat.lt_succ_self _, Nat.le_refl _, ρ.base id + off, c, by simp [Rho.upd], fun _ => by simp [Rho.upd], fun h => by simp at h, fun _ => ⟨hfit, by simp [Rho.upd]; omega⟩⟩, ?_, ?_⟩
    · refine lay_ok hD (by omega) hothk (by rw [← hel]; exact hbk) hfree (by rw [hcur]; exact hl.thaw) (by rw [hlen2, hcur, Nat.add_mul]; omega) (fun h => by simp at h) fun k x hx => ?_
      simp only at hx
      rw [hk]
      by_cases c1 : k < len * i.size
      · rw [List.getElem?_append_left (by omega)] at hx
        rw [if_neg (by omega)]
        exact hdold k x hx
      · rw [List.getElem?_append_right (by omega), hol] at hx
        obtain ⟨v, hv, hd⟩ := hdn.get hx
        have : k - len * i.size < news.length := (List.getElem?_eq_some_iff.1 hv).1
        rw [if_pos (by omega)]
        have e2 : ρ.base id + off + k - (ρ.base id + off + len * i.size + 0) = k - len * i.size := by omega
        exact ⟨v, by rw [e2]; exact hv, hd⟩
    · refine ⟨Rho.upd_ext _ _ _ _ _, Nat.le_succ _, by omega, hos, hta, hou, fun k hk' hn' => hoth k (Ne.symm (hn' id b hb)), fun id' b' h' => ?_⟩
      rw [AH.get_new] at h'
      split at h'
      · rename_i hid
        have hid : id' = H.next := hid
        exact .inr ⟨id, b, hb, by simp [Rho.upd, hid]⟩
      · rename_i hid
        have hid : ¬ id' = H.next := hid
        rw [AH.get_set] at h'
        split at h'
        · simp at h'
        · exact .inr ⟨id', b', h', by simp [Rho.upd, hid]⟩
  · have hdold : ∃ olds : List Value, (∀ d, (Builtin.firstCells i.size len (.slice (some ⟨ρ.blk id, o, none⟩) len c)).run P { w with drawn := d } = .ok olds.toArray { w with drawn := d }) ∧ All2 (AC.den ρ H.next) old olds := by
      obtain ⟨olds, hrun, hdo, _⟩ := loads (P := P) hH hb hold
      refine ⟨olds, fun d => ?_, hdo⟩
      by_cases hc0 : c = 0
      · have hl0 : len = 0 := by omega
        subst hl0
        have : old = [] := List.eq_nil_of_length_eq_zero (by omega)
        subst this
        have : olds = [] := List.eq_nil_of_length_eq_zero (by have := hdo.len; simpa using this.symm)
        subst this
        simp [Builtin.firstCells, loadCells, loadCellsFrom]
      · rw [ho hc0]; exact hrun d
    obtain ⟨olds, hrun, hdo⟩ := hdold
    have hgr := run_append_grow_src (P := P) w t tx ty el i z ht hi hz (some ⟨ρ.blk id, o, none⟩) len c olds (hrun (w.drawn + 1)) u n news hs (by omega) (by omega) (growslice_fits (by omega) (by omega))
    have hge := grownCap_ge w (len + n) c el
    obtain ⟨h1, h2⟩ := grown_ev (zs := Builtin.zeroCells z.cells (grownCap w (len + n) c el - (len + n))) hD (b := ⟨old ++ new, el, false⟩) rfl (hdo.app hdn)
    refine ⟨_, _, _, hgr, ⟨Nat.lt_succ_self _, Nat.le_refl _, 0, _, by simp [Rho.upd, AH.set_next], fun _ => by simp [Rho.upd, AH.set_next], fun h => by simp at h, fun _ => ⟨hge, ?_⟩⟩, h1, hK.trans h2⟩
    have ho2 : olds.length = len * i.size := by rw [← hdo.len]; exact hol
    simp only [Rho.upd, AH.set_next, if_true, Array.size_append, List.size_toArray, List.length_append, size_zeroCells, ho2, hnl]
    rw [Nat.zero_add, ← Nat.add_mul]
    rw [hzc, ← Nat.add_mul]
    have : len + n + (grownCap w (len + n) c el - (len + n)) = grownCap w (len + n) c el := by omega
    rw [this]; exact Nat.le_refl _
theorem slCells_len {n size : Nat} {x : AR} {l : List AC} (h : slCells H n size x = some l) : l.length = n * size := by
  unfold slCells at h
  split at h
  · rename_i id off len cp es ex
    cases hb : (Nat.ble n len && Nat.beq es size) with
    | false => simp only [hb, cond_false, reduceCtorEq] at h
    | true =>
      simp only [hb, cond_true] at h
      cases hg : H.get id with
      | none => simp [hg] at h
      | some b => simp only [hg, Option.bind_some] at h; exact cut_len h
  · cases hb : Nat.beq n 0 with
    | false => simp only [hb, cond_false, reduceCtorEq] at h
    | true =>
      simp only [hb, cond_true, Option.some.injEq] at h; subst h
      rw [Nat.eq_of_beq_eq_true hb]; simp
  · rename_i s
    cases hb : (Nat.beq n s.size && Nat.beq size 1) with
    | false => simp only [hb, cond_false, reduceCtorEq] at h
    | true =>
      simp only [hb, cond_true, Option.some.injEq] at h; subst h
      simp only [Bool.and_eq_true] at hb
      rw [Nat.eq_of_beq_eq_true hb.1, Nat.eq_of_beq_eq_true hb.2]; simp
  · simp at h
theorem a_append {args : Array Operand} {ats : Array TypeId} (hH : HOK ρ H w) (h : actA P H ev ⟨dst, .call ⟨.builtin .append, args, ats⟩, ty, pos, after, guard⟩ = some (r, H'))
    (he : EvOK ρ H.next ev e args.toList) : Does P e ρ H w ⟨dst, .call ⟨.builtin .append, args, ats⟩, ty, pos, after, guard⟩ r H' := by
  simp only [actA] at h
  split at h
  · rename_i t u s x hats hargs
    obtain ⟨p, q, hpq⟩ : ∃ p q, args.toList = [p, q] := by
      cases hl : args.toList with
      | nil => simp [hl] at hargs
      | cons p l => cases l with
        | nil => simp [hl] at hargs
        | cons q l => cases l with
          | nil => exact ⟨p, q, rfl⟩
          | cons _ _ => simp [hl] at hargs
    rw [hpq] at hargs he
    simp only [List.map_cons, List.map_nil, List.cons.injEq, and_true] at hargs
    obtain ⟨hp, hq⟩ := hargs
    have hep := he p (by simp)
    have heq := he q (by simp)
    rw [hp] at hep; rw [hq] at heq
    have hA : args = #[p, q] := Array.toList_inj.1 (by simpa using hpq)
    have hT : ats = #[t, u] := Array.toList_inj.1 (by simpa using hats)
    subst hA; subst hT
    clear hpq hats
    unfold Does
    rw [append_exec]
    have fin : ∀ {v w'}, (Builtin.append_ #[t, u] ty #[e p, e q]).run P w = .ok v w' → (do pure (Next.value (← Builtin.append_ #[t, u] ty #[e p, e q]))).run P w = .ok (.value v) w' := by
      intro v w' hh; simp [hh]
    split at h
    · rename_i el ht hsrc
      split at h
      · rename_i size n bytes hs hn hby
        have hinfo : ∃ i, P.info? el = some i ∧ i.size = size ∧ i.bytes = bytes := by
          simp only [szOf, Option.map_eq_some_iff] at hs hby
          obtain ⟨i, hi, h1⟩ := hs
          obtain ⟨j, hj, h2⟩ := hby
          rw [hi] at hj; cases hj
          exact ⟨i, hi, h1, h2⟩
        obtain ⟨i, hi, rfl, rfl⟩ := hinfo
        split at h
        · -- nothing is appended
          have hS : Src P i.size u (e q) 0 [] w := by
            refine ⟨isSrc_kind hsrc, fun w' => lenA_den hn heq w', ?_, ?_, by simp, by simp⟩ <;>
            · have hle := lenA_den (P := P) hn heq w
              cases hqv : e q <;> rw [hqv] at hle <;> first
                | (simp [Builtin.lenOf] at hle; done)
                | skip
              case string s => simp [Builtin.firstCells]
              case slice a l c => cases a <;> simp [Builtin.firstCells, loadCells, loadCellsFrom]
          split at h
          · rename_i id off len cp es ex
            simp only [Option.some.injEq, Prod.mk.injEq] at h
            obtain ⟨rfl, rfl⟩ := h
            have hep' := hep
            obtain ⟨_, hlc, o, c, hv, ho, hx1, hx2⟩ := hep'
            have hle : len + 0 ≤ c := by
              cases ex with
              | true => have := hx1 rfl; omega
              | false => have := (hx2 rfl).1; omega
            refine ⟨e p, w, ρ, .inl (fin ?_), hep, hH, Kp.refl _ _ _⟩
            rw [hv]
            exact run_append_fit ht hi _ len c (e q) 0 [] hS hle (fun a ha => rfl) (fun h => rfl)
          · simp only [Option.some.injEq, Prod.mk.injEq] at h
            obtain ⟨rfl, rfl⟩ := h
            refine ⟨e p, w, ρ, .inl (fin ?_), hep, hH, Kp.refl _ _ _⟩
            rw [show e p = _ from hep.1]
            exact run_append_fit ht hi none 0 0 (e q) 0 [] hS (Nat.le_refl _) (fun a ha => rfl) (fun h => rfl)
          · simp at h
        · rename_i n'
          split at h
          · rename_i new z hnew hz
            cases hb1 : (Nat.beq z.length i.size && (Nat.ble ((n' + 1) * i.bytes) 1099511627776 && Nat.ble (n' + 1) 1000000000)) with
            | false => simp only [hb1, cond_false, reduceCtorEq] at h
            | true =>
              simp only [hb1, cond_true] at h
              simp only [Bool.and_eq_true, Nat.beq_eq, Nat.ble_eq] at hb1
              obtain ⟨i', zv, hi', hzz, hdz⟩ := zero_den hz ρ H.next
              rw [hi] at hi'; cases hi'
              have hzc : zv.cells.size = i.size := by rw [den_size hdz]; exact hb1.1
              have hnl := slCells_len hnew
              obtain ⟨news, hS, hdn⟩ := src_of hH hsrc hn hnew hnl heq
              have hn62 : ∀ k, k * i.bytes ≤ 1099511627776 → k * i.bytes ≤ 140737488355328 := fun k hk => by omega
              -- a new row behind elements that are known
              have grow : ∀ {base : Option Addr} {len c : Nat} {old : List AC} {olds : List Value}, e p = .slice base len c → All2 (AC.den ρ H.next) old olds → old.length = len * i.size →
                  (Builtin.firstCells i.size len (.slice base len c)).run P w.drew = .ok olds.toArray w.drew → ¬ len + (n' + 1) ≤ c → (len + (n' + 1)) * i.bytes ≤ 1099511627776 → len + (n' + 1) < 2 ^ 62 →
                  r = .one (.c (.sl H.next 0 (len + (n' + 1)) (len + (n' + 1)) i.size false)) → H' = H.new ⟨old ++ new, el, false⟩ →
                  ∃ v w' ρ', ((do pure (Next.value (← Builtin.append_ #[t, u] ty #[e p, e q]))).run P w = .ok (.value v) w' ∨ (do pure (Next.value (← Builtin.append_ #[t, u] ty #[e p, e q]))).run P w = .ok .skip w' ∧ v = undef) ∧
                    AR.den ρ' H'.next r v ∧ HOK ρ' H' w' ∧ Kp H ρ w H' ρ' w' := by
                intro base len c old olds hv hdo hol hold hfit hby2 h62 hr hH'
                subst hr; subst hH'
                have hgr := run_append_grow_src (P := P) (ty := ty) w t u el i zv ht hi hzz base len c olds hold (e q) (n' + 1) news hS (by omega) (by omega) (growslice_fits (by omega) (by omega))
                have hge := grownCap_ge w (len + (n' + 1)) c el
                obtain ⟨h1, h2⟩ := grown_ev (zs := Builtin.zeroCells zv.cells (grownCap w (len + (n' + 1)) c el - (len + (n' + 1)))) hH (b := ⟨old ++ new, el, false⟩) rfl (hdo.app hdn)
                refine ⟨_, _, _, .inl (fin (by rw [hv]; exact hgr)), ⟨Nat.lt_succ_self _, Nat.le_refl _, 0, _, by simp [Rho.upd], fun _ => by simp [Rho.upd], fun h => by simp at h, fun _ => ⟨hge, ?_⟩⟩, h1, h2⟩
                have ho2 : olds.length = len * i.size := by rw [← hdo.len]; exact hol
                simp only [Rho.upd, if_true, Array.size_append, List.size_toArray, List.length_append, size_zeroCells, ho2, hS.newsLen]
                rw [Nat.zero_add, ← Nat.add_mul, hzc, ← Nat.add_mul]
                have : len + (n' + 1) + (grownCap w (len + (n' + 1)) c el - (len + (n' + 1))) = grownCap w (len + (n' + 1)) c el := by omega
                rw [this]; exact Nat.le_refl _
              split at h
              · simp only [Option.some.injEq, Prod.mk.injEq] at h
                obtain ⟨rfl, rfl⟩ := h
                have h62 : n' + 1 < 2 ^ 62 := by omega
                refine grow (base := none) (len := 0) (c := 0) (old := []) (olds := []) hep.1 trivial (by simp) (by simp [Builtin.firstCells]) (by omega) (by simpa using hb1.2.1) (by simpa using h62) (by simp) (by simp)
              · rename_i id off len cp es ex
                split at h
                · rename_i b hb
                  cases hb2 : (Nat.beq es i.size && (Nat.ble ((len + (n' + 1)) * i.bytes) 1099511627776 && Nat.ble (len + (n' + 1)) 1000000000)) with
                  | false => simp only [hb2, cond_false, reduceCtorEq] at h
                  | true =>
                    simp only [hb2, cond_true] at h
                    simp only [Bool.and_eq_true, Nat.beq_eq, Nat.ble_eq] at hb2
                    obtain ⟨hes, hby2, hne⟩ := hb2
                    subst hes
                    have h62 : len + (n' + 1) < 2 ^ 62 := by omega
                    have hep' := hep
                    obtain ⟨hlt, hlc, o, c, hv, ho, hx1, hx2⟩ := hep'
                    cases hb3 : Nat.ble (len + (n' + 1)) cp with
                    | true =>
                      simp only [hb3, cond_true] at h
                      simp only [Nat.ble_eq] at hb3
                      cases hb4 : Nat.ble (off + (len + (n' + 1)) * i.size) b.cells.length with
                      | false => simp only [hb4, cond_false, reduceCtorEq] at h
                      | true =>
                        simp only [hb4, cond_true, Option.some.injEq, Prod.mk.injEq] at h
                        simp only [Nat.ble_eq] at hb4
                        obtain ⟨rfl, rfl⟩ := h
                        have hcc : cp ≤ c := by
                          cases ex with
                          | true => have := hx1 rfl; omega
                          | false => exact (hx2 rfl).1
                        rw [Nat.add_mul] at hb4
                        obtain ⟨w', hrun, h1, h2⟩ := put_ok (P := P) (off := off + len * i.size) hH hb hdn (by rw [hnl]; simp only [Nat.succ_eq_add_one]; omega)
                        refine ⟨.slice (some ⟨ρ.blk id, o, none⟩) (len + (n' + 1)) c, w', ρ, .inl (fin ?_), ⟨hlt, hb3, o, c, rfl, ho, hx1, hx2⟩, h1, h2⟩
                        rw [hv]
                        refine run_append_fit ht hi _ len c (e q) _ news hS (by omega) (fun a ha => ?_) (fun h => by cases h)
                        cases ha
                        rw [add_at, ho (by omega), Nat.add_assoc]; exact hrun
                    | false =>
                      simp only [hb3, cond_false] at h
                      have hb3' : ¬ len + (n' + 1) ≤ cp := fun hh => by rw [Nat.ble_eq_true_of_le hh] at hb3; cases hb3
                      split at h
                      · simp at h
                      · rename_i old hold
                        cases ex with
                        | true =>
                          simp only [cond_true, Option.some.injEq, Prod.mk.injEq] at h
                          obtain ⟨rfl, rfl⟩ := h
                          have hcc := hx1 rfl
                          obtain ⟨olds, hrun, hdo, _⟩ := loads (P := P) hH hb hold
                          refine grow hv hdo (cut_len hold) ?_ (by omega) hby2 h62 rfl rfl
                          by_cases hc0 : c = 0
                          · have hl0 : len = 0 := by omega
                            subst hl0
                            have : old = [] := List.eq_nil_of_length_eq_zero (by have := cut_len hold; omega)
                            subst this
                            have : olds = [] := List.eq_nil_of_length_eq_zero (by have := hdo.len; simpa using this.symm)
                            subst this
                            simp [Builtin.firstCells, loadCells, loadCellsFrom]
                          · rw [ho hc0]; exact hrun (w.drawn + 1)
                        | false =>
                          simp only [cond_false] at h
                          cases hb5 : (Nat.beq (off + len * i.size) b.cells.length && Nat.beq b.elem el) with
                          | false => simp only [hb5, cond_false, reduceCtorEq] at h
                          | true =>
                            simp only [hb5, cond_true, Option.some.injEq, Prod.mk.injEq] at h
                            simp only [Bool.and_eq_true, Nat.beq_eq] at hb5
                            obtain ⟨rfl, rfl⟩ := h
                            obtain ⟨v, w', ρ', h1, h2, h3, h4⟩ := over_ok (ty := ty) hH ht hi hzz hb hep hS hdn (Nat.succ_pos _) hold hb5.1 hb5.2 hzc hby2 h62
                            exact ⟨v, w', ρ', .inl (fin h1), h2, h3, h4⟩
                · simp at h
              · simp at h
          · simp at h
      · simp at h
    · simp at h
  · simp at h
end
end Go.Proofs.YtbifklibdkjbeaaGreatDoor
