/-
  What the reckoned run's values and memory stand for; operations that look at no memory. No condition.
-/
import Derived.Test.YtbifklibdkjbeaaGreatDoorEvC
import Derived.Laws.Tables
import Derived.Orders
namespace Go.Proofs.YtbifklibdkjbeaaGreatDoor
open Go
set_option linter.unusedSimpArgs false
set_option linter.unusedVariables false

def All2 {α β : Type} (R : α → β → Prop) : List α → List β → Prop
  | [], [] => True
  | x :: l, y :: m => R x y ∧ All2 R l m
  | _, _ => False
namespace All2
variable {α β : Type} {R S : α → β → Prop}
theorem len : ∀ {l : List α} {m : List β}, All2 R l m → l.length = m.length
  | [], [], _ => rfl
  | _ :: _, _ :: _, h => by simp [len h.2]
  | [], _ :: _, h => h.elim
  | _ :: _, [], h => h.elim
theorem mono (f : ∀ x y, R x y → S x y) : ∀ {l : List α} {m : List β}, All2 R l m → All2 S l m
  | [], [], _ => trivial
  | _ :: _, _ :: _, h => ⟨f _ _ h.1, mono f h.2⟩
  | [], _ :: _, h => h.elim
  | _ :: _, [], h => h.elim
theorem app : ∀ {l : List α} {m : List β} {l' : List α} {m' : List β}, All2 R l m → All2 R l' m' → All2 R (l ++ l') (m ++ m')
  | [], [], _, _, _, h => h
  | _ :: _, _ :: _, _, _, h, h' => ⟨h.1, app h.2 h'⟩
  | [], _ :: _, _, _, h, _ => h.elim
  | _ :: _, [], _, _, h, _ => h.elim
theorem get : ∀ {l : List α} {m : List β}, All2 R l m → ∀ {i : Nat} {x : α}, l[i]? = some x → ∃ y, m[i]? = some y ∧ R x y
  | [], [], _, i, x, h => by simp at h
  | a :: l, b :: m, h, 0, x, e => by simp at e; subst e; exact ⟨b, rfl, h.1⟩
  | a :: l, b :: m, h, i + 1, x, e => by simpa using get h.2 (by simpa using e)
  | [], _ :: _, h, _, _, _ => h.elim
  | _ :: _, [], h, _, _, _ => h.elim
theorem of : ∀ {l : List α} {m : List β}, l.length = m.length → (∀ (i : Nat) (x : α) (y : β), l[i]? = some x → m[i]? = some y → R x y) → All2 R l m
  | [], [], _, _ => trivial
  | a :: l, b :: m, h, f => ⟨f 0 a b rfl rfl, of (by simpa using h) fun i x y hx hy => f (i + 1) x y (by simpa using hx) (by simpa using hy)⟩
  | [], _ :: _, h, _ => by simp at h
  | _ :: _, [], h, _ => by simp at h
theorem take : ∀ (n : Nat) {l : List α} {m : List β}, All2 R l m → All2 R (l.take n) (m.take n)
  | 0, _, _, _ => by simp [All2]
  | n + 1, [], [], _ => by simp [All2]
  | n + 1, _ :: _, _ :: _, h => ⟨h.1, take n h.2⟩
  | n + 1, [], _ :: _, h => h.elim
  | n + 1, _ :: _, [], h => h.elim
theorem drop : ∀ (n : Nat) {l : List α} {m : List β}, All2 R l m → All2 R (l.drop n) (m.drop n)
  | 0, _, _, h => by simpa using h
  | n + 1, [], [], _ => by simp [All2]
  | n + 1, _ :: _, _ :: _, h => by simpa using drop n h.2
  | n + 1, [], _ :: _, h => h.elim
  | n + 1, _ :: _, [], h => h.elim
theorem rev : ∀ {l : List α} {m : List β}, All2 R l m → All2 R l.reverse m.reverse
  | [], [], _ => by simp [All2]
  | _ :: _, _ :: _, h => by simpa using app (l' := [_]) (m' := [_]) (rev h.2) ⟨h.1, trivial⟩
  | [], _ :: _, h => h.elim
  | _ :: _, [], h => h.elim
end All2

/-- Where own blocks lie: a block's number, where in it the known cells begin, how many cells it has. -/
structure Rho where
  blk : Nat → Nat
  base : Nat → Nat
  size : Nat → Nat
structure Ext (ρ ρ' : Rho) (n : Nat) : Prop where
  blk : ∀ i, i < n → ρ'.blk i = ρ.blk i
  base : ∀ i, i < n → ρ'.base i = ρ.base i
  size : ∀ i, i < n → ρ'.size i = ρ.size i
theorem Ext.refl (ρ : Rho) (n : Nat) : Ext ρ ρ n := ⟨fun _ _ => rfl, fun _ _ => rfl, fun _ _ => rfl⟩
theorem Ext.trans {a b c : Rho} {n m : Nat} (h : Ext a b n) (k : Ext b c m) (hm : n ≤ m) : Ext a c n :=
  ⟨fun i hi => (k.blk i (by omega)).trans (h.blk i hi), fun i hi => (k.base i (by omega)).trans (h.base i hi), fun i hi => (k.size i (by omega)).trans (h.size i hi)⟩

def AC.den (ρ : Rho) (n : Nat) : AC → Value → Prop
  | .lit v, u => u = v ∧ v.oneCell' = true
  | .ptr id off, u => id < n ∧ u = .pointer (some ⟨ρ.blk id, ρ.base id + off, none⟩)
  | .sl id off len cp es ex, u => id < n ∧ len ≤ cp ∧ ∃ o c, u = .slice (some ⟨ρ.blk id, o, none⟩) len c ∧ (c ≠ 0 → o = ρ.base id + off) ∧
      (ex = true → c = cp) ∧ (ex = false → cp ≤ c ∧ o + c * es ≤ ρ.size id)
  | .ifc t x, u => ∃ y, u = .iface t y ∧ x.den ρ n y
  | .fn f, u => u = .func f #[] #[]
  | .cap r x, u => ∃ f fs cs y, r.den ρ n (.func f fs cs) ∧ x.den ρ n y ∧ u = .func f fs (cs.push y)
  | .fst r x, u => ∃ f fs cs y, r.den ρ n (.func f fs cs) ∧ x.den ρ n y ∧ u = .func f (fs.push y) cs
def AV.den (ρ : Rho) (n : Nat) : AV → Value → Prop
  | .c x, u => x.den ρ n u
  | .agg xs, u => ∃ cs, u = .agg cs ∧ All2 (AC.den ρ n) xs cs.toList
def AR.den (ρ : Rho) (n : Nat) : AR → Value → Prop
  | .one x, u => x.den ρ n u
  | .tup xs, u => ∃ vs, u = .tuple vs ∧ All2 (AV.den ρ n) xs vs.toList
  | .any, _ => True

theorem AC.den_mono {ρ ρ' : Rho} {n m : Nat} (h : Ext ρ ρ' n) (hm : n ≤ m) : ∀ (x : AC) (u : Value), x.den ρ n u → x.den ρ' m u
  | .lit v, u, d => d
  | .ptr id off, u, ⟨hl, he⟩ => ⟨by omega, by rw [h.blk _ hl, h.base _ hl]; exact he⟩
  | .sl id off len cp es ex, u, ⟨hl, hc, o, c, he, ho, hx, hy⟩ => ⟨by omega, hc, o, c, by rw [h.blk _ hl]; exact he, by rw [h.base _ hl]; exact ho, hx, by rw [h.size _ hl]; exact hy⟩
  | .ifc t x, u, ⟨y, he, hy⟩ => ⟨y, he, AC.den_mono h hm x y hy⟩
  | .fn f, u, d => d
  | .cap r x, u, ⟨f, fs, cs, y, h1, h2, h3⟩ => ⟨f, fs, cs, y, AC.den_mono h hm r _ h1, AC.den_mono h hm x _ h2, h3⟩
  | .fst r x, u, ⟨f, fs, cs, y, h1, h2, h3⟩ => ⟨f, fs, cs, y, AC.den_mono h hm r _ h1, AC.den_mono h hm x _ h2, h3⟩
theorem AV.den_mono {ρ ρ' : Rho} {n m : Nat} (h : Ext ρ ρ' n) (hm : n ≤ m) : ∀ (x : AV) (u : Value), x.den ρ n u → x.den ρ' m u
  | .c x, u, d => AC.den_mono h hm x u d
  | .agg xs, u, ⟨cs, he, hc⟩ => ⟨cs, he, hc.mono (AC.den_mono h hm)⟩
theorem AR.den_mono {ρ ρ' : Rho} {n m : Nat} (h : Ext ρ ρ' n) (hm : n ≤ m) : ∀ (x : AR) (u : Value), x.den ρ n u → x.den ρ' m u
  | .one x, u, d => AV.den_mono h hm x u d
  | .tup xs, u, ⟨cs, he, hc⟩ => ⟨cs, he, hc.mono (AV.den_mono h hm)⟩
  | .any, _, _ => trivial
theorem AC.den_one {ρ : Rho} {n : Nat} : ∀ {x : AC} {u : Value}, x.den ρ n u → u.oneCell' = true
  | .lit v, u, d => by obtain ⟨rfl, h⟩ := d; exact h
  | .ptr .., u, d => by rw [d.2]; rfl
  | .sl .., u, ⟨_, _, _, _, he, _⟩ => by rw [he]; rfl
  | .ifc .., u, ⟨_, he, _⟩ => by rw [he]; rfl
  | .fn _, u, d => by rw [show u = _ from d]; rfl
  | .cap .., u, ⟨_, _, _, _, _, _, he⟩ => by rw [he]; rfl
  | .fst .., u, ⟨_, _, _, _, _, _, he⟩ => by rw [he]; rfl
theorem one_cellsE {u : Value} (h : u.oneCell' = true) : u.cells = #[u] := by cases u <;> first | rfl | (simp [Value.oneCell'] at h)
/-- A value's cells stand for its cells. -/
theorem AV.den_cells {ρ : Rho} {n : Nat} : ∀ {x : AV} {u : Value}, x.den ρ n u → All2 (AC.den ρ n) x.cells u.cells.toList
  | .c x, u, d => by rw [one_cellsE (AC.den_one d)]; exact ⟨d, trivial⟩
  | .agg xs, u, ⟨cs, he, hc⟩ => by rw [he]; exact hc

theorem litAll_den (ρ : Rho) (n : Nat) : ∀ (l : List Value) (r : List AC), litAll l = some r → All2 (AC.den ρ n) r l
  | [], r, h => by simp [litAll] at h; subst h; trivial
  | v :: l, r, h => by
    cases v <;> simp only [litAll, reduceCtorEq, Option.map_eq_some_iff] at h <;>
      (obtain ⟨a, h1, rfl⟩ := h; exact ⟨⟨rfl, rfl⟩, litAll_den ρ n l a h1⟩)
theorem AV.of_den (ρ : Rho) (n : Nat) (v : Value) (x : AV) (h : AV.of? v = some x) : x.den ρ n v := by
  cases v <;> simp only [AV.of?, reduceCtorEq, Option.some.injEq, Option.map_eq_some_iff] at h
  case agg cs => obtain ⟨a, h1, rfl⟩ := h; exact ⟨cs, rfl, litAll_den ρ n _ _ h1⟩
  all_goals (subst h; exact ⟨rfl, rfl⟩)
theorem ofAll_den (ρ : Rho) (n : Nat) : ∀ (l : List Value) (r : List AV), ofAll l = some r → All2 (AV.den ρ n) r l
  | [], r, h => by simp [ofAll] at h; subst h; trivial
  | v :: l, r, h => by
    simp only [ofAll] at h
    split at h
    · rename_i x hx
      simp only [Option.map_eq_some_iff] at h
      obtain ⟨a, h1, rfl⟩ := h
      exact ⟨AV.of_den ρ n v x hx, ofAll_den ρ n l a h1⟩
    · simp at h
theorem AR.of_den (ρ : Rho) (n : Nat) (v : Value) (x : AR) (h : AR.of? v = some x) : x.den ρ n v := by
  cases v <;> simp only [AR.of?, Option.map_eq_some_iff] at h
  case tuple vs => obtain ⟨a, h1, rfl⟩ := h; exact ⟨vs, rfl, ofAll_den ρ n _ _ h1⟩
  all_goals (obtain ⟨a, h1, rfl⟩ := h; exact AV.of_den ρ n _ _ h1)
theorem AC.val_den {ρ : Rho} {n : Nat} : ∀ {x : AC} {v u : Value}, x.val? = some v → x.den ρ n u → u = v
  | .lit v, _, u, h, d => by simp [AC.val?] at h; rw [← h]; exact d.1
  | .ifc t c, v, u, h, d => by
    simp only [AC.val?, Option.map_eq_some_iff] at h
    obtain ⟨a, h1, rfl⟩ := h
    obtain ⟨y, rfl, hy⟩ := d
    rw [AC.val_den h1 hy]
  | .fn f, _, u, h, d => by simp [AC.val?] at h; rw [← h]; exact d
  | .ptr .., _, _, h, _ => by simp [AC.val?] at h
  | .sl .., _, _, h, _ => by simp [AC.val?] at h
  | .cap .., _, _, h, _ => by simp [AC.val?] at h
  | .fst .., _, _, h, _ => by simp [AC.val?] at h
theorem valAll_den {ρ : Rho} {n : Nat} : ∀ {l : List AC} {r us : List Value}, valAll l = some r → All2 (AC.den ρ n) l us → us = r
  | [], r, [], h, _ => by simp [valAll] at h; exact h.symm
  | x :: l, r, u :: us, h, d => by
    simp only [valAll] at h
    split at h
    · rename_i v hv
      simp only [Option.map_eq_some_iff] at h
      obtain ⟨a, h1, rfl⟩ := h
      rw [AC.val_den hv d.1, valAll_den h1 d.2]
    · simp at h
  | [], _, _ :: _, _, d => d.elim
  | _ :: _, _, [], _, d => d.elim
theorem AR.val_den {ρ : Rho} {n : Nat} : ∀ {x : AR} {v u : Value}, x.val? = some v → x.den ρ n u → u = v
  | .one (.c x), v, u, h, d => AC.val_den (x := x) h d
  | .one (.agg xs), v, u, h, d => by
    simp only [AR.val?, AV.val?, Option.map_eq_some_iff] at h
    obtain ⟨a, h1, rfl⟩ := h
    obtain ⟨cs, rfl, hc⟩ := d
    rw [← valAll_den h1 hc]
  | .tup [], v, u, h, d => by
    simp [AR.val?] at h; subst h
    obtain ⟨vs, rfl, hv⟩ := d
    have : vs.toList = [] := by cases hl : vs.toList with
      | nil => rfl
      | cons a l => rw [hl] at hv; exact hv.elim
    rw [show vs = #[] from Array.toList_inj.1 (by simpa using this)]; rfl
  | .tup (_ :: _), v, u, h, d => by simp [AR.val?] at h
  | .any, v, u, h, d => by simp [AR.val?] at h

/-- Operands stand for values. -/
def EvOK (ρ : Rho) (n : Nat) (ev : Ev) (e : Operand → Value) (l : List Operand) : Prop := ∀ x ∈ l, (ev x).den ρ n (e x)
theorem scalOK_all {ev : Ev} : ∀ {l : List Operand}, scalOK ev l = true → ∀ x ∈ l, ∃ v, (ev x).val? = some v
  | [], _, x, hx => by simp at hx
  | y :: l, h, x, hx => by
    simp only [scalOK, Bool.and_eq_true] at h
    rcases List.mem_cons.1 hx with rfl | hx
    · exact Option.isSome_iff_exists.1 h.1
    · exact scalOK_all h.2 x hx
theorem scal_sound {P : Program} {ev : Ev} {o : Oper} {r : AR} (h : scal P ev o = some r) {ρ : Rho} {n : Nat} {e : Operand → Value}
    (he : EvOK ρ n ev e o.op.operands.toList) (w : World) : ∃ v, (execOp e o).run P w = .ok (.value v) w ∧ r.den ρ n v := by
  unfold scal at h
  cases hs : (notSel o && scalOK ev o.op.operands.toList) with
  | false => simp [hs] at h
  | true =>
    simp only [hs, cond_true] at h
    simp only [Bool.and_eq_true] at hs
    have hc : execOp e o = execOp (fun x => ((ev x).val?).getD undef) o := by
      refine execOp_congr o (fun cs b hb => by simp [notSel, hb] at hs) fun x hx => ?_
      obtain ⟨v, hv⟩ := scalOK_all hs.2 x (by simpa using hx)
      rw [hv, AR.val_den hv (he x (by simpa using hx))]; rfl
    split at h
    · rename_i v hq
      exact ⟨v, by rw [hc]; exact qrun_run P _ _ hq w, AR.of_den ρ n v r h⟩
    · simp at h
end Go.Proofs.YtbifklibdkjbeaaGreatDoor
