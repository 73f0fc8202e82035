/-
  Several texts in one: What the reckoned run's values and memory stand for; operations that look at no memory. No condition. Operations that look at no memory: what the reckoned run says of them is so. No condition. Operations that look at no memory: each one. No condition. Operations that look at no memory: all. No condition.
-/
import Derived.Test.YtbifklibdkjbeaaGreatDoorMg32
import Derived.Laws.Tables
import Derived.Orders
namespace Go.Proofs.YtbifklibdkjbeaaGreatDoor
open Go.RowKit
set_option linter.unusedVariables false
set_option linter.unusedSimpArgs false
set_option maxRecDepth 100000
end Go.Proofs.YtbifklibdkjbeaaGreatDoor
section
set_option linter.unusedVariables false
set_option linter.unusedSimpArgs false
namespace Go.Proofs.YtbifklibdkjbeaaGreatDoor
open Go
def All2 {α β : Type} (R : α → β → Prop) : List α → List β → Prop
 | [], [] => True
 | x :: l, y :: m => R x y ∧ All2 R l m
 | _, _ => False
namespace All2
variable {α β : Type} {R S : α → β → Prop}
theorem len : ∀ {l : List α} {m : List β}, All2 R l m → l.length = m.length
 | [], [], _ => rfl
 | _ :: _, _ :: _, h => by simp [len h.2]
 | [], _ :: _, h => h.elim
 | _ :: _, [], h => h.elim
theorem mono (f : ∀ x y, R x y → S x y) : ∀ {l : List α} {m : List β}, All2 R l m → All2 S l m
 | [], [], _ => trivial
 | _ :: _, _ :: _, h => ⟨f _ _ h.1, mono f h.2⟩
 | [], _ :: _, h => h.elim
 | _ :: _, [], h => h.elim
theorem app : ∀ {l : List α} {m : List β} {l' : List α} {m' : List β}, All2 R l m → All2 R l' m' → All2 R (l ++ l') (m ++ m')
 | [], [], _, _, _, h => h
 | _ :: _, _ :: _, _, _, h, h' => ⟨h.1, app h.2 h'⟩
 | [], _ :: _, _, _, h, _ => h.elim
 | _ :: _, [], _, _, h, _ => h.elim
theorem get : ∀ {l : List α} {m : List β}, All2 R l m → ∀ {i : Nat} {x : α}, l[i]? = some x → ∃ y, m[i]? = some y ∧ R x y
 | [], [], _, i, x, h => by simp at h
 | a :: l, b :: m, h, 0, x, e => by simp at e; subst e; exact ⟨b, rfl, h.1⟩
 | a :: l, b :: m, h, i + 1, x, e => by simpa using get h.2 (by simpa using e)
 | [], _ :: _, h, _, _, _ => h.elim
 | _ :: _, [], h, _, _, _ => h.elim
theorem of : ∀ {l : List α} {m : List β}, l.length = m.length → (∀ (i : Nat) (x : α) (y : β), l[i]? = some x → m[i]? = some y → R x y) → All2 R l m
 | [], [], _, _ => trivial
 | a :: l, b :: m, h, f => ⟨f 0 a b rfl rfl, of (by simpa using h) fun i x y hx hy => f (i + 1) x y (by simpa using hx) (by simpa using hy)⟩
 | [], _ :: _, h, _ => by simp at h
 | _ :: _, [], h, _ => by simp at h
theorem take : ∀ (n : Nat) {l : List α} {m : List β}, All2 R l m → All2 R (l.take n) (m.take n)
 | 0, _, _, _ => by simp [All2]
 | n + 1, [], [], _ => by simp [All2]
 | n + 1, _ :: _, _ :: _, h => ⟨h.1, take n h.2⟩
 | n + 1, [], _ :: _, h => h.elim
 | n + 1, _ :: _, [], h => h.elim
theorem drop : ∀ (n : Nat) {l : List α} {m : List β}, All2 R l m → All2 R (l.drop n) (m.drop n)
 | 0, _, _, h => by simpa using h
 | n + 1, [], [], _ => by simp [All2]
 | n + 1, _ :: _, _ :: _, h => by simpa using drop n h.2
 | n + 1, [], _ :: _, h => h.elim
 | n + 1, _ :: _, [], h => h.elim
theorem rev : ∀ {l : List α} {m : List β}, All2 R l m → All2 R l.reverse m.reverse
 | [], [], _ => by simp [All2]
 | _ :: _, _ :: _, h => by simpa using app (l' := [_]) (m' := [_]) (rev h.2) ⟨h.1, trivial⟩
 | [], _ :: _, h => h.elim
 | _ :: _, [], h => h.elim
end All2
structure Rho where
 blk : Nat → Nat
 base : Nat → Nat
 size : Nat → Nat
structure Ext (ρ ρ' : Rho) (n : Nat) : Prop where
 blk : ∀ i, i < n → ρ'.blk i = ρ.blk i
 base : ∀ i, i < n → ρ'.base i = ρ.base i
 size : ∀ i, i < n → ρ'.size i = ρ.size i
theorem Ext.refl (ρ : Rho) (n : Nat) : Ext ρ ρ n := ⟨fun _ _ => rfl, fun _ _ => rfl, fun _ _ => rfl⟩
theorem Ext.trans {a b c : Rho} {n m : Nat} (h : Ext a b n) (k : Ext b c m) (hm : n ≤ m) : Ext a c n :=
 ⟨fun i hi => (k.blk i (by omega)).trans (h.blk i hi), fun i hi => (k.base i (by omega)).trans (h.base i hi), fun i hi => (k.size i (by omega)).trans (h.size i hi)⟩
def AC.den (ρ : Rho) (n : Nat) : AC → Value → Prop
 | .lit v, u => u = v ∧ v.oneCell' = true
 | .ptr id off, u => id < n ∧ u = .pointer (some ⟨ρ.blk id, ρ.base id + off, none⟩)
 | .sl id off len cp es ex, u => id < n ∧ len ≤ cp ∧ ∃ o c, u = .slice (some ⟨ρ.blk id, o, none⟩) len c ∧ (c ≠ 0 → o = ρ.base id + off) ∧
  (ex = true → c = cp) ∧ (ex = false → cp ≤ c ∧ o + c * es ≤ ρ.size id)
 | .ifc t x, u => ∃ y, u = .iface t y ∧ x.den ρ n y
 | .fn f, u => u = .func f #[] #[]
 | .cap r x, u => ∃ f fs cs y, r.den ρ n (.func f fs cs) ∧ x.den ρ n y ∧ u = .func f fs (cs.push y)
 | .fst r x, u => ∃ f fs cs y, r.den ρ n (.func f fs cs) ∧ x.den ρ n y ∧ u = .func f (fs.push y) cs
def AV.den (ρ : Rho) (n : Nat) : AV → Value → Prop
 | .c x, u => x.den ρ n u
 | .agg xs, u => ∃ cs, u = .agg cs ∧ All2 (AC.den ρ n) xs cs.toList
def AR.den (ρ : Rho) (n : Nat) : AR → Value → Prop
 | .one x, u => x.den ρ n u
 | .tup xs, u => ∃ vs, u = .tuple vs ∧ All2 (AV.den ρ n) xs vs.toList
 | .any, _ => True
theorem AC.den_mono {ρ ρ' : Rho} {n m : Nat} (h : Ext ρ ρ' n) (hm : n ≤ m) : ∀ (x : AC) (u : Value), x.den ρ n u → x.den ρ' m u
 | .lit v, u, d => d
 | .ptr id off, u, ⟨hl, he⟩ => ⟨by omega, by rw [h.blk _ hl, h.base _ hl]; exact he⟩
 | .sl id off len cp es ex, u, ⟨hl, hc, o, c, he, ho, hx, hy⟩ => ⟨by omega, hc, o, c, by rw [h.blk _ hl]; exact he, by rw [h.base _ hl]; exact ho, hx, by rw [h.size _ hl]; exact hy⟩
 | .ifc t x, u, ⟨y, he, hy⟩ => ⟨y, he, AC.den_mono h hm x y hy⟩
 | .fn f, u, d => d
 | .cap r x, u, ⟨f, fs, cs, y, h1, h2, h3⟩ => ⟨f, fs, cs, y, AC.den_mono h hm r _ h1, AC.den_mono h hm x _ h2, h3⟩
 | .fst r x, u, ⟨f, fs, cs, y, h1, h2, h3⟩ => ⟨f, fs, cs, y, AC.den_mono h hm r _ h1, AC.den_mono h hm x _ h2, h3⟩
theorem AV.den_mono {ρ ρ' : Rho} {n m : Nat} (h : Ext ρ ρ' n) (hm : n ≤ m) : ∀ (x : AV) (u : Value), x.den ρ n u → x.den ρ' m u
 | .c x, u, d => AC.den_mono h hm x u d
 | .agg xs, u, ⟨cs, he, hc⟩ => ⟨cs, he, hc.mono (AC.den_mono h hm)⟩
theorem AR.den_mono {ρ ρ' : Rho} {n m : Nat} (h : Ext ρ ρ' n) (hm : n ≤ m) : ∀ (x : AR) (u : Value), x.den ρ n u → x.den ρ' m u
 | .one x, u, d => AV.den_mono h hm x u d
 | .tup xs, u, ⟨cs, he, hc⟩ => ⟨cs, he, hc.mono (AV.den_mono h hm)⟩
 | .any, _, _ => trivial
theorem AC.den_one {ρ : Rho} {n : Nat} : ∀ {x : AC} {u : Value}, x.den ρ n u → u.oneCell' = true
 | .lit v, u, d => by obtain ⟨rfl, h⟩ := d; exact h
 | .ptr .., u, d => by rw [d.2]; rfl
 | .sl .., u, ⟨_, _, _, _, he, _⟩ => by rw [he]; rfl
 | .ifc .., u, ⟨_, he, _⟩ => by rw [he]; rfl
 | .fn _, u, d => by rw [show u = _ from d]; rfl
 | .cap .., u, ⟨_, _, _, _, _, _, he⟩ => by rw [he]; rfl
 | .fst .., u, ⟨_, _, _, _, _, _, he⟩ => by rw [he]; rfl
theorem xjQ {u : Value} (h : u.oneCell' = true) : u.cells = #[u] := by cases u <;> first | rfl | (simp [Value.oneCell'] at h)
theorem AV.den_cells {ρ : Rho} {n : Nat} : ∀ {x : AV} {u : Value}, x.den ρ n u → All2 (AC.den ρ n) x.cells u.cells.toList
 | .c x, u, d => by rw [xjQ (AC.den_one d)]; exact ⟨d, trivial⟩
 | .agg xs, u, ⟨cs, he, hc⟩ => by rw [he]; exact hc
theorem xfB (ρ : Rho) (n : Nat) : ∀ (l : List Value) (r : List AC), xgY l = some r → All2 (AC.den ρ n) r l
 | [], r, h => by simp [xgY] at h; subst h; trivial
 | v :: l, r, h => by
  cases v <;> simp only [xgY, reduceCtorEq, Option.map_eq_some_iff] at h <;>
   (obtain ⟨a, h1, rfl⟩ := h; exact ⟨⟨rfl, rfl⟩, xfB ρ n l a h1⟩)
theorem AV.of_den (ρ : Rho) (n : Nat) (v : Value) (x : AV) (h : AV.of? v = some x) : x.den ρ n v := by
 cases v <;> simp only [AV.of?, reduceCtorEq, Option.some.injEq, Option.map_eq_some_iff] at h
 case agg cs => obtain ⟨a, h1, rfl⟩ := h; exact ⟨cs, rfl, xfB ρ n _ _ h1⟩
 all_goals (subst h; exact ⟨rfl, rfl⟩)
theorem xgK (ρ : Rho) (n : Nat) : ∀ (l : List Value) (r : List AV), xlf l = some r → All2 (AV.den ρ n) r l
 | [], r, h => by simp [xlf] at h; subst h; trivial
 | v :: l, r, h => by
  simp only [xlf] at h
  split at h
  · rename_i x hx
    simp only [Option.map_eq_some_iff] at h
    obtain ⟨a, h1, rfl⟩ := h
    exact ⟨AV.of_den ρ n v x hx, xgK ρ n l a h1⟩
  simp at h
theorem AR.of_den (ρ : Rho) (n : Nat) (v : Value) (x : AR) (h : AR.of? v = some x) : x.den ρ n v := by
 cases v <;> simp only [AR.of?, Option.map_eq_some_iff] at h
 case tuple vs => obtain ⟨a, h1, rfl⟩ := h; exact ⟨vs, rfl, xgK ρ n _ _ h1⟩
 all_goals (obtain ⟨a, h1, rfl⟩ := h; exact AV.of_den ρ n _ _ h1)
theorem AC.val_den {ρ : Rho} {n : Nat} : ∀ {x : AC} {v u : Value}, x.val? = some v → x.den ρ n u → u = v
 | .lit v, _, u, h, d => by simp [AC.val?] at h; rw [← h]; exact d.1
 | .ifc t c, v, u, h, d => by
  simp only [AC.val?, Option.map_eq_some_iff] at h
  obtain ⟨a, h1, rfl⟩ := h
  obtain ⟨y, rfl, hy⟩ := d
  rw [AC.val_den h1 hy]
 | .fn f, _, u, h, d => by simp [AC.val?] at h; rw [← h]; exact d
 | .ptr .., _, _, h, _ => by simp [AC.val?] at h
 | .sl .., _, _, h, _ => by simp [AC.val?] at h
 | .cap .., _, _, h, _ => by simp [AC.val?] at h
 | .fst .., _, _, h, _ => by simp [AC.val?] at h
theorem xfd {ρ : Rho} {n : Nat} : ∀ {l : List AC} {r us : List Value}, xgw l = some r → All2 (AC.den ρ n) l us → us = r
 | [], r, [], h, _ => by simp [xgw] at h; exact h.symm
 | x :: l, r, u :: us, h, d => by
  simp only [xgw] at h
  split at h
  · rename_i v hv
    simp only [Option.map_eq_some_iff] at h
    obtain ⟨a, h1, rfl⟩ := h
    rw [AC.val_den hv d.1, xfd h1 d.2]
  simp at h
 | [], _, _ :: _, _, d => d.elim
 | _ :: _, _, [], _, d => d.elim
theorem AR.val_den {ρ : Rho} {n : Nat} : ∀ {x : AR} {v u : Value}, x.val? = some v → x.den ρ n u → u = v
 | .one (.c x), v, u, h, d => AC.val_den (x := x) h d
 | .one (.agg xs), v, u, h, d => by
  simp only [AR.val?, AV.val?, Option.map_eq_some_iff] at h
  obtain ⟨a, h1, rfl⟩ := h
  obtain ⟨cs, rfl, hc⟩ := d
  rw [← xfd h1 hc]
 | .tup [], v, u, h, d => by
  simp [AR.val?] at h; subst h
  obtain ⟨vs, rfl, hv⟩ := d
  have : vs.toList = [] := by cases hl : vs.toList with
   | nil => rfl
   | cons a l => rw [hl] at hv; exact hv.elim
  rw [show vs = #[] from Array.toList_inj.1 (by simpa using this)]; rfl
 | .tup (_ :: _), v, u, h, d => by simp [AR.val?] at h
 | .any, v, u, h, d => by simp [AR.val?] at h
def EvOK (ρ : Rho) (n : Nat) (ev : Ev) (e : Operand → Value) (l : List Operand) : Prop := ∀ x ∈ l, (ev x).den ρ n (e x)
theorem xfh {ev : Ev} : ∀ {l : List Operand}, xcn ev l = true → ∀ x ∈ l, ∃ v, (ev x).val? = some v
 | [], _, x, hx => by simp at hx
 | y :: l, h, x, hx => by
  simp only [xcn, Bool.and_eq_true] at h
  rcases List.mem_cons.1 hx with rfl | hx
  · exact Option.isSome_iff_exists.1 h.1
  exact xfh h.2 x hx
theorem xaY {P : Program} {ev : Ev} {o : Oper} {r : AR} (h : scal P ev o = some r) {ρ : Rho} {n : Nat} {e : Operand → Value}
 (he : EvOK ρ n ev e o.op.operands.toList) (w : World) : ∃ v, (execOp e o).run P w = .ok (.value v) w ∧ r.den ρ n v := by
 unfold scal at h
 cases hs : (xgL o && xcn ev o.op.operands.toList) with
 | false => simp [hs] at h
 | true =>
  simp only [hs, cond_true] at h
  simp only [Bool.and_eq_true] at hs
  have hc : execOp e o = execOp (fun x => ((ev x).val?).getD undef) o := by
   refine execOp_congr o (fun cs b hb => by simp [xgL, hb] at hs) fun x hx => ?_
   obtain ⟨v, hv⟩ := xfh hs.2 x (by simpa using hx)
   rw [hv, AR.val_den hv (he x (by simpa using hx))]; rfl
  split at h
  · rename_i v hq
    exact ⟨v, by rw [hc]; exact xmZ P _ _ hq w, AR.of_den ρ n v r h⟩
  simp at h
end Go.Proofs.YtbifklibdkjbeaaGreatDoor
end
namespace Go.Proofs.YtbifklibdkjbeaaGreatDoor
open Go.RowKit
set_option maxRecDepth 100000
section
open Go
section
variable {P : Program} {ρ : Rho} {n : Nat} {e : Operand → Value}
theorem xaT {t : TypeId} {k : Nat} (h : szOf P t = some k) (w : World) : (sizeOf t).run P w = .ok k w := by
 simp only [szOf, Option.map_eq_some_iff] at h
 obtain ⟨i, hi, rfl⟩ := h
 simp [sizeOf, typeInfo, hi]
theorem xfV {t : TypeId} {b : Bool} (h : xmC P t = some b) (w : World) : (isAgg t).run P w = .ok b w := by
 unfold xmC at h
 cases hu : P.underlying t with
 | none => simp [hu] at h
 | some d =>
  simp only [hu] at h
  simp only [isAgg, Sem.run_bind, run_underlying hu, Result.andThen_ok]
  cases d <;> simp at h <;> subst h <;> rfl
theorem xmd {R : AC → Value → Prop} {l : List AC} {m : List Value} {off k : Nat} {r : List AC} (h : cut l off k = some r) (d : All2 R l m) :
 All2 R r ((m.drop off).take k) ∧ r.length = k ∧ off + k ≤ l.length ∨ k = 0 ∧ r = [] := by
 unfold cut at h
 cases hb : Nat.beq ((l.drop off).take k).length k with
 | false => simp only [hb, cond_false, reduceCtorEq] at h
 | true =>
  simp only [hb, cond_true, Option.some.injEq] at h
  subst h
  have hk : ((l.drop off).take k).length = k := Nat.eq_of_beq_eq_true hb
  by_cases h0 : k = 0
  · right; subst h0; simp
  left
  refine ⟨(d.drop off).take k, hk, ?_⟩
  simp only [List.length_take, List.length_drop] at hk
  omega
theorem xc6 {l : List AC} {off k : Nat} {r : List AC} (h : cut l off k = some r) : r.length = k := by
 unfold cut at h
 cases hb : Nat.beq ((l.drop off).take k).length k with
 | false => simp only [hb, cond_false, reduceCtorEq] at h
 | true => simp only [hb, cond_true, Option.some.injEq] at h; subst h; exact Nat.eq_of_beq_eq_true hb
theorem cut_all {R : AC → Value → Prop} {l : List AC} {m : List Value} {off k : Nat} {r : List AC} (h : cut l off k = some r) (d : All2 R l m) :
 All2 R r ((m.drop off).take k) := by
 rcases xmd h d with h | ⟨rfl, rfl⟩
 · exact h.1
 simp [All2]
theorem xis {t : TypeId} {cs : List AC} {vs : Array Value} {off : Nat} {x : AV} (h : xdX P t cs off = some x) (d : All2 (AC.den ρ n) cs vs.toList) (w : World) :
 ∃ v, (part t vs off).run P w = .ok v w ∧ x.den ρ n v := by
 unfold xdX at h
 simp only [xhO] at h
 cases ha : xmC P t with
 | none => simp [ha] at h
 | some b =>
  cases hs : szOf P t with
  | none => simp [ha, hs] at h
  | some k =>
   cases b with
   | true =>
    simp only [ha, hs, Option.map_eq_some_iff] at h
    obtain ⟨r, hr, rfl⟩ := h
    refine ⟨.agg (vs.extract off (off + k)), by simp [part, xfV ha, xaT hs], _, rfl, ?_⟩
    have := cut_all hr d
    have e : (vs.extract off (off + k)).toList = (vs.toList.drop off).take k := by
     rw [Array.toList_extract]; simp [List.extract, Nat.add_sub_cancel_left]
    rwa [e]
   | false =>
    simp only [ha, hs, Option.map_eq_some_iff] at h
    obtain ⟨c, hc, rfl⟩ := h
    obtain ⟨y, hy, hd⟩ := d.get hc
    have hy' : vs[off]? = some y := by simpa using hy
    exact ⟨y, by simp [part, xfV ha, hy'], hd⟩
theorem xd0 {s : TypeId} {f off ft k : Nat} (h : xeN P s f = some (off, ft, k)) :
 ∃ fields x, P.underlying s = some (.struct fields) ∧ fields[f]? = some x ∧ x.offset = off ∧ x.type = ft ∧ szOf P x.type = some k := by
 unfold xeN at h
 split at h
 · rename_i fields hu
   split at h
   · rename_i x hx
     simp only [Option.map_eq_some_iff, Prod.mk.injEq] at h
     obtain ⟨k', hk, h1, h2, h3⟩ := h
     exact ⟨fields, x, hu, hx, h1, h2, h3 ▸ hk⟩
   simp at h
 simp at h
theorem xg7 (off : Nat) : ∀ (vs : List Value) (k : Nat) (cs : Array Value), off + k + vs.length ≤ cs.size →
 ((vs.zipIdx k).foldl (fun (cs : Array Value) (p : Value × Nat) => cs.setIfInBounds (off + p.2) p.1) cs).toList =
  cs.toList.take (off + k) ++ (vs ++ cs.toList.drop (off + k + vs.length))
 | [], k, cs, _ => by simp
 | v :: vs, k, cs, h => by
  simp only [List.zipIdx_cons, List.foldl_cons]
  rw [xg7 off vs (k + 1) _ (by simp at h ⊢; omega)]
  simp only [Array.toList_setIfInBounds]
  have h1 : off + k < cs.toList.length := by simp at h ⊢; omega
  apply List.ext_getElem?
  intro i
  simp only [List.getElem?_append, List.length_take, List.length_set, List.getElem?_take, List.getElem?_drop, List.getElem?_set, List.length_cons]
  have hl : cs.toList.length = cs.size := by simp
  simp only [List.length_cons] at h
  by_cases c1 : i < off + k
  · rw [if_pos (by omega), if_pos (by omega), if_neg (by omega), if_pos (by omega), if_pos c1]
  by_cases c2 : i = off + k
  · subst c2
    rw [if_pos (by omega), if_pos (by omega), if_pos rfl, if_pos h1, if_neg (by omega), if_pos (by omega)]
    have : off + k - min (off + k) cs.size = 0 := by omega
    simp [this]
  have e1 : i - min (off + (k + 1)) cs.toList.length = i - (off + k) - 1 := by omega
  have e2 : i - min (off + k) cs.toList.length = (i - (off + k) - 1) + 1 := by omega
  rw [if_neg (show ¬ i < min (off + (k + 1)) cs.toList.length by omega), if_neg (show ¬ i < min (off + k) cs.toList.length by omega), e1, e2]
  by_cases c3 : i - (off + k) - 1 < vs.length
  · rw [if_pos c3, if_pos (show i - (off + k) - 1 + 1 < vs.length + 1 by omega)]; simp
  rw [if_neg c3, if_neg (show ¬ i - (off + k) - 1 + 1 < vs.length + 1 by omega), if_neg (by omega)]
  congr 1; omega
theorem xjk {R : AC → Value → Prop} {l : List AC} {m : List Value} {vs : List AC} {us : List Value} (off : Nat) (d : All2 R l m) (dv : All2 R vs us) :
 All2 R (xcm l off vs) (m.take off ++ (us ++ m.drop (off + us.length))) := by
 rw [xem]; rw [dv.len]; exact (d.take off).app (dv.app (d.drop _))
theorem xjj {l vs : List AC} {off : Nat} (h : off + vs.length ≤ l.length) : (xcm l off vs).length = l.length := by
 rw [xem]; simp; omega
theorem xgb {R : AC → Value → Prop} (pl : Nat → Option (Nat × Nat)) : ∀ (ps : List (Nat × List AC)) (qs : List (Nat × Value)) (z l : List AC) (zc : Array Value),
 xj8 pl z ps = some l → All2 R z zc.toList → All2 (fun p q => p.1 = q.1 ∧ All2 R p.2 q.2.cells.toList) ps qs →
 ∃ cells, Instr.fill pl zc qs = some cells ∧ All2 R l cells.toList
 | [], [], z, l, zc, h, hz, _ => by simp [xj8] at h; subst h; exact ⟨zc, rfl, hz⟩
 | (i, v) :: ps, (j, u) :: qs, z, l, zc, h, hz, d => by
  obtain ⟨⟨hij, hv⟩, hr⟩ := d
  simp only at hij hv
  subst hij
  simp only [xj8] at h
  simp only [Instr.fill]
  cases hp : pl i with
  | none => simp [hp] at h
  | some x =>
   obtain ⟨off, size⟩ := x
   simp only [hp] at h ⊢
   cases hb : (Nat.beq v.length size && Nat.ble (off + v.length) z.length) with
   | false => simp [hb] at h
   | true =>
    simp only [hb, cond_true] at h
    simp only [Bool.and_eq_true, Nat.beq_eq, Nat.ble_eq] at hb
    have hlen : u.cells.size = v.length := by have := hv.len; simp at this; omega
    have hzl : zc.size = z.length := by have := hz.len; simp at this; omega
    rw [if_neg (by simp [hlen, hb.1]; omega)]
    refine xgb pl ps qs (xcm z off v) l _ h ?_ hr
    have := xg7 off u.cells.toList 0 zc (by simp [hlen]; omega)
    have e : (u.cells.zipIdx.foldl (fun cs x => match x with | (c, j) => cs.setIfInBounds (off + j) c) zc).toList =
     zc.toList.take off ++ (u.cells.toList ++ zc.toList.drop (off + u.cells.toList.length)) := by
     rw [← Array.foldl_toList, Array.toList_zipIdx]; simpa using this
    rw [e]
    exact xjk off hz hv
 | [], _ :: _, _, _, _, _, _, d => d.elim
 | _ :: _, [], _, _, _, _, _, d => d.elim
theorem xeA {ev : Ev} : ∀ {l : List (Nat × Operand)} {r : List (Nat × List AC)}, xfu ev l = some r → EvOK ρ n ev e (l.map (·.2)) →
 All2 (fun p q => p.1 = q.1 ∧ All2 (AC.den ρ n) p.2 q.2.cells.toList) r (l.map fun x => (x.1, e x.2))
 | [], r, h, _ => by simp [xfu] at h; subst h; trivial
 | (i, x) :: l, r, h, he => by
  simp only [xfu] at h
  split at h
  · rename_i a r' ha hr
    simp only [Option.some.injEq] at h
    subst h
    have hx := he x (by simp)
    rw [ha] at hx
    exact ⟨⟨rfl, AV.den_cells hx⟩, xeA hr fun y hy => he y (by simp at hy ⊢; exact .inr hy)⟩
  simp at h
theorem xc {t : TypeId} {z : List AC} (h : zeroCells? P t = some z) (ρ : Rho) (n : Nat) :
 ∃ i v, P.info? t = some i ∧ i.zero = some v ∧ All2 (AC.den ρ n) z v.cells.toList := by
 unfold zeroCells? at h
 cases hi : P.info? t with
 | none => simp [hi] at h
 | some i =>
  cases hz : i.zero with
  | none => simp [hi, hz] at h
  | some v =>
   simp only [hi, Option.bind_some, hz, Option.map_eq_some_iff] at h
   obtain ⟨a, ha, rfl⟩ := h
   exact ⟨i, v, rfl, hz, AV.den_cells (AV.of_den ρ n v a ha)⟩
end
end
section
open Go
section
variable {P : Program} {ρ : Rho} {n : Nat} {e : Operand → Value} {ev : Ev}
theorem xfF : ∀ {x : AC} {u : Value} {f : Fn} {a l : List AC}, x.fn? = some (f, a, l) → x.den ρ n u →
 ∃ fs cs, u = .func f fs cs ∧ All2 (AC.den ρ n) a.reverse fs.toList ∧ All2 (AC.den ρ n) l.reverse cs.toList
 | .fn g, u, f, a, l, h, d => by
  simp only [AC.fn?, Option.some.injEq, Prod.mk.injEq] at h
  obtain ⟨rfl, rfl, rfl⟩ := h
  exact ⟨#[], #[], d, trivial, trivial⟩
 | .cap r x, u, f, a, l, h, d => by
  simp only [AC.fn?, Option.map_eq_some_iff] at h
  obtain ⟨⟨f', a', l'⟩, h1, h2⟩ := h
  simp only [Prod.mk.injEq] at h2
  obtain ⟨rfl, rfl, rfl⟩ := h2
  obtain ⟨g, fs, cs, y, hr, hx, rfl⟩ := d
  obtain ⟨fs', cs', he, h3, h4⟩ := xfF h1 hr
  simp only [Value.func.injEq] at he
  obtain ⟨rfl, rfl, rfl⟩ := he
  exact ⟨fs, cs.push y, rfl, h3, by simpa using h4.app (l' := [_]) (m' := [_]) ⟨hx, trivial⟩⟩
 | .fst r x, u, f, a, l, h, d => by
  simp only [AC.fn?, Option.map_eq_some_iff] at h
  obtain ⟨⟨f', a', l'⟩, h1, h2⟩ := h
  simp only [Prod.mk.injEq] at h2
  obtain ⟨rfl, rfl, rfl⟩ := h2
  obtain ⟨g, fs, cs, y, hr, hx, rfl⟩ := d
  obtain ⟨fs', cs', he, h3, h4⟩ := xfF h1 hr
  simp only [Value.func.injEq] at he
  obtain ⟨rfl, rfl, rfl⟩ := he
  exact ⟨fs.push y, cs, rfl, by simpa using h3.app (l' := [_]) (m' := [_]) ⟨hx, trivial⟩, h4⟩
 | .lit .., _, _, _, _, h, _ => by simp [AC.fn?] at h
 | .ptr .., _, _, _, _, h, _ => by simp [AC.fn?] at h
 | .sl .., _, _, _, _, h, _ => by simp [AC.fn?] at h
 | .ifc .., _, _, _, _, h, _ => by simp [AC.fn?] at h
theorem xhj {f : Fn} : ∀ {l : List AR} {us : List Value} {x : AC}, xhk f l = some x → All2 (AR.den ρ n) l us → x.den ρ n (.func f #[] us.reverse.toArray)
 | [], [], x, h, _ => by simp [xhk] at h; subst h; rfl
 | .one (.c y) :: l, u :: us, x, h, d => by
  simp only [xhk, Option.map_eq_some_iff] at h
  obtain ⟨r, hr, rfl⟩ := h
  exact ⟨f, #[], us.reverse.toArray, u, xhj hr d.2, d.1, by simp⟩
 | .one (.agg _) :: _, _ :: _, _, h, _ => by simp [xhk] at h
 | .tup _ :: _, _ :: _, _, h, _ => by simp [xhk] at h
 | .any :: _, _ :: _, _, h, _ => by simp [xhk] at h
 | [], _ :: _, _, _, d => d.elim
 | _ :: _, [], _, _, d => d.elim
theorem xg3 {f : Fn} : ∀ {l : List AR} {us : List Value} {x : AC}, xg4 f l = some x → All2 (AR.den ρ n) l us → x.den ρ n (.func f us.reverse.toArray #[])
 | [], [], x, h, _ => by simp [xg4] at h; subst h; rfl
 | .one (.c y) :: l, u :: us, x, h, d => by
  simp only [xg4, Option.map_eq_some_iff] at h
  obtain ⟨r, hr, rfl⟩ := h
  exact ⟨f, us.reverse.toArray, #[], u, xg3 hr d.2, d.1, by simp⟩
 | .one (.agg _) :: _, _ :: _, _, h, _ => by simp [xg4] at h
 | .tup _ :: _, _ :: _, _, h, _ => by simp [xg4] at h
 | .any :: _, _ :: _, _, h, _ => by simp [xg4] at h
 | [], _ :: _, _, _, d => d.elim
 | _ :: _, [], _, _, d => d.elim
theorem xh0 : ∀ {l : List Operand}, EvOK ρ n ev e l → All2 (AR.den ρ n) (l.map ev) (l.map e)
 | [], _ => trivial
 | x :: l, h => ⟨h x (by simp), xh0 fun y hy => h y (by simp [hy])⟩
theorem xb8 {x : AR} {k : Int} {u : Value} (h : xdY x = some k) (d : x.den ρ n u) : ∃ kd, u = .int kd k := by
 unfold xdY at h
 split at h
 · simp only [Option.some.injEq] at h; subst h; exact ⟨_, d.1⟩
 simp at h
theorem xee {b : Bool} {u : Value} (d : (AR.one (.c (.lit (.bool b)))).den ρ n u) : u = .bool b := d.1
def xck (P : Program) (e : Operand → Value) (ρ : Rho) (n : Nat) (o : Oper) (r : AR) (w : World) : Prop := ∃ v, (execOp e o).run P w = .ok (.value v) w ∧ r.den ρ n v
variable {dst : Option Tmp} {ty : TypeId} {pos : String} {after : Array Edge} {guard : Option (Nat × Bool)} {r : AR} {w : World}
theorem xjD {x : Operand} (h : xaQ P ev ⟨dst, .nilCheck x, ty, pos, after, guard⟩ = some r) (he : (ev x).den ρ n (e x)) : xck P e ρ n ⟨dst, .nilCheck x, ty, pos, after, guard⟩ r w := by
 simp only [xaQ] at h
 unfold xck
 simp only [execOp]
 split at h
 · rename_i id off hx; rw [hx] at he; obtain ⟨hl, hv⟩ := he
   simp only [Option.some.injEq] at h; subst h
   rw [hv]; exact ⟨_, rfl, hl, rfl⟩
 · rename_i a b hx; rw [hx] at he
   split at h
   · rename_i g l hf
     simp only [Option.some.injEq] at h; subst h
     obtain ⟨fs, cs, hv, _⟩ := xfF (a := l.1) (l := l.2) hf he
     rw [hv]; exact ⟨_, rfl, hv ▸ he⟩
   simp at h
 · rename_i f hx; rw [hx] at he
   simp only [Option.some.injEq] at h; subst h
   have hv : e x = .func (.func f) #[] #[] := he
   rw [hv]; exact ⟨_, rfl, rfl⟩
 · rename_i a b hx; rw [hx] at he
   split at h
   · rename_i g l hf
     simp only [Option.some.injEq] at h; subst h
     obtain ⟨fs, cs, hv, _⟩ := xfF (a := l.1) (l := l.2) hf he
     rw [hv]; exact ⟨_, rfl, hv ▸ he⟩
   simp at h
 · rename_i t c hx; rw [hx] at he; obtain ⟨y, hv, hy⟩ := he
   simp only [Option.some.injEq] at h; subst h
   rw [hv]; exact ⟨_, rfl, y, rfl, hy⟩
 simp at h
theorem xjE {f : Fn} {first captured : Array Operand} (h : xaQ P ev ⟨dst, .makeFunc f first captured, ty, pos, after, guard⟩ = some r)
 (he : EvOK ρ n ev e (first ++ captured).toList) : xck P e ρ n ⟨dst, .makeFunc f first captured, ty, pos, after, guard⟩ r w := by
 simp only [xaQ] at h
 have run : (execOp e ⟨dst, .makeFunc f first captured, ty, pos, after, guard⟩).run P w = .ok (.value (.func f (first.map e) (captured.map e))) w := rfl
 refine ⟨_, run, ?_⟩
 have h1 := xh0 (fun x hx => he x (by simp at hx ⊢; exact .inl hx) : EvOK ρ n ev e first.toList)
 have h2 := xh0 (fun x hx => he x (by simp at hx ⊢; exact .inr hx) : EvOK ρ n ev e captured.toList)
 split at h
 · rename_i hf
   simp only [Option.map_eq_some_iff] at h
   obtain ⟨x, hx, rfl⟩ := h
   have := xhj hx h2.rev
   have e1 : first.map e = #[] := by rw [show first = #[] from by simpa using hf]; simp
   have e2 : (List.map e captured.toList).reverse.reverse.toArray = captured.map e := by simp [← Array.toList_map]
   rw [e1, ← e2]; exact this
 split at h
 · rename_i hc
   simp only [Option.map_eq_some_iff] at h
   obtain ⟨x, hx, rfl⟩ := h
   have := xg3 hx h1.rev
   have e1 : captured.map e = #[] := by rw [show captured = #[] from by simpa using hc]; simp
   have e2 : (List.map e first.toList).reverse.reverse.toArray = first.map e := by simp [← Array.toList_map]
   rw [e1, ← e2]; exact this
 simp at h
theorem xhI {s : TypeId} {x : Operand} {f : Nat} (h : xaQ P ev ⟨dst, .fieldAddr s x f, ty, pos, after, guard⟩ = some r) (he : (ev x).den ρ n (e x)) :
 xck P e ρ n ⟨dst, .fieldAddr s x f, ty, pos, after, guard⟩ r w := by
 simp only [xaQ] at h
 split at h
 · rename_i off ft k id o hf hx
   simp only [Option.some.injEq] at h; subst h
   rw [hx] at he; obtain ⟨hl, hv⟩ := he
   obtain ⟨fields, y, hu, hy, rfl, rfl, hs⟩ := xd0 hf
   refine ⟨.pointer (some ⟨ρ.blk id, ρ.base id + (o + y.offset), none⟩), ?_, hl, rfl⟩
   have ha : (⟨ρ.blk id, ρ.base id + o, none⟩ : Addr).add y.offset = ⟨ρ.blk id, ρ.base id + (o + y.offset), none⟩ := by
    unfold Addr.add; split <;> simp_all [Nat.add_assoc]
   simp [execOp, Instr.fieldAt, run_underlying hu, hy, hv, Instr.sureAddr, fieldPlace, xaT hs, ha]
 simp at h
theorem q_field {t : TypeId} {x : Operand} {f : Nat} (h : xaQ P ev ⟨dst, .field t x f, ty, pos, after, guard⟩ = some r) (he : (ev x).den ρ n (e x)) :
 xck P e ρ n ⟨dst, .field t x f, ty, pos, after, guard⟩ r w := by
 simp only [xaQ] at h
 split at h
 · rename_i fields cs hu hx
   rw [hx] at he; obtain ⟨vs, hv, hd⟩ := he
   split at h
   · rename_i y hy
     simp only [Option.map_eq_some_iff] at h
     obtain ⟨a, ha, rfl⟩ := h
     obtain ⟨v, hr, hdv⟩ := xis ha hd w
     exact ⟨v, by simp [execOp, Instr.field, run_underlying hu, hy, hv, asAgg, hr], hdv⟩
   simp at h
 simp at h
theorem xcG (b o k : Nat) : (⟨b, o, none⟩ : Addr).add k = ⟨b, o + k, none⟩ := by unfold Addr.add; split <;> simp_all
theorem xhH {t : TypeId} {x i : Operand} (h : xaQ P ev ⟨dst, .indexAddr t x i, ty, pos, after, guard⟩ = some r) (he : (ev x).den ρ n (e x)) (hi : (ev i).den ρ n (e i)) :
 xck P e ρ n ⟨dst, .indexAddr t x i, ty, pos, after, guard⟩ r w := by
 simp only [xaQ] at h
 split at h
 · rename_i k hk
   obtain ⟨kd, hi⟩ := xb8 hk hi
   split at h
   · rename_i len el id off hu hx
     rw [hx] at he; obtain ⟨hl, hv⟩ := he
     split at h
     · rename_i s hs
       cases hb : Nat.blt k len with
       | false => simp only [hb, cond_false, reduceCtorEq] at h
       | true =>
        simp only [hb, cond_true, Option.some.injEq] at h; subst h
        have hlt : k < len := by simpa [Nat.blt_eq] using hb
        refine ⟨_, ?_, hl, rfl⟩
        have h0 : (0 : Int) ≤ (k : Int) ∧ (k : Int) < (len : Int) := by omega
        simp [execOp, Instr.indexAt, hi, asIntOf, run_underlying hu, hv, Instr.sureAddr, xaT hs, h0, xcG, Nat.add_assoc, hlt]
     simp at h
   · rename_i el id off len cp es ex hu hx
     rw [hx] at he; obtain ⟨hl, hc, o, c, hv, ho, hx1, hx2⟩ := he
     split at h
     · rename_i s hs
       cases hb : (Nat.blt k len && Nat.beq s es) with
       | false => simp only [hb, cond_false, reduceCtorEq] at h
       | true =>
        simp only [hb, cond_true, Option.some.injEq] at h; subst h
        simp only [Bool.and_eq_true, Nat.blt_eq] at hb
        have hlt : k < len := hb.1
        have hcap : c ≠ 0 := by
         cases ex with
         | true => have := hx1 rfl; omega
         | false => have := hx2 rfl; omega
        refine ⟨_, ?_, hl, rfl⟩
        have h0 : (0 : Int) ≤ (k : Int) ∧ (k : Int) < (len : Int) := by omega
        simp [execOp, Instr.indexAt, hi, asIntOf, run_underlying hu, hv, xaT hs, h0, xcG, Nat.add_assoc, hlt, ho hcap]
     simp at h
   simp at h
 simp at h
theorem q_index {t : TypeId} {x i : Operand} (h : xaQ P ev ⟨dst, .index t x i, ty, pos, after, guard⟩ = some r) (he : EvOK ρ n ev e [x, i]) :
 xck P e ρ n ⟨dst, .index t x i, ty, pos, after, guard⟩ r w := by
 simp only [xaQ] at h
 split at h
 · rename_i r' hr; simp only [Option.some.injEq] at h; subst h; exact xaY hr he w
 split at h
 · rename_i k len el cs hk hu hx
   have hex := he x (by simp)
   rw [hx] at hex; obtain ⟨vs, hv, hd⟩ := hex
   obtain ⟨kd, hi⟩ := xb8 hk (he i (by simp))
   split at h
   · rename_i s hs
     cases hb : Nat.blt k len with
     | false => simp only [hb, cond_false, reduceCtorEq] at h
     | true =>
      simp only [hb, cond_true, Option.map_eq_some_iff] at h
      obtain ⟨a, ha, rfl⟩ := h
      have hlt : k < len := by simpa [Nat.blt_eq] using hb
      have h0 : (0 : Int) ≤ (k : Int) ∧ (k : Int) < (len : Int) := by omega
      obtain ⟨v, hr, hdv⟩ := xis ha hd w
      exact ⟨v, by simp [execOp, Instr.index, hi, asIntOf, run_underlying hu, hv, xaT hs, h0, hr, hlt], hdv⟩
   simp at h
 simp at h
end
end
section
open Go
section
variable {P : Program} {ρ : Rho} {n : Nat} {e : Operand → Value} {ev : Ev}
variable {dst : Option Tmp} {ty : TypeId} {pos : String} {after : Array Edge} {guard : Option (Nat × Bool)} {r : AR} {w : World}
theorem xcg {t : TypeId} {x y : Value} {b : Bool} (h : (Op.equalIn (9999 + 1) t x y).run P w = .ok b w) : (Op.equal t x y).run P w = .ok b w := h
theorem q_bin {op : BinOp} {t yt : TypeId} {x y : Operand} (h : xaQ P ev ⟨dst, .binOp op t x y yt, ty, pos, after, guard⟩ = some r) (he : EvOK ρ n ev e [x, y]) :
 xck P e ρ n ⟨dst, .binOp op t x y yt, ty, pos, after, guard⟩ r w := by
 simp only [xaQ] at h
 split at h
 · rename_i r' hr; simp only [Option.some.injEq] at h; subst h; exact xaY hr he w
 have hx := he x (by simp)
 have hy := he y (by simp)
 have key : ∀ b : Bool, (Op.equal t (e x) (e y)).run P w = .ok b w → (∀ (w : World), (eqGuard op t x y (e x) (e y)).run P w = .ok () w) →
  (∀ k, e x ≠ .int k 0 ∨ True) → (match e x, e y with | .int .., _ | .float .., _ | .complex .., _ | .string _, _ => False | _, _ => True) →
  (op = .eql ∧ r = .one (.c (.lit (.bool b))) ∨ op = .neq ∧ r = .one (.c (.lit (.bool !b)))) → xck P e ρ n ⟨dst, .binOp op t x y yt, ty, pos, after, guard⟩ r w := by
  intro b hb hg _ hm hr
  rcases hr with ⟨rfl, rfl⟩ | ⟨rfl, rfl⟩
  · refine ⟨.bool b, ?_, rfl, rfl⟩
    have hbin : binOp .eql t (e x) (e y) = (do pure (.bool (← Op.equal t (e x) (e y)))) := by
     cases hex : e x <;> simp [hex] at hm <;> cases e y <;> rfl
    simp [execOp, hg, hbin, hb]
  refine ⟨.bool !b, ?_, rfl, rfl⟩
  have hbin : binOp .neq t (e x) (e y) = (do pure (.bool (!(← Op.equal t (e x) (e y))))) := by
   cases hex : e x <;> simp [hex] at hm <;> cases e y <;> rfl
  simp [execOp, hg, hbin, hb]
 generalize hz : xln P t (ev x) (ev y) = z at h
 cases z with
 | none => simp at h
 | some b =>
  have hr : op = .eql ∧ r = .one (.c (.lit (.bool b))) ∨ op = .neq ∧ r = .one (.c (.lit (.bool !b))) := by
   cases op <;> first | exact .inl ⟨rfl, (Option.some.inj h).symm⟩ | exact .inr ⟨rfl, (Option.some.inj h).symm⟩ | (exact absurd h (by intro h; cases h))
  clear h
  unfold xln at hz
  split at hz
  · rename_i el i o hu h1 h2
    rw [h1] at hx; rw [h2] at hy
    simp only [Option.some.injEq] at hz; subst hz
    have ex : e x = _ := hx.2
    have ey : e y = _ := hy.1
    refine key false ?_ (fun w => by rw [ex, ey]; rcases hr with ⟨rfl, _⟩ | ⟨rfl, _⟩ <;> rfl) (fun _ => .inr trivial) (by rw [ex, ey]; trivial) hr
    rw [ex, ey]; exact xcg (by rw [Op.equalIn]; simp [run_underlying hu])
  · rename_i el i o hu h1 h2
    rw [h1] at hx; rw [h2] at hy
    simp only [Option.some.injEq] at hz; subst hz
    have ex : e x = _ := hx.1
    have ey : e y = _ := hy.2
    refine key false ?_ (fun w => by rw [ex, ey]; rcases hr with ⟨rfl, _⟩ | ⟨rfl, _⟩ <;> rfl) (fun _ => .inr trivial) (by rw [ex, ey]; trivial) hr
    rw [ex, ey]; exact xcg (by rw [Op.equalIn]; simp [run_underlying hu])
  · rename_i el i o j p hu h1 h2
    rw [h1] at hx; rw [h2] at hy
    have ex : e x = _ := hx.2
    have ey : e y = _ := hy.2
    split at hz
    · rename_i k hk
      cases hij : Nat.beq i j with
      | false => simp only [hij, cond_false, reduceCtorEq] at hz
      | true =>
       have : i = j := Nat.eq_of_beq_eq_true hij
       subst this
       simp only [hij, cond_true, Option.some.injEq] at hz
       refine key b ?_ (fun w => by rw [ex, ey]; rcases hr with ⟨rfl, _⟩ | ⟨rfl, _⟩ <;> rfl) (fun _ => .inr trivial) (by rw [ex, ey]; trivial) hr
       rw [ex, ey]
       have : ((⟨ρ.blk i, ρ.base i + o, none⟩ : Addr) == ⟨ρ.blk i, ρ.base i + p, none⟩) = b := by
        rw [← hz, Bool.eq_iff_iff]; simp [Nat.beq_eq]
       exact xcg (by rw [Op.equalIn]; simp [run_underlying hu, xaT hk, sameAddr, this])
    simp at hz
  · rename_i el i o l c s x' a b' hu h1 h2
    rw [h1] at hx; rw [h2] at hy
    simp only [Option.some.injEq] at hz; subst hz
    obtain ⟨_, _, o, c, ex, _⟩ := hx
    have ey : e y = _ := hy.1
    refine key false ?_ (fun w => by rw [ex, ey]; rcases hr with ⟨rfl, _⟩ | ⟨rfl, _⟩ <;> rfl) (fun _ => .inr trivial) (by rw [ex, ey]; trivial) hr
    rw [ex, ey]; exact xcg (by rw [Op.equalIn]; simp [run_underlying hu])
  · rename_i el a b' i o l c s x' hu h1 h2
    rw [h1] at hx; rw [h2] at hy
    simp only [Option.some.injEq] at hz; subst hz
    obtain ⟨_, _, o, c, ey, _⟩ := hy
    have ex : e x = _ := hx.1
    refine key false ?_ (fun w => by rw [ex, ey]; rcases hr with ⟨rfl, _⟩ | ⟨rfl, _⟩ <;> rfl) (fun _ => .inr trivial) (by rw [ex, ey]; trivial) hr
    rw [ex, ey]; exact xcg (by rw [Op.equalIn]; simp [run_underlying hu])
  · rename_i ms tt c hu h1 h2
    rw [h1] at hx; rw [h2] at hy
    simp only [Option.some.injEq] at hz; subst hz
    obtain ⟨v, ex, _⟩ := hx
    have ey : e y = _ := hy.1
    refine key false ?_ (fun w => by rw [ex, ey]; rcases hr with ⟨rfl, _⟩ | ⟨rfl, _⟩ <;> rfl) (fun _ => .inr trivial) (by rw [ex, ey]; trivial) hr
    rw [ex, ey]; exact xcg (by rw [Op.equalIn]; simp [run_underlying hu])
  · rename_i ms tt c hu h1 h2
    rw [h1] at hx; rw [h2] at hy
    simp only [Option.some.injEq] at hz; subst hz
    obtain ⟨v, ey, _⟩ := hy
    have ex : e x = _ := hx.1
    refine key false ?_ (fun w => by rw [ex, ey]; rcases hr with ⟨rfl, _⟩ | ⟨rfl, _⟩ <;> rfl) (fun _ => .inr trivial) (by rw [ex, ey]; trivial) hr
    rw [ex, ey]; exact xcg (by rw [Op.equalIn]; simp [run_underlying hu])
  · rename_i a1 a2 a3 tt c hu h1 h2
    rw [h1] at hx; rw [h2] at hy
    simp only [Option.some.injEq] at hz; subst hz
    obtain ⟨_, _, _, _, _, _, ex⟩ := hx
    have ey : e y = _ := hy.1
    refine key false ?_ (fun w => by rw [ex, ey]; rcases hr with ⟨rfl, _⟩ | ⟨rfl, _⟩ <;> rfl) (fun _ => .inr trivial) (by rw [ex, ey]; trivial) hr
    rw [ex, ey]; exact xcg (by rw [Op.equalIn]; simp [run_underlying hu])
  · rename_i a1 a2 a3 tt c hu h1 h2
    rw [h1] at hx; rw [h2] at hy
    simp only [Option.some.injEq] at hz; subst hz
    obtain ⟨_, _, _, _, _, _, ex⟩ := hx
    have ey : e y = _ := hy.1
    refine key false ?_ (fun w => by rw [ex, ey]; rcases hr with ⟨rfl, _⟩ | ⟨rfl, _⟩ <;> rfl) (fun _ => .inr trivial) (by rw [ex, ey]; trivial) hr
    rw [ex, ey]; exact xcg (by rw [Op.equalIn]; simp [run_underlying hu])
  simp at hz
theorem q_iface {t : TypeId} {x : Operand} (h : xaQ P ev ⟨dst, .makeInterface t x, ty, pos, after, guard⟩ = some r) (he : EvOK ρ n ev e [x]) :
 xck P e ρ n ⟨dst, .makeInterface t x, ty, pos, after, guard⟩ r w := by
 simp only [xaQ] at h
 split at h
 · rename_i r' hr; simp only [Option.some.injEq] at h; subst h; exact xaY hr he w
 split at h
 · simp at h
 · rename_i d c hne hu hx
   simp only [Option.some.injEq] at h; subst h
   have hd := he x (by simp)
   rw [hx] at hd
   refine ⟨.iface t (e x), ?_, _, rfl, hd⟩
   cases d <;> first
    | (simp [execOp, Instr.makeInterface, run_underlying hu]; done)
    | (exact absurd hu (by intro hh; simp_all))
 simp at h
end
end
end Go.Proofs.YtbifklibdkjbeaaGreatDoor
