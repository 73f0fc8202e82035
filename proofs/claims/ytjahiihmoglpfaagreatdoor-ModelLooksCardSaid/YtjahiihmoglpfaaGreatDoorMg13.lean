/-
  Several texts in one: match's crew. (*crew).longest. The walk of (*crew).longest. Printed by mk_lon.py. Places in a slice; match.behind.
-/
import Derived.Test.YtjahiihmoglpfaaGreatDoorMg12
import Derived.Test.YtjahiihmoglpfaaGreatDoorMg5
import Derived.Deep.RegionWith
import Derived.Deep.RegionHeld3
import Derived.Handy
namespace Go.Proofs.YtjahiihmoglpfaaGreatDoor
open Go.RowKit
set_option linter.unusedVariables false
set_option linter.unusedSimpArgs false
set_option maxRecDepth 100000
structure TS where
 tb : Nat
 mb : Nat
 lv : Value
 L : List Nat
 M : Nat → Bool
 now : Nat
def TS.at (B n : Nat) (w : World) (t : TS) : Prop := Thr B w t.tb t.mb n t.lv t.L t.M t.now
def TS.inn (t : TS) (b : Nat) : Prop := inT t.tb t.mb t.lv b
structure Crew (B : Nat) (w : World) (c : Nat) (pv : Value) (tx : List UInt8) (is : List Ins) (a b : TS) : Prop where
 bk : w.heap[c]? = some (.cells #[pv, .string ⟨tx.toArray⟩, .pointer (some ⟨a.tb, 0, none⟩), .pointer (some ⟨b.tb, 0, none⟩)] 192 (0, 0))
 ta : a.at B is.length w
 tb : b.at B is.length w
 dis : ∀ x, a.inn x → ¬ b.inn x
 ca : ¬ a.inn c
 cb : ¬ b.inn c
 cB : B ≤ c
 pg : PgAt w (fun b => b < B) pv is
theorem Crew.ltc {B c : Nat} {w : World} {pv : Value} {tx : List UInt8} {is : List Ins} {a b : TS} (h : Crew B w c pv tx is a b) : c < w.heap.size := by
 rcases Nat.lt_or_ge c w.heap.size with h1 | h1
 · exact h1
 have := h.bk; rw [Array.getElem?_eq_none h1] at this; cases this
theorem Crew.keeps {S : Nat → Prop} {B c : Nat} {w w' : World} {pv : Value} {tx : List UInt8} {is : List Ins} {a b : TS} (h : Crew B w c pv tx is a b) (K : xaa S w w') (hS : ∀ x, S x → False) : Crew B w' c pv tx is a b :=
 ⟨by rw [K.block c h.ltc (fun e => hS _ e)]; exact h.bk, Thr.keeps h.ta K (fun _ _ e => hS _ e), Thr.keeps h.tb K (fun _ _ e => hS _ e), h.dis, h.ca, h.cb, h.cB, h.pg.keepsTo K (fun _ _ e => hS _ e) (fun _ h => h)⟩
structure xgS (B n : Nat) (w w' : World) (t t' : TS) : Prop where
 at' : t'.at B n w'
 tb : t'.tb = t.tb
 mb : t'.mb = t.mb
 row : t'.lv.ownBlock = t.lv.ownBlock ∨ ∃ g, t'.lv.ownBlock = some g ∧ w.heap.size ≤ g
 keep : xaa t.inn w w'
theorem xgS.inn {B n : Nat} {w w' : World} {t t' : TS} (h : xgS B n w w' t t') {x : Nat} (hx : t'.inn x) : t.inn x ∨ w.heap.size ≤ x := by
 rcases hx with e | e | e
 · exact Or.inl (Or.inl (by rw [e, h.tb]))
 · exact Or.inl (Or.inr (Or.inl (by rw [e, h.mb])))
 rcases h.row with h1 | ⟨g, h1, h2⟩
 · exact Or.inl (Or.inr (Or.inr (by rw [← h1]; exact e)))
 rw [h1] at e
 have := Option.some.inj e
 exact Or.inr (by omega)
theorem Crew.nextA {B c : Nat} {w w' : World} {pv : Value} {tx : List UInt8} {is : List Ins} {a b a' : TS} (h : Crew B w c pv tx is a b) (hn : xgS B is.length w w' a a') : Crew B w' c pv tx is a' b := by
 refine ⟨by rw [hn.keep.block c h.ltc h.ca, hn.tb]; exact h.bk, hn.at', Thr.keeps h.tb hn.keep (fun x hb ha => h.dis x ha hb), fun x ha hb => ?_, fun e => ?_, h.cb, h.cB, h.pg.keepsTo hn.keep (fun x hx ha => by have := (Thr.inlt h.ta ha).2; omega) (fun _ h => h)⟩
 · rcases hn.inn ha with h1 | h1
   · exact h.dis x h1 hb
   have := (Thr.inlt h.tb hb).1; omega
 rcases hn.inn e with h1 | h1
 · exact h.ca h1
 have := h.ltc; omega
theorem Crew.nextB {B c : Nat} {w w' : World} {pv : Value} {tx : List UInt8} {is : List Ins} {a b b' : TS} (h : Crew B w c pv tx is a b) (hn : xgS B is.length w w' b b') : Crew B w' c pv tx is a b' := by
 refine ⟨by rw [hn.keep.block c h.ltc h.cb, hn.tb]; exact h.bk, Thr.keeps h.ta hn.keep (fun x ha hb => h.dis x ha hb), hn.at', fun x ha hb => ?_, h.ca, fun e => ?_, h.cB, h.pg.keepsTo hn.keep (fun x hx hb => by have := (Thr.inlt h.tb hb).2; omega) (fun _ h => h)⟩
 · rcases hn.inn hb with h1 | h1
   · exact h.dis x ha h1
   have := (Thr.inlt h.ta ha).1; omega
 rcases hn.inn e with h1 | h1
 · exact h.cb h1
 have := h.ltc; omega
theorem Crew.swap {B c : Nat} {w : World} {pv : Value} {tx : List UInt8} {is : List Ins} {a b : TS} (h : Crew B w c pv tx is a b) :
 Crew B ((w.setCell ⟨c, 2, none⟩ (.pointer (some ⟨b.tb, 0, none⟩))).setCell ⟨c, 3, none⟩ (.pointer (some ⟨a.tb, 0, none⟩))) c pv tx is b a ∧ Crew B ((w.setCell ⟨c, 3, none⟩ (.pointer (some ⟨a.tb, 0, none⟩))).setCell ⟨c, 2, none⟩ (.pointer (some ⟨b.tb, 0, none⟩))) c pv tx is b a := by
 have k1 : ∀ (v u : Value) (i j : Nat), xaa (fun b => b = c) w ((w.setCell ⟨c, i, none⟩ v).setCell ⟨c, j, none⟩ u) := fun v u i j => ((xaa.refl (fun b => b = c) w).set (p := ⟨c, i, none⟩) rfl _).set (p := ⟨c, j, none⟩) rfl _
 have hbk := h.bk
 constructor
 · refine ⟨by simp [World.setCell, Array.getElem?_modify, hbk], Thr.keeps h.tb (k1 _ _ _ _) (fun x hx e => h.cb (e ▸ hx)), Thr.keeps h.ta (k1 _ _ _ _) (fun x hx e => h.ca (e ▸ hx)), fun x hb ha => h.dis x ha hb, h.cb, h.ca, h.cB, h.pg.keepsTo (k1 _ _ _ _) (fun x hx e => by have := h.cB; omega) (fun _ h => h)⟩
 refine ⟨by simp [World.setCell, Array.getElem?_modify, hbk], Thr.keeps h.tb (k1 _ _ _ _) (fun x hx e => h.cb (e ▸ hx)), Thr.keeps h.ta (k1 _ _ _ _) (fun x hx e => h.ca (e ▸ hx)), fun x hb ha => h.dis x ha hb, h.cb, h.ca, h.cB, h.pg.keepsTo (k1 _ _ _ _) (fun x hx e => by have := h.cB; omega) (fun _ h => h)⟩
theorem TS.clear {B n : Nat} {w : World} {t : TS} (h : t.at B n w) (hn : t.now ≤ 1000000000000) :
 Calls Tryz.prog 158 #[.pointer (some ⟨t.tb, 0, none⟩)] w fun e w' => e = .returned (.tuple #[]) ∧ ∃ t', xgS B n w w' t t' ∧ t'.L = [] ∧ t'.M = (fun _ => false) ∧ t'.now = t.now + 1 :=
 (xkL B t.tb t.mb n t.now w t.lv t.L t.M h hn).mono fun e w' ⟨h1, ⟨lv', h2, h3⟩, h4⟩ => ⟨h1, ⟨t.tb, t.mb, lv', [], fun _ => false, t.now + 1⟩, ⟨h2, rfl, rfl, Or.inl h3, h4.mono (fun b _ e => Or.inl e)⟩, rfl, rfl, rfl⟩
theorem TS.put {B c : Nat} {w : World} {pv : Value} {is : List Ins} {bg en : Bool} {t : TS} {i : Nat} {s' : List Nat × (Nat → Bool)} (h : t.at B is.length w) (hr : PtR is bg en i (t.L, t.M) s') (z : Nat) (tx : List UInt8) (hp : PgAt w (fun b => b < B) pv is) (hc : w.cell? ⟨c, 0, none⟩ = some pv) (hc9 : w.cell? ⟨c, 1, none⟩ = some (.string ⟨tx.toArray⟩)) (hbg : bg = decide (z = 0)) (hen : en = decide (z = tx.length)) (hcn : ¬ t.inn c) (hl : s'.1.length ≤ 4000) (his : is.length ≤ 4000) (hn : t.now ≤ 1000000000000) (htx : tx.length ≤ 100000) :
 Calls Tryz.prog 159 #[.pointer (some ⟨c, 0, none⟩), .pointer (some ⟨t.tb, 0, none⟩), .int .i64 i, .int .i64 z] w fun e w' => e = .returned (.tuple #[]) ∧ ∃ t', xgS B is.length w w' t t' ∧ t'.L = s'.1 ∧ t'.M = s'.2 ∧ t'.now = t.now :=
 (xki hr B c t.tb t.mb t.now z pv tx w t.lv h hp hc hc9 hbg hen hcn hl his hn htx).mono fun e w' ⟨h1, lv', h2, h3, h4⟩ => ⟨h1, ⟨t.tb, t.mb, lv', s'.1, s'.2, t.now⟩, ⟨h2, rfl, rfl, h4, h3⟩, rfl, rfl, rfl⟩
abbrev St := Int × List Nat × (Nat → Bool)
def xa7 (tx : List UInt8) (p : Nat) : Int × Nat :=
 match tx.drop p with
 | [] => (0, 0)
 | c :: t => getP (c :: t)
inductive xbo (is : List Ins) (r : Int) (n p ln : Nat) : List Nat → St → St → Prop
 | nil (e : St) : xbo is r n p ln [] e e
 | mt {i : Nat} {l : List Nat} {x : Ins} {s f : St} (hx : is[i]? = some x) (ho : x.op = 0) (h : xbo is r n p ln l ((p : Int), s.2) f) : xbo is r n p ln (i :: l) s f
 | hit {i : Nat} {l : List Nat} {x : Ins} {s f : St} {q : List Nat × (Nat → Bool)} (hx : is[i]? = some x) (ho : x.op = 1) (hn : 0 < n) (hh : has x.set r = true) (hp : PtR is (decide (p + n = 0)) (decide (p + n = ln)) x.x s.2 q) (h : xbo is r n p ln l (s.1, q) f) : xbo is r n p ln (i :: l) s f
 | miss {i : Nat} {l : List Nat} {x : Ins} {s f : St} (hx : is[i]? = some x) (ho : x.op = 1) (hn : n = 0 ∨ has x.set r = false) (h : xbo is r n p ln l s f) : xbo is r n p ln (i :: l) s f
inductive xdR (is : List Ins) (tx : List UInt8) : Nat → List Nat → Nat → Int → Int → Prop
 | stop {L : List Nat} {p : Nat} {e e' : Int} {M : Nat → Bool} (h : xbo is (xa7 tx p).1 (xa7 tx p).2 p tx.length L (e, [], fun _ => false) (e', [], M)) : xdR is tx 0 L p e e'
 | go {k : Nat} {L L' : List Nat} {p : Nat} {e e' res : Int} {M : Nat → Bool} (h : xbo is (xa7 tx p).1 (xa7 tx p).2 p tx.length L (e, [], fun _ => false) (e', L', M)) (hL : L' ≠ []) (hl : L'.length ≤ 4000) (hr : xdR is tx k L' (p + (xa7 tx p).2) e' res) : xdR is tx (k + 1) L p e res
theorem xbo.len {is : List Ins} {r : Int} {n p ln : Nat} {l : List Nat} {s f : St} (h : xbo is r n p ln l s f) : s.2.1.length ≤ f.2.1.length := by
 induction h with
 | nil => exact Nat.le_refl _
 | mt _ _ _ ih => exact ih
 | hit _ _ _ _ hp _ ih => exact Nat.le_trans hp.len ih
 | miss _ _ _ _ ih => exact ih
theorem xbo.range {is : List Ins} {r : Int} {n p ln : Nat} {l : List Nat} {s f : St} (h : xbo is r n p ln l s f) : p ≤ 1000000000000 → (-1 ≤ s.1 ∧ s.1 ≤ 1000000000000) → -1 ≤ f.1 ∧ f.1 ≤ 1000000000000 := by
 induction h with
 | nil => exact fun _ h => h
 | mt _ _ _ ih => exact fun hp _ => ih hp ⟨by omega, by omega⟩
 | hit _ _ _ _ _ _ ih => exact fun hp h => ih hp h
 | miss _ _ _ _ ih => exact fun hp h => ih hp h
theorem xbo.zero {is : List Ins} {r : Int} {n p ln : Nat} {l : List Nat} {s f : St} (h : xbo is r n p ln l s f) : n = 0 → f.2 = s.2 := by
 induction h with
 | nil => exact fun _ => rfl
 | mt _ _ _ ih => exact fun hn => ih hn
 | hit _ _ hn _ _ _ _ => exact fun h0 => by omega
 | miss _ _ _ _ ih => exact fun hn => ih hn
theorem xdR.open {is : List Ins} {tx : List UInt8} {k p : Nat} {L : List Nat} {e res : Int} (h : xdR is tx k L p e res) :
 ∃ fin : St, xbo is (xa7 tx p).1 (xa7 tx p).2 p tx.length L (e, [], fun _ => false) fin ∧ fin.2.1.length ≤ 4000 ∧ ((fin.2.1 = [] ∧ fin.1 = res) ∨ (fin.2.1 ≠ [] ∧ ∃ k', k = k' + 1 ∧ xdR is tx k' fin.2.1 (p + (xa7 tx p).2) fin.1 res)) := by
 cases h with
 | stop h => exact ⟨_, h, by simp, Or.inl ⟨rfl, rfl⟩⟩
 | go h hL hl hr => exact ⟨_, h, hl, Or.inr ⟨hL, _, rfl, hr⟩⟩
def xgT (is : List Ins) (tx : List UInt8) (p k : Nat) (e : Int) : Prop := ∃ s0 : List Nat × (Nat → Bool), PtR is (decide (p = 0)) (decide (p = tx.length)) 0 ([], fun _ => false) s0 ∧ s0.1.length ≤ 4000 ∧ xdR is tx k s0.1 p (-1) e
theorem xgj {tx : List UInt8} {p : Nat} (h : p ≤ tx.length) : p + (xa7 tx p).2 ≤ tx.length := by
 unfold xa7
 cases h1 : tx.drop p with
 | nil => simpa using h
 | cons c t =>
  have h2 := congrArg List.length h1
  have h3 := xet c t
  simp only [List.length_drop, List.length_cons] at h2
  simp only
  omega
theorem Crew.cells {B c : Nat} {w : World} {pv : Value} {tx : List UInt8} {is : List Ins} {a b : TS} (h : Crew B w c pv tx is a b) : w.cell? ⟨c, 0, none⟩ = some pv ∧ w.cell? ⟨c, 1, none⟩ = some (.string ⟨tx.toArray⟩) ∧ w.cell? ⟨c, 2, none⟩ = some (.pointer (some ⟨a.tb, 0, none⟩)) ∧ w.cell? ⟨c, 3, none⟩ = some (.pointer (some ⟨b.tb, 0, none⟩)) ∧ w.frozen? ⟨c, 2, none⟩ = false ∧ w.frozen? ⟨c, 3, none⟩ = false :=
 ⟨by rw [Lib.cell_of_heap h.bk]; rfl, by rw [Lib.cell_of_heap h.bk]; rfl, by rw [Lib.cell_of_heap h.bk]; rfl, by rw [Lib.cell_of_heap h.bk]; rfl, Lib.frozen_of_heap h.bk 2, Lib.frozen_of_heap h.bk 3⟩
theorem TS.cell {B n : Nat} {w : World} {t : TS} (h : t.at B n w) : w.cell? ⟨t.tb, 0, none⟩ = some t.lv := by rw [Lib.cell_of_heap (Thr.bk h)]; rfl
def inC (c : Nat) (a b : TS) (x : Nat) : Prop := x = c ∨ a.inn x ∨ b.inn x
structure Foot (w : World) (F : Nat → Prop) (W : World) (a b : TS) : Prop where
 keep : xaa F w W
 ina : ∀ x, x < w.heap.size → a.inn x → F x
 inb : ∀ x, x < w.heap.size → b.inn x → F x
theorem Foot.start (w : World) (c : Nat) (a b : TS) : Foot w (inC c a b) w a b := ⟨xaa.refl _ _, fun x _ h => Or.inr (Or.inl h), fun x _ h => Or.inr (Or.inr h)⟩
theorem Foot.nextA {w W W' : World} {F : Nat → Prop} {a b a' : TS} {B n : Nat} (h : Foot w F W a b) (hn : xgS B n W W' a a') : Foot w F W' a' b :=
 ⟨h.keep.trans2 hn.keep h.ina, fun x hx hi => by
  rcases hn.inn hi with h1 | h1
  · exact h.ina x hx h1
  have := h.keep.size; omega, h.inb⟩
theorem Foot.nextB {w W W' : World} {F : Nat → Prop} {a b b' : TS} {B n : Nat} (h : Foot w F W a b) (hn : xgS B n W W' b b') : Foot w F W' a b' :=
 ⟨h.keep.trans2 hn.keep h.inb, h.ina, fun x hx hi => by
  rcases hn.inn hi with h1 | h1
  · exact h.inb x hx h1
  have := h.keep.size; omega⟩
theorem Foot.keeps {w W W' : World} {F : Nat → Prop} {a b : TS} (h : Foot w F W a b) (K : xaa (fun _ => False) W W') : Foot w F W' a b :=
 ⟨h.keep.trans2 K (fun _ _ e => e.elim), h.ina, h.inb⟩
def InnR (B c : Nat) (F : Nat → Prop) (pv : Value) (tx : List UInt8) (is : List Ins) (a b0 : TS) (r : Int) (n p : Nat) (fin : St) (w0 : World) (kv ev : Value) (wr : World) : Prop :=
 ∃ (k : Nat) (e : Int) (b : TS), kv = .int .i64 k ∧ k ≤ a.L.length ∧ ev = .int .i64 e ∧ (-1 ≤ e ∧ e ≤ 1000000000000) ∧ Crew B wr c pv tx is a b ∧ b.now = b0.now ∧ xbo is r n p tx.length (a.L.drop k) (e, b.L, b.M) fin ∧ Foot w0 F wr a b
def LoR (B c N : Nat) (F : Nat → Prop) (pv : Value) (tx : List UInt8) (is : List Ins) (res : Int) (w0 : World) (av ev : Value) (wr : World) : Prop :=
 ∃ (k p : Nat) (e : Int) (a b : TS), av = .int .i64 p ∧ p ≤ tx.length ∧ ev = .int .i64 e ∧ (-1 ≤ e ∧ e ≤ 1000000000000) ∧ Crew B wr c pv tx is a b ∧ a.now + k ≤ N ∧ b.now + k < N ∧ a.L.length ≤ 4000 ∧ xdR is tx k a.L p e res ∧ Foot w0 F wr a b
theorem xcN {tx : List UInt8} {p : Nat} (h : tx.length ≤ p) : xa7 tx p = (0, 0) := by
 unfold xa7; rw [List.drop_eq_nil_of_le h]
theorem xef {tx : List UInt8} {p : Nat} {c : UInt8} {t : List UInt8} (h : tx.drop p = c :: t) : xa7 tx p = getP (c :: t) := by
 unfold xa7; rw [h]
theorem xgt (tx : List UInt8) (p : Nat) (w : World) (h : p < tx.length) (hl : tx.length ≤ 100000) :
 Calls Tryz.prog 120 #[.string ⟨tx.toArray⟩, .int .i64 p] w fun e w' => e = .returned (.tuple #[.int .i64 (xa7 tx p).1, .int .i64 ((xa7 tx p).2 : Nat)]) ∧ xaa (fun _ => False) w w' := by
 cases h1 : tx.drop p with
 | nil => have := congrArg List.length h1; simp at this; omega
 | cons c t => rw [xef h1]; exact xe6 tx p c t w h1 hl
set_option maxHeartbeats 16000000 in
theorem xhr (B c N : Nat) (pv : Value) (tx : List UInt8) (is : List Ins) (a0 b0 : TS) (p0 k0 : Nat) (res : Int) (w : World) (hC : Crew B w c pv tx is a0 b0) (hst : xgT is tx p0 k0 res)
 (hpt : p0 ≤ tx.length) (htx : tx.length ≤ 4000) (his : is.length ≤ 4000) (hN : N ≤ 1000000000000) (ha : a0.now + 1 + k0 ≤ N) (hb : b0.now + k0 < N) :
 Calls Tryz.prog 121 #[.pointer (some ⟨c, 0, none⟩), .int .i64 p0] w fun e w' => e = .returned (.int .i64 res) ∧ (∃ a' b', Crew B w' c pv tx is a' b' ∧ a'.now ≤ N ∧ b'.now ≤ N ∧ Foot w (inC c a0 b0) w' a' b') := by
 obtain ⟨s0, hp, hs0, hr⟩ := hst
 obtain ⟨F, hF0⟩ : ∃ F, F = inC c a0 b0 := ⟨_, rfl⟩
 have F0 : Hid (Foot w F w a0 b0) := xmA (by rw [hF0]; exact Foot.start w c a0 b0)
 have hFc : F c := by rw [hF0]; exact Or.inl rfl
 rw [← hF0]
 clear hF0
 obtain ⟨c0, c1, c2, c3, f2, f3⟩ := hC.cells
 have HC := xmA hC
 have HR := xmA hr
 have HPt := xmA (fun W (h : p0 < tx.length) => xgt tx p0 W h (by omega))
 clear hC hr
 go_enter Tryz.func121, Tryz.ntmps121
 go_wp2_with fail
 refine (TS.clear HC.out.ta (by omega)).mono ?_
 rintro e w1 ⟨rfl, a1, hn1, hL1, hM1, hnow1⟩
 have hC1 := HC.out.nextA hn1
 have K1 := xmA (F0.out.nextA hn1)
 clear c0 c1 c2 c3 f2 f3
 obtain ⟨c0, c1, c2, c3, f2, f3⟩ := hC1.cells
 have HC1 := xmA hC1
 clear hn1 hC1
 go_wp2_with fail
 refine (TS.put (i := 0) (s' := s0) HC1.out.ta (by rw [hL1, hM1]; exact hp) p0 tx HC1.out.pg c0 c1 rfl rfl HC1.out.ca hs0 his (by omega) (by omega)).mono ?_
 rintro e w2 ⟨rfl, a2, hn2, hL2, hM2, hnow2⟩
 have hC2 := HC1.out.nextA hn2
 have K2 := xmA (K1.out.nextA hn2)
 have HC2 := xmA hC2
 clear hn2 hC2 c0 c1 c2 c3 f2 f3
 go_wp2_with fail
 go_loopw [1, 5] (fun av ev wr => LoR B c N F pv tx is res w av ev wr) (fun av _ _ => tx.length - (intOf av).toNat)
 case atStart => exact ⟨k0, p0, -1, a2, b0, rfl, hpt, rfl, ⟨by omega, by omega⟩, HC2.out, by omega, hb, by rw [hL2]; exact hs0, by rw [hL2]; exact HR.out, K2.out⟩
 case round =>
  clear HPt HR HC HC1 HC2 K1 K2 hL1 hM1 hL2 hM2 hnow1 hnow2 hp hs0
  obtain ⟨k, p, e, a, b, rfl, hpt, rfl, he, hC, hna, hnb, hal, hL, hk⟩ := hrel
  obtain ⟨fin, hF, hfl, hfin⟩ := hL.open
  have hpn := xgj hpt
  have HPt := xmA (fun W (h : p < tx.length) => xgt tx p W h (by omega))
  have HP0 := xmA (fun (h : tx.length ≤ p) => xcN h)
  obtain ⟨pp, hpp⟩ : ∃ q, xa7 tx p = q := ⟨_, rfl⟩
  rw [hpp] at hF hfin hpn
  have HPP := xmA hpp
  obtain ⟨r, n⟩ := pp
  simp only at hF hfin hpn
  have HF := xmA hF
  have HFin := xmA hfin
  have HK := xmA hk
  have hse := hF.range (by omega) he
  have hz0 := hF.zero
  have HZ0 := xmA hz0
  clear hF hfin hk hpp hL hz0
  obtain ⟨c0, c1, c2, c3, f2, f3⟩ := hC.cells
  have HC := xmA hC
  clear hC
  by_cases hpl : p < tx.length
  · have HPx := xmA (fun W => HPt.out W hpl)
    rw [HPP.out] at HPx
    simp only at HPx
    clear HPt HP0
    go_wp2_with fail
    refine (HPx.out _).mono ?_
    rintro e9 w2 ⟨rfl, k2⟩
    have hC2 := HC.out.keeps k2 (fun _ => id)
    have KQ := xmA (HK.out.keeps k2)
    clear c0 c1 c2 c3 f2 f3
    obtain ⟨c0, c1, c2, c3, f2, f3⟩ := hC2.cells
    have HCQ := xmA hC2
    clear k2 hC2
    go_wp2_with fail
    refine (TS.clear HCQ.out.tb (by omega)).mono ?_
    rintro e9 w3 ⟨rfl, b1, hn1, hL1, hM1, hnow1⟩
    have hC3 := HCQ.out.nextB hn1
    have K3 := xmA (KQ.out.nextB hn1)
    clear c0 c1 c2 c3 f2 f3
    obtain ⟨c0, c1, c2, c3, f2, f3⟩ := hC3.cells
    obtain ⟨la, lc, hla⟩ := xad (Thr.own hC3.ta)
    have t0 := TS.cell hC3.ta
    rw [hla] at t0
    have HC3 := xmA hC3
    have HLA := xmA hla
    clear hn1 hC3 hla
    go_wp2_with fail
    go_loopw [52, 5] (fun kv ev wr => InnR B c F pv tx is a b1 r n p fin w kv ev wr) (fun kv _ _ => a.L.length - (intOf kv).toNat)
    case atStart => exact ⟨0, e, b1, rfl, Nat.zero_le _, rfl, he, HC3.out, rfl, by rw [hL1, hM1]; exact HF.out, K3.out⟩
    case round =>
     clear c0 c1 c2 c3 f2 f3 t0
     obtain ⟨j, e2, b2, rfl, hj, rfl, he2, hC, hbn, hF, hk⟩ := hrel
     have HC := xmA hC
     have K4 := xmA hk
     obtain ⟨c0, c1, c2, c3, f2, f3⟩ := hC.cells
     by_cases hjl : j < a.L.length
     · obtain ⟨i, hi⟩ : ∃ i, a.L[j]? = some i := ⟨_, List.getElem?_eq_getElem hjl⟩
       have hdr : a.L.drop j = i :: a.L.drop (j + 1) := by
        obtain ⟨h1, h2⟩ := List.getElem?_eq_some_iff.1 hi
        rw [List.drop_eq_getElem_cons h1, h2]
       rw [hdr] at hF
       have hown := Thr.own hC.ta
       obtain ⟨g, gc, hgv, hg1, hg2⟩ := hown.form (by omega)
       rw [HLA.out] at hgv
       obtain ⟨rfl, _, rfl⟩ := Value.slice.inj hgv
       have hLc : wr.cell? ⟨g, j, none⟩ = some (.int .i64 (i : Int)) := by
        rw [HLA.out] at hown
        rw [hown.cellAt j (by omega), List.getElem?_map, hi]; rfl
       have hgl : g < wr.heap.size := hg2
       have HFx := xmA hF
       clear hF hC hk hdr hi hown hgv
       obtain ⟨x, hx, hcases⟩ : ∃ x, is[i]? = some x ∧ ((x.op = 0 ∧ xbo is r n p tx.length (a.L.drop (j + 1)) ((p : Int), (b2.L, b2.M)) fin) ∨ (x.op = 1 ∧ 0 < n ∧ has x.set r = true ∧ ∃ q, PtR is (decide (p + n = 0)) (decide (p + n = tx.length)) x.x (b2.L, b2.M) q ∧ xbo is r n p tx.length (a.L.drop (j + 1)) (e2, q) fin) ∨ (x.op = 1 ∧ (n = 0 ∨ has x.set r = false) ∧ xbo is r n p tx.length (a.L.drop (j + 1)) (e2, (b2.L, b2.M)) fin)) := by
        have h := HFx.out
        cases h with
        | mt hx ho h => exact ⟨_, hx, Or.inl ⟨ho, h⟩⟩
        | hit hx ho hn hh hp h => exact ⟨_, hx, Or.inr (Or.inl ⟨ho, hn, hh, _, hp, h⟩)⟩
        | miss hx ho hn h => exact ⟨_, hx, Or.inr (Or.inr ⟨ho, hn, h⟩)⟩
       have hil := (List.getElem?_eq_some_iff.1 hx).1
       obtain ⟨pb, off, cp, sa, sc, hpv, hb9, hset, _, _, z0, z1, z2, z3⟩ := HC.out.pg.at hx
       rw [hpv] at c0
       obtain ⟨op, set, xx, yy⟩ := x
       simp only at hcases z0 z1 z2 z3 hset
       have hcl : c < wr.heap.size := HC.out.ltc
       have HSet := xmA hset
       clear hset HFx hx
       rcases hcases with ⟨rfl, hF2⟩ | ⟨rfl, hn0, hh, q, hq, hF2⟩ | ⟨rfl, hmis, hF2⟩
       · have HF2 := xmA hF2
         have ka : xaa (fun _ => False) wr (wr.alloc (.cells #[.int .i64 0, .slice sa set.length sc, .int .i64 xx, .int .i64 yy] 130)) := (xaa.refl _ _).alloc _
         have HCa := xmA (HC.out.keeps ka (fun _ => id))
         have KA := xmA (K4.out.keeps ka)
         clear hF2 ka
         go_wp2_with fail
         go_roundw
         case rel => exact ⟨j + 1, p, b2, by go_num, by omega, rfl, ⟨by omega, by omega⟩, HCa.out, hbn, HF2.out, KA.out⟩
         case measure => simp [intOf]; omega
       · have HF2 := xmA hF2
         have hql : q.1.length ≤ 4000 := Nat.le_trans hF2.len hfl
         have gn : decide ((0 : Int) < (n : Int)) = true := by simp; omega
         have ka : xaa (fun _ => False) wr (wr.alloc (.cells #[.int .i64 1, .slice sa set.length sc, .int .i64 xx, .int .i64 yy] 130)) := (xaa.refl _ _).alloc _
         have HCa := xmA (HC.out.keeps ka (fun _ => id))
         have KA := xmA (K4.out.keeps ka)
         have HHas := xmA (xhx set _ r _ (HSet.out.keeps ka (fun _ _ => id)))
         rw [hh] at HHas
         have y2 : (wr.alloc (.cells #[.int .i64 1, .slice sa set.length sc, .int .i64 xx, .int .i64 yy] 130)).cell? ⟨wr.heap.size, 2, none⟩ = some (.int .i64 xx) := by simp [go_sem]
         have Y2 := xmA y2
         have HQ := xmA hq
         clear hF2 ka y2 hq
         go_wp2_with fail
         refine HHas.out.mono ?_
         rintro e9 w5 ⟨rfl, k5⟩
         have hC5 := HCa.out.keeps k5 (fun _ => id)
         have q2 := k5.cell Y2.out id
         clear c0 c1 c2 c3 f2 f3
         obtain ⟨c0, c1, c2, c3, f2, f3⟩ := hC5.cells
         have HC5 := xmA hC5
         have K5 := xmA (KA.out.keeps k5)
         have k5d : xaa (fun _ => False) w5 w5.drew := (xaa.refl _ _).drew
         have HPu := xmA (TS.put (i := xx) (s' := q) (Thr.keeps HC5.out.tb k5d (fun _ _ => id)) HQ.out (p + n) tx (HC5.out.pg.keepsTo (Q := fun b => b < B) k5d (fun _ _ => id) (fun _ h => h)) (k5d.cell c0 id) (k5d.cell c1 id) rfl rfl HC5.out.cb hql his (by omega) (by omega))
         rw [Int.natCast_add] at HPu
         have hww : IntKind.i64.wrap ((p : Int) + (n : Int)) = (p : Int) + (n : Int) := IntWalk.i64_in _ (by omega)
         clear hC5 k5
         go_wp2_with fail
         have c3d : w5.drew.cell? ⟨c, 3, none⟩ = some (.pointer (some ⟨b2.tb, 0, none⟩)) := c3
         have q2d : w5.drew.cell? ⟨wr.heap.size, 2, none⟩ = some (.int .i64 xx) := q2
         have hfi : ¬ b2.inn wr.heap.size := fun h => by have := (Thr.inlt HC.out.tb h).1; omega
         go_region_held3 (fun w' => w'.cell? ⟨c, 3, none⟩ = some (.pointer (some ⟨b2.tb, 0, none⟩)) ∧ w'.cell? ⟨wr.heap.size, 2, none⟩ = some (.int .i64 xx)) (first | exact ⟨c3d, q2d⟩ | exact ⟨c3n, q2n⟩) (first | (go_at_call 159; refine HPu.out.mono ?_; rintro e9 w6 ⟨rfl, b3, hn3, hL3, hM3, hnow3⟩; have c3n := hn3.keep.cell c3d HC5.out.cb; have q2n := hn3.keep.cell q2d hfi))
         all_goals
          have hC6 := (HC5.out.keeps k5d (fun _ => id)).nextB hn3
          have HC6 := xmA hC6
          have K6 := xmA ((K5.out.keeps k5d).nextB hn3)
          clear hC6 hn3
          go_wp2_with fail
          go_roundw
          case rel => exact ⟨j + 1, e2, b3, by go_num, by omega, rfl, he2, HC6.out, by rw [hnow3]; exact hbn, by rw [hL3, hM3]; exact HF2.out, K6.out⟩
          case measure => simp [intOf]; omega
       have HF2 := xmA hF2
       have ka : xaa (fun _ => False) wr (wr.alloc (.cells #[.int .i64 1, .slice sa set.length sc, .int .i64 xx, .int .i64 yy] 130)) := (xaa.refl _ _).alloc _
       have HCa := xmA (HC.out.keeps ka (fun _ => id))
       have KA := xmA (K4.out.keeps ka)
       have HHas := xmA (xhx set _ r _ (HSet.out.keeps ka (fun _ _ => id)))
       clear hF2 ka
       by_cases hn0 : n = 0
       · subst hn0
         clear HHas hmis
         go_wp2_with fail
         go_roundw
         case rel => exact ⟨j + 1, e2, b2, by go_num, by omega, rfl, he2, HCa.out, hbn, HF2.out, KA.out⟩
         case measure => simp [intOf]; omega
       have hh : has set r = false := by rcases hmis with h | h; exact absurd h hn0; exact h
       rw [hh] at HHas
       have gn : decide ((0 : Int) < (n : Int)) = true := by simp; omega
       clear hmis hh
       go_wp2_with fail
       refine HHas.out.mono ?_
       rintro e9 w5 ⟨rfl, k5⟩
       have HC5 := xmA (HCa.out.keeps k5 (fun _ => id))
       have K5 := xmA (KA.out.keeps k5)
       clear k5
       go_wp2_with fail
       go_roundw
       case rel => exact ⟨j + 1, e2, b2, by go_num, by omega, rfl, he2, HC5.out, hbn, HF2.out, K5.out⟩
       case measure => simp [intOf]; omega
     have hje : j = a.L.length := by omega
     subst hje
     rw [List.drop_length] at hF
     obtain rfl : fin = (e2, b2.L, b2.M) := by cases hF; rfl
     obtain ⟨lb, lbc, hlb⟩ := xad (Thr.own hC.tb)
     have t1 := TS.cell hC.tb
     rw [hlb] at t1
     clear hF hC hk hlb
     have KE := K4
     rcases HFin.out with ⟨h1, h2⟩ | ⟨h1, k', rfl, h3⟩
     · simp only at h1 h2
       rw [h1] at t1
       subst h2
       have HE : Hid (∃ a' b', Crew B wr c pv tx is a' b' ∧ a'.now ≤ N ∧ b'.now ≤ N ∧ Foot w F wr a' b') := xmA ⟨a, b2, HC.out, by omega, by omega, KE.out⟩
       clear h1 HFin
       go_wp2_with fail
       go_ret
       exact ⟨rfl, HE.out⟩
     simp only at h1 h3
     have gl : ((b2.L.length : Int) == 0) = false := beq_eq_false_iff_ne.2 (by have := List.length_pos_iff.2 h1; omega)
     have hn0 : 0 < n := by
      rcases Nat.eq_zero_or_pos n with h | h
      · have := HZ0.out h
        exact absurd (congrArg Prod.fst this) h1
      exact h
     have HLo := xmA h3
     obtain ⟨s1, s2⟩ := HC.out.swap
     have S1 := xmA s1
     have S2 := xmA s2
     have hcB := HC.out.cB
     have hab : a.tb ≠ c := fun e => HC.out.ca (Or.inl e.symm)
     clear h1 h3 HFin s1 s2
     go_wp2_with fail
     go_region
     all_goals
      go_wp2_with fail
      go_roundw
      case rel => exact ⟨k', p + n, e2, b2, a, by go_num, by omega, rfl, he2, by first | exact S1.out.keeps (xaa.refl (fun _ => False) _).drew (fun _ => id) | exact S2.out.keeps (xaa.refl (fun _ => False) _).drew (fun _ => id), by omega, by omega, hfl, HLo.out, by first | exact ⟨((KE.out.keep.set (p := ⟨c, 2, none⟩) hFc _).set (p := ⟨c, 3, none⟩) hFc _).drew, KE.out.inb, KE.out.ina⟩ | exact ⟨((KE.out.keep.set (p := ⟨c, 3, none⟩) hFc _).set (p := ⟨c, 2, none⟩) hFc _).drew, KE.out.inb, KE.out.ina⟩⟩
      case measure => simp [intOf]; omega
  have h00 := HP0.out (by omega)
  have h01 := HPP.out
  rw [h00] at h01
  obtain ⟨rfl, rfl⟩ : r = 0 ∧ n = 0 := ⟨(congrArg Prod.fst h01).symm, (congrArg Prod.snd h01).symm⟩
  clear HPt HP0 h00 h01
  go_wp2_with fail
  refine (TS.clear HC.out.tb (by omega)).mono ?_
  rintro e9 w3 ⟨rfl, b1, hn1, hL1, hM1, hnow1⟩
  have hC3 := HC.out.nextB hn1
  have K3 := xmA (HK.out.nextB hn1)
  clear c0 c1 c2 c3 f2 f3
  obtain ⟨c0, c1, c2, c3, f2, f3⟩ := hC3.cells
  obtain ⟨la, lc, hla⟩ := xad (Thr.own hC3.ta)
  have t0 := TS.cell hC3.ta
  rw [hla] at t0
  have HC3 := xmA hC3
  have HLA := xmA hla
  clear hn1 hC3 hla
  go_wp2_with fail
  go_loopw [52, 5] (fun kv ev wr => InnR B c F pv tx is a b1 0 0 p fin w kv ev wr) (fun kv _ _ => a.L.length - (intOf kv).toNat)
  case atStart => exact ⟨0, e, b1, rfl, Nat.zero_le _, rfl, he, HC3.out, rfl, by rw [hL1, hM1]; exact HF.out, K3.out⟩
  case round =>
   clear c0 c1 c2 c3 f2 f3 t0
   obtain ⟨j, e2, b2, rfl, hj, rfl, he2, hC, hbn, hF, hk⟩ := hrel
   have HC := xmA hC
   have K4 := xmA hk
   obtain ⟨c0, c1, c2, c3, f2, f3⟩ := hC.cells
   by_cases hjl : j < a.L.length
   · obtain ⟨i, hi⟩ : ∃ i, a.L[j]? = some i := ⟨_, List.getElem?_eq_getElem hjl⟩
     have hdr : a.L.drop j = i :: a.L.drop (j + 1) := by
      obtain ⟨h1, h2⟩ := List.getElem?_eq_some_iff.1 hi
      rw [List.drop_eq_getElem_cons h1, h2]
     rw [hdr] at hF
     have hown := Thr.own hC.ta
     obtain ⟨g, gc, hgv, hg1, hg2⟩ := hown.form (by omega)
     rw [HLA.out] at hgv
     obtain ⟨rfl, _, rfl⟩ := Value.slice.inj hgv
     have hLc : wr.cell? ⟨g, j, none⟩ = some (.int .i64 (i : Int)) := by
      rw [HLA.out] at hown
      rw [hown.cellAt j (by omega), List.getElem?_map, hi]; rfl
     have hgl : g < wr.heap.size := hg2
     have HFx := xmA hF
     clear hF hC hk hdr hi hown hgv
     obtain ⟨x, hx, hcases⟩ : ∃ x, is[i]? = some x ∧ ((x.op = 0 ∧ xbo is 0 0 p tx.length (a.L.drop (j + 1)) ((p : Int), (b2.L, b2.M)) fin) ∨ (x.op = 1 ∧ 0 < 0 ∧ has x.set 0 = true ∧ ∃ q, PtR is (decide (p + 0 = 0)) (decide (p + 0 = tx.length)) x.x (b2.L, b2.M) q ∧ xbo is 0 0 p tx.length (a.L.drop (j + 1)) (e2, q) fin) ∨ (x.op = 1 ∧ (0 = 0 ∨ has x.set 0 = false) ∧ xbo is 0 0 p tx.length (a.L.drop (j + 1)) (e2, (b2.L, b2.M)) fin)) := by
      have h := HFx.out
      cases h with
      | mt hx ho h => exact ⟨_, hx, Or.inl ⟨ho, h⟩⟩
      | hit hx ho hn hh hp h => exact ⟨_, hx, Or.inr (Or.inl ⟨ho, hn, hh, _, hp, h⟩)⟩
      | miss hx ho hn h => exact ⟨_, hx, Or.inr (Or.inr ⟨ho, hn, h⟩)⟩
     have hil := (List.getElem?_eq_some_iff.1 hx).1
     obtain ⟨pb, off, cp, sa, sc, hpv, hb9, hset, _, _, z0, z1, z2, z3⟩ := HC.out.pg.at hx
     rw [hpv] at c0
     obtain ⟨op, set, xx, yy⟩ := x
     simp only at hcases z0 z1 z2 z3 hset
     have hcl : c < wr.heap.size := HC.out.ltc
     have HSet := xmA hset
     clear hset HFx hx
     rcases hcases with ⟨rfl, hF2⟩ | ⟨rfl, hn0, hh, q, hq, hF2⟩ | ⟨rfl, hmis, hF2⟩
     · have HF2 := xmA hF2
       have ka : xaa (fun _ => False) wr (wr.alloc (.cells #[.int .i64 0, .slice sa set.length sc, .int .i64 xx, .int .i64 yy] 130)) := (xaa.refl _ _).alloc _
       have HCa := xmA (HC.out.keeps ka (fun _ => id))
       have KA := xmA (K4.out.keeps ka)
       clear hF2 ka
       go_wp2_with fail
       go_roundw
       case rel => exact ⟨j + 1, p, b2, by go_num, by omega, rfl, ⟨by omega, by omega⟩, HCa.out, hbn, HF2.out, KA.out⟩
       case measure => simp [intOf]; omega
     · exact absurd hn0 (by omega)
     have HF2 := xmA hF2
     have ka : xaa (fun _ => False) wr (wr.alloc (.cells #[.int .i64 1, .slice sa set.length sc, .int .i64 xx, .int .i64 yy] 130)) := (xaa.refl _ _).alloc _
     have HCa := xmA (HC.out.keeps ka (fun _ => id))
     have KA := xmA (K4.out.keeps ka)
     have HHas := xmA (xhx set _ 0 _ (HSet.out.keeps ka (fun _ _ => id)))
     clear hF2 ka
     clear HHas hmis
     go_wp2_with fail
     go_roundw
     case rel => exact ⟨j + 1, e2, b2, by go_num, by omega, rfl, he2, HCa.out, hbn, HF2.out, KA.out⟩
     case measure => simp [intOf]; omega
   have hje : j = a.L.length := by omega
   subst hje
   rw [List.drop_length] at hF
   obtain rfl : fin = (e2, b2.L, b2.M) := by cases hF; rfl
   obtain ⟨lb, lbc, hlb⟩ := xad (Thr.own hC.tb)
   have t1 := TS.cell hC.tb
   rw [hlb] at t1
   clear hF hC hk hlb
   have KE := K4
   rcases HFin.out with ⟨h1, h2⟩ | ⟨h1, k', rfl, h3⟩
   · simp only at h1 h2
     rw [h1] at t1
     subst h2
     have HE : Hid (∃ a' b', Crew B wr c pv tx is a' b' ∧ a'.now ≤ N ∧ b'.now ≤ N ∧ Foot w F wr a' b') := xmA ⟨a, b2, HC.out, by omega, by omega, KE.out⟩
     clear h1 HFin
     go_wp2_with fail
     go_ret
     exact ⟨rfl, HE.out⟩
   exact absurd (congrArg Prod.fst (HZ0.out (by trivial))) h1
def NS (X : Nat) (w : World) (v : Value) (l : List Nat) : Prop :=
 ∃ a cap, v = .slice a l.length cap ∧ l.length ≤ cap ∧ (l ≠ [] → ∃ off, a = some ⟨X, off, none⟩ ∧ ∀ (i x : Nat), l[i]? = some x → w.cell? ⟨X, off + i, none⟩ = some (.int .i64 (x : Int)))
theorem NS.keeps {X : Nat} {S : Nat → Prop} {w w' : World} {v : Value} {l : List Nat} (h : NS X w v l) (K : xaa S w w') (hX : ¬ S X) : NS X w' v l := by
 obtain ⟨a, cap, rfl, h1, h2⟩ := h
 exact ⟨a, cap, rfl, h1, fun h0 => by
  obtain ⟨off, rfl, h3⟩ := h2 h0
  exact ⟨off, rfl, fun i x hx => K.cell (h3 i x hx) hX⟩⟩
theorem NS.ofOwn {base : Nat} {w : World} {v : Value} {l : List Nat} (h : w.ownsRow base 3 1 v l.length (l.map fun n : Nat => Value.int .i64 (n : Int))) : ∃ X, NS X w v l ∧ (l ≠ [] → base ≤ X ∧ X < w.heap.size) := by
 rcases h.2 with ⟨rfl, h0⟩ | ⟨g, cap, cur, rfl, hg, hb, hn, _⟩
 · have : l = [] := List.length_eq_zero_iff.1 h0
   subst this
   exact ⟨0, ⟨none, 0, rfl, Nat.le_refl _, fun h => absurd rfl h⟩, fun h => absurd rfl h⟩
 exact ⟨g, ⟨_, cap, rfl, hn, fun _ => ⟨0, rfl, fun i x hx => by
  have hil := (List.getElem?_eq_some_iff.1 hx).1
  rw [Nat.zero_add, h.cellAt i (by omega), List.getElem?_map, hx]; rfl⟩⟩, fun _ => ⟨hg, xax h g rfl⟩⟩
theorem NS.tail {X o' n cap off : Nat} {w : World} {x : Nat} {l : List Nat} (hn : n = l.length + 1) (hc : n ≤ cap) (h : ∀ (i y : Nat), (x :: l)[i]? = some y → w.cell? ⟨X, off + i, none⟩ = some (.int .i64 (y : Int))) (ho : 1 < cap → o' = off + 1) : NS X w (.slice (some ⟨X, o', none⟩) (n - 1) (cap - 1)) l := by
 refine ⟨_, cap - 1, by rw [hn]; rfl, by omega, fun h0 => ⟨o', rfl, fun i y hy => ?_⟩⟩
 have hl : 0 < l.length := List.length_pos_iff.2 h0
 rw [ho (by omega)]
 have := h (i + 1) y (by simpa using hy)
 rwa [show off + (i + 1) = off + 1 + i by omega] at this
def BeR (X : Nat) (l : List Nat) (from' : Nat) (w : World) (v : Value) (wr : World) : Prop := ∃ l', NS X w v l' ∧ l'.length ≤ l.length ∧ l'.dropWhile (fun p => decide (p < from')) = l.dropWhile (fun p => decide (p < from')) ∧ w = wr
set_option maxHeartbeats 2000000 in
theorem xjo (X : Nat) (l : List Nat) (from' : Nat) (v : Value) (w : World) (h : NS X w v l) (hl : l.length ≤ 100000) :
 Calls Tryz.prog 81 #[v, .int .i64 from'] w fun e w' => (∃ v', e = .returned v' ∧ NS X w v' (l.dropWhile (fun p => decide (p < from')))) ∧ w = w' := by
 have H := xmA h
 obtain ⟨a0, cap0, rfl, hcap0, hcc0⟩ := h
 clear hcc0
 go_enter Tryz.func81, Tryz.ntmps81
 go_wp2_with fail
 go_loopw [0] (fun v wr => BeR X l from' w v wr) (fun v _ => xaR v)
 case atStart => exact ⟨l, H.out, Nat.le_refl _, rfl, rfl⟩
 case round =>
  obtain ⟨l', hN, hl', hd, rfl⟩ := hrel
  have HN := xmA hN
  have HD := xmA hd
  obtain ⟨a, cap, rfl, hcap, hcell⟩ := hN
  clear hd
  cases l' with
  | nil =>
   clear hcell
   go_wp2_with fail
   go_ret
   exact ⟨⟨_, rfl, by rw [← HD.out]; exact HN.out⟩, rfl⟩
  | cons x t =>
   obtain ⟨off, rfl, hcc⟩ := hcell (by simp)
   have c0 : w.cell? ⟨X, off, none⟩ = some (.int .i64 (x : Int)) := hcc 0 x rfl
   have HC := xmA hcc
   simp only [List.length_cons] at hcap hl'
   clear hcc hcell
   by_cases hx : x < from'
   · have g : decide ((x : Int) < (from' : Int)) = true := by simp; omega
     have HD2 : Hid (t.dropWhile (fun p => decide (p < from')) = l.dropWhile (fun p => decide (p < from'))) := xmA (by rw [← HD.out, List.dropWhile_cons_of_pos (by simpa using hx)])
     by_cases hc1 : cap = 1
     · subst hc1
       obtain rfl : t = [] := List.length_eq_zero_iff.1 (by omega)
       go_wp2_with fail
       go_roundw
       case rel => exact ⟨[], ⟨_, _, rfl, Nat.le_refl _, fun h => absurd rfl h⟩, by simp, HD2.out, rfl⟩
       case measure => first | (simp [xaR]; done) | (simp [xaR]; omega)
     have hc2 : 1 < cap := by omega
     go_wp2_with fail
     go_roundw
     case rel => exact ⟨t, by have := NS.tail (o' := off + 1) (off := off) (n := t.length + 1) (cap := cap) rfl hcap HC.out (fun h => rfl); simpa using this, by omega, HD2.out, rfl⟩
     case measure => first | (simp [xaR]; done) | (simp [xaR]; omega)
   have g : decide ((x : Int) < (from' : Int)) = false := by simp; omega
   have HE : Hid (x :: t = l.dropWhile (fun p => decide (p < from'))) := xmA (by rw [← HD.out, List.dropWhile_cons_of_neg (by simpa using hx)])
   go_wp2_with fail
   go_ret
   exact ⟨⟨_, rfl, by rw [← HE.out]; exact HN.out⟩, rfl⟩
end Go.Proofs.YtjahiihmoglpfaaGreatDoor
