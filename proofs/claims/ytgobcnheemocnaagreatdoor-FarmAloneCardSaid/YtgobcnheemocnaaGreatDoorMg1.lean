/-
  Several texts in one: Plain words on worlds for this seat's walks: no program in sight. 'Keeps S w w': what w' has of w's blocks outside S is as it was. A plant's tree in memory (a root, one node below it): the walks of tree.there, Cause, mark, Cancel. No condition. A pipe without room: its cells; asked: at, Waits, Ready, Closed. No condition. A pipe without room: Send, Take, Close, Withdraw, New. No condition.
-/
import Derived.WalkKit
import Derived.WalkSpells
import Derived.WalkLawsBesides
import Derived.Lib.Hide
import Derived.Test.YtgobcnheemocnaaGreatDoorProg
import Derived.BigQuiet
import Derived.Deep.QuietTactic
import Derived.Deep.Cut
import Derived.BigRegion
import Derived.Handy
import Derived.Deep.AppendLies
import Derived.Deep.RegionHeld3
import Derived.ArgAppend
import Derived.Laws.AppendOwn
import Derived.StillTailTactics
import Derived.Deep.RegionLaw
section
namespace Go.Proofs.YtgobcnheemocnaaGreatDoor
open Go.RowKit

/-- Of the blocks that w has, those outside S are in w' as they were; no block has gone. -/
structure Keeps (S : Nat → Prop) (w w' : World) : Prop where
  os : w'.os = w.os
  tape : w'.tape = w.tape
  output : w'.output = w.output
  size : w.heap.size ≤ w'.heap.size
  block : ∀ k, k < w.heap.size → ¬ S k → w'.heap[k]? = w.heap[k]?

theorem Keeps.refl (S : Nat → Prop) (w : World) : Keeps S w w := ⟨rfl, rfl, rfl, Nat.le_refl _, fun _ _ _ => rfl⟩
theorem Keeps.trans {S : Nat → Prop} {a b c : World} (h : Keeps S a b) (k : Keeps S b c) : Keeps S a c :=
  ⟨k.os.trans h.os, k.tape.trans h.tape, k.output.trans h.output, Nat.le_trans h.size k.size,
   fun i hi hs => (k.block i (Nat.lt_of_lt_of_le hi h.size) hs).trans (h.block i hi hs)⟩
theorem Keeps.mono {S T : Nat → Prop} {a b : World} (h : Keeps S a b) (hst : ∀ k, k < a.heap.size → S k → T k) : Keeps T a b :=
  ⟨h.os, h.tape, h.output, h.size, fun i hi hs => h.block i hi (fun hS => hs (hst i hi hS))⟩
theorem Keeps.drawN {S : Nat → Prop} {a b : World} (h : Keeps S a b) (n : Nat) : Keeps S a (b.drewN n) := ⟨h.os, h.tape, h.output, h.size, h.block⟩
theorem Keeps.drew {S : Nat → Prop} {a b : World} (h : Keeps S a b) : Keeps S a b.drew := ⟨h.os, h.tape, h.output, h.size, h.block⟩
theorem Keeps.alloc {S : Nat → Prop} {a b : World} (h : Keeps S a b) (o : Obj) : Keeps S a (b.alloc o) :=
  ⟨h.os, h.tape, h.output, by have := h.size; simp; omega, fun k hk hs => by rw [Below.heap_alloc _ _ _ (by have := h.size; omega)]; exact h.block k hk hs⟩
theorem Keeps.setCell {S : Nat → Prop} {a b : World} (h : Keeps S a b) {p : Addr} (hp : S p.block ∨ a.heap.size ≤ p.block) (u : Value) : Keeps S a (b.setCell p u) :=
  ⟨h.os, h.tape, h.output, by have := h.size; simp [World.setCell]; omega, fun k hk hs => by
    rw [Below.heap_setCell _ _ _ _ (by intro e; subst e; rcases hp with hp | hp; exact hs hp; omega)]; exact h.block k hk hs⟩
class KI (S : Nat → Prop) (a b : World) : Prop where
  out : Keeps S a b
instance KI.re (S : Nat → Prop) (a : World) : KI S a a := ⟨Keeps.refl _ _⟩
instance KI.al (S : Nat → Prop) (a b : World) (o : Obj) [h : KI S a b] : KI S a (b.alloc o) := ⟨h.out.alloc o⟩
instance KI.dr (S : Nat → Prop) (a b : World) [h : KI S a b] : KI S a b.drew := ⟨h.out.drew⟩
instance KI.dn (S : Nat → Prop) (a b : World) (n : Nat) [h : KI S a b] : KI S a (b.drewN n) := ⟨h.out.drawN n⟩
theorem Keeps.set {S : Nat → Prop} {a b : World} (h : Keeps S a b) {p : Addr} (hp : S p.block) (u : Value) : Keeps S a (b.setCell p u) := h.setCell (Or.inl hp) u
/-- Two steps, the second with a set of its own. -/
theorem Keeps.trans2 {S T : Nat → Prop} {a b c : World} (h : Keeps S a b) (k : Keeps T b c) (ht : ∀ i, i < a.heap.size → T i → S i) : Keeps S a c :=
  ⟨k.os.trans h.os, k.tape.trans h.tape, k.output.trans h.output, Nat.le_trans h.size k.size,
   fun i hi hs => (k.block i (Nat.lt_of_lt_of_le hi h.size) (fun hT => hs (ht i hi hT))).trans (h.block i hi hs)⟩
theorem Keeps.below {S : Nat → Prop} {a b : World} (h : Keeps S a b) {B : Nat} (hB : B ≤ a.heap.size) (hs : ∀ k, k < B → ¬ S k) : Below B a b :=
  ⟨h.os, h.tape, h.output, h.size, fun k hk => h.block k (by omega) (hs k hk)⟩
theorem Keeps.belowAll {a b : World} (h : Keeps (fun _ => False) a b) : Below a.heap.size a b := h.below (Nat.le_refl _) (fun _ _ => id)

theorem lt_of_cell {w : World} {a : Addr} {v : Value} (h : w.cell? a = some v) : a.block < w.heap.size := by
  unfold World.cell? at h
  split at h
  · rename_i hh; exact (Array.getElem?_eq_some_iff.1 hh).1
  · simp at h
theorem Keeps.cell {S : Nat → Prop} {a b : World} (h : Keeps S a b) {p : Addr} {v : Value} (hc : a.cell? p = some v) (hs : ¬ S p.block) : b.cell? p = some v :=
  (World.cell?_of_block (w := a) (h.block p.block (lt_of_cell hc) hs)).trans hc
theorem Keeps.frozen {S : Nat → Prop} {a b : World} (h : Keeps S a b) {p : Addr} {x : Bool} (hc : a.frozen? p = x) (hl : p.block < a.heap.size) (hs : ¬ S p.block) : b.frozen? p = x :=
  (World.frozen?_of_block (w := a) (h.block p.block hl hs)).trans hc
theorem Keeps.heap {S : Nat → Prop} {a b : World} (h : Keeps S a b) {k : Nat} {o : Obj} (hc : a.heap[k]? = some o) (hs : ¬ S k) : b.heap[k]? = some o :=
  (h.block k (Array.getElem?_eq_some_iff.1 hc).1 hs).trans hc

theorem cell_block {w : World} {b : Nat} {cs : Array Value} {T : TypeId} {fz : Nat × Nat} (h : w.heap[b]? = some (.cells cs T fz)) (o : Nat) : w.cell? ⟨b, o, none⟩ = cs[o]? := by
  unfold World.cell?; simp [h]
theorem frozen_block {w : World} {b : Nat} {cs : Array Value} {T : TypeId} (h : w.heap[b]? = some (.cells cs T (0, 0))) (o : Nat) (s : Option Nat) : w.frozen? ⟨b, o, s⟩ = false := by
  unfold World.frozen?; simp [h]
theorem ownsRow_alloc {w : World} {base : Nat} {e : TypeId} {size : Nat} {v : Value} {n : Nat} {xs : List Value} (h : w.ownsRow base e size v n xs) (o : Obj) : (w.alloc o).ownsRow base e size v n xs := World.ownsRow.alloc h o
theorem cells_new (w : World) (l : List Value) (T : TypeId) : ∀ (j : Nat) (u : Value), l[j]? = some u → (w.alloc (.cells l.toArray T)).cell? ((⟨w.heap.size, 0, none⟩ : Addr).add j) = some u := by
  intro j u hj
  have : (⟨w.heap.size, 0, none⟩ : Addr).add j = ⟨w.heap.size, j, none⟩ := by unfold Addr.add; split <;> simp_all
  rw [this, cell_block (cs := l.toArray) (T := T) (fz := (0, 0)) (by show (w.heap.push _)[_]? = _; simp)]
  simpa using hj
theorem Keeps.grown {S : Nat → Prop} {a b c : World} {row : Option Nat} (h : Keeps S a b) (hg : b.grownBy c row) (hr : ∀ k, row = some k → S k ∨ a.heap.size ≤ k) : Keeps S a c :=
  ⟨hg.os.trans h.os, hg.tape.trans h.tape, hg.output.trans h.output, Nat.le_trans h.size hg.size, fun k hk hs => by
    rw [hg.block k (Nat.lt_of_lt_of_le hk h.size) (fun e => by rcases hr k e.symm with h1 | h1; exact hs h1; omega)]; exact h.block k hk hs⟩
/-- The one row that an append may write is the call's own. -/
theorem ownBlock_base {w : World} {base : Nat} {e : TypeId} {size : Nat} {v : Value} {n : Nat} {xs : List Value} (h : w.ownsRow base e size v n xs) : ∀ k, v.ownBlock = some k → base ≤ k := by
  rintro k hk
  rcases h.2 with ⟨rfl, _⟩ | ⟨g, cap, cur, rfl, hg, _⟩
  · simp [Value.ownBlock] at hk
  · simp [Value.ownBlock] at hk; omega
theorem ownsRow_slice {w : World} {base : Nat} {e : TypeId} {size : Nat} {v : Value} {n : Nat} {xs : List Value} (h : w.ownsRow base e size v n xs) : ∃ a cap, v = .slice a n cap := by
  rcases h.2 with ⟨rfl, rfl⟩ | ⟨g, cap, cur, rfl, _⟩
  · exact ⟨none, 0, rfl⟩
  · exact ⟨_, cap, rfl⟩
theorem cell_set_other {w : World} {a b : Addr} {v : Value} (h : a ≠ b) : (w.setCell a v).cell? b = w.cell? b := World.cell?_setCell_other w a b v h
theorem cell_set_same {w : World} {a : Addr} {v u : Value} (h : w.cell? a = some u) : (w.setCell a v).cell? a = some v := World.cell?_setCell_same w a v h
theorem frozen_set {w : World} {a b : Addr} {v : Value} : (w.setCell a v).frozen? b = w.frozen? b := World.frozen?_setCell w a b v
theorem alloc_cell {w : World} {a : Addr} {v : Value} (h : w.cell? a = some v) (o : Obj) : (w.alloc o).cell? a = some v :=
  (Keeps.alloc (Keeps.refl (fun _ => False) w) o).cell h id
end Go.Proofs.YtgobcnheemocnaaGreatDoor
end
section
namespace Go.Proofs.YtgobcnheemocnaaGreatDoor
open Go.RowKit
set_option linter.unusedVariables false
set_option linter.unusedSimpArgs false
set_option maxRecDepth 100000

/-- The tree at tb: its row at rb from ro on, the root's kids at kb from ko on; the root's cause, the node's. -/
structure TrAt (w : World) (tb rb ro kb ko : Nat) (c0 c1 : Int) : Prop where
  hd : ∃ cap, 2 ≤ cap ∧ w.cell? ⟨tb, 0, none⟩ = some (.slice (some ⟨rb, ro, none⟩) 2 cap)
  k0 : ∃ kc, 1 ≤ kc ∧ w.cell? ⟨rb, ro + 2, none⟩ = some (.slice (some ⟨kb, ko, none⟩) 1 kc)
  k1 : w.cell? ⟨rb, ro + 5, none⟩ = some (.slice none 0 0)
  kk : w.cell? ⟨kb, ko, none⟩ = some (.int .i64 1)
  x0 : w.cell? ⟨rb, ro + 1, none⟩ = some (.int .i64 c0)
  x1 : w.cell? ⟨rb, ro + 4, none⟩ = some (.int .i64 c1)
  fr : ∀ o, o = ro + 1 ∨ o = ro + 4 → w.frozen? ⟨rb, o, none⟩ = false
  n1 : tb ≠ rb
  n2 : kb ≠ rb
theorem TrAt.keeps {S : Nat → Prop} {w w' : World} {tb rb ro kb ko : Nat} {c0 c1 : Int} (h : TrAt w tb rb ro kb ko c0 c1) (K : Keeps S w w') (h1 : ¬ S tb) (h2 : ¬ S rb) (h3 : ¬ S kb) : TrAt w' tb rb ro kb ko c0 c1 := by
  obtain ⟨cap, hc, hd⟩ := h.hd
  obtain ⟨kc, hk, k0⟩ := h.k0
  exact ⟨⟨cap, hc, K.cell hd h1⟩, ⟨kc, hk, K.cell k0 h2⟩, K.cell h.k1 h2, K.cell h.kk h3, K.cell h.x0 h2, K.cell h.x1 h2, fun o ho => K.frozen (h.fr o ho) (show rb < w.heap.size from lt_of_cell h.x0) h2, h.n1, h.n2⟩
theorem thereT_any (tb rb ro : Nat) (cap : Nat) (n : Int) (h0 : 0 ≤ n) (h1 : n < 2) (w : World) (hd : w.cell? ⟨tb, 0, none⟩ = some (.slice (some ⟨rb, ro, none⟩) 2 cap)) :
    Calls Tryz.prog 46 #[.pointer (some ⟨tb, 0, none⟩), .int .i64 n] w fun e w' => e = .returned (.bool true) ∧ w' = w := by
  go_enter Tryz.func46, Tryz.ntmps46
  go_wp2_with fail
  go_ret
  exact ⟨rfl, rfl⟩
theorem cause_0 (tb rb ro kb ko : Nat) (c0 c1 : Int) (w : World) (h : TrAt w tb rb ro kb ko c0 c1) :
    Calls Tryz.prog 216 #[.pointer (some ⟨tb, 0, none⟩), .int .i64 0] w fun e w' => e = .returned (.int .i64 c0) ∧ w' = w := by
  obtain ⟨cap, hc, hd⟩ := h.hd
  have HT := Lib.hid (thereT_any tb rb ro cap 0 (by omega) (by omega) w hd)
  have x0 := h.x0
  have hc' : (2 : Int) ≤ (cap : Int) := by omega
  clear h
  go_enter Tryz.func216, Tryz.ntmps216
  go_wp2_with fail
  refine HT.out.mono ?_
  rintro e w' ⟨rfl, rfl⟩
  go_wp2_with fail
  go_ret
  exact ⟨rfl, rfl⟩
end Go.Proofs.YtgobcnheemocnaaGreatDoor
end
section
namespace Go.Proofs.YtgobcnheemocnaaGreatDoor
open Go.RowKit
set_option linter.unusedVariables false
set_option linter.unusedSimpArgs false
set_option maxRecDepth 100000

/-- An item. -/
structure Itm where
  n : Int
  bf : Int
  rn : Int
  ra : Int
  s : ByteArray
  ha : Option Addr
  hn : Nat
  hc : Nat
  e : Int
def itC (x : Itm) : Array Value := #[.int .i64 x.n, .int .i64 x.bf, .int .i64 x.rn, .int .i64 x.ra, .string x.s, .slice x.ha x.hn x.hc, .int .i64 x.e]
def itV (x : Itm) : Value := .agg (itC x)
def ofC (q : Int) (x : Itm) : List Value := [.int .i64 q, .int .i64 x.n, .int .i64 x.bf, .int .i64 x.rn, .int .i64 x.ra, .string x.s, .slice x.ha x.hn x.hc, .int .i64 x.e]
/-- Places of a row of offers: they are there, and may be written. -/
def RowG (w : World) (g m : Nat) : Prop := ∃ cs : Array Value, w.heap[g]? = some (.cells cs 307 (0, 0)) ∧ m ≤ cs.size
/-- What is offered: nothing, or one item. -/
def OffAt (w : World) (S : Nat → Prop) (v : Value) : Option (Int × Itm) → Prop
  | none => v = .slice none 0 0 ∨ ∃ g off cap, v = .slice (some ⟨g, off, none⟩) 0 cap ∧ RowG w g (off + cap * 8) ∧ S g
  | some (q, x) => ∃ g off cap, v = .slice (some ⟨g, off, none⟩) 1 cap ∧ 1 ≤ cap ∧ RowG w g (off + cap * 8) ∧ S g ∧ ∀ j u, (ofC q x)[j]? = some u → w.cell? ⟨g, off + j, none⟩ = some u
/-- A pipe at b; its blocks are among S. -/
structure PiAt (w : World) (b : Nat) (S : Nat → Prop) (o : Option (Int × Itm)) (cl : Bool) (sn : Int) : Prop where
  hd : ∃ v, w.heap[b]? = some (.cells #[.int .i64 0, .slice none 0 0, v, .bool cl, .int .i64 sn] 92 (0, 0)) ∧ OffAt w S v o
  sb : S b
theorem RowG.keeps {S T : Nat → Prop} {w w' : World} {g m : Nat} (h : RowG w g m) (K : Keeps T w w') (hs : ¬ T g) : RowG w' g m := by
  obtain ⟨cs, h1, h2⟩ := h; exact ⟨cs, K.heap h1 hs, h2⟩
theorem OffAt.keeps {S T : Nat → Prop} {w w' : World} {v : Value} {o : Option (Int × Itm)} (h : OffAt w S v o) (K : Keeps T w w') (hs : ∀ b, S b → ¬ T b) : OffAt w' S v o := by
  cases o with
  | none =>
    rcases h with h | ⟨g, off, cap, e, h1, h2⟩
    · exact Or.inl h
    · exact Or.inr ⟨g, off, cap, e, h1.keeps (S := S) K (hs _ h2), h2⟩
  | some p =>
    obtain ⟨q, x⟩ := p
    obtain ⟨g, off, cap, e, hc, h1, h2, h3⟩ := h
    exact ⟨g, off, cap, e, hc, h1.keeps (S := S) K (hs _ h2), h2, fun j u hu => K.cell (h3 j u hu) (hs _ h2)⟩
theorem OffAt.mono {S T : Nat → Prop} {w : World} {v : Value} {o : Option (Int × Itm)} (h : OffAt w S v o) (hs : ∀ b, S b → T b) : OffAt w T v o := by
  cases o with
  | none =>
    rcases h with h | ⟨g, off, cap, e, h1, h2⟩
    · exact Or.inl h
    · exact Or.inr ⟨g, off, cap, e, h1, hs _ h2⟩
  | some p =>
    obtain ⟨q, x⟩ := p
    obtain ⟨g, off, cap, e, hc, h1, h2, h3⟩ := h
    exact ⟨g, off, cap, e, hc, h1, hs _ h2, h3⟩
theorem PiAt.keeps {S T : Nat → Prop} {w w' : World} {b : Nat} {o : Option (Int × Itm)} {cl : Bool} {sn : Int} (h : PiAt w b S o cl sn) (K : Keeps T w w') (hs : ∀ b, S b → ¬ T b) : PiAt w' b S o cl sn := by
  obtain ⟨v, h1, h2⟩ := h.hd
  exact ⟨⟨v, K.heap h1 (hs _ h.sb), h2.keeps K hs⟩, h.sb⟩
theorem PiAt.mono {S T : Nat → Prop} {w : World} {b : Nat} {o : Option (Int × Itm)} {cl : Bool} {sn : Int} (h : PiAt w b S o cl sn) (hs : ∀ b, S b → T b) : PiAt w b T o cl sn := by
  obtain ⟨v, h1, h2⟩ := h.hd
  exact ⟨⟨v, h1, h2.mono hs⟩, hs _ h.sb⟩
/-- How many are offered. -/
def offN : Option (Int × Itm) → Nat
  | none => 0
  | some _ => 1
theorem OffAt.len {S : Nat → Prop} {w : World} {v : Value} {o : Option (Int × Itm)} (h : OffAt w S v o) : ∃ a c, v = .slice a (offN o) c := by
  cases o with
  | none =>
    rcases h with h | ⟨g, off, cap, e, _⟩
    · exact ⟨_, _, h⟩
    · exact ⟨_, _, e⟩
  | some p =>
    obtain ⟨g, off, cap, e, _⟩ := h
    exact ⟨_, _, e⟩
theorem idxF_none (a : Option Addr) (c : Nat) (f : Value) (w : World) : Calls Tryz.prog 219 #[.slice a 0 c, f] w fun e w' => e = .returned (.int .i64 (-1)) ∧ Keeps (fun _ => False) w w' := by
  go_enter Tryz.func219, Tryz.ntmps219
  go_wp2_with fail
  refine wp_loop_rounds 1 ?_
  rw [rounds_succ]
  go_wp2_with fail
  go_ret
  exact ⟨rfl, Keeps.refl _ _⟩
theorem at1_any (q : Int) (x : Itm) (c : Nat) (w : World) (h : w.cell? ⟨c, 0, none⟩ = some (.int .i64 q)) : Calls Tryz.prog 220 #[.agg (ofC q x).toArray, .pointer (some ⟨c, 0, none⟩)] w fun e w' => e = .returned (.bool true) ∧ Keeps (fun _ => False) w w' := by
  have h2 : ∀ o, (w.alloc o).cell? ⟨c, 0, none⟩ = some (.int .i64 q) := alloc_cell h
  unfold ofC
  go_enter Tryz.func220, Tryz.ntmps220
  go_wp2_with fail
  go_ret
  exact ⟨rfl, (Keeps.refl _ _).alloc _⟩
theorem idxF_some (q : Int) (x : Itm) (g off cap c : Nat) (w : World) (hcap : 1 ≤ cap) (hg : ∀ j u, (ofC q x)[j]? = some u → w.cell? ⟨g, off + j, none⟩ = some u) (h : w.cell? ⟨c, 0, none⟩ = some (.int .i64 q)) :
    Calls Tryz.prog 219 #[.slice (some ⟨g, off, none⟩) 1 cap, .func (.func 220) #[] #[.pointer (some ⟨c, 0, none⟩)]] w fun e w' => e = .returned (.int .i64 0) ∧ Keeps (fun _ => False) w w' := by
  have HC := Lib.hid (at1_any q x c w h)
  have c0 : w.cell? ⟨g, off, none⟩ = some (.int .i64 q) := hg 0 _ rfl
  have c1 := hg 1 _ rfl
  have c2 := hg 2 _ rfl
  have c3 := hg 3 _ rfl
  have c4 := hg 4 _ rfl
  have c5 := hg 5 _ rfl
  have c6 := hg 6 _ rfl
  have c7 := hg 7 _ rfl
  clear hg h
  unfold ofC at HC
  go_enter Tryz.func219, Tryz.ntmps219
  go_wp2_with fail
  refine wp_loop_rounds 1 ?_
  rw [rounds_succ]
  go_wp2_with fail
  refine HC.out.mono ?_
  rintro e w' ⟨rfl, k⟩
  go_wp2_with fail
  go_ret
  exact ⟨rfl, k⟩
theorem at_any (q : Int) (b : Nat) (S : Nat → Prop) (o : Option (Int × Itm)) (cl : Bool) (sn : Int) (w : World) (h : PiAt w b S o cl sn) (ho : ∀ p, o = some p → p.1 = q) :
    Calls Tryz.prog 217 #[.pointer (some ⟨b, 0, none⟩), .int .i64 q] w fun e w' => e = .returned (.int .i64 ((offN o : Int) - 1)) ∧ Keeps (fun _ => False) w w' := by
  obtain ⟨v, h1, h2⟩ := h.hd
  have kA : Keeps (fun _ => False) w (w.alloc (.cells #[.int .i64 q] 3)) := (Keeps.refl _ _).alloc _
  have x2 : (w.alloc (.cells #[.int .i64 q] 3)).cell? ⟨b, 2, none⟩ = some v := kA.cell (by rw [cell_block h1]; rfl) id
  have HA := Lib.hid kA
  cases o with
  | none =>
    obtain ⟨a, c, rfl⟩ := h2.len
    have HC := Lib.hid (fun f => idxF_none a c f (w.alloc (.cells #[.int .i64 q] 3)))
    clear h h1 h2 ho kA
    go_enter Tryz.func217, Tryz.ntmps217
    go_wp2_with fail
    refine (HC.out _).mono ?_
    rintro e w' ⟨rfl, k⟩
    go_wp2_with fail
    go_ret
    exact ⟨rfl, HA.out.trans k⟩
  | some p =>
    obtain ⟨q', x⟩ := p
    obtain rfl : q' = q := ho _ rfl
    obtain ⟨g, off, cap, rfl, hc, hr, hs, hg⟩ := h2
    have HC := Lib.hid (idxF_some q' x g off cap w.heap.size (w.alloc (.cells #[.int .i64 q'] 3)) hc (fun j u hu => kA.cell (hg j u hu) id) (by rw [cell_block (heap_alloc_new _ _)]; rfl))
    clear h h1 ho kA hc hr hs hg
    go_enter Tryz.func217, Tryz.ntmps217
    go_wp2_with fail
    refine HC.out.mono ?_
    rintro e w' ⟨rfl, k⟩
    go_wp2_with fail
    go_ret
    exact ⟨rfl, HA.out.trans k⟩
theorem waits_any (q : Int) (b : Nat) (S : Nat → Prop) (o : Option (Int × Itm)) (cl : Bool) (sn : Int) (w : World) (h : PiAt w b S o cl sn) (ho : ∀ p, o = some p → p.1 = q) :
    Calls Tryz.prog 211 #[.pointer (some ⟨b, 0, none⟩), .int .i64 q] w fun e w' => e = .returned (.bool o.isSome) ∧ Keeps (fun _ => False) w w' := by
  have HC := Lib.hid (at_any q b S o cl sn w h ho)
  clear h ho
  cases o with
  | none =>
    go_enter Tryz.func211, Tryz.ntmps211
    go_wp2_with fail
    refine HC.out.mono ?_
    rintro e w' ⟨rfl, k⟩
    simp only [offN]
    go_wp2_with fail
    go_ret
    exact ⟨rfl, k⟩
  | some p =>
    go_enter Tryz.func211, Tryz.ntmps211
    go_wp2_with fail
    refine HC.out.mono ?_
    rintro e w' ⟨rfl, k⟩
    simp only [offN]
    go_wp2_with fail
    go_ret
    exact ⟨rfl, k⟩
theorem closed_any (b : Nat) (S : Nat → Prop) (o : Option (Int × Itm)) (cl : Bool) (sn : Int) (w : World) (h : PiAt w b S o cl sn) :
    Calls Tryz.prog 20 #[.pointer (some ⟨b, 0, none⟩)] w fun e w' => e = .returned (.bool cl) ∧ Keeps (fun _ => False) w w' := by
  obtain ⟨v, h1, h2⟩ := h.hd
  have x3 : w.cell? ⟨b, 3, none⟩ = some (.bool cl) := by rw [cell_block h1]; rfl
  clear h h1 h2
  go_enter Tryz.func20, Tryz.ntmps20
  go_wp2_with fail
  go_ret
  exact ⟨rfl, Keeps.refl _ _⟩
theorem pready_any (b : Nat) (S : Nat → Prop) (o : Option (Int × Itm)) (cl : Bool) (sn : Int) (w : World) (h : PiAt w b S o cl sn) :
    Calls Tryz.prog 198 #[.pointer (some ⟨b, 0, none⟩)] w fun e w' => e = .returned (.bool (o.isSome || cl)) ∧ Keeps (fun _ => False) w w' := by
  obtain ⟨v, h1, h2⟩ := h.hd
  obtain ⟨a, c, rfl⟩ := h2.len
  have x1 : w.cell? ⟨b, 1, none⟩ = some (.slice none 0 0) := by rw [cell_block h1]; rfl
  have x2 : w.cell? ⟨b, 2, none⟩ = some (.slice a (offN o) c) := by rw [cell_block h1]; rfl
  have x3 : w.cell? ⟨b, 3, none⟩ = some (.bool cl) := by rw [cell_block h1]; rfl
  clear h h1 h2
  cases o with
  | none =>
    simp only [offN] at x2
    go_enter Tryz.func198, Tryz.ntmps198
    go_wp2_with fail
    go_quiet (fail)
    go_wp2_with fail
    go_ret
    exact ⟨rfl, (Keeps.refl _ _).drawN _⟩
  | some p =>
    simp only [offN] at x2
    go_enter Tryz.func198, Tryz.ntmps198
    go_wp2_with fail
    go_quiet (fail)
    go_wp2_with fail
    go_ret
    exact ⟨rfl, (Keeps.refl _ _).drawN _⟩
end Go.Proofs.YtgobcnheemocnaaGreatDoor
end
section
namespace Go.Proofs.YtgobcnheemocnaaGreatDoor
open Go.RowKit
set_option linter.unusedVariables false
set_option linter.unusedSimpArgs false
set_option maxRecDepth 100000

def GrP (S : Nat → Prop) (w w' : World) (b : Nat) : Prop := S b ∨ (w.heap.size ≤ b ∧ b < w'.heap.size)
def rowB : Value → Option Nat
  | .slice (some a) _ _ => some a.block
  | _ => none
theorem info_off : (Tryz.prog.info? 307).map (fun i => (i.zero, i.size, i.bytes)) = some (some (.agg #[.int .i64 0, .int .i64 0, .int .i64 0, .int .i64 0, .int .i64 0, .string ⟨#[]⟩, .slice none 0 0, .int .i64 0]), 8, 88) := by kernel_rfl
theorem ofC_one (q : Int) (x : Itm) : ∀ u ∈ ofC q x, u.oneCell' = true := by intro u hu; simp [ofC] at hu; rcases hu with rfl | rfl | rfl | rfl | rfl | rfl | rfl | rfl <;> rfl
theorem own_off {w : World} {base : Nat} {v : Value} {q : Int} {x : Itm} {S : Nat → Prop} (h : w.ownsRow base 307 8 v 1 (ofC q x)) (hs : ∀ g, base ≤ g → g < w.heap.size → S g) : OffAt w S v (some (q, x)) := by
  have hh := h
  rcases h.2 with ⟨_, h0⟩ | ⟨g, cap, cur, rfl, hg, hc, hn, hm, hz, _⟩
  · omega
  · refine ⟨g, 0, cap, rfl, hn, ⟨cur, hc, by omega⟩, hs g hg (Array.getElem?_eq_some_iff.1 hc).1, fun j u hu => ?_⟩
    have := hh.cells (g := g) rfl j u hu
    have e : (⟨g, 0, none⟩ : Addr).add j = ⟨g, 0 + j, none⟩ := by unfold Addr.add; split <;> simp_all
    rwa [e] at this
theorem cellQ_set {w : World} {b : Nat} {cs : Array Value} {t : TypeId} (i : Nat) (v : Value) (h : w.heap[b]? = some (.cells cs t (0, 0))) : (w.setCell ⟨b, i, none⟩ v).heap[b]? = some (.cells (cs.setIfInBounds i v) t (0, 0)) := by
  simp [World.setCell, Array.getElem?_modify, h]
theorem setQ (w : World) (b o : Nat) (v : Value) : Keeps (fun k => k = b) w (w.setCell ⟨b, o, none⟩ v) := (Keeps.refl (fun k => k = b) w).set (p := ⟨b, o, none⟩) rfl v
theorem setCells_heap {g : Nat} {T : TypeId} : ∀ (vs : List Value) (o : Nat) (w : World) (cs : Array Value), w.heap[g]? = some (.cells cs T (0, 0)) → ∃ cs', (w.setCells g o vs).heap[g]? = some (.cells cs' T (0, 0)) ∧ cs'.size = cs.size
  | [], _, w, cs, h => ⟨cs, h, rfl⟩
  | v :: r, o, w, cs, h => by
    obtain ⟨cs', h1, h2⟩ := setCells_heap r (o + 1) _ _ (cellQ_set o v h)
    exact ⟨cs', h1, by rw [h2]; simp⟩
theorem setCells_keeps {g : Nat} : ∀ (vs : List Value) (o : Nat) (w : World), Keeps (fun k => k = g) w (w.setCells g o vs)
  | [], _, w => Keeps.refl _ _
  | v :: r, o, w => (setQ w g o v).trans (setCells_keeps r (o + 1) _)
theorem cells_at {w : World} {g : Nat} {cs : Array Value} {T : TypeId} (h : w.heap[g]? = some (.cells cs T (0, 0))) (i : Nat) (hi : i < cs.size) : (w.cell? ⟨g, i, none⟩).isSome = true ∧ w.frozen? ⟨g, i, none⟩ = false :=
  ⟨by rw [cell_block h]; simp [hi], frozen_block h i none⟩
theorem OffAt.setb {w : World} {S : Nat → Prop} {v : Value} {o : Option (Int × Itm)} (h : OffAt w S v o) {b : Nat} {cs : Array Value} (hb : w.heap[b]? = some (.cells cs 92 (0, 0))) (i : Nat) (u : Value) : OffAt (w.setCell ⟨b, i, none⟩ u) S v o := by
  have hg : ∀ g m, RowG w g m → g ≠ b := by
    rintro g m ⟨cs', h1, _⟩ rfl
    rw [hb] at h1
    simp at h1
  cases o with
  | none =>
    rcases h with h | ⟨g, off, cap, e, h1, h2⟩
    · exact Or.inl h
    · exact Or.inr ⟨g, off, cap, e, h1.keeps (S := S) (setQ w b i u) (hg _ _ h1), h2⟩
  | some p =>
    obtain ⟨q, x⟩ := p
    obtain ⟨g, off, cap, e, hc, h1, h2, h3⟩ := h
    exact ⟨g, off, cap, e, hc, h1.keeps (S := S) (setQ w b i u) (hg _ _ h1), h2, fun j y hy => (setQ w b i u).cell (h3 j y hy) (hg _ _ h1)⟩
theorem run_off (w : World) (S : Nat → Prop) (v : Value) (q : Int) (it : Itm) (ty : TypeId) (hv : OffAt w S v none) (A : Nat) (hn : ∀ (j : Nat) (u : Value), (ofC q it)[j]? = some u → w.cell? ((⟨A, 0, none⟩ : Addr).add j) = some u) :
    ∃ v' w', (Builtin.append_ #[90, 90] ty #[v, .slice (some ⟨A, 0, none⟩) 1 1]).run Tryz.prog w = .ok v' w' ∧ OffAt w' (GrP S w w') v' (some (q, it)) ∧ Keeps (fun k => rowB v = some k) w w' := by
  obtain ⟨i0, hi, hz0, hz1, hz2⟩ := info_parts info_off
  have hlen : (ofC q it).length = 1 * 8 := rfl
  rcases hv with rfl | ⟨g, off, cap, rfl, ⟨cs, hg2, hc⟩, hS⟩
  · obtain ⟨v', w', hr, h1, h2, _⟩ := run_append_own (P := Tryz.prog) w w.heap.size 90 ty 307 i0 _ 8 88 Tryz.underlying90 hi hz0 hz1 hz2 rfl (by decide) (.slice none 0 0) 0 [] (World.ownsRow_nil _ _ _ _) ⟨A, 0, none⟩ 1 1 (ofC q it) hlen hn (ofC_one q it) (by unfold maxLen; omega) (by omega) (Nat.le_refl _)
    exact ⟨v', w', hr, own_off h1 fun g hg hl => Or.inr ⟨hg, hl⟩, (Keeps.refl _ _).grown h2 fun k hk => by simp [Value.ownBlock] at hk⟩
  · have h8 : (ofC q it).length = 8 := rfl
    by_cases h1 : 0 + 1 ≤ cap
    · have hsp : ∀ j, j < (ofC q it).length → (w.cell? ⟨g, off + 0 * i0.size + j, none⟩).isSome = true ∧ w.frozen? ⟨g, off + 0 * i0.size + j, none⟩ = false := fun j hj => cells_at hg2 _ (by omega)
      have hr := run_append_room_cells (P := Tryz.prog) w 90 ty 307 i0 Tryz.underlying90 hi g off 0 cap ⟨A, 0, none⟩ 1 1 (ofC q it) (by rw [hz1]; rfl) hn (ofC_one q it) h1 (fun j hj => (hsp j hj).1) (fun j hj => (hsp j hj).2)
      obtain ⟨cs', h2, h3⟩ := setCells_heap (ofC q it) (off + 0 * i0.size) _ _ hg2
      refine ⟨_, _, hr, ⟨g, off, cap, rfl, h1, ⟨cs', h2, by omega⟩, Or.inl hS, fun j u hu => ?_⟩, ((setCells_keeps _ _ _).mono fun k _ e => by rw [e]; rfl)⟩
      have hj : j < (ofC q it).length := (List.getElem?_eq_some_iff.1 hu).1
      have := World.cell?_setCells_in g (ofC q it) (off + 0 * i0.size) _ (fun j hj => (hsp j hj).1) j hj
      rw [List.getElem?_eq_getElem hj] at hu
      simp only [Nat.zero_mul, Nat.add_zero] at this ⊢
      rw [this]
      exact hu
    · obtain ⟨v', w', hr, h2, h3⟩ := run_append_arg_grows (P := Tryz.prog) w 90 ty 307 i0 _ 8 88 Tryz.underlying90 hi hz0 hz1 hz2 rfl (by decide) ⟨g, off, none⟩ 0 cap [] rfl (fun j u hu => by simp at hu) ⟨A, 0, none⟩ 1 1 (ofC q it) hlen hn (by omega) (by unfold maxLen; omega) (by omega)
      exact ⟨v', w', hr, own_off h2 fun g hg hl => Or.inr ⟨hg, hl⟩, (Keeps.refl _ _).grown h3 fun k hk => by simp at hk⟩
theorem step_off {w : World} {ops : Array Oper} {o : Oper} {a : Act} {K : Act → World → Prop} {Q : Exit → Act → World → Prop} {E : Prop} (hgd : o.guard = none) (s x : Operand)
    (ho : o.op = .call { callee := .builtin .append, args := #[s, x], argTypes := #[90, 90] }) (S : Nat → Prop) (v : Value) (q : Int) (it : Itm) (A : Nat) (hs : a.eval s = v) (hx : a.eval x = .slice (some ⟨A, 0, none⟩) 1 1)
    (hv : OffAt w S v none) (hn : ∀ (j : Nat) (u : Value), (ofC q it)[j]? = some u → w.cell? ((⟨A, 0, none⟩ : Addr).add j) = some u)
    (h : ∀ v' w', OffAt w' (GrP S w w') v' (some (q, it)) → Keeps (fun k => rowB v = some k) w w' → K (a.put o.dst v') w') :
    if Region.wanted o (yielded ops a.tmps) = true then Oper.wp Tryz.prog o a w K Q else E := by
  rw [if_pos (by simp [Region.wanted, hgd])]
  obtain ⟨v', w', hr, h1, h2⟩ := run_off w S v q it o.type hv A hn
  unfold Oper.wp
  simp [execOp, ho, resolve, invoke, builtin, hs, hx, hr, Result.andThen]
  exact h v' w' h1 h2
set_option maxHeartbeats 4000000 in
theorem send_any (b : Nat) (S : Nat → Prop) (q : Int) (x : Itm) (sn : Int) (w : World) (h : PiAt w b S none false sn) (h0 : 0 ≤ sn) (h1 : sn ≤ 1000000) :
    Calls Tryz.prog 215 #[.pointer (some ⟨b, 0, none⟩), .int .i64 q, itV x] w fun e w' => e = .returned (.tuple #[.bool false, .int .i64 0]) ∧ PiAt w' b (GrP S w w') (some (q, x)) false (sn + 1) ∧ Keeps S w w' := by
  obtain ⟨w1, hw⟩ : ∃ W, w.alloc (.cells (itC x) 56) = W := ⟨_, rfl⟩
  have k1 : Keeps (fun _ => False) w w1 := by rw [← hw]; exact (Keeps.refl _ _).alloc _
  have hi1 : w1.heap[w.heap.size]? = some (.cells (itC x) 56 (0, 0)) := by rw [← hw]; exact heap_alloc_new _ _
  have H1 := h.keeps k1 (fun _ _ => id)
  have HW := Lib.hid (waits_any q b S none false sn w1 H1 (fun p hp => by cases hp))
  obtain ⟨v, hd, hv⟩ := H1.hd
  have x3 : w1.cell? ⟨b, 3, none⟩ = some (.bool false) := by rw [cell_block hd]; rfl
  have HD := Lib.hid (And.intro hd (And.intro hi1 (And.intro hv k1)))
  have HS := Lib.hid h.sb
  have hb : b < w.heap.size := by obtain ⟨v0, hd0, _⟩ := h.hd; exact (Array.getElem?_eq_some_iff.1 hd0).1
  have HB := Lib.hid hb
  have hw2 := hw
  unfold itC at hw2
  have HE := Lib.hid hw2
  clear h H1 hd hi1 hv k1 hw hw2 hb
  unfold itV itC
  go_enter Tryz.func215, Tryz.ntmps215
  go_upto_region 1 with fail
  rw [HE.out]
  clear HE
  go_wp2_with fail
  refine HW.out.mono ?_
  rintro e w2 ⟨rfl, k2⟩
  have hd2 := k2.heap HD.out.1 id
  have x4 : w2.cell? ⟨b, 4, none⟩ = some (.int .i64 sn) := by rw [cell_block hd2]; rfl
  have f4 : w2.frozen? ⟨b, 4, none⟩ = false := frozen_block hd2 4 none
  have hd3 := cellQ_set 4 (.int .i64 (sn + 1)) hd2
  have y0 : (w2.setCell ⟨b, 4, none⟩ (.int .i64 (sn + 1))).cell? ⟨b, 0, none⟩ = some (.int .i64 0) := by rw [cell_block hd3]; rfl
  have y1 : (w2.setCell ⟨b, 4, none⟩ (.int .i64 (sn + 1))).cell? ⟨b, 1, none⟩ = some (.slice none 0 0) := by rw [cell_block hd3]; rfl
  have HD3 := Lib.hid hd3
  have HK2 := Lib.hid k2
  clear hd2 hd3 k2
  go_wp2_with fail
  go_quiet (fail)
  go_wp2_with fail
  obtain ⟨w5, h5⟩ : ∃ W : World, (w2.setCell ⟨b, 4, none⟩ (.int .i64 (sn + 1))).drewN nq = W := ⟨_, rfl⟩
  rw [h5]
  have k5 : Keeps (fun k => k = b) w2 w5 := by rw [← h5]; exact (setQ w2 b 4 _).drawN nq
  have hd5 := (show ∀ o, (w2.setCell ⟨b, 4, none⟩ (.int .i64 (sn + 1))).heap[b]? = some o → w5.heap[b]? = some o from fun o h => by rw [← h5]; exact h) _ HD3.out
  have hbi : w.heap.size ≠ b := by have := HB.out; omega
  have hi5 := k5.heap (HK2.out.heap HD.out.2.1 id) hbi
  have hv5 : OffAt w5 S v none := by
    have := HD.out.2.2.1.keeps HK2.out (fun _ _ => id)
    rcases this with h | ⟨g, off, cap, e, h1, h2⟩
    · exact Or.inl h
    · refine Or.inr ⟨g, off, cap, e, h1.keeps (S := S) k5 (fun e => ?_), h2⟩
      subst e
      obtain ⟨cs, h3, _⟩ := h1
      rw [HK2.out.heap HD.out.1 id] at h3
      simp at h3
  have y2 : w5.cell? ⟨b, 2, none⟩ = some v := by rw [cell_block hd5]; rfl
  have i0 : w5.cell? ⟨w.heap.size, 0, none⟩ = some (.int .i64 x.n) := by rw [cell_block hi5]; rfl
  have i1 : w5.cell? ⟨w.heap.size, 1, none⟩ = some (.int .i64 x.bf) := by rw [cell_block hi5]; rfl
  have i2 : w5.cell? ⟨w.heap.size, 2, none⟩ = some (.int .i64 x.rn) := by rw [cell_block hi5]; rfl
  have i3 : w5.cell? ⟨w.heap.size, 3, none⟩ = some (.int .i64 x.ra) := by rw [cell_block hi5]; rfl
  have i4 : w5.cell? ⟨w.heap.size, 4, none⟩ = some (.string x.s) := by rw [cell_block hi5]; rfl
  have i5 : w5.cell? ⟨w.heap.size, 5, none⟩ = some (.slice x.ha x.hn x.hc) := by rw [cell_block hi5]; rfl
  have i6 : w5.cell? ⟨w.heap.size, 6, none⟩ = some (.int .i64 x.e) := by rw [cell_block hi5]; rfl
  have HV5 := Lib.hid hv5
  have HD5 := Lib.hid hd5
  clear x3 x4 f4 y0 y1 hv5 hd5 hi5
  obtain ⟨wA, hwA⟩ : ∃ W, w5.alloc (.cells (ofC q x).toArray 307) = W := ⟨_, rfl⟩
  have kA : Keeps (fun _ => False) w5 wA := by rw [← hwA]; exact (Keeps.refl _ _).alloc _
  have HVA := Lib.hid (HV5.out.keeps kA (fun _ _ => id))
  have HNA : Hid (∀ (j : Nat) (u : Value), (ofC q x)[j]? = some u → wA.cell? ((⟨w5.heap.size, 0, none⟩ : Addr).add j) = some u) := Lib.hid (by rw [← hwA]; exact cells_new w5 _ _)
  have HDA := Lib.hid (kA.heap HD5.out id)
  have HrB : Hid (rowB v ≠ some b) := Lib.hid (fun e => by
    rcases HV5.out with rfl | ⟨g, off, cap, rfl, ⟨cs, h1, _⟩, _⟩
    · cases e
    · obtain rfl : g = b := Option.some.inj e
      rw [HD5.out] at h1
      simp at h1)
  unfold ofC at hwA
  have HWA := Lib.hid hwA
  clear hwA kA
  have yA : ∀ o, (w5.alloc o).cell? ⟨b, 2, none⟩ = some v := alloc_cell y2
  go_region_law (first | ((try rw [HWA.out]); refine step_off rfl (.tmp 48) (.tmp 52) rfl S v q x w5.heap.size rfl rfl HVA.out HNA.out ?_; intro v' w6 ho hk; obtain ⟨va, vc, hv'⟩ := ho.len; subst hv'; simp only [offN] at ho; have hd6 := hk.heap HDA.out HrB.out; have c6 : w6.cell? ⟨b, 2, none⟩ = some v := (cell_block hd6 2).trans rfl; have f6 : w6.frozen? ⟨b, 2, none⟩ = false := frozen_block hd6 2 none))
  all_goals
    have KS : Keeps S w w6 := by
      have e1 : Keeps S w w5 := ((HD.out.2.2.2.trans HK2.out).mono fun _ _ e => e.elim).trans (k5.mono fun k _ e => by rw [e]; exact HS.out)
      have e2 : Keeps S w5 wA := by rw [← HWA.out]; exact (Keeps.refl _ _).alloc _
      exact ((e1.trans e2).drew).trans (hk.mono fun k _ e => by
        rcases HVA.out with rfl | ⟨g, off, cap, rfl, _, h2⟩
        · cases e
        · obtain rfl : g = k := Option.some.inj e
          exact h2)
    have hd7 := cellQ_set 2 (.slice va 1 vc) hd6
    have ho7 := (ho.setb hd6 2 (.slice va 1 vc)).mono (T := GrP S w (w6.setCell ⟨b, 2, none⟩ (.slice va 1 vc))) (fun k hk2 => by
      rcases hk2 with h | ⟨h2, h3⟩
      · exact Or.inl h
      · have z1 := HD.out.2.2.2.size
        have z2 := HK2.out.size
        have z3 := k5.size
        have z4 : w5.heap.size ≤ wA.heap.size := by rw [← HWA.out]; simp
        have z5 : wA.drew.heap.size = wA.heap.size := rfl
        refine Or.inr ⟨by omega, by simpa [World.setCell] using h3⟩)
    have HF := Lib.hid (And.intro hd7 (And.intro ho7 (KS.trans (setQ w6 b 2 (.slice va 1 vc) |>.mono fun k _ e => by rw [e]; exact HS.out))))
    clear hd7 ho7 KS hd6 ho hk
    go_wp2_with fail
    go_ret2
    exact ⟨rfl, ⟨⟨_, HF.out.1, HF.out.2.1⟩, Or.inl HS.out⟩, HF.out.2.2⟩
end Go.Proofs.YtgobcnheemocnaaGreatDoor
end
