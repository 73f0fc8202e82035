/-
  Several texts in one: Plain words on worlds for this seat's walks: no program in sight. 'Keeps S w w': what w' has of w's blocks outside S is as it was. Slices that are read: 'SlOf k enc w v l': in the world w the value v is a slice whose elements, of k cells each, are those of the list l. code.Is, Size, length: what they compute; the code point at a text's beginning, in plain Lean. code.length, code.Get: what they compute. code.Get: what it computes.
-/
import Derived.WalkKit
import Derived.WalkSpells
import Derived.WalkLawsBesides
import Derived.Lib.Hide
import Derived.Test.YtjahiihmoglpfaaGreatDoorProg
import Derived.Laws.BitsAllLaws
import Derived.Outline
namespace Go.Proofs.YtjahiihmoglpfaaGreatDoor
open Go.RowKit
set_option linter.unusedVariables false
set_option linter.unusedSimpArgs false
set_option maxRecDepth 100000
section
theorem xmA {p : Prop} (h : p) : Hid p := Lib.hid h
open Go.RowKit
structure xaa (S : Nat → Prop) (w w' : World) : Prop where
 os : w'.os = w.os
 tape : w'.tape = w.tape
 output : w'.output = w.output
 size : w.heap.size ≤ w'.heap.size
 block : ∀ k, k < w.heap.size → ¬ S k → w'.heap[k]? = w.heap[k]?
theorem xaa.refl (S : Nat → Prop) (w : World) : xaa S w w := ⟨rfl, rfl, rfl, Nat.le_refl _, fun _ _ _ => rfl⟩
theorem xaa.trans {S : Nat → Prop} {a b c : World} (h : xaa S a b) (k : xaa S b c) : xaa S a c :=
 ⟨k.os.trans h.os, k.tape.trans h.tape, k.output.trans h.output, Nat.le_trans h.size k.size,
  fun i hi hs => (k.block i (Nat.lt_of_lt_of_le hi h.size) hs).trans (h.block i hi hs)⟩
theorem xaa.mono {S T : Nat → Prop} {a b : World} (h : xaa S a b) (hst : ∀ k, k < a.heap.size → S k → T k) : xaa T a b :=
 ⟨h.os, h.tape, h.output, h.size, fun i hi hs => h.block i hi (fun hS => hs (hst i hi hS))⟩
theorem xaa.drawN {S : Nat → Prop} {a b : World} (h : xaa S a b) (n : Nat) : xaa S a (b.drewN n) := ⟨h.os, h.tape, h.output, h.size, h.block⟩
theorem xaa.drew {S : Nat → Prop} {a b : World} (h : xaa S a b) : xaa S a b.drew := ⟨h.os, h.tape, h.output, h.size, h.block⟩
theorem xaa.alloc {S : Nat → Prop} {a b : World} (h : xaa S a b) (o : Obj) : xaa S a (b.alloc o) :=
 ⟨h.os, h.tape, h.output, by have := h.size; simp; omega, fun k hk hs => by rw [Below.heap_alloc _ _ _ (by have := h.size; omega)]; exact h.block k hk hs⟩
theorem xaa.setCell {S : Nat → Prop} {a b : World} (h : xaa S a b) {p : Addr} (hp : S p.block ∨ a.heap.size ≤ p.block) (u : Value) : xaa S a (b.setCell p u) :=
 ⟨h.os, h.tape, h.output, by have := h.size; simp [World.setCell]; omega, fun k hk hs => by
  rw [Below.heap_setCell _ _ _ _ (by intro e; subst e; rcases hp with hp | hp; exact hs hp; omega)]; exact h.block k hk hs⟩
class KI (S : Nat → Prop) (a b : World) : Prop where
  out : xaa S a b
instance KI.re (S : Nat → Prop) (a : World) : KI S a a := ⟨xaa.refl _ _⟩
instance KI.al (S : Nat → Prop) (a b : World) (o : Obj) [h : KI S a b] : KI S a (b.alloc o) := ⟨h.out.alloc o⟩
instance KI.dr (S : Nat → Prop) (a b : World) [h : KI S a b] : KI S a b.drew := ⟨h.out.drew⟩
instance KI.dn (S : Nat → Prop) (a b : World) (n : Nat) [h : KI S a b] : KI S a (b.drewN n) := ⟨h.out.drawN n⟩
theorem xaa.set {S : Nat → Prop} {a b : World} (h : xaa S a b) {p : Addr} (hp : S p.block) (u : Value) : xaa S a (b.setCell p u) := h.setCell (Or.inl hp) u
theorem xaa.setNew {S : Nat → Prop} {a b : World} (h : xaa S a b) {p : Addr} (hp : a.heap.size ≤ p.block) (u : Value) : xaa S a (b.setCell p u) := h.setCell (Or.inr hp) u
theorem xaa.trans2 {S T : Nat → Prop} {a b c : World} (h : xaa S a b) (k : xaa T b c) (ht : ∀ i, i < a.heap.size → T i → S i) : xaa S a c :=
 ⟨k.os.trans h.os, k.tape.trans h.tape, k.output.trans h.output, Nat.le_trans h.size k.size,
  fun i hi hs => (k.block i (Nat.lt_of_lt_of_le hi h.size) (fun hT => hs (ht i hi hT))).trans (h.block i hi hs)⟩
theorem xaa.below {S : Nat → Prop} {a b : World} (h : xaa S a b) {B : Nat} (hB : B ≤ a.heap.size) (hs : ∀ k, k < B → ¬ S k) : Below B a b :=
 ⟨h.os, h.tape, h.output, h.size, fun k hk => h.block k (by omega) (hs k hk)⟩
theorem xaa.ofBelow {B : Nat} {a b : World} (h : Below B a b) : xaa (fun k => B ≤ k) a b :=
 ⟨h.os, h.tape, h.output, h.size, fun k _ hk => h.block k (by omega)⟩
theorem xaa.ofBelowAll {a b : World} (h : Below a.heap.size a b) (S : Nat → Prop) : xaa S a b :=
 ⟨h.os, h.tape, h.output, h.size, fun k hk _ => h.block k hk⟩
theorem xaa.belowAll {a b : World} (h : xaa (fun _ => False) a b) : Below a.heap.size a b := h.below (Nat.le_refl _) (fun _ _ => id)
theorem xan {w : World} {a : Addr} {v : Value} (h : w.cell? a = some v) : a.block < w.heap.size := by
 unfold World.cell? at h
 split at h
 · rename_i hh; exact (Array.getElem?_eq_some_iff.1 hh).1
 simp at h
theorem xaa.cell {S : Nat → Prop} {a b : World} (h : xaa S a b) {p : Addr} {v : Value} (hc : a.cell? p = some v) (hs : ¬ S p.block) : b.cell? p = some v :=
 (World.cell?_of_block (w := a) (h.block p.block (xan hc) hs)).trans hc
theorem xaa.frozen {S : Nat → Prop} {a b : World} (h : xaa S a b) {p : Addr} {x : Bool} (hc : a.frozen? p = x) (hl : p.block < a.heap.size) (hs : ¬ S p.block) : b.frozen? p = x :=
 (World.frozen?_of_block (w := a) (h.block p.block hl hs)).trans hc
theorem xaa.heap {S : Nat → Prop} {a b : World} (h : xaa S a b) {k : Nat} {o : Obj} (hc : a.heap[k]? = some o) (hs : ¬ S k) : b.heap[k]? = some o :=
 (h.block k (Array.getElem?_eq_some_iff.1 hc).1 hs).trans hc
theorem xaX {w : World} {b : Nat} {cs : Array Value} {T : TypeId} {fz : Nat × Nat} (h : w.heap[b]? = some (.cells cs T fz)) (o : Nat) : w.cell? ⟨b, o, none⟩ = cs[o]? := by
 unfold World.cell?; simp [h]
theorem xa0 {w : World} {base : Nat} {e : TypeId} {size : Nat} {v : Value} {n : Nat} {xs : List Value} (h : w.ownsRow base e size v n xs) (k : Nat) : (w.drewN k).ownsRow base e size v n xs := h
theorem xac {w : World} {base : Nat} {e : TypeId} {size : Nat} {v : Value} {n : Nat} {xs : List Value} (h : w.ownsRow base e size v n xs) (o : Obj) : (w.alloc o).ownsRow base e size v n xs := World.ownsRow.alloc h o
theorem xak (w : World) (l : List Value) (T : TypeId) : ∀ (j : Nat) (u : Value), l[j]? = some u → (w.alloc (.cells l.toArray T)).cell? ((⟨w.heap.size, 0, none⟩ : Addr).add j) = some u := by
 intro j u hj
 have : (⟨w.heap.size, 0, none⟩ : Addr).add j = ⟨w.heap.size, j, none⟩ := by unfold Addr.add; split <;> simp_all
 rw [this, xaX (cs := l.toArray) (T := T) (fz := (0, 0)) (by show (w.heap.push _)[_]? = _; simp)]
 simpa using hj
theorem xaa.grown {S : Nat → Prop} {a b c : World} {row : Option Nat} (h : xaa S a b) (hg : b.grownBy c row) (hr : ∀ k, row = some k → S k ∨ a.heap.size ≤ k) : xaa S a c :=
 ⟨hg.os.trans h.os, hg.tape.trans h.tape, hg.output.trans h.output, Nat.le_trans h.size hg.size, fun k hk hs => by
  rw [hg.block k (Nat.lt_of_lt_of_le hk h.size) (fun e => by rcases hr k e.symm with h1 | h1; exact hs h1; omega)]; exact h.block k hk hs⟩
theorem xab {w : World} {base : Nat} {e : TypeId} {size : Nat} {v : Value} {n : Nat} {xs : List Value} (h : w.ownsRow base e size v n xs) : ∀ k, v.ownBlock = some k → base ≤ k := by
 rintro k hk
 rcases h.2 with ⟨rfl, _⟩ | ⟨g, cap, cur, rfl, hg, _⟩
 · simp [Value.ownBlock] at hk
 simp [Value.ownBlock] at hk; omega
theorem xad {w : World} {base : Nat} {e : TypeId} {size : Nat} {v : Value} {n : Nat} {xs : List Value} (h : w.ownsRow base e size v n xs) : ∃ a cap, v = .slice a n cap := by
 rcases h.2 with ⟨rfl, rfl⟩ | ⟨g, cap, cur, rfl, _⟩
 · exact ⟨none, 0, rfl⟩
 exact ⟨_, cap, rfl⟩
theorem xaf {w : World} {a b : Addr} {v : Value} (h : a ≠ b) : (w.setCell a v).cell? b = w.cell? b := World.cell?_setCell_other w a b v h
theorem xas {w : World} {a : Addr} {v u : Value} (h : w.cell? a = some u) : (w.setCell a v).cell? a = some v := World.cell?_setCell_same w a v h
theorem xbI {w : World} {a b : Addr} {v : Value} : (w.setCell a v).frozen? b = w.frozen? b := World.frozen?_setCell w a b v
theorem xaj {w : World} {a : Addr} {v : Value} (h : w.cell? a = some v) (o : Obj) : (w.alloc o).cell? a = some v :=
 (xaa.alloc (xaa.refl (fun _ => False) w) o).cell h id
theorem xat {w : World} {a : Addr} {v : Bool} (h : w.frozen? a = v) (hl : a.block < w.heap.size) (o : Obj) : (w.alloc o).frozen? a = v :=
 (xaa.alloc (xaa.refl (fun _ => False) w) o).frozen h hl id
def xmo (k : IntKind) (w : World) (a : Option Addr) (len cap : Nat) (zs : List Int) : Prop :=
 (a = none ∧ len = 0 ∧ cap = 0 ∧ zs = []) ∨
 ∃ x, a = some x ∧ len ≤ cap ∧ cap ≤ maxLen ∧ zs.length = cap ∧ (∀ i, i < zs.length → w.cell? (x.add i) = some (.int k (zs.getD i 0))) ∧ ∀ n ∈ zs, (Lit.int k n).wf = true
theorem xmo.cells {k : IntKind} {w : World} {a : Option Addr} {len cap : Nat} {zs : List Int} (h : xmo k w a len cap zs) (h0 : 0 < len) :
 ∃ b off, a = some ⟨b, off, none⟩ ∧ ∀ i < len, w.cell? ⟨b, off + i, none⟩ = some (.int k (zs.getD i 0)) := by
 rcases h with ⟨_, h, _⟩ | ⟨⟨b, off, spot⟩, rfl, hl, hm, hz, hc, hw⟩
 · omega
 have h1 := hc 0 (by omega)
 have hs : spot = none := by simpa [Addr.add] using World.cell?_spot h1
 subst hs
 refine ⟨b, off, rfl, fun i hi => ?_⟩
 have h2 := hc i (by omega)
 have : (⟨b, off, none⟩ : Addr).add i = ⟨b, off + i, none⟩ := by unfold Addr.add; split <;> simp_all
 rwa [this] at h2
theorem xmo.wf {k : IntKind} {w : World} {a : Option Addr} {len cap : Nat} {zs : List Int} (h : xmo k w a len cap zs) (i : Nat) (hi : i < len) : (Lit.int k (zs.getD i 0)).wf = true := by
 rcases h with ⟨_, h, _⟩ | ⟨x, rfl, hl, hm, hz, hc, hw⟩
 · omega
 refine hw _ ?_
 rw [List.getD_eq_getElem?_getD, List.getElem?_eq_getElem (by omega)]
 exact List.getElem_mem _
end
def SlOf {α : Type} (k : Nat) (enc : α → Nat → Value) (w : World) (v : Value) (l : List α) : Prop :=
 ∃ a cap, v = .slice a l.length cap ∧ (l.length ≤ cap ∧ (a = none → cap = 0)) ∧ l.length ≤ 4611686018427387904 ∧
  (0 < l.length → ∃ b off, a = some ⟨b, off, none⟩ ∧ ∀ i x, l[i]? = some x → ∀ j, j < k → w.cell? ⟨b, off + i * k + j, none⟩ = some (enc x j))
theorem SlOf.keeps {α : Type} {k : Nat} {enc : α → Nat → Value} {S : Nat → Prop} {w w' : World} {v : Value} {l : List α} (h : SlOf k enc w v l) (K : xaa S w w') (hs : ∀ b, v.ownBlock = some b → ¬ S b) : SlOf k enc w' v l := by
 obtain ⟨a, cap, rfl, hl, hl2, hc⟩ := h
 refine ⟨a, cap, rfl, hl, hl2, fun h0 => ?_⟩
 obtain ⟨b, off, rfl, hcc⟩ := hc h0
 exact ⟨b, off, rfl, fun i x hx j hj => K.cell (hcc i x hx j hj) (hs b rfl)⟩
theorem SlOf.keep {α : Type} {k : Nat} {enc : α → Nat → Value} {w w' : World} {v : Value} {l : List α} (h : SlOf k enc w v l) (K : xaa (fun _ => False) w w') : SlOf k enc w' v l := h.keeps K (fun _ _ => id)
theorem SlOf.drawN {α : Type} {k : Nat} {enc : α → Nat → Value} {w : World} {v : Value} {l : List α} (h : SlOf k enc w v l) (n : Nat) : SlOf k enc (w.drewN n) v l := h.keep ((xaa.refl _ _).drawN n)
theorem SlOf.alloc {α : Type} {k : Nat} {enc : α → Nat → Value} {w : World} {v : Value} {l : List α} (h : SlOf k enc w v l) (o : Obj) : SlOf k enc (w.alloc o) v l := h.keep ((xaa.refl _ _).alloc o)
theorem SlOf.nil {α : Type} (k : Nat) (enc : α → Nat → Value) (w : World) : SlOf k enc w (.slice none 0 0) [] := ⟨none, 0, rfl, ⟨Nat.le_refl _, fun _ => rfl⟩, by simp, fun h => by simp at h⟩
def cellsOf {α : Type} (k : Nat) (enc : α → Nat → Value) (l : List α) : List Value := l.flatMap fun x => (List.range k).map (enc x)
theorem xah {α : Type} (k : Nat) (enc : α → Nat → Value) (l : List α) : (cellsOf k enc l).length = l.length * k := by
 induction l with
 | nil => simp [cellsOf]
 | cons x l ih => simp only [cellsOf, List.flatMap_cons, List.length_append, List.length_map, List.length_range, List.length_cons] at ih ⊢; rw [ih, Nat.add_mul]; omega
theorem xai {α : Type} (k : Nat) (enc : α → Nat → Value) (l m : List α) : cellsOf k enc (l ++ m) = cellsOf k enc l ++ cellsOf k enc m := by simp [cellsOf]
theorem xaz {α : Type} (k : Nat) (enc : α → Nat → Value) (l : List α) : ∀ i x, l[i]? = some x → ∀ j, j < k → (cellsOf k enc l)[i * k + j]? = some (enc x j) := by
 induction l with
 | nil => intro i x hx; simp at hx
 | cons y l ih =>
  intro i x hx j hj
  have e : cellsOf k enc (y :: l) = (List.range k).map (enc y) ++ cellsOf k enc l := by simp [cellsOf]
  rw [e]
  cases i with
  | zero =>
   simp at hx; subst hx
   rw [List.getElem?_append_left (by simp; omega)]; simp [hj]
  | succ i =>
   simp at hx
   rw [List.getElem?_append_right (by simp; rw [Nat.add_mul]; omega)]
   have : (i + 1) * k + j - ((List.range k).map (enc y)).length = i * k + j := by simp; rw [Nat.add_mul]; omega
   rw [this]; exact ih i x hx j hj
theorem SlOf.ofOwn {α : Type} {k : Nat} {enc : α → Nat → Value} {w : World} {base : Nat} {e : TypeId} {v : Value} {l : List α} (h : w.ownsRow base e k v l.length (cellsOf k enc l)) (hl : l.length ≤ 4611686018427387904) : SlOf k enc w v l := by
 rcases h.2 with ⟨rfl, h0⟩ | ⟨g, cap, cur, rfl, hg, hh, hn, hcap, _⟩
 · refine ⟨none, 0, by rw [h0], ⟨by omega, fun _ => rfl⟩, hl, fun hp => by omega⟩
 refine ⟨_, cap, rfl, ⟨hn, (fun h => by cases h)⟩, hl, fun h0 => ⟨g, 0, rfl, fun i x hx j hj => ?_⟩⟩
 have hi : i < l.length := by
  rcases Nat.lt_or_ge i l.length with hi | hi
  · exact hi
  rw [List.getElem?_eq_none hi] at hx; cases hx
 have hb : i * k + j < l.length * k := by
  have : (i + 1) * k ≤ l.length * k := Nat.mul_le_mul_right k hi
  rw [Nat.add_mul] at this; omega
 have := h.cellAt (i * k + j) hb
 rw [xaz k enc l i x hx j hj] at this
 rw [Nat.zero_add]; exact this
theorem xcT {α : Type} (k : Nat) (hk : 0 < k) (enc : α → Nat → Value) (l : List α) (j : Nat) (u : Value) (h : (cellsOf k enc l)[j]? = some u) : ∃ x, l[j / k]? = some x ∧ u = enc x (j % k) := by
 have hlt : j < l.length * k := by
  rw [← xah k enc l]
  rcases Nat.lt_or_ge j (cellsOf k enc l).length with h1 | h1
  · exact h1
  rw [List.getElem?_eq_none h1] at h; cases h
 have hd : j / k < l.length := (Nat.div_lt_iff_lt_mul hk).2 hlt
 refine ⟨l[j / k], List.getElem?_eq_getElem hd, ?_⟩
 have := xaz k enc l (j / k) _ (List.getElem?_eq_getElem hd) (j % k) (Nat.mod_lt _ hk)
 rw [show j / k * k + j % k = j by rw [Nat.mul_comm]; exact Nat.div_add_mod j k, h] at this
 exact Option.some.inj this
theorem SlOf.news {α : Type} {k : Nat} {enc : α → Nat → Value} {w : World} {v : Value} {l : List α} (hk : 0 < k) (h : SlOf k enc w v l) :
 (v = .slice none 0 0 ∧ l = []) ∨ ∃ x cap, v = .slice (some x) l.length cap ∧ ∀ j u, (cellsOf k enc l)[j]? = some u → w.cell? (x.add j) = some u := by
 obtain ⟨a, cap, rfl, ⟨hl, hn⟩, hl2, hc⟩ := h
 cases a with
 | none =>
  have := hn rfl
  subst this
  have h0 : l = [] := List.length_eq_zero_iff.1 (by omega)
  subst h0
  exact Or.inl ⟨rfl, rfl⟩
 | some x =>
  refine Or.inr ⟨x, cap, rfl, fun j u hj => ?_⟩
  obtain ⟨y, hy, rfl⟩ := xcT k hk enc l j u hj
  have hp : 0 < l.length := by
   cases l with
   | nil => simp at hy
   | cons _ _ => simp
  obtain ⟨b, off, hb, hcc⟩ := hc hp
  have hb := Option.some.inj hb
  subst hb
  have e := hcc (j / k) y hy (j % k) (Nat.mod_lt _ hk)
  have : (⟨b, off, none⟩ : Addr).add j = ⟨b, off + j / k * k + j % k, none⟩ := by
   unfold Addr.add
   have h2 : j / k * k + j % k = j := by rw [Nat.mul_comm]; exact Nat.div_add_mod j k
   split
   · simp_all
   simp only [Nat.add_assoc, h2]
  rw [this]; exact e
def in64 (n : Int) : Prop := -9223372036854775808 ≤ n ∧ n ≤ 9223372036854775807
def isB (r : Int) : Bool := decide (0 ≤ r) && decide (r ≤ 1114111) && (decide (r < 55296) || decide (57344 ≤ r))
def sizP (r : Int) : Int := if isB r then (if r < 128 then 1 else if r < 2048 then 2 else if r < 65536 then 3 else 4) else 0
def lenP (c : Nat) : Nat := if c < 128 then 1 else if 194 ≤ c ∧ c < 224 then 2 else if 224 ≤ c ∧ c < 240 then 3 else if 240 ≤ c ∧ c < 245 then 4 else 0
theorem xdd (r : Int) (w : World) : Calls Tryz.prog 66 #[.int .i64 r] w fun e w' => e = .returned (.bool (isB r)) ∧ w = w' := by
 by_cases h0 : 0 ≤ r
 · by_cases h1 : r ≤ 1114111
   · have g0 : decide (0 ≤ r) = true := by simpa using h0
     have g1 : decide (r ≤ 1114111) = true := by simpa using h1
     by_cases h2 : r < 55296
     · have e : isB r = true := by simp [isB, h0, h1, h2]
       have g2 : decide (r < 55296) = true := by simpa using h2
       rw [e]
       go_enter Tryz.func66, Tryz.ntmps66
       go_wp2_with fail
       go_ret
       exact ⟨rfl, rfl⟩
     have g2 : decide (r < 55296) = false := by simp; omega
     by_cases h3 : 57344 ≤ r
     · have e : isB r = true := by simp [isB, h0, h1, h3]
       have g3 : decide (57344 ≤ r) = true := by simpa using h3
       rw [e]
       go_enter Tryz.func66, Tryz.ntmps66
       go_wp2_with fail
       go_ret
       exact ⟨rfl, rfl⟩
     have e : isB r = false := by simp [isB, h2]; omega
     have g3 : decide (57344 ≤ r) = false := by simp; omega
     rw [e]
     go_enter Tryz.func66, Tryz.ntmps66
     go_wp2_with fail
     go_ret
     exact ⟨rfl, rfl⟩
   have e : isB r = false := by simp [isB]; omega
   have g0 : decide (0 ≤ r) = true := by simpa using h0
   have g1 : decide (r ≤ 1114111) = false := by simp; omega
   rw [e]
   go_enter Tryz.func66, Tryz.ntmps66
   go_wp2_with fail
   go_ret
   exact ⟨rfl, rfl⟩
 have e : isB r = false := by simp [isB]; omega
 have g0 : decide (0 ≤ r) = false := by simp; omega
 rw [e]
 go_enter Tryz.func66, Tryz.ntmps66
 go_wp2_with fail
 go_ret
 exact ⟨rfl, rfl⟩
theorem xbl (r : Int) (w : World) : Calls Tryz.prog 101 #[.int .i64 r] w fun e w' => e = .returned (.int .i64 (sizP r)) ∧ w = w' := by
 have HI := xmA (fun W => xdd r W)
 have He : Hid (sizP r = if isB r then (if r < 128 then 1 else if r < 2048 then 2 else if r < 65536 then 3 else 4) else 0) := xmA rfl
 generalize sizP r = q at He
 cases hb : isB r with
 | false =>
  rw [hb] at HI He
  simp only [Bool.false_eq_true, if_false] at He
  clear hb
  go_enter Tryz.func101, Tryz.ntmps101
  go_wp2_with fail
  refine (HI.out _).mono ?_
  rintro e w1 ⟨rfl, rfl⟩
  go_wp2_with fail
  go_ret
  exact ⟨by rw [He.out]; rfl, rfl⟩
 | true =>
  rw [hb] at HI He
  simp only [if_true] at He
  clear hb
  by_cases h1 : r < 128
  · have E : Hid (q = 1) := xmA (by rw [He.out, if_pos h1])
    clear He
    go_enter Tryz.func101, Tryz.ntmps101
    go_wp2_with fail
    refine (HI.out _).mono ?_
    rintro e w1 ⟨rfl, rfl⟩
    go_wp2_with fail
    go_ret
    exact ⟨by rw [E.out]; rfl, rfl⟩
  have g1 : decide (r < 128) = false := by simp; omega
  by_cases h2 : r < 2048
  · have E : Hid (q = 2) := xmA (by rw [He.out, if_neg h1, if_pos h2])
    clear He
    go_enter Tryz.func101, Tryz.ntmps101
    go_wp2_with fail
    refine (HI.out _).mono ?_
    rintro e w1 ⟨rfl, rfl⟩
    go_wp2_with fail
    go_ret
    exact ⟨by rw [E.out]; rfl, rfl⟩
  have g2 : decide (r < 2048) = false := by simp; omega
  by_cases h3 : r < 65536
  · have E : Hid (q = 3) := xmA (by rw [He.out, if_neg h1, if_neg h2, if_pos h3])
    clear He
    go_enter Tryz.func101, Tryz.ntmps101
    go_wp2_with fail
    refine (HI.out _).mono ?_
    rintro e w1 ⟨rfl, rfl⟩
    go_wp2_with fail
    go_ret
    exact ⟨by rw [E.out]; rfl, rfl⟩
  have g3 : decide (r < 65536) = false := by simp; omega
  have E : Hid (q = 4) := xmA (by rw [He.out, if_neg h1, if_neg h2, if_neg h3])
  clear He
  go_enter Tryz.func101, Tryz.ntmps101
  go_wp2_with fail
  refine (HI.out _).mono ?_
  rintro e w1 ⟨rfl, rfl⟩
  go_wp2_with fail
  go_ret
  exact ⟨by rw [E.out]; rfl, rfl⟩
theorem xb0 (a : Nat) (ha : a < 9223372036854775808) : (BitVec.ofInt 64 (a : Int)).toNat = a := by
 rw [BitVec.ofInt_natCast, BitVec.toNat_ofNat]; exact Nat.mod_eq_of_lt (by omega)
theorem or_64 (a b : Nat) (ha : a < 1099511627776) (hb : b < 64) : bits .or .i64 ((a : Int) * 64) (b : Int) = (a : Int) * 64 + b := by
 have e : (a : Int) * 64 = ((a * 64 : Nat) : Int) := by omega
 rw [e]
 show IntKind.i64.wrap ((BitVec.ofInt 64 ((a * 64 : Nat) : Int) ||| BitVec.ofInt 64 (b : Int)).toNat : Int) = _
 rw [BitVec.toNat_or, xb0 _ (by omega), xb0 _ (by omega)]
 have h := Nat.shiftLeft_add_eq_or_of_lt (i := 6) (show b < 2 ^ 6 by omega) a
 rw [Nat.shiftLeft_eq] at h
 rw [show a * 64 = a * 2 ^ 6 by omega, ← h, IntKind.wrap_i64]
 omega
theorem xhN (n k : Nat) (hk : k < 16) (hn : n < 256) : bits .and .i64 (n : Int) ((2 ^ k - 1 : Nat) : Int) = ((n % 2 ^ k : Nat) : Int) := by
 have hp : 2 ^ k ≤ 2 ^ 16 := Nat.pow_le_pow_right (by omega) (by omega)
 show IntKind.i64.wrap ((BitVec.ofInt 64 (n : Int) &&& BitVec.ofInt 64 ((2 ^ k - 1 : Nat) : Int)).toNat : Int) = _
 rw [BitVec.toNat_and, xb0 _ (by omega), xb0 _ (by omega), Nat.and_two_pow_sub_one_eq_mod, IntKind.wrap_i64]
 have : n % 2 ^ k ≤ n := Nat.mod_le _ _
 omega
def xa4 (r : Nat) : List UInt8 → Option Nat
 | [] => some r
 | c :: l => if c.toNat / 64 = 2 then xa4 (r * 64 + c.toNat % 64) l else none
def xb6 (c : UInt8) : Nat := if 1 < lenP c.toNat then c.toNat % 2 ^ (7 - lenP c.toNat) else c.toNat
def getP : List UInt8 → Int × Nat
 | [] => (65533, 0)
 | c :: l => if lenP c.toNat = 0 ∨ l.length + 1 < lenP c.toNat then (65533, 1) else
  match xa4 (xb6 c) (l.take (lenP c.toNat - 1)) with
  | none => (65533, 1)
  | some r => if sizP r = lenP c.toNat then (r, lenP c.toNat) else (65533, 1)
theorem xe8 (c : Nat) (w : World) (hc : c < 256) : Calls Tryz.prog 136 #[.int .u8 (c : Int)] w fun e w' => e = .returned (.int .i64 (lenP c)) ∧ w = w' := by
 have He : Hid (lenP c = if c < 128 then 1 else if 194 ≤ c ∧ c < 224 then 2 else if 224 ≤ c ∧ c < 240 then 3 else if 240 ≤ c ∧ c < 245 then 4 else 0) := xmA rfl
 generalize lenP c = q at *
 have gg : (c < 128 ∧ q = 1) ∨ (128 ≤ c ∧ c < 194 ∧ q = 0) ∨ (194 ≤ c ∧ c < 224 ∧ q = 2) ∨ (224 ≤ c ∧ c < 240 ∧ q = 3) ∨ (240 ≤ c ∧ c < 245 ∧ q = 4) ∨ (245 ≤ c ∧ q = 0) := by
  have h := He.out
  split at h
  · left; omega
  split at h
  · omega
  split at h
  · omega
  split at h <;> omega
 clear He
 rcases gg with ⟨h1, rfl⟩ | ⟨h1, h2, rfl⟩ | ⟨h1, h2, rfl⟩ | ⟨h1, h2, rfl⟩ | ⟨h1, h2, rfl⟩ | ⟨h1, rfl⟩
 · have g1 : decide ((c : Int) < 128) = true := by simp; omega
   go_enter Tryz.func136, Tryz.ntmps136
   go_wp2_with fail
   go_ret
   exact ⟨rfl, rfl⟩
 all_goals
  have g1 : decide ((c : Int) < 128) = false := by simp; omega
  obtain ⟨b1, e1⟩ : ∃ b, decide ((194 : Int) ≤ (c : Int)) = b := ⟨_, rfl⟩
  obtain ⟨b2, e2⟩ : ∃ b, decide ((c : Int) < 224) = b := ⟨_, rfl⟩
  obtain ⟨b3, e3⟩ : ∃ b, decide ((224 : Int) ≤ (c : Int)) = b := ⟨_, rfl⟩
  obtain ⟨b4, e4⟩ : ∃ b, decide ((c : Int) < 240) = b := ⟨_, rfl⟩
  obtain ⟨b5, e5⟩ : ∃ b, decide ((240 : Int) ≤ (c : Int)) = b := ⟨_, rfl⟩
  obtain ⟨b6, e6⟩ : ∃ b, decide ((c : Int) < 245) = b := ⟨_, rfl⟩
  cases b1 <;> cases b2 <;> cases b3 <;> cases b4 <;> cases b5 <;> cases b6 <;> first | (exfalso; simp at e1 e2 e3 e4 e5 e6; omega) | skip
  all_goals
   go_enter Tryz.func136, Tryz.ntmps136
   go_wp2_with fail
   go_ret
   exact ⟨rfl, rfl⟩
def encB (c : UInt8) (_ : Nat) : Value := .int .u8 c.toNat
def GetR (r0 : Nat) (L : List UInt8) (rv iv : Value) : Prop :=
 ∃ (i r : Nat), iv = .int .i64 i ∧ i ≤ L.length ∧ rv = .int .i64 r ∧ r < 128 * 64 ^ i ∧ xa4 r0 L = xa4 r (L.drop i)
set_option maxHeartbeats 2000000 in
theorem xcD (b off cap n : Nat) (c : UInt8) (l : List UInt8) (w : World) (hn : n = l.length + 1) (hcap : n ≤ cap)
 (hc : ∀ i x, (c :: l)[i]? = some x → w.cell? ⟨b, off + i, none⟩ = some (.int .u8 (x.toNat : Int))) :
 Calls Tryz.prog 100 #[.slice (some ⟨b, off, none⟩) n cap] w fun e w' => e = .returned (.tuple #[.int .i64 (getP (c :: l)).1, .int .i64 ((getP (c :: l)).2 : Int)]) ∧ w = w' := by
 have hc8 := c.toNat_lt
 have c0 := hc 0 c rfl
 simp only [Nat.add_zero] at c0
 have HC := xmA hc
 clear hc
 have HL := xmA (fun W => xe8 c.toNat W (by omega))
 have hn1 : 1 ≤ n := by omega
 have hn0 : ((n : Int) == 0) = false := by simp; omega
 have Hn := xmA hn
 have Hg : Hid (getP (c :: l) = if lenP c.toNat = 0 ∨ l.length + 1 < lenP c.toNat then (65533, 1) else
  match xa4 (xb6 c) (l.take (lenP c.toNat - 1)) with
  | none => (65533, 1)
  | some r => if sizP r = lenP c.toNat then ((r : Int), lenP c.toNat) else (65533, 1)) := xmA rfl
 generalize getP (c :: l) = G at *
 have Hh : Hid (xb6 c = if 1 < lenP c.toNat then c.toNat % 2 ^ (7 - lenP c.toNat) else c.toNat) := xmA rfl
 clear hn
 have hq : lenP c.toNat = 0 ∨ lenP c.toNat = 1 ∨ lenP c.toNat = 2 ∨ lenP c.toNat = 3 ∨ lenP c.toNat = 4 := by
  unfold lenP; split; · omega
  · split; · omega
    · split; · omega
      · split <;> omega
 by_cases hbad : lenP c.toNat = 0 ∨ n < lenP c.toNat
 · have E : Hid (G = (65533, 1)) := xmA (by rw [Hg.out]; exact if_pos (by have := Hn.out; omega))
   clear Hg Hh
   generalize lenP c.toNat = q at *
   by_cases h0 : q = 0
   · subst h0
     go_enter Tryz.func100, Tryz.ntmps100
     go_wp2_with fail
     refine (HL.out _).mono ?_
     rintro e w1 ⟨rfl, rfl⟩
     go_wp2_with fail
     go_ret2
     exact ⟨by rw [E.out]; rfl, rfl⟩
   have g1 : ((q : Int) == 0) = false := by simp; omega
   have g2 : decide ((n : Int) < (q : Int)) = true := by simp; omega
   have g3 : decide (n < q) = true := by simp; omega
   clear hbad hq
   go_enter Tryz.func100, Tryz.ntmps100
   go_wp2_with fail
   refine (HL.out _).mono ?_
   rintro e w1 ⟨rfl, rfl⟩
   go_wp2_with fail
   go_ret2
   exact ⟨by rw [E.out]; rfl, rfl⟩
 have E : Hid (G = match xa4 (xb6 c) (l.take (lenP c.toNat - 1)) with
 | none => (65533, 1)
 | some r => if sizP r = lenP c.toNat then ((r : Int), lenP c.toNat) else (65533, 1)) := xmA (by rw [Hg.out]; exact if_neg (by have := Hn.out; omega))
 clear Hg
 have hL : (l.take (lenP c.toNat - 1)).length = lenP c.toNat - 1 := by rw [List.length_take]; have := Hn.out; omega
 have HcL : Hid (∀ i x, (l.take (lenP c.toNat - 1))[i]? = some x → w.cell? ⟨b, off + 1 + i, none⟩ = some (.int .u8 (x.toNat : Int))) := xmA (fun i x hx => by
  rw [show off + 1 + i = off + (i + 1) by omega]
  refine HC.out (i + 1) x ?_
  rw [List.getElem?_take] at hx
  split at hx
  · simpa using hx
  cases hx)
 generalize l.take (lenP c.toNat - 1) = L at *
 generalize xb6 c = r0 at *
 by_cases h1 : lenP c.toNat = 1
 · rw [h1] at HL Hh E hL
   have hc128 : c.toNat < 128 := by
    unfold lenP at h1
    split at h1
    · assumption
    split at h1
    · omega
    split at h1
    · omega
    split at h1 <;> omega
   have hr0 : Hid (r0 = c.toNat) := xmA (by rw [Hh.out]; rfl)
   have hr0b : r0 < 128 := by rw [hr0.out]; omega
   have hLl : L.length = 0 := by omega
   clear Hh hL hbad hq h1
   have g2 : decide ((n : Int) < 1) = false := by simp; omega
   by_cases hc1 : cap = 1
   · subst hc1
     obtain rfl : n = 1 := by omega
     go_enter Tryz.func100, Tryz.ntmps100
     go_wp2_with fail
     refine (HL.out _).mono ?_
     rintro e w1 ⟨rfl, rfl⟩
     go_wp2_with fail
     go_loop [5, 39] (fun rv iv => GetR r0 L rv iv) (fun _ iv => L.length - (intOf iv).toNat)
     case atStart => exact ⟨0, r0, rfl, Nat.zero_le _, by rw [hr0.out], by omega, rfl⟩
     case round =>
      obtain ⟨i, r, rfl, hi, rfl, hr, ht⟩ := hrel
      have hi4 : i ≤ 3 := by omega
      have hrb : r < 33554432 := by
       have : 64 ^ i ≤ 64 ^ 3 := Nat.pow_le_pow_right (by omega) hi4
       omega
      have Ht := xmA ht
      have Hr := xmA hr
      clear ht hr
      by_cases hil : i < L.length
      · exact absurd hil (by omega)
      have hLi : i = L.length := by omega
      have EE : Hid (G = if sizP r = ((1 : Nat) : Int) then ((r : Int), 1) else (65533, 1)) := xmA (by rw [E.out, Ht.out, List.drop_eq_nil_of_le (by omega), xa4])
      have HS := xmA (fun W => xbl r W)
      by_cases hs : sizP r = 1
      · have E2 : Hid (G = ((r : Int), 1)) := xmA (by rw [EE.out]; exact if_pos hs)
        rw [hs] at HS
        clear EE hs hLi
        go_wp2_with fail
        refine (HS.out _).mono ?_
        rintro e w1 ⟨rfl, rfl⟩
        go_wp2_with fail
        go_ret2
        exact ⟨by rw [E2.out]; rfl, rfl⟩
      have E2 : Hid (G = (65533, 1)) := xmA (by rw [EE.out]; exact if_neg hs)
      have g5 : (sizP r != 1) = true := by simp only [bne_iff_ne, ne_eq]; exact hs
      clear EE hs hLi
      generalize sizP r = sz at *
      go_wp2_with fail
      refine (HS.out _).mono ?_
      rintro e w1 ⟨rfl, rfl⟩
      go_wp2_with fail
      go_ret2
      exact ⟨by rw [E2.out]; rfl, rfl⟩
   have g4 : ¬ cap - 1 = 0 := by omega
   go_enter Tryz.func100, Tryz.ntmps100
   go_wp2_with fail
   refine (HL.out _).mono ?_
   rintro e w1 ⟨rfl, rfl⟩
   go_wp2_with fail
   go_loop [5, 39] (fun rv iv => GetR r0 L rv iv) (fun _ iv => L.length - (intOf iv).toNat)
   case atStart => exact ⟨0, r0, rfl, Nat.zero_le _, by rw [hr0.out], by omega, rfl⟩
   case round =>
    obtain ⟨i, r, rfl, hi, rfl, hr, ht⟩ := hrel
    have hi4 : i ≤ 3 := by omega
    have hrb : r < 33554432 := by
     have : 64 ^ i ≤ 64 ^ 3 := Nat.pow_le_pow_right (by omega) hi4
     omega
    have Ht := xmA ht
    have Hr := xmA hr
    clear ht hr
    by_cases hil : i < L.length
    · exact absurd hil (by omega)
    have hLi : i = L.length := by omega
    have EE : Hid (G = if sizP r = ((1 : Nat) : Int) then ((r : Int), 1) else (65533, 1)) := xmA (by rw [E.out, Ht.out, List.drop_eq_nil_of_le (by omega), xa4])
    have HS := xmA (fun W => xbl r W)
    by_cases hs : sizP r = 1
    · have E2 : Hid (G = ((r : Int), 1)) := xmA (by rw [EE.out]; exact if_pos hs)
      rw [hs] at HS
      clear EE hs hLi
      go_wp2_with fail
      refine (HS.out _).mono ?_
      rintro e w1 ⟨rfl, rfl⟩
      go_wp2_with fail
      go_ret2
      exact ⟨by rw [E2.out]; rfl, rfl⟩
    have E2 : Hid (G = (65533, 1)) := xmA (by rw [EE.out]; exact if_neg hs)
    have g5 : (sizP r != 1) = true := by simp only [bne_iff_ne, ne_eq]; exact hs
    clear EE hs hLi
    generalize sizP r = sz at *
    go_wp2_with fail
    refine (HS.out _).mono ?_
    rintro e w1 ⟨rfl, rfl⟩
    go_wp2_with fail
    go_ret2
    exact ⟨by rw [E2.out]; rfl, rfl⟩
 have hq2 : lenP c.toNat = 2 ∨ lenP c.toNat = 3 ∨ lenP c.toNat = 4 := by omega
 clear hq h1
 rcases hq2 with h2 | h2 | h2
 · rw [h2] at HL Hh E hL
   have hr0 : Hid (r0 = c.toNat % 2 ^ (7 - 2)) := xmA (by rw [Hh.out]; rfl)
   have hr0b : r0 < 128 := by rw [hr0.out]; omega
   have hqn : 2 ≤ n := by omega
   have hLl : L.length = 2 - 1 := hL
   have g2 : decide ((n : Int) < 2) = false := by simp; omega
   have g4 : ¬ cap = 1 := by omega
   clear hL hbad h2 Hh
   go_enter Tryz.func100, Tryz.ntmps100
   go_wp2_with fail
   refine (HL.out _).mono ?_
   rintro e w1 ⟨rfl, rfl⟩
   go_wp2_with fail
   go_loop [5, 39] (fun rv iv => GetR r0 L rv iv) (fun _ iv => L.length - (intOf iv).toNat)
   case atStart => exact ⟨0, r0, rfl, Nat.zero_le _, by rw [hr0.out]; have h6 := xhN c.toNat 5 (by omega) (by omega); exact congrArg (Value.int .i64) (by simpa using h6), by omega, rfl⟩
   case round =>
    obtain ⟨i, r, rfl, hi, rfl, hr, ht⟩ := hrel
    have hi4 : i ≤ 3 := by omega
    have hrb : r < 33554432 := by
     have : 64 ^ i ≤ 64 ^ 3 := Nat.pow_le_pow_right (by omega) hi4
     omega
    have Ht := xmA ht
    have Hr := xmA hr
    clear ht hr
    by_cases hil : i < L.length
    · obtain ⟨x, hx⟩ : ∃ x, L[i]? = some x := ⟨_, List.getElem?_eq_getElem hil⟩
      have cx := HcL.out i x hx
      have Hd : Hid (L.drop i = x :: L.drop (i + 1)) := xmA (by
       obtain ⟨h1, h2⟩ := List.getElem?_eq_some_iff.1 hx
       rw [List.drop_eq_getElem_cons h1, h2])
      have hx8 := x.toNat_lt
      have hil2 : i < 2 - 1 := by omega
      clear hx
      by_cases hx2 : x.toNat / 64 = 2
      · have g3 : ((x.toNat : Int) / 64 != 2) = false := by
         have : (x.toNat : Int) / 64 = 2 := by omega
         rw [this]; rfl
        have Hx2 := xmA hx2
        clear hx2
        go_wp2_with fail
        go_round
        case rel =>
         refine ⟨i + 1, r * 64 + x.toNat % 64, by go_num, by omega, ?_, ?_, ?_⟩
         · have := or_64 r (x.toNat % 64) (by omega) (by omega)
           rw [show ((x.toNat : Int) % 64) = ((x.toNat % 64 : Nat) : Int) by omega, this]
           exact congrArg (Value.int .i64) (by omega)
         · have h5 := Hr.out
           rw [Nat.pow_succ]; omega
         rw [Ht.out, Hd.out, xa4, if_pos Hx2.out]
        case measure => simp [intOf]; omega
      have g3 : ((x.toNat : Int) / 64 != 2) = true := by
       simp only [bne_iff_ne, ne_eq]; omega
      have EE : Hid (G = (65533, 1)) := xmA (by rw [E.out, Ht.out, Hd.out, xa4, if_neg hx2])
      clear hx2
      go_wp2_with fail
      go_ret2
      exact ⟨by rw [EE.out]; rfl, rfl⟩
    have hLi : i = L.length := by omega
    have EE : Hid (G = if sizP r = ((2 : Nat) : Int) then ((r : Int), 2) else (65533, 1)) := xmA (by rw [E.out, Ht.out, List.drop_eq_nil_of_le (by omega), xa4])
    have HS := xmA (fun W => xbl r W)
    by_cases hs : sizP r = 2
    · have E2 : Hid (G = ((r : Int), 2)) := xmA (by rw [EE.out]; exact if_pos hs)
      rw [hs] at HS
      clear EE hs hLi
      go_wp2_with fail
      refine (HS.out _).mono ?_
      rintro e w1 ⟨rfl, rfl⟩
      go_wp2_with fail
      go_ret2
      exact ⟨by rw [E2.out]; rfl, rfl⟩
    have E2 : Hid (G = (65533, 1)) := xmA (by rw [EE.out]; exact if_neg hs)
    have g5 : (sizP r != 2) = true := by simp only [bne_iff_ne, ne_eq]; exact hs
    clear EE hs hLi
    generalize sizP r = sz at *
    go_wp2_with fail
    refine (HS.out _).mono ?_
    rintro e w1 ⟨rfl, rfl⟩
    go_wp2_with fail
    go_ret2
    exact ⟨by rw [E2.out]; rfl, rfl⟩
 · rw [h2] at HL Hh E hL
   have hr0 : Hid (r0 = c.toNat % 2 ^ (7 - 3)) := xmA (by rw [Hh.out]; rfl)
   have hr0b : r0 < 128 := by rw [hr0.out]; omega
   have hqn : 3 ≤ n := by omega
   have hLl : L.length = 3 - 1 := hL
   have g2 : decide ((n : Int) < 3) = false := by simp; omega
   have g4 : ¬ cap = 1 := by omega
   clear hL hbad h2 Hh
   go_enter Tryz.func100, Tryz.ntmps100
   go_wp2_with fail
   refine (HL.out _).mono ?_
   rintro e w1 ⟨rfl, rfl⟩
   go_wp2_with fail
   go_loop [5, 39] (fun rv iv => GetR r0 L rv iv) (fun _ iv => L.length - (intOf iv).toNat)
   case atStart => exact ⟨0, r0, rfl, Nat.zero_le _, by rw [hr0.out]; have h6 := xhN c.toNat 4 (by omega) (by omega); exact congrArg (Value.int .i64) (by simpa using h6), by omega, rfl⟩
   case round =>
    obtain ⟨i, r, rfl, hi, rfl, hr, ht⟩ := hrel
    have hi4 : i ≤ 3 := by omega
    have hrb : r < 33554432 := by
     have : 64 ^ i ≤ 64 ^ 3 := Nat.pow_le_pow_right (by omega) hi4
     omega
    have Ht := xmA ht
    have Hr := xmA hr
    clear ht hr
    by_cases hil : i < L.length
    · obtain ⟨x, hx⟩ : ∃ x, L[i]? = some x := ⟨_, List.getElem?_eq_getElem hil⟩
      have cx := HcL.out i x hx
      have Hd : Hid (L.drop i = x :: L.drop (i + 1)) := xmA (by
       obtain ⟨h1, h2⟩ := List.getElem?_eq_some_iff.1 hx
       rw [List.drop_eq_getElem_cons h1, h2])
      have hx8 := x.toNat_lt
      have hil2 : i < 3 - 1 := by omega
      clear hx
      by_cases hx2 : x.toNat / 64 = 2
      · have g3 : ((x.toNat : Int) / 64 != 2) = false := by
         have : (x.toNat : Int) / 64 = 2 := by omega
         rw [this]; rfl
        have Hx2 := xmA hx2
        clear hx2
        go_wp2_with fail
        go_round
        case rel =>
         refine ⟨i + 1, r * 64 + x.toNat % 64, by go_num, by omega, ?_, ?_, ?_⟩
         · have := or_64 r (x.toNat % 64) (by omega) (by omega)
           rw [show ((x.toNat : Int) % 64) = ((x.toNat % 64 : Nat) : Int) by omega, this]
           exact congrArg (Value.int .i64) (by omega)
         · have h5 := Hr.out
           rw [Nat.pow_succ]; omega
         rw [Ht.out, Hd.out, xa4, if_pos Hx2.out]
        case measure => simp [intOf]; omega
      have g3 : ((x.toNat : Int) / 64 != 2) = true := by
       simp only [bne_iff_ne, ne_eq]; omega
      have EE : Hid (G = (65533, 1)) := xmA (by rw [E.out, Ht.out, Hd.out, xa4, if_neg hx2])
      clear hx2
      go_wp2_with fail
      go_ret2
      exact ⟨by rw [EE.out]; rfl, rfl⟩
    have hLi : i = L.length := by omega
    have EE : Hid (G = if sizP r = ((3 : Nat) : Int) then ((r : Int), 3) else (65533, 1)) := xmA (by rw [E.out, Ht.out, List.drop_eq_nil_of_le (by omega), xa4])
    have HS := xmA (fun W => xbl r W)
    by_cases hs : sizP r = 3
    · have E2 : Hid (G = ((r : Int), 3)) := xmA (by rw [EE.out]; exact if_pos hs)
      rw [hs] at HS
      clear EE hs hLi
      go_wp2_with fail
      refine (HS.out _).mono ?_
      rintro e w1 ⟨rfl, rfl⟩
      go_wp2_with fail
      go_ret2
      exact ⟨by rw [E2.out]; rfl, rfl⟩
    have E2 : Hid (G = (65533, 1)) := xmA (by rw [EE.out]; exact if_neg hs)
    have g5 : (sizP r != 3) = true := by simp only [bne_iff_ne, ne_eq]; exact hs
    clear EE hs hLi
    generalize sizP r = sz at *
    go_wp2_with fail
    refine (HS.out _).mono ?_
    rintro e w1 ⟨rfl, rfl⟩
    go_wp2_with fail
    go_ret2
    exact ⟨by rw [E2.out]; rfl, rfl⟩
 rw [h2] at HL Hh E hL
 have hr0 : Hid (r0 = c.toNat % 2 ^ (7 - 4)) := xmA (by rw [Hh.out]; rfl)
 have hr0b : r0 < 128 := by rw [hr0.out]; omega
 have hqn : 4 ≤ n := by omega
 have hLl : L.length = 4 - 1 := hL
 have g2 : decide ((n : Int) < 4) = false := by simp; omega
 have g4 : ¬ cap = 1 := by omega
 clear hL hbad h2 Hh
 go_enter Tryz.func100, Tryz.ntmps100
 go_wp2_with fail
 refine (HL.out _).mono ?_
 rintro e w1 ⟨rfl, rfl⟩
 go_wp2_with fail
 go_loop [5, 39] (fun rv iv => GetR r0 L rv iv) (fun _ iv => L.length - (intOf iv).toNat)
 case atStart => exact ⟨0, r0, rfl, Nat.zero_le _, by rw [hr0.out]; have h6 := xhN c.toNat 3 (by omega) (by omega); exact congrArg (Value.int .i64) (by simpa using h6), by omega, rfl⟩
 case round =>
  obtain ⟨i, r, rfl, hi, rfl, hr, ht⟩ := hrel
  have hi4 : i ≤ 3 := by omega
  have hrb : r < 33554432 := by
   have : 64 ^ i ≤ 64 ^ 3 := Nat.pow_le_pow_right (by omega) hi4
   omega
  have Ht := xmA ht
  have Hr := xmA hr
  clear ht hr
  by_cases hil : i < L.length
  · obtain ⟨x, hx⟩ : ∃ x, L[i]? = some x := ⟨_, List.getElem?_eq_getElem hil⟩
    have cx := HcL.out i x hx
    have Hd : Hid (L.drop i = x :: L.drop (i + 1)) := xmA (by
     obtain ⟨h1, h2⟩ := List.getElem?_eq_some_iff.1 hx
     rw [List.drop_eq_getElem_cons h1, h2])
    have hx8 := x.toNat_lt
    have hil2 : i < 4 - 1 := by omega
    clear hx
    by_cases hx2 : x.toNat / 64 = 2
    · have g3 : ((x.toNat : Int) / 64 != 2) = false := by
       have : (x.toNat : Int) / 64 = 2 := by omega
       rw [this]; rfl
      have Hx2 := xmA hx2
      clear hx2
      go_wp2_with fail
      go_round
      case rel =>
       refine ⟨i + 1, r * 64 + x.toNat % 64, by go_num, by omega, ?_, ?_, ?_⟩
       · have := or_64 r (x.toNat % 64) (by omega) (by omega)
         rw [show ((x.toNat : Int) % 64) = ((x.toNat % 64 : Nat) : Int) by omega, this]
         exact congrArg (Value.int .i64) (by omega)
       · have h5 := Hr.out
         rw [Nat.pow_succ]; omega
       rw [Ht.out, Hd.out, xa4, if_pos Hx2.out]
      case measure => simp [intOf]; omega
    have g3 : ((x.toNat : Int) / 64 != 2) = true := by
     simp only [bne_iff_ne, ne_eq]; omega
    have EE : Hid (G = (65533, 1)) := xmA (by rw [E.out, Ht.out, Hd.out, xa4, if_neg hx2])
    clear hx2
    go_wp2_with fail
    go_ret2
    exact ⟨by rw [EE.out]; rfl, rfl⟩
  have hLi : i = L.length := by omega
  have EE : Hid (G = if sizP r = ((4 : Nat) : Int) then ((r : Int), 4) else (65533, 1)) := xmA (by rw [E.out, Ht.out, List.drop_eq_nil_of_le (by omega), xa4])
  have HS := xmA (fun W => xbl r W)
  by_cases hs : sizP r = 4
  · have E2 : Hid (G = ((r : Int), 4)) := xmA (by rw [EE.out]; exact if_pos hs)
    rw [hs] at HS
    clear EE hs hLi
    go_wp2_with fail
    refine (HS.out _).mono ?_
    rintro e w1 ⟨rfl, rfl⟩
    go_wp2_with fail
    go_ret2
    exact ⟨by rw [E2.out]; rfl, rfl⟩
  have E2 : Hid (G = (65533, 1)) := xmA (by rw [EE.out]; exact if_neg hs)
  have g5 : (sizP r != 4) = true := by simp only [bne_iff_ne, ne_eq]; exact hs
  clear EE hs hLi
  generalize sizP r = sz at *
  go_wp2_with fail
  refine (HS.out _).mono ?_
  rintro e w1 ⟨rfl, rfl⟩
  go_wp2_with fail
  go_ret2
  exact ⟨by rw [E2.out]; rfl, rfl⟩
end Go.Proofs.YtjahiihmoglpfaaGreatDoor
