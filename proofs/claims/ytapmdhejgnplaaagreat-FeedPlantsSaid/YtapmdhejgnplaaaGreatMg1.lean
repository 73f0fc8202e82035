/-
  Plain words on worlds for this seat's walks: no program in sight. 'Keeps S w w': what w' has of w's blocks outside S is as it was.
-/
import Derived.WalkKit
import Derived.WalkSpells
import Derived.WalkLawsBesides
import Derived.Lib.Hide
import Derived.Test.YtapmdhejgnplaaaGreatProg
import Derived.BigQuiet
import Derived.Deep.QuietTactic
import Derived.Deep.Cut
import Derived.BigRegion
import Derived.Handy
import Derived.Deep.RegionWith
import Derived.Deep.RegionHeld3
import Derived.Laws.AppendOwn
import Derived.Laws.AppendOwnNone
import Derived.StillTailTactics
namespace Go.Proofs.YtapmdhejgnplaaaGreat
open Go.RowKit Go.Proofs.Tryz
set_option linter.unusedVariables false
set_option linter.unusedSimpArgs false
set_option maxRecDepth 100000
set_option maxHeartbeats 4000000
section
theorem xa {p : Prop} (h : p) : Hid p := Lib.hid h
open Go.RowKit
structure xaa (S : Nat -> Prop) (w w' : World) : Prop where
 os : w'.os = w.os
 tape : w'.tape = w.tape
 output : w'.output = w.output
 size : w.heap.size <= w'.heap.size
 block : ∀ k, k < w.heap.size -> ¬ S k -> w'.heap[k]? = w.heap[k]?
abbrev KF := xaa fun _ => False
abbrev LI := List (Int × Int)
theorem xaa.refl (S : Nat -> Prop) (w : World) : xaa S w w := ⟨rfl, rfl, rfl, Nat.le_refl _, fun _ _ _ => rfl⟩
theorem xaa.trans {S : Nat -> Prop} {a b c : World} (h : xaa S a b) (k : xaa S b c) : xaa S a c :=
 ⟨k.os.trans h.os, k.tape.trans h.tape, k.output.trans h.output, Nat.le_trans h.size k.size,
  fun i hi hs => (k.block i (Nat.lt_of_lt_of_le hi h.size) hs).trans (h.block i hi hs)⟩
theorem xaa.mono {S T : Nat -> Prop} {a b : World} (h : xaa S a b) (hst : ∀ k, k < a.heap.size -> S k -> T k) : xaa T a b :=
 ⟨h.os, h.tape, h.output, h.size, fun i hi hs => h.block i hi (fun hS => hs (hst i hi hS))⟩
theorem xaa.drawN {S : Nat -> Prop} {a b : World} (h : xaa S a b) (n : Nat) : xaa S a (b.drewN n) := ⟨h.os, h.tape, h.output, h.size, h.block⟩
theorem xaa.drew {S : Nat -> Prop} {a b : World} (h : xaa S a b) : xaa S a b.drew := ⟨h.os, h.tape, h.output, h.size, h.block⟩
theorem xaa.alloc {S : Nat -> Prop} {a b : World} (h : xaa S a b) (o : Obj) : xaa S a (b.alloc o) :=
 ⟨h.os, h.tape, h.output, by have := h.size; simp; omega, fun k hk hs => by rw [Below.heap_alloc _ _ _ (by have := h.size; omega)]; exact h.block k hk hs⟩
theorem xaa.setCell {S : Nat -> Prop} {a b : World} (h : xaa S a b) {p : Addr} (hp : S p.block \/ a.heap.size <= p.block) (u : Value) : xaa S a (b.setCell p u) :=
 ⟨h.os, h.tape, h.output, by have := h.size; simp [World.setCell]; omega, fun k hk hs => by
  rw [Below.heap_setCell _ _ _ _ (by intro e; subst e; rcases hp with hp | hp; exact hs hp; omega)]; exact h.block k hk hs⟩
class KI (S : Nat -> Prop) (a b : World) : Prop where
  out : xaa S a b
instance KI.re (S : Nat -> Prop) (a : World) : KI S a a := ⟨xaa.refl _ _⟩
instance KI.al (S : Nat -> Prop) (a b : World) (o : Obj) [h : KI S a b] : KI S a (b.alloc o) := ⟨h.out.alloc o⟩
instance KI.dr (S : Nat -> Prop) (a b : World) [h : KI S a b] : KI S a b.drew := ⟨h.out.drew⟩
instance KI.dn (S : Nat -> Prop) (a b : World) (n : Nat) [h : KI S a b] : KI S a (b.drewN n) := ⟨h.out.drawN n⟩
theorem xaa.set {S : Nat -> Prop} {a b : World} (h : xaa S a b) {p : Addr} (hp : S p.block) (u : Value) : xaa S a (b.setCell p u) := h.setCell (Or.inl hp) u
theorem xaa.setNew {S : Nat -> Prop} {a b : World} (h : xaa S a b) {p : Addr} (hp : a.heap.size <= p.block) (u : Value) : xaa S a (b.setCell p u) := h.setCell (Or.inr hp) u
theorem xaa.trans2 {S T : Nat -> Prop} {a b c : World} (h : xaa S a b) (k : xaa T b c) (ht : ∀ i, i < a.heap.size -> T i -> S i) : xaa S a c :=
 ⟨k.os.trans h.os, k.tape.trans h.tape, k.output.trans h.output, Nat.le_trans h.size k.size,
  fun i hi hs => (k.block i (Nat.lt_of_lt_of_le hi h.size) (fun hT => hs (ht i hi hT))).trans (h.block i hi hs)⟩
theorem xaa.below {S : Nat -> Prop} {a b : World} (h : xaa S a b) {B : Nat} (hB : B <= a.heap.size) (hs : ∀ k, k < B -> ¬ S k) : Below B a b :=
 ⟨h.os, h.tape, h.output, h.size, fun k hk => h.block k (by omega) (hs k hk)⟩
theorem xaa.ofBelowAll {a b : World} (h : Below a.heap.size a b) (S : Nat -> Prop) : xaa S a b :=
 ⟨h.os, h.tape, h.output, h.size, fun k hk _ => h.block k hk⟩
theorem xaa.belowAll {a b : World} (h : KF a b) : Below a.heap.size a b := h.below (Nat.le_refl _) (fun _ _ => id)
theorem xal {w : World} {a : Addr} {v : Value} (h : w.cell? a = some v) : a.block < w.heap.size := by
 unfold World.cell? at h
 split at h
 · rename_i hh; exact (Array.getElem?_eq_some_iff.1 hh).1
 simp at h
theorem xaa.cell {S : Nat -> Prop} {a b : World} (h : xaa S a b) {p : Addr} {v : Value} (hc : a.cell? p = some v) (hs : ¬ S p.block) : b.cell? p = some v :=
 (World.cell?_of_block (w := a) (h.block p.block (xal hc) hs)).trans hc
theorem xaa.frozen {S : Nat -> Prop} {a b : World} (h : xaa S a b) {p : Addr} {x : Bool} (hc : a.frozen? p = x) (hl : p.block < a.heap.size) (hs : ¬ S p.block) : b.frozen? p = x :=
 (World.frozen?_of_block (w := a) (h.block p.block hl hs)).trans hc
theorem xaa.heap {S : Nat -> Prop} {a b : World} (h : xaa S a b) {k : Nat} {o : Obj} (hc : a.heap[k]? = some o) (hs : ¬ S k) : b.heap[k]? = some o :=
 (h.block k (Array.getElem?_eq_some_iff.1 hc).1 hs).trans hc
theorem xaj {w : World} {b : Nat} {cs : Array Value} {T : TypeId} {fz : Nat × Nat} (h : w.heap[b]? = some (.cells cs T fz)) (o : Nat) : w.cell? ⟨b, o, none⟩ = cs[o]? := by
 unfold World.cell?; simp [h]
theorem xbb {w : World} {b : Nat} {cs : Array Value} {T : TypeId} (h : w.heap[b]? = some (.cells cs T (0, 0))) (o : Nat) (s : Option Nat) : w.frozen? ⟨b, o, s⟩ = false := by
 unfold World.frozen?; simp [h]
theorem xbI {w : World} {base : Nat} {e : TypeId} {size : Nat} {v : Value} {n : Nat} {xs : List Value} (h : w.ownsRow base e size v n xs) (k : Nat) : (w.drewN k).ownsRow base e size v n xs := h
theorem xac {w : World} {base : Nat} {e : TypeId} {size : Nat} {v : Value} {n : Nat} {xs : List Value} (h : w.ownsRow base e size v n xs) (o : Obj) : (w.alloc o).ownsRow base e size v n xs := World.ownsRow.alloc h o
theorem xaq (w : World) (l : List Value) (T : TypeId) : ∀ (j : Nat) (u : Value), l[j]? = some u -> (w.alloc (.cells l.toArray T)).cell? ((⟨w.heap.size, 0, none⟩ : Addr).add j) = some u := by
 intro j u hj
 have : (⟨w.heap.size, 0, none⟩ : Addr).add j = ⟨w.heap.size, j, none⟩ := by unfold Addr.add; split <;> simp_all
 rw [this, xaj (cs := l.toArray) (T := T) (fz := (0, 0)) (by show (w.heap.push _)[_]? = _; simp)]
 simpa using hj
theorem xaa.grown {S : Nat -> Prop} {a b c : World} {row : Option Nat} (h : xaa S a b) (hg : b.grownBy c row) (hr : ∀ k, row = some k -> S k \/ a.heap.size <= k) : xaa S a c :=
 ⟨hg.os.trans h.os, hg.tape.trans h.tape, hg.output.trans h.output, Nat.le_trans h.size hg.size, fun k hk hs => by
  rw [hg.block k (Nat.lt_of_lt_of_le hk h.size) (fun e => by rcases hr k e.symm with h1 | h1; exact hs h1; omega)]; exact h.block k hk hs⟩
theorem xab {w : World} {base : Nat} {e : TypeId} {size : Nat} {v : Value} {n : Nat} {xs : List Value} (h : w.ownsRow base e size v n xs) : ∀ k, v.ownBlock = some k -> base <= k := by
 rintro k hk
 rcases h.2 with ⟨rfl, _⟩ | ⟨g, cap, cur, rfl, hg, _⟩
 · simp [Value.ownBlock] at hk
 simp [Value.ownBlock] at hk; omega
theorem xad {w : World} {base : Nat} {e : TypeId} {size : Nat} {v : Value} {n : Nat} {xs : List Value} (h : w.ownsRow base e size v n xs) : ∃ a cap, v = .slice a n cap := by
 rcases h.2 with ⟨rfl, rfl⟩ | ⟨g, cap, cur, rfl, _⟩
 · exact ⟨none, 0, rfl⟩
 exact ⟨_, cap, rfl⟩
theorem xae {w : World} {a b : Addr} {v : Value} (h : a ≠ b) : (w.setCell a v).cell? b = w.cell? b := World.cell?_setCell_other w a b v h
theorem xaw {w : World} {a : Addr} {v u : Value} (h : w.cell? a = some u) : (w.setCell a v).cell? a = some v := World.cell?_setCell_same w a v h
theorem xbv {w : World} {a b : Addr} {v : Value} : (w.setCell a v).frozen? b = w.frozen? b := World.frozen?_setCell w a b v
theorem xaf {w : World} {a : Addr} {v : Value} (h : w.cell? a = some v) (o : Obj) : (w.alloc o).cell? a = some v :=
 (xaa.alloc (xaa.refl (fun _ => False) w) o).cell h id
theorem xau {w : World} {a : Addr} {v : Bool} (h : w.frozen? a = v) (hl : a.block < w.heap.size) (o : Obj) : (w.alloc o).frozen? a = v :=
 (xaa.alloc (xaa.refl (fun _ => False) w) o).frozen h hl id
end
structure TrAt (w : World) (tb rb ro kb ko : Nat) (c0 c1 : Int) : Prop where
 hd : ∃ cap, 2 <= cap /\ w.cell? ⟨tb, 0, none⟩ = some (.slice (some ⟨rb, ro, none⟩) 2 cap)
 k0 : ∃ kc, 1 <= kc /\ w.cell? ⟨rb, ro + 2, none⟩ = some (.slice (some ⟨kb, ko, none⟩) 1 kc)
 k1 : w.cell? ⟨rb, ro + 5, none⟩ = some (.slice none 0 0)
 kk : w.cell? ⟨kb, ko, none⟩ = some (.int .i64 1)
 x0 : w.cell? ⟨rb, ro + 1, none⟩ = some (.int .i64 c0)
 x1 : w.cell? ⟨rb, ro + 4, none⟩ = some (.int .i64 c1)
 fr : ∀ o, o = ro + 1 \/ o = ro + 4 -> w.frozen? ⟨rb, o, none⟩ = false
 n1 : tb ≠ rb
 n2 : kb ≠ rb
theorem TrAt.keeps {S : Nat -> Prop} {w w' : World} {tb rb ro kb ko : Nat} {c0 c1 : Int} (h : TrAt w tb rb ro kb ko c0 c1) (K : xaa S w w') (h1 : ¬ S tb) (h2 : ¬ S rb) (h3 : ¬ S kb) : TrAt w' tb rb ro kb ko c0 c1 := by
 obtain ⟨cap, hc, hd⟩ := h.hd
 obtain ⟨kc, hk, k0⟩ := h.k0
 exact ⟨⟨cap, hc, K.cell hd h1⟩, ⟨kc, hk, K.cell k0 h2⟩, K.cell h.k1 h2, K.cell h.kk h3, K.cell h.x0 h2, K.cell h.x1 h2, fun o ho => K.frozen (h.fr o ho) (show rb < w.heap.size from xal h.x0) h2, h.n1, h.n2⟩
theorem TrAt.set0 {w : World} {tb rb ro kb ko : Nat} {c0 c1 : Int} (h : TrAt w tb rb ro kb ko c0 c1) (c : Int) : TrAt (w.setCell ⟨rb, ro + 1, none⟩ (.int .i64 c)) tb rb ro kb ko c c1 := by
 obtain ⟨cap, hc, hd⟩ := h.hd
 obtain ⟨kc, hk, k0⟩ := h.k0
 have n1 := h.n1
 have n2 := h.n2
 refine ⟨⟨cap, hc, ?_⟩, ⟨kc, hk, ?_⟩, ?_, ?_, xaw h.x0, ?_, fun o ho => by rw [xbv]; exact h.fr o ho, n1, n2⟩
 · rw [xae (by simp only [ne_eq, Addr.mk.injEq]; omega)]; exact hd
 · rw [xae (by simp only [ne_eq, Addr.mk.injEq]; omega)]; exact k0
 · rw [xae (by simp only [ne_eq, Addr.mk.injEq]; omega)]; exact h.k1
 · rw [xae (by simp only [ne_eq, Addr.mk.injEq]; omega)]; exact h.kk
 rw [xae (by simp only [ne_eq, Addr.mk.injEq]; omega)]; exact h.x1
theorem TrAt.set1 {w : World} {tb rb ro kb ko : Nat} {c0 c1 : Int} (h : TrAt w tb rb ro kb ko c0 c1) (c : Int) : TrAt (w.setCell ⟨rb, ro + 4, none⟩ (.int .i64 c)) tb rb ro kb ko c0 c := by
 obtain ⟨cap, hc, hd⟩ := h.hd
 obtain ⟨kc, hk, k0⟩ := h.k0
 have n1 := h.n1
 have n2 := h.n2
 refine ⟨⟨cap, hc, ?_⟩, ⟨kc, hk, ?_⟩, ?_, ?_, ?_, xaw h.x1, fun o ho => by rw [xbv]; exact h.fr o ho, n1, n2⟩
 · rw [xae (by simp only [ne_eq, Addr.mk.injEq]; omega)]; exact hd
 · rw [xae (by simp only [ne_eq, Addr.mk.injEq]; omega)]; exact k0
 · rw [xae (by simp only [ne_eq, Addr.mk.injEq]; omega)]; exact h.k1
 · rw [xae (by simp only [ne_eq, Addr.mk.injEq]; omega)]; exact h.kk
 rw [xae (by simp only [ne_eq, Addr.mk.injEq]; omega)]; exact h.x0
theorem xcM (tb rb ro : Nat) (cap : Nat) (n : Int) (h0 : 0 <= n) (h1 : n < 2) (w : World) (hd : w.cell? ⟨tb, 0, none⟩ = some (.slice (some ⟨rb, ro, none⟩) 2 cap)) :
 Calls prog 48 #[.pointer (some ⟨tb, 0, none⟩), .int .i64 n] w fun e w' => e = .returned (.bool true) /\ w' = w := by
 go_enter func48, ntmps48
 go_wp2
 go_ret
 exact ⟨rfl, rfl⟩
theorem cause_0 (tb rb ro kb ko : Nat) (c0 c1 : Int) (w : World) (h : TrAt w tb rb ro kb ko c0 c1) :
 Calls prog 33 #[.pointer (some ⟨tb, 0, none⟩), .int .i64 0] w fun e w' => e = .returned (.int .i64 c0) /\ w' = w := by
 obtain ⟨cap, hc, hd⟩ := h.hd
 have HT := xa (xcM tb rb ro cap 0 (by omega) (by omega) w hd)
 have x0 := h.x0
 have hc' : (2 : Int) <= (cap : Int) := by omega
 clear h
 go_enter func33, ntmps33
 go_wp2_with fail
 refine HT.out.mono ?_
 rintro e w' ⟨rfl, rfl⟩
 go_wp2
 go_ret
 exact ⟨rfl, rfl⟩
theorem cause_1 (tb rb ro kb ko : Nat) (c0 c1 : Int) (w : World) (h : TrAt w tb rb ro kb ko c0 c1) :
 Calls prog 33 #[.pointer (some ⟨tb, 0, none⟩), .int .i64 1] w fun e w' => e = .returned (.int .i64 c1) /\ w' = w := by
 obtain ⟨cap, hc, hd⟩ := h.hd
 have HT := xa (xcM tb rb ro cap 1 (by omega) (by omega) w hd)
 have x1 := h.x1
 have hc' : (2 : Int) <= (cap : Int) := by omega
 clear h
 go_enter func33, ntmps33
 go_wp2_with fail
 refine HT.out.mono ?_
 rintro e w' ⟨rfl, rfl⟩
 go_wp2
 go_ret
 exact ⟨rfl, rfl⟩
def stay (c d : Int) : Int := if c = 0 then d else c
def one0 (c : Int) : Int := if c = 0 then 1 else 0
theorem xoo (tb rb ro kb ko : Nat) (c0 c1 d : Int) (w : World) (h : TrAt w tb rb ro kb ko c0 c1) :
 Calls prog 49 #[.pointer (some ⟨tb, 0, none⟩), .int .i64 1, .int .i64 d] w fun e w' => e = .returned (.int .i64 (one0 c1)) /\ TrAt w' tb rb ro kb ko c0 (stay c1 d) /\ xaa (fun b => b = rb) w w' := by
 obtain ⟨cap, hc, hd⟩ := h.hd
 have x1 := h.x1
 have k1 := h.k1
 have fr := h.fr (ro + 3 + 1) (Or.inr rfl)
 have hc' : (2 : Int) <= (cap : Int) := by omega
 have H := xa h
 clear h
 by_cases e1 : c1 = 0
 · subst e1
   have k1' : (w.setCell ⟨rb, ro + 3 + 1, none⟩ (.int .i64 d)).cell? ⟨rb, ro + 3 + 2, none⟩ = some (.slice none 0 0) := by
    rw [xae (by simp only [ne_eq, Addr.mk.injEq]; omega)]; exact k1
   go_enter func49, ntmps49
   go_wp2_with fail
   go_loopw [8, 31] (fun a i wr => a = .int .i64 1 /\ i = .int .i64 0 /\ wr = w.setCell ⟨rb, ro + 3 + 1, none⟩ (.int .i64 d)) (fun _ _ _ => 0)
   case atStart => exact ⟨rfl, rfl, rfl⟩
   case round =>
    obtain ⟨rfl, rfl, rfl⟩ := hrel
    go_wp2
    go_ret
    exact ⟨rfl, H.out.set1 d, (xaa.refl (fun b => b = rb) w).set (p := ⟨rb, ro + 3 + 1, none⟩) rfl _⟩
 have e2 : (c1 == 0) = false := by simpa using e1
 have e3 : one0 c1 = 0 := by simp [one0, e1]
 have e4 : stay c1 d = c1 := by simp [stay, e1]
 go_enter func49, ntmps49
 go_wp2
 go_ret
 exact ⟨by rw [e3]; rfl, by first | exact H.out | (rw [e4]; exact H.out), xaa.refl _ _⟩
theorem mark_0 (tb rb ro kb ko : Nat) (c0 c1 d : Int) (w : World) (h : TrAt w tb rb ro kb ko c0 c1) (h1 : 0 <= one0 c1 /\ one0 c1 <= 1) :
 Calls prog 49 #[.pointer (some ⟨tb, 0, none⟩), .int .i64 0, .int .i64 d] w fun e w' => (∃ n, e = .returned (.int .i64 n)) /\ TrAt w' tb rb ro kb ko (stay c0 d) (if c0 = 0 then stay c1 d else c1) /\ xaa (fun b => b = rb) w w' := by
 obtain ⟨cap, hc, hd⟩ := h.hd
 obtain ⟨kc, hkc, k0⟩ := h.k0
 have x0 := h.x0
 have fr := h.fr (ro + 1) (Or.inl rfl)
 have hc' : (2 : Int) <= (cap : Int) := by omega
 have hkc' : (1 : Int) <= (kc : Int) := by omega
 have H := xa h
 by_cases e1 : c0 = 0
 · subst e1
   have HS := xa (h.set0 d)
   have kk' := (h.set0 d).kk
   have k0' : (w.setCell ⟨rb, ro + 1, none⟩ (.int .i64 d)).cell? ⟨rb, ro + 2, none⟩ = some (.slice (some ⟨kb, ko, none⟩) 1 kc) := by
    rw [xae (by simp only [ne_eq, Addr.mk.injEq]; omega)]; exact k0
   have HM := xa (xoo tb rb ro kb ko d c1 d _ HS.out)
   have H1 := xa h1
   generalize hq : one0 c1 = q at *
   clear h h1
   go_enter func49, ntmps49
   go_wp2_with fail
   go_loopw [8, 31] (fun a i wr => (a = .int .i64 1 /\ i = .int .i64 0 /\ wr = w.setCell ⟨rb, ro + 1, none⟩ (.int .i64 d)) \/ (a = .int .i64 (1 + q) /\ i = .int .i64 1 /\ TrAt wr tb rb ro kb ko d (stay c1 d) /\ xaa (fun b => b = rb) w wr)) (fun _ i _ => 1 - (intOf i).toNat)
   case atStart => exact Or.inl ⟨rfl, rfl, rfl⟩
   case round =>
    rcases hrel with ⟨rfl, rfl, rfl⟩ | ⟨rfl, rfl, ht, hk⟩
    · go_wp2_with fail
      refine HM.out.mono ?_
      rintro e w2 ⟨rfl, ht, hk⟩
      have HT := xa ht
      have HK := xa (((xaa.refl (fun b => b = rb) w).set (p := ⟨rb, ro + 1, none⟩) rfl (.int .i64 d)).trans hk)
      have q0 := H1.out.1
      have q1 := H1.out.2
      clear ht hk
      go_wp2
      go_roundw
      case rel => exact Or.inr ⟨rfl, rfl, HT.out, HK.out⟩
      case measure => simp [intOf]
    have HT := xa ht
    have HK := xa hk
    clear ht hk
    go_wp2
    go_ret
    exact ⟨⟨_, rfl⟩, by simpa [stay] using HT.out, HK.out⟩
 have e2 : (c0 == 0) = false := by simpa using e1
 have e4 : stay c0 d = c0 := by simp [stay, e1]
 clear h
 go_enter func49, ntmps49
 go_wp2
 go_ret
 exact ⟨⟨_, rfl⟩, by first | exact H.out | (rw [e4, if_neg e1]; exact H.out), xaa.refl _ _⟩
theorem xjb (tb rb ro kb ko : Nat) (c0 c1 d : Int) (w : World) (h : TrAt w tb rb ro kb ko c0 c1) :
 Calls prog 36 #[.pointer (some ⟨tb, 0, none⟩), .int .i64 1, .int .i64 d] w fun e w' => (∃ n m, e = .returned (.tuple #[.int .i64 n, .int .i64 m])) /\ TrAt w' tb rb ro kb ko c0 (if d = 0 then c1 else stay c1 d) /\ xaa (fun b => b = rb) w w' := by
 obtain ⟨cap, hc, hd⟩ := h.hd
 have HT := xa (xcM tb rb ro cap 1 (by omega) (by omega) w hd)
 have HM := xa (xoo tb rb ro kb ko c0 c1 d w h)
 have H := xa h
 clear h
 by_cases e1 : d = 0
 · subst e1
   go_enter func36, ntmps36
   go_wp2_with fail
   refine HT.out.mono ?_
   rintro e w' ⟨rfl, rfl⟩
   go_wp2
   go_ret2
   exact ⟨⟨_, _, rfl⟩, by simpa using H.out, xaa.refl _ _⟩
 have e2 : (d == 0) = false := by simpa using e1
 rw [if_neg e1]
 clear e1
 go_enter func36, ntmps36
 go_wp2_with fail
 refine HT.out.mono ?_
 rintro e w' ⟨rfl, rfl⟩
 go_wp2_with fail
 refine HM.out.mono ?_
 rintro e w2 ⟨rfl, ht, hk⟩
 have HT2 := xa ht
 have HK := xa hk
 clear ht hk
 go_wp2
 go_ret2
 exact ⟨⟨_, _, rfl⟩, HT2.out, HK.out⟩
theorem one0_in (c : Int) : 0 <= one0 c /\ one0 c <= 1 := by unfold one0; split <;> omega
theorem xnX (tb rb ro kb ko : Nat) (c0 c1 d : Int) (w : World) (h : TrAt w tb rb ro kb ko c0 c1) :
 Calls prog 36 #[.pointer (some ⟨tb, 0, none⟩), .int .i64 0, .int .i64 d] w fun e w' => (∃ n m, e = .returned (.tuple #[.int .i64 n, .int .i64 m])) /\ TrAt w' tb rb ro kb ko (if d = 0 then c0 else stay c0 d) (if d = 0 then c1 else if c0 = 0 then stay c1 d else c1) /\ xaa (fun b => b = rb) w w' := by
 obtain ⟨cap, hc, hd⟩ := h.hd
 have HT := xa (xcM tb rb ro cap 0 (by omega) (by omega) w hd)
 have HM := xa (mark_0 tb rb ro kb ko c0 c1 d w h (one0_in c1))
 have H := xa h
 clear h
 by_cases e1 : d = 0
 · subst e1
   go_enter func36, ntmps36
   go_wp2_with fail
   refine HT.out.mono ?_
   rintro e w' ⟨rfl, rfl⟩
   go_wp2
   go_ret2
   exact ⟨⟨_, _, rfl⟩, by simpa using H.out, xaa.refl _ _⟩
 have e2 : (d == 0) = false := by simpa using e1
 rw [if_neg e1, if_neg e1]
 clear e1
 generalize (if c0 = 0 then stay c1 d else c1) = z at *
 generalize stay c0 d = z0 at *
 go_enter func36, ntmps36
 go_wp2_with fail
 refine HT.out.mono ?_
 rintro e w' ⟨rfl, rfl⟩
 go_wp2_with fail
 refine HM.out.mono ?_
 rintro e w2 ⟨⟨n, rfl⟩, ht, hk⟩
 have HT2 := xa ht
 have HK := xa hk
 clear ht hk
 go_wp2
 go_ret2
 exact ⟨⟨_, _, rfl⟩, HT2.out, HK.out⟩
theorem xhz (pb tb rb ro kb ko : Nat) (c0 c1 : Int) (w : World) (h : TrAt w tb rb ro kb ko c0 c1) (hp : w.cell? ⟨pb, 21, none⟩ = some (.pointer (some ⟨tb, 0, none⟩))) :
 Calls prog 9 #[.pointer (some ⟨pb, 0, none⟩)] w fun e w' => e = .returned (.bool (c0 != 0)) /\ w' = w := by
 have HC := xa (cause_0 tb rb ro kb ko c0 c1 w h)
 clear h
 go_enter func9, ntmps9
 go_wp2_with fail
 refine HC.out.mono ?_
 rintro e w' ⟨rfl, rfl⟩
 go_wp2
 go_ret
 exact ⟨rfl, rfl⟩
theorem dry_any (pb tb rb ro kb ko : Nat) (c0 c1 : Int) (w : World) (h : TrAt w tb rb ro kb ko c0 c1) (hp : w.cell? ⟨pb, 21, none⟩ = some (.pointer (some ⟨tb, 0, none⟩))) (hs : w.cell? ⟨pb, 22, none⟩ = some (.int .i64 1)) :
 Calls prog 10 #[.pointer (some ⟨pb, 0, none⟩)] w fun e w' => e = .returned (.bool (c1 != 0)) /\ ∃ k, w' = w.drewN k := by
 have HC := xa (fun k => (cause_1 tb rb ro kb ko c0 c1 (w.drewN k) (h.keeps (S := fun _ => False) ((xaa.refl _ _).drawN k) id id id)))
 clear h
 go_enter func10, ntmps10
 go_wp2_with fail
 go_quiet (first | (go_at_call 33; exact Calls.quiet_of_same (HC.out _)))
 go_wp2
 go_ret
 exact ⟨rfl, _, rfl⟩
theorem xir (pb : Nat) (e s : Int) (w : World) (hs : w.cell? ⟨pb, 23, none⟩ = some (.int .i64 s)) (hf : w.frozen? ⟨pb, 23, none⟩ = false) (h0 : 0 <= s) (h1 : s <= 1000000) :
 Calls prog 15 #[.pointer (some ⟨pb, 0, none⟩), .int .i64 e] w fun x w' => x = .returned (.tuple #[]) /\ w' = if e = 0 then w else w.setCell ⟨pb, 23, none⟩ (.int .i64 (s + 1)) := by
 by_cases h : e = 0
 · subst h
   go_enter func15, ntmps15
   go_wp2
   go_end0
   exact ⟨rfl, rfl⟩
 have h2 : (e != 0) = true := by simpa using h
 rw [if_neg h]
 clear h
 go_enter func15, ntmps15
 go_wp2
 go_end0
 exact ⟨rfl, rfl⟩
theorem xkN (pb : Nat) (s : Int) (w : World) (hs : w.cell? ⟨pb, 23, none⟩ = some (.int .i64 s)) :
 Calls prog 12 #[.pointer (some ⟨pb, 0, none⟩)] w fun x w' => x = .returned (.int .i64 s) /\ w' = w := by
 go_enter func12, ntmps12
 go_wp2
 go_ret
 exact ⟨rfl, rfl⟩
theorem xiq (pb tb rb ro kb ko : Nat) (c0 c1 d : Int) (w : World) (h : TrAt w tb rb ro kb ko c0 c1) (hp : w.cell? ⟨pb, 21, none⟩ = some (.pointer (some ⟨tb, 0, none⟩))) :
 Calls prog 18 #[.pointer (some ⟨pb, 0, none⟩), .int .i64 d] w fun e w' => e = .returned (.tuple #[]) /\ TrAt w' tb rb ro kb ko (if d = 0 then c0 else stay c0 d) (if d = 0 then c1 else if c0 = 0 then stay c1 d else c1) /\ xaa (fun b => b = rb) w w' := by
 have HC := xa (xnX tb rb ro kb ko c0 c1 d w h)
 generalize (if d = 0 then c0 else stay c0 d) = z0 at *
 generalize (if d = 0 then c1 else if c0 = 0 then stay c1 d else c1) = z1 at *
 clear h
 go_enter func18, ntmps18
 go_wp2_with fail
 refine HC.out.mono ?_
 rintro e w' ⟨⟨n, m, rfl⟩, ht, hk⟩
 go_wp2
 go_end0
 exact ⟨rfl, ht, hk⟩
def ClAt (w : World) (cb : Nat) (c : Int) (s : ByteArray) (n r : Int) : Prop := w.heap[cb]? = some (.cells #[.int .i64 c, .string s, .int .i64 n, .int .i64 r] 96 (0, 0))
theorem ClAt.cells {w : World} {cb : Nat} {c : Int} {s : ByteArray} {n r : Int} (h : ClAt w cb c s n r) :
 w.cell? ⟨cb, 0, none⟩ = some (.int .i64 c) /\ w.cell? ⟨cb, 1, none⟩ = some (.string s) /\ w.cell? ⟨cb, 2, none⟩ = some (.int .i64 n) /\ w.cell? ⟨cb, 3, none⟩ = some (.int .i64 r) /\ ∀ o, w.frozen? ⟨cb, o, none⟩ = false :=
 ⟨by rw [xaj h]; rfl, by rw [xaj h]; rfl, by rw [xaj h]; rfl, by rw [xaj h]; rfl, fun o => xbb h o none⟩
theorem ClAt.keeps {S : Nat -> Prop} {w w' : World} {cb : Nat} {c : Int} {s : ByteArray} {n r : Int} (h : ClAt w cb c s n r) (K : xaa S w w') (hs : ¬ S cb) : ClAt w' cb c s n r := K.heap h hs
theorem xbd {w : World} {b : Nat} {cs : Array Value} {t : TypeId} (i : Nat) (v : Value) (h : w.heap[b]? = some (.cells cs t (0, 0))) : (w.setCell ⟨b, i, none⟩ v).heap[b]? = some (.cells (cs.setIfInBounds i v) t (0, 0)) := by
 simp [World.setCell, Array.getElem?_modify, h]
theorem xmf (w : World) : Calls prog 27 #[] w fun e w' => e = .returned (.pointer (some ⟨w.heap.size, 0, none⟩)) /\ ClAt w' w.heap.size 0 ⟨#[]⟩ 0 0 /\ KF w w' := by
 go_enter func27, ntmps27
 go_wp2
 go_ret
 exact ⟨rfl, heap_alloc_new _ _, KI.out⟩
theorem xnp (w : World) : Calls prog 28 #[] w fun e w' => e = .returned (.pointer (some ⟨w.heap.size, 0, none⟩)) /\ w'.heap[w.heap.size]? = some (.cells #[.slice none 0 0, .slice none 0 0] 113 (0, 0)) /\ KF w w' := by
 go_enter func28, ntmps28
 go_wp2
 go_ret
 exact ⟨rfl, heap_alloc_new _ _, KI.out⟩
theorem xj4 (lb : Nat) (a : Option Addr) (n c : Nat) (w : World) (h : w.cell? ⟨lb, 1, none⟩ = some (.slice a n c)) : Calls prog 38 #[.pointer (some ⟨lb, 0, none⟩)] w fun e w' => e = .returned (.int .i64 n) /\ w' = w := by
 go_enter func38, ntmps38
 go_wp2
 go_ret
 exact ⟨rfl, rfl⟩
theorem xkq (cb : Nat) (c : Int) (s : ByteArray) (n r : Int) (w : World) (h : ClAt w cb c s n r) : Calls prog 20 #[.pointer (some ⟨cb, 0, none⟩)] w fun e w' => e = .returned (.int .i64 c) /\ w' = w := by
 obtain ⟨c0, c1, c2, c3, cf⟩ := h.cells
 clear h
 go_enter func20, ntmps20
 go_wp2
 go_ret
 exact ⟨rfl, rfl⟩
theorem xme (cb : Nat) (c : Int) (s : ByteArray) (n r : Int) (w : World) (h : ClAt w cb c s n r) : Calls prog 21 #[.pointer (some ⟨cb, 0, none⟩)] w fun e w' => e = .returned (.string s) /\ w' = w := by
 obtain ⟨c0, c1, c2, c3, cf⟩ := h.cells
 clear h
 go_enter func21, ntmps21
 go_wp2
 go_ret
 exact ⟨rfl, rfl⟩
theorem xgE (cb : Nat) (c : Int) (s : ByteArray) (n r d : Int) (t : ByteArray) (m : Int) (w : World) (h : ClAt w cb c s n r) (hc : c ≠ 0) (hd : d ≠ 0) (h0 : 0 <= r) (h1 : r <= 1000000) :
 Calls prog 37 #[.pointer (some ⟨cb, 0, none⟩), .int .i64 d, .string t, .int .i64 m] w fun e w' => e = .returned (.bool false) /\ ClAt w' cb c s n (r + 1) /\ xaa (fun b => b = cb) w w' := by
 obtain ⟨c0, c1, c2, c3, cf⟩ := h.cells
 have f3 := cf 3
 have e1 : (d == 0) = false := by simpa using hd
 have e2 : (c != 0) = true := by simpa using hc
 have c0' : (w.setCell ⟨cb, 3, none⟩ (.int .i64 (r + 1))).cell? ⟨cb, 0, none⟩ = some (.int .i64 c) := by rw [xae (by simp)]; exact c0
 have H := xa (show ClAt (w.setCell ⟨cb, 3, none⟩ (.int .i64 (r + 1))) cb c s n (r + 1) from xbd 3 (.int .i64 (r + 1)) h)
 clear h cf hc hd
 go_enter func37, ntmps37
 go_wp2
 go_ret
 exact ⟨rfl, H.out, (xaa.refl (fun b => b = cb) w).set (p := ⟨cb, 3, none⟩) rfl _⟩
theorem xgD (cb : Nat) (s : ByteArray) (n r d : Int) (t : ByteArray) (m : Int) (w : World) (h : ClAt w cb 0 s n r) (hd : d ≠ 0) (h0 : 0 <= r) (h1 : r <= 1000000) :
 Calls prog 37 #[.pointer (some ⟨cb, 0, none⟩), .int .i64 d, .string t, .int .i64 m] w fun e w' => e = .returned (.bool true) /\ ClAt w' cb d t m (r + 1) /\ xaa (fun b => b = cb) w w' := by
 obtain ⟨c0, c1, c2, c3, cf⟩ := h.cells
 have f0 := cf 0
 have f1 := cf 1
 have f2 := cf 2
 have f3 := cf 3
 have e1 : (d == 0) = false := by simpa using hd
 have H := xa h
 clear h cf hd
 go_enter func37, ntmps37
 go_wp2
 go_ret
 refine ⟨rfl, ?_, ?_⟩
 · have g1 := xbd 3 (.int .i64 (r + 1)) H.out
   have g2 := xbd 0 (.int .i64 d) g1
   have g3 := xbd 1 (.string t) g2
   have g4 := xbd 2 (.int .i64 m) g3
   exact g4
 exact ((((xaa.refl (fun b => b = cb) w).set (p := ⟨cb, 3, none⟩) rfl _).set (p := ⟨cb, 0, none⟩) rfl _).set (p := ⟨cb, 1, none⟩) rfl _).set (p := ⟨cb, 2, none⟩) rfl _
theorem xnQ (pb tb rb ro kb ko : Nat) (c0 c1 d : Int) (w : World) (h : TrAt w tb rb ro kb ko c0 c1) (hp : w.cell? ⟨pb, 21, none⟩ = some (.pointer (some ⟨tb, 0, none⟩))) (hs : w.cell? ⟨pb, 22, none⟩ = some (.int .i64 1)) (hpr : pb ≠ rb) :
 Calls prog 14 #[.pointer (some ⟨pb, 0, none⟩), .int .i64 d] w fun e w' => e = .returned (.tuple #[]) /\ TrAt w' tb rb ro kb ko c0 (if d = 0 then c1 else stay c1 d) /\ xaa (fun b => b = rb) w w' := by
 have HC : Hid (∀ W, (TrAt W tb rb ro kb ko c0 c1 \/ TrAt W tb rb ro kb ko c0 (if d = 0 then c1 else stay c1 d)) -> Calls prog 36 #[.pointer (some ⟨tb, 0, none⟩), .int .i64 1, .int .i64 d] W fun e w' => (∃ n m, e = .returned (.tuple #[.int .i64 n, .int .i64 m])) /\ TrAt w' tb rb ro kb ko c0 (if d = 0 then c1 else stay c1 d) /\ xaa (fun b => b = rb) W w') := xa (fun W hW => by
  rcases hW with hW | hW
  · exact xjb tb rb ro kb ko c0 c1 d W hW
  have := xjb tb rb ro kb ko c0 _ d W hW
  by_cases e : d = 0
  · simpa [e] using this
  have e2 : stay (stay c1 d) d = stay c1 d := by unfold stay; split <;> simp_all
  simpa [e, e2] using this)
 generalize (if d = 0 then c1 else stay c1 d) = z at *
 have ht0 : TrAt w.drew tb rb ro kb ko c0 c1 := h.keeps (S := fun _ => False) (xaa.refl _ _).drew id id id
 have hk0 : xaa (fun b => b = rb) w w.drew := (xaa.refl _ _).drew
 clear h
 go_enter func14, ntmps14
 go_region_held3 (fun w' => w'.cell? ⟨pb, 21, none⟩ = some (.pointer (some ⟨tb, 0, none⟩)) /\ w'.cell? ⟨pb, 22, none⟩ = some (.int .i64 1) /\ (TrAt w' tb rb ro kb ko c0 c1 \/ TrAt w' tb rb ro kb ko c0 z) /\ xaa (fun b => b = rb) w w')
  (first | exact ⟨hp, hs, Or.inl ht0, hk0⟩ | exact ⟨xaa.cell (by assumption) (by assumption) hpr, xaa.cell (by assumption) (by assumption) hpr, Or.inr (by assumption), xaa.trans (by assumption) (by assumption)⟩)
  (first | (go_at_call 36; refine (HC.out _ ?_).mono ?_; (first | assumption | exact Or.inl (by assumption) | exact Or.inr (by assumption)); rintro e w' ⟨⟨n, m, rfl⟩, ht, hk⟩))
 go_end0
 exact ⟨rfl, by assumption, by first | assumption | exact xaa.trans (by assumption) (by assumption)⟩
theorem xg3 : (prog.info? 3).map (fun i => (i.zero, i.size, i.bytes)) = some (some (.int .i64 0), 1, 8) := by kernel_rfl
theorem xnA : (prog.info? 124).map (fun i => (i.zero, i.size, i.bytes)) = some (some (.agg #[.slice none 0 0, .int .i64 0]), 2, 32) := by kernel_rfl
theorem xfN {w : World} {ops : Array Oper} {rest : List Oper} {o : Oper} {a : Act} {Q : Exit -> Act -> World -> Prop} (hgd : o.guard = none) (s x : Operand)
 (ho : o.op = .call { callee := .builtin .append, args := #[s, x], argTypes := #[23, 23] })
 (base : Nat) (v : Value) (xs : List Value) (i : Nat) (V : Int) (hs : a.eval s = v) (hown : w.ownsRow base 3 1 v i xs)
 (hx : a.eval x = .slice (some ⟨w.heap.size, 0, none⟩) 1 1) (hl : i <= 100000) (hb : base <= w.heap.size)
 (h : ∀ v' w', w'.ownsRow base 3 1 v' (i + 1) (xs ++ [.int .i64 V]) -> (w.alloc (.cells #[.int .i64 V] 3)).grownBy w' v.ownBlock -> wpList prog ops Q rest (a.put o.dst v') w') :
 wpList prog ops Q (o :: rest) a (w.alloc (.cells #[.int .i64 V] 3)) := by
 obtain ⟨i0, hi, hz0, hz1, hz2⟩ := info_parts xg3
 exact wpList_append_own _ hgd s x 23 ho base 3 i0 _ 1 8 underlying23 hi hz0 hz1 hz2 rfl (by decide) v i xs hs (xac hown _) ⟨w.heap.size, 0, none⟩ 1 1 [.int .i64 V] hx rfl (xaq w [Value.int .i64 V] _) (by intro u hu; simp at hu; subst hu; rfl) (by unfold maxLen; omega) (by omega) (by simp; omega) (fun v' w' h1 h2 _ => h v' w' h1 h2)
def upTo (n : Nat) : List Value := (List.range n).map fun (i : Nat) => Value.int .i64 (i : Int)
theorem xkF (n : Nat) : upTo (n + 1) = upTo n ++ [Value.int .i64 (n : Int)] := by simp [upTo, List.range_succ]
structure PoAt (w : World) (pb ab lo n : Nat) (size : Int) (k : Nat) : Prop where
 hd : ∃ lv, w.heap[pb]? = some (.cells #[.slice (some ⟨ab, 0, none⟩) n n, lv, .int .i64 size] 91 (0, 0)) /\ w.ownsRow lo 3 1 lv k (upTo k)
 bf : ∀ i, i < n -> w.cell? ⟨ab, i * 2, none⟩ = some (.slice none 0 0) /\ w.cell? ⟨ab, i * 2 + 1, none⟩ = some (.int .i64 0)
theorem xlK (i n : Nat) (hi : i < n) : (madeCells #[.slice none 0 0, .int .i64 0] (n * 2)).toList[i * 2]? = some (.slice none 0 0) := by
 have h1 : i * 2 < n * 2 := by omega
 have h2 : (i * 2) % 2 = 0 := by omega
 simp only [madeCells, Array.getElem?_toList, Array.getElem?_map, Array.getElem?_range, List.size_toArray, List.length_cons, List.length_nil, Nat.reduceAdd, h1, ↓reduceIte, Option.map_some, h2]
 rfl
theorem xlJ (i n : Nat) (hi : i < n) : (madeCells #[.slice none 0 0, .int .i64 0] (n * 2)).toList[i * 2 + 1]? = some (.int .i64 0) := by
 have h1 : i * 2 + 1 < n * 2 := by omega
 have h2 : (i * 2 + 1) % 2 = 1 := by omega
 simp only [madeCells, Array.getElem?_toList, Array.getElem?_map, Array.getElem?_range, List.size_toArray, List.length_cons, List.length_nil, Nat.reduceAdd, h1, ↓reduceIte, Option.map_some, h2]
 rfl
theorem xiH {w : World} {base : Nat} {e : TypeId} {size : Nat} {v : Value} {n : Nat} {xs : List Value} {a : Addr} {u : Value} (h : w.ownsRow base e size v n xs) (hb : a.block < base) : (w.setCell a u).ownsRow base e size v n xs := by
 refine ⟨h.1, ?_⟩
 rcases h.2 with h2 | ⟨g, cap, cur, rfl, hg, hh, rest⟩
 · exact Or.inl h2
 exact Or.inr ⟨g, cap, cur, rfl, hg, by rw [Below.heap_setCell _ _ _ _ (by omega)]; exact hh, rest⟩
theorem xm4 (n : Nat) (size : Int) (w : World) (h1 : 1 <= n) (h64 : n <= 64) (hs1 : 1 <= size) (hs2 : size <= 4096) :
 Calls prog 30 #[.int .i64 n, .int .i64 size] w fun e w' => ∃ pb ab lo, e = .returned (.tuple #[.pointer (some ⟨pb, 0, none⟩), .int .i64 0]) /\ PoAt w' pb ab lo n size n /\ w.heap.size <= pb /\ w.heap.size <= ab /\ w.heap.size <= lo /\ KF w w' := by
 obtain ⟨i0, hi, hz0, hz1, hz2⟩ := info_parts xnA
 go_enter func30, ntmps30
 go_wp2_with (at_make; go_must (refine wpList_make_full _ rfl _ _ 89 rfl w.heap.size 124 i0 _ 2 underlying89 hi hz0 hz1 .i64 .i64 _ _ n rfl rfl rfl rfl ?c1 ?c2 ?c3 ?_))
 case c1 => rw [hz2]; omega
 case c2 => unfold maxLen; omega
 case c3 => exact Nat.le_refl _
 intro w1 hown hg
 have hlt : w.heap.size < w1.heap.size := by
  rcases hown.2 with ⟨h, _⟩ | ⟨g, cap, cur, h, _, hh, _⟩
  · simp at h
  simp at h; obtain ⟨rfl, rfl⟩ := h; exact (Array.getElem?_eq_some_iff.1 hh).1
 have HBf : Hid (∀ i, i < n -> w1.cell? ⟨w.heap.size, i * 2, none⟩ = some (.slice none 0 0) /\ w1.cell? ⟨w.heap.size, i * 2 + 1, none⟩ = some (.int .i64 0)) := xa (fun i hi => by
  refine ⟨?_, ?_⟩
  · rw [hown.cellAt (i * 2) (by omega)]; exact xlK i n hi
  rw [hown.cellAt (i * 2 + 1) (by omega)]; exact xlJ i n hi)
 have K1 : Hid (KF w w1) := xa ((xaa.refl _ _).grown hg (by simp))
 have HLT := xa hlt
 clear hown hg hlt
 go_wp2_with fail
 have HP0 := xa (heap_alloc_new w1 (.cells #[.slice (some ⟨w.heap.size, 0, none⟩) n n, .slice none 0 0, .int .i64 size] 91))
 have K2 : Hid (KF w1 (w1.alloc (.cells #[.slice (some ⟨w.heap.size, 0, none⟩) n n, .slice none 0 0, .int .i64 size] 91))) := xa ((xaa.refl _ _).alloc _)
 go_loopw [28] (fun iv wr => ∃ (i : Nat) (lv : Value), iv = .int .i64 (i : Int) /\ i <= n /\ wr.heap[w1.heap.size]? = some (.cells #[.slice (some ⟨w.heap.size, 0, none⟩) n n, lv, .int .i64 size] 91 (0, 0)) /\ wr.ownsRow (w1.heap.size + 1) 3 1 lv i (upTo i) /\ KF w1 wr) (fun iv _ => n - (intOf iv).toNat)
 case atStart => exact ⟨0, _, rfl, Nat.zero_le _, HP0.out, World.ownsRow_nil _ _ _ _, K2.out⟩
 case round =>
  obtain ⟨i, lv, rfl, hin, hp, hown, hk⟩ := hrel
  have HOw := xa hown
  have HK := xa hk
  have HPb := xa hp
  by_cases hlt : i < n
  · have c1 : wr.cell? ⟨w1.heap.size, 1, none⟩ = some lv := by rw [xaj hp]; rfl
    have hsz : w1.heap.size + 1 <= wr.heap.size := (Array.getElem?_eq_some_iff.1 hp).1
    have HSZ := xa hsz
    clear hp hown hk hsz
    go_wp2_with (at_builtin; refine xfN rfl _ _ rfl (w1.heap.size + 1) lv (upTo i) i (i : Int) rfl HOw.out rfl (by omega) HSZ.out ?_)
    intro vv w5 h5 hg5
    obtain ⟨a', c', hv'⟩ := xad h5
    subst hv'
    have hb5 : ∀ b, lv.ownBlock = some b -> w1.heap.size + 1 <= b := xab HOw.out
    have KW : xaa (fun b => w1.heap.size + 1 <= b) wr w5 := ((xaa.refl _ _).alloc _).grown hg5 (fun b hb => Or.inl (hb5 b hb))
    have hp5 := KW.heap HPb.out (by omega)
    have d1 : w5.cell? ⟨w1.heap.size, 1, none⟩ = some lv := by rw [xaj hp5]; rfl
    have f1 : w5.frozen? ⟨w1.heap.size, 1, none⟩ = false := xbb hp5 1 none
    have HP5 := xa (xbd 1 (.slice a' (i + 1) c') hp5)
    have h6 : w5.ownsRow (w1.heap.size + 1) 3 1 (.slice a' (i + 1) c') (i + 1) (upTo (i + 1)) := by rw [xkF]; exact h5
    have HO5 := xa (xiH (a := ⟨w1.heap.size, 1, none⟩) (u := .slice a' (i + 1) c') h6 (Nat.lt_succ_self _))
    have HK5 : Hid (KF w1 (w5.setCell ⟨w1.heap.size, 1, none⟩ (.slice a' (i + 1) c'))) := xa ((HK.out.trans2 KW (fun b hb e => by omega)).setCell (Or.inr (Nat.le_refl _)) (.slice a' (i + 1) c'))
    clear h5 h6 hg5 hb5 KW hp5
    go_wp2
    go_roundw
    case rel => exact ⟨i + 1, .slice a' (i + 1) c', by go_num, by omega, HP5.out, HO5.out, HK5.out⟩
    case measure => (simp [intOf] <;> omega)
  have hi : i = n := by omega
  subst hi
  go_wp2
  go_ret2
  refine ⟨_, _, _, rfl, ⟨⟨lv, HPb.out, HOw.out⟩, fun j hj => ?_⟩, by have := HLT.out; omega, Nat.le_refl _, by have := HLT.out; omega, K1.out.trans HK.out⟩
  have := HBf.out j hj
  exact ⟨HK.out.cell this.1 id, HK.out.cell this.2 id⟩
theorem xlm (w : World) (e : TypeId) (size : Nat) : (w.alloc (.cells #[] e)).ownsRow w.heap.size e size (.slice (some ⟨w.heap.size, 0, none⟩) 0 0) 0 [] :=
 ⟨by simp, Or.inr ⟨_, 0, #[], rfl, Nat.le_refl _, by simp [World.alloc, -World.alloc_eq], by omega, by unfold maxLen; omega, by simp, by simp⟩⟩
theorem xkn (ad : Addr) (cap n : Nat) (xs : List Value) (w : World) (h : ∀ (j : Nat) (u : Value), xs[j]? = some u -> w.cell? (ad.add j) = some u) (h1 : ∀ u ∈ xs, u.oneCell' = true) (hl : xs.length = n) (hn : n <= 1000) :
 Calls prog 35 #[.slice (some ad) n cap] w fun e w' => (∃ a c, e = .returned (.slice a n c)) /\ KF w w' := by
 obtain ⟨i0, hi0, hz0, hz1, hz2⟩ := info_parts xg3
 have HC : Hid (∀ (j : Nat) (u : Value), xs[j]? = some u -> (w.alloc (.cells #[] 3)).cell? (ad.add j) = some u) := xa (fun j u hu => xaf (h j u hu) _)
 have hE := fun W => Lib.run_eql_slice_nil (P := prog) W 23 3 (some ad) n cap 0 0 underlying23
 have H1 := xa h1
 clear h h1
 go_enter func35, ntmps35
 go_wp2_with (at_builtin; refine wpList_append_own _ rfl (.tmp 5) (.tmp 6) 23 rfl w.heap.size 3 i0 _ 1 8 underlying23 hi0 hz0 hz1 hz2 rfl (by decide) _ 0 [] rfl (xlm w _ 1) ad n cap xs rfl (by omega) HC.out H1.out (by unfold maxLen; omega) (by omega) (by simp) ?_)
 intro v' w2 hown hgrow _
 obtain ⟨a', c', rfl⟩ := xad hown
 have hk2 : KF w w2 := ((xaa.refl (fun _ => False) w).alloc _).trans2 ((xaa.refl (fun b => w.heap.size <= b) _).grown hgrow (fun b hb => Or.inl (by have := Option.some.inj hb; rw [<- this]; exact Nat.le_refl _))) (fun i hi e => by omega)
 have HK := xa hk2
 clear hown hgrow hk2
 go_wp2
 go_ret
 exact ⟨⟨_, _, rfl⟩, HK.out⟩
theorem xnG (ob g cap n : Nat) (xs : List Value) (w : World) (hc : w.cell? ⟨ob, 1, none⟩ = some (.slice (some ⟨g, 0, none⟩) n cap)) (h : ∀ (j : Nat) (u : Value), xs[j]? = some u -> w.cell? ((⟨g, 0, none⟩ : Addr).add j) = some u) (h1 : ∀ u ∈ xs, u.oneCell' = true) (hl : xs.length = n) (hn : n <= 1000) :
 Calls prog 13 #[.pointer (some ⟨ob, 0, none⟩)] w fun e w' => (∃ a c, e = .returned (.slice a n c)) /\ KF w w' := by
 have HC := xa (xkn ⟨g, 0, none⟩ cap n xs w h h1 hl hn)
 clear h h1 hl hn
 go_enter func13, ntmps13
 go_wp2_with fail
 refine HC.out.mono ?_
 rintro e w' ⟨⟨a, c, rfl⟩, k⟩
 go_wp2
 go_ret
 exact ⟨⟨_, _, rfl⟩, k⟩
theorem xmm (ob ab n : Nat) (w : World) (hn : n <= 64) (hc : w.cell? ⟨ob, 0, none⟩ = some (.slice (some ⟨ab, 0, none⟩) n n)) (hb : ∀ i, i < n -> w.cell? ⟨ab, i * 2, none⟩ = some (.slice none 0 0) /\ w.cell? ⟨ab, i * 2 + 1, none⟩ = some (.int .i64 0)) :
 Calls prog 34 #[.pointer (some ⟨ob, 0, none⟩)] w fun e w' => e = .returned (.int .i64 0) /\ KF w w' := by
 have HB := xa hb
 clear hb
 go_enter func34, ntmps34
 go_wp2_with fail
 go_loopw [3, 5, 11] (fun c x iv wr => c = .int .i64 0 /\ ∃ (i : Nat), iv = .int .i64 (i : Int) /\ i <= n /\ KF w wr) (fun c x iv _ => n - (intOf iv).toNat)
 case atStart => exact ⟨rfl, 0, rfl, Nat.zero_le _, xaa.refl _ _⟩
 case round =>
  obtain ⟨rfl, i, rfl, hin, hk⟩ := hrel
  by_cases hlt : i < n
  · obtain ⟨b0, b1⟩ := HB.out i hlt
    have b0 := hk.cell b0 id
    have b1 := hk.cell b1 id
    have HK := xa hk
    clear hk
    go_wp2_with fail
    have hk5 : Hid (KF w (wr.alloc (.cells #[.slice none 0 0, .int .i64 0] 124))) := xa (HK.out.alloc _)
    go_roundw
    case rel => exact ⟨rfl, i + 1, by go_num, by omega, hk5.out⟩
    case measure => simp [intOf]; omega
  have hi : i = n := by omega
  subst hi
  go_wp2
  go_ret
  exact ⟨rfl, hk⟩
theorem xhZ : (prog.info? 290).map (fun i => (i.zero, i.size, i.bytes)) = some (some (.agg #[.int .i64 0, .int .i64 0, .int .i64 0, .int .i64 0, .string ⟨#[]⟩, .slice none 0 0, .int .i64 0, .bool false]), 8, 88) := by kernel_rfl
theorem xmR (n : Nat) (w : World) (h1 : 1 <= n) (h64 : n <= 64) :
 Calls prog 31 #[.int .i64 n] w fun e w' => (∃ rb, e = .returned (.tuple #[.pointer (some ⟨rb, 0, none⟩), .int .i64 0])) /\ KF w w' := by
 obtain ⟨i0, hi, hz0, hz1, hz2⟩ := info_parts xhZ
 go_enter func31, ntmps31
 go_wp2_with (at_make; go_must (refine wpList_make_full _ rfl _ _ 119 rfl w.heap.size 290 i0 _ 8 underlying119 hi hz0 hz1 .i64 .i64 _ _ n rfl rfl rfl rfl ?c1 ?c2 ?c3 ?_))
 case c1 => rw [hz2]; omega
 case c2 => unfold maxLen; omega
 case c3 => exact Nat.le_refl _
 intro w1 hown hg
 go_wp2
 go_ret2
 exact ⟨⟨_, rfl⟩, ((xaa.refl _ _).grown hg (by simp)).alloc _⟩
theorem xhl (cb : Nat) (c : Int) (s : ByteArray) (n r : Int) (w : World) (h : ClAt w cb c s n r) : Calls prog 17 #[.pointer (some ⟨cb, 0, none⟩)] w fun e w' => e = .returned (.int .i64 r) /\ w' = w := by
 obtain ⟨c0, c1, c2, c3, cf⟩ := h.cells
 clear h
 go_enter func17, ntmps17
 go_wp2
 go_ret
 exact ⟨rfl, rfl⟩
theorem xi4 (pb tb rb ro kb ko cb lb : Nat) (c0 c1 d cc n r z zn zr : Int) (s t zs : ByteArray) (w : World) (h : TrAt w tb rb ro kb ko c0 c1) (hc : ClAt w cb cc s n r)
 (hp : w.cell? ⟨pb, 21, none⟩ = some (.pointer (some ⟨tb, 0, none⟩))) (hq : w.cell? ⟨pb, 18, none⟩ = some (.pointer (some ⟨cb, 0, none⟩))) (hl : w.cell? ⟨pb, 19, none⟩ = some (.pointer (some ⟨lb, 0, none⟩)))
 (hn : w.cell? ⟨lb, 1, none⟩ = some (.slice none 0 0)) (n0 : pb ≠ cb) (n1 : tb ≠ cb) (n2 : rb ≠ cb) (n3 : kb ≠ cb)
 (HR : ∀ W, ClAt W cb cc s n r -> Calls prog 37 #[.pointer (some ⟨cb, 0, none⟩), .int .i64 d, .string t, .int .i64 0] W fun e w' => (∃ b, e = .returned (.bool b)) /\ ClAt w' cb z zs zn zr /\ xaa (fun b => b = cb) W w') :
 Calls prog 19 #[.pointer (some ⟨pb, 0, none⟩), .int .i64 d, .string t] w fun e w' => e = .returned (.tuple #[]) /\ ClAt w' cb z zs zn zr /\ TrAt w' tb rb ro kb ko (if d = 0 then c0 else stay c0 d) (if d = 0 then c1 else if c0 = 0 then stay c1 d else c1) /\ xaa (fun b => b = cb \/ b = rb) w w' := by
 have HN := xa (xj4 lb none 0 0 w.drew hn)
 have HC := xa HR
 have HT := xa h
 have HL := xa hc
 have HP := xa hp
 have HS : Hid (∀ W, TrAt W tb rb ro kb ko c0 c1 -> W.cell? ⟨pb, 21, none⟩ = some (.pointer (some ⟨tb, 0, none⟩)) -> Calls prog 18 #[.pointer (some ⟨pb, 0, none⟩), .int .i64 d] W fun e w' => e = .returned (.tuple #[]) /\ TrAt w' tb rb ro kb ko (if d = 0 then c0 else stay c0 d) (if d = 0 then c1 else if c0 = 0 then stay c1 d else c1) /\ xaa (fun b => b = rb) W w') := xa (fun W h1 h2 => xiq pb tb rb ro kb ko c0 c1 d W h1 h2)
 generalize (if d = 0 then c0 else stay c0 d) = z0 at *
 generalize (if d = 0 then c1 else if c0 = 0 then stay c1 d else c1) = z1 at *
 clear h hc hn HR
 go_enter func19, ntmps19
 go_upto_region 0 with fail
 go_still_tail 11, (by kernel_rfl)
 still_call HN.out
 refine wpStill_nil ?_
 have HC2 := xa (HC.out w.drew HL.out)
 clear HC HN
 change wpList _ _ _ _ _ w.drew
 go_wp2_with fail
 refine HC2.out.mono ?_
 rintro e w' ⟨⟨b, rfl⟩, h1, h2⟩
 have HT2 := xa (HT.out.keeps (S := fun _ => False) (xaa.refl _ _).drew id id id |>.keeps h2 n1 n2 n3)
 have hp2 := h2.cell (show w.drew.cell? _ = _ from HP.out) n0
 have HS2 := xa (HS.out w' HT2.out hp2)
 clear HS hp2
 have H1 := xa h1
 have H2 := xa h2
 clear h1 h2
 go_wp2_with fail
 refine HS2.out.mono ?_
 rintro e w2 ⟨rfl, h3, h4⟩
 go_wp2
 go_end0
 refine ⟨rfl, H1.out.keeps h4 (fun e => n2 e.symm), h3, ?_⟩
 have h5 : xaa (fun b => b = cb \/ b = rb) w w.drew := (xaa.refl _ _).drew
 exact (h5.trans (H2.out.mono fun k _ e => Or.inl e)).trans (h4.mono fun k _ e => Or.inr e)
theorem xh0 : (prog.info? 87).map (fun i => (i.zero, i.size, i.bytes)) = some (some .nilIface, 1, 16) := by kernel_rfl
def xcr (b : Nat) : Value := .iface 43 (.pointer (some ⟨b, 0, none⟩))
theorem xnu (pb b N i : Nat) (hv : Value) (xs : List Value) (w : World) (h : w.cell? ⟨pb, 24, none⟩ = some hv) (hf : w.frozen? ⟨pb, 24, none⟩ = false) (hp : pb < N) (hN : N <= w.heap.size) (hi : i <= 1000) (ho : w.ownsRow N 87 1 hv i xs) :
 Calls prog 16 #[.pointer (some ⟨pb, 0, none⟩), xcr b] w fun e w' => e = .returned (.tuple #[]) /\ ∃ v w1, w' = w1.setCell ⟨pb, 24, none⟩ v /\ w'.ownsRow N 87 1 v (i + 1) (xs ++ [xcr b]) /\ xaa (fun k => hv.ownBlock = some k) w w1 := by
 obtain ⟨i0, hi0, hz0, hz1, hz2⟩ := info_parts xh0
 have HO := xa ho
 have HH := xa h
 have HF := xa hf
 unfold xcr
 clear ho hf
 go_enter func16, ntmps16
 go_wp2_with (at_builtin; refine wpList_append_own _ rfl (.tmp 8) (.tmp 10) 38 rfl N 87 i0 _ 1 16 underlying38 hi0 hz0 hz1 hz2 rfl (by decide) _ i xs rfl (xac HO.out _) ⟨w.heap.size, 0, none⟩ 1 1 [xcr b] rfl rfl (xaq w [xcr b] _) (by intro u hu; simp at hu; subst hu; rfl) (by unfold maxLen; omega) (by omega) (by simp; omega) ?_)
 intro v w1 hown hgrow _
 have K1 : xaa (fun k => hv.ownBlock = some k) w w1 := ((xaa.refl _ _).alloc _).grown hgrow (fun k hk => Or.inl hk)
 have f1 : w1.frozen? ⟨pb, 24, none⟩ = false := K1.frozen HF.out (show pb < w.heap.size by omega) (fun e => by have := xab HO.out pb e; omega)
 have c1 : w1.cell? ⟨pb, 24, none⟩ = some hv := K1.cell HH.out (fun e => by have := xab HO.out pb e; omega)
 obtain ⟨a', c', hv'⟩ := xad hown
 subst hv'
 have HW := xa (xiH (a := ⟨pb, 24, none⟩) (u := .slice a' (i + 1) c') hown hp)
 have HK := xa K1
 clear hown hgrow K1 h
 go_wp2
 go_end0
 exact ⟨rfl, _, _, rfl, HW.out, HK.out⟩
theorem xg5 (b : Nat) (v : Int) (w : World) (h : w.cell? ⟨b, 0, none⟩ = some (.int .i64 v)) : Calls prog 186 #[.pointer (some ⟨b, 0, none⟩)] w fun e w' => e = .returned (.int .i64 v) /\ w' = w := by
 go_enter func186, ntmps186
 go_wp2
 go_ret
 exact ⟨rfl, rfl⟩
theorem xnD (pb ob : Nat) (w : World) (h : w.cell? ⟨pb, 17, none⟩ = some (.pointer (some ⟨ob, 0, none⟩))) (hh : w.cell? ⟨pb, 24, none⟩ = some (.slice none 0 0))
 (HB : Calls prog 34 #[.pointer (some ⟨ob, 0, none⟩)] w fun e w' => e = .returned (.int .i64 0) /\ KF w w') :
 Calls prog 11 #[.pointer (some ⟨pb, 0, none⟩)] w fun e w' => e = .returned (.int .i64 0) /\ KF w w' := by
 have H := xa HB
 clear HB
 go_enter func11, ntmps11
 go_wp2_with fail
 refine H.out.mono ?_
 rintro e w1 ⟨rfl, k⟩
 have h1 := k.cell hh id
 clear hh
 go_wp2_with fail
 refine wp_loop_rounds 1 ?_
 rw [rounds_succ]
 go_wp2
 go_ret
 exact ⟨rfl, k⟩
theorem xnC (pb ob g cap s1 s2 : Nat) (v1 v2 : Int) (w : World) (h : w.cell? ⟨pb, 17, none⟩ = some (.pointer (some ⟨ob, 0, none⟩))) (hh : w.cell? ⟨pb, 24, none⟩ = some (.slice (some ⟨g, 0, none⟩) 2 cap))
 (h0 : w.cell? ⟨g, 0, none⟩ = some (xcr s1)) (h1 : w.cell? ⟨g, 1, none⟩ = some (xcr s2)) (c1 : w.cell? ⟨s1, 0, none⟩ = some (.int .i64 v1)) (c2 : w.cell? ⟨s2, 0, none⟩ = some (.int .i64 v2)) (e1 : wrap64 v1 = v1)
 (HB : Calls prog 34 #[.pointer (some ⟨ob, 0, none⟩)] w fun e w' => e = .returned (.int .i64 0) /\ KF w w') :
 Calls prog 11 #[.pointer (some ⟨pb, 0, none⟩)] w fun e w' => e = .returned (.int .i64 (wrap64 (v1 + v2))) /\ KF w w' := by
 have H := xa HB
 have HA := xa (And.intro hh (And.intro h0 (And.intro h1 (And.intro c1 c2))))
 have HE := xa e1
 clear HB hh h0 h1 c1 c2 e1
 unfold xcr at HA
 go_enter func11, ntmps11
 go_wp2_with fail
 refine H.out.mono ?_
 rintro e w1 ⟨rfl, k⟩
 have hh := k.cell HA.out.1 id
 have h0 := k.cell HA.out.2.1 id
 have h1 := k.cell HA.out.2.2.1 id
 have H1 := xa (xg5 s1 v1 w1 (k.cell HA.out.2.2.2.1 id))
 have H2 := xa (xg5 s2 v2 w1 (k.cell HA.out.2.2.2.2 id))
 have HK := xa k
 clear HA H k
 go_wp2_with fail
 refine wp_loop_rounds 3 ?_
 rw [rounds_succ]
 go_wp2_with fail
 refine H1.out.mono ?_
 rintro e w' ⟨rfl, rfl⟩
 go_wp2_with fail
 rw [rounds_succ]
 go_wp2_with fail
 refine H2.out.mono ?_
 rintro e w' ⟨rfl, rfl⟩
 go_wp2_with fail
 rw [rounds_succ]
 go_wp2
 go_ret
 exact ⟨by rw [HE.out]; rfl, HK.out⟩
end Go.Proofs.YtapmdhejgnplaaaGreat
