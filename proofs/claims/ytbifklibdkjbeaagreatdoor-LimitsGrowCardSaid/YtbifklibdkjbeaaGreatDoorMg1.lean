/-
  Several texts in one: Plain words on worlds for this seat's walks: no program in sight. 'Keeps S w w': what w' has of w's blocks outside S is as it was. A job by value; a job's cells; its rows loaded and stored at once; model's between. model.Right at a job whose numbers are in their bounds. limits' Octets and Steps, the program's and the document's, where it is known what Right says. No condition beside. LimitsTold: okay, and the law's walk, where it is known what Light, Short, Right say.
-/
import Derived.WalkKit
import Derived.WalkSpells
import Derived.WalkLawsBesides
import Derived.Lib.Hide
import Derived.Test.YtbifklibdkjbeaaGreatDoorProg
import Derived.IntWalk
import Derived.BigQuiet
import Derived.Deep.QuietTactic
import Derived.Handy
import Derived.BigCall
import Derived.BigGuard
import Derived.Deep.CutBlock
import Derived.Deep.DeepCutAuto
import Derived.Deep.Cut
import Derived.Deep.RegionHeld3
import Derived.BigRegion
namespace Go.Proofs.YtbifklibdkjbeaaGreatDoor
open Go.RowKit
set_option linter.unusedVariables false
set_option linter.unusedSimpArgs false
set_option maxRecDepth 100000
set_option maxHeartbeats 16000000
section
theorem xoo {p : Prop} (h : p) : Hid p := Lib.hid h
open Go.RowKit
structure xa (S : Nat → Prop) (w w' : World) : Prop where
 os : w'.os = w.os
 tape : w'.tape = w.tape
 output : w'.output = w.output
 size : w.heap.size ≤ w'.heap.size
 block : ∀ k, k < w.heap.size → ¬ S k → w'.heap[k]? = w.heap[k]?
theorem xa.refl (S : Nat → Prop) (w : World) : xa S w w := ⟨rfl, rfl, rfl, Nat.le_refl _, fun _ _ _ => rfl⟩
theorem xa.trans {S : Nat → Prop} {a b c : World} (h : xa S a b) (k : xa S b c) : xa S a c :=
 ⟨k.os.trans h.os, k.tape.trans h.tape, k.output.trans h.output, Nat.le_trans h.size k.size,
  fun i hi hs => (k.block i (Nat.lt_of_lt_of_le hi h.size) hs).trans (h.block i hi hs)⟩
theorem xa.mono {S T : Nat → Prop} {a b : World} (h : xa S a b) (hst : ∀ k, k < a.heap.size → S k → T k) : xa T a b :=
 ⟨h.os, h.tape, h.output, h.size, fun i hi hs => h.block i hi (fun hS => hs (hst i hi hS))⟩
theorem xa.drawN {S : Nat → Prop} {a b : World} (h : xa S a b) (n : Nat) : xa S a (b.drewN n) := ⟨h.os, h.tape, h.output, h.size, h.block⟩
theorem xa.drew {S : Nat → Prop} {a b : World} (h : xa S a b) : xa S a b.drew := ⟨h.os, h.tape, h.output, h.size, h.block⟩
theorem xa.alloc {S : Nat → Prop} {a b : World} (h : xa S a b) (o : Obj) : xa S a (b.alloc o) :=
 ⟨h.os, h.tape, h.output, by have := h.size; simp; omega, fun k hk hs => by rw [Below.heap_alloc _ _ _ (by have := h.size; omega)]; exact h.block k hk hs⟩
theorem xa.setCell {S : Nat → Prop} {a b : World} (h : xa S a b) {p : Addr} (hp : S p.block ∨ a.heap.size ≤ p.block) (u : Value) : xa S a (b.setCell p u) :=
 ⟨h.os, h.tape, h.output, by have := h.size; simp [World.setCell]; omega, fun k hk hs => by
  rw [Below.heap_setCell _ _ _ _ (by intro e; subst e; rcases hp with hp | hp; exact hs hp; omega)]; exact h.block k hk hs⟩
class KI (S : Nat → Prop) (a b : World) : Prop where
  out : xa S a b
instance KI.re (S : Nat → Prop) (a : World) : KI S a a := ⟨xa.refl _ _⟩
instance KI.al (S : Nat → Prop) (a b : World) (o : Obj) [h : KI S a b] : KI S a (b.alloc o) := ⟨h.out.alloc o⟩
instance KI.dr (S : Nat → Prop) (a b : World) [h : KI S a b] : KI S a b.drew := ⟨h.out.drew⟩
instance KI.dn (S : Nat → Prop) (a b : World) (n : Nat) [h : KI S a b] : KI S a (b.drewN n) := ⟨h.out.drawN n⟩
theorem xa.set {S : Nat → Prop} {a b : World} (h : xa S a b) {p : Addr} (hp : S p.block) (u : Value) : xa S a (b.setCell p u) := h.setCell (Or.inl hp) u
theorem xa.setNew {S : Nat → Prop} {a b : World} (h : xa S a b) {p : Addr} (hp : a.heap.size ≤ p.block) (u : Value) : xa S a (b.setCell p u) := h.setCell (Or.inr hp) u
theorem xa.trans2 {S T : Nat → Prop} {a b c : World} (h : xa S a b) (k : xa T b c) (ht : ∀ i, i < a.heap.size → T i → S i) : xa S a c :=
 ⟨k.os.trans h.os, k.tape.trans h.tape, k.output.trans h.output, Nat.le_trans h.size k.size,
  fun i hi hs => (k.block i (Nat.lt_of_lt_of_le hi h.size) (fun hT => hs (ht i hi hT))).trans (h.block i hi hs)⟩
theorem xa.below {S : Nat → Prop} {a b : World} (h : xa S a b) {B : Nat} (hB : B ≤ a.heap.size) (hs : ∀ k, k < B → ¬ S k) : Below B a b :=
 ⟨h.os, h.tape, h.output, h.size, fun k hk => h.block k (by omega) (hs k hk)⟩
theorem xa.ofBelowAll {a b : World} (h : Below a.heap.size a b) (S : Nat → Prop) : xa S a b :=
 ⟨h.os, h.tape, h.output, h.size, fun k hk _ => h.block k hk⟩
theorem xa.belowAll {a b : World} (h : xa (fun _ => False) a b) : Below a.heap.size a b := h.below (Nat.le_refl _) (fun _ _ => id)
theorem xay {w : World} {a : Addr} {v : Value} (h : w.cell? a = some v) : a.block < w.heap.size := by
 unfold World.cell? at h
 split at h
 · rename_i hh; exact (Array.getElem?_eq_some_iff.1 hh).1
 simp at h
theorem xa.cell {S : Nat → Prop} {a b : World} (h : xa S a b) {p : Addr} {v : Value} (hc : a.cell? p = some v) (hs : ¬ S p.block) : b.cell? p = some v :=
 (World.cell?_of_block (w := a) (h.block p.block (xay hc) hs)).trans hc
theorem xa.frozen {S : Nat → Prop} {a b : World} (h : xa S a b) {p : Addr} {x : Bool} (hc : a.frozen? p = x) (hl : p.block < a.heap.size) (hs : ¬ S p.block) : b.frozen? p = x :=
 (World.frozen?_of_block (w := a) (h.block p.block hl hs)).trans hc
theorem xa.heap {S : Nat → Prop} {a b : World} (h : xa S a b) {k : Nat} {o : Obj} (hc : a.heap[k]? = some o) (hs : ¬ S k) : b.heap[k]? = some o :=
 (h.block k (Array.getElem?_eq_some_iff.1 hc).1 hs).trans hc
theorem xa8 {w : World} {b : Nat} {cs : Array Value} {T : TypeId} {fz : Nat × Nat} (h : w.heap[b]? = some (.cells cs T fz)) (o : Nat) : w.cell? ⟨b, o, none⟩ = cs[o]? := by
 unfold World.cell?; simp [h]
theorem xbJ {w : World} {base : Nat} {e : TypeId} {size : Nat} {v : Value} {n : Nat} {xs : List Value} (h : w.ownsRow base e size v n xs) (k : Nat) : (w.drewN k).ownsRow base e size v n xs := h
theorem xab {w : World} {base : Nat} {e : TypeId} {size : Nat} {v : Value} {n : Nat} {xs : List Value} (h : w.ownsRow base e size v n xs) (o : Obj) : (w.alloc o).ownsRow base e size v n xs := World.ownsRow.alloc h o
theorem xan (w : World) (l : List Value) (T : TypeId) : ∀ (j : Nat) (u : Value), l[j]? = some u → (w.alloc (.cells l.toArray T)).cell? ((⟨w.heap.size, 0, none⟩ : Addr).add j) = some u := by
 intro j u hj
 have : (⟨w.heap.size, 0, none⟩ : Addr).add j = ⟨w.heap.size, j, none⟩ := by unfold Addr.add; split <;> simp_all
 rw [this, xa8 (cs := l.toArray) (T := T) (fz := (0, 0)) (by show (w.heap.push _)[_]? = _; simp)]
 simpa using hj
theorem xa.grown {S : Nat → Prop} {a b c : World} {row : Option Nat} (h : xa S a b) (hg : b.grownBy c row) (hr : ∀ k, row = some k → S k ∨ a.heap.size ≤ k) : xa S a c :=
 ⟨hg.os.trans h.os, hg.tape.trans h.tape, hg.output.trans h.output, Nat.le_trans h.size hg.size, fun k hk hs => by
  rw [hg.block k (Nat.lt_of_lt_of_le hk h.size) (fun e => by rcases hr k e.symm with h1 | h1; exact hs h1; omega)]; exact h.block k hk hs⟩
theorem xaa {w : World} {base : Nat} {e : TypeId} {size : Nat} {v : Value} {n : Nat} {xs : List Value} (h : w.ownsRow base e size v n xs) : ∀ k, v.ownBlock = some k → base ≤ k := by
 rintro k hk
 rcases h.2 with ⟨rfl, _⟩ | ⟨g, cap, cur, rfl, hg, _⟩
 · simp [Value.ownBlock] at hk
 simp [Value.ownBlock] at hk; omega
theorem xac {w : World} {base : Nat} {e : TypeId} {size : Nat} {v : Value} {n : Nat} {xs : List Value} (h : w.ownsRow base e size v n xs) : ∃ a cap, v = .slice a n cap := by
 rcases h.2 with ⟨rfl, rfl⟩ | ⟨g, cap, cur, rfl, _⟩
 · exact ⟨none, 0, rfl⟩
 exact ⟨_, cap, rfl⟩
theorem xaf {w : World} {a b : Addr} {v : Value} (h : a ≠ b) : (w.setCell a v).cell? b = w.cell? b := World.cell?_setCell_other w a b v h
theorem xaL {w : World} {a : Addr} {v u : Value} (h : w.cell? a = some u) : (w.setCell a v).cell? a = some v := World.cell?_setCell_same w a v h
theorem xdJ {w : World} {a b : Addr} {v : Value} : (w.setCell a v).frozen? b = w.frozen? b := World.frozen?_setCell w a b v
theorem xad {w : World} {a : Addr} {v : Value} (h : w.cell? a = some v) (o : Obj) : (w.alloc o).cell? a = some v :=
 (xa.alloc (xa.refl (fun _ => False) w) o).cell h id
theorem xas {w : World} {a : Addr} {v : Bool} (h : w.frozen? a = v) (hl : a.block < w.heap.size) (o : Obj) : (w.alloc o).frozen? a = v :=
 (xa.alloc (xa.refl (fun _ => False) w) o).frozen h hl id
end
structure JV where
 da : Option Addr
 dn : Nat
 dc : Nat
 sa : Option Addr
 sn : Nat
 sc : Nat
 fl : Int
 cd : Int
 mo : Int
 pt : List UInt8
 ev : Int
 bd : Int
 te : Int
 be : Int
 af : Int
 rf : Int
 bu : Int
 ch : Int
 ro : Int
 wo : Int
 rg : Int
def jCs (j : JV) : Array Value := #[.slice j.da j.dn j.dc, .slice j.sa j.sn j.sc, .int .i64 j.fl, .int .i64 j.cd, .int .i64 j.mo, .string ⟨j.pt.toArray⟩, .int .i64 j.ev, .int .i64 j.bd, .int .i64 j.te, .int .i64 j.be, .int .i64 j.af, .int .i64 j.rf, .int .i64 j.bu, .int .i64 j.ch, .int .i64 j.ro, .int .i64 j.wo, .int .i64 j.rg]
def jV (j : JV) : Value := .agg (jCs j)
theorem xe2 (n a b : Int) (w : World) : Calls Tryz.prog 76 #[.int .i64 n, .int .i64 a, .int .i64 b] w fun e w' => e = .returned (.bool (decide (a ≤ n) && decide (n ≤ b))) ∧ w' = w := by
 by_cases h : a ≤ n
 · have g : decide (a ≤ n) = true := by simpa using h
   have HR : Hid ((decide (a ≤ n) && decide (n ≤ b)) = decide (n ≤ b)) := xoo (by rw [g]; rfl)
   generalize (decide (a ≤ n) && decide (n ≤ b)) = q at *
   go_enter Tryz.func76, Tryz.ntmps76
   go_wp2_with fail
   go_ret
   exact ⟨by rw [HR.out]; rfl, rfl⟩
 have g : decide (a ≤ n) = false := by simpa using h
 have HR : Hid ((decide (a ≤ n) && decide (n ≤ b)) = false) := xoo (by rw [g]; rfl)
 generalize (decide (a ≤ n) && decide (n ≤ b)) = q at *
 go_enter Tryz.func76, Tryz.ntmps76
 go_wp2_with fail
 go_ret
 exact ⟨by rw [HR.out]; rfl, rfl⟩
def JbAt (w : World) (c : Nat) (j : JV) : Prop := w.heap[c]? = some (.cells (jCs j) 28 (0, 0))
theorem xcT (w : World) (j : JV) : JbAt (w.alloc (.cells (jCs j) 28)) w.heap.size j := heap_alloc_new w _
theorem JbAt.c {w : World} {c : Nat} {j : JV} (h : JbAt w c j) :
 w.cell? ⟨c, 0, none⟩ = some (.slice j.da j.dn j.dc) ∧ w.cell? ⟨c, 1, none⟩ = some (.slice j.sa j.sn j.sc) ∧ w.cell? ⟨c, 2, none⟩ = some (.int .i64 j.fl) ∧ w.cell? ⟨c, 3, none⟩ = some (.int .i64 j.cd) ∧ w.cell? ⟨c, 4, none⟩ = some (.int .i64 j.mo) ∧ w.cell? ⟨c, 5, none⟩ = some (.string ⟨j.pt.toArray⟩) ∧
 w.cell? ⟨c, 6, none⟩ = some (.int .i64 j.ev) ∧ w.cell? ⟨c, 7, none⟩ = some (.int .i64 j.bd) ∧ w.cell? ⟨c, 8, none⟩ = some (.int .i64 j.te) ∧ w.cell? ⟨c, 9, none⟩ = some (.int .i64 j.be) ∧ w.cell? ⟨c, 10, none⟩ = some (.int .i64 j.af) := by
 refine ⟨?_, ?_, ?_, ?_, ?_, ?_, ?_, ?_, ?_, ?_, ?_⟩ <;> (rw [Lib.cell_of_heap h]; rfl)
theorem JbAt.keeps {S : Nat → Prop} {w w' : World} {c : Nat} {j : JV} (h : JbAt w c j) (K : xa S w w') (hs : ¬ S c) : JbAt w' c j := K.heap h hs
theorem JbAt.d {w : World} {c : Nat} {j : JV} (h : JbAt w c j) :
 w.cell? ⟨c, 11, none⟩ = some (.int .i64 j.rf) ∧ w.cell? ⟨c, 12, none⟩ = some (.int .i64 j.bu) ∧ w.cell? ⟨c, 13, none⟩ = some (.int .i64 j.ch) ∧ w.cell? ⟨c, 14, none⟩ = some (.int .i64 j.ro) ∧ w.cell? ⟨c, 15, none⟩ = some (.int .i64 j.wo) ∧ w.cell? ⟨c, 16, none⟩ = some (.int .i64 j.rg) := by
 refine ⟨?_, ?_, ?_, ?_, ?_, ?_⟩ <;> (rw [Lib.cell_of_heap h]; rfl)
theorem xaK (j : JV) : (Tryz.prog.info? 28).map (·.size) = some (jCs j).size := by
 show _ = some 17
 kernel_rfl
theorem xap {P : Program} {ops : Array Oper} {rest : List Oper} {o : Oper} {a : Act} {w : World} {Q : Exit → Act → World → Prop} (hw : Region.wanted o (yielded ops a.tmps) = true) (ty : TypeId) (x : Operand) (ho : o.op = .load ty x)
 (g : Nat) (hx : a.eval x = .pointer (some ⟨g, 0, none⟩)) (t : TypeId) (cs : Array Value) (fr : Nat × Nat) (d : TypeDesc) (hg : w.heap[g]? = some (.cells cs t fr))
 (hu : P.underlying ty = some d) (hd : (match d with | .struct _ | .array _ _ => true | _ => false) = true) (hi : (P.info? ty).map (·.size) = some cs.size)
 (h : wpList P ops Q rest (a.put o.dst (.agg cs)) w) : wpList P ops Q (o :: rest) a w :=
 BigFrame.wpList_want hw fun K hK => wp_load_row ty x ho g hx t cs fr d hg hu hd hi (hK _ _ h)
theorem xaA {P : Program} {o : Oper} {ρ : Operand → Value} {w : World} (ty : TypeId) (x : Operand) (ho : o.op = .load ty x)
 (g : Nat) (hx : ρ x = .pointer (some ⟨g, 0, none⟩)) (t : TypeId) (cs : Array Value) (fr : Nat × Nat) (d : TypeDesc) (hg : w.heap[g]? = some (.cells cs t fr))
 (hu : P.underlying ty = some d) (hd : (match d with | .struct _ | .array _ _ => true | _ => false) = true) (hi : (P.info? ty).map (·.size) = some cs.size) :
 (execOp ρ o).run P w = .ok (.value (.agg cs)) w := by
 unfold execOp
 simp only [ho, hx, Instr.loadAt, Instr.sureAddr, Sem.run_bind, Sem.run_pure, Result.andThen_ok, run_loadVar_row w g t ty cs fr d hg hu hd hi]
structure JOk (j : JV) : Prop where
 da : j.dn ≤ 65536
 sz : j.sn ≤ 64
 cd : 0 ≤ j.cd ∧ j.cd ≤ 3
 mo : 1 ≤ j.mo ∧ j.mo ≤ 4096
 te : 0 ≤ j.te ∧ j.te ≤ 3
 be : 0 ≤ j.be ∧ j.be ≤ 16
 af : 0 ≤ j.af ∧ j.af ≤ 16
 bu : 1 ≤ j.bu ∧ j.bu ≤ 64
 ch : 1 ≤ j.ch ∧ j.ch ≤ 4096
 ro : 0 ≤ j.ro ∧ j.ro ≤ 64
 wo : 1 ≤ j.wo ∧ j.wo ≤ 16
 rg : 1 ≤ j.rg ∧ j.rg ≤ 64
theorem xia (n a b : Int) (h1 : a ≤ n) (h2 : n ≤ b) (w : World) : Calls Tryz.prog 76 #[.int .i64 n, .int .i64 a, .int .i64 b] w fun e w' => e = .returned (.bool true) ∧ w' = w := by
 refine (xe2 n a b w).mono ?_
 rintro e w' ⟨rfl, rfl⟩
 have g1 : decide (a ≤ n) = true := by simpa using h1
 have g2 : decide (n ≤ b) = true := by simpa using h2
 rw [g1, g2]
 exact ⟨rfl, rfl⟩
def CoEr (pt : List UInt8) (er : Int) : Prop := ∀ W, Calls Tryz.prog 58 #[.string ⟨pt.toArray⟩] W fun e w' => ∃ p, e = .returned (.tuple #[.pointer p, .int .i64 er]) ∧ xa (fun _ => False) W w'
theorem xjZ (j : JV) (er : Int) (hj : JOk j) (hC : CoEr j.pt er) (w : World) :
 Calls Tryz.prog 42 #[jV j] w fun e w' => e = .returned (.bool (er == 0)) ∧ xa (fun _ => False) w w' := by
 have HC := xoo hC
 unfold CoEr at HC
 obtain ⟨b1, b2, ⟨b3, b4⟩, ⟨b5, b6⟩, ⟨b7, b8⟩, ⟨b9, b10⟩, ⟨b11, b12⟩, ⟨b13, b14⟩, ⟨b15, b16⟩, ⟨b17, b18⟩, ⟨b19, b20⟩, ⟨b21, b22⟩⟩ := hj
 have hsz : decide ((j.sn : Int) ≤ 64) = true := by simp; omega
 have hb1 : (j.dn : Int) ≤ 65536 := by omega
 have hb2 : (0 : Int) ≤ (j.dn : Int) := by omega
 have HN : Hid (∀ n a b : Int, a ≤ n → n ≤ b → ∀ W, Calls Tryz.prog 76 #[.int .i64 n, .int .i64 a, .int .i64 b] W fun e w' => e = .returned (.bool true) ∧ w' = W) := xoo (fun n a b h1 h2 W => xia n a b h1 h2 W)
 have hjb := xcT w j
 obtain ⟨w1, hw⟩ : ∃ W, w.alloc (.cells (jCs j) 28) = W := ⟨_, rfl⟩
 rw [hw] at hjb
 have hk1 : xa (fun _ => False) w w1 := by rw [← hw]; exact (xa.refl _ _).alloc _
 have hs1 : w.heap.size + 1 ≤ w1.heap.size := by rw [← hw]; simp
 have hw2 := hw
 unfold jCs at hw2
 have HW2 := xoo hw2
 have HJ := xoo hjb
 have HK1 := xoo hk1
 clear hw2 hw hjb hk1 hC
 unfold jV jCs
 go_enter Tryz.func42, Tryz.ntmps42
 go_wp2_with fail
 rw [HW2.out]
 clear HW2
 obtain ⟨j0, j1, j2, j3, j4, j5, j6, j7, j8, j9, j10⟩ := HJ.out.c
 obtain ⟨j11, j12, j13, j14, j15, j16⟩ := HJ.out.d
 repeat (refine (HN.out _ _ _ (by assumption) (by assumption) _).mono ?_; rintro e w' ⟨rfl, rfl⟩; go_wp2_with fail)
 refine (HC.out _).mono ?_
 rintro e w2 ⟨p, rfl, k2⟩
 have HK2 := xoo (HK1.out.trans k2)
 clear k2
 go_wp2_with fail
 go_ret
 exact ⟨rfl, HK2.out⟩
def octN (j : JV) : Int := j.bu * j.ch + 3 * j.ch + 2 * j.mo + 20 + j.mo * (2 * j.ro + 2 * j.wo + 1 + j.rg + j.be)
def xhw (j : JV) : Int := 170 + 10 * j.wo + 40 * (j.dn : Int)
def xaW (f : FuncId) (j : JV) (q : Bool) : Prop := ∀ W, Calls Tryz.prog f #[jV j] W fun e w' => e = .returned (.bool q) ∧ xa (fun _ => False) W w'
theorem xiO {a b A B : Int} (h1 : 0 ≤ a) (h2 : a ≤ A) (h3 : 0 ≤ b) (h4 : b ≤ B) : 0 ≤ a * b ∧ a * b ≤ A * B :=
 ⟨Int.mul_nonneg h1 h3, Int.mul_le_mul h2 h4 h3 (by omega)⟩
theorem xfx (j : JV) (q : Bool) (hR : xaW 42 j q) (hq : q = true → JOk j) (w : World) :
 Calls Tryz.prog 17 #[jV j] w fun e w' => e = .returned (.int .i64 (if q then octN j else 0)) ∧ xa (fun _ => False) w w' := by
 unfold xaW at hR
 have HR := xoo hR
 have HQ := xoo hq
 have hjb := xcT w j
 obtain ⟨w1, hw⟩ : ∃ W, w.alloc (.cells (jCs j) 28) = W := ⟨_, rfl⟩
 rw [hw] at hjb
 have hk1 : xa (fun _ => False) w w1 := by rw [← hw]; exact (xa.refl _ _).alloc _
 have hs1 : w.heap.size + 1 ≤ w1.heap.size := by rw [← hw]; simp
 have hw2 := hw
 unfold jCs at hw2
 have HW2 := xoo hw2
 have HJ := xoo hjb
 have HK1 := xoo hk1
 clear hw2 hw hjb hk1 hR hq
 have hLd := xaK j
 unfold jV jCs
 go_enter Tryz.func17, Tryz.ntmps17
 go_upto_region 1 with fail
 rw [HW2.out]
 clear HW2
 go_wp2_with (refine xap rfl 28 (.tmp 1) rfl w.heap.size rfl 28 (jCs j) (0, 0) _ HJ.out Tryz.underlying28 rfl hLd ?_)
 refine (HR.out _).mono ?_
 rintro e w2 ⟨rfl, k2⟩
 have HJ2 := xoo (HJ.out.keeps k2 id)
 have HK2 := xoo (HK1.out.trans k2)
 clear k2 HJ HK1 HR hLd
 cases q with
 | false =>
  go_wp2_with fail
  go_ret
  exact ⟨rfl, HK2.out⟩
 | true =>
  obtain ⟨b1, b2, ⟨b3, b4⟩, ⟨b5, b6⟩, ⟨b7, b8⟩, ⟨b9, b10⟩, ⟨b11, b12⟩, ⟨b13, b14⟩, ⟨b15, b16⟩, ⟨b17, b18⟩, ⟨b19, b20⟩, ⟨b21, b22⟩⟩ := HQ.out rfl
  obtain ⟨j0, j1, j2, j3, j4, j5, j6, j7, j8, j9, j10⟩ := HJ2.out.c
  obtain ⟨j11, j12, j13, j14, j15, j16⟩ := HJ2.out.d
  obtain ⟨m1, m2⟩ := xiO (a := j.bu) (b := j.ch) (A := 64) (B := 4096) (by omega) (by omega) (by omega) (by omega)
  obtain ⟨n1, n2⟩ := xiO (a := j.mo) (b := 2 * j.ro + 2 * j.wo + 1 + j.rg + j.be) (A := 4096) (B := 300) (by omega) (by omega) (by omega) (by omega)
  have e0 : (j.bu + 3) * j.ch = j.bu * j.ch + 3 * j.ch := by rw [Int.add_mul]
  have HE : Hid (octN j = j.bu * j.ch + 3 * j.ch + 2 * j.mo + 20 + j.mo * (2 * j.ro + 2 * j.wo + 1 + j.rg + j.be)) := xoo rfl
  clear HJ2
  generalize j.bu = bu at *
  generalize j.ch = ch at *
  generalize j.mo = mo at *
  generalize j.ro = ro at *
  generalize j.wo = wo at *
  generalize j.rg = rg at *
  generalize j.be = be at *
  obtain ⟨M, hM⟩ : ∃ M, bu * ch = M := ⟨_, rfl⟩
  obtain ⟨N, hN⟩ : ∃ N, mo * (2 * ro + 2 * wo + 1 + rg + be) = N := ⟨_, rfl⟩
  rw [hM] at m1 m2 e0
  rw [hN] at n1 n2
  rw [hM, hN] at HE
  have w0 : IntKind.i64.wrap (2 * ro) = 2 * ro := IntWalk.i64_in _ (by omega)
  have w1' : IntKind.i64.wrap (2 * wo) = 2 * wo := IntWalk.i64_in _ (by omega)
  have w2' : IntKind.i64.wrap (2 * ro + 2 * wo) = 2 * ro + 2 * wo := IntWalk.i64_in _ (by omega)
  have w3 : IntKind.i64.wrap (2 * ro + 2 * wo + 1) = 2 * ro + 2 * wo + 1 := IntWalk.i64_in _ (by omega)
  have w4 : IntKind.i64.wrap (2 * ro + 2 * wo + 1 + rg) = 2 * ro + 2 * wo + 1 + rg := IntWalk.i64_in _ (by omega)
  have w5 : IntKind.i64.wrap (2 * ro + 2 * wo + 1 + rg + be) = 2 * ro + 2 * wo + 1 + rg + be := IntWalk.i64_in _ (by omega)
  have w6 : IntKind.i64.wrap (bu + 3) = bu + 3 := IntWalk.i64_in _ (by omega)
  have w7 : IntKind.i64.wrap ((bu + 3) * ch) = M + 3 * ch := by rw [e0]; exact IntWalk.i64_in _ (by omega)
  have w8 : IntKind.i64.wrap (2 * mo) = 2 * mo := IntWalk.i64_in _ (by omega)
  have w9 : IntKind.i64.wrap (M + 3 * ch + 2 * mo) = M + 3 * ch + 2 * mo := IntWalk.i64_in _ (by omega)
  have w10 : IntKind.i64.wrap (M + 3 * ch + 2 * mo + 20) = M + 3 * ch + 2 * mo + 20 := IntWalk.i64_in _ (by omega)
  have w11 : IntKind.i64.wrap (mo * (2 * ro + 2 * wo + 1 + rg + be)) = N := by rw [hN]; exact IntWalk.i64_in _ (by omega)
  have w12 : IntKind.i64.wrap (M + 3 * ch + 2 * mo + 20 + N) = M + 3 * ch + 2 * mo + 20 + N := IntWalk.i64_in _ (by omega)
  have w13 : IntKind.i64.wrap (bu * ch) = M := by rw [hM]; exact IntWalk.i64_in _ (by omega)
  have w14 : IntKind.i64.wrap (3 * ch) = 3 * ch := IntWalk.i64_in _ (by omega)
  have w15 : IntKind.i64.wrap (M + 3 * ch) = M + 3 * ch := IntWalk.i64_in _ (by omega)
  clear hM hN e0
  go_wp2_with fail
  go_ret
  exact ⟨by rw [HE.out]; rfl, HK2.out⟩
theorem xgA (j : JV) (q : Bool) (hR : xaW 42 j q) (hq : q = true → JOk j) (w : World) :
 Calls Tryz.prog 19 #[jV j] w fun e w' => e = .returned (.int .i64 (if q then xhw j else 0)) ∧ xa (fun _ => False) w w' := by
 unfold xaW at hR
 have HR := xoo hR
 have HQ := xoo hq
 have hjb := xcT w j
 obtain ⟨w1, hw⟩ : ∃ W, w.alloc (.cells (jCs j) 28) = W := ⟨_, rfl⟩
 rw [hw] at hjb
 have hk1 : xa (fun _ => False) w w1 := by rw [← hw]; exact (xa.refl _ _).alloc _
 have hs1 : w.heap.size + 1 ≤ w1.heap.size := by rw [← hw]; simp
 have hw2 := hw
 unfold jCs at hw2
 have HW2 := xoo hw2
 have HJ := xoo hjb
 have HK1 := xoo hk1
 clear hw2 hw hjb hk1 hR hq
 have hLd := xaK j
 unfold jV jCs
 go_enter Tryz.func19, Tryz.ntmps19
 go_upto_region 1 with fail
 rw [HW2.out]
 clear HW2
 go_wp2_with (refine xap rfl 28 (.tmp 1) rfl w.heap.size rfl 28 (jCs j) (0, 0) _ HJ.out Tryz.underlying28 rfl hLd ?_)
 refine (HR.out _).mono ?_
 rintro e w2 ⟨rfl, k2⟩
 have HJ2 := xoo (HJ.out.keeps k2 id)
 have HK2 := xoo (HK1.out.trans k2)
 clear k2 HJ HK1 HR hLd
 cases q with
 | false =>
  go_wp2_with fail
  go_ret
  exact ⟨rfl, HK2.out⟩
 | true =>
  obtain ⟨b1, b2, ⟨b3, b4⟩, ⟨b5, b6⟩, ⟨b7, b8⟩, ⟨b9, b10⟩, ⟨b11, b12⟩, ⟨b13, b14⟩, ⟨b15, b16⟩, ⟨b17, b18⟩, ⟨b19, b20⟩, ⟨b21, b22⟩⟩ := HQ.out rfl
  obtain ⟨j0, j1, j2, j3, j4, j5, j6, j7, j8, j9, j10⟩ := HJ2.out.c
  obtain ⟨j11, j12, j13, j14, j15, j16⟩ := HJ2.out.d
  have HE : Hid (xhw j = 170 + 10 * j.wo + 40 * (j.dn : Int)) := xoo rfl
  clear HJ2
  generalize j.wo = wo at *
  generalize j.dn = dn at *
  have w0 : IntKind.i64.wrap (10 * wo) = 10 * wo := IntWalk.i64_in _ (by omega)
  have w1' : IntKind.i64.wrap (50 + 10 * wo) = 50 + 10 * wo := IntWalk.i64_in _ (by omega)
  have w2' : IntKind.i64.wrap ((dn : Int) + 3) = (dn : Int) + 3 := IntWalk.i64_in _ (by omega)
  have w3 : IntKind.i64.wrap (40 * ((dn : Int) + 3)) = 40 * ((dn : Int) + 3) := IntWalk.i64_in _ (by omega)
  have w4 : IntKind.i64.wrap (50 + 10 * wo + 40 * ((dn : Int) + 3)) = 50 + 10 * wo + 40 * ((dn : Int) + 3) := IntWalk.i64_in _ (by omega)
  have w5 : IntKind.i64.wrap (170 + 10 * wo) = 170 + 10 * wo := IntWalk.i64_in _ (by omega)
  have w6 : IntKind.i64.wrap (40 * (dn : Int)) = 40 * (dn : Int) := IntWalk.i64_in _ (by omega)
  have w7 : IntKind.i64.wrap (170 + 10 * wo + 40 * (dn : Int)) = 170 + 10 * wo + 40 * (dn : Int) := IntWalk.i64_in _ (by omega)
  go_wp2_with fail
  go_ret
  exact ⟨by rw [HE.out]; first | rfl | (show Ending.returned _ = _; congr 2; simp; omega), HK2.out⟩
theorem xaP {P : Program} {ops : Array Oper} {o : Oper} {a : Act} {w : World} {K : Act → World → Prop} {Q : Exit → Act → World → Prop} {E : Prop} (hw : Region.wanted o (yielded ops a.tmps) = true) (f : FuncId) (args : Array Value)
 (hrun : (execOp a.eval o).run P w = .ok (.enter f args) w) (h : Calls P f args w fun e w' => ∃ v, e = .returned v ∧ K (a.put o.dst v) w') : if Region.wanted o (yielded ops a.tmps) = true then Oper.wp P o a w K Q else E := by
 rw [if_pos hw]
 unfold Oper.wp
 rw [hrun, Oper.upon_enter]
 refine h.mono ?_
 rintro e w' ⟨v, rfl, hk⟩
 exact hk
theorem xcy {o : Oper} {ρ : Operand → Value} {w : World} (x y : Operand) (ho : o.op = .binOp .eql 3 x y 3) (n : Int) (hx : ρ x = .int .i64 n) (hy : ρ y = .int .i64 n) : (execOp ρ o).run Tryz.prog w = .ok (.value (.bool true)) w := by
 have e : (n == n) = true := by simp
 unfold execOp
 rw [ho]
 simp only [hx, hy]
 go_simp
theorem xfv (j : JV) (q1 q2 : Bool) (hL : xaW 40 j q1) (hS : q1 = true → xaW 41 j q2) (w : World) :
 Calls Tryz.prog 16 #[jV j, .slice none 0 0] w fun e w' => e = .returned (.bool (q1 && q2)) ∧ xa (fun _ => False) w w' := by
 unfold xaW at hL hS
 have HL := xoo hL
 have HS := xoo hS
 have hjb := xcT w j
 obtain ⟨w1, hw⟩ : ∃ W, w.alloc (.cells (jCs j) 28) = W := ⟨_, rfl⟩
 rw [hw] at hjb
 have hk1 : xa (fun _ => False) w w1 := by rw [← hw]; exact (xa.refl _ _).alloc _
 have hs1 : w.heap.size + 1 ≤ w1.heap.size := by rw [← hw]; simp
 have hw2 := hw
 unfold jCs at hw2
 have HW2 := xoo hw2
 have HJ := xoo hjb
 have HK1 := xoo hk1
 clear hw2 hw hjb hk1 hL hS
 have hLd := xaK j
 unfold jV jCs
 go_enter Tryz.func16, Tryz.ntmps16
 go_upto_region 1 with fail
 rw [HW2.out]
 clear HW2
 go_wp2_with (refine xap rfl 28 (.tmp 2) rfl w.heap.size rfl 28 (jCs j) (0, 0) _ HJ.out Tryz.underlying28 rfl hLd ?_)
 refine (HL.out _).mono ?_
 rintro e w2 ⟨rfl, k2⟩
 have HJ2 := xoo (HJ.out.keeps k2 id)
 have HK2 := xoo (HK1.out.trans k2)
 clear k2 HJ HK1
 cases q1 with
 | false =>
  go_wp2_with fail
  go_ret
  exact ⟨rfl, HK2.out⟩
 | true =>
  have HS2 := xoo (HS.out rfl)
  clear HS HL
  go_wp2_with (refine xap rfl 28 (.tmp 2) rfl w.heap.size rfl 28 (jCs j) (0, 0) _ HJ2.out Tryz.underlying28 rfl hLd ?_)
  refine (HS2.out _).mono ?_
  rintro e w3 ⟨rfl, k3⟩
  have HK3 := xoo (HK2.out.trans k3)
  clear k3 HJ2
  cases q2
  all_goals
   go_wp2_with fail
   go_ret
   exact ⟨rfl, HK3.out⟩
def xdT (f : FuncId) (j : JV) (n : Int) : Prop := ∀ W, Calls Tryz.prog f #[jV j] W fun e w' => e = .returned (.int .i64 n) ∧ xa (fun _ => False) W w'
def xgt (f : FuncId) : Prop := ∀ W, Calls Tryz.prog f #[] W fun e w' => e = .returned (.bool true) ∧ xa (fun _ => False) W w'
end Go.Proofs.YtbifklibdkjbeaaGreatDoor
