/-
  Several texts in one: match.begun, First. match.All. An engine in memory. No condition. Where a text stands in another: the borders' way, in plain Lean.
-/
import Derived.Test.YtgobcnheemocnaaGreatDoorMg25
import Derived.Laws.MakeOwn
import Derived.Deep.AppendLies
import Derived.Test.YtgobcnheemocnaaGreatDoorMg23
import Derived.Test.YtgobcnheemocnaaGreatDoorMg1
section
namespace Go.Proofs.YtgobcnheemocnaaGreatDoor
open Go.RowKit
set_option linter.unusedVariables false
set_option linter.unusedSimpArgs false
set_option maxRecDepth 100000

def BegE (w : World) (is : List Ins) (pv : Value) (tx : List UInt8) (e : Ending) (w' : World) : Prop :=
  ∃ (c : Nat) (a b : TS), e = .returned (.pointer (some ⟨c, 0, none⟩)) ∧ Crew w.heap.size w' c pv tx is a b ∧ a.now = 0 ∧ b.now = 0 ∧ (∀ x, inC c a b x → w.heap.size ≤ x) ∧ Keeps (fun _ => False) w w'
theorem Crew.inlt {B c : Nat} {w : World} {pv : Value} {tx : List UInt8} {is : List Ins} {a b : TS} (h : Crew B w c pv tx is a b) {x : Nat} (hx : inC c a b x) : x < w.heap.size := by
  rcases hx with rfl | e | e
  · exact h.ltc
  · exact (Thr.inlt h.ta e).1
  · exact (Thr.inlt h.tb e).1
theorem made_at (n i : Nat) (h : i < n) : (madeCells #[Value.int .i64 0] n)[i]? = some (.int .i64 0) := by
  simp [madeCells, h, Nat.mod_one]
theorem thr_new {B : Nat} {w : World} {n t m : Nat} (h1 : w.heap[t]? = some (.cells #[.slice none 0 0, .slice (some ⟨m, 0, none⟩) n n, .int .i64 0] 340 (0, 0))) (h2 : w.heap[m]? = some (.cells (madeCells #[Value.int .i64 0] n) 3 (0, 0))) (b1 : B ≤ t) (b2 : B ≤ m) (hne : t ≠ m) :
    (⟨t, m, .slice none 0 0, [], fun _ => true, 0⟩ : TS).at B n w := by
  have hm : m < w.heap.size := (Array.getElem?_eq_some_iff.1 h2).1
  refine ⟨h1, ⟨rfl, Or.inl ⟨rfl, rfl⟩⟩, ⟨fun _ => 0, fun i hi => ⟨?_, Lib.frozen_of_heap h2 i, Nat.le_refl _, by simp⟩⟩, b1, b2, hm, hne, by simp [Value.ownBlock], by simp [Value.ownBlock]⟩
  rw [Lib.cell_of_heap h2]
  exact made_at n i hi
theorem begun_mk {w w' : World} {is : List Ins} {pv : Value} {tx : List UInt8} (hpg : PgAt w (fun b => b < w.heap.size) pv is) {cs : Array Value} (hcs : cs = madeCells #[Value.int .i64 0] is.length) (K : Keeps (fun _ => False) w w') (c t1 m1 t2 m2 : Nat)
    (h1 : w'.heap[t1]? = some (.cells #[.slice none 0 0, .slice (some ⟨m1, 0, none⟩) is.length is.length, .int .i64 0] 340 (0, 0))) (h2 : w'.heap[m1]? = some (.cells cs 3 (0, 0)))
    (h3 : w'.heap[t2]? = some (.cells #[.slice none 0 0, .slice (some ⟨m2, 0, none⟩) is.length is.length, .int .i64 0] 340 (0, 0))) (h4 : w'.heap[m2]? = some (.cells cs 3 (0, 0)))
    (h5 : w'.heap[c]? = some (.cells #[pv, .string ⟨tx.toArray⟩, .pointer (some ⟨t1, 0, none⟩), .pointer (some ⟨t2, 0, none⟩)] 342 (0, 0)))
    (hb : w.heap.size ≤ c ∧ w.heap.size ≤ t1 ∧ w.heap.size ≤ m1 ∧ w.heap.size ≤ t2 ∧ w.heap.size ≤ m2) (hd : t1 ≠ m1 ∧ t2 ≠ m2 ∧ t1 ≠ t2 ∧ t1 ≠ m2 ∧ m1 ≠ t2 ∧ m1 ≠ m2 ∧ c ≠ t1 ∧ c ≠ m1 ∧ c ≠ t2 ∧ c ≠ m2) :
    BegE w is pv tx (.returned (.pointer (some ⟨c, 0, none⟩))) w' := by
  subst hcs
  obtain ⟨b1, b2, b3, b4, b5⟩ := hb
  obtain ⟨d1, d2, d3, d4, d5, d6, d7, d8, d9, d10⟩ := hd
  have ina : ∀ x, (⟨t1, m1, .slice none 0 0, [], fun _ => true, 0⟩ : TS).inn x → x = t1 ∨ x = m1 := fun x h => by
    rcases h with h | h | h
    · exact Or.inl h
    · exact Or.inr h
    · simp [Value.ownBlock] at h
  have inb : ∀ x, (⟨t2, m2, .slice none 0 0, [], fun _ => true, 0⟩ : TS).inn x → x = t2 ∨ x = m2 := fun x h => by
    rcases h with h | h | h
    · exact Or.inl h
    · exact Or.inr h
    · simp [Value.ownBlock] at h
  refine ⟨c, ⟨t1, m1, .slice none 0 0, [], fun _ => true, 0⟩, ⟨t2, m2, .slice none 0 0, [], fun _ => true, 0⟩, rfl,
    ⟨h5, thr_new h1 h2 b2 b3 d1, thr_new h3 h4 b4 b5 d2, fun x ha hb => ?_, fun h => ?_, fun h => ?_, b1, hpg.keepsTo K (fun _ _ => id) (fun _ h => h)⟩, rfl, rfl, fun x h => ?_, K⟩
  · rcases ina x ha with rfl | rfl <;> rcases inb _ hb with h | h <;> omega
  · rcases ina c h with h | h <;> omega
  · rcases inb c h with h | h <;> omega
  · rcases h with rfl | h | h
    · exact b1
    · rcases ina x h with rfl | rfl <;> assumption
    · rcases inb x h with rfl | rfl <;> assumption
theorem push_old {h : Array Obj} {o x : Obj} {k : Nat} (e : h[k]? = some x) : (h.push o)[k]? = some x := by
  have := (Array.getElem?_eq_some_iff.1 e).1
  rw [Array.getElem?_push, if_neg (by omega)]; exact e
theorem push_new (h : Array Obj) (o : Obj) : (h.push o)[h.size]? = some o := by simp
theorem push5 (h : Array Obj) (o0 o1 o2 o3 o4 : Obj) : (((((h.push o0).push o1).push o2).push o3).push o4)[h.size]? = some o0 ∧ (((((h.push o0).push o1).push o2).push o3).push o4)[h.size + 1]? = some o1 ∧ (((((h.push o0).push o1).push o2).push o3).push o4)[h.size + 1 + 1]? = some o2 ∧ (((((h.push o0).push o1).push o2).push o3).push o4)[h.size + 1 + 1 + 1]? = some o3 ∧ (((((h.push o0).push o1).push o2).push o3).push o4)[h.size + 1 + 1 + 1 + 1]? = some o4 := by
  have s1 : (h.push o0).size = h.size + 1 := Array.size_push _
  have s2 : ((h.push o0).push o1).size = h.size + 1 + 1 := by rw [Array.size_push, s1]
  have s3 : (((h.push o0).push o1).push o2).size = h.size + 1 + 1 + 1 := by rw [Array.size_push, s2]
  have s4 : ((((h.push o0).push o1).push o2).push o3).size = h.size + 1 + 1 + 1 + 1 := by rw [Array.size_push, s3]
  refine ⟨push_old (push_old (push_old (push_old (push_new _ _)))), ?_, ?_, ?_, ?_⟩
  · rw [← s1]; exact push_old (push_old (push_old (push_new _ _)))
  · rw [← s2]; exact push_old (push_old (push_new _ _))
  · rw [← s3]; exact push_old (push_new _ _)
  · rw [← s4]; exact push_new _ _
theorem info_intF : (Tryz.prog.info? 3).map (fun i => (i.zero, i.size, i.bytes)) = some (some (.int .i64 0), 1, 8) := by kernel_rfl
set_option maxHeartbeats 8000000 in
theorem begun_any (is : List Ins) (pv : Value) (tx : List UInt8) (w : World) (h : PgAt w (fun b => b < w.heap.size) pv is) (hn : is.length ≤ 1000000000000) :
    Calls Tryz.prog 253 #[pv, .string ⟨tx.toArray⟩] w fun e w' => BegE w is pv tx e w' := by
  obtain ⟨i0, hi, hz0, hz1, hz2⟩ := info_parts info_intF
  obtain ⟨a, c, rfl⟩ := h.form
  have HPg := Lib.hid h
  have hmk : ∀ W : World, (Instr.makeSlice 23 (.int .i64 (is.length : Int)) (.int .i64 (is.length : Int))).run Tryz.prog W = .ok (.slice (some ⟨W.heap.size, 0, none⟩) is.length is.length) (W.alloc (.cells (madeCells #[.int .i64 0] is.length) 3)) := fun W => by
    have := run_make (P := Tryz.prog) W 23 3 i0 (.int .i64 0) Tryz.underlying23 hi hz0 .i64 .i64 (is.length : Int) (is.length : Int) (by omega) (Int.le_refl _) (by rw [hz2]; omega) (by omega)
    rw [hz1, Int.toNat_natCast, Nat.mul_one] at this
    exact this
  obtain ⟨cs, hcs⟩ : ∃ cs, cs = madeCells #[Value.int .i64 0] is.length := ⟨_, rfl⟩
  rw [← hcs] at hmk
  have HCs := Lib.hid hcs
  clear h hcs
  go_enter Tryz.func253, Tryz.ntmps253
  go_wp2_with fail
  go_region
  all_goals
    go_wp2_with fail
    go_ret
    first | exact begun_mk HPg.out HCs.out (by (repeat' (with_reducible first | exact Keeps.refl _ _ | assumption | refine Keeps.drawN ?_ _ | refine Keeps.drew ?_ | refine Keeps.setCell ?_ ?_ _ | refine Keeps.alloc ?_ _)) <;> (first | exact Or.inr (Nat.le_refl _) | exact Or.inl rfl | exact Or.inl (Or.inl rfl) | exact Or.inl (Or.inr rfl) | (right; simp; done) | (right; simp; omega))) (w.heap.size + 1 + 1 + 1 + 1) (w.heap.size + 1) (w.heap.size) (w.heap.size + 1 + 1 + 1) (w.heap.size + 1 + 1) (push5 w.heap _ _ _ _ _).2.1 (push5 w.heap _ _ _ _ _).1 (push5 w.heap _ _ _ _ _).2.2.2.1 (push5 w.heap _ _ _ _ _).2.2.1 (push5 w.heap _ _ _ _ _).2.2.2.2 (by omega) (by omega) | exact begun_mk HPg.out HCs.out (by (repeat' (with_reducible first | exact Keeps.refl _ _ | assumption | refine Keeps.drawN ?_ _ | refine Keeps.drew ?_ | refine Keeps.setCell ?_ ?_ _ | refine Keeps.alloc ?_ _)) <;> (first | exact Or.inr (Nat.le_refl _) | exact Or.inl rfl | exact Or.inl (Or.inl rfl) | exact Or.inl (Or.inr rfl) | (right; simp; done) | (right; simp; omega))) (w.heap.size + 1 + 1 + 1 + 1) (w.heap.size + 1 + 1) (w.heap.size) (w.heap.size + 1 + 1 + 1) (w.heap.size + 1) (push5 w.heap _ _ _ _ _).2.2.1 (push5 w.heap _ _ _ _ _).1 (push5 w.heap _ _ _ _ _).2.2.2.1 (push5 w.heap _ _ _ _ _).2.1 (push5 w.heap _ _ _ _ _).2.2.2.2 (by omega) (by omega) | exact begun_mk HPg.out HCs.out (by (repeat' (with_reducible first | exact Keeps.refl _ _ | assumption | refine Keeps.drawN ?_ _ | refine Keeps.drew ?_ | refine Keeps.setCell ?_ ?_ _ | refine Keeps.alloc ?_ _)) <;> (first | exact Or.inr (Nat.le_refl _) | exact Or.inl rfl | exact Or.inl (Or.inl rfl) | exact Or.inl (Or.inr rfl) | (right; simp; done) | (right; simp; omega))) (w.heap.size + 1 + 1 + 1 + 1) (w.heap.size + 1 + 1) (w.heap.size + 1) (w.heap.size + 1 + 1 + 1) (w.heap.size) (push5 w.heap _ _ _ _ _).2.2.1 (push5 w.heap _ _ _ _ _).2.1 (push5 w.heap _ _ _ _ _).2.2.2.1 (push5 w.heap _ _ _ _ _).1 (push5 w.heap _ _ _ _ _).2.2.2.2 (by omega) (by omega) | exact begun_mk HPg.out HCs.out (by (repeat' (with_reducible first | exact Keeps.refl _ _ | assumption | refine Keeps.drawN ?_ _ | refine Keeps.drew ?_ | refine Keeps.setCell ?_ ?_ _ | refine Keeps.alloc ?_ _)) <;> (first | exact Or.inr (Nat.le_refl _) | exact Or.inl rfl | exact Or.inl (Or.inl rfl) | exact Or.inl (Or.inr rfl) | (right; simp; done) | (right; simp; omega))) (w.heap.size + 1 + 1 + 1 + 1) (w.heap.size + 1 + 1 + 1) (w.heap.size) (w.heap.size + 1 + 1) (w.heap.size + 1) (push5 w.heap _ _ _ _ _).2.2.2.1 (push5 w.heap _ _ _ _ _).1 (push5 w.heap _ _ _ _ _).2.2.1 (push5 w.heap _ _ _ _ _).2.1 (push5 w.heap _ _ _ _ _).2.2.2.2 (by omega) (by omega) | exact begun_mk HPg.out HCs.out (by (repeat' (with_reducible first | exact Keeps.refl _ _ | assumption | refine Keeps.drawN ?_ _ | refine Keeps.drew ?_ | refine Keeps.setCell ?_ ?_ _ | refine Keeps.alloc ?_ _)) <;> (first | exact Or.inr (Nat.le_refl _) | exact Or.inl rfl | exact Or.inl (Or.inl rfl) | exact Or.inl (Or.inr rfl) | (right; simp; done) | (right; simp; omega))) (w.heap.size + 1 + 1 + 1 + 1) (w.heap.size + 1 + 1 + 1) (w.heap.size + 1) (w.heap.size + 1 + 1) (w.heap.size) (push5 w.heap _ _ _ _ _).2.2.2.1 (push5 w.heap _ _ _ _ _).2.1 (push5 w.heap _ _ _ _ _).2.2.1 (push5 w.heap _ _ _ _ _).1 (push5 w.heap _ _ _ _ _).2.2.2.2 (by omega) (by omega) | exact begun_mk HPg.out HCs.out (by (repeat' (with_reducible first | exact Keeps.refl _ _ | assumption | refine Keeps.drawN ?_ _ | refine Keeps.drew ?_ | refine Keeps.setCell ?_ ?_ _ | refine Keeps.alloc ?_ _)) <;> (first | exact Or.inr (Nat.le_refl _) | exact Or.inl rfl | exact Or.inl (Or.inl rfl) | exact Or.inl (Or.inr rfl) | (right; simp; done) | (right; simp; omega))) (w.heap.size + 1 + 1 + 1 + 1) (w.heap.size + 1 + 1 + 1) (w.heap.size + 1 + 1) (w.heap.size + 1) (w.heap.size) (push5 w.heap _ _ _ _ _).2.2.2.1 (push5 w.heap _ _ _ _ _).2.2.1 (push5 w.heap _ _ _ _ _).2.1 (push5 w.heap _ _ _ _ _).1 (push5 w.heap _ _ _ _ _).2.2.2.2 (by omega) (by omega)
end Go.Proofs.YtgobcnheemocnaaGreatDoor
end
section
namespace Go.Proofs.YtgobcnheemocnaaGreatDoor
open Go.RowKit
set_option linter.unusedVariables false
set_option linter.unusedSimpArgs false
set_option maxRecDepth 100000

/-- All matches, one behind the other. -/
inductive AllR (is : List Ins) (tx : List UInt8) : Nat → List Nat → Int → List (Int × Int) → Prop
  | nil (last : Int) : AllR is tx 0 [] last []
  | stop {m : Nat} {l : List Nat} {last : Int} (hl : l ≠ []) (h : FirstR is tx m l (0, 0, false)) : AllR is tx m l last []
  | far {m m' p e : Nat} {l : List Nat} {last : Int} {r : List (Int × Int)} (hl : l ≠ []) (h : FirstR is tx m l ((p : Int), (e : Int), true)) (hpe : p < e) (hlt : (l.dropWhile (fun q => decide (q < e))).length < l.length) (hr : AllR is tx m' (l.dropWhile (fun q => decide (q < e))) e r) : AllR is tx (m + m') l last (((p : Int), (e : Int)) :: r)
  | same {m m' p x : Nat} {l q : List Nat} {last : Int} {r : List (Int × Int)} (hl : l ≠ []) (h : FirstR is tx m l ((p : Int), (p : Int), true)) (hd : l.dropWhile (fun q => decide (q < p)) = x :: q) (he : last = p) (hr : AllR is tx m' q last r) : AllR is tx (m + m') l last r
  | void {m m' p x : Nat} {l q : List Nat} {last : Int} {r : List (Int × Int)} (hl : l ≠ []) (h : FirstR is tx m l ((p : Int), (p : Int), true)) (hd : l.dropWhile (fun q => decide (q < p)) = x :: q) (he : last ≠ p) (hr : AllR is tx m' q p r) : AllR is tx (m + m') l last (((p : Int), (p : Int)) :: r)
/-- What comes behind a hit. -/
def NextR (is : List Ins) (tx : List UInt8) (m' p e : Nat) (l : List Nat) (last : Int) (r : List (Int × Int)) : Prop :=
  (p < e ∧ ∃ r', r = ((p : Int), (e : Int)) :: r' ∧ (l.dropWhile (fun q => decide (q < e))).length < l.length ∧ AllR is tx m' (l.dropWhile (fun q => decide (q < e))) e r') ∨
  (p = e ∧ ∃ x q, l.dropWhile (fun q => decide (q < e)) = x :: q ∧ ((last = e ∧ AllR is tx m' q last r) ∨ (last ≠ e ∧ ∃ r', r = ((e : Int), (e : Int)) :: r' ∧ AllR is tx m' q e r')))
theorem AllR.open {is : List Ins} {tx : List UInt8} {m : Nat} {l : List Nat} {last : Int} {r : List (Int × Int)} (h : AllR is tx m l last r) (hl : l ≠ []) :
    ∃ (m1 : Nat) (fin : Int × Int × Bool), FirstR is tx m1 l fin ∧ m1 ≤ m ∧ ((fin = (0, 0, false) ∧ r = []) ∨ ∃ (p e m' : Nat), fin = ((p : Int), (e : Int), true) ∧ m = m1 + m' ∧ NextR is tx m' p e l last r) := by
  cases h with
  | nil => exact absurd rfl hl
  | stop _ h => exact ⟨_, _, h, Nat.le_refl _, Or.inl ⟨rfl, rfl⟩⟩
  | far _ h hpe hlt hr => exact ⟨_, _, h, by omega, Or.inr ⟨_, _, _, rfl, rfl, Or.inl ⟨hpe, _, rfl, hlt, hr⟩⟩⟩
  | same _ h hd he hr => exact ⟨_, _, h, by omega, Or.inr ⟨_, _, _, rfl, rfl, Or.inr ⟨rfl, _, _, hd, Or.inl ⟨he, hr⟩⟩⟩⟩
  | void _ h hd he hr => exact ⟨_, _, h, by omega, Or.inr ⟨_, _, _, rfl, rfl, Or.inr ⟨rfl, _, _, hd, Or.inr ⟨he, _, rfl, hr⟩⟩⟩⟩
def AlR (B c M X OB : Nat) (F : Nat → Prop) (pv : Value) (tx : List UInt8) (is : List Ins) (all : List (Int × Int)) (w0 : World) (ov lv plv : Value) (wr : World) : Prop :=
  ∃ (l : List Nat) (acc rest : List (Int × Int)) (last : Int) (m n : Nat) (a b : TS), lv = .int .i64 last ∧ NS X wr plv l ∧ l.length ≤ 100000 ∧ all = acc ++ rest ∧ AllR is tx m l last rest ∧ Crew B wr c pv tx is a b ∧ a.now ≤ n ∧ b.now ≤ n ∧ n + m ≤ M ∧
    wr.ownsRow OB 118 2 ov acc.length (cellsOf 2 encR acc) ∧ (∀ g, ov.ownBlock = some g → ¬ inC c a b g) ∧ Foot w0 F wr a b
theorem info_hit : (Tryz.prog.info? 118).map (fun i => (i.zero, i.size, i.bytes)) = some (some (.agg #[.int .i64 0, .int .i64 0]), 2, 16) := by kernel_rfl
theorem Foot.inX {w0 w : World} {F : Nat → Prop} {c X : Nat} {a b : TS} (h : Foot w0 F w a b) (hF : F c) (hX : X < w0.heap.size) (hFX : ¬ F X) : ¬ inC c a b X := by
  rintro (rfl | e | e)
  · exact hFX hF
  · exact hFX (h.ina X hX e)
  · exact hFX (h.inb X hX e)
theorem hit_new (w : World) (p e : Int) : Keeps (fun _ => False) w (w.alloc (.cells #[.int .i64 p, .int .i64 e] 118)) ∧ (w.alloc (.cells #[.int .i64 p, .int .i64 e] 118)).cell? ⟨w.heap.size, 0, none⟩ = some (.int .i64 p) ∧ (w.alloc (.cells #[.int .i64 p, .int .i64 e] 118)).cell? ⟨w.heap.size, 1, none⟩ = some (.int .i64 e) :=
  ⟨(Keeps.refl _ _).alloc _, by simp [go_sem], by simp [go_sem]⟩
theorem al_push {B c g k cap n : Nat} {w0 w5 w9 : World} {F : Nat → Prop} {pv ov : Value} {tx : List UInt8} {is : List Ins} {a b : TS} {e : TypeId} {xs : List Value} {o : Obj} (hC : Crew B w5 c pv tx is a b) (hF : Foot w0 F w5 a b) (hO : w5.ownsRow w0.heap.size e 2 ov n xs) (hOC : ∀ g, ov.ownBlock = some g → ¬ inC c a b g) (hB : B ≤ w0.heap.size)
    (hg : (w5.alloc o).grownBy w9 ov.ownBlock) (hat : ov.ownBlock = some g ∨ g = w5.heap.size + 1) : Crew B w9 c pv tx is a b ∧ Foot w0 F w9 a b ∧ (∀ g', (Value.slice (some ⟨g, 0, none⟩) k cap).ownBlock = some g' → ¬ inC c a b g') ∧ (∀ (X : Nat) (v : Value) (l : List Nat), NS X w5 v l → X < w0.heap.size → NS X w9 v l) ∧ (∀ (h o : Nat) (u : Value), w5.cell? ⟨h, o, none⟩ = some u → ov.ownBlock ≠ some h → w9.cell? ⟨h, o, none⟩ = some u) := by
  have ka : Keeps (fun _ => False) w5 (w5.alloc o) := (Keeps.refl _ _).alloc _
  have kg : Keeps (fun b => ov.ownBlock = some b) (w5.alloc o) w9 := (Keeps.refl _ _).grown hg (fun b hb => Or.inl hb)
  have hOb : ∀ b, ov.ownBlock = some b → w0.heap.size ≤ b ∧ b < w5.heap.size := fun b hb => ⟨ownBlock_base hO b hb, own_lt hO b hb⟩
  have hsa : (w5.alloc o).heap.size = w5.heap.size + 1 := by simp
  have hCa := hC.keeps ka (fun _ => id)
  refine ⟨hCa.keepsS kg (fun h => hOC _ h (Or.inl rfl)) (fun x hx h => hOC _ h (Or.inr (Or.inl hx))) (fun x hx h => hOC _ h (Or.inr (Or.inr hx))) (fun x hx h => by have := (hOb x h).1; omega),
    ⟨(hF.keeps ka).keep.trans2 kg (fun x hx h => by have := (hOb x h).1; omega), hF.ina, hF.inb⟩, fun g' hg' hi => ?_, fun X v l hN hX => (hN.keeps ka id).keeps kg (fun h => by have := (hOb X h).1; omega), fun h o u hc hn => kg.cell (ka.cell hc id) hn⟩
  obtain rfl : g = g' := by simpa [Value.ownBlock] using hg'
  rcases hat with h | h
  · exact hOC _ h hi
  · have h8 := hC.inlt hi
    omega
theorem hits_snoc (acc : List (Int × Int)) (p e : Int) : cellsOf 2 encR (acc ++ [(p, e)]) = cellsOf 2 encR acc ++ [.int .i64 p, .int .i64 e] := by rw [cellsOf_append]; rfl
set_option maxHeartbeats 8000000 in
theorem mall_any (is : List Ins) (pv : Value) (tx : List UInt8) (M : Nat) (all : List (Int × Int)) (w : World) (hpg : PgAt w (fun b => b < w.heap.size) pv is) (hok : ∀ (k : Nat) (i : Ins), is[k]? = some i → okI is.length i) (h0 : 0 < is.length) (his : is.length ≤ 4000) (htx : tx.length ≤ 4000)
    (hr : AllR is tx M (places tx) (-1) all) (hM : M ≤ 900000000000) (hal : all.length ≤ 100000) (hpl : (places tx).length ≤ 100000) :
    Calls Tryz.prog 248 #[pv, .string ⟨tx.toArray⟩] w fun e w' => ∃ v, e = .returned v ∧ w'.ownsRow w.heap.size 118 2 v all.length (cellsOf 2 encR all) ∧ Keeps (fun _ => False) w w' := by
  obtain ⟨i0, hi, hz0, hz1, hz2⟩ := info_parts info_hit
  obtain ⟨pa, pc, rfl⟩ := hpg.form
  have HPg := Lib.hid hpg
  have HRi := Lib.hid (pright_any is _ _ w hpg hok h0 his)
  have HR := Lib.hid hr
  clear hpg hr hok
  go_enter Tryz.func248, Tryz.ntmps248
  go_wp2_with fail
  refine HRi.out.mono ?_
  rintro e w1 ⟨rfl, k1⟩
  have HPg1 := Lib.hid (HPg.out.keepsTo (Q := fun b => b < w1.heap.size) k1 (fun _ _ => id) (fun b hb => by have := k1.size; omega))
  have K1 := Lib.hid k1
  clear k1
  go_wp2_with fail
  refine (begun_any is _ tx w1 HPg1.out (by omega)).mono ?_
  rintro e w2 ⟨c, a0, b0, rfl, hC, ha0, hb0, hin, k2⟩
  have HC := Lib.hid hC
  have K2 := Lib.hid (K1.out.trans k2)
  have hin2 := Lib.hid (fun x hx => hC.inlt (x := x) hx)
  have HIN := Lib.hid hin
  have hs12 := K1.out.size
  have hs12b := k2.size
  clear hC k2 hin
  go_wp2_with fail
  refine (places_any tx w2 (by omega)).mono ?_
  rintro e w3 ⟨plv, rfl, hown, k3⟩
  obtain ⟨X, hNS, hX⟩ := NS.ofOwn hown
  obtain ⟨hX1, hX2⟩ := hX (by unfold places; simp)
  obtain ⟨F, hF⟩ : ∃ F, F = inC c a0 b0 := ⟨_, rfl⟩
  have FF : Hid (Foot w3 F w3 a0 b0) := Lib.hid (by rw [hF]; exact Foot.start w3 c a0 b0)
  have hFc : F c := by rw [hF]; exact Or.inl rfl
  have hFX : ¬ F X := by rw [hF]; intro h; have := hin2.out X h; omega
  have hFw : Hid (∀ x, F x → w.heap.size ≤ x) := Lib.hid (fun x hx => by rw [hF] at hx; have := HIN.out x hx; omega)
  have HC3 := Lib.hid (HC.out.keeps k3 (fun _ => id))
  have K3 := Lib.hid (K2.out.trans k3)
  have HN := Lib.hid hNS
  have hws : w.heap.size ≤ w3.heap.size := K3.out.size
  have hs23 := k3.size
  obtain ⟨_, _, rfl, _, _⟩ := hNS
  clear hF hown k3 HC hin2 HIN hX HPg HPg1 HRi
  go_wp2_with fail
  go_loopw [6, 7, 8] (fun ov lv pv' wr => AlR w1.heap.size c 900000000000 X w3.heap.size F (.slice pa is.length pc) tx is all w3 ov lv pv' wr) (fun _ _ pv' _ => restLen pv')
  case atStart => exact ⟨places tx, [], all, -1, M, 0, a0, b0, rfl, HN.out, hpl, rfl, HR.out, HC3.out, by omega, by omega, by omega, ⟨rfl, Or.inl ⟨rfl, rfl⟩⟩, fun g hg => by simp [Value.ownBlock] at hg, FF.out⟩
  case round =>
    obtain ⟨l, acc, rest, last, m, n, a, b, rfl, hN, hll, rfl, hA, hC, hna, hnb, hnm, hO, hOC, hFt⟩ := hrel
    have HN1 := Lib.hid hN
    have HA := Lib.hid hA
    have HC := Lib.hid hC
    have HO := Lib.hid hO
    have HOC := Lib.hid hOC
    have HFt := Lib.hid hFt
    have hwr := HFt.out.keep.size
    obtain ⟨av, cap, rfl, _, _⟩ := hN
    obtain ⟨oa, oc, rfl⟩ := ownsRow_slice hO
    clear hA hC hO hOC hFt HR HN HC3
    by_cases hl : l = []
    · subst hl
      obtain rfl : rest = [] := by
        have h := HA.out
        cases h with
        | nil => rfl
        | stop h => exact absurd rfl h
        | far h => exact absurd rfl h
        | same h => exact absurd rfl h
        | void h => exact absurd rfl h
      have KE : Hid (Keeps (fun _ => False) w wr) := Lib.hid (K3.out.trans2 HFt.out.keep (fun x hx h => by have := hFw.out x h; omega))
      have OE : Hid (wr.ownsRow w.heap.size 118 2 (.slice oa acc.length oc) (acc ++ []).length (cellsOf 2 encR (acc ++ []))) := Lib.hid (by simpa using ownsRow_base HO.out hws)
      go_wp2_with fail
      go_ret
      exact ⟨_, rfl, OE.out, KE.out⟩
    · obtain ⟨m1, fin, hf, hm1, hcase⟩ := HA.out.open hl
      have hl0 := List.length_pos_iff.2 hl
      have g0 : decide ((0 : Int) < (l.length : Int)) = true := by simp; omega
      have hFi := first_any w1.heap.size c n m1 X (.slice pa is.length pc) _ tx is a b l fin wr HC.out hna hnb hf htx his (by omega) HN1.out (by omega) (HFt.out.inX hFc hX2 hFX) hll
      have HFi := Lib.hid hFi
      have HCase := Lib.hid hcase
      clear hcase hFi hf
      go_wp2_with fail
      refine HFi.out.mono ?_
      rintro e9 w4 ⟨rfl, a', b', hC4, hna4, hnb4, hFt4⟩
      have hF4 := HFt.out.trans hFc hFt4
      have HO4 := Lib.hid (ownsRow_keeps HO.out hFt4.keep HOC.out)
      have HN4 := Lib.hid (HN1.out.keeps hFt4.keep (HFt.out.inX hFc hX2 hFX))
      have HOC4 : Hid (∀ g, (Value.slice oa acc.length oc).ownBlock = some g → ¬ inC c a' b' g) := Lib.hid (fun g hg hi => by
        have hlt := own_lt HO.out g hg
        have h1 := HOC.out g hg
        rcases hi with rfl | hi | hi
        · exact h1 (Or.inl rfl)
        · exact h1 (hFt4.ina g hlt hi)
        · exact h1 (hFt4.inb g hlt hi))
      have HC4 := Lib.hid hC4
      have HF4 := Lib.hid hF4
      have hs4 := hFt4.keep.size
      clear hC4 hFt4 hF4 HFi
      obtain ⟨f1, f2, ok⟩ := fin
      simp only at HCase ⊢
      obtain ⟨kn, n0, n1⟩ := hit_new w4 f1 f2
      rcases HCase.out with ⟨h1, rfl⟩ | ⟨p, e, m', h1, rfl, hnx⟩
      · obtain ⟨rfl, rfl, rfl⟩ : f1 = 0 ∧ f2 = 0 ∧ ok = false := by simpa using h1
        clear h1 HCase
        go_wp2_with fail
        go_ret
        obtain ⟨w5, hw5⟩ : ∃ W, w4.alloc (.cells #[.int .i64 0, .int .i64 0] 118) = W := ⟨_, rfl⟩
        rw [hw5] at kn ⊢
        refine ⟨_, rfl, ?_, (K3.out.trans2 HF4.out.keep (fun x hx h => by have := hFw.out x h; omega)).trans kn⟩
        have := ownsRow_base (ownsRow_keeps HO4.out kn (fun _ _ => id)) hws
        simpa using this
      · obtain ⟨rfl, rfl, rfl⟩ : f1 = (p : Int) ∧ f2 = (e : Int) ∧ ok = true := by simpa using h1
        have HNx := Lib.hid hnx
        clear h1 HCase hnx
        go_wp2_with fail
        obtain ⟨w5, hw5⟩ : ∃ W, w4.alloc (.cells #[.int .i64 (p : Int), .int .i64 (e : Int)] 118) = W := ⟨_, rfl⟩
        rw [hw5] at kn n0 n1 ⊢
        have HC5 := Lib.hid (HC4.out.keeps kn (fun _ => id))
        have HF5 := Lib.hid (HF4.out.keeps kn)
        have HO5 := Lib.hid (ownsRow_keeps HO4.out kn (fun _ _ => id))
        have hs5 := kn.size
        have HBe := Lib.hid (behind_any X l e _ w5 (HN4.out.keeps kn id) hll)
        clear hw5 kn
        refine HBe.out.mono ?_
        rintro e9 w6 ⟨⟨v', rfl, hN6⟩, rfl⟩
        have HN6 := Lib.hid hN6
        clear HBe hN6
        rcases HNx.out with ⟨hpe, r', rfl, hlt, hA'⟩ | ⟨rfl, x, q, hd, hcs⟩
        · obtain ⟨va, vcap, rfl, _, _⟩ := HN6.out
          have HA' := Lib.hid hA'
          have ge1 : ((p : Int) == (e : Int)) = false := beq_eq_false_iff_ne.2 (by omega)
          have ge2 : decide ((p : Int) < (e : Int)) = true := by simp; omega
          clear hA' HNx
          go_wp2_with (at_builtin; refine wpList_append_lies _ rfl (.tmp 52) (.tmp 54) 53 rfl w3.heap.size 118 i0 _ 2 16 Tryz.underlying53 hi hz0 hz1 hz2 rfl (by decide) _ acc.length (cellsOf 2 encR acc) rfl (ownsRow_alloc HO5.out _) ⟨w5.heap.size, 0, none⟩ 1 1 [.int .i64 (p : Int), .int .i64 (e : Int)] rfl rfl (by exact cells_new _ [_, _] _) (by simp [Value.oneCell']) (by decide) (by have := hal; simp at this; unfold maxLen; omega) (by have := hal; simp at this; omega) (by simp; omega) _ rfl ?_)
          intro g cap9 w9 hown9 hgrow9 hat9 hlt9
          obtain ⟨hC9, hF9, hOC9, hN9, hc9⟩ := al_push (k := acc.length + 1) (cap := cap9) HC5.out HF5.out HO5.out HOC4.out (by omega) hgrow9 hat9
          have HC9 := Lib.hid hC9
          have HF9 := Lib.hid hF9
          have HOC9 := Lib.hid hOC9
          have HN9 := Lib.hid (hN9 X _ _ HN6.out hX2)
          have n1' := hc9 w4.heap.size 1 _ n1 (by intro h; have h8 : w4.heap.size < w4.heap.size := own_lt HO4.out _ h; omega)
          have HO9 : Hid (w9.ownsRow w3.heap.size 118 2 (.slice (some ⟨g, 0, none⟩) (acc.length + 1) cap9) (acc ++ [((p : Int), (e : Int))]).length (cellsOf 2 encR (acc ++ [((p : Int), (e : Int))]))) := Lib.hid (by rw [hits_snoc]; simpa using hown9)
          clear hown9 hgrow9 hat9 n0 n1 hC9 hF9 hOC9 hN9 hc9
          go_wp2_with fail
          go_roundw
          case rel => exact ⟨_, acc ++ [((p : Int), (e : Int))], r', e, m', n + m1, a', b', rfl, HN9.out, by omega, by simp, HA'.out, HC9.out, hna4, hnb4, by omega, HO9.out, HOC9.out, HF9.out⟩
          case measure => simp only [restLen]; omega
        · rw [hd] at HN6
          have hql : q.length < l.length := by
            have h8 := (List.dropWhile_suffix (l := l) (fun q => decide (q < p))).length_le
            rw [hd] at h8
            exact h8
          obtain ⟨va, vcap, rfl, hcap, hcell⟩ := HN6.out
          obtain ⟨off, rfl, hcc⟩ := hcell (by simp)
          simp only [List.length_cons] at hcap
          have HCC := Lib.hid hcc
          have ge1 : ((p : Int) == (p : Int)) = true := by simp
          have ge2 : decide ((p : Int) < (p : Int)) = false := by simp
          have HCs := Lib.hid hcs
          clear hcs HNx hcc hcell hd HN6
          by_cases hc1 : vcap = 1
          · subst hc1
            obtain rfl : q = [] := List.length_eq_zero_iff.1 (by omega)
            rcases HCs.out with ⟨rfl, hA'⟩ | ⟨hla, r', rfl, hA'⟩
            · have HA' := Lib.hid hA'
              have ge3 : ((p : Int) != (p : Int)) = false := by simp
              clear hA' HCs
              go_wp2_with fail
              go_roundw
              case rel => exact ⟨[], acc, rest, p, m', n + m1, a', b', rfl, ⟨_, _, rfl, Nat.le_refl _, fun h => absurd rfl h⟩, by simp, rfl, HA'.out, HC5.out, hna4, hnb4, by omega, HO5.out, HOC4.out, HF5.out⟩
              case measure => simp only [restLen]; omega
            · have HA' := Lib.hid hA'
              have ge3 : ((p : Int) != last) = true := by simp only [bne_iff_ne, ne_eq]; omega
              clear hA' HCs
              go_wp2_with (at_builtin; refine wpList_append_lies _ rfl (.tmp 52) (.tmp 54) 53 rfl w3.heap.size 118 i0 _ 2 16 Tryz.underlying53 hi hz0 hz1 hz2 rfl (by decide) _ acc.length (cellsOf 2 encR acc) rfl (ownsRow_alloc HO5.out _) ⟨w5.heap.size, 0, none⟩ 1 1 [.int .i64 (p : Int), .int .i64 (p : Int)] rfl rfl (by exact cells_new _ [_, _] _) (by simp [Value.oneCell']) (by decide) (by have := hal; simp at this; unfold maxLen; omega) (by have := hal; simp at this; omega) (by simp; omega) _ rfl ?_)
              intro g cap9 w9 hown9 hgrow9 hat9 hlt9
              obtain ⟨hC9, hF9, hOC9, hN9, hc9⟩ := al_push (k := acc.length + 1) (cap := cap9) HC5.out HF5.out HO5.out HOC4.out (by omega) hgrow9 hat9
              have HC9 := Lib.hid hC9
              have HF9 := Lib.hid hF9
              have HOC9 := Lib.hid hOC9
              have HN9 := Lib.hid (hN9 X (.slice (some ⟨X, off, none⟩) 0 0) [] ⟨_, _, rfl, Nat.le_refl _, fun h => absurd rfl h⟩ hX2)
              have n1' := hc9 w4.heap.size 1 _ n1 (by intro h; have h8 : w4.heap.size < w4.heap.size := own_lt HO4.out _ h; omega)
              have HO9 : Hid (w9.ownsRow w3.heap.size 118 2 (.slice (some ⟨g, 0, none⟩) (acc.length + 1) cap9) (acc ++ [((p : Int), (p : Int))]).length (cellsOf 2 encR (acc ++ [((p : Int), (p : Int))]))) := Lib.hid (by rw [hits_snoc]; simpa using hown9)
              clear hown9 hgrow9 hat9 n0 n1 hC9 hF9 hOC9 hN9 hc9
              go_wp2_with fail
              go_roundw
              case rel => exact ⟨[], acc ++ [((p : Int), (p : Int))], r', p, m', n + m1, a', b', rfl, HN9.out, by omega, by simp, HA'.out, HC9.out, hna4, hnb4, by omega, HO9.out, HOC9.out, HF9.out⟩
              case measure => simp only [restLen]; omega
          · have hc2 : 1 < vcap := by omega
            have HNt : Hid (NS X w5 (.slice (some ⟨X, off + 1, none⟩) (q.length + 1 - 1) (vcap - 1)) q) := Lib.hid (NS.tail (x := x) (n := q.length + 1) rfl hcap HCC.out (fun h => rfl))
            rcases HCs.out with ⟨rfl, hA'⟩ | ⟨hla, r', rfl, hA'⟩
            · have HA' := Lib.hid hA'
              have ge3 : ((p : Int) != (p : Int)) = false := by simp
              clear hA' HCs
              go_wp2_with fail
              go_roundw
              case rel => exact ⟨q, acc, rest, p, m', n + m1, a', b', rfl, by simpa using HNt.out, by omega, rfl, HA'.out, HC5.out, hna4, hnb4, by omega, HO5.out, HOC4.out, HF5.out⟩
              case measure => simp only [restLen]; omega
            · have HA' := Lib.hid hA'
              have ge3 : ((p : Int) != last) = true := by simp only [bne_iff_ne, ne_eq]; omega
              clear hA' HCs
              go_wp2_with (at_builtin; refine wpList_append_lies _ rfl (.tmp 52) (.tmp 54) 53 rfl w3.heap.size 118 i0 _ 2 16 Tryz.underlying53 hi hz0 hz1 hz2 rfl (by decide) _ acc.length (cellsOf 2 encR acc) rfl (ownsRow_alloc HO5.out _) ⟨w5.heap.size, 0, none⟩ 1 1 [.int .i64 (p : Int), .int .i64 (p : Int)] rfl rfl (by exact cells_new _ [_, _] _) (by simp [Value.oneCell']) (by decide) (by have := hal; simp at this; unfold maxLen; omega) (by have := hal; simp at this; omega) (by simp; omega) _ rfl ?_)
              intro g cap9 w9 hown9 hgrow9 hat9 hlt9
              obtain ⟨hC9, hF9, hOC9, hN9, hc9⟩ := al_push (k := acc.length + 1) (cap := cap9) HC5.out HF5.out HO5.out HOC4.out (by omega) hgrow9 hat9
              have HC9 := Lib.hid hC9
              have HF9 := Lib.hid hF9
              have HOC9 := Lib.hid hOC9
              have HN9 := Lib.hid (hN9 X _ _ HNt.out hX2)
              have n1' := hc9 w4.heap.size 1 _ n1 (by intro h; have h8 : w4.heap.size < w4.heap.size := own_lt HO4.out _ h; omega)
              have HO9 : Hid (w9.ownsRow w3.heap.size 118 2 (.slice (some ⟨g, 0, none⟩) (acc.length + 1) cap9) (acc ++ [((p : Int), (p : Int))]).length (cellsOf 2 encR (acc ++ [((p : Int), (p : Int))]))) := Lib.hid (by rw [hits_snoc]; simpa using hown9)
              clear hown9 hgrow9 hat9 n0 n1 hC9 hF9 hOC9 hN9 hc9
              go_wp2_with fail
              go_roundw
              case rel => exact ⟨q, acc ++ [((p : Int), (p : Int))], r', p, m', n + m1, a', b', rfl, by simpa using HN9.out, by omega, by simp, HA'.out, HC9.out, hna4, hnb4, by omega, HO9.out, HOC9.out, HF9.out⟩
              case measure => simp only [restLen]; omega
end Go.Proofs.YtgobcnheemocnaaGreatDoor
end
section
namespace Go.Proofs.YtgobcnheemocnaaGreatDoor
open Go.RowKit
set_option linter.unusedVariables false
set_option linter.unusedSimpArgs false
set_option maxRecDepth 100000

/-- An engine at eb. -/
structure EngAt (w : World) (P : Nat → Prop) (eb : Nat) (pv : Value) (is : List Ins) (r : List UInt8 × Bool) : Prop where
  c0 : w.cell? ⟨eb, 0, none⟩ = some pv
  c1 : w.cell? ⟨eb, 1, none⟩ = some (.string ⟨r.1.toArray⟩)
  c2 : w.cell? ⟨eb, 2, none⟩ = some (.bool r.2)
  pg : PgAt w P pv is
theorem EngAt.cells {w : World} {P : Nat → Prop} {eb : Nat} {pv : Value} {is : List Ins} {r : List UInt8 × Bool} (h : EngAt w P eb pv is r) : w.cell? ⟨eb, 0, none⟩ = some pv ∧ w.cell? ⟨eb, 1, none⟩ = some (.string ⟨r.1.toArray⟩) ∧ w.cell? ⟨eb, 2, none⟩ = some (.bool r.2) :=
  ⟨h.c0, h.c1, h.c2⟩
end Go.Proofs.YtgobcnheemocnaaGreatDoor
end
section
namespace Go.Proofs.YtgobcnheemocnaaGreatDoor
open Go.RowKit
set_option linter.unusedVariables false
set_option linter.unusedSimpArgs false

/-- The first k of p are what t has ahead of i, from f on. -/
def SufM (p t : Nat → UInt8) (f i k : Nat) : Prop := f + k ≤ i ∧ ∀ x, x < k → p x = t (i - k + x)
/-- The longest. -/
structure Lgst (m : Nat) (p t : Nat → UInt8) (f i k : Nat) : Prop where
  suf : SufM p t f i k
  le : k ≤ m
  max : ∀ k', SufM p t f i k' → k' ≤ m → k' ≤ k
/-- Within the search for it. -/
structure Inn (m : Nat) (p t : Nat → UInt8) (f i k : Nat) : Prop where
  suf : SufM p t f i k
  le : k ≤ m
  max : ∀ k', SufM p t f i k' → k' < m → p k' = t i → k' ≤ k
theorem Lgst.inn {m : Nat} {p t : Nat → UInt8} {f i k : Nat} (h : Lgst m p t f i k) : Inn m p t f i k := ⟨h.suf, h.le, fun k' a b _ => h.max k' a (by omega)⟩
theorem Lgst.start (m : Nat) (p t : Nat → UInt8) (f : Nat) : Lgst m p t f f 0 := ⟨⟨by omega, fun x hx => by omega⟩, by omega, fun k' h _ => by have := h.1; omega⟩
theorem Inn.step {m : Nat} {p t : Nat → UInt8} {f i k b : Nat} (h : Inn m p t f i k) (h0 : 0 < k) (hk : k = m ∨ p k ≠ t i) (hb : Lgst m p p 1 k b) : Inn m p t f i b := by
  have s1 := h.suf.1
  have b1 := hb.suf.1
  refine ⟨⟨by omega, fun x hx => ?_⟩, hb.le, fun k' hs hm he => ?_⟩
  · rw [hb.suf.2 x hx, h.suf.2 (k - b + x) (by omega)]; congr 1; omega
  · have h1 := h.max k' hs hm he
    have h2 : k' ≠ k := by
      rintro rfl
      rcases hk with rfl | hk
      · omega
      · exact hk he
    refine hb.max k' ⟨by omega, fun x hx => ?_⟩ (by omega)
    rw [hs.2 x hx, h.suf.2 (k - k' + x) (by omega)]; congr 1; omega
theorem Inn.hit {m : Nat} {p t : Nat → UInt8} {f i k : Nat} (h : Inn m p t f i k) (hm : k < m) (he : p k = t i) : Lgst m p t f (i + 1) (k + 1) := by
  have s1 := h.suf.1
  refine ⟨⟨by omega, fun x hx => ?_⟩, by omega, fun k' hs hk => ?_⟩
  · by_cases hx2 : x < k
    · rw [h.suf.2 x hx2]; congr 1; omega
    · obtain rfl : x = k := by omega
      rw [he]; congr 1; omega
  · rcases k' with _ | j
    · omega
    · have h1 := hs.1
      have := h.max j ⟨by omega, fun x hx => by rw [hs.2 x (by omega)]; congr 1; omega⟩ (by omega) (by rw [hs.2 j (by omega)]; congr 1; omega)
      omega
theorem Inn.miss {m : Nat} {p t : Nat → UInt8} {f i : Nat} (h : Inn m p t f i 0) (he : p 0 ≠ t i) : Lgst m p t f (i + 1) 0 := by
  have s1 := h.suf.1
  refine ⟨⟨by omega, fun x hx => by omega⟩, by omega, fun k' hs hk => ?_⟩
  rcases k' with _ | j
  · omega
  · have h1 := hs.1
    have h2 := h.max j ⟨by omega, fun x hx => by rw [hs.2 x (by omega)]; congr 1; omega⟩ (by omega) (by rw [hs.2 j (by omega)]; congr 1; omega)
    obtain rfl : j = 0 := by omega
    exact absurd (by rw [hs.2 0 (by omega)]; congr 1) he
/-- It stands at a. -/
def mtB (m n : Nat) (p t : Nat → UInt8) (a : Nat) : Bool := decide (a + m ≤ n) && (List.range m).all fun x => decide (p x = t (a + x))
theorem mtB_iff {m n : Nat} {p t : Nat → UInt8} {a : Nat} : mtB m n p t a = true ↔ a + m ≤ n ∧ ∀ x, x < m → p x = t (a + x) := by
  unfold mtB; simp [List.all_eq_true]
theorem Lgst.full {m n : Nat} {p t : Nat → UInt8} {f i k : Nat} (h : Lgst m p t f i k) (hi : i ≤ n) : k = m ↔ f + m ≤ i ∧ mtB m n p t (i - m) = true := by
  rw [mtB_iff]
  constructor
  · rintro rfl
    have := h.suf.1
    exact ⟨this, by omega, h.suf.2⟩
  · rintro ⟨h1, h2, h3⟩
    have := h.max m ⟨h1, h3⟩ (Nat.le_refl _)
    have := h.le
    omega
/-- The first place from f on. -/
def IdxAt (mt : Nat → Bool) (n f : Nat) (z : Int) : Prop :=
  (z = -1 ∧ ∀ a, f ≤ a → a ≤ n → mt a = false) ∨ ∃ a : Nat, z = a ∧ f ≤ a ∧ a ≤ n ∧ mt a = true ∧ ∀ b, f ≤ b → b < a → mt b = false
theorem idx_none {mt : Nat → Bool} {n f : Nat} {z : Int} (h : IdxAt mt n f z) (hz : z < 0) : ∀ a, f ≤ a → a ≤ n → mt a = false := by
  rcases h with ⟨_, h⟩ | ⟨a, h, _⟩
  · exact h
  · omega
theorem idx_some {mt : Nat → Bool} {n f : Nat} {z : Int} (h : IdxAt mt n f z) (hz : 0 ≤ z) : ∃ a : Nat, z = a ∧ f ≤ a ∧ a ≤ n ∧ mt a = true ∧ ∀ b, f ≤ b → b < a → mt b = false := by
  rcases h with ⟨h, _⟩ | h
  · omega
  · exact h
end Go.Proofs.YtgobcnheemocnaaGreatDoor
end
