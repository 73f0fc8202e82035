/-
  Several texts in one: A struct is stored into a block that is known whole: by one step, and the world behind it a letter. The parser's counted. The parser's pieces. The parser's alternatives; all of the parser by induction on how deep parentheses stand. The parser's Parse.
-/
import Derived.Test.YtinogeobkljngaaMg1
import Derived.Test.YtinogeobkljngaaProg
import Derived.Great.BuildSlice
import Derived.Laws.Tables
import Derived.Laws.Rows
import Derived.Test.YtinogeobkljngaaMg16
import Derived.Maps.AppendAt
import Derived.Test.YtinogeobkljngaaPaEvG
section
namespace Go.Proofs.Ytinogeobkljngaa
open Go.RowKit
set_option linter.unusedVariables false
set_option linter.unusedSimpArgs false
set_option maxRecDepth 100000

theorem Keeps.setRow {S : Nat → Prop} {a b : World} (h : Keeps S a b) {g : Nat} (hg : S g) (cs : Array Value) : Keeps S a (b.setRow g cs) :=
  ⟨h.os, h.tape, h.output, by have := h.size; simp; omega, fun k hk hs => by
    have hne : g ≠ k := fun e => hs (e ▸ hg)
    have : (b.setRow g cs).heap[k]? = b.heap[k]? := by
      unfold World.setRow
      simp [Array.getElem?_modify, hne]
    rw [this]; exact h.block k hk hs⟩
theorem wpList_store_gen {P : Program} {ops : Array Oper} {rest : List Oper} {o : Oper} {a : Act} {w : World} {Q : Exit → Act → World → Prop} (hgd : o.guard = none) (ty : TypeId) (x y : Operand) (ho : o.op = .store ty x y)
    (hd : o.dst = none) (g : Nat) (cells : Array Value) (hx : a.eval x = .pointer (some ⟨g, 0, none⟩)) (hy : a.eval y = .agg cells)
    (t : TypeId) (old : Array Value) (hg : w.heap[g]? = some (.cells old t (0, 0))) (hi : (P.info? ty).map (·.size) = some cells.size)
    (hold : old.size = cells.size) (h1 : cells.all (·.oneCell') = true)
    (h : ∀ w6 : World, w6.heap[g]? = some (.cells cells t (0, 0)) → Keeps (fun b => b = g) w w6 → wpList P ops Q rest a w6) : wpList P ops Q (o :: rest) a w :=
  wpList_store_rowTo hgd ty x y ho hd g cells hx hy t old hg hi hold h1 (h _ (setRow_heap w g old cells t (0, 0) hg) (Keeps.setRow (S := fun b => b = g) (Keeps.refl _ _) rfl cells))
theorem five {w : World} {b : Nat} {v0 v1 v2 v3 v4 : Value} {T : TypeId} (h : w.heap[b]? = some (.cells #[v0, v1, v2, v3, v4] T (0, 0))) :
    w.cell? ⟨b, 0, none⟩ = some v0 ∧ w.cell? ⟨b, 1, none⟩ = some v1 ∧ w.cell? ⟨b, 2, none⟩ = some v2 ∧ w.cell? ⟨b, 3, none⟩ = some v3 ∧ w.cell? ⟨b, 4, none⟩ = some v4 :=
  ⟨by rw [cell_block h]; rfl, by rw [cell_block h]; rfl, by rw [cell_block h]; rfl, by rw [cell_block h]; rfl, by rw [cell_block h]; rfl⟩
theorem size_node : (Try.prog.info? 31).map (·.size) = some 5 := by kernel_rfl
end Go.Proofs.Ytinogeobkljngaa
end
section
namespace Go.Proofs.Ytinogeobkljngaa
open Go.RowKit
set_option linter.unusedVariables false
set_option linter.unusedSimpArgs false
set_option maxRecDepth 100000

theorem cntV_rng (rs : List Int) (s : PS) (h : ∀ r ∈ rs, 0 ≤ r ∧ r ≤ 1114111) : in64 (cntV rs s).1 ∧ in64 (cntV rs s).2.1 := by
  have hn : ∀ s', in64 (numN rs s') := fun s' => by have := numN_le rs s' h; unfold in64; omega
  have h0 : in64 (-1) := by unfold in64; decide
  have h1 : in64 1 := by unfold in64; decide
  unfold cntV
  repeat' split
  · exact ⟨zero64, h1⟩
  · exact ⟨h1, h0⟩
  · exact ⟨zero64, h0⟩
  · refine ⟨hn _, ?_⟩
    unfold brB
    repeat' split
    · exact h0
    · exact hn _
    · exact hn _
  · exact ⟨zero64, zero64⟩

end Go.Proofs.Ytinogeobkljngaa
end
section
namespace Go.Proofs.Ytinogeobkljngaa
open Go.RowKit
set_option linter.unusedVariables false
set_option linter.unusedSimpArgs false
set_option maxRecDepth 100000

/-- The blocks of the kids, but the row's own. -/
def Kb (w wr : World) (kv : Value) : Nat → Prop := fun b => w.heap.size < b ∧ b < wr.heap.size ∧ kv.ownBlock ≠ some b
/-- Kids that a call is gathering. -/
structure KidsAt (w : World) (pb : Nat) (rv : Value) (rs : List Int) (wr : World) (kv : Value) (s : PS) (l : List T) (vs : List NV) : Prop where
  own : wr.ownsRow (w.heap.size + 1) 31 5 kv l.length (cellsOf 5 encN vs)
  kids : FAt wr (Kb w wr kv) (F.ofL l) vs
  pa : PaAt wr pb rv rs s
  keep : Keeps (OnlyP pb) (w.alloc (.cells #[.int .i64 0, .slice none 0 0, .int .i64 0, .int .i64 0, .slice none 0 0] 31)) wr
theorem KidsAt.size {w wr : World} {pb : Nat} {rv kv : Value} {rs : List Int} {s : PS} {l : List T} {vs : List NV} (h : KidsAt w pb rv rs wr kv s l vs) : w.heap.size < wr.heap.size := by
  have := h.keep.size; simp at this; omega
theorem KidsAt.start {w w1 : World} {pb : Nat} {rv : Value} {rs : List Int} {s : PS} (hP : PaAt w1 pb rv rs s) (K : Keeps (OnlyP pb) (w.alloc (.cells #[.int .i64 0, .slice none 0 0, .int .i64 0, .int .i64 0, .slice none 0 0] 31)) w1) :
    KidsAt w pb rv rs w1 (.slice none 0 0) s [] [] := ⟨World.ownsRow_nil _ _ _ _, rfl, hP, K⟩
theorem cells_node (v : NV) : [Value.int .i64 v.op, v.sv, .int .i64 v.mn, .int .i64 v.mx, v.kv] = cellsOf 5 encN [v] := by simp [cellsOf, encN_cells]
/-- Between the call that made a node and the append: what stands. -/
structure KidsMid (w : World) (pb : Nat) (rv : Value) (rs : List Int) (wr w2 : World) (kv : Value) (s2 : PS) (l : List T) (vs : List NV) (v : NV) (t : T) : Prop where
  k : KidsAt w pb rv rs wr kv s2 l vs ∨ True
  own : w2.ownsRow (w.heap.size + 1) 31 5 kv l.length (cellsOf 5 encN vs)
  lt : ∀ b, kv.ownBlock = some b → b < wr.heap.size
  base : ∀ b, kv.ownBlock = some b → w.heap.size < b
  kids : FAt w2 (Kb w wr kv) (F.ofL l) vs
  node : TAt w2 (Bt wr w2) v t
  pa : PaAt w2 pb rv rs s2
  size : w.heap.size < wr.heap.size ∧ wr.heap.size ≤ w2.heap.size
  keep : Keeps (OnlyP pb) (w.alloc (.cells #[.int .i64 0, .slice none 0 0, .int .i64 0, .int .i64 0, .slice none 0 0] 31)) w2
theorem KidsAt.mid {w wr w2 : World} {pb : Nat} {rv kv : Value} {rs : List Int} {s s2 : PS} {l : List T} {vs : List NV} {v : NV} {t : T} (h : KidsAt w pb rv rs wr kv s l vs) (hpb : pb < w.heap.size)
    (hT : TAt w2 (Bt wr w2) v t) (hP : PaAt w2 pb rv rs s2) (K : Keeps (OnlyP pb) wr w2) : KidsMid w pb rv rs wr w2 kv s2 l vs v t := by
  refine ⟨Or.inr trivial, own_fresh h.own K (by omega), own_lt h.own, fun b hb => by have := ownBlock_base h.own b hb; omega, h.kids.keepsTo K (fun b hb e => ?_) (fun b hb => hb), hT, hP, ⟨h.size, K.size⟩, h.keep.trans K⟩
  have e : b = pb := e
  have := hb.1; omega
theorem KidsMid.snoc {w wr w2 w9 : World} {o : Obj} {pb : Nat} {rv kv v' : Value} {rs : List Int} {s2 : PS} {l : List T} {vs : List NV} {v : NV} {t : T} (h : KidsMid w pb rv rs wr w2 kv s2 l vs v t) (hpb : pb < w.heap.size) (hrb : ∀ b, rv.ownBlock = some b → b < w.heap.size)
    (hown : w9.ownsRow (w.heap.size + 1) 31 5 v' (l.length + 1) (cellsOf 5 encN vs ++ [Value.int .i64 v.op, v.sv, .int .i64 v.mn, .int .i64 v.mx, v.kv]))
    (hg : (w2.alloc o).grownBy w9 kv.ownBlock) (hloc : v'.ownBlock = kv.ownBlock ∨ v'.ownBlock = some (w2.heap.size + 1)) : KidsAt w pb rv rs w9 v' s2 (l ++ [t]) (vs ++ [v]) := by
  have k9 : Keeps (fun b => kv.ownBlock = some b) w2 w9 := ((Keeps.refl _ _).alloc o).grown hg (fun b hb => Or.inl hb)
  have hs9 := k9.size
  have hs1 := h.size
  have e1 : ∀ b, Kb w wr kv b → Kb w w9 v' b := fun b hb => ⟨hb.1, by have := hb.2.1; omega, fun e => by
    rcases hloc with h1 | h1
    · exact hb.2.2 (h1 ▸ e)
    · rw [h1] at e; have := Option.some.inj e; have := hb.2.1; omega⟩
  have e2 : ∀ b, Bt wr w2 b → Kb w w9 v' b := fun b hb => ⟨by have := hb.1; omega, by have := hb.2; omega, fun e => by
    rcases hloc with h1 | h1
    · have := h.lt b (h1 ▸ e); have := hb.1; omega
    · rw [h1] at e; have := Option.some.inj e; have := hb.2; omega⟩
  refine ⟨?_, ?_, ?_, ?_⟩
  · rw [List.length_append, cellsOf_append, ← cells_node]; exact hown
  · exact FAt.snoc (h.kids.keepsTo k9 (fun b hb e => hb.2.2 e) e1) (h.node.keepsTo k9 (fun b hb e => by have := h.lt b e; have := hb.1; omega) e2)
  · exact h.pa.keeps k9 (fun e => by have := h.base pb e; omega) (fun b hb e => by have := h.base b e; have := hrb b hb; omega)
  · exact h.keep.trans2 k9 (fun b hb e => by have := h.base b e; simp at hb; omega)

theorem KidsAt.keepF {w wr w' : World} {pb : Nat} {rv kv : Value} {rs : List Int} {s : PS} {l : List T} {vs : List NV} (h : KidsAt w pb rv rs wr kv s l vs) (K : Keeps (fun _ => False) wr w') : KidsAt w pb rv rs w' kv s l vs :=
  ⟨ownsRow_keeps h.own K (fun _ _ => id), h.kids.keepsTo K (fun _ _ => id) (fun b hb => ⟨hb.1, by have := hb.2.1; have := K.size; omega, hb.2.2⟩), h.pa.keepsF K, h.keep.trans (K.mono (fun _ _ e => e.elim))⟩
theorem KidsAt.slof {w wr : World} {pb : Nat} {rv kv : Value} {rs : List Int} {s : PS} {l : List T} {vs : List NV} (h : KidsAt w pb rv rs wr kv s l vs) (hl : l.length ≤ 1000000) : SlOf 5 encN wr kv vs :=
  SlOf.ofOwn (by have := h.own; rwa [← h.kids.len] at this) (by rw [h.kids.len]; omega)

def PcR (f : PS → T × PS) (D : PS → Prop) (w : World) (pb : Nat) (rv : Value) (rs : List Int) (R : List T × PS) (kv r : Value) (wr : World) : Prop :=
  ∃ n s l vs, r = .int .i64 (pk rs s) ∧ KidsAt w pb rv rs wr kv s l vs ∧ pcsGo f rs n s l = R ∧ Inv rs s ∧ D s ∧ rs.length + 9 ≤ n + s.pos ∧ l.length ≤ s.pos
end Go.Proofs.Ytinogeobkljngaa
end
section
namespace Go.Proofs.Ytinogeobkljngaa
open Go.RowKit
set_option linter.unusedVariables false
set_option linter.unusedSimpArgs false
set_option maxRecDepth 100000

theorem KidsAt.keepP {w wr w' : World} {pb : Nat} {rv kv : Value} {rs : List Int} {s s2 : PS} {l : List T} {vs : List NV} (h : KidsAt w pb rv rs wr kv s l vs) (hpb : pb < w.heap.size) (hP : PaAt w' pb rv rs s2) (K : Keeps (OnlyP pb) wr w') : KidsAt w pb rv rs w' kv s2 l vs :=
  ⟨own_fresh h.own K (by omega), h.kids.keepsTo K (fun b hb e => by have e : b = pb := e; have := hb.1; omega) (fun b hb => ⟨hb.1, by have := hb.2.1; have := K.size; omega, hb.2.2⟩), hP, h.keep.trans K⟩
/-- A first kid, in a row of its own. -/
theorem KidsAt.first {w w1 w2 : World} {pb : Nat} {rv : Value} {rs : List Int} {s2 : PS} {v : NV} {t : T} (hpb : pb < w.heap.size)
    (K0 : Keeps (OnlyP pb) (w.alloc (.cells #[.int .i64 0, .slice none 0 0, .int .i64 0, .int .i64 0, .slice none 0 0] 31)) w1) (hT : TAt w2 (Bt w1 w2) v t) (hP : PaAt w2 pb rv rs s2) (K : Keeps (OnlyP pb) w1 w2) :
    KidsAt w pb rv rs (w2.alloc (.cells #[.int .i64 v.op, v.sv, .int .i64 v.mn, .int .i64 v.mx, v.kv] 31)) (.slice (some ⟨w2.heap.size, 0, none⟩) 1 1) s2 [t] [v] := by
  have hs0 := K0.size
  have hs1 := K.size
  simp at hs0
  have ka : Keeps (fun _ => False) w2 (w2.alloc (.cells #[.int .i64 v.op, v.sv, .int .i64 v.mn, .int .i64 v.mx, v.kv] 31)) := (Keeps.refl _ _).alloc _
  refine ⟨⟨rfl, Or.inr ⟨w2.heap.size, 1, _, rfl, by omega, heap_alloc_new w2 _, Nat.le_refl _, by unfold maxLen; decide, rfl, rfl⟩⟩, ?_, hP.keepsF ka, (K0.trans K).trans (ka.mono (fun _ _ e => e.elim))⟩
  exact FAt.cons_iff.2 ⟨v, [], rfl, hT.keepsTo ka (fun _ _ => id) (fun b hb => ⟨by have := hb.1; omega, by have := hb.2; simp; omega, fun e => by have := hb.2; simp [Value.ownBlock] at e; omega⟩), rfl⟩

def AltR (f : PS → T × PS) (D : PS → Prop) (w : World) (pb : Nat) (rv : Value) (rs : List Int) (R : List T × PS) (kv : Value) (wr : World) : Prop :=
  ∃ n s l vs, KidsAt w pb rv rs wr kv s l vs ∧ altGo f rs n s l = R ∧ Inv rs s ∧ D s ∧ rs.length + 9 ≤ n + s.pos ∧ l.length ≤ s.pos + 1
theorem altsP_bad (f : PS → T × PS) (rs : List Int) (s : PS) (h : s.bad = true) : altsP f rs s = (zeroT, s) := by
  have h1 : pk rs s = -1 := by unfold pk; rw [if_pos h]
  have h2 : piecesP f rs s = (zeroT, s) := by
    unfold piecesP pcsR
    have : pcsGo f rs (rs.length + 9) s [] = ([], s) := by unfold pcsGo; rw [h1]; rfl
    rw [this]; rfl
  unfold altsP altR
  rw [h2]
  have : altGo f rs (rs.length + 9) s [zeroT] = ([zeroT], s) := by unfold altGo; rw [h1]; rfl
  rw [this]; rfl
def Dn (n : Nat) (s : PS) : Prop := 0 ≤ s.deep ∧ s.deep ≤ 11 ∧ (s.bad = false → s.deep ≤ 10 ∧ 10 ≤ s.deep + n)
theorem Dn.go {n : Nat} {rs : List Int} {s s' : PS} (h : Dn n s) (g : Go1 rs s s') : Dn n s' := by
  unfold Dn at h ⊢
  rw [g.deep]
  refine ⟨h.1, h.2.1, fun hb => h.2.2 ?_⟩
  cases hs : s.bad with
  | false => rfl
  | true => rw [g.bad hs] at hb; cases hb
end Go.Proofs.Ytinogeobkljngaa
end
section
namespace Go.Proofs.Ytinogeobkljngaa
open Go.RowKit
set_option linter.unusedVariables false
set_option linter.unusedSimpArgs false
set_option maxRecDepth 100000

theorem ptsP_facts : ∀ (n : Nat) (l : List UInt8) (rs : List Int), ptsP n l = some rs → rs.length ≤ l.length ∧ ∀ r ∈ rs, 0 ≤ r ∧ r ≤ 1114111 := by
  intro n
  induction n with
  | zero => intro l rs h; simp [ptsP] at h; subst h; simp
  | succ n ih =>
    intro l rs h
    rcases l with _ | ⟨c, l⟩
    · simp [ptsP] at h; subst h; simp
    · rw [ptsP, if_neg (by simp)] at h
      by_cases hs : sizP (getP (c :: l)).1 = ((getP (c :: l)).2 : Int)
      · rw [if_pos hs, Option.map_eq_some_iff] at h
        obtain ⟨rs', h1, rfl⟩ := h
        have h2 := ih _ _ h1
        have hp := getP_pos c l
        have hb : isB (getP (c :: l)).1 = true := by
          unfold sizP at hs
          cases hb : isB (getP (c :: l)).1 with
          | true => rfl
          | false => rw [hb] at hs; simp at hs; omega
        have hr : 0 ≤ (getP (c :: l)).1 ∧ (getP (c :: l)).1 ≤ 1114111 := by
          simp [isB] at hb; omega
        refine ⟨?_, ?_⟩
        · have h3 := h2.1
          rw [List.length_drop] at h3
          simp only [List.length_cons] at h3 ⊢; omega
        · intro r hr'
          rcases List.mem_cons.1 hr' with rfl | hr'
          · exact hr
          · exact h2.2 r hr'
      · rw [if_neg hs] at h; cases h
theorem pts_facts {l : List UInt8} {rs : List Int} (h : pts l = some rs) : rs.length ≤ l.length ∧ ∀ r ∈ rs, 0 ≤ r ∧ r ≤ 1114111 := ptsP_facts _ _ _ h
theorem cells_int (rs : List Int) : cellsOf 1 encI rs = rs.map (Value.int .i64) := by
  induction rs with
  | nil => rfl
  | cons r rs ih => rw [List.map_cons, ← ih]; simp [cellsOf, encI, List.range_succ]
theorem frozen_cells (w : World) (cs : Array Value) (T : TypeId) (o : Nat) : (w.alloc (.cells cs T)).frozen? ⟨w.heap.size, o, none⟩ = false := by simp [go_sem]
def ParseRet (w : World) (r : T × Int) (e : Ending) (w' : World) : Prop :=
  ∃ v : NV, e = .returned (.tuple #[v.val, .int .i64 r.2]) ∧ TAt w' (fun b => w.heap.size ≤ b) v r.1 ∧ Keeps (fun _ => False) w w'
theorem zeroRet (w w' : World) (n : Int) (K : Keeps (fun _ => False) w w') : ParseRet w (zeroT, n) (.returned (.tuple #[NV.val ⟨0, .slice none 0 0, 0, 0, .slice none 0 0⟩, .int .i64 n])) w' := ⟨_, rfl, TAt.zero _ _, K⟩
theorem parse_close {w wX wE : World} {t : T} {v : NV} {n : Int} (K : Keeps (fun _ => False) w wX) (hT : TAt wX (fun b => w.heap.size < b) v t) (kE : Keeps (fun b => b = w.heap.size) wX wE) : ParseRet w (t, n) (.returned (.tuple #[v.val, .int .i64 n])) wE :=
  ⟨v, rfl, hT.keepsTo kE (fun b hb e => by omega) (fun b hb => by omega), K.trans2 kE (fun b hb e => by omega)⟩
theorem res_facts2 {w wX : World} {pb : Nat} (K : Keeps (OnlyP pb) (w.alloc (.cells #[.int .i64 0, .slice none 0 0, .int .i64 0, .int .i64 0, .slice none 0 0] 31)) wX) (hpb : ¬ w.heap.size = pb) :
    (wX.cell? ⟨w.heap.size, 0, none⟩ = some (.int .i64 0) ∧ wX.cell? ⟨w.heap.size, 1, none⟩ = some (.slice none 0 0) ∧ wX.cell? ⟨w.heap.size, 2, none⟩ = some (.int .i64 0) ∧ wX.cell? ⟨w.heap.size, 3, none⟩ = some (.int .i64 0) ∧ wX.cell? ⟨w.heap.size, 4, none⟩ = some (.slice none 0 0)) ∧
    (wX.frozen? ⟨w.heap.size, 0, none⟩ = false ∧ wX.frozen? ⟨w.heap.size, 1, none⟩ = false ∧ wX.frozen? ⟨w.heap.size, 2, none⟩ = false ∧ wX.frozen? ⟨w.heap.size, 3, none⟩ = false ∧ wX.frozen? ⟨w.heap.size, 4, none⟩ = false) :=
  ⟨⟨K.cell (by simp [go_sem]) hpb, K.cell (by simp [go_sem]) hpb, K.cell (by simp [go_sem]) hpb, K.cell (by simp [go_sem]) hpb, K.cell (by simp [go_sem]) hpb⟩,
    K.frozen (by simp [go_sem]) (by simp) hpb, K.frozen (by simp [go_sem]) (by simp) hpb, K.frozen (by simp [go_sem]) (by simp) hpb, K.frozen (by simp [go_sem]) (by simp) hpb, K.frozen (by simp [go_sem]) (by simp) hpb⟩
theorem keeps_new {w wX : World} {pb : Nat} (K : Keeps (OnlyP pb) (w.alloc (.cells #[.int .i64 0, .slice none 0 0, .int .i64 0, .int .i64 0, .slice none 0 0] 31)) wX) (hpb : w.heap.size ≤ pb) : Keeps (fun _ => False) w wX :=
  Keeps.trans2 (Keeps.alloc (Keeps.refl _ _) _) K (fun b hb e => by have e : b = pb := e; omega)
end Go.Proofs.Ytinogeobkljngaa
end
