/-
  A job by value; a job's cells; its rows loaded and stored at once; model's between.
-/
import Derived.Test.YtbifklibdkjbeaaGreatDoorLib
import Derived.Test.YtbifklibdkjbeaaGreatDoorProg
import Derived.IntWalk
import Derived.BigQuiet
import Derived.Deep.QuietTactic
import Derived.Handy
import Derived.BigCall
import Derived.BigGuard
namespace Go.Proofs.YtbifklibdkjbeaaGreatDoor
open Go.RowKit
set_option linter.unusedVariables false
set_option linter.unusedSimpArgs false
set_option maxRecDepth 100000

/-- A job as it lies in a frame. -/
structure JV where
  da : Option Addr
  dn : Nat
  dc : Nat
  sa : Option Addr
  sn : Nat
  sc : Nat
  fl : Int
  cd : Int
  mo : Int
  pt : List UInt8
  ev : Int
  bd : Int
  te : Int
  be : Int
  af : Int
  rf : Int
  bu : Int
  ch : Int
  ro : Int
  wo : Int
  rg : Int
def jCs (j : JV) : Array Value := #[.slice j.da j.dn j.dc, .slice j.sa j.sn j.sc, .int .i64 j.fl, .int .i64 j.cd, .int .i64 j.mo, .string ⟨j.pt.toArray⟩, .int .i64 j.ev, .int .i64 j.bd, .int .i64 j.te, .int .i64 j.be, .int .i64 j.af, .int .i64 j.rf, .int .i64 j.bu, .int .i64 j.ch, .int .i64 j.ro, .int .i64 j.wo, .int .i64 j.rg]
def jV (j : JV) : Value := .agg (jCs j)
theorem between_any (n a b : Int) (w : World) : Calls Tryz.prog 76 #[.int .i64 n, .int .i64 a, .int .i64 b] w fun e w' => e = .returned (.bool (decide (a ≤ n) && decide (n ≤ b))) ∧ w' = w := by
  by_cases h : a ≤ n
  · have g : decide (a ≤ n) = true := by simpa using h
    have HR : Hid ((decide (a ≤ n) && decide (n ≤ b)) = decide (n ≤ b)) := Lib.hid (by rw [g]; rfl)
    generalize (decide (a ≤ n) && decide (n ≤ b)) = q at *
    go_enter Tryz.func76, Tryz.ntmps76
    go_wp2_with fail
    go_ret
    exact ⟨by rw [HR.out]; rfl, rfl⟩
  · have g : decide (a ≤ n) = false := by simpa using h
    have HR : Hid ((decide (a ≤ n) && decide (n ≤ b)) = false) := Lib.hid (by rw [g]; rfl)
    generalize (decide (a ≤ n) && decide (n ≤ b)) = q at *
    go_enter Tryz.func76, Tryz.ntmps76
    go_wp2_with fail
    go_ret
    exact ⟨by rw [HR.out]; rfl, rfl⟩
/-- A job's cells. -/
def JbAt (w : World) (c : Nat) (j : JV) : Prop := w.heap[c]? = some (.cells (jCs j) 28 (0, 0))
theorem jb_new (w : World) (j : JV) : JbAt (w.alloc (.cells (jCs j) 28)) w.heap.size j := heap_alloc_new w _
theorem JbAt.c {w : World} {c : Nat} {j : JV} (h : JbAt w c j) :
    w.cell? ⟨c, 0, none⟩ = some (.slice j.da j.dn j.dc) ∧ w.cell? ⟨c, 1, none⟩ = some (.slice j.sa j.sn j.sc) ∧ w.cell? ⟨c, 2, none⟩ = some (.int .i64 j.fl) ∧ w.cell? ⟨c, 3, none⟩ = some (.int .i64 j.cd) ∧ w.cell? ⟨c, 4, none⟩ = some (.int .i64 j.mo) ∧ w.cell? ⟨c, 5, none⟩ = some (.string ⟨j.pt.toArray⟩) ∧
    w.cell? ⟨c, 6, none⟩ = some (.int .i64 j.ev) ∧ w.cell? ⟨c, 7, none⟩ = some (.int .i64 j.bd) ∧ w.cell? ⟨c, 8, none⟩ = some (.int .i64 j.te) ∧ w.cell? ⟨c, 9, none⟩ = some (.int .i64 j.be) ∧ w.cell? ⟨c, 10, none⟩ = some (.int .i64 j.af) := by
  refine ⟨?_, ?_, ?_, ?_, ?_, ?_, ?_, ?_, ?_, ?_, ?_⟩ <;> (rw [Lib.cell_of_heap h]; rfl)
theorem JbAt.keeps {S : Nat → Prop} {w w' : World} {c : Nat} {j : JV} (h : JbAt w c j) (K : Keeps S w w') (hs : ¬ S c) : JbAt w' c j := K.heap h hs
theorem JbAt.d {w : World} {c : Nat} {j : JV} (h : JbAt w c j) :
    w.cell? ⟨c, 11, none⟩ = some (.int .i64 j.rf) ∧ w.cell? ⟨c, 12, none⟩ = some (.int .i64 j.bu) ∧ w.cell? ⟨c, 13, none⟩ = some (.int .i64 j.ch) ∧ w.cell? ⟨c, 14, none⟩ = some (.int .i64 j.ro) ∧ w.cell? ⟨c, 15, none⟩ = some (.int .i64 j.wo) ∧ w.cell? ⟨c, 16, none⟩ = some (.int .i64 j.rg) := by
  refine ⟨?_, ?_, ?_, ?_, ?_, ?_⟩ <;> (rw [Lib.cell_of_heap h]; rfl)
theorem job_size (j : JV) : (Tryz.prog.info? 28).map (·.size) = some (jCs j).size := by
  show _ = some 17
  kernel_rfl
theorem wpList_load_row_w {P : Program} {ops : Array Oper} {rest : List Oper} {o : Oper} {a : Act} {w : World} {Q : Exit → Act → World → Prop} (hw : Region.wanted o (yielded ops a.tmps) = true) (ty : TypeId) (x : Operand) (ho : o.op = .load ty x)
    (g : Nat) (hx : a.eval x = .pointer (some ⟨g, 0, none⟩)) (t : TypeId) (cs : Array Value) (fr : Nat × Nat) (d : TypeDesc) (hg : w.heap[g]? = some (.cells cs t fr))
    (hu : P.underlying ty = some d) (hd : (match d with | .struct _ | .array _ _ => true | _ => false) = true) (hi : (P.info? ty).map (·.size) = some cs.size)
    (h : wpList P ops Q rest (a.put o.dst (.agg cs)) w) : wpList P ops Q (o :: rest) a w :=
  BigFrame.wpList_want hw fun K hK => wp_load_row ty x ho g hx t cs fr d hg hu hd hi (hK _ _ h)
theorem step_load_row {P : Program} {ops : Array Oper} {o : Oper} {a : Act} {w : World} {K : Act → World → Prop} {Q : Exit → Act → World → Prop} {E : Prop} (hgd : o.guard = none) (ty : TypeId) (x : Operand) (ho : o.op = .load ty x)
    (g : Nat) (hx : a.eval x = .pointer (some ⟨g, 0, none⟩)) (t : TypeId) (cs : Array Value) (fr : Nat × Nat) (d : TypeDesc) (hg : w.heap[g]? = some (.cells cs t fr))
    (hu : P.underlying ty = some d) (hd : (match d with | .struct _ | .array _ _ => true | _ => false) = true) (hi : (P.info? ty).map (·.size) = some cs.size)
    (h : K (a.put o.dst (.agg cs)) w) : if Region.wanted o (yielded ops a.tmps) = true then Oper.wp P o a w K Q else E := by
  rw [if_pos (by simp [Region.wanted, hgd])]
  exact wp_load_row ty x ho g hx t cs fr d hg hu hd hi h
theorem step_store_row {P : Program} {ops : Array Oper} {o : Oper} {a : Act} {w : World} {K : Act → World → Prop} {Q : Exit → Act → World → Prop} {E : Prop} (hgd : o.guard = none) (ty : TypeId) (x y : Operand) (ho : o.op = .store ty x y)
    (g : Nat) (cells : Array Value) (hx : a.eval x = .pointer (some ⟨g, 0, none⟩)) (hy : a.eval y = .agg cells)
    (t : TypeId) (old : Array Value) (hg : w.heap[g]? = some (.cells old t (0, 0))) (hi : (P.info? ty).map (·.size) = some cells.size)
    (hold : old.size = cells.size) (h1 : cells.all (·.oneCell') = true)
    (h : K (a.put o.dst undef) (w.setRow g cells)) : if Region.wanted o (yielded ops a.tmps) = true then Oper.wp P o a w K Q else E := by
  rw [if_pos (by simp [Region.wanted, hgd])]
  exact wp_store_row ty x y ho g cells hx hy t old hg hi hold h1 h
theorem step_call {P : Program} {ops : Array Oper} {o : Oper} {a : Act} {w : World} {K : Act → World → Prop} {Q : Exit → Act → World → Prop} {E : Prop} (hgd : o.guard = none) (f : FuncId) (args : Array Value)
    (hrun : (execOp a.eval o).run P w = .ok (.enter f args) w) (h : Calls P f args w fun e w' => ∃ v, e = .returned v ∧ K (a.put o.dst v) w') : if Region.wanted o (yielded ops a.tmps) = true then Oper.wp P o a w K Q else E := by
  rw [if_pos (by simp [Region.wanted, hgd])]
  unfold Oper.wp
  rw [hrun, Oper.upon_enter]
  refine h.mono ?_
  rintro e w' ⟨v, rfl, hk⟩
  exact hk
theorem exec_load_row {P : Program} {o : Oper} {ρ : Operand → Value} {w : World} (ty : TypeId) (x : Operand) (ho : o.op = .load ty x)
    (g : Nat) (hx : ρ x = .pointer (some ⟨g, 0, none⟩)) (t : TypeId) (cs : Array Value) (fr : Nat × Nat) (d : TypeDesc) (hg : w.heap[g]? = some (.cells cs t fr))
    (hu : P.underlying ty = some d) (hd : (match d with | .struct _ | .array _ _ => true | _ => false) = true) (hi : (P.info? ty).map (·.size) = some cs.size) :
    (execOp ρ o).run P w = .ok (.value (.agg cs)) w := by
  unfold execOp
  simp only [ho, hx, Instr.loadAt, Instr.sureAddr, Sem.run_bind, Sem.run_pure, Result.andThen_ok, run_loadVar_row w g t ty cs fr d hg hu hd hi]
end Go.Proofs.YtbifklibdkjbeaaGreatDoor
