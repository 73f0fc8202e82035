/-
  Several texts in one: The law's example. What the laws of the model share: its walk (printed by mk_laws.py).
-/
import Derived.Test.YtjahiihmoglpfaaGreatDoorMg31
import Derived.Test.YtjahiihmoglpfaaGreatDoorMoRaG
namespace Go.Proofs.YtjahiihmoglpfaaGreatDoor
open Go.RowKit
set_option linter.unusedVariables false
set_option linter.unusedSimpArgs false
set_option maxRecDepth 100000
def exL : List (List UInt8) := [[48, 58, 49, 45, 50, 58, 98], [49, 58, 49, 45, 50, 58, 98]]
theorem read_ex : xdP 0 100 [97, 98, 10, 99, 98] = ([⟨0, 0, [97, 98]⟩, ⟨1, 3, [99, 98]⟩], 0) := by kernel_rfl
theorem run_ex (a : Option Addr) (c : Nat) (f : List UInt8 → List (Int × Int)) (h1 : f [97, 98] = [((1 : Int), (2 : Int))]) (h2 : f [99, 98] = [((1 : Int), (2 : Int))]) : runJ f (xbL a 5 c [98]) [97, 98, 10, 99, 98] = (exL, 0) := by
 unfold runJ
 show runP 0 f 0 0 0 (xcj (xbL a 5 c [98]) 100 _ [97, 98, 10, 99, 98]) = _
 have e : xcj (xbL a 5 c [98]) 100 (xbL a 5 c [98]).fl.toNat [97, 98, 10, 99, 98] = xdP 0 100 [97, 98, 10, 99, 98] := by
  unfold xcj
  rw [if_neg (by unfold xbT xbL; simp)]
  rfl
 rw [e, read_ex, xfp]
 simp only [List.flatMap_cons, List.flatMap_nil, xbz]
 rw [if_pos (by unfold xcb; simp), if_pos (by unfold xcb; simp), h1, h2]
 clear e h1 h2
 decide +kernel
theorem xlu (a : Option Addr) (c : Nat) (pt : List UInt8) : JOk (xbL a 5 c pt) := by
 refine ⟨?_, ?_, ?_, ?_, ?_, ?_, ?_, ?_, ?_, ?_, ?_, ?_⟩ <;> simp [xbL]
theorem exL_at (w : World) : xbE (w.alloc (.cells #[strL [48, 58, 49, 45, 50, 58, 98], strL [49, 58, 49, 45, 50, 58, 98]] 9)) (.slice (some ⟨w.heap.size, 0, none⟩) 2 2) exL := by
 refine ⟨_, 2, rfl, ⟨Nat.le_refl _, fun h => by cases h⟩, by simp [exL], fun _ => ⟨w.heap.size, 0, rfl, fun i x hx j hj => ?_⟩⟩
 obtain rfl : j = 0 := by omega
 rcases i with _ | _ | i
 · obtain rfl := Option.some.inj hx
   simp [go_sem, encS]
 · obtain rfl := Option.some.inj hx
   simp [go_sem, encS]
 simp [exL] at hx
set_option maxHeartbeats 4000000 in
theorem xdG (w : World) (hT : TabW w) : Calls Tryz.prog 7 #[] w fun e w' => e = .returned (.bool true) ∧ xaa (fun _ => False) w w' := by
 obtain ⟨is, ⟨h0, hl⟩, hok, hC⟩ := comp_b
 obtain ⟨f, hF, hf1, hf2⟩ := hit_b is hok h0 (by omega)
 have HR := xmA (xjQ [98] is ([98], true) f hF hC)
 have HP := xmA (fun W => xj0 [97, 98, 10, 99, 98] [98] W (by simp))
 have HT := xmA hT
 have HV := xmA (fun a c => run_ex a c f hf1 hf2)
 clear hC hF hf1 hf2 hT hok
 go_enter Tryz.func7, Tryz.ntmps7
 go_wp2_with fail
 refine (HP.out _).mono ?_
 rintro e w1 ⟨a, c, rfl, hD, k1⟩
 have hRu := HR.out (xbL a 5 c [98]) [97, 98, 10, 99, 98] w1 rfl (xlu a c [98]) hD (by simp) (HT.out.keeps k1)
 rw [if_neg (by simp), HV.out a c] at hRu
 have HRu := xmA hRu
 have K1 := xmA k1
 clear hRu hD k1
 have hj : jV (xbL a ([97, 98, 10, 99, 98] : List UInt8).length c [98]) = jV (xbL a 5 c [98]) := rfl
 rw [hj]
 generalize jV (xbL a 5 c [98]) = z at *
 go_wp2_with fail
 refine HRu.out.mono ?_
 rintro e w2 ⟨v, rfl, hO, k2, _⟩
 have HO := xmA hO
 have K2 := xmA (K1.out.trans k2)
 clear hO k2
 go_wp2_with fail
 refine (xcZ exL exL v _ _ (xbE.ofOwn (World.ownsRow.alloc HO.out _) (by simp [exL])) (exL_at _) (by simp [exL])).mono ?_
 rintro e w3 ⟨rfl, k3⟩
 have K3 := xmA ((K2.out.alloc _).trans k3)
 have ht : decide (exL = exL) = true := decide_eq_true rfl
 rw [ht]
 clear k3
 go_wp2_with fail
 go_ret
 exact ⟨rfl, K3.out⟩
theorem xam {P : Program} {ops : Array Oper} {rest : List Oper} {o : Oper} {a : Act} {w : World} {Q : Exit → Act → World → Prop} (hw : Region.wanted o (yielded ops a.tmps) = true) (ty : TypeId) (x : Operand) (ho : o.op = .load ty x)
 (g : Nat) (hx : a.eval x = .pointer (some ⟨g, 0, none⟩)) (t : TypeId) (cs : Array Value) (fr : Nat × Nat) (d : TypeDesc) (hg : w.heap[g]? = some (.cells cs t fr))
 (hu : P.underlying ty = some d) (hd : (match d with | .struct _ | .array _ _ => true | _ => false) = true) (hi : (P.info? ty).map (·.size) = some cs.size)
 (h : wpList P ops Q rest (a.put o.dst (.agg cs)) w) : wpList P ops Q (o :: rest) a w :=
 BigFrame.wpList_want hw fun K hK => wp_load_row ty x ho g hx t cs fr d hg hu hd hi (hK _ _ h)
theorem xlP (w : World) (j : JV) (w' : World) (h : (w.alloc (.cells #[.slice none 0 0, .slice none 0 0, .int .i64 0, .int .i64 0, .int .i64 0, .string ⟨#[]⟩, .int .i64 0, .int .i64 0, .int .i64 0, .int .i64 0, .int .i64 0, .int .i64 0, .int .i64 0, .int .i64 0, .int .i64 0, .int .i64 0, .int .i64 0] 25)).setRow w.heap.size (jCs j) = w') : JbAt w' w.heap.size j ∧ xaa (fun _ => False) w w' ∧ w'.heap.size = w.heap.size + 1 := by
 subst h
 refine ⟨setRow_heap _ _ _ _ _ _ (heap_alloc_new w _), ?_, by simp⟩
 have hk : xaa (fun _ => False) w (w.alloc (.cells #[.slice none 0 0, .slice none 0 0, .int .i64 0, .int .i64 0, .int .i64 0, .string ⟨#[]⟩, .int .i64 0, .int .i64 0, .int .i64 0, .int .i64 0, .int .i64 0, .int .i64 0, .int .i64 0, .int .i64 0, .int .i64 0, .int .i64 0, .int .i64 0] 25)) := (xaa.refl _ _).alloc _
 exact hk.trans2 (T := fun b => b = w.heap.size) ⟨rfl, rfl, rfl, by simp, fun k hk hs => setRow_other _ _ _ _ hs⟩ (fun b hb e => by have e : b = w.heap.size := e; omega)
theorem xaH {P : Program} {ops : Array Oper} {o : Oper} {a : Act} {w : World} {K : Act → World → Prop} {Q : Exit → Act → World → Prop} {E : Prop} (hgd : o.guard = none) (ty : TypeId) (x y : Operand) (ho : o.op = .store ty x y)
 (g : Nat) (cells : Array Value) (hx : a.eval x = .pointer (some ⟨g, 0, none⟩)) (hy : a.eval y = .agg cells)
 (t : TypeId) (old : Array Value) (hg : w.heap[g]? = some (.cells old t (0, 0))) (hi : (P.info? ty).map (·.size) = some cells.size)
 (hold : old.size = cells.size) (h1 : cells.all (·.oneCell') = true)
 (h : K (a.put o.dst undef) (w.setRow g cells)) : if Region.wanted o (yielded ops a.tmps) = true then Oper.wp P o a w K Q else E := by
 rw [if_pos (by simp [Region.wanted, hgd])]
 exact wp_store_row ty x y ho g cells hx hy t old hg hi hold h1 h
theorem xf2 {P : Program} {ops : Array Oper} {o : Oper} {a : Act} {w : World} {K : Act → World → Prop} {Q : Exit → Act → World → Prop} {E : Prop} (hgd : o.guard = none) (f : FuncId) (args : Array Value)
 (hrun : (execOp a.eval o).run P w = .ok (.enter f args) w) (h : Calls P f args w fun e w' => ∃ v, e = .returned v ∧ K (a.put o.dst v) w') : if Region.wanted o (yielded ops a.tmps) = true then Oper.wp P o a w K Q else E := by
 rw [if_pos (by simp [Region.wanted, hgd])]
 unfold Oper.wp
 rw [hrun, Oper.upon_enter]
 refine h.mono ?_
 rintro e w' ⟨v, rfl, hk⟩
 exact hk
theorem xfG {o : Oper} {ρ : Operand → Value} {w : World} (x y : Operand) (ho : o.op = .binOp .neq 4 x y 4) (q : Bool) (hx : ρ x = .bool q) (hy : ρ y = .bool q) : (execOp ρ o).run Tryz.prog w = .ok (.value (.bool false)) w := by
 unfold execOp
 rw [ho]
 cases q <;> go_simp
theorem xbb {P : Program} {o : Oper} {ρ : Operand → Value} {w : World} (ty : TypeId) (x : Operand) (ho : o.op = .load ty x)
 (g : Nat) (hx : ρ x = .pointer (some ⟨g, 0, none⟩)) (t : TypeId) (cs : Array Value) (fr : Nat × Nat) (d : TypeDesc) (hg : w.heap[g]? = some (.cells cs t fr))
 (hu : P.underlying ty = some d) (hd : (match d with | .struct _ | .array _ _ => true | _ => false) = true) (hi : (P.info? ty).map (·.size) = some cs.size) :
 (execOp ρ o).run P w = .ok (.value (.agg cs)) w := by
 unfold execOp
 simp only [ho, hx, Instr.loadAt, Instr.sureAddr, Sem.run_bind, Sem.run_pure, Result.andThen_ok, run_loadVar_row w g t ty cs fr d hg hu hd hi]
theorem xaI {ops : Array Oper} {o : Oper} {a : Act} {w : World} {K : Act → World → Prop} {Q : Exit → Act → World → Prop} {E : Prop} (hgd : o.guard = none) (ho : o.op = .alloc 25)
 (h : K (a.put o.dst (.pointer (some ⟨w.heap.size, 0, none⟩))) (w.alloc (.cells #[.slice none 0 0, .slice none 0 0, .int .i64 0, .int .i64 0, .int .i64 0, .string ⟨#[]⟩, .int .i64 0, .int .i64 0, .int .i64 0, .int .i64 0, .int .i64 0, .int .i64 0, .int .i64 0, .int .i64 0, .int .i64 0, .int .i64 0, .int .i64 0] 25))) : if Region.wanted o (yielded ops a.tmps) = true then Oper.wp Tryz.prog o a w K Q else E := by
 rw [if_pos (by simp [Region.wanted, hgd])]
 unfold Oper.wp execOp
 rw [ho]
 go_simp
 exact h
def TwoJ (wn : World) (j : JV) (v5 v6 : Value) (wc : World) : Prop :=
 ∃ ba bb : Nat, v5 = .pointer (some ⟨ba, 0, none⟩) ∧ v6 = .pointer (some ⟨bb, 0, none⟩) ∧ ba ≠ bb ∧ wn.heap.size ≤ ba ∧ wn.heap.size ≤ bb ∧ JbAt wc ba j ∧ JbAt wc bb j ∧ xaa (fun _ => False) wn wc
theorem xdS (wn wd : World) (hd : wd = { wn with drawn := wn.drawn + 1 }) (j : JV) (a b : Nat) (hab : a = wn.heap.size ∧ b = wn.heap.size + 1 ∨ a = wn.heap.size + 1 ∧ b = wn.heap.size) (w9 : World)
 (h : ((((wd.alloc (.cells #[.slice none 0 0, .slice none 0 0, .int .i64 0, .int .i64 0, .int .i64 0, .string ⟨#[]⟩, .int .i64 0, .int .i64 0, .int .i64 0, .int .i64 0, .int .i64 0, .int .i64 0, .int .i64 0, .int .i64 0, .int .i64 0, .int .i64 0, .int .i64 0] 25)).alloc (.cells #[.slice none 0 0, .slice none 0 0, .int .i64 0, .int .i64 0, .int .i64 0, .string ⟨#[]⟩, .int .i64 0, .int .i64 0, .int .i64 0, .int .i64 0, .int .i64 0, .int .i64 0, .int .i64 0, .int .i64 0, .int .i64 0, .int .i64 0, .int .i64 0] 25)).setRow a (jCs j)).setRow b (jCs j)) = w9) :
 TwoJ wn j (.pointer (some ⟨a, 0, none⟩)) (.pointer (some ⟨b, 0, none⟩)) w9 := by
 have k0 : xaa (fun _ => False) wn wd := by subst hd; exact ⟨rfl, rfl, rfl, Nat.le_refl _, fun _ _ _ => rfl⟩
 have hs0 : wd.heap.size = wn.heap.size := by subst hd; rfl
 clear hd
 have n1 := heap_alloc_new wd (.cells #[.slice none 0 0, .slice none 0 0, .int .i64 0, .int .i64 0, .int .i64 0, .string ⟨#[]⟩, .int .i64 0, .int .i64 0, .int .i64 0, .int .i64 0, .int .i64 0, .int .i64 0, .int .i64 0, .int .i64 0, .int .i64 0, .int .i64 0, .int .i64 0] 25)
 have k1 : xaa (fun _ => False) wd (wd.alloc (.cells #[.slice none 0 0, .slice none 0 0, .int .i64 0, .int .i64 0, .int .i64 0, .string ⟨#[]⟩, .int .i64 0, .int .i64 0, .int .i64 0, .int .i64 0, .int .i64 0, .int .i64 0, .int .i64 0, .int .i64 0, .int .i64 0, .int .i64 0, .int .i64 0] 25)) := (xaa.refl _ _).alloc _
 have hs1 : (wd.alloc (.cells #[.slice none 0 0, .slice none 0 0, .int .i64 0, .int .i64 0, .int .i64 0, .string ⟨#[]⟩, .int .i64 0, .int .i64 0, .int .i64 0, .int .i64 0, .int .i64 0, .int .i64 0, .int .i64 0, .int .i64 0, .int .i64 0, .int .i64 0, .int .i64 0] 25)).heap.size = wd.heap.size + 1 := by simp
 generalize wd.alloc (.cells #[.slice none 0 0, .slice none 0 0, .int .i64 0, .int .i64 0, .int .i64 0, .string ⟨#[]⟩, .int .i64 0, .int .i64 0, .int .i64 0, .int .i64 0, .int .i64 0, .int .i64 0, .int .i64 0, .int .i64 0, .int .i64 0, .int .i64 0, .int .i64 0] 25) = wa at *
 have n2 := heap_alloc_new wa (.cells #[.slice none 0 0, .slice none 0 0, .int .i64 0, .int .i64 0, .int .i64 0, .string ⟨#[]⟩, .int .i64 0, .int .i64 0, .int .i64 0, .int .i64 0, .int .i64 0, .int .i64 0, .int .i64 0, .int .i64 0, .int .i64 0, .int .i64 0, .int .i64 0] 25)
 have k2 : xaa (fun _ => False) wa (wa.alloc (.cells #[.slice none 0 0, .slice none 0 0, .int .i64 0, .int .i64 0, .int .i64 0, .string ⟨#[]⟩, .int .i64 0, .int .i64 0, .int .i64 0, .int .i64 0, .int .i64 0, .int .i64 0, .int .i64 0, .int .i64 0, .int .i64 0, .int .i64 0, .int .i64 0] 25)) := (xaa.refl _ _).alloc _
 have n3 := k2.heap n1 id
 generalize wa.alloc (.cells #[.slice none 0 0, .slice none 0 0, .int .i64 0, .int .i64 0, .int .i64 0, .string ⟨#[]⟩, .int .i64 0, .int .i64 0, .int .i64 0, .int .i64 0, .int .i64 0, .int .i64 0, .int .i64 0, .int .i64 0, .int .i64 0, .int .i64 0, .int .i64 0] 25) = wb at *
 have ka : ∀ (X : World) (g : Nat), xaa (fun x => x = g) X (X.setRow g (jCs j)) := fun X g => ⟨rfl, rfl, rfl, by simp, fun k hk hs => setRow_other _ _ _ _ hs⟩
 rw [hs0] at n3 hs1
 rw [hs1] at n2
 have hne : a ≠ b := by omega
 have hA : ∃ old, wb.heap[a]? = some (.cells old 25 (0, 0)) := by rcases hab with ⟨rfl, rfl⟩ | ⟨rfl, rfl⟩ <;> exact ⟨_, by assumption⟩
 have hB : ∃ old, wb.heap[b]? = some (.cells old 25 (0, 0)) := by rcases hab with ⟨rfl, rfl⟩ | ⟨rfl, rfl⟩ <;> exact ⟨_, by assumption⟩
 obtain ⟨o1, hA⟩ := hA
 obtain ⟨o2, hB⟩ := hB
 have h1 : JbAt (wb.setRow a (jCs j)) a j := setRow_heap _ _ _ _ _ _ hA
 have h2 := (ka wb a).heap hB (fun e => hne e.symm)
 have h3 : JbAt ((wb.setRow a (jCs j)).setRow b (jCs j)) b j := setRow_heap _ _ _ _ _ _ h2
 have h4 := h1.keeps (ka (wb.setRow a (jCs j)) b) hne
 subst h
 refine ⟨a, b, rfl, rfl, hne, by omega, by omega, h4, h3, ?_⟩
 exact (((k0.trans k1).trans k2).trans2 (ka wb a) (fun i hi e => by have e : i = a := e; omega)).trans2 (ka _ b) (fun i hi e => by have e : i = b := e; omega)
end Go.Proofs.YtjahiihmoglpfaaGreatDoor
