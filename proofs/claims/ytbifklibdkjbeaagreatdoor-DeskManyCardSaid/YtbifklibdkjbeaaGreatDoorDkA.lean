/-
  A desk in memory: its map of runs by plain words; the walks of desk.New, Run, just, one, drop, start. No condition.
-/
import Derived.Test.YtbifklibdkjbeaaGreatDoorDkE
import Derived.Maps.OwnSet
import Derived.Maps.OwnOps
import Derived.Maps.Views
import Derived.Handy
namespace Go.Proofs.YtbifklibdkjbeaaGreatDoor
open Go.RowKit Go.WideMaps Go.Maps
set_option linter.unusedVariables false
set_option linter.unusedSimpArgs false
set_option maxRecDepth 100000

/-- A block lies so. -/
def Bk (w : World) (b : Nat) (t : TypeId) (cs : List Value) : Prop := w.heap[b]? = some (.cells cs.toArray t (0, 0))
theorem Bk.c {w : World} {b : Nat} {t : TypeId} {cs : List Value} (h : Bk w b t cs) (i : Nat) {v : Value} (hv : cs[i]? = some v) : w.cell? ⟨b, i, none⟩ = some v := by
  rw [cell_block h i]; simpa using hv
theorem Bk.f {w : World} {b : Nat} {t : TypeId} {cs : List Value} (h : Bk w b t cs) (o : Nat) (s : Option Nat) : w.frozen? ⟨b, o, s⟩ = false := frozen_block h o s
theorem Bk.lt {w : World} {b : Nat} {t : TypeId} {cs : List Value} (h : Bk w b t cs) : b < w.heap.size := (Array.getElem?_eq_some_iff.1 h).1
theorem Bk.keeps {S : Nat → Prop} {w w' : World} {b : Nat} {t : TypeId} {cs : List Value} (h : Bk w b t cs) (K : Keeps S w w') (hs : ¬ S b) : Bk w' b t cs := K.heap h hs
theorem Bk.set {w : World} {b : Nat} {t : TypeId} {cs : List Value} (h : Bk w b t cs) (i : Nat) (v : Value) : Bk (w.setCell ⟨b, i, none⟩ v) b t (cs.set i v) := by
  unfold Bk at h ⊢
  simp [World.setCell, Array.getElem?_modify, h]
theorem Bk.new (w : World) (t : TypeId) (cs : List Value) : Bk (w.alloc (.cells cs.toArray t)) w.heap.size t cs := heap_alloc_new w _
/-- How an element reads: as it is. -/
def RV (v : Value) : Option (DataW Value × List MemPlace) := some (.held v, [])
def hK (h : Int) : Lit := .int .i64 h
theorem hK_ne {a b : Int} (h : a ≠ b) : hK a ≠ hK b := by unfold hK; intro e; exact h (by injection e)
theorem hK_key (h : Int) : WideAt.IsKeyLit (hK h) := by simp [hK, WideAt.IsKeyLit]
theorem key27 : Keyed Tryz.prog 3 := int_keyed Tryz.underlying3
theorem zero27 (w : World) : (zeroValue 104).run Tryz.prog w = .ok (.pointer none) w := by kernel_rfl
/-- A map of runs: its handles, and each one's run. -/
def MpAt (w : World) (mb : Nat) (ks : List Int) (m : Int → Value) (N : Nat) : Prop :=
  ∃ D : DataW Value, w.ownsMap Tryz.prog 3 RV mb N D ∧ Tidy D ∧ size D = ks.length ∧ (∀ h, has D (hK h) = decide (h ∈ ks)) ∧ ∀ h z, D.atKey (hK h) (.held z) = .held (if h ∈ ks then m h else z)
theorem ownsMap_keeps {S : Nat → Prop} {w w' : World} {b n : Nat} {D : DataW Value} {P : Program} {k : TypeId} (h : w.ownsMap P k RV b n D) (K : Keeps S w w') (hs : ¬ S b) : w'.ownsMap P k RV b n D := by
  obtain ⟨es, clock, hb, F, hn, hD⟩ := h
  exact ⟨es, clock, K.heap hb hs, F, hn, hD⟩
theorem MpAt.keeps {S : Nat → Prop} {w w' : World} {mb N : Nat} {ks : List Int} {m : Int → Value} (h : MpAt w mb ks m N) (K : Keeps S w w') (hs : ¬ S mb) : MpAt w' mb ks m N := by
  obtain ⟨D, h1, h2⟩ := h
  exact ⟨D, ownsMap_keeps h1 K hs, h2⟩
theorem MpAt.lt {w : World} {mb N : Nat} {ks : List Int} {m : Int → Value} (h : MpAt w mb ks m N) : mb < w.heap.size := by
  obtain ⟨D, h1, h2⟩ := h
  exact h1.lt
theorem MpAt.made (w : World) (m : Int → Value) : MpAt (w.alloc (.map #[] 0)) w.heap.size [] m 0 :=
  ⟨.map [], World.ownsMap_made _ _ _ _, tidy_empty, rfl, fun h => by simp [has_eq], fun h z => by simp; rfl⟩
theorem key_int (h : Int) (h1 : -9223372036854775808 ≤ h) (h2 : h ≤ 9223372036854775807) : keyOf Tryz.prog 3 (.int .i64 h) = some (hK h) := keyOf_int_mk Tryz.underlying3 (WalkArith.wf_i64 (by omega))
theorem MpAt.look {w : World} {mb N : Nat} {ks : List Int} {m : Int → Value} (hm : MpAt w mb ks m N) (h : Int) (h1 : -9223372036854775808 ≤ h) (h2 : h ≤ 9223372036854775807) :
    (Instr.lookup 100 (.map (some mb)) (.int .i64 h) false).run Tryz.prog w = .ok (if h ∈ ks then m h else .pointer none) w := by
  obtain ⟨D, hown, _, _, _, hat⟩ := hm
  obtain ⟨v, ps, hrun, hv⟩ := hown.lookup key27 Tryz.underlying100 (zero27 w) (zd := .held (.pointer none)) (zp := []) rfl (key_int h h1 h2)
  rw [hat h (.pointer none)] at hv
  have : v = if h ∈ ks then m h else .pointer none := by
    have e : (DataW.held v, ([] : List MemPlace)) = (.held (if h ∈ ks then m h else .pointer none), ps) := Option.some.inj hv
    exact DataW.held.inj (congrArg Prod.fst e)
  rw [hrun, this]
/-- A desk. -/
structure DkS (w : World) (db mb : Nat) (ks : List Int) (m : Int → Value) (N : Nat) : Prop where
  dk : Bk w db 102 [.map (some mb), .int .i64 ((N : Int) + 1)]
  mp : MpAt w mb ks m N
  ne : db ≠ mb
theorem DkS.keeps {S : Nat → Prop} {w w' : World} {db mb N : Nat} {ks : List Int} {m : Int → Value} (h : DkS w db mb ks m N) (K : Keeps S w w') (h1 : ¬ S db) (h2 : ¬ S mb) : DkS w' db mb ks m N :=
  ⟨h.dk.keeps K h1, h.mp.keeps K h2, h.ne⟩
theorem desk_new (w : World) : Calls Tryz.prog 23 #[] w fun e w' => ∃ db mb, e = .returned (.pointer (some ⟨db, 0, none⟩)) ∧ DkS w' db mb [] (fun _ => .pointer none) 0 ∧ w.heap.size ≤ db ∧ w.heap.size ≤ mb ∧ Keeps (fun _ => False) w w' := by
  have hmm := @run_makeMap Tryz.prog
  go_enter Tryz.func23, Tryz.ntmps23
  go_wp2_with fail
  go_ret
  refine ⟨_, _, rfl, ⟨by unfold Bk; rw [show w.heap.size + 1 = (w.alloc (Obj.map #[] 0)).heap.size by simp]; exact heap_alloc_new _ _, (MpAt.made w _).keeps (S := fun _ => False) ((Keeps.refl _ _).alloc _) id, by simp⟩, by simp, Nat.le_refl _, by (repeat' (with_reducible first | exact Keeps.refl _ _ | assumption | refine Keeps.drawN ?_ _ | refine Keeps.drew ?_ | refine Keeps.setCell ?_ ?_ _ | refine Keeps.alloc ?_ _)) <;> (first | exact Or.inr (Nat.le_refl _) | exact Or.inl rfl | exact Or.inl (Or.inl rfl) | exact Or.inl (Or.inr rfl) | (right; simp; done) | (right; simp; omega))⟩
theorem desk_run (db mb N : Nat) (ks : List Int) (m : Int → Value) (h : Int) (w : World) (hd : DkS w db mb ks m N) (h1 : -9223372036854775808 ≤ h) (h2 : h ≤ 9223372036854775807) :
    Calls Tryz.prog 44 #[.pointer (some ⟨db, 0, none⟩), .int .i64 h] w fun e w' => e = .returned (if h ∈ ks then m h else .pointer none) ∧ w' = w := by
  have c0 := hd.dk.c 0 rfl
  have hl := hd.mp.look h h1 h2
  generalize (if h ∈ ks then m h else Value.pointer none) = q at *
  clear hd
  go_enter Tryz.func44, Tryz.ntmps44
  go_wp2_with fail
  go_ret
  exact ⟨rfl, rfl⟩
theorem desk_just (c : Int) (w : World) : Calls Tryz.prog 45 #[.int .i64 c] w fun e w' => e = .returned (.agg #[.int .i64 c, .int .i64 0, .int .i64 0, .string ⟨#[]⟩]) ∧ Keeps (fun _ => False) w w' := by
  go_enter Tryz.func45, Tryz.ntmps45
  go_wp2_with fail
  go_returns
  exact ⟨rfl, by (repeat' (with_reducible first | exact Keeps.refl _ _ | assumption | refine Keeps.drawN ?_ _ | refine Keeps.drew ?_ | refine Keeps.setCell ?_ ?_ _ | refine Keeps.alloc ?_ _)) <;> (first | exact Or.inr (Nat.le_refl _) | exact Or.inl rfl | exact Or.inl (Or.inl rfl) | exact Or.inl (Or.inr rfl) | (right; simp; done) | (right; simp; omega))⟩
theorem desk_one (b : Bool) (w : World) : Calls Tryz.prog 79 #[.bool b] w fun e w' => e = .returned (.int .i64 (if b then 1 else 0)) ∧ w' = w := by
  cases b
  · go_enter Tryz.func79, Tryz.ntmps79
    go_wp2_with fail
    go_ret
    exact ⟨rfl, rfl⟩
  · go_enter Tryz.func79, Tryz.ntmps79
    go_wp2_with fail
    go_ret
    exact ⟨rfl, rfl⟩
end Go.Proofs.YtbifklibdkjbeaaGreatDoor
