/-
  text.Print at the law's own deed: the walk.
-/
import Derived.Test.YtibfioekmpnkgaaDoorTextQ
import Derived.Deep.RegionHeld3
import Derived.Deep.AppendLies
import Derived.Deep.Cut
import Derived.Deep.CutRange
import Derived.Deep.WholeRow
import Derived.Laws.Tables
namespace Go.Proofs.YtibfioekmpnkgaaDoor
open Go.RowKit
set_option linter.unusedVariables false
set_option linter.unusedSimpArgs false
set_option maxRecDepth 100000

def cancelS : ByteArray := ⟨#[99, 97, 110, 99, 101, 108]⟩
def lineL : List UInt8 := [99, 97, 110, 99, 101, 108, 32, 114, 117, 110, 58, 49, 32, 110, 111, 116, 101, 58, 97, 37, 50, 48, 98]
theorem join_line : joinL [cancelS, runS, noteS] ⟨#[32]⟩ = lineL := by rfl
def PrR (w : World) (iv : Value) (wr : World) : Prop :=
  ∃ k : Nat, k ≤ 1 ∧ iv = .int .i64 k ∧ Bld (w.heap.size + 1) w.heap.size (if k = 0 then [] else Lib.byteCells (lineL ++ [10])) wr ∧ Keeps (fun b => b = w.heap.size ∨ w.heap.size + 1 ≤ b) w wr
def PrC (w1 : World) (v : Value) (wr : World) : Prop := v = .string ⟨lineL.toArray⟩ ∧ Keeps (fun _ => False) w1 wr

theorem own_lit {w : World} {base X : Nat} {s : ByteArray} (h : w.heap[X]? = some (.cells #[.string s] 9 (0, 0))) (hb : base ≤ X) : w.ownsRow base 9 1 (.slice (some ⟨X, 0, none⟩) 1 1) 1 [.string s] :=
  ⟨rfl, Or.inr ⟨X, 1, #[.string s], rfl, hb, h, Nat.le_refl _, by unfold maxLen; decide, rfl, rfl⟩⟩
theorem alloc_heap {w : World} {k : Nat} {o : Obj} (h : w.heap[k]? = some o) (p : Obj) : (w.alloc p).heap[k]? = some o := (Lib.alloc_old w p k (Array.getElem?_eq_some_iff.1 h).1).trans h
theorem news_two {w : World} {tb : Nat} {a b : Value} (h0 : w.cell? ⟨tb, 0, none⟩ = some a) (h1 : w.cell? ⟨tb, 1, none⟩ = some b) : ∀ j u, [a, b][j]? = some u → w.cell? ((⟨tb, 0, none⟩ : Addr).add j) = some u := by
  intro j u hj
  have hadd : (⟨tb, 0, none⟩ : Addr).add j = ⟨tb, j, none⟩ := by unfold Addr.add; split <;> simp_all
  rw [hadd]
  match j, hj with
  | 0, hj => simp at hj; subst hj; exact h0
  | 1, hj => simp at hj; subst hj; exact h1
theorem join_cells {w : World} {base g cap : Nat} {v : List Value} {xs : List ByteArray} (h : w.ownsRow base 9 1 (.slice (some ⟨g, 0, none⟩) xs.length cap) xs.length v) (hv : v = xs.map Value.string) : ∀ (j : Nat) x, xs[j]? = some x → w.cell? ⟨g, 0 + j, none⟩ = some (.string x) := by
  intro j x hx
  subst hv
  have := h.cells (g := g) rfl j (.string x) (by simp [hx])
  have hadd : (⟨g, 0, none⟩ : Addr).add j = ⟨g, j, none⟩ := by unfold Addr.add; split <;> simp_all
  rwa [hadd, show j = 0 + j by omega] at this
theorem own_cap {w : World} {base g n cap : Nat} {v : List Value} (h : w.ownsRow base 9 1 (.slice (some ⟨g, 0, none⟩) n cap) n v) : n ≤ cap := by
  rcases h.2 with ⟨h1, _⟩ | ⟨g', cap', cur, h1, _, _, h2, _⟩
  · cases h1
  · cases h1; exact h2
theorem dcells_one : (dcells.all fun x => x.oneCell') = true := by simp [dcells, Value.oneCell']
set_option maxHeartbeats 4000000 in
theorem print_awake (hdeed : ∀ (D : Nat) (w : World), Calls Tryd.prog 22 #[.pointer (some ⟨D, 0, none⟩)] w fun e w' => ∃ fb, e = .returned (.slice (some ⟨fb, 0, none⟩) 21 21) ∧ w'.heap[fb]? = some (.cells (fieldCells D) 54 (0, 0)) ∧ Keeps (fun _ => False) w w') (X : Nat) (w : World) (hX : w.heap[X]? = some (.cells dcells 41 (0, 0))) (hK : w.cell? ⟨0, 3, none⟩ = some (.string cancelS)) :
    Calls Tryd.prog 11 #[.slice (some ⟨X, 0, none⟩) 1 1] w fun e w' => e = .returned (.tuple #[.string ⟨(lineL ++ [10]).toArray⟩, .int .i64 0]) ∧ Keeps (fun _ => False) w w' := by
  have hXl : X < w.heap.size := (Array.getElem?_eq_some_iff.1 hX).1
  have hKl := lt_of_cell hK
  simp only at hKl
  have HX := Lib.hid hX
  have HDd := Lib.hid hdeed
  clear hdeed
  clear hX
  have Hs : Hid (Lib.joinTail = Lib.joinTail) := Lib.hid rfl
  obtain ⟨i0, hi0, hz0, hz1, hz2⟩ := info_parts info_str
  go_enter Tryd.func11, Tryd.ntmps11
  go_wp2_with fail
  go_loopw [10] (fun iv wr => PrR w iv wr) (fun iv _ => 1 - (intOf iv).toNat)
  case atStart => exact ⟨0, Nat.zero_le _, rfl, Bld.fresh (w' := w) (heap_alloc_new w _), (Keeps.refl _ _).alloc _⟩
  case round =>
    obtain ⟨k, hk1, rfl, hB, hk⟩ := hrel
    have hsz : w.heap.size + 1 ≤ wr.heap.size := by have := hB.lt; omega
    by_cases hk0 : k < 1
    · obtain rfl : k = 0 := by omega
      have hXs : ¬ (X = w.heap.size ∨ w.heap.size + 1 ≤ X) := by omega
      have rX := hk.heap HX.out hXs
      have rK := hk.cell hK (by show ¬ (0 = w.heap.size ∨ w.heap.size + 1 ≤ 0); omega)
      clear hK
      have hka := (Keeps.refl (fun _ => False) wr).alloc (.cells dcells 41)
      have hB1 := hB.keepsF hka
      have z := fun o => cell_new' wr dcells 41 o
      have z0 : (wr.alloc (.cells dcells 41)).cell? ⟨wr.heap.size, 0, none⟩ = some (.int .i64 3) := by rw [z]; rfl
      have y3 := hka.cell rK id
      have hdK : ∀ W, Keeps (fun _ => False) (wr.alloc (.cells dcells 41)) W → ∀ o, W.cell? ⟨wr.heap.size, o, none⟩ = dcells[o]? := fun W KK o => by
        have hb : (wr.alloc (.cells dcells 41)).heap[wr.heap.size]? = some (.cells dcells 41 (0, 0)) := heap_alloc_new wr _
        rw [cell_block (KK.heap hb id)]
      have HdK := Lib.hid hdK
      clear hdK z
      have dsz : (Tryd.prog.info? 41).map (·.size) = some dcells.size := by kernel_rfl
      have hst := run_storeCells_new (P := Tryd.prog) wr 41 #[.int .i64 0, .int .i64 0, .int .i64 0, .string ⟨#[]⟩, .slice none 0 0, .slice none 0 0, .slice none 0 0, .int .i64 0, .int .i64 0, .int .i64 0, .string ⟨#[]⟩, .int .i64 0, .int .i64 0, .int .i64 0, .int .i64 0, .int .i64 0, .int .i64 0, .int .i64 0, .int .i64 0, .int .i64 0, .int .i64 0, .int .i64 0] dcells dsz rfl dcells_one
      go_upto_region 4 with fail
      go_upto_region 5 with (refine wpList_load_row rfl 41 (.tmp 13) rfl X rfl 41 dcells (0, 0) _ rX Tryd.underlying41 rfl dsz ?_)
      clear hst
      have hD : Hid ((wr.alloc (.cells dcells 41)).heap[wr.heap.size]? = some (.cells dcells 41 (0, 0))) := Lib.hid (heap_alloc_new wr _)
      have hsw1 : (wr.alloc (.cells dcells 41)).heap.size = wr.heap.size + 1 := by simp
      generalize wr.alloc (.cells dcells 41) = w1 at *
      have HB1 := Lib.hid hB1
      have Hka := Lib.hid hka
      have Hsw1 := Lib.hid hsw1
      clear hB1 hka hB rX rK HX hsw1
      go_upto_region 7 with fail
      go_cut [7] from 11 to 42 (fun v wc => PrC w1 v wc)
      case first =>
        have hD0 : w1.cell? ⟨wr.heap.size, 0, none⟩ = some (.int .i64 3) := z0
        have HS : ∀ w', Keeps (fun _ => False) w1 w' → w'.cell? ⟨wr.heap.size, 0, none⟩ = some (.int .i64 3) ∧ w'.cell? ⟨0, 3, none⟩ = some (.string cancelS) ∧ Keeps (fun _ => False) w1 w' := fun w' K => ⟨K.cell hD0 id, K.cell y3 id, K⟩
        have hkd : Keeps (fun _ => False) w1 w1.drew := (Keeps.refl _ _).drew
        have HSd := HS _ hkd
        have hsw : w.heap.size ≤ w1.heap.size := by rw [Hsw1.out]; omega
        go_region_held3 (fun w' => w'.cell? ⟨wr.heap.size, 0, none⟩ = some (.int .i64 3) ∧ w'.cell? ⟨0, 3, none⟩ = some (.string cancelS) ∧ Keeps (fun _ => False) w1 w')
          (first | exact HSd | exact HS _ (by assumption) | exact HS _ (hkd.alloc _) | exact HS _ (Keeps.alloc (by assumption) _))
          (first
            | (refine step_append_lies _ (by rfl) (.tmp 27) (.tmp 29) 46 (by rfl) w1.heap.size 9 i0 _ 1 16 Tryd.underlying46 hi0 hz0 hz1 hz2 rfl (by omega) _ 1 [.string cancelS] (by rfl) (by first | exact own_lit (hkB.heap (hkA.heap (heap_alloc_new _ _) id) id) (by simp) | exact own_lit (hkB.heap (heap_alloc_new _ _) id) (by have := kA.size; simpa using this) | exact own_lit (heap_alloc_new _ _) (by have := kB.size; simpa using this)) ⟨tb, 0, none⟩ 2 tc [.string runS, .string noteS] (by rfl) (by rfl) (by first | exact news_two ht0 ht1 | exact news_two (alloc_cell ht0 _) (alloc_cell ht1 _)) (by intro u hu; simp at hu; rcases hu with rfl | rfl <;> rfl) (by omega) (by unfold maxLen; omega) (by omega) (by have := kB.size; simp; omega) _ rfl ?_; intro gg cap wC hownC hgrow hat hltC; have kC : Keeps (fun _ => False) w1 wC := (by first | exact kB.grown hgrow (fun k hk => Or.inr (by have hk' := Option.some.inj (show some _ = some k from hk); have h1 := kA.size; have h2 := kB.size; have h3 : w1.drew.heap.size = w1.heap.size := rfl; simp only at hk'; omega)) | exact (kB.alloc _).grown hgrow (fun k hk => Or.inr (by have hk' := Option.some.inj (show some _ = some k from hk); have h1 := kA.size; have h2 := kB.size; have h3 : w1.drew.heap.size = w1.heap.size := rfl; simp only at hk'; omega))))
            | (go_at_call 22; refine (HDd.out wr.heap.size _).mono ?_; rintro e wA ⟨fb, rfl, hfA, hkA⟩; have kA : Keeps (fun _ => False) w1 wA := (by first | exact hkd.trans hkA | exact (hkd.alloc _).trans hkA))
            | (go_at_call 13; refine (toldK wr.heap.size fb _ ?_ (HdK.out _ ?_)).mono ?_; (first | exact hfA | exact alloc_heap hfA _); (first | exact kA | exact kA.alloc _); rintro e wB ⟨tb, tc, rfl, ht0, ht1, hkB⟩; have kB : Keeps (fun _ => False) w1 wB := (by first | exact kA.trans hkB | exact (kA.alloc _).trans hkB))
            | (go_at_call 12; refine (join_many gg 0 cap [cancelS, runS, noteS] ⟨#[32]⟩ wC (join_cells hownC rfl) hltC (by decide) (by decide) (own_cap hownC) (by decide) (by decide) (by rw [join_line]; decide)).mono ?_; rintro e wE ⟨rfl, hkE⟩; have kE := kC.trans hkE))
        all_goals (go_wp2_with fail; go_meet; exact ⟨by rw [join_line], kE⟩)
      case rest =>
        obtain ⟨rfl, hkc⟩ := hcut
        have hts : (⟨lineL.toArray⟩ : ByteArray).size ≤ 23 := by decide
        have Htl : Hid ((⟨lineL.toArray⟩ : ByteArray).data.toList = lineL) := Lib.hid rfl
        generalize (⟨lineL.toArray⟩ : ByteArray) = t at *
        have hBc : Bld (w.heap.size + 1) w.heap.size [] wc := (by simpa using HB1.out : Bld (w.heap.size + 1) w.heap.size [] w1).keepsF hkc
        have hKc := hk.trans ((Hka.out.trans hkc).mono (fun _ _ e => e.elim))
        have hszc : w.heap.size + 1 ≤ wc.heap.size := by have := hBc.lt; have := hkc.size; have := Hsw1.out; omega
        clear HdK z0 y3 hkc hk
        go_wp2_with fail
        refine (writeString_any _ _ [] _ _ hBc (by have h10 : (⟨#[10]⟩ : ByteArray).size = 1 := rfl; simp only [List.length_nil, ByteArray.size_append]; omega) hszc).mono ?_
        rintro e wF ⟨rfl, hBF, hkF⟩
        go_wp2_with fail
        go_roundw
        case rel =>
          refine ⟨1, Nat.le_refl _, by go_num, ?_, hKc.trans hkF⟩
          have e : ([] : List Value) ++ Lib.strCells (t ++ ⟨#[10]⟩) = Lib.byteCells (lineL ++ [10]) := by
            rw [Lib.strCells_eq, ByteArray.data_append]; simp [Htl.out]
          rw [e] at hBF
          exact hBF
        case measure => simp [intOf]
    · obtain rfl : k = 1 := by omega
      have hBe : Bld (w.heap.size + 1) w.heap.size (Lib.byteCells (lineL ++ [10])) wr := by simpa using hB
      clear hB hK
      go_wp2_with fail
      refine (Tryd.Builder_String_any_f w.heap.size w.heap.size _ wr (hBe.f _ (by omega) (Nat.le_refl _)) (by omega)).mono ?_
      rintro e w5 ⟨rfl, _, hb5⟩
      go_wp2_with fail
      go_ret2
      refine ⟨rfl, ?_⟩
      exact ((hk.mono (fun k _ e => show w.heap.size ≤ k by omega)).trans2 (Keeps.ofBelow hb5) (fun i hi e => e)).mono (fun k hk e => by omega)
end Go.Proofs.YtibfioekmpnkgaaDoor
