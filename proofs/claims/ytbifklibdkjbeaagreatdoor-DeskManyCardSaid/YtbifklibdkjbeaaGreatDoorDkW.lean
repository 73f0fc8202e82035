/-
  DeskMany's first look: the walks of least and awake. No condition.
-/
import Derived.Test.YtbifklibdkjbeaaGreatDoorDkH
import Derived.Great.BuildSlice
import Derived.KernelRfl
namespace Go.Proofs.YtbifklibdkjbeaaGreatDoor
open Go.RowKit
set_option linter.unusedVariables false
set_option linter.unusedSimpArgs false
set_option maxRecDepth 100000

theorem leastC : jCs leastJ = #[.slice none 0 0, .slice none 0 0, .int .i64 (-1), .int .i64 0, .int .i64 1, .string ⟨#[]⟩, .int .i64 0, .int .i64 0, .int .i64 0, .int .i64 0, .int .i64 0, .int .i64 0, .int .i64 1, .int .i64 1, .int .i64 0, .int .i64 1, .int .i64 1] := rfl
theorem least_one : (jCs leastJ).all (·.oneCell') = true := by simp [jCs, Value.oneCell']
set_option maxHeartbeats 4000000 in
theorem least_any (w : World) : Calls Tryz.prog 25 #[] w fun e w' => e = .returned (.agg (jCs leastJ)) ∧ Keeps (fun _ => False) w w' := by
  go_enter Tryz.func25, Tryz.ntmps25
  go_wp2_with (refine wpList_store_row rfl 28 (.tmp 0) (.tmp 1) rfl w.heap.size (jCs leastJ) rfl rfl 28 _ (heap_alloc_new _ _) (job_size _) rfl least_one ?_)
  refine bodyPost_ret (results_cell_row rfl _ _ w.heap.size 28 (jCs leastJ) (0, 0) _ rfl (setRow_heap _ _ _ _ _ _ (heap_alloc_new _ _)) Tryz.underlying28 rfl (job_size _)) rfl ?_
  exact ⟨rfl, ((Keeps.refl _ _).alloc _).trans2 (T := fun b => b = w.heap.size) (keeps_row _ _ _) (fun b hb e => by omega)⟩
theorem flat22 {α : Type} (F : α → List Value) (hF : ∀ d, (F d).length = 22) : ∀ (ds : List α) (i : Nat) (d : α), ds[i]? = some d → ∀ j v, (F d)[j]? = some v → (ds.flatMap F)[i * 22 + j]? = some v
  | [], i, d, h, j, v, hv => by simp at h
  | a :: ds, 0, d, h, j, v, hv => by
    have e : a = d := by simpa using h
    subst e
    have hj : j < (F a).length := (List.getElem?_eq_some_iff.1 hv).1
    rw [List.flatMap_cons, List.getElem?_append_left (by omega)]
    simpa using hv
  | a :: ds, i + 1, d, h, j, v, hv => by
    rw [List.flatMap_cons, List.getElem?_append_right (by rw [hF]; omega), hF, show (i + 1) * 22 + j - 22 = i * 22 + j by omega]
    exact flat22 F hF ds i d (by simpa using h) j v hv
theorem dsAt_of {w : World} {pb : Nat} {cs : Array Value} {t : TypeId} {ds : List (Int × Int)} (h : w.heap[pb]? = some (.cells cs t (0, 0))) (hc : cs.toList = ds.flatMap fun d => (dCs d.1 d.2 (jobOf d)).toList) : DsAt w pb ds := by
  intro i d hd j v hv
  rw [cell_block h, ← Array.getElem?_toList, hc]
  exact flat22 _ (fun d => rfl) ds i d hd j v hv
theorem row_cells {w : World} {base : Nat} {e : TypeId} {size n : Nat} {u : Value} {xs : List Value} (h : w.ownsRow base e size u n xs) (hn : 0 < n) : ∃ g cap, u = .slice (some ⟨g, 0, none⟩) n cap ∧ n ≤ cap ∧ ∀ j v, xs[j]? = some v → w.cell? ⟨g, j, none⟩ = some v := by
  have h0 := h
  rcases h.2 with ⟨_, e⟩ | ⟨g, cap, cur, rfl, _, hh, hnc, _, _, htk⟩
  · omega
  · refine ⟨g, cap, rfl, hnc, fun j v hv => ?_⟩
    rw [cell_block hh, ← Array.getElem?_toList]
    have hj : j < n * size := by rw [← h.1]; exact (List.getElem?_eq_some_iff.1 hv).1
    rw [← htk, List.getElem?_take_of_lt hj] at hv
    exact hv
def stsA (i : Nat) : D27 := if i = 0 then ⟨[], 0, .no⟩ else if i = 1 then ⟨[1], 1, .new⟩ else ⟨[1], 1, .st1⟩
theorem stsA_next (i : Nat) (d : Int × Int) (h : [((0 : Int), (0 : Int)), (1, 1), (1, 2)][i]? = some d) : nxt 1 (stsA i) d = some (stsA (i + 1)) ∧ 0 ≤ d.2 ∧ d.2 ≤ 1000 ∧ 0 ≤ d.1 ∧ d.1 ≤ 8 := by
  rcases i with _ | _ | _ | i
  · simp at h; subst h; exact ⟨by decide, by decide, by decide, by decide, by decide⟩
  · simp at h; subst h; exact ⟨by decide, by decide, by decide, by decide, by decide⟩
  · simp at h; subst h; exact ⟨by decide, by decide, by decide, by decide, by decide⟩
  · simp at h
theorem info_deed : (Tryz.prog.info? 70).map (fun i => (i.zero, i.size, i.bytes)) = some (some (.agg (dCs 0 0 zeroJ)), 22, 240) := by kernel_rfl
set_option maxHeartbeats 8000000 in
theorem awake27_any (w : World) : Calls Tryz.prog 22 #[] w fun e w' => e = .returned (.bool true) ∧ Keeps (fun _ => False) w w' := by
  go_enter Tryz.func22, Tryz.ntmps22
  go_wp2_with fail
  refine (desk_new _).mono ?_
  rintro e w1 ⟨db, mb, rfl, hd, q1, q2, K1⟩
  have HD := Lib.hid hd
  have HQ := Lib.hid (And.intro q1 q2)
  have HK1 := Lib.hid K1
  clear hd q1 q2 K1
  obtain ⟨deedI, deed_info, deed_zero, dsz, dby⟩ := info_parts info_deed
  go_upto_region 4 with fail
  go_wp2_with fail
  refine (least_any _).mono ?_
  rintro e w2 ⟨rfl, K2⟩
  have HK2 := Lib.hid K2
  clear K2
  go_wp2_with (first
    | (refine wpList_buildTo rfl 70 #[(5, .tmp 7)] rfl _ rfl (dCs 0 0 leastJ) (by kernel_rfl) ?_)
    | (refine wpList_buildTo rfl 70 #[(0, .const (.int .i64 1)), (1, .const (.int .i64 1))] rfl _ rfl (dCs 1 1 zeroJ) (by kernel_rfl) ?_)
    | (refine wpList_buildTo rfl 70 #[(0, .const (.int .i64 1)), (1, .const (.int .i64 2))] rfl _ rfl (dCs 1 2 zeroJ) (by kernel_rfl) ?_)
    | (refine wpList_buildSlice rfl 103 70 3 _ rfl (dCs 0 0 leastJ ++ dCs 1 1 zeroJ ++ dCs 1 2 zeroJ) deedI _ Tryz.underlying103 deed_info deed_zero (by rw [dsz]; decide) (by rw [dsz]; decide) (by rw [dsz]; kernel_rfl) ?_))
  have hA := HK1.out.size
  have hB := HK2.out.size
  have hQ := HQ.out
  have hd0 := HD.out
  have hWS : WS (w2.alloc (.cells (dCs 0 0 leastJ ++ (dCs 1 1 zeroJ ++ dCs 1 2 zeroJ)) 70)) db mb 1 (stsA 0) (fun _ => .pointer none) (fun _ => False) :=
    ⟨(hd0.keeps HK2.out id id).keeps (S := fun _ => False) ((Keeps.refl _ _).alloc _) id id, fun h => by simp [stsA] at h, fun b h => h.elim⟩
  have hds : DsAt (w2.alloc (.cells (dCs 0 0 leastJ ++ (dCs 1 1 zeroJ ++ dCs 1 2 zeroJ)) 70)) w2.heap.size [(0, 0), (1, 1), (1, 2)] := dsAt_of (heap_alloc_new w2 _) rfl
  have l1 := hd0.dk.lt
  have l2 := hd0.mp.lt
  refine (do_any db mb 1 stsA [(0, 0), (1, 1), (1, 2)] (fun _ => .pointer none) (fun _ => False) w2.heap.size _ hWS hds ⟨by omega, by omega, id⟩ (by decide) stsA_next).mono ?_
  rintro e w3 ⟨u, os, m, S, rfl, hown, hlen, hok, hws, hf, hk⟩
  obtain ⟨g, cap, rfl, hcap, hc⟩ := row_cells hown (by decide)
  match os, hlen with
  | [o0, o1, o2], _ =>
    have k0 := hok 0 _ _ rfl rfl
    have k1 := hok 1 _ _ rfl rfl
    have k2 := hok 2 _ _ rfl rfl
    obtain ⟨a0, a1, a2⟩ := o0
    obtain ⟨b0, b1, b2⟩ := o1
    obtain ⟨d0, d1, d2⟩ := o2
    simp [okO, stsA] at k0 k1 k2
    obtain ⟨rfl, rfl, rfl⟩ := k0
    obtain ⟨rfl, rfl, rfl⟩ := k1
    obtain ⟨rfl, rfl, rfl⟩ := k2
    have z0 := hc 0 _ rfl
    have z1 := hc 1 _ rfl
    have z2 := hc 2 _ rfl
    have z3 := hc 3 _ rfl
    have z4 := hc 4 _ rfl
    have z5 := hc 5 _ rfl
    have z6 := hc 6 _ rfl
    have z7 := hc 7 _ rfl
    have z8 := hc 8 _ rfl
    have z9 := hc 9 _ rfl
    have z10 := hc 10 _ rfl
    have z11 := hc 11 _ rfl
    have KF : Keeps (fun _ => False) w w3 := ((HK1.out.trans HK2.out).alloc (.cells (dCs 0 0 leastJ ++ (dCs 1 1 zeroJ ++ dCs 1 2 zeroJ)) 70)).trans2 hk (fun i hi e => by rcases e with e | e | e; omega; omega; exact e)
    have HKF := Lib.hid KF
    have hcp : (3 : Int) ≤ (cap : Int) := by have : 3 ≤ cap := hcap; omega
    clear hok hown hc hws hf hk hA hB hQ hd0 hWS hds l1 l2 KF hcap
    go_wp2_with fail
    go_ret
    exact ⟨rfl, HKF.out⟩
end Go.Proofs.YtbifklibdkjbeaaGreatDoor
