/-
  slices.SortFunc over an owned row of ranges: a permutation, in the order of the lower ends.
-/
import Derived.Test.YtinogeobkljngaaDoorSetRef
import Derived.Test.YtinogeobkljngaaDoorShelfS
namespace Go.Proofs.YtinogeobkljngaaDoor
open Go.RowKit Go.Shelf Go.Lib Go.Sort
set_option linter.unusedVariables false
set_option linter.unusedSimpArgs false
set_option maxRecDepth 100000

def encRl (x : Int × Int) : List Value := [.int .i64 x.1, .int .i64 x.2]

theorem isNaN_any (x : Int) (w : World) : Calls Tryd.prog 78 #[.int .i64 x] w fun e w' => e = .returned (.bool false) ∧ w = w' := by
  have h : (x != x) = false := by simp
  go_enter Tryd.func78, Tryd.ntmps78
  go_wp2
  go_ret
  exact ⟨rfl, rfl⟩

def cmpI (x y : Int) : Int := if x < y then -1 else if y < x then 1 else 0
theorem compare_any (x y : Int) (w : World) : Calls Tryd.prog 74 #[.int .i64 x, .int .i64 y] w fun e w' => e = .returned (.int .i64 (cmpI x y)) ∧ w = w' := by
  by_cases h1 : x < y
  · have HV := Lib.hid (show cmpI x y = -1 from if_pos h1)
    go_enter Tryd.func74, Tryd.ntmps74
    go_wp2_with (go_at_call 78; refine (isNaN_any _ _).mono ?_; rintro e w' ⟨rfl, rfl⟩)
    go_ret
    exact ⟨by rw [HV.out]; rfl, rfl⟩
  · by_cases h2 : y < x
    · have HV := Lib.hid (show cmpI x y = 1 by unfold cmpI; rw [if_neg h1, if_pos h2])
      go_enter Tryd.func74, Tryd.ntmps74
      go_wp2_with (go_at_call 78; refine (isNaN_any _ _).mono ?_; rintro e w' ⟨rfl, rfl⟩)
      go_ret
      exact ⟨by rw [HV.out]; rfl, rfl⟩
    · have HV := Lib.hid (show cmpI x y = 0 by unfold cmpI; rw [if_neg h1, if_neg h2])
      go_enter Tryd.func74, Tryd.ntmps74
      go_wp2_with (go_at_call 78; refine (isNaN_any _ _).mono ?_; rintro e w' ⟨rfl, rfl⟩)
      go_ret
      exact ⟨by rw [HV.out]; rfl, rfl⟩

def cmpLo (x y : Int × Int) : Int := cmpI x.1 y.1

theorem closureLo (x y : Int × Int) (W : World) : Calls Tryd.prog 73 #[.agg #[.int .i64 x.1, .int .i64 x.2], .agg #[.int .i64 y.1, .int .i64 y.2]] W fun e w' => e = .returned (.int .i64 (cmpLo x y)) ∧ ∃ q os', w' = grow (W.drewN q) os' := by
  go_enter Tryd.func73, Tryd.ntmps73
  go_wp2_with fail
  refine (compare_any _ _ _).mono ?_
  rintro e w' ⟨rfl, rfl⟩
  go_wp2_with fail
  go_ret
  exact ⟨rfl, 0, _, by rw [alloc_eq_grow, alloc_eq_grow, grow_grow]; rfl⟩

theorem swoLo : SWO (ltOf cmpLo) := by
  have key : ∀ x y : Int × Int, ltOf cmpLo x y = decide (x.1 < y.1) := by
    intro x y
    unfold ltOf cmpLo cmpI
    by_cases h1 : x.1 < y.1
    · simp [h1]
    · by_cases h2 : y.1 < x.1 <;> simp [h1, h2]
  exact ⟨fun x => by rw [key]; simp, fun x y z h1 h2 => by rw [key] at *; simp at *; omega, fun x y z h1 h2 => by rw [key] at *; simp at *; omega⟩
theorem ltLo (x y : Int × Int) : ltOf cmpLo x y = decide (x.1 < y.1) := by
  unfold ltOf cmpLo cmpI
  by_cases h1 : x.1 < y.1
  · simp [h1]
  · by_cases h2 : y.1 < x.1 <;> simp [h1, h2]

theorem keeps_sortWorld {α : Type} [Inhabited α] (enc : α → List Value) (k : Nat) (w : World) (blk off n : Nat) (d : Array α) (os : Array Obj) : Keeps (fun b => b = blk) w (sortWorldK enc k w blk off n d os) := by
  unfold sortWorldK grow putRowK putRow mapBlock
  refine ⟨rfl, rfl, rfl, ?_, fun j hj hs => ?_⟩
  · show w.heap.size ≤ ((w.heap.modify blk _) ++ os).size
    simp
  · show ((w.heap.modify blk _) ++ os)[j]? = _
    rw [Array.getElem?_append_left (by simpa using hj), Array.getElem?_modify, if_neg (fun e => hs e.symm)]

theorem sort_any (l : List (Int × Int)) (v : Value) (base : Nat) (w : World) (h : w.ownsRow base 36 2 v l.length (cellsOf 2 encR l)) (hl : l.length < 1000000) :
    Calls Tryd.prog 72 #[v, .func (.func 73) #[] #[]] w fun e w' => e = .returned (.tuple #[]) ∧
      ∃ l', l'.Perm l ∧ l'.Pairwise (fun a b => a.1 ≤ b.1) ∧ SlOf 2 encR w' v l' ∧ Keeps (fun b => v.ownBlock = some b) w w' := by
  rcases h.2 with ⟨rfl, h0⟩ | ⟨g, cap, cur, rfl, hg, hh, hn, hcap, _⟩
  · have hl0 : l = [] := List.length_eq_zero_iff.1 h0
    subst hl0
    have hc := AnyF.slices_SortFunc_none Tryd.sortR none 0 (.func (.func 73) #[] #[]) w
    change Calls Tryd.prog 72 _ _ _ at hc
    refine hc.mono ?_
    rintro e w' ⟨rfl, rfl⟩
    exact ⟨rfl, [], List.Perm.refl _, List.Pairwise.nil, SlOf.nil _ _ _, Keeps.refl _ _⟩
  · have eg : ∀ args w, (callFunc 73 args).run Tryd.prog w = .ok (.enter 73 args) w := enters_of Tryd.func73 (by kernel_rfl) rfl
    have hcell := h.cellAt
    have hfz := h.frozenAt
    have hH : HoldsK encRl 2 w g 0 l.toArray := by
      intro j hj
      rw [size_flatK] at hj
      have hj' : j < l.length * 2 := by simpa using hj
      refine ⟨?_, hfz _⟩
      rw [get_flatK _ _ _ _ hj, Nat.zero_add, hcell j hj']
      obtain ⟨x, hx⟩ : ∃ x, l[j / 2]? = some x := ⟨_, List.getElem?_eq_getElem (by omega)⟩
      have h1 := cellsOf_get 2 encR l (j / 2) x hx (j % 2) (by omega)
      rw [show j / 2 * 2 + j % 2 = j by omega] at h1
      rw [h1]
      have h2 : l.toArray[j / 2]! = x := by
        rw [getElem!_def]; simp [hx]
      rw [h2]
      have : j % 2 = 0 ∨ j % 2 = 1 := by omega
      rcases this with e | e <;> simp [e, encR, encRl]
    have hc := AnyQ.slices_SortFunc Tryd.sortR 2 Tryd.isAgg36 Tryd.sizeOf36 encRl (fun _ => rfl) (fun x v hv => by simp [encRl] at hv; rcases hv with rfl | rfl <;> rfl) cmpLo swoLo 73 #[] g 0 cap l.toArray w eg (fun _ _ _ _ x y => closureLo x y _) hH (Array.getElem?_eq_some_iff.1 hh).1 (by simp; omega)
    change Calls Tryd.prog 72 _ _ _ at hc
    simp only [List.size_toArray] at hc
    refine hc.mono ?_
    rintro e w' ⟨rfl, d', n, os, hp, hs, rfl⟩
    have hsz : d'.size = l.length := by simpa using hp.1
    have hHs : HoldsK encRl 2 (sortWorldK encRl 2 w g 0 n d' os) g 0 d' := holdsK_sortWorldK encRl 2 w g 0 n l.toArray d' os (Array.getElem?_eq_some_iff.1 hh).1 hH (by simpa using hp.1)
    refine ⟨rfl, d'.toList, ?_, ?_, ⟨some ⟨g, 0, none⟩, cap, by simp [hsz], by simp; omega, by simp; omega, fun _ => ⟨g, 0, rfl, fun i x hx j hj => ?_⟩⟩, (keeps_sortWorld encRl 2 w g 0 n d' os).mono (fun b _ hb => by subst hb; rfl)⟩
    · have h3 := hp.2.2
      rw [show d'.extract 0 l.length = d' by rw [← hsz]; simp] at h3
      rw [show l.toArray.extract 0 l.length = l.toArray by rw [show l.length = l.toArray.size by simp]; simp] at h3
      simpa using h3
    · rw [List.pairwise_iff_getElem]
      intro i j hi hj hij
      have h4 := hs i j (Nat.zero_le _) hij (by simpa [hsz] using hj)
      rw [ltLo] at h4
      rw [getElem!_pos d' i (by simpa using hi), getElem!_pos d' j (by simpa using hj)] at h4
      simp at h4
      simpa using h4
    · have hi : i < d'.size := by
        rcases Nat.lt_or_ge i d'.size with h5 | h5
        · exact h5
        · rw [List.getElem?_eq_none (by simpa using h5)] at hx; cases hx
      have h6 := (hHs.cell hi hj).1
      rw [h6]
      have h7 : d'[i]! = x := by
        rw [getElem!_pos d' i hi]
        rw [Array.getElem?_toList, Array.getElem?_eq_getElem hi] at hx
        exact Option.some.inj hx
      rw [h7]
      have : j = 0 ∨ j = 1 := by omega
      rcases this with rfl | rfl <;> rfl
end Go.Proofs.YtinogeobkljngaaDoor
