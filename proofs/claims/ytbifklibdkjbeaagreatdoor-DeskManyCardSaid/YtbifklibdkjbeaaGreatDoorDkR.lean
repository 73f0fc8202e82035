/-
  The walk of desk.Runs: as many handles as there are runs. No condition but slices.Sort's own contract.
-/
import Derived.Test.YtbifklibdkjbeaaGreatDoorDkL
import Derived.Maps.RangeWalk
import Derived.Sort.OwnSortedInts
namespace Go.Proofs.YtbifklibdkjbeaaGreatDoor
open Go.RowKit Go.WideMaps Go.Maps Go.Sort
set_option linter.unusedVariables false
set_option linter.unusedSimpArgs false
set_option maxRecDepth 100000

def SortIs : Prop := ∀ (blk cap : Nat) (zs : List Int) (w : World), Holds (Value.int .i64) w blk 0 zs.toArray → blk < w.heap.size → zs.length < 4611686018427387904 →
  Calls Tryz.prog 48 #[.slice (some ⟨blk, 0, none⟩) zs.length cap] w fun e w' => e = .returned (.tuple #[]) ∧ ∃ n os, w' = grow (putRow (Value.int .i64) (Sort.ahead w n) blk 0 (zs.mergeSort fun x y => decide (x ≤ y)).toArray) os
theorem info_intD : (Tryz.prog.info? 3).map (fun i => (i.zero, i.size, i.bytes)) = some (some (.int .i64 0), 1, 8) := by kernel_rfl
theorem wpList_one_iD {w : World} {ops : Array Oper} {rest : List Oper} {o : Oper} {a : Act} {Q : Exit → Act → World → Prop} (hgd : o.guard = none) (s x : Operand)
    (ho : o.op = .call { callee := .builtin .append, args := #[s, x], argTypes := #[23, 23] })
    (base : Nat) (v : Value) (xs : List Value) (i : Nat) (V : Int) (hs : a.eval s = v) (hown : w.ownsRow base 3 1 v i xs)
    (hx : a.eval x = .slice (some ⟨w.heap.size, 0, none⟩) 1 1) (hl : i ≤ 100000) (hb : base ≤ w.heap.size)
    (h : ∀ v' w', w'.ownsRow base 3 1 v' (i + 1) (xs ++ [.int .i64 V]) → (w.alloc (.cells #[.int .i64 V] 3)).grownBy w' v.ownBlock → wpList Tryz.prog ops Q rest (a.put o.dst v') w') :
    wpList Tryz.prog ops Q (o :: rest) a (w.alloc (.cells #[.int .i64 V] 3)) := by
  obtain ⟨i0, hi, hz0, hz1, hz2⟩ := info_parts info_intD
  exact wpList_append_own _ hgd s x 23 ho base 3 i0 _ 1 8 Tryz.underlying23 hi hz0 hz1 hz2 rfl (by decide) v i xs hs (ownsRow_alloc hown _) ⟨w.heap.size, 0, none⟩ 1 1 [.int .i64 V] hx rfl (cells_new w [Value.int .i64 V] _) (by intro u hu; simp at hu; subst hu; rfl) (by unfold maxLen; omega) (by omega) (by simp; omega) (fun v' w' h1 h2 _ => h v' w' h1 h2)
/-- The handles met so far. -/
def CollD (ks : List Int) (left : Lit → Bool) (zs : List Int) : Prop := zs.Nodup ∧ ∀ x, x ∈ zs ↔ (x ∈ ks ∧ left (hK x) = false)
theorem coll_start {D : DataW Value} {ks : List Int} (hH : ∀ h, has D (hK h) = decide (h ∈ ks)) : CollD ks (has D) [] := ⟨List.nodup_nil, fun x => by simp [hH]⟩
theorem coll_step {ks zs : List Int} {left : Lit → Bool} {x : Int} (h : CollD ks left zs) (hl : left (hK x) = true) (hx : x ∈ ks) : CollD ks (fun z => left z && !z.sameKey (hK x)) (zs ++ [x]) := by
  have hnew : x ∉ zs := fun e => by have := ((h.2 x).1 e).2; rw [hl] at this; cases this
  refine ⟨List.nodup_append.2 ⟨h.1, by simp, fun a ha b hb => by simp at hb; subst hb; exact fun e => hnew (e ▸ ha)⟩, fun y => ?_⟩
  by_cases hy : y = x
  · subst hy; simp [hx, hK, Lit.sameKey]
  · have : Lit.sameKey (hK y) (hK x) = false := sameKey_ne (hK_ne hy)
    simp [h.2 y, hy, this]
theorem coll_end {ks zs : List Int} {left : Lit → Bool} (h : CollD ks left zs) (hn : ks.Nodup) (hl : ∀ kl, left kl = false) : zs.length = ks.length := by
  refine List.Perm.length_eq ((List.perm_ext_iff_of_nodup h.1 hn).2 fun x => ?_)
  rw [h.2 x, hl]; simp
theorem invK27 (key : Value) (kl : Lit) (h : keyOf Tryz.prog 3 key = some kl) : ∃ x, key = Value.int .i64 x := by
  obtain ⟨x, e, _⟩ := Maps.keyOf_int_inv Tryz.underlying3 h
  exact ⟨x, e⟩
theorem ownsRow_keepsR {w w' : World} {base : Nat} {e : TypeId} {size : Nat} {v : Value} {n : Nat} {xs : List Value} {row : Option Nat} (h : w.ownsRow base e size v n xs) (hg : w.grownBy w' row) (hs : ∀ b, v.ownBlock = some b → row ≠ some b) : w'.ownsRow base e size v n xs := by
  refine ⟨h.1, ?_⟩
  rcases h.2 with h2 | ⟨g, cap, cur, rfl, hb, hh, rest⟩
  · exact Or.inl h2
  · exact Or.inr ⟨g, cap, cur, rfl, hb, (hg.block g (Array.getElem?_eq_some_iff.1 hh).1 (fun e => hs g rfl e.symm)).trans hh, rest⟩
set_option maxHeartbeats 8000000 in
theorem desk_runs (hS : SortIs) (db mb N : Nat) (ks : List Int) (m : Int → Value) (w : World) (hd : DkS w db mb ks m N) (hn : ks.Nodup) (h0 : 0 < ks.length) (h1 : ks.length ≤ 1000) :
    Calls Tryz.prog 26 #[.pointer (some ⟨db, 0, none⟩)] w fun e w' => (∃ a c, e = .returned (.slice a ks.length c)) ∧ Keeps (fun _ => False) w w' := by
  obtain ⟨D, hown, hT, hSz, hH, hat⟩ := hd.mp
  have c0 := hd.dk.c 0 rfl
  have HO := Lib.hid hown
  have Hlm := Lib.hid hown.lt
  have HS := Lib.hid hS
  have HC0 := Lib.hid (coll_start hH)
  have HHas := Lib.hid hH
  have Hn := Lib.hid hn
  have HSz := Lib.hid hSz
  have HL := Lib.hid (And.intro h0 h1)
  clear hd hown hT hSz hH hat hn hS h0 h1
  go_enter Tryz.func26, Tryz.ntmps26
  go_wp2_with (first | (at_range; refine wpList_range_own _ rfl _ 100 rfl 3 104 key27 Tryz.underlying100 RV mb N D rfl HO.out ?_; intro w0 hrg0 hg0 hs0) | go_in)
  go_frame
  have HR0 := Lib.hid hrg0
  have HK0 : Hid (Keeps (fun _ => False) w w0) := Lib.hid ((Keeps.refl _ _).grown hg0 (fun k hk => by cases hk))
  have HS0 := Lib.hid hs0
  clear hrg0 hg0 hs0
  go_loopw [3] (fun ov wr => ∃ left cnt zs, wr.ranges Tryz.prog 3 RV mb w.heap.size N D left cnt ∧ wr.ownsRow (w.heap.size + 1) 3 1 ov zs.length (zs.map (Value.int .i64)) ∧ CollD ks left zs ∧ Keeps (fun _ => False) w wr ∧ w.heap.size + 1 ≤ wr.heap.size ∧ zs.length + cnt ≤ ks.length) (fun _ wr => wr.rangeLeft mb w.heap.size)
  case atStart => exact ⟨_, _, [], HR0.out, World.ownsRow_nil _ _ _ _, HC0.out, HK0.out, by have := HS0.out; omega, by have := HSz.out; simp; omega⟩
  case round =>
    obtain ⟨left, cnt, zs, hrg, hown, hC, hk, hsz, hcn⟩ := hrel
    have HR := Lib.hid hrg
    have HOw := Lib.hid hown
    have HC := Lib.hid hC
    have HK := Lib.hid hk
    have HSZ := Lib.hid hsz
    have HCN := Lib.hid hcn
    clear hrg hown hC hk hsz hcn
    go_wp2_with (first | (at_next; refine wpList_next_ranges _ rfl _ rfl 3 key27 RV (Value.int .i64) (id : Value → Value) invK27 (fun v y _ => ⟨v, rfl⟩) mb w.heap.size N D left cnt rfl HR.out ?done ?more) | go_in)
    case done =>
      intro hc0 hl0
      have hz := coll_end HC.out Hn.out hl0
      obtain ⟨g, cap, cur, hv, hg, hh, hzc, hcap, hcs, htk⟩ : ∃ g cap cur, u3 = .slice (some ⟨g, 0, none⟩) zs.length cap ∧ w.heap.size + 1 ≤ g ∧ wr.heap[g]? = some (.cells cur 3 (0, 0)) ∧ zs.length ≤ cap ∧ cap ≤ maxLen ∧ cur.size = cap * 1 ∧ cur.toList.take (zs.length * 1) = zs.map (Value.int .i64) := by
        rcases HOw.out.2 with ⟨_, e⟩ | ⟨g, cap, cur, r1, r2, r3, r4, r5, r6, r7⟩
        · have := HL.out; omega
        · exact ⟨g, cap, cur, r1, r2, r3, r4, r5, r6, r7⟩
      subst hv
      have HSo := Lib.hid (HS.out g cap zs wr (holds_of_blockI hh (by simpa using htk)) (Array.getElem?_eq_some_iff.1 hh).1 (by have := HL.out; omega))
      have HG := Lib.hid hg
      have Hz := Lib.hid hz
      clear hh hg hzc hcap hcs htk hz hc0 hl0
      go_wp2_with fail
      refine HSo.out.mono ?_
      rintro e w4 ⟨rfl, n, os, rfl⟩
      go_wp2_with fail
      go_ret
      refine ⟨⟨some ⟨g, 0, none⟩, cap, by rw [← Hz.out]; rfl⟩, HK.out.grown (grownBy_sortedI _) (fun k hk => ?_)⟩
      have := HG.out
      cases hk
      exact Or.inr (by omega)
    case more =>
      intro x c kl y ps w1 cnt1 hkx hlk hRv hat hrg1 hlt hg1 hs1 hen
      have hkl : kl = hK x := by
        obtain ⟨x', e1, e2, _⟩ := Maps.keyOf_int_inv Tryz.underlying3 hkx
        cases e1; exact e2
      subst hkl
      have hxk : x ∈ ks := by
        have h2 : has D (hK x) = true := has_true_of_atKey hat
        rw [HHas.out x] at h2
        simpa using h2
      have HC1 := Lib.hid (coll_step HC.out hlk hxk)
      have hown1 := ownsRow_keepsR HOw.out hg1 (fun b hb e => by have h2 := ownBlock_base HOw.out b hb; have : w.heap.size = b := Option.some.inj e; omega)
      have HOw1 := Lib.hid hown1
      have HR1 := Lib.hid hrg1
      have HK1 := Lib.hid (HK.out.grown hg1 (fun k hk => by cases hk; exact Or.inr (Nat.le_refl _)))
      have HZ1 : Hid (zs.length ≤ 100000) := Lib.hid (by
        have := HCN.out
        have := HL.out; omega)
      have hs1' : w.heap.size + 1 ≤ w1.heap.size := by have := HSZ.out; omega
      have HS1 := Lib.hid hs1'
      have HLT := Lib.hid hlt
      clear hkx hlk hRv hat hrg1 hlt hg1 hs1 hxk hown1 hs1'
      go_wp2_with (first | (at_builtin; refine wpList_one_iD rfl _ _ rfl (w.heap.size + 1) u3 (zs.map (Value.int .i64)) zs.length x rfl HOw1.out rfl HZ1.out HS1.out ?_) | go_in)
      intro v' w5 h1 hg5
      have hb5 : ∀ k, u3.ownBlock = some k → w.heap.size + 1 ≤ k := ownBlock_base HOw1.out
      have HR5 := Lib.hid ((HR1.out.alloc (.cells #[.int .i64 x] 3)).kept hg5 (fun e => by have := hb5 _ e.symm; have := Hlm.out; omega) (fun e => by have := hb5 _ e.symm; omega))
      have HK5 := Lib.hid ((HK1.out.alloc (.cells #[.int .i64 x] 3)).grown hg5 (fun k hk => Or.inr (by have := hb5 k hk; omega)))
      have HO5 : Hid (w5.ownsRow (w.heap.size + 1) 3 1 v' (zs ++ [x]).length ((zs ++ [x]).map (Value.int .i64))) := Lib.hid (by simpa using h1)
      have hs5 := hg5.size
      have HS5 : Hid (w.heap.size + 1 ≤ w5.heap.size) := Lib.hid (by have := HS1.out; simp at hs5; omega)
      clear h1 hg5 hb5 hs5
      go_wp2_with fail
      go_roundw
      case rel => exact ⟨_, _, zs ++ [x], HR5.out, HO5.out, HC1.out, HK5.out, HS5.out, by have := HCN.out; have := HLT.out; simp; omega⟩
      case measure => rw [HR5.out.left_eq, HR.out.left_eq]; exact HLT.out
end Go.Proofs.YtbifklibdkjbeaaGreatDoor
