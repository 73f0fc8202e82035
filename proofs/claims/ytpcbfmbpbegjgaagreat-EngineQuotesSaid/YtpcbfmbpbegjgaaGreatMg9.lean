/-
  Several texts in one: (*maker).split, jump. (*maker).jump. The parser's char, join. How many nodes a tree has: the program's Size, the document's Size. Are two trees the same: the program's Same (and slices.EqualFunc). (*maker).node, rep: chars, cats, and a char once or more often. (*maker).rep, node at a char once or more often, with an empty maker.
-/
import Derived.Test.YtpcbfmbpbegjgaaGreatEqMpG
import Derived.RegionTactic
import Derived.Test.YtpcbfmbpbegjgaaGreatMg2
import Derived.BigRegion
import Derived.Handy
import Derived.Deep.QuietTactic
import Derived.BigQuiet
import Derived.Test.YtpcbfmbpbegjgaaGreatMg4
section
namespace Go.Proofs.YtpcbfmbpbegjgaaGreat
open Go.RowKit
set_option linter.unusedVariables false
set_option linter.unusedSimpArgs false
set_option maxRecDepth 100000

theorem MkAt.keepsF {base mb : Nat} {w w' : World} {is : List Ins} (h : MkAt base w mb is) (K : Keeps (fun _ => False) w w') (hmb : mb < w.heap.size) : MkAt base w' mb is := by
  obtain ⟨v, ivs, h1, h2, h3, h4⟩ := h
  have := K.size
  exact ⟨v, ivs, by rw [K.block mb hmb id]; exact h1, ownsRow_keeps h2 K (fun _ _ => id), h3, fun k iv i a b => (h4 k iv i a b).keepsTo K (fun _ _ => id) (fun b hb => ⟨hb.1, by omega, hb.2.2⟩)⟩
theorem msplit_any (base mb : Nat) (is : List Ins) (w : World) (h : MkAt base w mb is) (hmb : mb < base) (hb : base ≤ w.heap.size) (hn : is.length ≤ 1000) :
    Calls Tryz.prog 88 #[.pointer (some ⟨mb, 0, none⟩)] w fun e w' => e = .returned (.int .i64 is.length) ∧ MkAt base w' mb (is ++ [⟨2, [], is.length + 1, 0⟩]) ∧ Keeps (fun b => b = mb ∨ base ≤ b) w w' := by
  have HP := Lib.hid (mput_any base mb 2 [] (.slice none 0 0) is w h (rsl_nil w) (Or.inl rfl) (by simp) hmb hb hn)
  clear h
  go_enter Tryz.func88, Tryz.ntmps88
  go_wp2_with fail
  refine HP.out.mono ?_
  rintro e w2 ⟨rfl, h2, k2⟩
  have H2 := Lib.hid h2
  have K2 := Lib.hid k2
  clear h2 k2
  go_wp2_with fail
  go_ret
  exact ⟨rfl, H2.out, K2.out⟩
theorem cellsOf_set {α : Type} (k : Nat) (enc : α → Nat → Value) (l : List α) (i j : Nat) (x x' : α) (u : Value) (hx : l[i]? = some x) (hj : j < k) (he : ∀ j', j' < k → enc x' j' = if j' = j then u else enc x j') :
    (cellsOf k enc l).set (i * k + j) u = cellsOf k enc (l.set i x') := by
  apply List.ext_getElem?
  intro m
  have hil := (List.getElem?_eq_some_iff.1 hx).1
  by_cases hm : m < l.length * k
  · have hk0 : 0 < k := by omega
    have hmk : m / k < l.length := Nat.div_lt_of_lt_mul (by rw [Nat.mul_comm]; exact hm)
    have hmm := Nat.mod_lt m hk0
    have hdm : m / k * k + m % k = m := by rw [Nat.mul_comm]; exact Nat.div_add_mod m k
    obtain ⟨y, hy⟩ : ∃ y, l[m / k]? = some y := ⟨_, List.getElem?_eq_getElem hmk⟩
    have h1 := cellsOf_get k enc l (m / k) y hy (m % k) hmm
    rw [hdm] at h1
    by_cases hmi : m / k = i
    · have h2 := cellsOf_get k enc (l.set i x') (m / k) x' (by rw [hmi]; simp [hil]) (m % k) hmm
      rw [hdm] at h2
      rw [h2, he _ hmm, List.getElem?_set]
      have hxy : y = x := by rw [hmi, hx] at hy; exact (Option.some.inj hy).symm
      by_cases hjj : m % k = j
      · rw [if_pos hjj, if_pos (by rw [← hmi, ← hjj]; omega), if_pos (by rw [cellsOf_length]; rw [← hmi, ← hjj, hdm]; exact hm)]
      · rw [if_neg hjj, if_neg (by rw [← hmi]; omega), h1, hxy]
    · have h2 := cellsOf_get k enc (l.set i x') (m / k) y (by rw [List.getElem?_set, if_neg (fun e => hmi e.symm)]; exact hy) (m % k) hmm
      rw [hdm] at h2
      rw [h2, List.getElem?_set, if_neg, h1]
      intro e
      apply hmi
      rw [← e, Nat.mul_comm, Nat.mul_add_div hk0, Nat.div_eq_of_lt hj, Nat.add_zero]
  · rw [List.getElem?_eq_none (by rw [List.length_set, cellsOf_length]; omega), List.getElem?_eq_none (by rw [cellsOf_length, List.length_set]; omega)]
/-- The maker, opened. -/
structure MkO (base : Nat) (w : World) (mb : Nat) (is : List Ins) (g n cap : Nat) (ivs : List IV) : Prop where
  bk : w.heap[mb]? = some (.cells #[.slice (some ⟨g, 0, none⟩) n cap] 101 (0, 0))
  own : w.ownsRow base 104 4 (.slice (some ⟨g, 0, none⟩) n cap) n (cellsOf 4 encP ivs)
  nn : is.length = n
  len : ivs.length = n
  ins : ∀ (k : Nat) (iv : IV) (i : Ins), ivs[k]? = some iv → is[k]? = some i → InAt w (fun b => base ≤ b ∧ b < w.heap.size ∧ g ≠ b) iv i
theorem MkAt.mko {base mb : Nat} {w : World} {is : List Ins} (h : MkAt base w mb is) (h0 : 0 < is.length) : ∃ g cap ivs, MkO base w mb is g is.length cap ivs := by
  obtain ⟨v, ivs, h1, h2, h3, h4⟩ := h
  obtain ⟨g, cap, rfl, hg1, hg2⟩ := h2.form h0
  exact ⟨g, cap, ivs, h1, h2, rfl, h3, fun k iv i a b => (h4 k iv i a b).keepsTo (Keeps.refl (fun _ => False) _) (fun _ _ => id) (fun b hb => ⟨hb.1, hb.2.1, fun e => hb.2.2 (by rw [e]; rfl)⟩)⟩
theorem MkO.at {base mb g n cap : Nat} {w : World} {is : List Ins} {ivs : List IV} (h : MkO base w mb is g n cap ivs) : MkAt base w mb is :=
  ⟨_, ivs, h.bk, by rw [h.nn]; exact h.own, by rw [h.len, h.nn], fun k iv i a b => (h.ins k iv i a b).keepsTo (Keeps.refl (fun _ => False) _) (fun _ _ => id) (fun b hb => ⟨hb.1, hb.2.1, fun e => hb.2.2 (Option.some.inj e)⟩)⟩
/-- One of an instruction's numbers is stored. -/
theorem MkO.store {base mb g n cap : Nat} {w : World} {is : List Ins} {ivs : List IV} (h : MkO base w mb is g n cap ivs) (hmb : mb < base) {k j : Nat} {iv iv' : IV} {i i' : Ins} (h1 : ivs[k]? = some iv) (h2 : is[k]? = some i) (hj : j < 4) (u : Value)
    (he : ∀ j', j' < 4 → encP iv' j' = if j' = j then u else encP iv j') (ho : iv'.op = iv.op ∧ iv'.sv = iv.sv ∧ i'.op = i.op ∧ i'.set = i.set) (hx : iv'.x = (i'.x : Int)) (hy : iv'.y = (i'.y : Int)) :
    MkO base (w.setCell ⟨g, k * 4 + j, none⟩ u) mb (is.set k i') g n cap (ivs.set k iv') := by
  have hgb := ownBlock_base h.own g rfl
  obtain ⟨s1, s2⟩ := World.ownsRow.stored h.own (k * 4 + j) u
  have kS : Keeps (fun b => b = g) w (w.setCell ⟨g, k * 4 + j, none⟩ u) := (Keeps.refl (fun b => b = g) w).set (p := ⟨g, k * 4 + j, none⟩) rfl _
  have hlt := own_lt h.own g rfl
  have hsS := kS.size
  have hmw : mb < w.heap.size := by omega
  refine ⟨by rw [kS.block mb hmw (by omega)]; exact h.bk, by rw [← cellsOf_set 4 encP ivs k j iv iv' u h1 hj he]; exact s1, by rw [List.length_set, h.nn], by rw [List.length_set, h.len], fun m jv ii a b => ?_⟩
  have hki := (List.getElem?_eq_some_iff.1 h1).1
  have hki2 := (List.getElem?_eq_some_iff.1 h2).1
  by_cases hm : m = k
  · subst hm
    obtain rfl : iv' = jv := by simpa [hki] using a
    obtain rfl : i' = ii := by simpa [hki2] using b
    have h3 := (h.ins m iv i h1 h2).keepsTo (Q := fun b => base ≤ b ∧ b < (w.setCell ⟨g, m * 4 + j, none⟩ u).heap.size ∧ g ≠ b) kS (fun b hb e => hb.2.2 e.symm) (fun b hb => ⟨hb.1, by omega, hb.2.2⟩)
    exact ⟨by rw [ho.1, ho.2.2.1]; exact h3.op, hx, hy, by rw [ho.2.1, ho.2.2.2]; exact h3.set, by rw [ho.2.1]; exact h3.sb⟩
  · rw [List.getElem?_set, if_neg (fun e => hm e.symm)] at a b
    exact (h.ins m jv ii a b).keepsTo kS (fun b hb e => hb.2.2 e.symm) (fun b hb => ⟨hb.1, by omega, hb.2.2⟩)
end Go.Proofs.YtpcbfmbpbegjgaaGreat
end
section
namespace Go.Proofs.YtpcbfmbpbegjgaaGreat
open Go.RowKit
set_option linter.unusedVariables false
set_option linter.unusedSimpArgs false
set_option maxRecDepth 100000

theorem MkO.cell {base mb g n cap : Nat} {w : World} {is : List Ins} {ivs : List IV} (h : MkO base w mb is g n cap ivs) {k : Nat} {iv : IV} (hk : ivs[k]? = some iv) {j : Nat} (hj : j < 4) : w.cell? ⟨g, k * 4 + j, none⟩ = some (encP iv j) := by
  have hkl := (List.getElem?_eq_some_iff.1 hk).1
  have hl := h.len
  rw [h.own.cellAt (k * 4 + j) (by omega), cellsOf_get 4 encP ivs k iv hk j hj]
theorem MkO.last {base mb g n cap : Nat} {w : World} {is : List Ins} {ivs : List IV} (h : MkO base w mb is g n cap ivs) {k : Nat} (hk : k < n) : ∃ iv, ivs[k]? = some iv :=
  ⟨_, List.getElem?_eq_getElem (by rw [h.len]; exact hk)⟩
/-- Where it goes on is set: both. -/
theorem MkO.setXY {base mb g n cap : Nat} {w : World} {is : List Ins} {ivs : List IV} (h : MkO base w mb is g n cap ivs) (hmb : mb < base) {k : Nat} {iv : IV} {i : Ins} (h1 : ivs[k]? = some iv) (h2 : is[k]? = some i) (x y : Nat) :
    (∃ ivs', MkO base ((w.setCell ⟨g, k * 4 + 2, none⟩ (.int .i64 x)).setCell ⟨g, k * 4 + 3, none⟩ (.int .i64 y)) mb (is.set k ⟨i.op, i.set, x, y⟩) g n cap ivs') ∧
    (∃ ivs', MkO base ((w.setCell ⟨g, k * 4 + 3, none⟩ (.int .i64 y)).setCell ⟨g, k * 4 + 2, none⟩ (.int .i64 x)) mb (is.set k ⟨i.op, i.set, x, y⟩) g n cap ivs') ∧
    (∃ ivs', MkO base (w.setCell ⟨g, k * 4 + 3, none⟩ (.int .i64 y)) mb (is.set k ⟨i.op, i.set, i.x, y⟩) g n cap ivs') := by
  have h3 := h.ins k iv i h1 h2
  have hki := (List.getElem?_eq_some_iff.1 h1).1
  have hki2 := (List.getElem?_eq_some_iff.1 h2).1
  have enc2 : ∀ (v : IV) (z : Int), ∀ j', j' < 4 → encP ⟨v.op, v.sv, z, v.y⟩ j' = if j' = 2 then .int .i64 z else encP v j' := fun v z j' hj => by
    rcases j' with _ | _ | _ | _ | j'
    · rfl
    · rfl
    · rfl
    · rfl
    · omega
  have enc3 : ∀ (v : IV) (z : Int), ∀ j', j' < 4 → encP ⟨v.op, v.sv, v.x, z⟩ j' = if j' = 3 then .int .i64 z else encP v j' := fun v z j' hj => by
    rcases j' with _ | _ | _ | _ | j'
    · rfl
    · rfl
    · rfl
    · rfl
    · omega
  refine ⟨?_, ?_, ?_⟩
  · have a := h.store hmb h1 h2 (j := 2) (by omega) (.int .i64 x) (iv' := ⟨iv.op, iv.sv, x, iv.y⟩) (i' := ⟨i.op, i.set, x, i.y⟩) (enc2 iv x) ⟨rfl, rfl, rfl, rfl⟩ rfl h3.y
    have b := a.store hmb (k := k) (j := 3) (iv := ⟨iv.op, iv.sv, x, iv.y⟩) (i := ⟨i.op, i.set, x, i.y⟩) (by simp [hki]) (by simp [hki2]) (by omega) (.int .i64 y) (iv' := ⟨iv.op, iv.sv, x, y⟩) (i' := ⟨i.op, i.set, x, y⟩) (enc3 ⟨iv.op, iv.sv, x, iv.y⟩ y) ⟨rfl, rfl, rfl, rfl⟩ rfl rfl
    exact ⟨_, by simpa using b⟩
  · have a := h.store hmb h1 h2 (j := 3) (by omega) (.int .i64 y) (iv' := ⟨iv.op, iv.sv, iv.x, y⟩) (i' := ⟨i.op, i.set, i.x, y⟩) (enc3 iv y) ⟨rfl, rfl, rfl, rfl⟩ h3.x rfl
    have b := a.store hmb (k := k) (j := 2) (iv := ⟨iv.op, iv.sv, iv.x, y⟩) (i := ⟨i.op, i.set, i.x, y⟩) (by simp [hki]) (by simp [hki2]) (by omega) (.int .i64 x) (iv' := ⟨iv.op, iv.sv, x, y⟩) (i' := ⟨i.op, i.set, x, y⟩) (enc2 ⟨iv.op, iv.sv, iv.x, y⟩ x) ⟨rfl, rfl, rfl, rfl⟩ rfl rfl
    exact ⟨_, by simpa using b⟩
  · exact ⟨_, h.store hmb h1 h2 (j := 3) (by omega) (.int .i64 y) (iv' := ⟨iv.op, iv.sv, iv.x, y⟩) (i' := ⟨i.op, i.set, i.x, y⟩) (enc3 iv y) ⟨rfl, rfl, rfl, rfl⟩ h3.x rfl⟩
set_option maxHeartbeats 4000000 in
theorem mjump_any (base mb tg : Nat) (is : List Ins) (w : World) (h : MkAt base w mb is) (hmb : mb < base) (hb : base ≤ w.heap.size) (hn : is.length ≤ 1000) (ht : tg ≤ 1000) :
    Calls Tryz.prog 89 #[.pointer (some ⟨mb, 0, none⟩), .int .i64 tg] w fun e w' => e = .returned (.int .i64 is.length) ∧ MkAt base w' mb (is ++ [⟨2, [], tg, tg⟩]) ∧ Keeps (fun b => b = mb ∨ base ≤ b) w w' := by
  have HP := Lib.hid (msplit_any base mb is w h hmb hb hn)
  clear h
  go_enter Tryz.func89, Tryz.ntmps89
  go_wp2_with fail
  refine HP.out.mono ?_
  rintro e w2 ⟨rfl, h2, k2⟩
  obtain ⟨g, cap, ivs, hO⟩ := h2.mko (by simp)
  have hL : (is ++ [(⟨2, [], is.length + 1, 0⟩ : Ins)]).length = is.length + 1 := by simp
  rw [hL] at hO
  obtain ⟨iv, hiv⟩ := hO.last (k := is.length) (by omega)
  have c0 : w2.cell? ⟨mb, 0, none⟩ = some (.slice (some ⟨g, 0, none⟩) (is.length + 1) cap) := by rw [Lib.cell_of_heap hO.bk]; rfl
  have y2 := hO.cell hiv (j := 2) (by omega)
  have y3 := hO.cell hiv (j := 3) (by omega)
  have f2 := hO.own.frozenAt (is.length * 4 + 2)
  have f3 := hO.own.frozenAt (is.length * 4 + 3)
  have hgb := ownBlock_base hO.own g rfl
  have hgm : g ≠ mb := by omega
  have hmg : mb ≠ g := by omega
  have hlast : (is ++ [(⟨2, [], is.length + 1, 0⟩ : Ins)]).set is.length ⟨2, [], tg, tg⟩ = is ++ [⟨2, [], tg, tg⟩] := by simp
  have hXY := hO.setXY hmb hiv (i := ⟨2, [], is.length + 1, 0⟩) (by simp) tg tg
  simp only [hlast] at hXY
  have HXY := Lib.hid hXY
  have K2 := Lib.hid k2
  have e2 : encP iv 2 = .int .i64 iv.x := rfl
  have e3 : encP iv 3 = .int .i64 iv.y := rfl
  rw [e2] at y2
  rw [e3] at y3
  clear hXY k2 hO h2 hL hlast hiv e2 e3
  go_wp2_with fail
  go_region
  go_wp2_with fail
  go_ret
  obtain ⟨_, hM⟩ := HXY.out.1
  exact ⟨rfl, hM.at.keepsF (Keeps.refl (fun _ => False) _).drew (by have := K2.out.size; simp; omega), ((K2.out.set (p := ⟨g, is.length * 4 + 2, none⟩) (Or.inr hgb) _).set (p := ⟨g, is.length * 4 + 3, none⟩) (Or.inr hgb) _).drew⟩
end Go.Proofs.YtpcbfmbpbegjgaaGreat
end
section
namespace Go.Proofs.YtpcbfmbpbegjgaaGreat
open Go.RowKit
set_option linter.unusedVariables false
set_option linter.unusedSimpArgs false
set_option maxRecDepth 100000

theorem zero64 : in64 0 := by unfold in64; decide
theorem info_node : (Tryz.prog.info? 27).map (fun i => (i.zero, i.size, i.bytes)) = some (some (.agg #[.int .i64 0, .slice none 0 0, .int .i64 0, .int .i64 0, .slice none 0 0]), 5, 72) := by kernel_rfl
theorem char_any (a : Option Addr) (n cap : Nat) (w : World) : Calls Tryz.prog 113 #[.slice a n cap] w fun e w' => e = .returned (NV.val ⟨1, .slice a n cap, 0, 0, .slice none 0 0⟩) ∧ Keeps (fun _ => False) w w' := by
  go_enter Tryz.func113, Tryz.ntmps113
  go_wp2_with fail
  go_returns
  exact ⟨rfl, by (repeat' (with_reducible first | exact Keeps.refl _ _ | assumption | refine Keeps.drawN ?_ _ | refine Keeps.drew ?_ | refine Keeps.setCell ?_ ?_ _ | refine Keeps.alloc ?_ _)) <;> (first | exact Or.inr (Nat.le_refl _) | exact Or.inl rfl | exact Or.inl (Or.inl rfl) | exact Or.inl (Or.inr rfl) | (right; simp; done) | (right; simp; omega))⟩
def zeroT : T := ⟨0, [], 0, 0, .nil⟩
def charT (s : List (Int × Int)) : T := ⟨1, s, 0, 0, .nil⟩
def joinT (op : Int) (l : List T) : T :=
  match l with
  | [] => zeroT
  | [t] => t
  | l => ⟨op, [], 0, 0, F.ofL l⟩
theorem TAt.zero (w : World) (P : Nat → Prop) : TAt w P ⟨0, .slice none 0 0, 0, 0, .slice none 0 0⟩ zeroT :=
  ⟨rfl, rfl, rfl, by unfold in64; decide, by unfold in64; decide, ⟨SlOf.nil _ _ _, fun p hp => by cases hp⟩, fun b hb => by simp [Value.ownBlock] at hb, ⟨[], SlOf.nil _ _ _, rfl⟩, fun b hb => by simp [Value.ownBlock] at hb⟩
theorem RSl.form {w : World} {v : Value} {l : List (Int × Int)} (h : RSl w v l) : ∃ a cap, v = .slice a l.length cap := by
  obtain ⟨⟨a, cap, rfl, _⟩, _⟩ := h; exact ⟨a, cap, rfl⟩
theorem SlOf.form {α : Type} {k : Nat} {enc : α → Nat → Value} {w : World} {v : Value} {l : List α} (h : SlOf k enc w v l) : ∃ a cap, v = .slice a l.length cap := by
  obtain ⟨a, cap, rfl, _⟩ := h; exact ⟨a, cap, rfl⟩
set_option maxHeartbeats 1000000 in
theorem join_any (op : Int) (kv : Value) (vs : List NV) (l : List T) (P : Nat → Prop) (w : World) (hk : SlOf 5 encN w kv vs) (hf : FAt w P (F.ofL l) vs) (hb : ∀ b, kv.ownBlock = some b → P b) :
    Calls Tryz.prog 70 #[.int .i64 op, kv] w fun e w' => ∃ v : NV, e = .returned v.val ∧ TAt w' P v (joinT op l) ∧ Keeps (fun _ => False) w w' := by
  have hlen := hf.len
  obtain ⟨a, cap, rfl⟩ := hk.form
  rcases l with _ | ⟨t, _ | ⟨t2, l⟩⟩
  · obtain rfl : vs = [] := List.length_eq_zero_iff.1 hlen
    go_enter Tryz.func70, Tryz.ntmps70
    go_wp2_with fail
    go_returns
    exact ⟨⟨0, .slice none 0 0, 0, 0, .slice none 0 0⟩, rfl, TAt.zero _ _, by (repeat' (with_reducible first | exact Keeps.refl _ _ | assumption | refine Keeps.drawN ?_ _ | refine Keeps.drew ?_ | refine Keeps.setCell ?_ ?_ _ | refine Keeps.alloc ?_ _)) <;> (first | exact Or.inr (Nat.le_refl _) | exact Or.inl rfl | exact Or.inl (Or.inl rfl) | exact Or.inl (Or.inr rfl) | (right; simp; done) | (right; simp; omega))⟩
  · obtain ⟨v, rfl⟩ : ∃ v, vs = [v] := List.length_eq_one_iff.1 hlen
    obtain ⟨v', vs', he, ht, _⟩ := FAt.cons_iff.1 hf
    obtain ⟨rfl, rfl⟩ := List.cons.inj he
    obtain ⟨b, off, rfl, hc⟩ := (by obtain ⟨a', cap', he, _, _, hc⟩ := hk; obtain ⟨rfl, _, rfl⟩ := Value.slice.inj he; exact hc (by simp) : ∃ b off, a = some ⟨b, off, none⟩ ∧ ∀ i x, [v][i]? = some x → ∀ j, j < 5 → w.cell? ⟨b, off + i * 5 + j, none⟩ = some (encN x j))
    have x0 : w.cell? ⟨b, off, none⟩ = some (.int .i64 v.op) := by simpa [encN] using hc 0 v rfl 0 (by omega)
    have x1 : w.cell? ⟨b, off + 1, none⟩ = some v.sv := by simpa [encN] using hc 0 v rfl 1 (by omega)
    have x2 : w.cell? ⟨b, off + 2, none⟩ = some (.int .i64 v.mn) := by simpa [encN] using hc 0 v rfl 2 (by omega)
    have x3 : w.cell? ⟨b, off + 3, none⟩ = some (.int .i64 v.mx) := by simpa [encN] using hc 0 v rfl 3 (by omega)
    have x4 : w.cell? ⟨b, off + 4, none⟩ = some v.kv := by simpa [encN] using hc 0 v rfl 4 (by omega)
    clear hc
    have hlt : b < w.heap.size := lt_of_cell x0
    obtain ⟨vo, vsv, vm, vx, vk⟩ := v
    obtain ⟨a1, c1, e1⟩ := ht.set.form
    obtain ⟨ks, hks, _⟩ := ht.kids
    obtain ⟨a2, c2, e2⟩ := hks.form
    obtain rfl := e1
    obtain rfl := e2
    generalize ks.length = n2 at *
    generalize t.set.length = n1 at *
    have HT := Lib.hid ht
    clear ht hf hk hb hks
    go_enter Tryz.func70, Tryz.ntmps70
    go_wp2_with fail
    go_returns
    have K : Keeps (fun _ => False) w (w.alloc (.cells #[.int .i64 vo, .slice a1 n1 c1, .int .i64 vm, .int .i64 vx, .slice a2 n2 c2] 27)) := by (repeat' (with_reducible first | exact Keeps.refl _ _ | assumption | refine Keeps.drawN ?_ _ | refine Keeps.drew ?_ | refine Keeps.setCell ?_ ?_ _ | refine Keeps.alloc ?_ _)) <;> (first | exact Or.inr (Nat.le_refl _) | exact Or.inl rfl | exact Or.inl (Or.inl rfl) | exact Or.inl (Or.inr rfl) | (right; simp; done) | (right; simp; omega))
    exact ⟨_, rfl, HT.out.keepsTo K (fun _ _ => id) (fun _ h => h), K⟩
  · have hl2 : 2 ≤ vs.length := by rw [hlen]; simp
    have HK := Lib.hid hk
    have HF := Lib.hid hf
    have HB := Lib.hid hb
    have g1 : ((vs.length : Int) == 0) = false := beq_eq_false_iff_ne.2 (by omega)
    have g2 : ((vs.length : Int) == 1) = false := beq_eq_false_iff_ne.2 (by omega)
    clear hk hf hb hlen hl2
    generalize vs.length = N at *
    go_enter Tryz.func70, Tryz.ntmps70
    go_wp2_with fail
    go_returns
    have K : Keeps (fun _ => False) w (w.alloc (.cells #[.int .i64 op, .slice none 0 0, .int .i64 0, .int .i64 0, .slice a N cap] 27)) := by (repeat' (with_reducible first | exact Keeps.refl _ _ | assumption | refine Keeps.drawN ?_ _ | refine Keeps.drew ?_ | refine Keeps.setCell ?_ ?_ _ | refine Keeps.alloc ?_ _)) <;> (first | exact Or.inr (Nat.le_refl _) | exact Or.inl rfl | exact Or.inl (Or.inl rfl) | exact Or.inl (Or.inr rfl) | (right; simp; done) | (right; simp; omega))
    exact ⟨⟨op, .slice none 0 0, 0, 0, _⟩, rfl, ⟨rfl, rfl, rfl, zero64, zero64, ⟨SlOf.nil _ _ _, fun p hp => by cases hp⟩, fun b hb => by simp [Value.ownBlock] at hb, ⟨_, HK.out.keep K, HF.out.keepsTo K (fun _ _ => id) (fun _ h => h)⟩, HB.out⟩, K⟩
end Go.Proofs.YtpcbfmbpbegjgaaGreat
end
section
namespace Go.Proofs.YtpcbfmbpbegjgaaGreat
open Go.RowKit
set_option linter.unusedVariables false
set_option linter.unusedSimpArgs false
set_option maxRecDepth 100000

def sizeF : F → Int
  | .nil => 0
  | .cons _ _ _ _ k r => 1 + sizeF k + sizeF r
theorem sizeF_nonneg (f : F) : 0 ≤ sizeF f := by
  induction f with
  | nil => simp [sizeF]
  | cons a b c d k r ih1 ih2 => simp only [sizeF]; omega
theorem sizeF_snoc (l : List T) (t : T) : sizeF (F.ofL (l ++ [t])) = sizeF (F.ofL l) + 1 + sizeF t.kids := by
  induction l with
  | nil => simp only [List.nil_append, F.ofL, sizeF]; omega
  | cons u l ih => simp only [List.cons_append, F.ofL, sizeF, ih]; omega
theorem sizeF_app (l m : List T) : sizeF (F.ofL (l ++ m)) = sizeF (F.ofL l) + sizeF (F.ofL m) := by
  induction l with
  | nil => simp [F.ofL, sizeF]
  | cons u l ih => simp only [List.cons_append, F.ofL, sizeF, ih]; omega
theorem sizeF_take (l : List T) (i : Nat) : sizeF (F.ofL (l.take i)) ≤ sizeF (F.ofL l) := by
  have h := sizeF_app (l.take i) (l.drop i)
  rw [List.take_append_drop] at h
  have := sizeF_nonneg (F.ofL (l.drop i))
  omega
theorem take_one {α : Type} {l : List α} {i : Nat} {x : α} (h : l[i]? = some x) : l.take (i + 1) = l.take i ++ [x] := by
  obtain ⟨hi, rfl⟩ := List.getElem?_eq_some_iff.1 h
  rw [List.take_add_one, List.getElem?_eq_getElem hi]; rfl
/-- Of all trees of a row. -/
def AllF (C : T → Prop) : F → Prop
  | .nil => True
  | .cons a b c d k r => C ⟨a, b, c, d, k⟩ ∧ AllF C r
theorem AllF.get {C : T → Prop} : ∀ {l : List T}, AllF C (F.ofL l) → ∀ {i : Nat} {t : T}, l[i]? = some t → C t := by
  intro l
  induction l with
  | nil => intro _ i t h; simp at h
  | cons u l ih =>
    intro h i t hi
    cases i with
    | zero => simp at hi; subst hi; exact h.1
    | succ i => simp at hi; exact ih h.2 hi
/-- Trees by induction: a node when all its kids are. -/
theorem T.ind {C : T → Prop} (h : ∀ (t : T), (∀ (i : Nat) (k : T), t.kids.toL[i]? = some k → C k) → C t) (t : T) : C t := by
  have key : ∀ f : F, AllF C f := by
    intro f
    induction f with
    | nil => trivial
    | cons a b c d k r ih1 ih2 =>
      refine ⟨h _ (fun i t hi => ?_), ih2⟩
      rw [← F.of_to k] at ih1
      exact ih1.get hi
  refine h t (fun i k hi => ?_)
  have := key t.kids
  rw [← F.of_to t.kids] at this
  exact this.get hi
/-- The node's kids, opened: a slice of as many as there are, each one's five cells. -/
theorem TAt.open {w : World} {P : Nat → Prop} {v : NV} {t : T} (h : TAt w P v t) : ∃ a1 n1 c1 a2 c2, v.sv = .slice a1 n1 c1 ∧ v.kv = .slice a2 t.kids.toL.length c2 ∧ t.kids.toL.length ≤ 4611686018427387904 ∧
    (0 < t.kids.toL.length → ∃ b off, a2 = some ⟨b, off, none⟩ ∧ ∀ i k, t.kids.toL[i]? = some k → ∃ u : NV, TAt w P u k ∧ (∃ d1 e1 f1, u.sv = .slice d1 e1 f1) ∧ (∃ d2 e2 f2, u.kv = .slice d2 e2 f2) ∧
      w.cell? ⟨b, off + i * 5, none⟩ = some (.int .i64 u.op) ∧ w.cell? ⟨b, off + i * 5 + 1, none⟩ = some u.sv ∧ w.cell? ⟨b, off + i * 5 + 2, none⟩ = some (.int .i64 u.mn) ∧ w.cell? ⟨b, off + i * 5 + 3, none⟩ = some (.int .i64 u.mx) ∧ w.cell? ⟨b, off + i * 5 + 4, none⟩ = some u.kv) := by
  obtain ⟨a1, c1, e1⟩ := h.set.form
  obtain ⟨ks, hk, hf⟩ := h.kids
  rw [← F.of_to t.kids] at hf
  have hl := hf.len
  obtain ⟨a2, c2, e2, hcap, hl2, hc⟩ := hk
  rw [hl] at e2 hl2 hc
  refine ⟨a1, _, c1, a2, c2, e1, e2, hl2, fun h0 => ?_⟩
  obtain ⟨b, off, rfl, hcc⟩ := hc h0
  refine ⟨b, off, rfl, fun i k hi => ?_⟩
  obtain ⟨u, hu, hut⟩ := hf.get hi
  obtain ⟨d1, f1, g1⟩ := hut.set.form
  obtain ⟨ks', hk', _⟩ := hut.kids
  obtain ⟨d2, f2, g2⟩ := hk'.form
  exact ⟨u, hut, ⟨_, _, _, g1⟩, ⟨_, _, _, g2⟩, hcc i u hu 0 (by omega), hcc i u hu 1 (by omega), hcc i u hu 2 (by omega), hcc i u hu 3 (by omega), hcc i u hu 4 (by omega)⟩

end Go.Proofs.YtpcbfmbpbegjgaaGreat
end
section
namespace Go.Proofs.YtpcbfmbpbegjgaaGreat
open Go.RowKit
set_option linter.unusedVariables false
set_option linter.unusedSimpArgs false
set_option maxRecDepth 100000

/-- A row of nodes that is read: of each its five cells. -/
def KRow (w : World) (P : Nat → Prop) (a : Option Addr) (L : List T) : Prop :=
  0 < L.length → ∃ b off, a = some ⟨b, off, none⟩ ∧ ∀ i k, L[i]? = some k → ∃ u : NV, TAt w P u k ∧ (∃ d1 e1 f1, u.sv = .slice d1 e1 f1) ∧ (∃ d2 e2 f2, u.kv = .slice d2 e2 f2) ∧
      w.cell? ⟨b, off + i * 5, none⟩ = some (.int .i64 u.op) ∧ w.cell? ⟨b, off + i * 5 + 1, none⟩ = some u.sv ∧ w.cell? ⟨b, off + i * 5 + 2, none⟩ = some (.int .i64 u.mn) ∧ w.cell? ⟨b, off + i * 5 + 3, none⟩ = some (.int .i64 u.mx) ∧ w.cell? ⟨b, off + i * 5 + 4, none⟩ = some u.kv
theorem TAt.krow {w : World} {P : Nat → Prop} {v : NV} {t : T} (h : TAt w P v t) : ∃ a1 n1 c1 a2 c2, v.sv = .slice a1 n1 c1 ∧ v.kv = .slice a2 t.kids.toL.length c2 ∧ t.kids.toL.length ≤ 4611686018427387904 ∧ KRow w P a2 t.kids.toL := h.open
theorem KRow.keep {w w' : World} {P : Nat → Prop} {a : Option Addr} {L : List T} (h : KRow w P a L) (K : Keeps (fun _ => False) w w') : KRow w' P a L := by
  intro h0
  obtain ⟨b, off, rfl, hc⟩ := h h0
  refine ⟨b, off, rfl, fun i k hi => ?_⟩
  obtain ⟨u, h1, h2, h3, x0, x1, x2, x3, x4⟩ := hc i k hi
  exact ⟨u, h1.keepsTo K (fun _ _ => id) (fun _ h => h), h2, h3, K.cell x0 id, K.cell x1 id, K.cell x2 id, K.cell x3 id, K.cell x4 id⟩
/-- One element, with its value written out. -/
theorem KRow.at {w : World} {P : Nat → Prop} {a : Option Addr} {L : List T} (h : KRow w P a L) {i : Nat} {k : T} (hi : L[i]? = some k) : ∃ b off uo d1 f1 g1 um ux d2 f2 g2, a = some ⟨b, off, none⟩ ∧
    TAt w P ⟨uo, .slice d1 f1 g1, um, ux, .slice d2 f2 g2⟩ k ∧ b < w.heap.size ∧
    w.cell? ⟨b, off + i * 5, none⟩ = some (.int .i64 uo) ∧ w.cell? ⟨b, off + i * 5 + 1, none⟩ = some (.slice d1 f1 g1) ∧ w.cell? ⟨b, off + i * 5 + 2, none⟩ = some (.int .i64 um) ∧ w.cell? ⟨b, off + i * 5 + 3, none⟩ = some (.int .i64 ux) ∧ w.cell? ⟨b, off + i * 5 + 4, none⟩ = some (.slice d2 f2 g2) := by
  have h0 : 0 < L.length := by
    have := (List.getElem?_eq_some_iff.1 hi).1; omega
  obtain ⟨b, off, rfl, hc⟩ := h h0
  obtain ⟨⟨uo, us, um, ux, uk⟩, h1, ⟨d1, f1, g1, q1⟩, ⟨d2, f2, g2, q2⟩, x0, x1, x2, x3, x4⟩ := hc i k hi
  obtain rfl := q1
  obtain rfl := q2
  exact ⟨b, off, uo, d1, f1, g1, um, ux, d2, f2, g2, rfl, h1, lt_of_cell x0, x0, x1, x2, x3, x4⟩

theorem T.eq_iff {t t' : T} : t = t' ↔ t.op = t'.op ∧ t.mn = t'.mn ∧ t.mx = t'.mx ∧ t.set = t'.set ∧ t.kids.toL = t'.kids.toL := by
  constructor
  · rintro rfl; exact ⟨rfl, rfl, rfl, rfl, rfl⟩
  · obtain ⟨a, b, c, d, e⟩ := t
    obtain ⟨a', b', c', d', e'⟩ := t'
    rintro ⟨rfl, rfl, rfl, rfl, h⟩
    have : e = e' := by have h1 := congrArg F.ofL h; rw [F.of_to, F.of_to] at h1; exact h1
    rw [this]
end Go.Proofs.YtpcbfmbpbegjgaaGreat
end
section
namespace Go.Proofs.YtpcbfmbpbegjgaaGreat
open Go.RowKit
set_option linter.unusedVariables false
set_option linter.unusedSimpArgs false
set_option maxRecDepth 100000

/-- What node does at a tree. -/
def NodeC (t : T) (f : List Ins → List Ins) : Prop := ∀ (P : Nat → Prop) (v : NV) (w0 w : World) (mb base : Nat) (is : List Ins), TAt w0 P v t → Keeps (fun _ => False) w0 w → w0.heap.size ≤ mb → mb < base → base ≤ w.heap.size → is.length ≤ 500 → MkAt base w mb is →
    Calls Tryz.prog 47 #[.pointer (some ⟨mb, 0, none⟩), v.val] w fun e w' => e = .returned (.tuple #[]) ∧ MkAt base w' mb (f is) ∧ Keeps (fun b => b = mb ∨ base ≤ b) w w'
def chI (s : List (Int × Int)) (n : Nat) : Ins := ⟨1, s, n + 1, 0⟩
set_option maxHeartbeats 2000000 in
theorem node_char (s : List (Int × Int)) (hs0 : s ≠ []) (hsl : s.length ≤ 1000) : NodeC (charT s) (fun is => is ++ [chI s is.length]) := by
  intro P v w0 w mb base is ht k0 hmb1 hmb hb hn hM
  have hst := ht.set.keeps k0 (fun _ _ => id)
  obtain ⟨a1, n1, c1, a2, c2, e1, e2, hl, hc⟩ := ht.krow
  have o1 : v.op = 1 := ht.op
  obtain ⟨vo, vsv, vm, vx, vk⟩ := v
  obtain rfl := e1
  obtain rfl := e2
  obtain rfl := o1
  have kB : Keeps (fun _ => False) w (w.alloc (.cells #[.int .i64 1, .slice a1 n1 c1, .int .i64 vm, .int .i64 vx, .slice a2 (charT s).kids.toL.length c2] 27)) := (Keeps.refl _ _).alloc _
  have HP := Lib.hid (mput_any base mb 1 s _ is _ (hM.keepsF kB (by omega)) (hst.keeps kB (fun _ _ => id)) (Or.inr hs0) hsl hmb (by simp; omega) (by omega))
  have KB := Lib.hid kB
  clear hl hc ht hst k0 hM kB
  generalize (charT s).kids.toL.length = KL at *
  show Calls Tryz.prog 47 #[.pointer (some ⟨mb, 0, none⟩), .agg #[.int .i64 1, .slice a1 n1 c1, .int .i64 vm, .int .i64 vx, .slice a2 KL c2]] w _
  go_enter Tryz.func47, Tryz.ntmps47
  go_wp2_with fail
  refine HP.out.mono ?_
  rintro e w2 ⟨rfl, h2, k2⟩
  have H2 := Lib.hid h2
  have K2 : Hid (Keeps (fun b => b = mb ∨ base ≤ b) w w2) := Lib.hid ((KB.out.mono (fun _ _ e => e.elim)).trans2 k2 (fun _ _ e => e))
  clear h2 k2
  go_wp2_with fail
  go_end0
  exact ⟨rfl, H2.out, K2.out⟩
def NdR (n : Nat) (fs : List (List Ins → List Ins)) (is : List Ins) (base mb : Nat) (w : World) (iv : Value) (wr : World) : Prop :=
  ∃ (i : Nat) (is' : List Ins), iv = .int .i64 i ∧ i ≤ n ∧ MkAt base wr mb is' ∧ is'.length ≤ is.length + i ∧ (fs.drop i).foldl (fun a f => f a) is' = fs.foldl (fun a f => f a) is ∧ Keeps (fun b => b = mb ∨ base ≤ b) w wr
theorem fold_step {fs : List (List Ins → List Ins)} {i : Nat} {f : List Ins → List Ins} (is : List Ins) (h : fs[i]? = some f) : (fs.drop i).foldl (fun a f => f a) is = (fs.drop (i + 1)).foldl (fun a f => f a) (f is) := by
  obtain ⟨h1, h2⟩ := List.getElem?_eq_some_iff.1 h
  rw [List.drop_eq_getElem_cons h1, h2]; rfl
set_option maxHeartbeats 4000000 in
theorem node_cat (L : List T) (fs : List (List Ins → List Ins)) (hn : fs.length = L.length) (hL : L.length ≤ 200) (ih : ∀ (i : Nat) (k : T) (f : List Ins → List Ins), L[i]? = some k → fs[i]? = some f → NodeC k f ∧ ∀ a, (f a).length ≤ a.length + 1) :
    ∀ (P : Nat → Prop) (v : NV) (w0 w : World) (mb base : Nat) (is : List Ins), TAt w0 P v ⟨4, [], 0, 0, F.ofL L⟩ → Keeps (fun _ => False) w0 w → w0.heap.size ≤ mb → mb < base → base ≤ w.heap.size → is.length ≤ 200 → MkAt base w mb is →
    Calls Tryz.prog 47 #[.pointer (some ⟨mb, 0, none⟩), v.val] w fun e w' => e = .returned (.tuple #[]) ∧ MkAt base w' mb (fs.foldl (fun a f => f a) is) ∧ Keeps (fun b => b = mb ∨ base ≤ b) w w' := by
  intro P v w0 w mb base is ht k0 hmb1 hmb hb his hM
  obtain ⟨a1, n1, c1, a2, c2, e1, e2, hl, hc⟩ := ht.krow
  simp only [F.to_of] at e2 hl hc
  have o1 : v.op = 4 := ht.op
  obtain ⟨vo, vsv, vm, vx, vk⟩ := v
  obtain rfl := e1
  obtain rfl := e2
  obtain rfl := o1
  obtain ⟨R, hR⟩ : ∃ R, fs.foldl (fun a f => f a) is = R := ⟨_, rfl⟩
  have kB : Keeps (fun b => b = mb ∨ base ≤ b) w (w.alloc (.cells #[.int .i64 4, .slice a1 n1 c1, .int .i64 vm, .int .i64 vx, .slice a2 L.length c2] 27)) := (Keeps.refl _ _).alloc _
  have kB0 : Keeps (fun _ => False) w (w.alloc (.cells #[.int .i64 4, .slice a1 n1 c1, .int .i64 vm, .int .i64 vx, .slice a2 L.length c2] 27)) := (Keeps.refl _ _).alloc _
  have HM := Lib.hid (hM.keepsF kB0 (by omega))
  have KB := Lib.hid kB
  have HC := Lib.hid hc
  have IH := Lib.hid ih
  have K0 := Lib.hid k0
  have HR := Lib.hid hR
  have HN := Lib.hid hn
  rw [hR]
  have hw0 := k0.size
  clear hl hc ht k0 hM kB kB0 ih hR hn
  show Calls Tryz.prog 47 #[.pointer (some ⟨mb, 0, none⟩), .agg #[.int .i64 4, .slice a1 n1 c1, .int .i64 vm, .int .i64 vx, .slice a2 L.length c2]] w _
  go_enter Tryz.func47, Tryz.ntmps47
  go_wp2_with fail
  go_loopw [27] (fun iv wr => NdR L.length fs is base mb w iv wr) (fun iv _ => L.length - (intOf iv).toNat)
  case atStart => exact ⟨0, is, rfl, Nat.zero_le _, HM.out, Nat.le_refl _, rfl, KB.out⟩
  case round =>
    obtain ⟨i, is', rfl, hi, hM, hlen, hf, hk⟩ := hrel
    have HMr := Lib.hid hM
    have HF := Lib.hid hf
    have HKr := Lib.hid hk
    have hsw := hk.size
    have K0r : Hid (Keeps (fun _ => False) w0 wr) := Lib.hid (K0.out.trans2 hk (fun b hb e => by omega))
    clear hM hf hk
    by_cases hil : i < L.length
    · obtain ⟨k, hki⟩ : ∃ k, L[i]? = some k := ⟨_, List.getElem?_eq_getElem hil⟩
      obtain ⟨f, hfi⟩ : ∃ f, fs[i]? = some f := ⟨_, List.getElem?_eq_getElem (by rw [HN.out]; exact hil)⟩
      obtain ⟨b, off, uo, d1, f1, g1, um, ux, d2, f2, g2, rfl, hu, hlt, x0, x1, x2, x3, x4⟩ := (HC.out.keep K0r.out).at hki
      obtain ⟨hnc, hfl⟩ := IH.out i k f hki hfi
      have hflen := hfl is'
      have kBr : Keeps (fun _ => False) wr (wr.alloc (.cells #[.int .i64 uo, .slice d1 f1 g1, .int .i64 um, .int .i64 ux, .slice d2 f2 g2] 27)) := (Keeps.refl _ _).alloc _
      have hu0 : ∃ u0 : NV, u0.val = NV.val ⟨uo, .slice d1 f1 g1, um, ux, .slice d2 f2 g2⟩ ∧ TAt wr P u0 k := ⟨_, rfl, hu⟩
      have HS := Lib.hid (hnc P ⟨uo, .slice d1 f1 g1, um, ux, .slice d2 f2 g2⟩ w0 _ mb base is' (by
        obtain ⟨b', off', uo', d1', f1', g1', um', ux', d2', f2', g2', hbb, hu', hlt', y0, y1, y2, y3, y4⟩ := HC.out.at hki
        cases hbb
        have z0 := K0r.out.cell y0 id
        have z1 := K0r.out.cell y1 id
        have z2 := K0r.out.cell y2 id
        have z3 := K0r.out.cell y3 id
        have z4 := K0r.out.cell y4 id
        rw [x0] at z0; rw [x1] at z1; rw [x2] at z2; rw [x3] at z3; rw [x4] at z4
        cases z0; cases z1; cases z2; cases z3; cases z4
        exact hu') (K0r.out.trans kBr) hmb1 hmb (by simp; omega) (by omega) (HMr.out.keepsF kBr (by omega)))
      have CS := Lib.hid (fold_step is' hfi)
      have KBr := Lib.hid kBr
      clear hki hfi hu hnc hfl kBr hu0
      unfold NV.val at HS
      go_wp2_with fail
      refine HS.out.mono ?_
      rintro e w2 ⟨rfl, h2, k2⟩
      have H2 := Lib.hid h2
      have K2 : Hid (Keeps (fun b => b = mb ∨ base ≤ b) w w2) := Lib.hid ((HKr.out.trans2 KBr.out (fun _ _ e => e.elim)).trans2 k2 (fun _ _ e => e))
      clear h2 k2
      go_wp2_with fail
      go_roundw
      case rel => exact ⟨i + 1, f is', by go_num, by omega, H2.out, by omega, by rw [← CS.out]; exact HF.out, K2.out⟩
      case measure => simp [intOf]; omega
    · have he : i = L.length := by omega
      subst he
      have E : Hid (is' = R) := Lib.hid (by have h := HF.out; rw [List.drop_eq_nil_of_le (by rw [HN.out]; omega), HR.out] at h; exact h)
      go_wp2_with fail
      go_end0
      exact ⟨rfl, by rw [← E.out]; exact HMr.out, HKr.out⟩
end Go.Proofs.YtpcbfmbpbegjgaaGreat
end
section
namespace Go.Proofs.YtpcbfmbpbegjgaaGreat
open Go.RowKit
set_option linter.unusedVariables false
set_option linter.unusedSimpArgs false
set_option maxRecDepth 100000

theorem MkAt.lower {base base' mb : Nat} {w : World} {is : List Ins} (h : MkAt base' w mb is) (hb : base ≤ base') : MkAt base w mb is := by
  obtain ⟨v, ivs, h1, h2, h3, h4⟩ := h
  refine ⟨v, ivs, h1, ⟨h2.1, h2.2.imp id fun ⟨g, c, cur, a, b, r⟩ => ⟨g, c, cur, a, by omega, r⟩⟩, h3, fun k iv i a b => (h4 k iv i a b).keepsTo (Keeps.refl (fun _ => False) _) (fun _ _ => id) (fun b hb => ⟨by omega, hb.2.1, hb.2.2⟩)⟩
theorem MkAt.empty {mb base : Nat} {w : World} (h : w.heap[mb]? = some (.cells #[.slice none 0 0] 101 (0, 0))) : MkAt base w mb [] :=
  ⟨_, [], h, World.ownsRow_nil _ _ _ _, rfl, fun k iv i a b => by simp at a⟩
/-- The program of a char once or more often. -/
def bpI (s : List (Int × Int)) : List Ins := [⟨1, s, 1, 0⟩, ⟨2, [], 2, 4⟩, ⟨1, s, 3, 0⟩, ⟨2, [], 1, 1⟩]
def RpR (w2 : World) (mb base : Nat) (s : List (Int × Int)) (iv : Value) (wr : World) : Prop :=
  ((iv = .int .i64 0 ∧ MkAt base wr mb []) ∨ (iv = .int .i64 1 ∧ MkAt base wr mb [chI s 0])) ∧ Keeps (fun b => b = mb ∨ base ≤ b) w2 wr
set_option maxHeartbeats 8000000 in
theorem rep_bp (s : List (Int × Int)) (hs0 : s ≠ []) (hsl : s.length ≤ 1000) (P : Nat → Prop) (a1 a : Option Addr) (n1 c1 c mb : Nat) (w0 w : World) (ha : KRow w0 P a [charT s]) (k0 : Keeps (fun _ => False) w0 w) (hmb1 : w0.heap.size ≤ mb) (hbk : w.heap[mb]? = some (.cells #[.slice none 0 0] 101 (0, 0))) :
    Calls Tryz.prog 73 #[.pointer (some ⟨mb, 0, none⟩), .agg #[.int .i64 6, .slice a1 n1 c1, .int .i64 1, .int .i64 (-1), .slice a 1 c]] w fun e w' => e = .returned (.tuple #[]) ∧ MkAt (mb + 1) w' mb (bpI s) ∧ Keeps (fun b => b = mb) w w' := by
  obtain ⟨b, off, uo, d1, f1, g1, um, ux, d2, f2, g2, rfl, hu, hlt0, x0, x1, x2, x3, x4⟩ := ha.at (i := 0) rfl
  simp only [Nat.zero_mul, Nat.add_zero] at x0 x1 x2 x3 x4
  have x0 := k0.cell x0 id
  have x1 := k0.cell x1 id
  have x2 := k0.cell x2 id
  have x3 := k0.cell x3 id
  have x4 := k0.cell x4 id
  have hlt : b < w.heap.size := lt_of_cell x0
  have hmb : mb < w.heap.size := by
    rcases Nat.lt_or_ge mb w.heap.size with h | h
    · exact h
    · rw [Array.getElem?_eq_none h] at hbk; cases hbk
  obtain ⟨w2, hw2⟩ : ∃ W, W = (w.alloc (.cells #[.int .i64 6, .slice a1 n1 c1, .int .i64 1, .int .i64 (-1), .slice (some ⟨b, off, none⟩) 1 c] 27)).alloc (.cells #[.int .i64 uo, .slice d1 f1 g1, .int .i64 um, .int .i64 ux, .slice d2 f2 g2] 27) := ⟨_, rfl⟩
  have k02 : Keeps (fun _ => False) w w2 := by rw [hw2]; exact ((Keeps.refl _ _).alloc _).alloc _
  have hs2 : w2.heap.size = w.heap.size + 2 := by rw [hw2]; simp
  have hMx : w2.cell? ⟨w.heap.size, 3, none⟩ = some (.int .i64 (-1)) := by rw [hw2]; exact alloc_cell (by simp [go_sem]) _
  have hMn : w2.cell? ⟨w.heap.size, 2, none⟩ = some (.int .i64 1) := by rw [hw2]; exact alloc_cell (by simp [go_sem]) _
  have t0 : w2.cell? ⟨w.heap.size + 1, 0, none⟩ = some (.int .i64 uo) := by rw [hw2]; simp [go_sem]
  have t1 : w2.cell? ⟨w.heap.size + 1, 1, none⟩ = some (.slice d1 f1 g1) := by rw [hw2]; simp [go_sem]
  have t2 : w2.cell? ⟨w.heap.size + 1, 2, none⟩ = some (.int .i64 um) := by rw [hw2]; simp [go_sem]
  have t3 : w2.cell? ⟨w.heap.size + 1, 3, none⟩ = some (.int .i64 ux) := by rw [hw2]; simp [go_sem]
  have t4 : w2.cell? ⟨w.heap.size + 1, 4, none⟩ = some (.slice d2 f2 g2) := by rw [hw2]; simp [go_sem]
  have hM2 : MkAt (w.heap.size + 2) w2 mb [] := MkAt.empty (by rw [k02.block mb hmb id]; exact hbk)
  have HN : Hid (∀ W is, Keeps (fun b => b = mb ∨ w.heap.size + 2 ≤ b) w2 W → is.length ≤ 500 → MkAt (w.heap.size + 2) W mb is → Calls Tryz.prog 47 #[.pointer (some ⟨mb, 0, none⟩), .agg #[.int .i64 uo, .slice d1 f1 g1, .int .i64 um, .int .i64 ux, .slice d2 f2 g2]] W fun e w' => e = .returned (.tuple #[]) ∧ MkAt (w.heap.size + 2) w' mb (is ++ [chI s is.length]) ∧ Keeps (fun b => b = mb ∨ w.heap.size + 2 ≤ b) W w') := by
    refine Lib.hid fun W is K hl hM => ?_
    have hsW := K.size
    exact node_char s hs0 hsl P ⟨uo, .slice d1 f1 g1, um, ux, .slice d2 f2 g2⟩ w0 W mb (w.heap.size + 2) is hu ((k0.trans k02).trans2 K (fun b hb e => by have := k0.size; omega)) hmb1 (by omega) (by omega) hl hM
  have hfar1 : ¬ (w.heap.size + 1 = mb ∨ w.heap.size + 2 ≤ w.heap.size + 1) := by omega
  have hfar0 : ¬ (w.heap.size = mb ∨ w.heap.size + 2 ≤ w.heap.size) := by omega
  have HT : Hid (∀ W, Keeps (fun b => b = mb ∨ w.heap.size + 2 ≤ b) w2 W → W.cell? ⟨w.heap.size + 1, 0, none⟩ = some (.int .i64 uo) ∧ W.cell? ⟨w.heap.size + 1, 1, none⟩ = some (.slice d1 f1 g1) ∧ W.cell? ⟨w.heap.size + 1, 2, none⟩ = some (.int .i64 um) ∧ W.cell? ⟨w.heap.size + 1, 3, none⟩ = some (.int .i64 ux) ∧ W.cell? ⟨w.heap.size + 1, 4, none⟩ = some (.slice d2 f2 g2) ∧ W.cell? ⟨w.heap.size, 3, none⟩ = some (.int .i64 (-1))) :=
    Lib.hid fun W K => ⟨K.cell t0 hfar1, K.cell t1 hfar1, K.cell t2 hfar1, K.cell t3 hfar1, K.cell t4 hfar1, K.cell hMx hfar0⟩
  have HE : Hid (∀ W, Keeps (fun b => b = mb ∨ w.heap.size + 2 ≤ b) w2 W → Keeps (fun b => b = mb) w W) := Lib.hid fun W K => (k02.mono (fun _ _ e => e.elim)).trans2 K (fun b hb e => by omega)
  have HM2 := Lib.hid hM2
  have Hw2 := Lib.hid hw2
  clear ha hu hbk t0 t1 t2 t3 t4 hMx hM2 k0 k02
  go_enter Tryz.func73, Tryz.ntmps73
  go_wp2_with fail
  rw [← hw2]
  clear hw2 x0 x1 x2 x3 x4 hMn
  go_loopw [15] (fun iv wr => RpR w2 mb (w.heap.size + 2) s iv wr) (fun iv _ => 1 - (intOf iv).toNat)
  case atStart => exact ⟨Or.inl ⟨rfl, HM2.out⟩, Keeps.refl _ _⟩
  case round =>
    obtain ⟨hh, hk⟩ := hrel
    have K := Lib.hid hk
    have hsr := hk.size
    rw [hs2] at hsr
    clear hk
    obtain ⟨t0, t1, t2, t3, t4, t5⟩ := HT.out wr K.out
    have hl1 : w.heap.size + 1 < wr.heap.size := by omega
    rcases hh with ⟨rfl, hM⟩ | ⟨rfl, hM⟩
    · have HMr := Lib.hid hM
      clear hM
      go_wp2_with fail
      refine (HN.out wr [] K.out (by simp) HMr.out).mono ?_
      rintro e w3 ⟨rfl, h3, k3⟩
      have H3 := Lib.hid h3
      have K3 := Lib.hid (K.out.trans k3)
      clear h3 k3 t0 t1 t2 t3 t4 t5
      go_wp2_with fail
      go_roundw
      case rel => exact ⟨Or.inr ⟨rfl, H3.out⟩, K3.out⟩
      case measure => simp [intOf]
    · have HMr := Lib.hid hM
      clear hM t0 t1 t2 t3 t4
      go_wp2_with fail
      refine (msplit_any (w.heap.size + 2) mb [chI s 0] wr HMr.out (by omega) (by omega) (by simp)).mono ?_
      rintro e w3 ⟨rfl, h3, k3⟩
      have H3 := Lib.hid h3
      have K3 := Lib.hid (K.out.trans k3)
      obtain ⟨t0, t1, t2, t3, t4, t6⟩ := HT.out w3 K3.out
      have hl3 : w.heap.size + 1 < w3.heap.size := by have := k3.size; omega
      clear h3 k3 t5 t6
      go_wp2_with fail
      refine (HN.out w3 _ K3.out (by simp) H3.out).mono ?_
      rintro e w4 ⟨rfl, h4, k4⟩
      have H4 := Lib.hid h4
      have K4 := Lib.hid (K3.out.trans k4)
      have hl4 : w.heap.size + 2 ≤ w4.heap.size := by have := k4.size; omega
      clear h4 k4 t0 t1 t2 t3 t4
      go_wp2_with fail
      refine (mjump_any (w.heap.size + 2) mb 1 _ w4 H4.out (by omega) hl4 (by simp) (by omega)).mono ?_
      rintro e w5 ⟨rfl, h5, k5⟩
      have K5 := Lib.hid (K4.out.trans k5)
      have hl5 : w.heap.size + 2 ≤ w5.heap.size := by have := k5.size; omega
      obtain ⟨g, cap, ivs, hO⟩ := h5.mko (by simp)
      obtain ⟨iv, hiv⟩ := hO.last (k := 1) (by simp)
      have c0 : w5.cell? ⟨mb, 0, none⟩ = some (.slice (some ⟨g, 0, none⟩) 4 cap) := by rw [Lib.cell_of_heap hO.bk]; rfl
      have y3 := hO.cell hiv (j := 3) (by omega)
      have f3 := hO.own.frozenAt (1 * 4 + 3)
      have hgb := ownBlock_base hO.own g rfl
      have hXY := (hO.setXY (by omega) hiv (i := ⟨2, [], 2, 0⟩) rfl 0 4).2.2
      have HXY := Lib.hid hXY
      have e3 : encP iv 3 = .int .i64 iv.y := rfl
      rw [e3] at y3
      simp only [Nat.one_mul, Nat.reduceAdd] at y3 f3
      have hgm : g ≠ mb := by omega
      have hmg : mb ≠ g := by omega
      clear h5 k5 hXY hO hiv e3
      go_wp2_with fail
      go_region
      go_wp2_with fail
      refine bodyPost_ret (results_none rfl _ _ _) rfl ?_
      obtain ⟨_, hM⟩ := HXY.out
      have hl6 : mb < (w5.setCell ⟨g, 7, none⟩ (.int .i64 (4 : Nat))).heap.size := by simp; omega
      exact ⟨rfl, (hM.at.lower (by omega)).keepsF (Keeps.refl (fun _ => False) _).drew hl6, HE.out _ ((K5.out.set (p := ⟨g, 7, none⟩) (Or.inr hgb) _).drew)⟩
set_option maxHeartbeats 2000000 in
theorem node_bp (s : List (Int × Int)) (hs0 : s ≠ []) (hsl : s.length ≤ 1000) (P : Nat → Prop) (v : NV) (w0 w : World) (mb : Nat) (ht : TAt w0 P v ⟨6, [], 1, -1, F.ofL [charT s]⟩) (k0 : Keeps (fun _ => False) w0 w) (hmb1 : w0.heap.size ≤ mb)
    (hbk : w.heap[mb]? = some (.cells #[.slice none 0 0] 101 (0, 0))) :
    Calls Tryz.prog 47 #[.pointer (some ⟨mb, 0, none⟩), v.val] w fun e w' => e = .returned (.tuple #[]) ∧ MkAt (mb + 1) w' mb (bpI s) ∧ Keeps (fun b => b = mb) w w' := by
  obtain ⟨a1, n1, c1, a2, c2, e1, e2, hl, hc⟩ := ht.krow
  simp only [F.to_of] at e2 hl hc
  have o1 : v.op = 6 := ht.op
  have o2 : v.mn = 1 := ht.mn
  have o3 : v.mx = -1 := ht.mx
  obtain ⟨vo, vsv, vm, vx, vk⟩ := v
  obtain rfl := e1
  obtain rfl := e2
  obtain rfl := o1
  obtain rfl := o2
  obtain rfl := o3
  have hmb : mb < w.heap.size := by
    rcases Nat.lt_or_ge mb w.heap.size with h | h
    · exact h
    · rw [Array.getElem?_eq_none h] at hbk; cases hbk
  have kB : Keeps (fun _ => False) w (w.alloc (.cells #[.int .i64 6, .slice a1 n1 c1, .int .i64 1, .int .i64 (-1), .slice a2 1 c2] 27)) := (Keeps.refl _ _).alloc _
  have HP := Lib.hid (rep_bp s hs0 hsl P a1 a2 n1 c1 c2 mb w0 _ hc (k0.trans kB) hmb1 (by rw [kB.block mb hmb id]; exact hbk))
  have KB := Lib.hid kB
  clear hl hc ht kB k0 hbk
  show Calls Tryz.prog 47 #[.pointer (some ⟨mb, 0, none⟩), .agg #[.int .i64 6, .slice a1 n1 c1, .int .i64 1, .int .i64 (-1), .slice a2 1 c2]] w _
  go_enter Tryz.func47, Tryz.ntmps47
  go_wp2_with fail
  refine HP.out.mono ?_
  rintro e w2 ⟨rfl, h2, k2⟩
  have H2 := Lib.hid h2
  have K2 : Hid (Keeps (fun b => b = mb) w w2) := Lib.hid ((KB.out.mono (fun _ _ e => e.elim)).trans2 k2 (fun _ _ e => e))
  clear h2 k2
  go_wp2_with fail
  go_end0
  exact ⟨rfl, H2.out, K2.out⟩
end Go.Proofs.YtpcbfmbpbegjgaaGreat
end
