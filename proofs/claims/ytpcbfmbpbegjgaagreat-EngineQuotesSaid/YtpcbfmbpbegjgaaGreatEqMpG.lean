/-
  (*maker).put.
-/
import Derived.Test.YtpcbfmbpbegjgaaGreatEqMG
namespace Go.Proofs.YtpcbfmbpbegjgaaGreat
open Go.RowKit
set_option linter.unusedVariables false
set_option linter.unusedSimpArgs false
set_option maxRecDepth 100000

theorem MkAt.push {base mb : Nat} {w w2 wA w1 : World} {v : Value} {ivs : List IV} {is : List Ins} {iv : IV} {i : Ins} {g cap H : Nat}
    (hbk : w.heap[mb]? = some (.cells #[v] 101 (0, 0))) (hown : w.ownsRow base 104 4 v is.length (cellsOf 4 encP ivs)) (hlen : ivs.length = is.length)
    (hin : ∀ (k : Nat) (iv : IV) (i : Ins), ivs[k]? = some iv → is[k]? = some i → InAt w (fun b => base ≤ b ∧ b < w.heap.size ∧ v.ownBlock ≠ some b) iv i)
    (hmb : mb < base) (hb : base ≤ w.heap.size) (K : Keeps (fun _ => False) w w2) (KA : Keeps (fun _ => False) w2 wA) (hi : InAt w2 (fun b => w.heap.size ≤ b ∧ b < w2.heap.size) iv i)
    (hown1 : w1.ownsRow base 104 4 (.slice (some ⟨g, 0, none⟩) (is.length + 1) cap) (is.length + 1) (cellsOf 4 encP ivs ++ cellsOf 4 encP [iv]))
    (hg : wA.grownBy w1 v.ownBlock) (hat : v.ownBlock = some g ∨ g = H) (hH : wA.heap.size = H) :
    MkAt base (w1.setCell ⟨mb, 0, none⟩ (.slice (some ⟨g, 0, none⟩) (is.length + 1) cap)) mb (is ++ [i]) ∧
    Keeps (fun b => b = mb ∨ base ≤ b) w (w1.setCell ⟨mb, 0, none⟩ (.slice (some ⟨g, 0, none⟩) (is.length + 1) cap)) := by
  have hvb := ownBlock_base hown
  have hvl := own_lt hown
  have hs1 := K.size
  have hs2 := KA.size
  have k1 : Keeps (fun b => v.ownBlock = some b) wA w1 := (Keeps.refl _ _).grown hg (fun b hb => Or.inl hb)
  have hs3 := k1.size
  have hne : ¬ v.ownBlock = some mb := fun e => by have := hvb mb e; omega
  have hmw : mb < w.heap.size := by omega
  have hbk1 : w1.heap[mb]? = some (.cells #[v] 101 (0, 0)) := by
    rw [k1.block mb (by omega) hne, KA.block mb (by omega) id, K.block mb hmw id]; exact hbk
  have hgb : g ≠ mb := by
    rcases hat with h | h
    · intro e; exact hne (e ▸ h)
    · omega
  have hgbase := ownBlock_base hown1 g rfl
  have kS : Keeps (fun b => b = mb) w1 (w1.setCell ⟨mb, 0, none⟩ (.slice (some ⟨g, 0, none⟩) (is.length + 1) cap)) := (Keeps.refl (fun b => b = mb) w1).set (p := ⟨mb, 0, none⟩) rfl _
  have hsS := kS.size
  have hgS : g < w1.heap.size := own_lt hown1 g rfl
  refine ⟨⟨.slice (some ⟨g, 0, none⟩) (is.length + 1) cap, ivs ++ [iv], ?_, ?_, by simp [hlen], ?_⟩, ?_⟩
  · simp [World.setCell, Array.getElem?_modify, hbk1]
  · rw [List.length_append, cellsOf_append]
    exact ownsRow_keeps hown1 kS (fun b e1 e2 => by have h9 : g = b := Option.some.inj e1; omega)
  · intro k iv' i' hk1 hk2
    have far : ∀ b, base ≤ b → b < wA.heap.size → v.ownBlock ≠ some b → base ≤ b ∧ b < (w1.setCell ⟨mb, 0, none⟩ (.slice (some ⟨g, 0, none⟩) (is.length + 1) cap)).heap.size ∧ (Value.slice (some ⟨g, 0, none⟩) (is.length + 1) cap).ownBlock ≠ some b := fun b h1 h2 h3 => ⟨h1, by omega, fun e => by
      have e2 : g = b := Option.some.inj e
      rcases hat with h | h
      · exact h3 (e2 ▸ h)
      · omega⟩
    by_cases hk : k < is.length
    · rw [List.getElem?_append_left (by omega)] at hk1 hk2
      have h1 := hin k iv' i' hk1 hk2
      exact (((h1.keepsTo (Q := fun b => base ≤ b ∧ b < w.heap.size ∧ v.ownBlock ≠ some b) K (fun _ _ => id) (fun _ h => h)).keepsTo (Q := fun b => base ≤ b ∧ b < w.heap.size ∧ v.ownBlock ≠ some b) KA (fun _ _ => id) (fun _ h => h)).keepsTo (Q := fun b => base ≤ b ∧ b < w.heap.size ∧ v.ownBlock ≠ some b) k1 (fun b h e => h.2.2 e) (fun _ h => h)).keepsTo kS (fun b h e => by have := h.1; omega) (fun b h => far b h.1 (by omega) h.2.2)
    · have hk3 : k = is.length := by
        have := (List.getElem?_eq_some_iff.1 hk2).1
        simp at this; omega
      subst hk3
      obtain rfl : iv = iv' := by rw [← hlen] at hk1; simpa using hk1
      obtain rfl : i = i' := by simpa using hk2
      refine ((hi.keepsTo (Q := fun b => w.heap.size ≤ b ∧ b < w2.heap.size) KA (fun _ _ => id) (fun _ h => h)).keepsTo (Q := fun b => w.heap.size ≤ b ∧ b < w2.heap.size) k1 (fun b h e => by have := hvl b e; omega) (fun _ h => h)).keepsTo kS (fun b h e => by omega) (fun b h => far b (by omega) (by omega) (fun e => by have := hvl b e; omega))
  · exact (((K.trans KA).mono (T := fun b => b = mb ∨ base ≤ b) (fun _ _ e => e.elim)).trans2 k1 (fun b hb e => Or.inr (hvb b e))).trans2 kS (fun b hb e => Or.inl e)
set_option maxHeartbeats 4000000 in
theorem mput_any (base mb : Nat) (op : Int) (set : List (Int × Int)) (sv : Value) (is : List Ins) (w : World) (h : MkAt base w mb is) (hs : RSl w sv set) (h0 : sv = .slice none 0 0 ∨ set ≠ []) (hl : set.length ≤ 1000) (hmb : mb < base) (hb : base ≤ w.heap.size) (hn : is.length ≤ 1000) :
    Calls Tryz.prog 71 #[.pointer (some ⟨mb, 0, none⟩), .int .i64 op, sv] w fun e w' => e = .returned (.int .i64 is.length) ∧ MkAt base w' mb (is ++ [⟨op, set, is.length + 1, 0⟩]) ∧ Keeps (fun b => b = mb ∨ base ≤ b) w w' := by
  obtain ⟨i0, hi0, hz0, hz1, hz2⟩ := info_parts info_inst
  obtain ⟨v, ivs, hbk, hown, hlen, hin⟩ := h
  obtain ⟨va, vc, rfl⟩ := ownsRow_slice hown
  have c0 : w.cell? ⟨mb, 0, none⟩ = some (.slice va is.length vc) := by rw [Lib.cell_of_heap hbk]; rfl
  have f0 : w.frozen? ⟨mb, 0, none⟩ = false := Lib.frozen_of_heap hbk 0
  have hmw : mb < w.heap.size := by omega
  have hvm : (Value.slice va is.length vc).ownBlock ≠ some mb := fun e => by have := ownBlock_base hown mb e; omega
  have HCl : ∀ W, Keeps (fun _ => False) w W → Calls Tryz.prog 87 #[sv] W fun e w' => ∃ ua uc, e = .returned (.slice ua set.length uc) ∧ w'.cell? ⟨mb, 0, none⟩ = some (.slice va is.length vc) ∧ w'.frozen? ⟨mb, 0, none⟩ = false ∧ Hid (RSl w' (.slice ua set.length uc) set ∧ (∀ b, (Value.slice ua set.length uc).ownBlock = some b → w.heap.size ≤ b ∧ b < w'.heap.size)) ∧ Keeps (fun _ => False) w w' := fun W kW =>
    (clone_any set sv W (hs.keeps kW (fun _ _ => id)) h0 hl).mono fun e w' ⟨u, h1, h2, h3, h4⟩ => by
      obtain ⟨ua, uc, e9, _⟩ := h2.1
      subst e9
      exact ⟨ua, uc, h1, (kW.trans h4).cell c0 id, by rw [(kW.trans h4).frozen f0 hmw id], Lib.hid ⟨h2, fun b hb => by have := h3 b hb; have := kW.size; omega⟩, kW.trans h4⟩
  have HCL := Lib.hid HCl
  have HO := Lib.hid hown
  have HBK := Lib.hid hbk
  have HIN := Lib.hid hin
  have hw : IntKind.i64.wrap ((is.length : Int) + 1) = (is.length : Int) + 1 := IntWalk.i64_in _ (by omega)
  have c0d : w.drew.cell? ⟨mb, 0, none⟩ = some (.slice va is.length vc) := c0
  clear hbk hown hin HCl hs h0
  go_enter Tryz.func71, Tryz.ntmps71
  go_wp2_with fail
  go_region_law (first | (refine step_append_lies _ rfl (.tmp 11) (.tmp 22) 70 rfl base 104 i0 _ 4 48 Tryz.underlying70 hi0 hz0 hz1 hz2 rfl (by decide) _ is.length (cellsOf 4 encP ivs) rfl (ownsRow_alloc (ownsRow_keeps HO.out ku (fun _ _ => id)) _) ⟨w'.heap.size, 0, none⟩ 1 1 [.int .i64 op, .slice ua set.length uc, .int .i64 ((is.length : Int) + 1), .int .i64 0] rfl rfl (by exact cells_new w' [_, _, _, _] _) (by simp [Value.oneCell']) (by decide) (by unfold maxLen; omega) (by omega) (by have := ku.size; simp; omega) _ rfl ?_; intro g cap w1 hown1 hgrow1 hat1 hlt1; have c1 : w1.cell? ⟨mb, 0, none⟩ = some (.slice va is.length vc) := (hgrow1.cell_far ⟨mb, 0, none⟩ (by have := ku.size; simp; omega) (fun e => hvm e.symm)).trans (alloc_cell cu _); have f1 : w1.frozen? ⟨mb, 0, none⟩ = false := (hgrow1.frozen_far ⟨mb, 0, none⟩ (by have := ku.size; simp; omega) (fun e => hvm e.symm)).trans (by have h9 := (Keeps.refl (fun _ => False) w').alloc (.cells #[.int .i64 op, .slice ua set.length uc, .int .i64 ((is.length : Int) + 1), .int .i64 0] 104); exact h9.frozen fu (by have := ku.size; show mb < w'.heap.size; omega) id)) | (go_simp; go_at_call 87; refine (HCL.out _ ?_).mono ?_; (first | assumption | exact (Keeps.refl _ _).drew); rintro e w' ⟨ua, uc, rfl, cu, fu, hu, ku⟩; have cuA := alloc_cell cu (.cells #[.int .i64 op, .slice ua set.length uc, .int .i64 ((is.length : Int) + 1), .int .i64 0] 104)))
  all_goals
    have hP := MkAt.push (wA := w'.alloc (.cells #[.int .i64 op, .slice ua set.length uc, .int .i64 ((is.length : Int) + 1), .int .i64 0] 104)) (i := ⟨op, set, is.length + 1, 0⟩) (iv := ⟨op, .slice ua set.length uc, (is.length : Int) + 1, 0⟩) HBK.out HO.out hlen HIN.out hmb hb ku ((Keeps.refl _ _).alloc _) ⟨rfl, by push_cast; rfl, rfl, hu.out.1, hu.out.2⟩ hown1 hgrow1 hat1 rfl
    have HP := Lib.hid hP
    clear hP hown1 hgrow1 hat1 cuA
    go_wp2_with fail
    go_ret
    exact ⟨rfl, HP.out⟩
end Go.Proofs.YtpcbfmbpbegjgaaGreat
