/-
  Several texts in one: A program's instructions in memory; slices.Clone, (*maker).put. (*maker).put. (*maker).split, jump. (*maker).jump. The parser's char, join. How many nodes a tree has: the program's Size, the document's Size. Are two trees the same: the program's Same (and slices.EqualFunc).
-/
import Derived.Test.YtbifklibdkjbeaaGreatDoorMg4
import Derived.Test.YtbifklibdkjbeaaGreatDoorPaClsG
import Derived.Deep.AppendLies
import Derived.Lib.SliceRun
import Derived.Deep.RegionLaw
import Derived.BigRegion
import Derived.RegionTactic
import Derived.Handy
import Derived.Deep.QuietTactic
import Derived.BigQuiet
import Derived.Test.YtbifklibdkjbeaaGreatDoorMg5
namespace Go.Proofs.YtbifklibdkjbeaaGreatDoor
open Go.RowKit
set_option linter.unusedVariables false
set_option linter.unusedSimpArgs false
set_option maxRecDepth 100000
set_option maxHeartbeats 4000000
structure Ins where
 op : Int
 set : List (Int × Int)
 x : Nat
 y : Nat
 deriving DecidableEq
structure IV where
 op : Int
 sv : Value
 x : Int
 y : Int
def encP (v : IV) (j : Nat) : Value := if j = 0 then .int .i64 v.op else if j = 1 then v.sv else if j = 2 then .int .i64 v.x else .int .i64 v.y
structure InAt (w : World) (P : Nat → Prop) (v : IV) (i : Ins) : Prop where
 op : v.op = i.op
 x : v.x = (i.x : Int)
 y : v.y = (i.y : Int)
 set : RSl w v.sv i.set
 sb : ∀ b, v.sv.ownBlock = some b → P b
theorem InAt.keepsTo {S P Q : Nat → Prop} {w w' : World} {v : IV} {i : Ins} (h : InAt w P v i) (K : xa S w w') (hs : ∀ b, P b → ¬ S b) (hq : ∀ b, P b → Q b) : InAt w' Q v i :=
 ⟨h.op, h.x, h.y, h.set.keeps K (fun b hb => hs b (h.sb b hb)), fun b hb => hq b (h.sb b hb)⟩
theorem xg2 : (Tryz.prog.info? 251).map (fun i => (i.zero, i.size, i.bytes)) = some (some (.agg #[.int .i64 0, .slice none 0 0, .int .i64 0, .int .i64 0]), 4, 48) := by kernel_rfl
def MkAt (B : Nat → Prop) (w : World) (mb : Nat) (is : List Ins) : Prop :=
 ∃ v ivs, w.heap[mb]? = some (.cells #[v] 248 (0, 0)) ∧ (w.ownsRow 0 251 4 v is.length (cellsOf 4 encP ivs) ∧ ∀ b, v.ownBlock = some b → B b) ∧ ivs.length = is.length ∧
  ∀ (k : Nat) (iv : IV) (i : Ins), ivs[k]? = some iv → is[k]? = some i → InAt w (fun b => B b ∧ b < w.heap.size ∧ v.ownBlock ≠ some b) iv i
theorem xeo (w : World) : RSl w (.slice none 0 0) [] := ⟨SlOf.nil 2 encR w, fun p hp => by simp at hp⟩
theorem xiB (w : World) (e : TypeId) (size : Nat) : (w.alloc (.cells #[] e)).ownsRow w.heap.size e size (.slice (some ⟨w.heap.size, 0, none⟩) 0 0) 0 [] :=
 ⟨by simp, Or.inr ⟨_, 0, #[], rfl, Nat.le_refl _, by simp [World.alloc, -World.alloc_eq], by omega, by unfold maxLen; omega, by simp, by simp⟩⟩
def CloE (l : List (Int × Int)) (w : World) (e : Ending) (w' : World) : Prop := ∃ u, e = .returned u ∧ RSl w' u l ∧ (∀ b, u.ownBlock = some b → w.heap.size ≤ b ∧ b < w'.heap.size) ∧ xa (fun _ => False) w w'
theorem xfI (l : List (Int × Int)) (v : Value) (w : World) (h : RSl w v l) (h0 : v = .slice none 0 0 ∨ l ≠ []) (hl : l.length ≤ 4000) :
 Calls Tryz.prog 196 #[v] w fun e w' => CloE l w e w' := by
 rcases h0 with rfl | h0
 · obtain rfl : l = [] := by
    obtain ⟨a, c, e1, _⟩ := h.1
    obtain ⟨_, e2, _⟩ := Value.slice.inj e1
    exact List.length_eq_zero_iff.1 e2.symm
   clear h hl
   have hE := fun W => Lib.run_eql_slice_nil (P := Tryz.prog) W 151 287 none 0 0 0 0 Tryz.underlying151
   go_enter Tryz.func196, Tryz.ntmps196
   go_wp2_with fail
   go_ret
   exact ⟨_, rfl, xeo _, fun b hb => by simp [Value.ownBlock] at hb, xa.refl _ _⟩
 obtain ⟨i0, hi0, hz0, hz1, hz2⟩ := info_parts xaO
 obtain ⟨a, cap, rfl, hlen, hcl⟩ := h.cells
 obtain ⟨b, off, rfl, hcc⟩ := hcl (List.length_pos_iff.2 h0)
 have hsl := h.1
 have hb : b < w.heap.size := by
  obtain ⟨p, hp⟩ : ∃ p, l[0]? = some p := ⟨_, List.getElem?_eq_getElem (List.length_pos_iff.2 h0)⟩
  exact xay (hcc 0 p hp).1
 have hcells : ∀ (j : Nat) (u : Value), (cellsOf 2 encR l)[j]? = some u → (w.alloc (.cells #[] 287)).cell? ((⟨b, off, none⟩ : Addr).add j) = some u := by
  intro j u hu
  have hj : j < l.length * 2 := by have := (List.getElem?_eq_some_iff.1 hu).1; rwa [xah] at this
  obtain ⟨p, hp⟩ : ∃ p, l[j / 2]? = some p := ⟨_, List.getElem?_eq_getElem (by omega)⟩
  have h1 := xaH 2 encR l (j / 2) p hp (j % 2) (Nat.mod_lt _ (by omega))
  rw [show j / 2 * 2 + j % 2 = j by omega, hu] at h1
  have h2 : w.cell? ⟨b, off + j, none⟩ = some u := by
   obtain ⟨a', c', e1, _, _, hc'⟩ := hsl
   obtain ⟨b', off', e3, hc2⟩ := hc' (List.length_pos_iff.2 h0)
   obtain ⟨e4, _⟩ := Value.slice.inj e1
   rw [e3] at e4
   cases e4
   have := hc2 (j / 2) p hp (j % 2) (Nat.mod_lt _ (by omega))
   rw [show off + j / 2 * 2 + j % 2 = off + j by omega] at this
   rw [this]; exact h1.symm
  have h3 := xad h2 (.cells #[] 287)
  rcases j with _ | j
  · simpa [Addr.add] using h3
  simpa [Addr.add] using h3
 have HC := xoo hcells
 have hE := fun W => Lib.run_eql_slice_nil (P := Tryz.prog) W 151 287 (some ⟨b, off, none⟩) l.length cap 0 0 Tryz.underlying151
 have HR := xoo h.2
 clear hcells hsl hcc hcl h
 go_enter Tryz.func196, Tryz.ntmps196
 go_wp2_with (at_builtin; refine wpList_append_own _ rfl (.tmp 5) (.tmp 6) 151 rfl w.heap.size 287 i0 _ 2 16 Tryz.underlying151 hi0 hz0 hz1 hz2 rfl (by decide) _ 0 [] rfl (xiB w _ 2) ⟨b, off, none⟩ l.length cap (cellsOf 2 encR l) rfl (by rw [xah]) HC.out (xaV _) (by unfold maxLen; omega) (by omega) (by simp) ?_)
 intro v' w2 hown hgrow _
 have hk2 : xa (fun _ => False) w w2 := ((xa.refl (fun _ => False) w).alloc _).trans2 ((xa.refl (fun b => w.heap.size ≤ b) _).grown hgrow (fun b hb => Or.inl (by have := Option.some.inj hb; rw [← this]; exact Nat.le_refl _))) (fun i hi e => by omega)
 have HO := xoo hown
 have HK := xoo hk2
 clear hown hgrow hk2
 go_wp2_with fail
 go_ret
 exact ⟨_, rfl, ⟨SlOf.ofOwn HO.out (by omega), HR.out⟩, fun b hb => ⟨xaa HO.out b hb, xaM HO.out b hb⟩, HK.out⟩
theorem xkg (ad : Addr) (cap : Nat) (w : World) (h : RSl w (.slice (some ad) 0 cap) []) :
 Calls Tryz.prog 196 #[.slice (some ad) 0 cap] w fun e w' => CloE [] w e w' := by
 obtain ⟨i0, hi0, hz0, hz1, hz2⟩ := info_parts xaO
 have hE := fun W => Lib.run_eql_slice_nil (P := Tryz.prog) W 151 287 (some ad) 0 cap 0 0 Tryz.underlying151
 go_enter Tryz.func196, Tryz.ntmps196
 go_wp2_with (at_builtin; refine wpList_append_own _ rfl (.tmp 5) (.tmp 6) 151 rfl w.heap.size 287 i0 _ 2 16 Tryz.underlying151 hi0 hz0 hz1 hz2 rfl (by decide) _ 0 [] rfl (xiB w _ 2) ad 0 cap [] rfl rfl (fun j u h => by simp at h) (fun u h => by simp at h) (by unfold maxLen; omega) (by omega) (by simp) ?_)
 intro v' w2 hown hgrow _
 have hk2 : xa (fun _ => False) w w2 := ((xa.refl (fun _ => False) w).alloc _).trans2 ((xa.refl (fun b => w.heap.size ≤ b) _).grown hgrow (fun b hb => Or.inl (by have := Option.some.inj hb; rw [← this]; exact Nat.le_refl _))) (fun i hi e => by omega)
 have HO := xoo hown
 have HK := xoo hk2
 clear hown hgrow hk2
 go_wp2_with fail
 go_ret
 exact ⟨_, rfl, ⟨SlOf.ofOwn (l := []) HO.out (by simp), fun p hp => by simp at hp⟩, fun b hb => ⟨xaa HO.out b hb, xaM HO.out b hb⟩, HK.out⟩
theorem xmj (l : List (Int × Int)) (v : Value) (w : World) (h : RSl w v l) (hl : l.length ≤ 4000) :
 Calls Tryz.prog 196 #[v] w fun e w' => CloE l w e w' := by
 by_cases h0 : l = []
 · subst h0
   obtain ⟨a, cap, rfl, ⟨_, hn⟩, _⟩ := h.1
   cases a with
   | none =>
    obtain rfl := hn rfl
    exact xfI [] _ w h (Or.inl rfl) hl
   | some ad => exact xkg ad cap w h
 exact xfI l v w h (Or.inr h0) hl
theorem MkAt.push {B : Nat → Prop} {mb : Nat} {w w2 wA w1 : World} {v : Value} {ivs : List IV} {is : List Ins} {iv : IV} {i : Ins} {g cap H : Nat}
 (hbk : w.heap[mb]? = some (.cells #[v] 248 (0, 0))) (hown : w.ownsRow 0 251 4 v is.length (cellsOf 4 encP ivs)) (hvB : ∀ b, v.ownBlock = some b → B b) (hlen : ivs.length = is.length)
 (hin : ∀ (k : Nat) (iv : IV) (i : Ins), ivs[k]? = some iv → is[k]? = some i → InAt w (fun b => B b ∧ b < w.heap.size ∧ v.ownBlock ≠ some b) iv i)
 (hmb : ¬ B mb) (hmw : mb < w.heap.size) (hb : ∀ b, w.heap.size ≤ b → B b) (K : xa (fun _ => False) w w2) (KA : xa (fun _ => False) w2 wA) (hi : InAt w2 (fun b => w.heap.size ≤ b ∧ b < w2.heap.size) iv i)
 (hown1 : w1.ownsRow 0 251 4 (.slice (some ⟨g, 0, none⟩) (is.length + 1) cap) (is.length + 1) (cellsOf 4 encP ivs ++ cellsOf 4 encP [iv]))
 (hg : wA.grownBy w1 v.ownBlock) (hat : v.ownBlock = some g ∨ g = H) (hH : wA.heap.size = H) :
 MkAt B (w1.setCell ⟨mb, 0, none⟩ (.slice (some ⟨g, 0, none⟩) (is.length + 1) cap)) mb (is ++ [i]) ∧
 xa (fun b => b = mb ∨ B b) w (w1.setCell ⟨mb, 0, none⟩ (.slice (some ⟨g, 0, none⟩) (is.length + 1) cap)) := by
 have hvl := xaM hown
 have hs1 := K.size
 have hs2 := KA.size
 have k1 : xa (fun b => v.ownBlock = some b) wA w1 := (xa.refl _ _).grown hg (fun b hb => Or.inl hb)
 have hs3 := k1.size
 have hne : ¬ v.ownBlock = some mb := fun e => hmb (hvB mb e)
 have hbk1 : w1.heap[mb]? = some (.cells #[v] 248 (0, 0)) := by
  rw [k1.block mb (by omega) hne, KA.block mb (by omega) id, K.block mb hmw id]; exact hbk
 have hgb : g ≠ mb := by
  rcases hat with h | h
  · intro e; exact hne (e ▸ h)
  omega
 have hgB : B g := by
  rcases hat with h | h
  · exact hvB g h
  exact hb g (by omega)
 have kS : xa (fun b => b = mb) w1 (w1.setCell ⟨mb, 0, none⟩ (.slice (some ⟨g, 0, none⟩) (is.length + 1) cap)) := (xa.refl (fun b => b = mb) w1).set (p := ⟨mb, 0, none⟩) rfl _
 have hsS := kS.size
 have hgS : g < w1.heap.size := xaM hown1 g rfl
 refine ⟨⟨.slice (some ⟨g, 0, none⟩) (is.length + 1) cap, ivs ++ [iv], ?_, ⟨?_, fun b e => by have h9 : g = b := Option.some.inj e; rw [← h9]; exact hgB⟩, by simp [hlen], ?_⟩, ?_⟩
 · simp [World.setCell, Array.getElem?_modify, hbk1]
 · rw [List.length_append, xag]
   exact xae hown1 kS (fun b e1 e2 => by have h9 : g = b := Option.some.inj e1; omega)
 · intro k iv' i' hk1 hk2
   have far : ∀ b, B b → b < wA.heap.size → v.ownBlock ≠ some b → B b ∧ b < (w1.setCell ⟨mb, 0, none⟩ (.slice (some ⟨g, 0, none⟩) (is.length + 1) cap)).heap.size ∧ (Value.slice (some ⟨g, 0, none⟩) (is.length + 1) cap).ownBlock ≠ some b := fun b h1 h2 h3 => ⟨h1, by omega, fun e => by
    have e2 : g = b := Option.some.inj e
    rcases hat with h | h
    · exact h3 (e2 ▸ h)
    omega⟩
   by_cases hk : k < is.length
   · rw [List.getElem?_append_left (by omega)] at hk1 hk2
     have h1 := hin k iv' i' hk1 hk2
     exact (((h1.keepsTo (Q := fun b => B b ∧ b < w.heap.size ∧ v.ownBlock ≠ some b) K (fun _ _ => id) (fun _ h => h)).keepsTo (Q := fun b => B b ∧ b < w.heap.size ∧ v.ownBlock ≠ some b) KA (fun _ _ => id) (fun _ h => h)).keepsTo (Q := fun b => B b ∧ b < w.heap.size ∧ v.ownBlock ≠ some b) k1 (fun b h e => h.2.2 e) (fun _ h => h)).keepsTo kS (fun b h e => hmb (e ▸ h.1)) (fun b h => far b h.1 (by omega) h.2.2)
   have hk3 : k = is.length := by
    have := (List.getElem?_eq_some_iff.1 hk2).1
    simp at this; omega
   subst hk3
   obtain rfl : iv = iv' := by rw [← hlen] at hk1; simpa using hk1
   obtain rfl : i = i' := by simpa using hk2
   refine ((hi.keepsTo (Q := fun b => w.heap.size ≤ b ∧ b < w2.heap.size) KA (fun _ _ => id) (fun _ h => h)).keepsTo (Q := fun b => w.heap.size ≤ b ∧ b < w2.heap.size) k1 (fun b h e => by have := hvl b e; omega) (fun _ h => h)).keepsTo kS (fun b h e => by omega) (fun b h => far b (hb b h.1) (by omega) (fun e => by have := hvl b e; omega))
 exact (((K.trans KA).mono (T := fun b => b = mb ∨ B b) (fun _ _ e => e.elim)).trans2 k1 (fun b hb e => Or.inr (hvB b e))).trans2 kS (fun b hb e => Or.inl e)
theorem xd8 (B : Nat → Prop) (mb : Nat) (op : Int) (set : List (Int × Int)) (sv : Value) (is : List Ins) (w : World) (h : MkAt B w mb is) (hs : RSl w sv set) (hl : set.length ≤ 4000) (hmb : ¬ B mb) (hb : ∀ b, w.heap.size ≤ b → B b) (hn : is.length ≤ 4000) :
 Calls Tryz.prog 167 #[.pointer (some ⟨mb, 0, none⟩), .int .i64 op, sv] w fun e w' => e = .returned (.int .i64 is.length) ∧ MkAt B w' mb (is ++ [⟨op, set, is.length + 1, 0⟩]) ∧ xa (fun b => b = mb ∨ B b) w w' := by
 obtain ⟨i0, hi0, hz0, hz1, hz2⟩ := info_parts xg2
 obtain ⟨v, ivs, hbk, ⟨hown, hvB⟩, hlen, hin⟩ := h
 obtain ⟨va, vc, rfl⟩ := xac hown
 have c0 : w.cell? ⟨mb, 0, none⟩ = some (.slice va is.length vc) := by rw [Lib.cell_of_heap hbk]; rfl
 have f0 : w.frozen? ⟨mb, 0, none⟩ = false := Lib.frozen_of_heap hbk 0
 have hmw : mb < w.heap.size := (Array.getElem?_eq_some_iff.1 hbk).1
 have hvm : (Value.slice va is.length vc).ownBlock ≠ some mb := fun e => hmb (hvB mb e)
 have HCl : ∀ W, xa (fun _ => False) w W → Calls Tryz.prog 196 #[sv] W fun e w' => ∃ ua uc, e = .returned (.slice ua set.length uc) ∧ w'.cell? ⟨mb, 0, none⟩ = some (.slice va is.length vc) ∧ w'.frozen? ⟨mb, 0, none⟩ = false ∧ Hid (RSl w' (.slice ua set.length uc) set ∧ (∀ b, (Value.slice ua set.length uc).ownBlock = some b → w.heap.size ≤ b ∧ b < w'.heap.size)) ∧ xa (fun _ => False) w w' := fun W kW =>
  (xmj set sv W (hs.keeps kW (fun _ _ => id)) hl).mono fun e w' ⟨u, h1, h2, h3, h4⟩ => by
   obtain ⟨ua, uc, e9, _⟩ := h2.1
   subst e9
   exact ⟨ua, uc, h1, (kW.trans h4).cell c0 id, by rw [(kW.trans h4).frozen f0 hmw id], xoo ⟨h2, fun b hb => by have := h3 b hb; have := kW.size; omega⟩, kW.trans h4⟩
 have HCL := xoo HCl
 have HO := xoo hown
 have HBK := xoo hbk
 have HIN := xoo hin
 have HVB := xoo hvB
 have hw : IntKind.i64.wrap ((is.length : Int) + 1) = (is.length : Int) + 1 := IntWalk.i64_in _ (by omega)
 have c0d : w.drew.cell? ⟨mb, 0, none⟩ = some (.slice va is.length vc) := c0
 clear hbk hown hin HCl hs hvB
 go_enter Tryz.func167, Tryz.ntmps167
 go_wp2_with fail
 go_region_law (first | (refine step_append_lies _ rfl (.tmp 11) (.tmp 22) 191 rfl 0 251 i0 _ 4 48 Tryz.underlying191 hi0 hz0 hz1 hz2 rfl (by decide) _ is.length (cellsOf 4 encP ivs) rfl (xab (xae HO.out ku (fun _ _ => id)) _) ⟨w'.heap.size, 0, none⟩ 1 1 [.int .i64 op, .slice ua set.length uc, .int .i64 ((is.length : Int) + 1), .int .i64 0] rfl rfl (by exact xan w' [_, _, _, _] _) (by simp [Value.oneCell']) (by decide) (by unfold maxLen; omega) (by omega) (Nat.zero_le _) _ rfl ?_; intro g cap w1 hown1 hgrow1 hat1 hlt1; have c1 : w1.cell? ⟨mb, 0, none⟩ = some (.slice va is.length vc) := (hgrow1.cell_far ⟨mb, 0, none⟩ (by have := ku.size; simp; omega) (fun e => hvm e.symm)).trans (xad cu _); have f1 : w1.frozen? ⟨mb, 0, none⟩ = false := (hgrow1.frozen_far ⟨mb, 0, none⟩ (by have := ku.size; simp; omega) (fun e => hvm e.symm)).trans (by have h9 := (xa.refl (fun _ => False) w').alloc (.cells #[.int .i64 op, .slice ua set.length uc, .int .i64 ((is.length : Int) + 1), .int .i64 0] 251); exact h9.frozen fu (by have := ku.size; show mb < w'.heap.size; omega) id)) | (go_simp; go_at_call 196; refine (HCL.out _ ?_).mono ?_; (first | assumption | exact (xa.refl _ _).drew); rintro e w' ⟨ua, uc, rfl, cu, fu, hu, ku⟩; have cuA := xad cu (.cells #[.int .i64 op, .slice ua set.length uc, .int .i64 ((is.length : Int) + 1), .int .i64 0] 251)))
 all_goals
  have hP := MkAt.push (wA := w'.alloc (.cells #[.int .i64 op, .slice ua set.length uc, .int .i64 ((is.length : Int) + 1), .int .i64 0] 251)) (i := ⟨op, set, is.length + 1, 0⟩) (iv := ⟨op, .slice ua set.length uc, (is.length : Int) + 1, 0⟩) HBK.out HO.out HVB.out hlen HIN.out hmb hmw hb ku ((xa.refl _ _).alloc _) ⟨rfl, by push_cast; rfl, rfl, hu.out.1, hu.out.2⟩ hown1 hgrow1 hat1 rfl
  have HP := xoo hP
  clear hP hown1 hgrow1 hat1 cuA
  go_wp2_with fail
  go_ret
  exact ⟨rfl, HP.out⟩
theorem MkAt.lt {B : Nat → Prop} {mb : Nat} {w : World} {is : List Ins} (h : MkAt B w mb is) : mb < w.heap.size := by
 obtain ⟨v, ivs, h1, _⟩ := h
 exact (Array.getElem?_eq_some_iff.1 h1).1
theorem MkAt.keepsS {S B : Nat → Prop} {mb : Nat} {w w' : World} {is : List Ins} (h : MkAt B w mb is) (K : xa S w w') (hm : ¬ S mb) (hS : ∀ b, B b → ¬ S b) : MkAt B w' mb is := by
 have hmb := h.lt
 obtain ⟨v, ivs, h1, ⟨h2, h5⟩, h3, h4⟩ := h
 have := K.size
 exact ⟨v, ivs, by rw [K.block mb hmb hm]; exact h1, ⟨xae h2 K (fun b e => hS b (h5 b e)), h5⟩, h3, fun k iv i a b => (h4 k iv i a b).keepsTo K (fun b hb => hS b hb.1) (fun b hb => ⟨hb.1, by omega, hb.2.2⟩)⟩
theorem MkAt.keepsF {B : Nat → Prop} {mb : Nat} {w w' : World} {is : List Ins} (h : MkAt B w mb is) (K : xa (fun _ => False) w w') : MkAt B w' mb is := h.keepsS K id (fun _ _ => id)
theorem MkAt.but {B : Nat → Prop} {mb : Nat} {w : World} {is : List Ins} (h : MkAt B w mb is) (X : Nat → Prop) (hX : ∀ b, X b → w.heap.size ≤ b) : MkAt (fun b => B b ∧ ¬ X b) w mb is := by
 obtain ⟨v, ivs, h1, ⟨h2, h5⟩, h3, h4⟩ := h
 exact ⟨v, ivs, h1, ⟨h2, fun b e => ⟨h5 b e, fun x => by have := xaM h2 b e; have := hX b x; omega⟩⟩, h3, fun k iv i a b => (h4 k iv i a b).keepsTo (xa.refl (fun _ => False) _) (fun _ _ => id) (fun b hb => ⟨⟨hb.1, fun x => by have := hX b x; omega⟩, hb.2.1, hb.2.2⟩)⟩
theorem MkAt.mono {B C : Nat → Prop} {mb : Nat} {w : World} {is : List Ins} (h : MkAt B w mb is) (hBC : ∀ b, B b → C b) : MkAt C w mb is := by
 obtain ⟨v, ivs, h1, ⟨h2, h5⟩, h3, h4⟩ := h
 exact ⟨v, ivs, h1, ⟨h2, fun b e => hBC b (h5 b e)⟩, h3, fun k iv i a b => (h4 k iv i a b).keepsTo (xa.refl (fun _ => False) _) (fun _ _ => id) (fun b hb => ⟨hBC b hb.1, hb.2.1, hb.2.2⟩)⟩
theorem xcO (B : Nat → Prop) (mb : Nat) (is : List Ins) (w : World) (h : MkAt B w mb is) (hmb : ¬ B mb) (hb : ∀ b, w.heap.size ≤ b → B b) (hn : is.length ≤ 4000) :
 Calls Tryz.prog 197 #[.pointer (some ⟨mb, 0, none⟩)] w fun e w' => e = .returned (.int .i64 is.length) ∧ MkAt B w' mb (is ++ [⟨2, [], is.length + 1, 0⟩]) ∧ xa (fun b => b = mb ∨ B b) w w' := by
 have HP := xoo (xd8 B mb 2 [] (.slice none 0 0) is w h (xeo w) (by simp) hmb hb hn)
 clear h
 go_enter Tryz.func197, Tryz.ntmps197
 go_wp2_with fail
 refine HP.out.mono ?_
 rintro e w2 ⟨rfl, h2, k2⟩
 have H2 := xoo h2
 have K2 := xoo k2
 clear h2 k2
 go_wp2_with fail
 go_ret
 exact ⟨rfl, H2.out, K2.out⟩
theorem xh9 {α : Type} (k : Nat) (enc : α → Nat → Value) (l : List α) (i j : Nat) (x x' : α) (u : Value) (hx : l[i]? = some x) (hj : j < k) (he : ∀ j', j' < k → enc x' j' = if j' = j then u else enc x j') :
 (cellsOf k enc l).set (i * k + j) u = cellsOf k enc (l.set i x') := by
 apply List.ext_getElem?
 intro m
 have hil := (List.getElem?_eq_some_iff.1 hx).1
 by_cases hm : m < l.length * k
 · have hk0 : 0 < k := by omega
   have hmk : m / k < l.length := Nat.div_lt_of_lt_mul (by rw [Nat.mul_comm]; exact hm)
   have hmm := Nat.mod_lt m hk0
   have hdm : m / k * k + m % k = m := by rw [Nat.mul_comm]; exact Nat.div_add_mod m k
   obtain ⟨y, hy⟩ : ∃ y, l[m / k]? = some y := ⟨_, List.getElem?_eq_getElem hmk⟩
   have h1 := xaH k enc l (m / k) y hy (m % k) hmm
   rw [hdm] at h1
   by_cases hmi : m / k = i
   · have h2 := xaH k enc (l.set i x') (m / k) x' (by rw [hmi]; simp [hil]) (m % k) hmm
     rw [hdm] at h2
     rw [h2, he _ hmm, List.getElem?_set]
     have hxy : y = x := by rw [hmi, hx] at hy; exact (Option.some.inj hy).symm
     by_cases hjj : m % k = j
     · rw [if_pos hjj, if_pos (by rw [← hmi, ← hjj]; omega), if_pos (by rw [xah]; rw [← hmi, ← hjj, hdm]; exact hm)]
     rw [if_neg hjj, if_neg (by rw [← hmi]; omega), h1, hxy]
   have h2 := xaH k enc (l.set i x') (m / k) y (by rw [List.getElem?_set, if_neg (fun e => hmi e.symm)]; exact hy) (m % k) hmm
   rw [hdm] at h2
   rw [h2, List.getElem?_set, if_neg, h1]
   intro e
   apply hmi
   rw [← e, Nat.mul_comm, Nat.mul_add_div hk0, Nat.div_eq_of_lt hj, Nat.add_zero]
 rw [List.getElem?_eq_none (by rw [List.length_set, xah]; omega), List.getElem?_eq_none (by rw [xah, List.length_set]; omega)]
structure MkO (B : Nat → Prop) (w : World) (mb : Nat) (is : List Ins) (g n cap : Nat) (ivs : List IV) : Prop where
 bk : w.heap[mb]? = some (.cells #[.slice (some ⟨g, 0, none⟩) n cap] 248 (0, 0))
 own : w.ownsRow 0 251 4 (.slice (some ⟨g, 0, none⟩) n cap) n (cellsOf 4 encP ivs)
 gB : B g
 nn : is.length = n
 len : ivs.length = n
 ins : ∀ (k : Nat) (iv : IV) (i : Ins), ivs[k]? = some iv → is[k]? = some i → InAt w (fun b => B b ∧ b < w.heap.size ∧ g ≠ b) iv i
theorem MkAt.mko {B : Nat → Prop} {mb : Nat} {w : World} {is : List Ins} (h : MkAt B w mb is) (h0 : 0 < is.length) : ∃ g cap ivs, MkO B w mb is g is.length cap ivs := by
 obtain ⟨v, ivs, h1, ⟨h2, h5⟩, h3, h4⟩ := h
 obtain ⟨g, cap, rfl, hg1, hg2⟩ := h2.form h0
 exact ⟨g, cap, ivs, h1, h2, h5 g rfl, rfl, h3, fun k iv i a b => (h4 k iv i a b).keepsTo (xa.refl (fun _ => False) _) (fun _ _ => id) (fun b hb => ⟨hb.1, hb.2.1, fun e => hb.2.2 (by rw [e]; rfl)⟩)⟩
theorem MkO.at {B : Nat → Prop} {mb g n cap : Nat} {w : World} {is : List Ins} {ivs : List IV} (h : MkO B w mb is g n cap ivs) : MkAt B w mb is :=
 ⟨_, ivs, h.bk, ⟨by rw [h.nn]; exact h.own, fun b e => by have h9 : g = b := Option.some.inj e; rw [← h9]; exact h.gB⟩, by rw [h.len, h.nn], fun k iv i a b => (h.ins k iv i a b).keepsTo (xa.refl (fun _ => False) _) (fun _ _ => id) (fun b hb => ⟨hb.1, hb.2.1, fun e => hb.2.2 (Option.some.inj e)⟩)⟩
theorem MkO.store {B : Nat → Prop} {mb g n cap : Nat} {w : World} {is : List Ins} {ivs : List IV} (h : MkO B w mb is g n cap ivs) (hmb : ¬ B mb) {k j : Nat} {iv iv' : IV} {i i' : Ins} (h1 : ivs[k]? = some iv) (h2 : is[k]? = some i) (hj : j < 4) (u : Value)
 (he : ∀ j', j' < 4 → encP iv' j' = if j' = j then u else encP iv j') (ho : iv'.op = iv.op ∧ iv'.sv = iv.sv ∧ i'.op = i.op ∧ i'.set = i.set) (hx : iv'.x = (i'.x : Int)) (hy : iv'.y = (i'.y : Int)) :
 MkO B (w.setCell ⟨g, k * 4 + j, none⟩ u) mb (is.set k i') g n cap (ivs.set k iv') := by
 have hgm : ¬ mb = g := fun e => hmb (e ▸ h.gB)
 obtain ⟨s1, s2⟩ := World.ownsRow.stored h.own (k * 4 + j) u
 have kS : xa (fun b => b = g) w (w.setCell ⟨g, k * 4 + j, none⟩ u) := (xa.refl (fun b => b = g) w).set (p := ⟨g, k * 4 + j, none⟩) rfl _
 have hlt := xaM h.own g rfl
 have hsS := kS.size
 have hmw : mb < w.heap.size := (Array.getElem?_eq_some_iff.1 h.bk).1
 refine ⟨by rw [kS.block mb hmw hgm]; exact h.bk, by rw [← xh9 4 encP ivs k j iv iv' u h1 hj he]; exact s1, h.gB, by rw [List.length_set, h.nn], by rw [List.length_set, h.len], fun m jv ii a b => ?_⟩
 have hki := (List.getElem?_eq_some_iff.1 h1).1
 have hki2 := (List.getElem?_eq_some_iff.1 h2).1
 by_cases hm : m = k
 · subst hm
   obtain rfl : iv' = jv := by simpa [hki] using a
   obtain rfl : i' = ii := by simpa [hki2] using b
   have h3 := (h.ins m iv i h1 h2).keepsTo (Q := fun b => B b ∧ b < (w.setCell ⟨g, m * 4 + j, none⟩ u).heap.size ∧ g ≠ b) kS (fun b hb e => hb.2.2 e.symm) (fun b hb => ⟨hb.1, by omega, hb.2.2⟩)
   exact ⟨by rw [ho.1, ho.2.2.1]; exact h3.op, hx, hy, by rw [ho.2.1, ho.2.2.2]; exact h3.set, by rw [ho.2.1]; exact h3.sb⟩
 rw [List.getElem?_set, if_neg (fun e => hm e.symm)] at a b
 exact (h.ins m jv ii a b).keepsTo kS (fun b hb e => hb.2.2 e.symm) (fun b hb => ⟨hb.1, by omega, hb.2.2⟩)
theorem MkO.cell {B : Nat → Prop} {mb g n cap : Nat} {w : World} {is : List Ins} {ivs : List IV} (h : MkO B w mb is g n cap ivs) {k : Nat} {iv : IV} (hk : ivs[k]? = some iv) {j : Nat} (hj : j < 4) : w.cell? ⟨g, k * 4 + j, none⟩ = some (encP iv j) := by
 have hkl := (List.getElem?_eq_some_iff.1 hk).1
 have hl := h.len
 rw [h.own.cellAt (k * 4 + j) (by omega), xaH 4 encP ivs k iv hk j hj]
theorem MkO.last {B : Nat → Prop} {mb g n cap : Nat} {w : World} {is : List Ins} {ivs : List IV} (h : MkO B w mb is g n cap ivs) {k : Nat} (hk : k < n) : ∃ iv, ivs[k]? = some iv :=
 ⟨_, List.getElem?_eq_getElem (by rw [h.len]; exact hk)⟩
theorem MkO.setXY {B : Nat → Prop} {mb g n cap : Nat} {w : World} {is : List Ins} {ivs : List IV} (h : MkO B w mb is g n cap ivs) (hmb : ¬ B mb) {k : Nat} {iv : IV} {i : Ins} (h1 : ivs[k]? = some iv) (h2 : is[k]? = some i) (x y : Nat) :
 (∃ ivs', MkO B ((w.setCell ⟨g, k * 4 + 2, none⟩ (.int .i64 x)).setCell ⟨g, k * 4 + 3, none⟩ (.int .i64 y)) mb (is.set k ⟨i.op, i.set, x, y⟩) g n cap ivs') ∧
 (∃ ivs', MkO B ((w.setCell ⟨g, k * 4 + 3, none⟩ (.int .i64 y)).setCell ⟨g, k * 4 + 2, none⟩ (.int .i64 x)) mb (is.set k ⟨i.op, i.set, x, y⟩) g n cap ivs') ∧
 (∃ ivs', MkO B (w.setCell ⟨g, k * 4 + 3, none⟩ (.int .i64 y)) mb (is.set k ⟨i.op, i.set, i.x, y⟩) g n cap ivs') := by
 have h3 := h.ins k iv i h1 h2
 have hki := (List.getElem?_eq_some_iff.1 h1).1
 have hki2 := (List.getElem?_eq_some_iff.1 h2).1
 have enc2 : ∀ (v : IV) (z : Int), ∀ j', j' < 4 → encP ⟨v.op, v.sv, z, v.y⟩ j' = if j' = 2 then .int .i64 z else encP v j' := fun v z j' hj => by
  rcases j' with _ | _ | _ | _ | j'
  · rfl
  · rfl
  · rfl
  · rfl
  omega
 have enc3 : ∀ (v : IV) (z : Int), ∀ j', j' < 4 → encP ⟨v.op, v.sv, v.x, z⟩ j' = if j' = 3 then .int .i64 z else encP v j' := fun v z j' hj => by
  rcases j' with _ | _ | _ | _ | j'
  · rfl
  · rfl
  · rfl
  · rfl
  omega
 refine ⟨?_, ?_, ?_⟩
 · have a := h.store hmb h1 h2 (j := 2) (by omega) (.int .i64 x) (iv' := ⟨iv.op, iv.sv, x, iv.y⟩) (i' := ⟨i.op, i.set, x, i.y⟩) (enc2 iv x) ⟨rfl, rfl, rfl, rfl⟩ rfl h3.y
   have b := a.store hmb (k := k) (j := 3) (iv := ⟨iv.op, iv.sv, x, iv.y⟩) (i := ⟨i.op, i.set, x, i.y⟩) (by simp [hki]) (by simp [hki2]) (by omega) (.int .i64 y) (iv' := ⟨iv.op, iv.sv, x, y⟩) (i' := ⟨i.op, i.set, x, y⟩) (enc3 ⟨iv.op, iv.sv, x, iv.y⟩ y) ⟨rfl, rfl, rfl, rfl⟩ rfl rfl
   exact ⟨_, by simpa using b⟩
 · have a := h.store hmb h1 h2 (j := 3) (by omega) (.int .i64 y) (iv' := ⟨iv.op, iv.sv, iv.x, y⟩) (i' := ⟨i.op, i.set, i.x, y⟩) (enc3 iv y) ⟨rfl, rfl, rfl, rfl⟩ h3.x rfl
   have b := a.store hmb (k := k) (j := 2) (iv := ⟨iv.op, iv.sv, iv.x, y⟩) (i := ⟨i.op, i.set, i.x, y⟩) (by simp [hki]) (by simp [hki2]) (by omega) (.int .i64 x) (iv' := ⟨iv.op, iv.sv, x, y⟩) (i' := ⟨i.op, i.set, x, y⟩) (enc2 ⟨iv.op, iv.sv, iv.x, y⟩ x) ⟨rfl, rfl, rfl, rfl⟩ rfl rfl
   exact ⟨_, by simpa using b⟩
 exact ⟨_, h.store hmb h1 h2 (j := 3) (by omega) (.int .i64 y) (iv' := ⟨iv.op, iv.sv, iv.x, y⟩) (i' := ⟨i.op, i.set, i.x, y⟩) (enc3 iv y) ⟨rfl, rfl, rfl, rfl⟩ h3.x rfl⟩
theorem xgR (B : Nat → Prop) (mb tg : Nat) (is : List Ins) (w : World) (h : MkAt B w mb is) (hmb : ¬ B mb) (hb : ∀ b, w.heap.size ≤ b → B b) (hn : is.length ≤ 4000) (ht : tg ≤ 4000) :
 Calls Tryz.prog 198 #[.pointer (some ⟨mb, 0, none⟩), .int .i64 tg] w fun e w' => e = .returned (.int .i64 is.length) ∧ MkAt B w' mb (is ++ [⟨2, [], tg, tg⟩]) ∧ xa (fun b => b = mb ∨ B b) w w' := by
 have HP := xoo (xcO B mb is w h hmb hb hn)
 clear h
 go_enter Tryz.func198, Tryz.ntmps198
 go_wp2_with fail
 refine HP.out.mono ?_
 rintro e w2 ⟨rfl, h2, k2⟩
 obtain ⟨g, cap, ivs, hO⟩ := h2.mko (by simp)
 have hL : (is ++ [(⟨2, [], is.length + 1, 0⟩ : Ins)]).length = is.length + 1 := by simp
 rw [hL] at hO
 obtain ⟨iv, hiv⟩ := hO.last (k := is.length) (by omega)
 have c0 : w2.cell? ⟨mb, 0, none⟩ = some (.slice (some ⟨g, 0, none⟩) (is.length + 1) cap) := by rw [Lib.cell_of_heap hO.bk]; rfl
 have y2 := hO.cell hiv (j := 2) (by omega)
 have y3 := hO.cell hiv (j := 3) (by omega)
 have f2 := hO.own.frozenAt (is.length * 4 + 2)
 have f3 := hO.own.frozenAt (is.length * 4 + 3)
 have hgb := hO.gB
 have hgm : g ≠ mb := fun e => hmb (e ▸ hgb)
 have hmg : mb ≠ g := fun e => hgm e.symm
 have hlast : (is ++ [(⟨2, [], is.length + 1, 0⟩ : Ins)]).set is.length ⟨2, [], tg, tg⟩ = is ++ [⟨2, [], tg, tg⟩] := by simp
 have hXY := hO.setXY hmb hiv (i := ⟨2, [], is.length + 1, 0⟩) (by simp) tg tg
 simp only [hlast] at hXY
 have HXY := xoo hXY
 have K2 := xoo k2
 have e2 : encP iv 2 = .int .i64 iv.x := rfl
 have e3 : encP iv 3 = .int .i64 iv.y := rfl
 rw [e2] at y2
 rw [e3] at y3
 clear hXY k2 hO h2 hL hlast hiv e2 e3
 go_wp2_with fail
 go_region
 go_wp2_with fail
 go_ret
 obtain ⟨_, hM⟩ := HXY.out.1
 exact ⟨rfl, hM.at.keepsF (xa.refl (fun _ => False) _).drew, ((K2.out.set (p := ⟨g, is.length * 4 + 2, none⟩) (Or.inr hgb) _).set (p := ⟨g, is.length * 4 + 3, none⟩) (Or.inr hgb) _).drew⟩
theorem xbr : in64 0 := by unfold in64; decide
theorem xeM : (Tryz.prog.info? 154).map (fun i => (i.zero, i.size, i.bytes)) = some (some (.agg #[.int .i64 0, .slice none 0 0, .int .i64 0, .int .i64 0, .slice none 0 0]), 5, 72) := by kernel_rfl
theorem xeb (a : Option Addr) (n cap : Nat) (w : World) : Calls Tryz.prog 233 #[.slice a n cap] w fun e w' => e = .returned (NV.val ⟨1, .slice a n cap, 0, 0, .slice none 0 0⟩) ∧ xa (fun _ => False) w w' := by
 go_enter Tryz.func233, Tryz.ntmps233
 go_wp2_with fail
 go_returns
 exact ⟨rfl, KI.out⟩
def xa3 : T := ⟨0, [], 0, 0, .nil⟩
def xbx (s : List (Int × Int)) : T := ⟨1, s, 0, 0, .nil⟩
def xa6 (op : Int) (l : List T) : T :=
 match l with
 | [] => xa3
 | [t] => t
 | l => ⟨op, [], 0, 0, F.ofL l⟩
theorem TAt.zero (w : World) (P : Nat → Prop) : TAt w P ⟨0, .slice none 0 0, 0, 0, .slice none 0 0⟩ xa3 :=
 ⟨rfl, rfl, rfl, by unfold in64; decide, by unfold in64; decide, ⟨SlOf.nil _ _ _, fun p hp => by cases hp⟩, fun b hb => by simp [Value.ownBlock] at hb, ⟨[], SlOf.nil _ _ _, rfl⟩, fun b hb => by simp [Value.ownBlock] at hb⟩
theorem RSl.form {w : World} {v : Value} {l : List (Int × Int)} (h : RSl w v l) : ∃ a cap, v = .slice a l.length cap := by
 obtain ⟨⟨a, cap, rfl, _⟩, _⟩ := h; exact ⟨a, cap, rfl⟩
theorem SlOf.form {α : Type} {k : Nat} {enc : α → Nat → Value} {w : World} {v : Value} {l : List α} (h : SlOf k enc w v l) : ∃ a cap, v = .slice a l.length cap := by
 obtain ⟨a, cap, rfl, _⟩ := h; exact ⟨a, cap, rfl⟩
theorem xiT (op : Int) (kv : Value) (vs : List NV) (l : List T) (P : Nat → Prop) (w : World) (hk : SlOf 5 encN w kv vs) (hf : FAt w P (F.ofL l) vs) (hb : ∀ b, kv.ownBlock = some b → P b) :
 Calls Tryz.prog 166 #[.int .i64 op, kv] w fun e w' => ∃ v : NV, e = .returned v.val ∧ TAt w' P v (xa6 op l) ∧ xa (fun _ => False) w w' := by
 have hlen := hf.len
 obtain ⟨a, cap, rfl⟩ := hk.form
 rcases l with _ | ⟨t, _ | ⟨t2, l⟩⟩
 · obtain rfl : vs = [] := List.length_eq_zero_iff.1 hlen
   go_enter Tryz.func166, Tryz.ntmps166
   go_wp2_with fail
   go_returns
   exact ⟨⟨0, .slice none 0 0, 0, 0, .slice none 0 0⟩, rfl, TAt.zero _ _, KI.out⟩
 · obtain ⟨v, rfl⟩ : ∃ v, vs = [v] := List.length_eq_one_iff.1 hlen
   obtain ⟨v', vs', he, ht, _⟩ := FAt.cons_iff.1 hf
   obtain ⟨rfl, rfl⟩ := List.cons.inj he
   obtain ⟨b, off, rfl, hc⟩ := (by obtain ⟨a', cap', he, _, _, hc⟩ := hk; obtain ⟨rfl, _, rfl⟩ := Value.slice.inj he; exact hc (by simp) : ∃ b off, a = some ⟨b, off, none⟩ ∧ ∀ i x, [v][i]? = some x → ∀ j, j < 5 → w.cell? ⟨b, off + i * 5 + j, none⟩ = some (encN x j))
   have x0 : w.cell? ⟨b, off, none⟩ = some (.int .i64 v.op) := by simpa [encN] using hc 0 v rfl 0 (by omega)
   have x1 : w.cell? ⟨b, off + 1, none⟩ = some v.sv := by simpa [encN] using hc 0 v rfl 1 (by omega)
   have x2 : w.cell? ⟨b, off + 2, none⟩ = some (.int .i64 v.mn) := by simpa [encN] using hc 0 v rfl 2 (by omega)
   have x3 : w.cell? ⟨b, off + 3, none⟩ = some (.int .i64 v.mx) := by simpa [encN] using hc 0 v rfl 3 (by omega)
   have x4 : w.cell? ⟨b, off + 4, none⟩ = some v.kv := by simpa [encN] using hc 0 v rfl 4 (by omega)
   clear hc
   have hlt : b < w.heap.size := xay x0
   obtain ⟨vo, vsv, vm, vx, vk⟩ := v
   obtain ⟨a1, c1, e1⟩ := ht.set.form
   obtain ⟨ks, hks, _⟩ := ht.kids
   obtain ⟨a2, c2, e2⟩ := hks.form
   obtain rfl := e1
   obtain rfl := e2
   generalize ks.length = n2 at *
   generalize t.set.length = n1 at *
   have HT := xoo ht
   clear ht hf hk hb hks
   go_enter Tryz.func166, Tryz.ntmps166
   go_wp2_with fail
   go_returns
   have K : xa (fun _ => False) w (w.alloc (.cells #[.int .i64 vo, .slice a1 n1 c1, .int .i64 vm, .int .i64 vx, .slice a2 n2 c2] 154)) := KI.out
   exact ⟨_, rfl, HT.out.keepsTo K (fun _ _ => id) (fun _ h => h), K⟩
 have hl2 : 2 ≤ vs.length := by rw [hlen]; simp
 have HK := xoo hk
 have HF := xoo hf
 have HB := xoo hb
 have g1 : ((vs.length : Int) == 0) = false := beq_eq_false_iff_ne.2 (by omega)
 have g2 : ((vs.length : Int) == 1) = false := beq_eq_false_iff_ne.2 (by omega)
 clear hk hf hb hlen hl2
 generalize vs.length = N at *
 go_enter Tryz.func166, Tryz.ntmps166
 go_wp2_with fail
 go_returns
 have K : xa (fun _ => False) w (w.alloc (.cells #[.int .i64 op, .slice none 0 0, .int .i64 0, .int .i64 0, .slice a N cap] 154)) := KI.out
 exact ⟨⟨op, .slice none 0 0, 0, 0, _⟩, rfl, ⟨rfl, rfl, rfl, xbr, xbr, ⟨SlOf.nil _ _ _, fun p hp => by cases hp⟩, fun b hb => by simp [Value.ownBlock] at hb, ⟨_, HK.out.keep K, HF.out.keepsTo K (fun _ _ => id) (fun _ h => h)⟩, HB.out⟩, K⟩
theorem TAt.open {w : World} {P : Nat → Prop} {v : NV} {t : T} (h : TAt w P v t) : ∃ a1 n1 c1 a2 c2, v.sv = .slice a1 n1 c1 ∧ v.kv = .slice a2 t.kids.toL.length c2 ∧ t.kids.toL.length ≤ 4611686018427387904 ∧
 (0 < t.kids.toL.length → ∃ b off, a2 = some ⟨b, off, none⟩ ∧ ∀ i k, t.kids.toL[i]? = some k → ∃ u : NV, TAt w P u k ∧ (∃ d1 e1 f1, u.sv = .slice d1 e1 f1) ∧ (∃ d2 e2 f2, u.kv = .slice d2 e2 f2) ∧
   w.cell? ⟨b, off + i * 5, none⟩ = some (.int .i64 u.op) ∧ w.cell? ⟨b, off + i * 5 + 1, none⟩ = some u.sv ∧ w.cell? ⟨b, off + i * 5 + 2, none⟩ = some (.int .i64 u.mn) ∧ w.cell? ⟨b, off + i * 5 + 3, none⟩ = some (.int .i64 u.mx) ∧ w.cell? ⟨b, off + i * 5 + 4, none⟩ = some u.kv) := by
 obtain ⟨a1, c1, e1⟩ := h.set.form
 obtain ⟨ks, hk, hf⟩ := h.kids
 rw [← F.of_to t.kids] at hf
 have hl := hf.len
 obtain ⟨a2, c2, e2, hcap, hl2, hc⟩ := hk
 rw [hl] at e2 hl2 hc
 refine ⟨a1, _, c1, a2, c2, e1, e2, hl2, fun h0 => ?_⟩
 obtain ⟨b, off, rfl, hcc⟩ := hc h0
 refine ⟨b, off, rfl, fun i k hi => ?_⟩
 obtain ⟨u, hu, hut⟩ := hf.get hi
 obtain ⟨d1, f1, g1⟩ := hut.set.form
 obtain ⟨ks', hk', _⟩ := hut.kids
 obtain ⟨d2, f2, g2⟩ := hk'.form
 exact ⟨u, hut, ⟨_, _, _, g1⟩, ⟨_, _, _, g2⟩, hcc i u hu 0 (by omega), hcc i u hu 1 (by omega), hcc i u hu 2 (by omega), hcc i u hu 3 (by omega), hcc i u hu 4 (by omega)⟩
def KRow (w : World) (P : Nat → Prop) (a : Option Addr) (L : List T) : Prop :=
 0 < L.length → ∃ b off, a = some ⟨b, off, none⟩ ∧ ∀ i k, L[i]? = some k → ∃ u : NV, TAt w P u k ∧ (∃ d1 e1 f1, u.sv = .slice d1 e1 f1) ∧ (∃ d2 e2 f2, u.kv = .slice d2 e2 f2) ∧
  w.cell? ⟨b, off + i * 5, none⟩ = some (.int .i64 u.op) ∧ w.cell? ⟨b, off + i * 5 + 1, none⟩ = some u.sv ∧ w.cell? ⟨b, off + i * 5 + 2, none⟩ = some (.int .i64 u.mn) ∧ w.cell? ⟨b, off + i * 5 + 3, none⟩ = some (.int .i64 u.mx) ∧ w.cell? ⟨b, off + i * 5 + 4, none⟩ = some u.kv
theorem TAt.krow {w : World} {P : Nat → Prop} {v : NV} {t : T} (h : TAt w P v t) : ∃ a1 n1 c1 a2 c2, v.sv = .slice a1 n1 c1 ∧ v.kv = .slice a2 t.kids.toL.length c2 ∧ t.kids.toL.length ≤ 4611686018427387904 ∧ KRow w P a2 t.kids.toL := h.open
theorem KRow.keep {w w' : World} {P : Nat → Prop} {a : Option Addr} {L : List T} (h : KRow w P a L) (K : xa (fun _ => False) w w') : KRow w' P a L := by
 intro h0
 obtain ⟨b, off, rfl, hc⟩ := h h0
 refine ⟨b, off, rfl, fun i k hi => ?_⟩
 obtain ⟨u, h1, h2, h3, x0, x1, x2, x3, x4⟩ := hc i k hi
 exact ⟨u, h1.keepsTo K (fun _ _ => id) (fun _ h => h), h2, h3, K.cell x0 id, K.cell x1 id, K.cell x2 id, K.cell x3 id, K.cell x4 id⟩
theorem KRow.at {w : World} {P : Nat → Prop} {a : Option Addr} {L : List T} (h : KRow w P a L) {i : Nat} {k : T} (hi : L[i]? = some k) : ∃ b off uo d1 f1 g1 um ux d2 f2 g2, a = some ⟨b, off, none⟩ ∧
 TAt w P ⟨uo, .slice d1 f1 g1, um, ux, .slice d2 f2 g2⟩ k ∧ b < w.heap.size ∧
 w.cell? ⟨b, off + i * 5, none⟩ = some (.int .i64 uo) ∧ w.cell? ⟨b, off + i * 5 + 1, none⟩ = some (.slice d1 f1 g1) ∧ w.cell? ⟨b, off + i * 5 + 2, none⟩ = some (.int .i64 um) ∧ w.cell? ⟨b, off + i * 5 + 3, none⟩ = some (.int .i64 ux) ∧ w.cell? ⟨b, off + i * 5 + 4, none⟩ = some (.slice d2 f2 g2) := by
 have h0 : 0 < L.length := by
  have := (List.getElem?_eq_some_iff.1 hi).1; omega
 obtain ⟨b, off, rfl, hc⟩ := h h0
 obtain ⟨⟨uo, us, um, ux, uk⟩, h1, ⟨d1, f1, g1, q1⟩, ⟨d2, f2, g2, q2⟩, x0, x1, x2, x3, x4⟩ := hc i k hi
 obtain rfl := q1
 obtain rfl := q2
 exact ⟨b, off, uo, d1, f1, g1, um, ux, d2, f2, g2, rfl, h1, xay x0, x0, x1, x2, x3, x4⟩
end Go.Proofs.YtbifklibdkjbeaaGreatDoor
