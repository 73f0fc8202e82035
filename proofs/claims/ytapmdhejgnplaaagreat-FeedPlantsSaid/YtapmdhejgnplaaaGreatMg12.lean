/-
  A program's instructions in memory; slices.Clone, (*maker).put.
-/
import Derived.Test.YtapmdhejgnplaaaGreatMg9
import Derived.Test.YtapmdhejgnplaaaGreatPaClsG
import Derived.Deep.AppendLies
import Derived.Lib.SliceRun
import Derived.Deep.RegionLaw
import Derived.BigRegion
import Derived.RegionTactic
import Derived.Handy
import Derived.Deep.QuietTactic
import Derived.BigQuiet
import Derived.Test.YtapmdhejgnplaaaGreatMg8
namespace Go.Proofs.YtapmdhejgnplaaaGreat
open Go.RowKit Go.Proofs.Tryz
set_option linter.unusedVariables false
set_option linter.unusedSimpArgs false
set_option maxRecDepth 100000
set_option maxHeartbeats 4000000
structure Ins where
 op : Int
 set : LI
 x : Nat
 y : Nat
 deriving DecidableEq
structure IV where
 op : Int
 sv : Value
 x : Int
 y : Int
def encP (v : IV) (j : Nat) : Value := if j = 0 then .int .i64 v.op else if j = 1 then v.sv else if j = 2 then .int .i64 v.x else .int .i64 v.y
structure InAt (w : World) (P : Nat -> Prop) (v : IV) (i : Ins) : Prop where
 op : v.op = i.op
 x : v.x = (i.x : Int)
 y : v.y = (i.y : Int)
 set : RSl w v.sv i.set
 sb : ∀ b, v.sv.ownBlock = some b -> P b
theorem InAt.keepsTo {S P Q : Nat -> Prop} {w w' : World} {v : IV} {i : Ins} (h : InAt w P v i) (K : xaa S w w') (hs : ∀ b, P b -> ¬ S b) (hq : ∀ b, P b -> Q b) : InAt w' Q v i :=
 ⟨h.op, h.x, h.y, h.set.keeps K (fun b hb => hs b (h.sb b hb)), fun b hb => hq b (h.sb b hb)⟩
theorem xg4 : (prog.info? 196).map (fun i => (i.zero, i.size, i.bytes)) = some (some (.agg #[.int .i64 0, .slice none 0 0, .int .i64 0, .int .i64 0]), 4, 48) := by kernel_rfl
def MkAt (B : Nat -> Prop) (w : World) (mb : Nat) (is : List Ins) : Prop :=
 ∃ v ivs, w.heap[mb]? = some (.cells #[v] 193 (0, 0)) /\ (w.ownsRow 0 196 4 v is.length (cellsOf 4 encP ivs) /\ ∀ b, v.ownBlock = some b -> B b) /\ ivs.length = is.length /\
  ∀ (k : Nat) (iv : IV) (i : Ins), ivs[k]? = some iv -> is[k]? = some i -> InAt w (fun b => B b /\ b < w.heap.size /\ v.ownBlock ≠ some b) iv i
theorem xet (w : World) : RSl w (.slice none 0 0) [] := ⟨SlOf.nil 2 encR w, fun p hp => by simp at hp⟩
theorem xiG (w : World) (e : TypeId) (size : Nat) : (w.alloc (.cells #[] e)).ownsRow w.heap.size e size (.slice (some ⟨w.heap.size, 0, none⟩) 0 0) 0 [] :=
 ⟨by simp, Or.inr ⟨_, 0, #[], rfl, Nat.le_refl _, by simp [World.alloc, -World.alloc_eq], by omega, by unfold maxLen; omega, by simp, by simp⟩⟩
def CloE (l : LI) (w : World) (e : Ending) (w' : World) : Prop := ∃ u, e = .returned u /\ RSl w' u l /\ (∀ b, u.ownBlock = some b -> w.heap.size <= b /\ b < w'.heap.size) /\ KF w w'
theorem xfH (l : LI) (v : Value) (w : World) (h : RSl w v l) (h0 : v = .slice none 0 0 \/ l ≠ []) (hl : l.length <= 4000) :
 Calls prog 107 #[v] w fun e w' => CloE l w e w' := by
 rcases h0 with rfl | h0
 · obtain rfl : l = [] := by
    obtain ⟨a, c, e1, _⟩ := h.1
    obtain ⟨_, e2, _⟩ := Value.slice.inj e1
    exact List.length_eq_zero_iff.1 e2.symm
   clear h hl
   have hE := fun W => Lib.run_eql_slice_nil (P := prog) W 70 180 none 0 0 0 0 underlying70
   go_enter func107, ntmps107
   go_wp2
   go_ret
   exact ⟨_, rfl, xet _, fun b hb => by simp [Value.ownBlock] at hb, xaa.refl _ _⟩
 obtain ⟨i0, hi0, hz0, hz1, hz2⟩ := info_parts xaO
 obtain ⟨a, cap, rfl, hlen, hcl⟩ := h.cells
 obtain ⟨b, off, rfl, hcc⟩ := hcl (List.length_pos_iff.2 h0)
 have hsl := h.1
 have hb : b < w.heap.size := by
  obtain ⟨p, hp⟩ : ∃ p, l[0]? = some p := ⟨_, List.getElem?_eq_getElem (List.length_pos_iff.2 h0)⟩
  exact xal (hcc 0 p hp).1
 have hcells : ∀ (j : Nat) (u : Value), (cellsOf 2 encR l)[j]? = some u -> (w.alloc (.cells #[] 180)).cell? ((⟨b, off, none⟩ : Addr).add j) = some u := by
  intro j u hu
  have hj : j < l.length * 2 := by have := (List.getElem?_eq_some_iff.1 hu).1; rwa [xai] at this
  obtain ⟨p, hp⟩ : ∃ p, l[j / 2]? = some p := ⟨_, List.getElem?_eq_getElem (by omega)⟩
  have h1 := xaI 2 encR l (j / 2) p hp (j % 2) (Nat.mod_lt _ (by omega))
  rw [show j / 2 * 2 + j % 2 = j by omega, hu] at h1
  have h2 : w.cell? ⟨b, off + j, none⟩ = some u := by
   obtain ⟨a', c', e1, _, _, hc'⟩ := hsl
   obtain ⟨b', off', e3, hc2⟩ := hc' (List.length_pos_iff.2 h0)
   obtain ⟨e4, _⟩ := Value.slice.inj e1
   rw [e3] at e4
   cases e4
   have := hc2 (j / 2) p hp (j % 2) (Nat.mod_lt _ (by omega))
   rw [show off + j / 2 * 2 + j % 2 = off + j by omega] at this
   rw [this]; exact h1.symm
  have h3 := xaf h2 (.cells #[] 180)
  rcases j with _ | j
  · simpa [Addr.add] using h3
  simpa [Addr.add] using h3
 have HC := xa hcells
 have hE := fun W => Lib.run_eql_slice_nil (P := prog) W 70 180 (some ⟨b, off, none⟩) l.length cap 0 0 underlying70
 have HR := xa h.2
 clear hcells hsl hcc hcl h
 go_enter func107, ntmps107
 go_wp2_with (at_builtin; refine wpList_append_own _ rfl (.tmp 5) (.tmp 6) 70 rfl w.heap.size 180 i0 _ 2 16 underlying70 hi0 hz0 hz1 hz2 rfl (by decide) _ 0 [] rfl (xiG w _ 2) ⟨b, off, none⟩ l.length cap (cellsOf 2 encR l) rfl (by rw [xai]) HC.out (xaU _) (by unfold maxLen; omega) (by omega) (by simp) ?_)
 intro v' w2 hown hgrow _
 have hk2 : KF w w2 := ((xaa.refl (fun _ => False) w).alloc _).trans2 ((xaa.refl (fun b => w.heap.size <= b) _).grown hgrow (fun b hb => Or.inl (by have := Option.some.inj hb; rw [<- this]; exact Nat.le_refl _))) (fun i hi e => by omega)
 have HO := xa hown
 have HK := xa hk2
 clear hown hgrow hk2
 go_wp2
 go_ret
 exact ⟨_, rfl, ⟨SlOf.ofOwn HO.out (by omega), HR.out⟩, fun b hb => ⟨xab HO.out b hb, xaM HO.out b hb⟩, HK.out⟩
theorem xkm (ad : Addr) (cap : Nat) (w : World) (h : RSl w (.slice (some ad) 0 cap) []) :
 Calls prog 107 #[.slice (some ad) 0 cap] w fun e w' => CloE [] w e w' := by
 obtain ⟨i0, hi0, hz0, hz1, hz2⟩ := info_parts xaO
 have hE := fun W => Lib.run_eql_slice_nil (P := prog) W 70 180 (some ad) 0 cap 0 0 underlying70
 go_enter func107, ntmps107
 go_wp2_with (at_builtin; refine wpList_append_own _ rfl (.tmp 5) (.tmp 6) 70 rfl w.heap.size 180 i0 _ 2 16 underlying70 hi0 hz0 hz1 hz2 rfl (by decide) _ 0 [] rfl (xiG w _ 2) ad 0 cap [] rfl rfl (fun j u h => by simp at h) (fun u h => by simp at h) (by unfold maxLen; omega) (by omega) (by simp) ?_)
 intro v' w2 hown hgrow _
 have hk2 : KF w w2 := ((xaa.refl (fun _ => False) w).alloc _).trans2 ((xaa.refl (fun b => w.heap.size <= b) _).grown hgrow (fun b hb => Or.inl (by have := Option.some.inj hb; rw [<- this]; exact Nat.le_refl _))) (fun i hi e => by omega)
 have HO := xa hown
 have HK := xa hk2
 clear hown hgrow hk2
 go_wp2
 go_ret
 exact ⟨_, rfl, ⟨SlOf.ofOwn (l := []) HO.out (by simp), fun p hp => by simp at hp⟩, fun b hb => ⟨xab HO.out b hb, xaM HO.out b hb⟩, HK.out⟩
theorem xma (l : LI) (v : Value) (w : World) (h : RSl w v l) (hl : l.length <= 4000) :
 Calls prog 107 #[v] w fun e w' => CloE l w e w' := by
 by_cases h0 : l = []
 · subst h0
   obtain ⟨a, cap, rfl, ⟨_, hn⟩, _⟩ := h.1
   cases a with
   | none =>
    obtain rfl := hn rfl
    exact xfH [] _ w h (Or.inl rfl) hl
   | some ad => exact xkm ad cap w h
 exact xfH l v w h (Or.inr h0) hl
theorem MkAt.push {B : Nat -> Prop} {mb : Nat} {w w2 wA w1 : World} {v : Value} {ivs : List IV} {is : List Ins} {iv : IV} {i : Ins} {g cap H : Nat}
 (hbk : w.heap[mb]? = some (.cells #[v] 193 (0, 0))) (hown : w.ownsRow 0 196 4 v is.length (cellsOf 4 encP ivs)) (hvB : ∀ b, v.ownBlock = some b -> B b) (hlen : ivs.length = is.length)
 (hin : ∀ (k : Nat) (iv : IV) (i : Ins), ivs[k]? = some iv -> is[k]? = some i -> InAt w (fun b => B b /\ b < w.heap.size /\ v.ownBlock ≠ some b) iv i)
 (hmb : ¬ B mb) (hmw : mb < w.heap.size) (hb : ∀ b, w.heap.size <= b -> B b) (K : KF w w2) (KA : KF w2 wA) (hi : InAt w2 (fun b => w.heap.size <= b /\ b < w2.heap.size) iv i)
 (hown1 : w1.ownsRow 0 196 4 (.slice (some ⟨g, 0, none⟩) (is.length + 1) cap) (is.length + 1) (cellsOf 4 encP ivs ++ cellsOf 4 encP [iv]))
 (hg : wA.grownBy w1 v.ownBlock) (hat : v.ownBlock = some g \/ g = H) (hH : wA.heap.size = H) :
 MkAt B (w1.setCell ⟨mb, 0, none⟩ (.slice (some ⟨g, 0, none⟩) (is.length + 1) cap)) mb (is ++ [i]) /\
 xaa (fun b => b = mb \/ B b) w (w1.setCell ⟨mb, 0, none⟩ (.slice (some ⟨g, 0, none⟩) (is.length + 1) cap)) := by
 have hvl := xaM hown
 have hs1 := K.size
 have hs2 := KA.size
 have k1 : xaa (fun b => v.ownBlock = some b) wA w1 := (xaa.refl _ _).grown hg (fun b hb => Or.inl hb)
 have hs3 := k1.size
 have hne : ¬ v.ownBlock = some mb := fun e => hmb (hvB mb e)
 have hbk1 : w1.heap[mb]? = some (.cells #[v] 193 (0, 0)) := by
  rw [k1.block mb (by omega) hne, KA.block mb (by omega) id, K.block mb hmw id]; exact hbk
 have hgb : g ≠ mb := by
  rcases hat with h | h
  · intro e; exact hne (e ▸ h)
  omega
 have hgB : B g := by
  rcases hat with h | h
  · exact hvB g h
  exact hb g (by omega)
 have kS : xaa (fun b => b = mb) w1 (w1.setCell ⟨mb, 0, none⟩ (.slice (some ⟨g, 0, none⟩) (is.length + 1) cap)) := (xaa.refl (fun b => b = mb) w1).set (p := ⟨mb, 0, none⟩) rfl _
 have hsS := kS.size
 have hgS : g < w1.heap.size := xaM hown1 g rfl
 refine ⟨⟨.slice (some ⟨g, 0, none⟩) (is.length + 1) cap, ivs ++ [iv], ?_, ⟨?_, fun b e => by have h9 : g = b := Option.some.inj e; rw [<- h9]; exact hgB⟩, by simp [hlen], ?_⟩, ?_⟩
 · simp [World.setCell, Array.getElem?_modify, hbk1]
 · rw [List.length_append, xah]
   exact xag hown1 kS (fun b e1 e2 => by have h9 : g = b := Option.some.inj e1; omega)
 · intro k iv' i' hk1 hk2
   have far : ∀ b, B b -> b < wA.heap.size -> v.ownBlock ≠ some b -> B b /\ b < (w1.setCell ⟨mb, 0, none⟩ (.slice (some ⟨g, 0, none⟩) (is.length + 1) cap)).heap.size /\ (Value.slice (some ⟨g, 0, none⟩) (is.length + 1) cap).ownBlock ≠ some b := fun b h1 h2 h3 => ⟨h1, by omega, fun e => by
    have e2 : g = b := Option.some.inj e
    rcases hat with h | h
    · exact h3 (e2 ▸ h)
    omega⟩
   by_cases hk : k < is.length
   · rw [List.getElem?_append_left (by omega)] at hk1 hk2
     have h1 := hin k iv' i' hk1 hk2
     exact (((h1.keepsTo (Q := fun b => B b /\ b < w.heap.size /\ v.ownBlock ≠ some b) K (fun _ _ => id) (fun _ h => h)).keepsTo (Q := fun b => B b /\ b < w.heap.size /\ v.ownBlock ≠ some b) KA (fun _ _ => id) (fun _ h => h)).keepsTo (Q := fun b => B b /\ b < w.heap.size /\ v.ownBlock ≠ some b) k1 (fun b h e => h.2.2 e) (fun _ h => h)).keepsTo kS (fun b h e => hmb (e ▸ h.1)) (fun b h => far b h.1 (by omega) h.2.2)
   have hk3 : k = is.length := by
    have := (List.getElem?_eq_some_iff.1 hk2).1
    simp at this; omega
   subst hk3
   obtain rfl : iv = iv' := by rw [<- hlen] at hk1; simpa using hk1
   obtain rfl : i = i' := by simpa using hk2
   refine ((hi.keepsTo (Q := fun b => w.heap.size <= b /\ b < w2.heap.size) KA (fun _ _ => id) (fun _ h => h)).keepsTo (Q := fun b => w.heap.size <= b /\ b < w2.heap.size) k1 (fun b h e => by have := hvl b e; omega) (fun _ h => h)).keepsTo kS (fun b h e => by omega) (fun b h => far b (hb b h.1) (by omega) (fun e => by have := hvl b e; omega))
 exact (((K.trans KA).mono (T := fun b => b = mb \/ B b) (fun _ _ e => e.elim)).trans2 k1 (fun b hb e => Or.inr (hvB b e))).trans2 kS (fun b hb e => Or.inl e)
theorem xec (B : Nat -> Prop) (mb : Nat) (op : Int) (set : LI) (sv : Value) (is : List Ins) (w : World) (h : MkAt B w mb is) (hs : RSl w sv set) (hl : set.length <= 4000) (hmb : ¬ B mb) (hb : ∀ b, w.heap.size <= b -> B b) (hn : is.length <= 4000) :
 Calls prog 94 #[.pointer (some ⟨mb, 0, none⟩), .int .i64 op, sv] w fun e w' => e = .returned (.int .i64 is.length) /\ MkAt B w' mb (is ++ [⟨op, set, is.length + 1, 0⟩]) /\ xaa (fun b => b = mb \/ B b) w w' := by
 obtain ⟨i0, hi0, hz0, hz1, hz2⟩ := info_parts xg4
 obtain ⟨v, ivs, hbk, ⟨hown, hvB⟩, hlen, hin⟩ := h
 obtain ⟨va, vc, rfl⟩ := xad hown
 have c0 : w.cell? ⟨mb, 0, none⟩ = some (.slice va is.length vc) := by rw [Lib.cell_of_heap hbk]; rfl
 have f0 : w.frozen? ⟨mb, 0, none⟩ = false := Lib.frozen_of_heap hbk 0
 have hmw : mb < w.heap.size := (Array.getElem?_eq_some_iff.1 hbk).1
 have hvm : (Value.slice va is.length vc).ownBlock ≠ some mb := fun e => hmb (hvB mb e)
 have HCl : ∀ W, KF w W -> Calls prog 107 #[sv] W fun e w' => ∃ ua uc, e = .returned (.slice ua set.length uc) /\ w'.cell? ⟨mb, 0, none⟩ = some (.slice va is.length vc) /\ w'.frozen? ⟨mb, 0, none⟩ = false /\ Hid (RSl w' (.slice ua set.length uc) set /\ (∀ b, (Value.slice ua set.length uc).ownBlock = some b -> w.heap.size <= b /\ b < w'.heap.size)) /\ KF w w' := fun W kW =>
  (xma set sv W (hs.keeps kW (fun _ _ => id)) hl).mono fun e w' ⟨u, h1, h2, h3, h4⟩ => by
   obtain ⟨ua, uc, e9, _⟩ := h2.1
   subst e9
   exact ⟨ua, uc, h1, (kW.trans h4).cell c0 id, by rw [(kW.trans h4).frozen f0 hmw id], xa ⟨h2, fun b hb => by have := h3 b hb; have := kW.size; omega⟩, kW.trans h4⟩
 have HCL := xa HCl
 have HO := xa hown
 have HBK := xa hbk
 have HIN := xa hin
 have HVB := xa hvB
 have hw : IntKind.i64.wrap ((is.length : Int) + 1) = (is.length : Int) + 1 := IntWalk.i64_in _ (by omega)
 have c0d : w.drew.cell? ⟨mb, 0, none⟩ = some (.slice va is.length vc) := c0
 clear hbk hown hin HCl hs hvB
 go_enter func94, ntmps94
 go_wp2_with fail
 go_region_law (first | (refine step_append_lies _ rfl (.tmp 11) (.tmp 22) 159 rfl 0 196 i0 _ 4 48 underlying159 hi0 hz0 hz1 hz2 rfl (by decide) _ is.length (cellsOf 4 encP ivs) rfl (xac (xag HO.out ku (fun _ _ => id)) _) ⟨w'.heap.size, 0, none⟩ 1 1 [.int .i64 op, .slice ua set.length uc, .int .i64 ((is.length : Int) + 1), .int .i64 0] rfl rfl (by exact xaq w' [_, _, _, _] _) (by simp [Value.oneCell']) (by decide) (by unfold maxLen; omega) (by omega) (Nat.zero_le _) _ rfl ?_; intro g cap w1 hown1 hgrow1 hat1 hlt1; have c1 : w1.cell? ⟨mb, 0, none⟩ = some (.slice va is.length vc) := (hgrow1.cell_far ⟨mb, 0, none⟩ (by have := ku.size; simp; omega) (fun e => hvm e.symm)).trans (xaf cu _); have f1 : w1.frozen? ⟨mb, 0, none⟩ = false := (hgrow1.frozen_far ⟨mb, 0, none⟩ (by have := ku.size; simp; omega) (fun e => hvm e.symm)).trans (by have h9 := (xaa.refl (fun _ => False) w').alloc (.cells #[.int .i64 op, .slice ua set.length uc, .int .i64 ((is.length : Int) + 1), .int .i64 0] 196); exact h9.frozen fu (by have := ku.size; show mb < w'.heap.size; omega) id)) | (go_simp; go_at_call 107; refine (HCL.out _ ?_).mono ?_; (first | assumption | exact (xaa.refl _ _).drew); rintro e w' ⟨ua, uc, rfl, cu, fu, hu, ku⟩; have cuA := xaf cu (.cells #[.int .i64 op, .slice ua set.length uc, .int .i64 ((is.length : Int) + 1), .int .i64 0] 196)))
 all_goals
  have hP := MkAt.push (wA := w'.alloc (.cells #[.int .i64 op, .slice ua set.length uc, .int .i64 ((is.length : Int) + 1), .int .i64 0] 196)) (i := ⟨op, set, is.length + 1, 0⟩) (iv := ⟨op, .slice ua set.length uc, (is.length : Int) + 1, 0⟩) HBK.out HO.out HVB.out hlen HIN.out hmb hmw hb ku ((xaa.refl _ _).alloc _) ⟨rfl, by push_cast; rfl, rfl, hu.out.1, hu.out.2⟩ hown1 hgrow1 hat1 rfl
  have HP := xa hP
  clear hP hown1 hgrow1 hat1 cuA
  go_wp2
  go_ret
  exact ⟨rfl, HP.out⟩
theorem MkAt.lt {B : Nat -> Prop} {mb : Nat} {w : World} {is : List Ins} (h : MkAt B w mb is) : mb < w.heap.size := by
 obtain ⟨v, ivs, h1, _⟩ := h
 exact (Array.getElem?_eq_some_iff.1 h1).1
theorem MkAt.keepsS {S B : Nat -> Prop} {mb : Nat} {w w' : World} {is : List Ins} (h : MkAt B w mb is) (K : xaa S w w') (hm : ¬ S mb) (hS : ∀ b, B b -> ¬ S b) : MkAt B w' mb is := by
 have hmb := h.lt
 obtain ⟨v, ivs, h1, ⟨h2, h5⟩, h3, h4⟩ := h
 have := K.size
 exact ⟨v, ivs, by rw [K.block mb hmb hm]; exact h1, ⟨xag h2 K (fun b e => hS b (h5 b e)), h5⟩, h3, fun k iv i a b => (h4 k iv i a b).keepsTo K (fun b hb => hS b hb.1) (fun b hb => ⟨hb.1, by omega, hb.2.2⟩)⟩
theorem MkAt.keepsF {B : Nat -> Prop} {mb : Nat} {w w' : World} {is : List Ins} (h : MkAt B w mb is) (K : KF w w') : MkAt B w' mb is := h.keepsS K id (fun _ _ => id)
theorem MkAt.but {B : Nat -> Prop} {mb : Nat} {w : World} {is : List Ins} (h : MkAt B w mb is) (X : Nat -> Prop) (hX : ∀ b, X b -> w.heap.size <= b) : MkAt (fun b => B b /\ ¬ X b) w mb is := by
 obtain ⟨v, ivs, h1, ⟨h2, h5⟩, h3, h4⟩ := h
 exact ⟨v, ivs, h1, ⟨h2, fun b e => ⟨h5 b e, fun x => by have := xaM h2 b e; have := hX b x; omega⟩⟩, h3, fun k iv i a b => (h4 k iv i a b).keepsTo (xaa.refl (fun _ => False) _) (fun _ _ => id) (fun b hb => ⟨⟨hb.1, fun x => by have := hX b x; omega⟩, hb.2.1, hb.2.2⟩)⟩
theorem MkAt.mono {B C : Nat -> Prop} {mb : Nat} {w : World} {is : List Ins} (h : MkAt B w mb is) (hBC : ∀ b, B b -> C b) : MkAt C w mb is := by
 obtain ⟨v, ivs, h1, ⟨h2, h5⟩, h3, h4⟩ := h
 exact ⟨v, ivs, h1, ⟨h2, fun b e => hBC b (h5 b e)⟩, h3, fun k iv i a b => (h4 k iv i a b).keepsTo (xaa.refl (fun _ => False) _) (fun _ _ => id) (fun b hb => ⟨hBC b hb.1, hb.2.1, hb.2.2⟩)⟩
theorem xcR (B : Nat -> Prop) (mb : Nat) (is : List Ins) (w : World) (h : MkAt B w mb is) (hmb : ¬ B mb) (hb : ∀ b, w.heap.size <= b -> B b) (hn : is.length <= 4000) :
 Calls prog 108 #[.pointer (some ⟨mb, 0, none⟩)] w fun e w' => e = .returned (.int .i64 is.length) /\ MkAt B w' mb (is ++ [⟨2, [], is.length + 1, 0⟩]) /\ xaa (fun b => b = mb \/ B b) w w' := by
 have HP := xa (xec B mb 2 [] (.slice none 0 0) is w h (xet w) (by simp) hmb hb hn)
 clear h
 go_enter func108, ntmps108
 go_wp2_with fail
 refine HP.out.mono ?_
 rintro e w2 ⟨rfl, h2, k2⟩
 have H2 := xa h2
 have K2 := xa k2
 clear h2 k2
 go_wp2
 go_ret
 exact ⟨rfl, H2.out, K2.out⟩
theorem xic {α : Type} (k : Nat) (enc : α -> Nat -> Value) (l : List α) (i j : Nat) (x x' : α) (u : Value) (hx : l[i]? = some x) (hj : j < k) (he : ∀ j', j' < k -> enc x' j' = if j' = j then u else enc x j') :
 (cellsOf k enc l).set (i * k + j) u = cellsOf k enc (l.set i x') := by
 apply List.ext_getElem?
 intro m
 have hil := (List.getElem?_eq_some_iff.1 hx).1
 by_cases hm : m < l.length * k
 · have hk0 : 0 < k := by omega
   have hmk : m / k < l.length := Nat.div_lt_of_lt_mul (by rw [Nat.mul_comm]; exact hm)
   have hmm := Nat.mod_lt m hk0
   have hdm : m / k * k + m % k = m := by rw [Nat.mul_comm]; exact Nat.div_add_mod m k
   obtain ⟨y, hy⟩ : ∃ y, l[m / k]? = some y := ⟨_, List.getElem?_eq_getElem hmk⟩
   have h1 := xaI k enc l (m / k) y hy (m % k) hmm
   rw [hdm] at h1
   by_cases hmi : m / k = i
   · have h2 := xaI k enc (l.set i x') (m / k) x' (by rw [hmi]; simp [hil]) (m % k) hmm
     rw [hdm] at h2
     rw [h2, he _ hmm, List.getElem?_set]
     have hxy : y = x := by rw [hmi, hx] at hy; exact (Option.some.inj hy).symm
     by_cases hjj : m % k = j
     · rw [if_pos hjj, if_pos (by rw [<- hmi, <- hjj]; omega), if_pos (by rw [xai]; rw [<- hmi, <- hjj, hdm]; exact hm)]
     rw [if_neg hjj, if_neg (by rw [<- hmi]; omega), h1, hxy]
   have h2 := xaI k enc (l.set i x') (m / k) y (by rw [List.getElem?_set, if_neg (fun e => hmi e.symm)]; exact hy) (m % k) hmm
   rw [hdm] at h2
   rw [h2, List.getElem?_set, if_neg, h1]
   intro e
   apply hmi
   rw [<- e, Nat.mul_comm, Nat.mul_add_div hk0, Nat.div_eq_of_lt hj, Nat.add_zero]
 rw [List.getElem?_eq_none (by rw [List.length_set, xai]; omega), List.getElem?_eq_none (by rw [xai, List.length_set]; omega)]
structure MkO (B : Nat -> Prop) (w : World) (mb : Nat) (is : List Ins) (g n cap : Nat) (ivs : List IV) : Prop where
 bk : w.heap[mb]? = some (.cells #[.slice (some ⟨g, 0, none⟩) n cap] 193 (0, 0))
 own : w.ownsRow 0 196 4 (.slice (some ⟨g, 0, none⟩) n cap) n (cellsOf 4 encP ivs)
 gB : B g
 nn : is.length = n
 len : ivs.length = n
 ins : ∀ (k : Nat) (iv : IV) (i : Ins), ivs[k]? = some iv -> is[k]? = some i -> InAt w (fun b => B b /\ b < w.heap.size /\ g ≠ b) iv i
theorem MkAt.mko {B : Nat -> Prop} {mb : Nat} {w : World} {is : List Ins} (h : MkAt B w mb is) (h0 : 0 < is.length) : ∃ g cap ivs, MkO B w mb is g is.length cap ivs := by
 obtain ⟨v, ivs, h1, ⟨h2, h5⟩, h3, h4⟩ := h
 obtain ⟨g, cap, rfl, hg1, hg2⟩ := h2.form h0
 exact ⟨g, cap, ivs, h1, h2, h5 g rfl, rfl, h3, fun k iv i a b => (h4 k iv i a b).keepsTo (xaa.refl (fun _ => False) _) (fun _ _ => id) (fun b hb => ⟨hb.1, hb.2.1, fun e => hb.2.2 (by rw [e]; rfl)⟩)⟩
theorem MkO.at {B : Nat -> Prop} {mb g n cap : Nat} {w : World} {is : List Ins} {ivs : List IV} (h : MkO B w mb is g n cap ivs) : MkAt B w mb is :=
 ⟨_, ivs, h.bk, ⟨by rw [h.nn]; exact h.own, fun b e => by have h9 : g = b := Option.some.inj e; rw [<- h9]; exact h.gB⟩, by rw [h.len, h.nn], fun k iv i a b => (h.ins k iv i a b).keepsTo (xaa.refl (fun _ => False) _) (fun _ _ => id) (fun b hb => ⟨hb.1, hb.2.1, fun e => hb.2.2 (Option.some.inj e)⟩)⟩
theorem MkO.store {B : Nat -> Prop} {mb g n cap : Nat} {w : World} {is : List Ins} {ivs : List IV} (h : MkO B w mb is g n cap ivs) (hmb : ¬ B mb) {k j : Nat} {iv iv' : IV} {i i' : Ins} (h1 : ivs[k]? = some iv) (h2 : is[k]? = some i) (hj : j < 4) (u : Value)
 (he : ∀ j', j' < 4 -> encP iv' j' = if j' = j then u else encP iv j') (ho : iv'.op = iv.op /\ iv'.sv = iv.sv /\ i'.op = i.op /\ i'.set = i.set) (hx : iv'.x = (i'.x : Int)) (hy : iv'.y = (i'.y : Int)) :
 MkO B (w.setCell ⟨g, k * 4 + j, none⟩ u) mb (is.set k i') g n cap (ivs.set k iv') := by
 have hgm : ¬ mb = g := fun e => hmb (e ▸ h.gB)
 obtain ⟨s1, s2⟩ := World.ownsRow.stored h.own (k * 4 + j) u
 have kS : xaa (fun b => b = g) w (w.setCell ⟨g, k * 4 + j, none⟩ u) := (xaa.refl (fun b => b = g) w).set (p := ⟨g, k * 4 + j, none⟩) rfl _
 have hlt := xaM h.own g rfl
 have hsS := kS.size
 have hmw : mb < w.heap.size := (Array.getElem?_eq_some_iff.1 h.bk).1
 refine ⟨by rw [kS.block mb hmw hgm]; exact h.bk, by rw [<- xic 4 encP ivs k j iv iv' u h1 hj he]; exact s1, h.gB, by rw [List.length_set, h.nn], by rw [List.length_set, h.len], fun m jv ii a b => ?_⟩
 have hki := (List.getElem?_eq_some_iff.1 h1).1
 have hki2 := (List.getElem?_eq_some_iff.1 h2).1
 by_cases hm : m = k
 · subst hm
   obtain rfl : iv' = jv := by simpa [hki] using a
   obtain rfl : i' = ii := by simpa [hki2] using b
   have h3 := (h.ins m iv i h1 h2).keepsTo (Q := fun b => B b /\ b < (w.setCell ⟨g, m * 4 + j, none⟩ u).heap.size /\ g ≠ b) kS (fun b hb e => hb.2.2 e.symm) (fun b hb => ⟨hb.1, by omega, hb.2.2⟩)
   exact ⟨by rw [ho.1, ho.2.2.1]; exact h3.op, hx, hy, by rw [ho.2.1, ho.2.2.2]; exact h3.set, by rw [ho.2.1]; exact h3.sb⟩
 rw [List.getElem?_set, if_neg (fun e => hm e.symm)] at a b
 exact (h.ins m jv ii a b).keepsTo kS (fun b hb e => hb.2.2 e.symm) (fun b hb => ⟨hb.1, by omega, hb.2.2⟩)
theorem MkO.cell {B : Nat -> Prop} {mb g n cap : Nat} {w : World} {is : List Ins} {ivs : List IV} (h : MkO B w mb is g n cap ivs) {k : Nat} {iv : IV} (hk : ivs[k]? = some iv) {j : Nat} (hj : j < 4) : w.cell? ⟨g, k * 4 + j, none⟩ = some (encP iv j) := by
 have hkl := (List.getElem?_eq_some_iff.1 hk).1
 have hl := h.len
 rw [h.own.cellAt (k * 4 + j) (by omega), xaI 4 encP ivs k iv hk j hj]
theorem MkO.last {B : Nat -> Prop} {mb g n cap : Nat} {w : World} {is : List Ins} {ivs : List IV} (h : MkO B w mb is g n cap ivs) {k : Nat} (hk : k < n) : ∃ iv, ivs[k]? = some iv :=
 ⟨_, List.getElem?_eq_getElem (by rw [h.len]; exact hk)⟩
theorem MkO.setXY {B : Nat -> Prop} {mb g n cap : Nat} {w : World} {is : List Ins} {ivs : List IV} (h : MkO B w mb is g n cap ivs) (hmb : ¬ B mb) {k : Nat} {iv : IV} {i : Ins} (h1 : ivs[k]? = some iv) (h2 : is[k]? = some i) (x y : Nat) :
 (∃ ivs', MkO B ((w.setCell ⟨g, k * 4 + 2, none⟩ (.int .i64 x)).setCell ⟨g, k * 4 + 3, none⟩ (.int .i64 y)) mb (is.set k ⟨i.op, i.set, x, y⟩) g n cap ivs') /\
 (∃ ivs', MkO B ((w.setCell ⟨g, k * 4 + 3, none⟩ (.int .i64 y)).setCell ⟨g, k * 4 + 2, none⟩ (.int .i64 x)) mb (is.set k ⟨i.op, i.set, x, y⟩) g n cap ivs') /\
 (∃ ivs', MkO B (w.setCell ⟨g, k * 4 + 3, none⟩ (.int .i64 y)) mb (is.set k ⟨i.op, i.set, i.x, y⟩) g n cap ivs') := by
 have h3 := h.ins k iv i h1 h2
 have hki := (List.getElem?_eq_some_iff.1 h1).1
 have hki2 := (List.getElem?_eq_some_iff.1 h2).1
 have enc2 : ∀ (v : IV) (z : Int), ∀ j', j' < 4 -> encP ⟨v.op, v.sv, z, v.y⟩ j' = if j' = 2 then .int .i64 z else encP v j' := fun v z j' hj => by
  rcases j' with _ | _ | _ | _ | j'
  · rfl
  · rfl
  · rfl
  · rfl
  omega
 have enc3 : ∀ (v : IV) (z : Int), ∀ j', j' < 4 -> encP ⟨v.op, v.sv, v.x, z⟩ j' = if j' = 3 then .int .i64 z else encP v j' := fun v z j' hj => by
  rcases j' with _ | _ | _ | _ | j'
  · rfl
  · rfl
  · rfl
  · rfl
  omega
 refine ⟨?_, ?_, ?_⟩
 · have a := h.store hmb h1 h2 (j := 2) (by omega) (.int .i64 x) (iv' := ⟨iv.op, iv.sv, x, iv.y⟩) (i' := ⟨i.op, i.set, x, i.y⟩) (enc2 iv x) ⟨rfl, rfl, rfl, rfl⟩ rfl h3.y
   have b := a.store hmb (k := k) (j := 3) (iv := ⟨iv.op, iv.sv, x, iv.y⟩) (i := ⟨i.op, i.set, x, i.y⟩) (by simp [hki]) (by simp [hki2]) (by omega) (.int .i64 y) (iv' := ⟨iv.op, iv.sv, x, y⟩) (i' := ⟨i.op, i.set, x, y⟩) (enc3 ⟨iv.op, iv.sv, x, iv.y⟩ y) ⟨rfl, rfl, rfl, rfl⟩ rfl rfl
   exact ⟨_, by simpa using b⟩
 · have a := h.store hmb h1 h2 (j := 3) (by omega) (.int .i64 y) (iv' := ⟨iv.op, iv.sv, iv.x, y⟩) (i' := ⟨i.op, i.set, i.x, y⟩) (enc3 iv y) ⟨rfl, rfl, rfl, rfl⟩ h3.x rfl
   have b := a.store hmb (k := k) (j := 2) (iv := ⟨iv.op, iv.sv, iv.x, y⟩) (i := ⟨i.op, i.set, i.x, y⟩) (by simp [hki]) (by simp [hki2]) (by omega) (.int .i64 x) (iv' := ⟨iv.op, iv.sv, x, y⟩) (i' := ⟨i.op, i.set, x, y⟩) (enc2 ⟨iv.op, iv.sv, iv.x, y⟩ x) ⟨rfl, rfl, rfl, rfl⟩ rfl rfl
   exact ⟨_, by simpa using b⟩
 exact ⟨_, h.store hmb h1 h2 (j := 3) (by omega) (.int .i64 y) (iv' := ⟨iv.op, iv.sv, iv.x, y⟩) (i' := ⟨i.op, i.set, i.x, y⟩) (enc3 iv y) ⟨rfl, rfl, rfl, rfl⟩ h3.x rfl⟩
theorem xgQ (B : Nat -> Prop) (mb tg : Nat) (is : List Ins) (w : World) (h : MkAt B w mb is) (hmb : ¬ B mb) (hb : ∀ b, w.heap.size <= b -> B b) (hn : is.length <= 4000) (ht : tg <= 4000) :
 Calls prog 109 #[.pointer (some ⟨mb, 0, none⟩), .int .i64 tg] w fun e w' => e = .returned (.int .i64 is.length) /\ MkAt B w' mb (is ++ [⟨2, [], tg, tg⟩]) /\ xaa (fun b => b = mb \/ B b) w w' := by
 have HP := xa (xcR B mb is w h hmb hb hn)
 clear h
 go_enter func109, ntmps109
 go_wp2_with fail
 refine HP.out.mono ?_
 rintro e w2 ⟨rfl, h2, k2⟩
 obtain ⟨g, cap, ivs, hO⟩ := h2.mko (by simp)
 have hL : (is ++ [(⟨2, [], is.length + 1, 0⟩ : Ins)]).length = is.length + 1 := by simp
 rw [hL] at hO
 obtain ⟨iv, hiv⟩ := hO.last (k := is.length) (by omega)
 have c0 : w2.cell? ⟨mb, 0, none⟩ = some (.slice (some ⟨g, 0, none⟩) (is.length + 1) cap) := by rw [Lib.cell_of_heap hO.bk]; rfl
 have y2 := hO.cell hiv (j := 2) (by omega)
 have y3 := hO.cell hiv (j := 3) (by omega)
 have f2 := hO.own.frozenAt (is.length * 4 + 2)
 have f3 := hO.own.frozenAt (is.length * 4 + 3)
 have hgb := hO.gB
 have hgm : g ≠ mb := fun e => hmb (e ▸ hgb)
 have hmg : mb ≠ g := fun e => hgm e.symm
 have hlast : (is ++ [(⟨2, [], is.length + 1, 0⟩ : Ins)]).set is.length ⟨2, [], tg, tg⟩ = is ++ [⟨2, [], tg, tg⟩] := by simp
 have hXY := hO.setXY hmb hiv (i := ⟨2, [], is.length + 1, 0⟩) (by simp) tg tg
 simp only [hlast] at hXY
 have HXY := xa hXY
 have K2 := xa k2
 have e2 : encP iv 2 = .int .i64 iv.x := rfl
 have e3 : encP iv 3 = .int .i64 iv.y := rfl
 rw [e2] at y2
 rw [e3] at y3
 clear hXY k2 hO h2 hL hlast hiv e2 e3
 go_wp2_with fail
 go_region
 go_wp2
 go_ret
 obtain ⟨_, hM⟩ := HXY.out.1
 exact ⟨rfl, hM.at.keepsF (xaa.refl (fun _ => False) _).drew, ((K2.out.set (p := ⟨g, is.length * 4 + 2, none⟩) (Or.inr hgb) _).set (p := ⟨g, is.length * 4 + 3, none⟩) (Or.inr hgb) _).drew⟩
theorem xbp : in64 0 := by unfold in64; decide
theorem xeS : (prog.info? 73).map (fun i => (i.zero, i.size, i.bytes)) = some (some (.agg #[.int .i64 0, .slice none 0 0, .int .i64 0, .int .i64 0, .slice none 0 0]), 5, 72) := by kernel_rfl
theorem xeg (a : Option Addr) (n cap : Nat) (w : World) : Calls prog 131 #[.slice a n cap] w fun e w' => e = .returned (NV.val ⟨1, .slice a n cap, 0, 0, .slice none 0 0⟩) /\ KF w w' := by
 go_enter func131, ntmps131
 go_wp2_with fail
 go_returns
 exact ⟨rfl, KI.out⟩
def xa1 : T := ⟨0, [], 0, 0, .nil⟩
def xbw (s : LI) : T := ⟨1, s, 0, 0, .nil⟩
def xa4 (op : Int) (l : List T) : T :=
 match l with
 | [] => xa1
 | [t] => t
 | l => ⟨op, [], 0, 0, F.ofL l⟩
theorem TAt.zero (w : World) (P : Nat -> Prop) : TAt w P ⟨0, .slice none 0 0, 0, 0, .slice none 0 0⟩ xa1 :=
 ⟨rfl, rfl, rfl, by unfold in64; decide, by unfold in64; decide, ⟨SlOf.nil _ _ _, fun p hp => by cases hp⟩, fun b hb => by simp [Value.ownBlock] at hb, ⟨[], SlOf.nil _ _ _, rfl⟩, fun b hb => by simp [Value.ownBlock] at hb⟩
theorem RSl.form {w : World} {v : Value} {l : LI} (h : RSl w v l) : ∃ a cap, v = .slice a l.length cap := by
 obtain ⟨⟨a, cap, rfl, _⟩, _⟩ := h; exact ⟨a, cap, rfl⟩
theorem SlOf.form {α : Type} {k : Nat} {enc : α -> Nat -> Value} {w : World} {v : Value} {l : List α} (h : SlOf k enc w v l) : ∃ a cap, v = .slice a l.length cap := by
 obtain ⟨a, cap, rfl, _⟩ := h; exact ⟨a, cap, rfl⟩
theorem xiY (op : Int) (kv : Value) (vs : List NV) (l : List T) (P : Nat -> Prop) (w : World) (hk : SlOf 5 encN w kv vs) (hf : FAt w P (F.ofL l) vs) (hb : ∀ b, kv.ownBlock = some b -> P b) :
 Calls prog 93 #[.int .i64 op, kv] w fun e w' => ∃ v : NV, e = .returned v.val /\ TAt w' P v (xa4 op l) /\ KF w w' := by
 have hlen := hf.len
 obtain ⟨a, cap, rfl⟩ := hk.form
 rcases l with _ | ⟨t, _ | ⟨t2, l⟩⟩
 · obtain rfl : vs = [] := List.length_eq_zero_iff.1 hlen
   go_enter func93, ntmps93
   go_wp2_with fail
   go_returns
   exact ⟨⟨0, .slice none 0 0, 0, 0, .slice none 0 0⟩, rfl, TAt.zero _ _, KI.out⟩
 · obtain ⟨v, rfl⟩ : ∃ v, vs = [v] := List.length_eq_one_iff.1 hlen
   obtain ⟨v', vs', he, ht, _⟩ := FAt.cons_iff.1 hf
   obtain ⟨rfl, rfl⟩ := List.cons.inj he
   obtain ⟨b, off, rfl, hc⟩ := (by obtain ⟨a', cap', he, _, _, hc⟩ := hk; obtain ⟨rfl, _, rfl⟩ := Value.slice.inj he; exact hc (by simp) : ∃ b off, a = some ⟨b, off, none⟩ /\ ∀ i x, [v][i]? = some x -> ∀ j, j < 5 -> w.cell? ⟨b, off + i * 5 + j, none⟩ = some (encN x j))
   have x0 : w.cell? ⟨b, off, none⟩ = some (.int .i64 v.op) := by simpa [encN] using hc 0 v rfl 0 (by omega)
   have x1 : w.cell? ⟨b, off + 1, none⟩ = some v.sv := by simpa [encN] using hc 0 v rfl 1 (by omega)
   have x2 : w.cell? ⟨b, off + 2, none⟩ = some (.int .i64 v.mn) := by simpa [encN] using hc 0 v rfl 2 (by omega)
   have x3 : w.cell? ⟨b, off + 3, none⟩ = some (.int .i64 v.mx) := by simpa [encN] using hc 0 v rfl 3 (by omega)
   have x4 : w.cell? ⟨b, off + 4, none⟩ = some v.kv := by simpa [encN] using hc 0 v rfl 4 (by omega)
   clear hc
   have hlt : b < w.heap.size := xal x0
   obtain ⟨vo, vsv, vm, vx, vk⟩ := v
   obtain ⟨a1, c1, e1⟩ := ht.set.form
   obtain ⟨ks, hks, _⟩ := ht.kids
   obtain ⟨a2, c2, e2⟩ := hks.form
   obtain rfl := e1
   obtain rfl := e2
   generalize ks.length = n2 at *
   generalize t.set.length = n1 at *
   have HT := xa ht
   clear ht hf hk hb hks
   go_enter func93, ntmps93
   go_wp2_with fail
   go_returns
   have K : KF w (w.alloc (.cells #[.int .i64 vo, .slice a1 n1 c1, .int .i64 vm, .int .i64 vx, .slice a2 n2 c2] 73)) := KI.out
   exact ⟨_, rfl, HT.out.keepsTo K (fun _ _ => id) (fun _ h => h), K⟩
 have hl2 : 2 <= vs.length := by rw [hlen]; simp
 have HK := xa hk
 have HF := xa hf
 have HB := xa hb
 have g1 : ((vs.length : Int) == 0) = false := beq_eq_false_iff_ne.2 (by omega)
 have g2 : ((vs.length : Int) == 1) = false := beq_eq_false_iff_ne.2 (by omega)
 clear hk hf hb hlen hl2
 generalize vs.length = N at *
 go_enter func93, ntmps93
 go_wp2_with fail
 go_returns
 have K : KF w (w.alloc (.cells #[.int .i64 op, .slice none 0 0, .int .i64 0, .int .i64 0, .slice a N cap] 73)) := KI.out
 exact ⟨⟨op, .slice none 0 0, 0, 0, _⟩, rfl, ⟨rfl, rfl, rfl, xbp, xbp, ⟨SlOf.nil _ _ _, fun p hp => by cases hp⟩, fun b hb => by simp [Value.ownBlock] at hb, ⟨_, HK.out.keep K, HF.out.keepsTo K (fun _ _ => id) (fun _ h => h)⟩, HB.out⟩, K⟩
theorem TAt.open {w : World} {P : Nat -> Prop} {v : NV} {t : T} (h : TAt w P v t) : ∃ a1 n1 c1 a2 c2, v.sv = .slice a1 n1 c1 /\ v.kv = .slice a2 t.kids.toL.length c2 /\ t.kids.toL.length <= 4611686018427387904 /\
 (0 < t.kids.toL.length -> ∃ b off, a2 = some ⟨b, off, none⟩ /\ ∀ i k, t.kids.toL[i]? = some k -> ∃ u : NV, TAt w P u k /\ (∃ d1 e1 f1, u.sv = .slice d1 e1 f1) /\ (∃ d2 e2 f2, u.kv = .slice d2 e2 f2) /\
   w.cell? ⟨b, off + i * 5, none⟩ = some (.int .i64 u.op) /\ w.cell? ⟨b, off + i * 5 + 1, none⟩ = some u.sv /\ w.cell? ⟨b, off + i * 5 + 2, none⟩ = some (.int .i64 u.mn) /\ w.cell? ⟨b, off + i * 5 + 3, none⟩ = some (.int .i64 u.mx) /\ w.cell? ⟨b, off + i * 5 + 4, none⟩ = some u.kv) := by
 obtain ⟨a1, c1, e1⟩ := h.set.form
 obtain ⟨ks, hk, hf⟩ := h.kids
 rw [<- F.of_to t.kids] at hf
 have hl := hf.len
 obtain ⟨a2, c2, e2, hcap, hl2, hc⟩ := hk
 rw [hl] at e2 hl2 hc
 refine ⟨a1, _, c1, a2, c2, e1, e2, hl2, fun h0 => ?_⟩
 obtain ⟨b, off, rfl, hcc⟩ := hc h0
 refine ⟨b, off, rfl, fun i k hi => ?_⟩
 obtain ⟨u, hu, hut⟩ := hf.get hi
 obtain ⟨d1, f1, g1⟩ := hut.set.form
 obtain ⟨ks', hk', _⟩ := hut.kids
 obtain ⟨d2, f2, g2⟩ := hk'.form
 exact ⟨u, hut, ⟨_, _, _, g1⟩, ⟨_, _, _, g2⟩, hcc i u hu 0 (by omega), hcc i u hu 1 (by omega), hcc i u hu 2 (by omega), hcc i u hu 3 (by omega), hcc i u hu 4 (by omega)⟩
def KRow (w : World) (P : Nat -> Prop) (a : Option Addr) (L : List T) : Prop :=
 0 < L.length -> ∃ b off, a = some ⟨b, off, none⟩ /\ ∀ i k, L[i]? = some k -> ∃ u : NV, TAt w P u k /\ (∃ d1 e1 f1, u.sv = .slice d1 e1 f1) /\ (∃ d2 e2 f2, u.kv = .slice d2 e2 f2) /\
  w.cell? ⟨b, off + i * 5, none⟩ = some (.int .i64 u.op) /\ w.cell? ⟨b, off + i * 5 + 1, none⟩ = some u.sv /\ w.cell? ⟨b, off + i * 5 + 2, none⟩ = some (.int .i64 u.mn) /\ w.cell? ⟨b, off + i * 5 + 3, none⟩ = some (.int .i64 u.mx) /\ w.cell? ⟨b, off + i * 5 + 4, none⟩ = some u.kv
theorem TAt.krow {w : World} {P : Nat -> Prop} {v : NV} {t : T} (h : TAt w P v t) : ∃ a1 n1 c1 a2 c2, v.sv = .slice a1 n1 c1 /\ v.kv = .slice a2 t.kids.toL.length c2 /\ t.kids.toL.length <= 4611686018427387904 /\ KRow w P a2 t.kids.toL := h.open
theorem KRow.keep {w w' : World} {P : Nat -> Prop} {a : Option Addr} {L : List T} (h : KRow w P a L) (K : KF w w') : KRow w' P a L := by
 intro h0
 obtain ⟨b, off, rfl, hc⟩ := h h0
 refine ⟨b, off, rfl, fun i k hi => ?_⟩
 obtain ⟨u, h1, h2, h3, x0, x1, x2, x3, x4⟩ := hc i k hi
 exact ⟨u, h1.keepsTo K (fun _ _ => id) (fun _ h => h), h2, h3, K.cell x0 id, K.cell x1 id, K.cell x2 id, K.cell x3 id, K.cell x4 id⟩
theorem KRow.at {w : World} {P : Nat -> Prop} {a : Option Addr} {L : List T} (h : KRow w P a L) {i : Nat} {k : T} (hi : L[i]? = some k) : ∃ b off uo d1 f1 g1 um ux d2 f2 g2, a = some ⟨b, off, none⟩ /\
 TAt w P ⟨uo, .slice d1 f1 g1, um, ux, .slice d2 f2 g2⟩ k /\ b < w.heap.size /\
 w.cell? ⟨b, off + i * 5, none⟩ = some (.int .i64 uo) /\ w.cell? ⟨b, off + i * 5 + 1, none⟩ = some (.slice d1 f1 g1) /\ w.cell? ⟨b, off + i * 5 + 2, none⟩ = some (.int .i64 um) /\ w.cell? ⟨b, off + i * 5 + 3, none⟩ = some (.int .i64 ux) /\ w.cell? ⟨b, off + i * 5 + 4, none⟩ = some (.slice d2 f2 g2) := by
 have h0 : 0 < L.length := by
  have := (List.getElem?_eq_some_iff.1 hi).1; omega
 obtain ⟨b, off, rfl, hc⟩ := h h0
 obtain ⟨⟨uo, us, um, ux, uk⟩, h1, ⟨d1, f1, g1, q1⟩, ⟨d2, f2, g2, q2⟩, x0, x1, x2, x3, x4⟩ := hc i k hi
 obtain rfl := q1
 obtain rfl := q2
 exact ⟨b, off, uo, d1, f1, g1, um, ux, d2, f2, g2, rfl, h1, xal x0, x0, x1, x2, x3, x4⟩
def okG (lo hi : Nat) (i : Ins) : Prop := ((i.op = 1 \/ i.op = 3 \/ i.op = 4) /\ lo <= i.x /\ i.x <= hi) \/ (i.op = 2 /\ (lo <= i.x /\ i.x <= hi) /\ lo <= i.y /\ i.y <= hi)
theorem okG.mono {lo hi lo' hi' : Nat} {i : Ins} (h : okG lo hi i) (h1 : lo' <= lo) (h2 : hi <= hi') : okG lo' hi' i := by
 rcases h with ⟨a, b, c⟩ | ⟨a, ⟨b, c⟩, d, e⟩
 · exact Or.inl ⟨a, by omega, by omega⟩
 exact Or.inr ⟨a, ⟨by omega, by omega⟩, by omega, by omega⟩
def NdE (B : Nat -> Prop) (mb : Nat) (is : List Ins) (w : World) (e : Ending) (w' : World) : Prop := e = .returned (.tuple #[]) /\ MkAt B w' mb is /\ xaa (fun b => b = mb \/ B b) w w'
structure xbS (t : T) (c : Nat -> List Ins) (n : Nat) : Prop where
 len : ∀ b, (c b).length = n
 ok : ∀ (b k : Nat) (i : Ins), (c b)[k]? = some i -> okG b (b + n) i
 run : ∀ (P B : Nat -> Prop) (v : NV) (w0 w : World) (mb : Nat) (is : List Ins), TAt w0 P v t -> KF w0 w -> w0.heap.size <= mb -> ¬ B mb -> (∀ b, w.heap.size <= b -> B b) -> (∀ b, B b -> w0.heap.size <= b) -> is.length + n <= 2500 -> MkAt B w mb is ->
  Calls prog 73 #[.pointer (some ⟨mb, 0, none⟩), v.val] w fun e w' => NdE B mb (is ++ c is.length) w e w'
theorem xly (t : T) (h : t.op = 0) : xbS t (fun _ => []) 0 := by
 refine ⟨fun _ => rfl, fun b k i h => by simp at h, fun P B v w0 w mb is ht k0 hmb1 hmb hb hB hn hM => ?_⟩
 obtain ⟨a1, n1, c1, a2, c2, e1, e2, hl, hc⟩ := ht.krow
 have o1 : v.op = 0 := ht.op.trans h
 obtain ⟨vo, vsv, vm, vx, vk⟩ := v
 obtain rfl := e1
 obtain rfl := e2
 obtain rfl := o1
 have HM := xa hM
 clear hl hc ht k0 hM
 generalize t.kids.toL.length = KL at *
 show Calls prog 73 #[.pointer (some ⟨mb, 0, none⟩), .agg #[.int .i64 0, .slice a1 n1 c1, .int .i64 vm, .int .i64 vx, .slice a2 KL c2]] w _
 go_enter func73, ntmps73
 go_wp2
 go_end0
 exact ⟨rfl, by simpa using HM.out.keepsF ((xaa.refl _ _).alloc _), (xaa.refl _ _).alloc _⟩
theorem xlz (t : T) (h : t.op = 1) (hsl : t.set.length <= 4000) : xbS t (fun b => [⟨1, t.set, b + 1, 0⟩]) 1 := by
 refine ⟨fun _ => rfl, fun b k i hk => ?_, fun P B v w0 w mb is ht k0 hmb1 hmb hb hB hn hM => ?_⟩
 · rcases k with _ | k
   · obtain rfl : (⟨1, t.set, b + 1, 0⟩ : Ins) = i := by simpa using hk
     exact Or.inl ⟨by simp, by simp, by simp⟩
   simp at hk
 have hst := ht.set.keeps k0 (fun _ _ => id)
 obtain ⟨a1, n1, c1, a2, c2, e1, e2, hl, hc⟩ := ht.krow
 have o1 : v.op = 1 := ht.op.trans h
 obtain ⟨vo, vsv, vm, vx, vk⟩ := v
 obtain rfl := e1
 obtain rfl := e2
 obtain rfl := o1
 have kB : KF w (w.alloc (.cells #[.int .i64 1, .slice a1 n1 c1, .int .i64 vm, .int .i64 vx, .slice a2 t.kids.toL.length c2] 73)) := (xaa.refl _ _).alloc _
 have HP := xa (xec B mb 1 t.set _ is _ (hM.keepsF kB) (hst.keeps kB (fun _ _ => id)) hsl hmb (fun b h => hb b (by simp at h; omega)) (by omega))
 have KB := xa kB
 clear hl hc ht hst k0 hM kB
 generalize t.kids.toL.length = KL at *
 show Calls prog 73 #[.pointer (some ⟨mb, 0, none⟩), .agg #[.int .i64 1, .slice a1 n1 c1, .int .i64 vm, .int .i64 vx, .slice a2 KL c2]] w _
 go_enter func73, ntmps73
 go_wp2_with fail
 refine HP.out.mono ?_
 rintro e w2 ⟨rfl, h2, k2⟩
 have H2 := xa h2
 have K2 : Hid (xaa (fun b => b = mb \/ B b) w w2) := xa ((KB.out.mono (fun _ _ e => e.elim)).trans2 k2 (fun _ _ e => e))
 clear h2 k2
 go_wp2
 go_end0
 exact ⟨rfl, H2.out, K2.out⟩
theorem xjV (t : T) (h : t.op = 2) : xbS t (fun b => [⟨3, [], b + 1, 0⟩]) 1 := by
 refine ⟨fun _ => rfl, fun b k i hk => ?_, fun P B v w0 w mb is ht k0 hmb1 hmb hb hB hn hM => ?_⟩
 · rcases k with _ | k
   · obtain rfl : (⟨3, [], b + 1, 0⟩ : Ins) = i := by simpa using hk
     exact Or.inl ⟨by simp, by simp, by simp⟩
   simp at hk
 have hst := ht.set.keeps k0 (fun _ _ => id)
 obtain ⟨a1, n1, c1, a2, c2, e1, e2, hl, hc⟩ := ht.krow
 have o1 : v.op = 2 := ht.op.trans h
 obtain ⟨vo, vsv, vm, vx, vk⟩ := v
 obtain rfl := e1
 obtain rfl := e2
 obtain rfl := o1
 have kB : KF w (w.alloc (.cells #[.int .i64 2, .slice a1 n1 c1, .int .i64 vm, .int .i64 vx, .slice a2 t.kids.toL.length c2] 73)) := (xaa.refl _ _).alloc _
 have HP := xa (xec B mb 3 [] _ is _ (hM.keepsF kB) (xet _) (by simp) hmb (fun b h => hb b (by simp at h; omega)) (by omega))
 have KB := xa kB
 clear hl hc ht hst k0 hM kB
 generalize t.kids.toL.length = KL at *
 show Calls prog 73 #[.pointer (some ⟨mb, 0, none⟩), .agg #[.int .i64 2, .slice a1 n1 c1, .int .i64 vm, .int .i64 vx, .slice a2 KL c2]] w _
 go_enter func73, ntmps73
 go_wp2_with fail
 refine HP.out.mono ?_
 rintro e w2 ⟨rfl, h2, k2⟩
 have H2 := xa h2
 have K2 : Hid (xaa (fun b => b = mb \/ B b) w w2) := xa ((KB.out.mono (fun _ _ e => e.elim)).trans2 k2 (fun _ _ e => e))
 clear h2 k2
 go_wp2
 go_end0
 exact ⟨rfl, H2.out, K2.out⟩
theorem xng (t : T) (h : t.op = 3) : xbS t (fun b => [⟨4, [], b + 1, 0⟩]) 1 := by
 refine ⟨fun _ => rfl, fun b k i hk => ?_, fun P B v w0 w mb is ht k0 hmb1 hmb hb hB hn hM => ?_⟩
 · rcases k with _ | k
   · obtain rfl : (⟨4, [], b + 1, 0⟩ : Ins) = i := by simpa using hk
     exact Or.inl ⟨by simp, by simp, by simp⟩
   simp at hk
 have hst := ht.set.keeps k0 (fun _ _ => id)
 obtain ⟨a1, n1, c1, a2, c2, e1, e2, hl, hc⟩ := ht.krow
 have o1 : v.op = 3 := ht.op.trans h
 obtain ⟨vo, vsv, vm, vx, vk⟩ := v
 obtain rfl := e1
 obtain rfl := e2
 obtain rfl := o1
 have kB : KF w (w.alloc (.cells #[.int .i64 3, .slice a1 n1 c1, .int .i64 vm, .int .i64 vx, .slice a2 t.kids.toL.length c2] 73)) := (xaa.refl _ _).alloc _
 have HP := xa (xec B mb 4 [] _ is _ (hM.keepsF kB) (xet _) (by simp) hmb (fun b h => hb b (by simp at h; omega)) (by omega))
 have KB := xa kB
 clear hl hc ht hst k0 hM kB
 generalize t.kids.toL.length = KL at *
 show Calls prog 73 #[.pointer (some ⟨mb, 0, none⟩), .agg #[.int .i64 3, .slice a1 n1 c1, .int .i64 vm, .int .i64 vx, .slice a2 KL c2]] w _
 go_enter func73, ntmps73
 go_wp2_with fail
 refine HP.out.mono ?_
 rintro e w2 ⟨rfl, h2, k2⟩
 have H2 := xa h2
 have K2 : Hid (xaa (fun b => b = mb \/ B b) w w2) := xa ((KB.out.mono (fun _ _ e => e.elim)).trans2 k2 (fun _ _ e => e))
 clear h2 k2
 go_wp2
 go_end0
 exact ⟨rfl, H2.out, K2.out⟩
abbrev Cd := (Nat -> List Ins) × Nat
def sumN : List Cd -> Nat
 | [] => 0
 | p :: r => p.2 + sumN r
def catC : List Cd -> Nat -> List Ins
 | [], _ => []
 | p :: r, b => p.1 b ++ catC r (b + p.2)
theorem xj : ∀ (q : List Cd), (∀ p ∈ q, ∀ b, (p.1 b).length = p.2) -> ∀ b, (catC q b).length = sumN q
 | [], _, _ => rfl
 | p :: r, h, b => by rw [catC, List.length_append, h p (by simp), xj r (fun x hx => h x (by simp [hx])), sumN]
theorem xdU {l m : List Ins} {k : Nat} {i : Ins} (h : (l ++ m)[k]? = some i) : l[k]? = some i \/ (l.length <= k /\ m[k - l.length]? = some i) := by
 by_cases hk : k < l.length
 · rw [List.getElem?_append_left hk] at h; exact Or.inl h
 rw [List.getElem?_append_right (by omega)] at h; exact Or.inr ⟨by omega, h⟩
theorem xmh : ∀ (q : List Cd), (∀ p ∈ q, ∀ (b k : Nat) (i : Ins), (p.1 b)[k]? = some i -> okG b (b + p.2) i) -> ∀ (b k : Nat) (i : Ins), (catC q b)[k]? = some i -> okG b (b + sumN q) i
 | [], _, _, _, _, h => by simp [catC] at h
 | p :: r, hq, b, k, i, h => by
  rw [catC] at h
  rcases xdU h with h | ⟨_, h⟩
  · exact (hq p (by simp) b k i h).mono (Nat.le_refl _) (by simp only [sumN]; omega)
  exact (xmh r (fun x hx => hq x (by simp [hx])) (b + p.2) _ i h).mono (by omega) (by simp only [sumN]; omega)
theorem xi8 {L : List T} {q : List Cd} (hq : q.length = L.length) (h : ∀ (i : Nat) (k : T) (p : Cd), L[i]? = some k -> q[i]? = some p -> xbS k p.1 p.2) {p : Cd} (hp : p ∈ q) : ∃ k, xbS k p.1 p.2 := by
 obtain ⟨i, hi, rfl⟩ := List.mem_iff_getElem.1 hp
 exact ⟨L[i]'(by omega), h i _ _ (List.getElem?_eq_getElem (by omega)) (List.getElem?_eq_getElem hi)⟩
theorem xeV {q : List Cd} {i : Nat} {p : Cd} (h : q[i]? = some p) : q.drop i = p :: q.drop (i + 1) := by
 obtain ⟨h1, h2⟩ := List.getElem?_eq_some_iff.1 h
 rw [List.drop_eq_getElem_cons h1, h2]
def NdR (n : Nat) (q : List Cd) (R : List Ins) (B : Nat -> Prop) (mb : Nat) (w : World) (iv : Value) (wr : World) : Prop :=
 ∃ (i : Nat) (is' : List Ins), iv = .int .i64 i /\ i <= n /\ MkAt B wr mb is' /\ is'.length + sumN (q.drop i) <= 2500 /\ is' ++ catC (q.drop i) is'.length = R /\ xaa (fun b => b = mb \/ B b) w wr
theorem KRow.kid {w0 wr : World} {P : Nat -> Prop} {a : Option Addr} {L : List T} (h : KRow w0 P a L) (K : KF w0 wr) {i : Nat} {k : T} (hi : L[i]? = some k) : ∃ b off uo d1 f1 g1 um ux d2 f2 g2, a = some ⟨b, off, none⟩ /\ TAt w0 P ⟨uo, .slice d1 f1 g1, um, ux, .slice d2 f2 g2⟩ k /\ b < w0.heap.size /\
 wr.cell? ⟨b, off + i * 5, none⟩ = some (.int .i64 uo) /\ wr.cell? ⟨b, off + i * 5 + 1, none⟩ = some (.slice d1 f1 g1) /\ wr.cell? ⟨b, off + i * 5 + 2, none⟩ = some (.int .i64 um) /\ wr.cell? ⟨b, off + i * 5 + 3, none⟩ = some (.int .i64 ux) /\ wr.cell? ⟨b, off + i * 5 + 4, none⟩ = some (.slice d2 f2 g2) := by
 obtain ⟨b, off, uo, d1, f1, g1, um, ux, d2, f2, g2, e, hu, hlt, x0, x1, x2, x3, x4⟩ := h.at hi
 exact ⟨b, off, uo, d1, f1, g1, um, ux, d2, f2, g2, e, hu, hlt, K.cell x0 id, K.cell x1 id, K.cell x2 id, K.cell x3 id, K.cell x4 id⟩
theorem xnh (t : T) (q : List Cd) (h : t.op = 4) (hq : q.length = t.kids.toL.length) (ih : ∀ (i : Nat) (k : T) (p : Cd), t.kids.toL[i]? = some k -> q[i]? = some p -> xbS k p.1 p.2) : xbS t (catC q) (sumN q) := by
 refine ⟨xj q (fun p hp => (xi8 hq ih hp).choose_spec.len), xmh q (fun p hp => (xi8 hq ih hp).choose_spec.ok), fun P B v w0 w mb is ht k0 hmb1 hmb hb hB hn hM => ?_⟩
 obtain ⟨a1, n1, c1, a2, c2, e1, e2, hl, hc⟩ := ht.krow
 generalize t.kids.toL = L at *
 have o1 : v.op = 4 := ht.op.trans h
 obtain ⟨vo, vsv, vm, vx, vk⟩ := v
 obtain rfl := e1
 obtain rfl := e2
 obtain rfl := o1
 obtain ⟨R, hR⟩ : ∃ R, is ++ catC q is.length = R := ⟨_, rfl⟩
 have kB0 : KF w (w.alloc (.cells #[.int .i64 4, .slice a1 n1 c1, .int .i64 vm, .int .i64 vx, .slice a2 L.length c2] 73)) := (xaa.refl _ _).alloc _
 have HM := xa (hM.keepsF kB0)
 have KB : Hid (xaa (fun b => b = mb \/ B b) w (w.alloc (.cells #[.int .i64 4, .slice a1 n1 c1, .int .i64 vm, .int .i64 vx, .slice a2 L.length c2] 73))) := xa ((xaa.refl _ _).alloc _)
 have HC := xa hc
 have IH := xa ih
 have K0 := xa k0
 have HR := xa hR
 have HN := xa hq
 have HB := xa hB
 have Hb := xa hb
 rw [hR]
 have hw0 := k0.size
 clear hc ht k0 hM kB0 ih hR hq hB hb
 show Calls prog 73 #[.pointer (some ⟨mb, 0, none⟩), .agg #[.int .i64 4, .slice a1 n1 c1, .int .i64 vm, .int .i64 vx, .slice a2 L.length c2]] w _
 go_enter func73, ntmps73
 go_wp2_with fail
 go_loopw [27] (fun iv wr => NdR L.length q R B mb w iv wr) (fun iv _ => L.length - (intOf iv).toNat)
 case atStart => exact ⟨0, is, rfl, Nat.zero_le _, HM.out, hn, HR.out, KB.out⟩
 case round =>
  obtain ⟨i, is', rfl, hi, hM, hlen, hf, hk⟩ := hrel
  have HMr := xa hM
  have HF := xa hf
  have HKr := xa hk
  have hsw := hk.size
  have K0r : Hid (KF w0 wr) := xa (K0.out.trans2 hk (fun b hb e => by
   rcases e with e | e
   · omega
   have := HB.out b e; omega))
  clear hM hf hk
  by_cases hil : i < L.length
  · obtain ⟨k, hki⟩ : ∃ k, L[i]? = some k := ⟨_, List.getElem?_eq_getElem hil⟩
    obtain ⟨p, hpi⟩ : ∃ p, q[i]? = some p := ⟨_, List.getElem?_eq_getElem (by rw [HN.out]; exact hil)⟩
    obtain ⟨b, off, uo, d1, f1, g1, um, ux, d2, f2, g2, rfl, hu, hlt0, x0, x1, x2, x3, x4⟩ := HC.out.kid K0r.out hki
    have hlt : b < wr.heap.size := xal x0
    have hnc := IH.out i k p hki hpi
    rw [xeV hpi] at hlen
    have HF2 : Hid (is' ++ (p.1 is'.length ++ catC (q.drop (i + 1)) (is'.length + p.2)) = R) := xa (by have h := HF.out; rw [xeV hpi] at h; exact h)
    simp only [sumN] at hlen
    have kBr : KF wr (wr.alloc (.cells #[.int .i64 uo, .slice d1 f1 g1, .int .i64 um, .int .i64 ux, .slice d2 f2 g2] 73)) := (xaa.refl _ _).alloc _
    have HS := xa (hnc.run P B ⟨uo, .slice d1 f1 g1, um, ux, .slice d2 f2 g2⟩ w0 _ mb is' hu (K0r.out.trans kBr) hmb1 hmb (fun b h => Hb.out b (by simp at h; omega)) HB.out (by omega) (HMr.out.keepsF kBr))
    have HL := xa (hnc.len is'.length)
    have KBr := xa kBr
    clear hki hpi hu hnc kBr
    unfold NV.val at HS
    go_wp2_with fail
    refine HS.out.mono ?_
    rintro e w2 ⟨rfl, h2, k2⟩
    have H2 := xa h2
    have K2 : Hid (xaa (fun b => b = mb \/ B b) w w2) := xa ((HKr.out.trans2 KBr.out (fun _ _ e => e.elim)).trans2 k2 (fun _ _ e => e))
    clear h2 k2
    go_wp2
    go_roundw
    case rel => exact ⟨i + 1, is' ++ p.1 is'.length, by go_num, by omega, H2.out, by rw [List.length_append, HL.out]; omega, by rw [List.length_append, HL.out, List.append_assoc]; exact HF2.out, K2.out⟩
    case measure => simp [intOf]; omega
  have he : i = L.length := by omega
  subst he
  have E : Hid (is' = R) := xa (by have h := HF.out; rw [List.drop_eq_nil_of_le (by rw [HN.out]; omega)] at h; simpa [catC] using h)
  go_wp2
  go_end0
  exact ⟨rfl, by rw [<- E.out]; exact HMr.out, HKr.out⟩
noncomputable def xaz (alts : PS -> T × PS) (rs : List Int) (s : PS) : T × PS :=
 if pk rs s = 40 then
  ((alts ⟨s.pos + 1, s.deep + 1, (nx rs s).bad || decide (10 < s.deep + 1)⟩).1,
    ⟨(wt rs 41 (alts ⟨s.pos + 1, s.deep + 1, (nx rs s).bad || decide (10 < s.deep + 1)⟩).2).pos, (wt rs 41 (alts ⟨s.pos + 1, s.deep + 1, (nx rs s).bad || decide (10 < s.deep + 1)⟩).2).deep - 1, (wt rs 41 (alts ⟨s.pos + 1, s.deep + 1, (nx rs s).bad || decide (10 < s.deep + 1)⟩).2).bad⟩)
 else if pk rs s = 94 then (⟨2, [], 0, 0, .nil⟩, nx rs s)
 else if pk rs s = 36 then (⟨3, [], 0, 0, .nil⟩, nx rs s)
 else if pk rs s = 46 then (xbw [(0, 9), (11, 1114111)], nx rs s)
 else if pk rs s = 91 then (xbw (clsL rs (nx rs s)), (clsR rs (nx rs s)).2)
 else if pk rs s = 92 then (xbw (escL rs (nx rs s)), escS rs (nx rs s))
 else (xbw [(pk rs s, pk rs s)], ⟨s.pos + 1, s.deep, (nx rs s).bad || amg sgL (pk rs s)⟩)
noncomputable def xan (alts : PS -> T × PS) (rs : List Int) (s : PS) : T × PS :=
 if (cntV rs (xaz alts rs s).2).2.2 then
  (⟨6, [], (cntV rs (xaz alts rs s).2).1, (cntV rs (xaz alts rs s).2).2.1, F.ofL [(xaz alts rs s).1]⟩,
    ⟨(cntS rs (xaz alts rs s).2).pos, (cntS rs (xaz alts rs s).2).deep, (cntS rs (xaz alts rs s).2).bad || (decide (pk rs s = 94) || decide (pk rs s = 36))⟩)
 else ((xaz alts rs s).1, cntS rs (xaz alts rs s).2)
def isPc (r : Int) : Bool := decide (0 <= r) && (!decide (r = 124) && !decide (r = 41))
noncomputable def xbn (alts : PS -> T × PS) (rs : List Int) : Nat -> PS -> List T -> List T × PS
 | 0, s, l => (l, s)
 | n + 1, s, l => if isPc (pk rs s) then xbn alts rs n (xan alts rs s).2 (l ++ [(xan alts rs s).1]) else (l, s)
noncomputable def pcsR (alts : PS -> T × PS) (rs : List Int) (s : PS) : List T × PS := xbn alts rs (rs.length + 9) s []
noncomputable def xar (alts : PS -> T × PS) (rs : List Int) (s : PS) : T × PS := (xa4 4 (pcsR alts rs s).1, (pcsR alts rs s).2)
noncomputable def xbo (alts : PS -> T × PS) (rs : List Int) : Nat -> PS -> List T -> List T × PS
 | 0, s, l => (l, s)
 | n + 1, s, l => if pk rs s = 124 then xbo alts rs n (xar alts rs (tk rs 124 s)).2 (l ++ [(xar alts rs (tk rs 124 s)).1]) else (l, s)
noncomputable def altR (alts : PS -> T × PS) (rs : List Int) (s : PS) : List T × PS := xbo alts rs (rs.length + 9) (xar alts rs s).2 [(xar alts rs s).1]
noncomputable def xdc (alts : PS -> T × PS) (rs : List Int) (s : PS) : T × PS := (xa4 5 (altR alts rs s).1, (altR alts rs s).2)
noncomputable def alts (rs : List Int) : Nat -> PS -> T × PS
 | 0 => xdc (fun s => (xa1, s)) rs
 | n + 1 => xdc (alts rs n) rs
structure Inv (rs : List Int) (s : PS) : Prop where
 a : s.pos <= rs.length + 20
 b : s.bad = false -> s.pos <= rs.length
structure Go1 (rs : List Int) (s s' : PS) : Prop where
 pos : s.pos <= s'.pos
 deep : s'.deep = s.deep
 bad : s.bad = true -> s'.bad = true
 inv : Inv rs s -> Inv rs s'
theorem Go1.refl (rs : List Int) (s : PS) : Go1 rs s s := ⟨Nat.le_refl _, rfl, id, id⟩
theorem Go1.trans {rs : List Int} {a b c : PS} (h : Go1 rs a b) (k : Go1 rs b c) : Go1 rs a c := ⟨Nat.le_trans h.pos k.pos, k.deep.trans h.deep, fun x => k.bad (h.bad x), fun x => k.inv (h.inv x)⟩
theorem xhy (rs : List Int) (r : Int) (s : PS) (hr : 0 <= r) : Go1 rs s (tk rs r s) := by
 unfold tk
 split
 · rename_i h
   have := xaK (rs := rs) (s := s) (by omega)
   exact ⟨by simp, rfl, fun h => h, fun hi => ⟨by simp; omega, fun _ => by simp; omega⟩⟩
 exact Go1.refl _ _
theorem xgq (rs : List Int) (r : Int) (s : PS) (hr : 0 <= r) : Go1 rs s (wt rs r s) := by
 unfold wt
 split
 · rename_i h
   have := xaK (rs := rs) (s := s) (by omega)
   exact ⟨by simp, rfl, fun h => h, fun hi => ⟨by simp; omega, fun _ => by simp; omega⟩⟩
 exact ⟨Nat.le_refl _, rfl, fun _ => rfl, fun hi => ⟨hi.a, fun h => by cases h⟩⟩
theorem xlt (rs : List Int) (s : PS) : Go1 rs s (numS rs s) := by
 unfold numS
 split
 · rename_i h
   have h0 : 0 <= pk rs s := by simp [dig] at h; omega
   have := xaK h0
   split
   · rename_i h2
     have h3 : 0 <= pk rs ⟨s.pos + 1, s.deep, s.bad⟩ := by simp [dig] at h2; omega
     have h4 := (xaK h3).1
     simp only at h4
     exact ⟨by simp, rfl, fun h => by simp [h], fun hi => ⟨by simp; omega, fun _ => by simp; omega⟩⟩
   exact ⟨by simp, rfl, fun h => h, fun hi => ⟨by simp; omega, fun _ => by simp; omega⟩⟩
 exact ⟨Nat.le_refl _, rfl, fun _ => rfl, fun hi => ⟨hi.a, fun h => by cases h⟩⟩
theorem or_go (rs : List Int) (s : PS) (x : Bool) : Go1 rs s ⟨s.pos, s.deep, s.bad || x⟩ :=
 ⟨Nat.le_refl _, rfl, fun h => by simp [h], fun hi => ⟨hi.a, fun h => by simp at h; exact hi.b h.1⟩⟩
theorem xlq {rs : List Int} {s : PS} (h0 : 0 <= pk rs s) : Go1 rs s ⟨s.pos + 1, s.deep, s.bad⟩ := by
 have := xaK h0
 exact ⟨by simp, rfl, fun h => h, fun hi => ⟨by simp; omega, fun _ => by simp; omega⟩⟩
theorem xoz (rs : List Int) (s : PS) : Go1 rs s (brS rs s) := by
 unfold brS
 have h1 := xlt rs s
 split
 · rename_i h
   have h2 : Go1 rs (numS rs s) (br3 rs s) := xlq (by omega)
   split
   · exact (h1.trans h2).trans (xgq _ _ _ (by omega))
   have h3 := xlt rs (br3 rs s)
   exact (((h1.trans h2).trans h3).trans (or_go _ _ _)).trans (xgq _ _ _ (by omega))
 exact h1.trans (xgq _ _ _ (by omega))
theorem xeY (rs : List Int) (s : PS) : Go1 rs s (cntS rs s) := by
 unfold cntS
 split
 · rename_i h; exact xlq (by omega)
 split
 · rename_i h; exact (xlq (by omega)).trans (xoz _ _)
 exact Go1.refl _ _
theorem xjU {rs : List Int} {s : PS} (h : 0 <= pk rs s) : nx rs s = ⟨s.pos + 1, s.deep, s.bad⟩ := by
 unfold nx
 rw [show decide (pk rs s < 0) = false by simp; omega]
 simp
theorem xnU (rs : List Int) : ∀ n f s l, (f = true -> s.bad = false) -> Inv rs s -> s.pos <= (xb2 rs n f s l).2.pos /\ (xb2 rs n f s l).2.deep = s.deep /\ Inv rs (xb2 rs n f s l).2 := by
 intro n
 induction n with
 | zero => intro f s l _ hi; exact ⟨Nat.le_refl _, rfl, hi⟩
 | succ n ih =>
  intro f s l hf hi
  unfold xb2
  split
  · have := xhy rs 93 s (by omega)
    exact ⟨this.pos, this.deep, this.inv hi⟩
  rename_i hc
  have hb : s.bad = false := by
   cases f with
   | true => exact hf rfl
   | false =>
    cases hs : s.bad with
    | false => rfl
    | true => exact absurd ⟨rfl, Or.inl hs⟩ hc
  have h1 := xa2 rs s
  have h2 := hi.b hb
  have h3 := ih false (parS rs s) (l ++ parL rs s) (fun h => by cases h) ⟨by omega, fun hb => (xiE hb).1⟩
  exact ⟨by omega, h3.2.1.trans h1.2.2, h3.2.2⟩
theorem clsR_go {rs : List Int} {s : PS} (hb : s.bad = false) (hi : Inv rs s) : s.pos <= (clsR rs s).2.pos /\ (clsR rs s).2.deep = s.deep /\ Inv rs (clsR rs s).2 := by
 unfold clsR
 have h1 := xhy rs 94 s (by omega)
 have h2 := xnU rs (rs.length + 9) true (tk rs 94 s) [] (fun _ => by rw [(xfh rs 94 s (by omega)).2.2.1]; exact hb) (h1.inv hi)
 exact ⟨Nat.le_trans h1.pos h2.1, h2.2.1.trans h1.deep, h2.2.2⟩
theorem xjc {alts : PS -> T × PS} {rs : List Int} (ha : ∀ s, Go1 rs s (alts s).2) {s : PS} (h : 0 <= pk rs s) : s.pos + 1 <= (xaz alts rs s).2.pos /\ (xaz alts rs s).2.deep = s.deep /\ Inv rs (xaz alts rs s).2 := by
 have hr := xaK h
 have hn := xjU h
 have hi : Inv rs (nx rs s) := by rw [hn]; exact ⟨by simp; omega, fun _ => by simp; omega⟩
 have hnb : (nx rs s).bad = false := by rw [hn]; exact hr.2
 have hnp : (nx rs s).pos = s.pos + 1 := by rw [hn]
 have hnd : (nx rs s).deep = s.deep := by rw [hn]
 unfold xaz
 split
 · have h1 := ha ⟨s.pos + 1, s.deep + 1, (nx rs s).bad || decide (10 < s.deep + 1)⟩
   have h2 := xgq rs 41 (alts ⟨s.pos + 1, s.deep + 1, (nx rs s).bad || decide (10 < s.deep + 1)⟩).2 (by omega)
   have h3 := h1.trans h2
   have h4 : Inv rs ⟨s.pos + 1, s.deep + 1, (nx rs s).bad || decide (10 < s.deep + 1)⟩ := ⟨by simp; omega, fun _ => by simp; omega⟩
   have h5 := h3.inv h4
   exact ⟨h3.pos, by simp only; rw [h3.deep]; simp, h5.a, h5.b⟩
 split
 · exact ⟨by rw [hnp]; exact Nat.le_refl _, hnd, hi⟩
 split
 · exact ⟨by rw [hnp]; exact Nat.le_refl _, hnd, hi⟩
 split
 · exact ⟨by rw [hnp]; exact Nat.le_refl _, hnd, hi⟩
 split
 · have := clsR_go hnb hi
   exact ⟨by rw [hnp] at this; exact this.1, this.2.1.trans hnd, this.2.2⟩
 split
 · have := xef rs (nx rs s)
   refine ⟨by simp only; rw [this.1, hnp]; omega, this.2.trans hnd, by simp only; rw [this.1, hnp]; omega, fun hb => ?_⟩
   have hb := xiM (xi5 hb)
   simp only; rw [this.1]; exact hb.1
 exact ⟨by simp, rfl, by simp; omega, fun _ => by simp; omega⟩
theorem xd {alts : PS -> T × PS} {rs : List Int} (ha : ∀ s, Go1 rs s (alts s).2) {s : PS} (h : 0 <= pk rs s) : s.pos + 1 <= (xan alts rs s).2.pos /\ (xan alts rs s).2.deep = s.deep /\ Inv rs (xan alts rs s).2 := by
 have h1 := xjc ha h
 have h2 := xeY rs (xaz alts rs s).2
 unfold xan
 split
 · have h3 := h2.trans (or_go rs _ (decide (pk rs s = 94) || decide (pk rs s = 36)))
   exact ⟨Nat.le_trans h1.1 h3.pos, h3.deep.trans h1.2.1, h3.inv h1.2.2⟩
 exact ⟨Nat.le_trans h1.1 h2.pos, h2.deep.trans h1.2.1, h2.inv h1.2.2⟩
theorem xeW {alts : PS -> T × PS} {rs : List Int} (ha : ∀ s, Go1 rs s (alts s).2) {s : PS} (h : 0 <= pk rs s) : Go1 rs s (xan alts rs s).2 := by
 have h1 := xd ha h
 exact ⟨by omega, h1.2.1, fun hb => (by rw [(xaK h).2] at hb; cases hb), fun _ => h1.2.2⟩
theorem xf7 {r : Int} (h : isPc r = true) : 0 <= r := by simp [isPc] at h; exact h.1
theorem xiD {alts : PS -> T × PS} {rs : List Int} (ha : ∀ s, Go1 rs s (alts s).2) : ∀ n s l, Go1 rs s (xbn alts rs n s l).2 := by
 intro n
 induction n with
 | zero => intro s l; exact Go1.refl _ _
 | succ n ih =>
  intro s l
  unfold xbn
  split
  · rename_i h
    exact (xeW ha (xf7 h)).trans (ih _ _)
  exact Go1.refl _ _
theorem xcP {alts : PS -> T × PS} {rs : List Int} (ha : ∀ s, Go1 rs s (alts s).2) (s : PS) : Go1 rs s (xar alts rs s).2 := xiD ha _ _ _
theorem xgo {alts : PS -> T × PS} {rs : List Int} (ha : ∀ s, Go1 rs s (alts s).2) : ∀ n s l, Go1 rs s (xbo alts rs n s l).2 := by
 intro n
 induction n with
 | zero => intro s l; exact Go1.refl _ _
 | succ n ih =>
  intro s l
  unfold xbo
  split
  · exact ((xhy rs 124 s (by omega)).trans (xcP ha _)).trans (ih _ _)
  exact Go1.refl _ _
theorem xek {alts : PS -> T × PS} {rs : List Int} (ha : ∀ s, Go1 rs s (alts s).2) (s : PS) : Go1 rs s (xdc alts rs s).2 := (xcP ha s).trans (xgo ha _ _ _)
theorem xgm (rs : List Int) : ∀ n s, Go1 rs s (alts rs n s).2 := by
 intro n
 induction n with
 | zero => exact fun s => xek (fun s => Go1.refl _ _) s
 | succ n ih => exact fun s => xek ih s
theorem xkc (c : UInt8) (l : List UInt8) (h : c.toNat < 128) : getP (c :: l) = ((c.toNat : Int), 1) := by
 have h1 : lenP c.toNat = 1 := by unfold lenP; rw [if_pos h]
 rw [xcA, h1]
 have h2 : xbP c = c.toNat := by unfold xbP; rw [h1]; simp
 have h3 : sizP (c.toNat : Int) = 1 := by
  have : isB (c.toNat : Int) = true := by simp [isB]; omega
  unfold sizP; rw [this]; simp; omega
 simp [xbk, h2, h3]
noncomputable def xcV (rs : List Int) : T × Int :=
 if (alts rs 11 ⟨0, 0, false⟩).2.bad = true \/ (alts rs 11 ⟨0, 0, false⟩).2.pos ≠ rs.length then (xa1, 15) else ((alts rs 11 ⟨0, 0, false⟩).1, 0)
noncomputable def xaX (l : List UInt8) : T × Int :=
 if 200 < l.length then (xa1, 16) else match pts l with | none => (xa1, 15) | some rs => xcV rs
theorem xfs {f : PS -> T × PS} {rs : List Int} {s : PS} (n : Nat) (l : List T) (h : isPc (pk rs s) = false) : xbn f rs n s l = (l, s) := by
 cases n with
 | zero => rfl
 | succ n => unfold xbn; rw [h]; rfl
theorem xjM {f : PS -> T × PS} {rs : List Int} {s : PS} (n : Nat) (l : List T) (h : isPc (pk rs s) = true) : xbn f rs (n + 1) s l = xbn f rs n (xan f rs s).2 (l ++ [(xan f rs s).1]) := by
 conv => lhs; unfold xbn
 rw [h]; rfl
theorem xdV {f : PS -> T × PS} {rs : List Int} {s : PS} (n : Nat) (l : List T) (h : ¬ pk rs s = 124) : xbo f rs n s l = (l, s) := by
 cases n with
 | zero => rfl
 | succ n => unfold xbo; rw [if_neg h]
theorem xkw {f : PS -> T × PS} {rs : List Int} {s : PS} (n : Nat) (l : List T) (h : pk rs s = 124) : xbo f rs (n + 1) s l = xbo f rs n (xar f rs (tk rs 124 s)).2 (l ++ [(xar f rs (tk rs 124 s)).1]) := by
 conv => lhs; unfold xbo
 rw [if_pos h]
theorem xiZ : isPc (-1) = false := by decide
theorem wt_no {rs : List Int} {s : PS} {r : Int} (h : ¬ pk rs s = r) : (wt rs r s).bad = true := by unfold wt; rw [if_neg h]
theorem xnR {rs : List Int} {s : PS} (h : pk rs s ≠ 63 /\ pk rs s ≠ 43 /\ pk rs s ≠ 42 /\ pk rs s ≠ 123) : cntV rs s = (0, 0, false) /\ cntS rs s = s := by
 unfold cntV cntS
 rw [if_neg h.1, if_neg h.2.1, if_neg h.2.2.1, if_neg h.2.2.2, if_neg (by omega), if_neg h.2.2.2]
 exact ⟨rfl, rfl⟩
theorem xbc {f : PS -> T × PS} {rs : List Int} {s : PS} (h : (xaz f rs s).2.bad = true) : (xan f rs s).2.bad = true := by
 have h2 := (xeY rs (xaz f rs s).2).bad h
 unfold xan
 split
 · simp [h2]
 exact h2
end Go.Proofs.YtapmdhejgnplaaaGreat
