/-
  Several texts in one: The document's Tree: the two rows of nodes that it gathers; a struct stored at once. (*crew).put. match.point, Places.
-/
import Derived.Test.YtjahiihmoglpfaaGreatDoorMg11
import Derived.Maps.AppendAt
import Derived.Deep.AppendLies
import Derived.Great.BuildSlice
import Derived.Laws.Tables
import Derived.Laws.Rows
import Derived.Test.YtjahiihmoglpfaaGreatDoorMg9
import Derived.BigRegion
import Derived.Test.YtjahiihmoglpfaaGreatDoorMg1
import Derived.Test.YtjahiihmoglpfaaGreatDoorMg2
import Derived.Test.YtjahiihmoglpfaaGreatDoorMg6
import Derived.Lib.ConvBytes
namespace Go.Proofs.YtjahiihmoglpfaaGreatDoor
open Go.RowKit
set_option linter.unusedVariables false
set_option linter.unusedSimpArgs false
set_option maxRecDepth 100000
theorem xaa.setRow {S : Nat → Prop} {a b : World} (h : xaa S a b) {g : Nat} (hg : S g) (cs : Array Value) : xaa S a (b.setRow g cs) :=
 ⟨h.os, h.tape, h.output, by have := h.size; simp; omega, fun k hk hs => by
  have hne : g ≠ k := fun e => hs (e ▸ hg)
  have : (b.setRow g cs).heap[k]? = b.heap[k]? := by
   unfold World.setRow
   simp [Array.getElem?_modify, hne]
  rw [this]; exact h.block k hk hs⟩
theorem xap {P : Program} {ops : Array Oper} {rest : List Oper} {o : Oper} {a : Act} {w : World} {Q : Exit → Act → World → Prop} (hgd : o.guard = none) (ty : TypeId) (x y : Operand) (ho : o.op = .store ty x y)
 (hd : o.dst = none) (g : Nat) (cells : Array Value) (hx : a.eval x = .pointer (some ⟨g, 0, none⟩)) (hy : a.eval y = .agg cells)
 (t : TypeId) (old : Array Value) (hg : w.heap[g]? = some (.cells old t (0, 0))) (hi : (P.info? ty).map (·.size) = some cells.size)
 (hold : old.size = cells.size) (h1 : cells.all (·.oneCell') = true)
 (h : ∀ w6 : World, w6.heap[g]? = some (.cells cells t (0, 0)) → xaa (fun b => b = g) w w6 → wpList P ops Q rest a w6) : wpList P ops Q (o :: rest) a w :=
 wpList_store_rowTo hgd ty x y ho hd g cells hx hy t old hg hi hold h1 (h _ (setRow_heap w g old cells t (0, 0) hg) (xaa.setRow (S := fun b => b = g) (xaa.refl _ _) rfl cells))
theorem five {w : World} {b : Nat} {v0 v1 v2 v3 v4 : Value} {T : TypeId} (h : w.heap[b]? = some (.cells #[v0, v1, v2, v3, v4] T (0, 0))) :
 w.cell? ⟨b, 0, none⟩ = some v0 ∧ w.cell? ⟨b, 1, none⟩ = some v1 ∧ w.cell? ⟨b, 2, none⟩ = some v2 ∧ w.cell? ⟨b, 3, none⟩ = some v3 ∧ w.cell? ⟨b, 4, none⟩ = some v4 :=
 ⟨by rw [xaX h]; rfl, by rw [xaX h]; rfl, by rw [xaX h]; rfl, by rw [xaX h]; rfl, by rw [xaX h]; rfl⟩
theorem xbd : (Tryz.prog.info? 52).map (·.size) = some 5 := by kernel_rfl
def Kq (lo : Nat) (D : Nat → Prop) (hs : Nat) (oa op : Option Nat) : Nat → Prop := fun b => (D b ∨ lo < b ∧ b < hs) ∧ oa ≠ some b ∧ op ≠ some b
structure xaF (w wr : World) (D : Nat → Prop) (av : Value) (al : List T) (us : List NV) (pv : Value) (ps : List T) (vs : List NV) : Prop where
 aown : wr.ownsRow (w.heap.size + 1) 52 5 av al.length (cellsOf 5 encN us)
 pown : wr.ownsRow (w.heap.size + 1) 52 5 pv ps.length (cellsOf 5 encN vs)
 sep : ∀ b, av.ownBlock = some b → pv.ownBlock = some b → False
 akids : FAt wr (Kq w.heap.size D wr.heap.size av.ownBlock pv.ownBlock) (F.ofL al) us
 pkids : FAt wr (Kq w.heap.size D wr.heap.size av.ownBlock pv.ownBlock) (F.ofL ps) vs
 keep : xaa (fun _ => False) (w.alloc (.cells #[.int .i64 0, .slice none 0 0, .int .i64 0, .int .i64 0, .slice none 0 0] 52)) wr
theorem xaF.size {w wr : World} {D : Nat → Prop} {av pv : Value} {al ps : List T} {us vs : List NV} (h : xaF w wr D av al us pv ps vs) : w.heap.size < wr.heap.size := by
 have := h.keep.size; simp at this; omega
theorem xaF.start {w wr : World} (D : Nat → Prop) (K : xaa (fun _ => False) (w.alloc (.cells #[.int .i64 0, .slice none 0 0, .int .i64 0, .int .i64 0, .slice none 0 0] 52)) wr) : xaF w wr D (.slice none 0 0) [] [] (.slice none 0 0) [] [] :=
 ⟨World.ownsRow_nil _ _ _ _, World.ownsRow_nil _ _ _ _, fun b hb => by simp [Value.ownBlock] at hb, rfl, rfl, K⟩
theorem xaF.old {w wr : World} {D : Nat → Prop} {av pv : Value} {al ps : List T} {us vs : List NV} (h : xaF w wr D av al us pv ps vs) (hD : ∀ b, D b → b < w.heap.size) {b : Nat} (hb : D b) (hs : Nat) : Kq w.heap.size D hs av.ownBlock pv.ownBlock b :=
 ⟨Or.inl hb, fun e => by have := xab h.aown b e; have := hD b hb; omega, fun e => by have := xab h.pown b e; have := hD b hb; omega⟩
theorem xaF.new {w wr : World} {D : Nat → Prop} {av pv : Value} {al ps : List T} {us vs : List NV} (h : xaF w wr D av al us pv ps vs) {b hs : Nat} (h1 : wr.heap.size ≤ b) (h2 : b < hs) : Kq w.heap.size D hs av.ownBlock pv.ownBlock b :=
 ⟨Or.inr ⟨by have := h.size; omega, h2⟩, fun e => by have := xax h.aown b e; omega, fun e => by have := xax h.pown b e; omega⟩
theorem xaF.keepF {w wr w' : World} {D : Nat → Prop} {av pv : Value} {al ps : List T} {us vs : List NV} (h : xaF w wr D av al us pv ps vs) (K : xaa (fun _ => False) wr w') : xaF w w' D av al us pv ps vs :=
 ⟨xae h.aown K (fun _ _ => id), xae h.pown K (fun _ _ => id), h.sep, h.akids.keepsTo K (fun _ _ => id) (fun b hb => ⟨hb.1.imp id (fun x => ⟨x.1, Nat.lt_of_lt_of_le x.2 K.size⟩), hb.2⟩),
  h.pkids.keepsTo K (fun _ _ => id) (fun b hb => ⟨hb.1.imp id (fun x => ⟨x.1, Nat.lt_of_lt_of_le x.2 K.size⟩), hb.2⟩), h.keep.trans K⟩
theorem xaF.symm {w wr : World} {D : Nat → Prop} {av pv : Value} {al ps : List T} {us vs : List NV} (h : xaF w wr D av al us pv ps vs) : xaF w wr D pv ps vs av al us :=
 ⟨h.pown, h.aown, fun b x y => h.sep b y x, h.pkids.keepsTo (xaa.refl (fun _ => False) _) (fun _ _ => id) (fun b hb => ⟨hb.1, hb.2.2, hb.2.1⟩), h.akids.keepsTo (xaa.refl (fun _ => False) _) (fun _ _ => id) (fun b hb => ⟨hb.1, hb.2.2, hb.2.1⟩), h.keep⟩
theorem xaF.dropP {w wr : World} {D : Nat → Prop} {av pv : Value} {al ps : List T} {us vs : List NV} (h : xaF w wr D av al us pv ps vs) : xaF w wr D av al us (.slice none 0 0) [] [] :=
 ⟨h.aown, World.ownsRow_nil _ _ _ _, fun b x y => by simp [Value.ownBlock] at y, h.akids.keepsTo (xaa.refl (fun _ => False) _) (fun _ _ => id) (fun b hb => ⟨hb.1, hb.2.1, by simp [Value.ownBlock]⟩), rfl, h.keep⟩
theorem xcS (v : NV) : [Value.int .i64 v.op, v.sv, .int .i64 v.mn, .int .i64 v.mx, v.kv] = cellsOf 5 encN [v] := by simp [cellsOf, xfe]
theorem xaF.push {w wr wP w9 : World} {D : Nat → Prop} {av pv v' : Value} {al ps : List T} {us vs : List NV} {v : NV} {t : T} (hD : ∀ b, D b → b < w.heap.size) (h : xaF w wr D av al us pv ps vs) (K : xaa (fun _ => False) wr wP)
 (hT : TAt wP (Kq w.heap.size D wP.heap.size av.ownBlock pv.ownBlock) v t) (hown : w9.ownsRow (w.heap.size + 1) 52 5 v' (ps.length + 1) (cellsOf 5 encN vs ++ [Value.int .i64 v.op, v.sv, .int .i64 v.mn, .int .i64 v.mx, v.kv]))
 (hg : wP.grownBy w9 pv.ownBlock) {H : Nat} (hloc : v'.ownBlock = pv.ownBlock ∨ v'.ownBlock = some H) (hH : wP.heap.size ≤ H) : xaF w w9 D av al us v' (ps ++ [t]) (vs ++ [v]) := by
 have hP := h.keepF K
 have k9 : xaa (fun b => pv.ownBlock = some b) wP w9 := (xaa.refl _ _).grown hg (fun b hb => Or.inl hb)
 have hs9 := k9.size
 have hsz := hP.size
 have e1 : ∀ b, Kq w.heap.size D wP.heap.size av.ownBlock pv.ownBlock b → Kq w.heap.size D w9.heap.size av.ownBlock v'.ownBlock b := fun b hb => ⟨hb.1.imp id (fun x => ⟨x.1, by omega⟩), hb.2.1, fun e => by
  rcases hloc with h1 | h1
  · exact hb.2.2 (h1 ▸ e)
  rw [h1] at e
  have := Option.some.inj e
  rcases hb.1 with h2 | ⟨_, h2⟩
  · have := hD b h2; omega
  omega⟩
 refine ⟨xae hP.aown k9 (fun b x y => hP.sep b x y), ?_, fun b x y => ?_, hP.akids.keepsTo k9 (fun b hb e => hb.2.2 e) e1, ?_, ?_⟩
 · rw [List.length_append, xai, ← xcS]; exact hown
 · rcases hloc with h1 | h1
   · exact hP.sep b x (h1 ▸ y)
   rw [h1] at y
   have := Option.some.inj y
   have := xax hP.aown b x
   omega
 · exact FAt.snoc (hP.pkids.keepsTo k9 (fun b hb e => hb.2.2 e) e1) (hT.keepsTo k9 (fun b hb e => hb.2.2 e) e1)
 exact hP.keep.trans2 k9 (fun b hb e => by have := xab hP.pown b e; simp at hb; omega)
theorem xaF.slofP {w wr : World} {D : Nat → Prop} {av pv : Value} {al ps : List T} {us vs : List NV} (h : xaF w wr D av al us pv ps vs) (hl : ps.length ≤ 1000000) : SlOf 5 encN wr pv vs :=
 SlOf.ofOwn (by have := h.pown; rwa [← h.pkids.len] at this) (by rw [h.pkids.len]; omega)
theorem xaF.pvc_le {w wr : World} {D : Nat → Prop} {n c : Nat} {av : Value} {pa : Option Addr} {al ps : List T} {us vs : List NV} (h : xaF w wr D av al us (.slice pa n c) ps vs) : n ≤ c := by
 rcases h.pown.2 with ⟨e, _⟩ | ⟨g, cap, cur, e, _, _, h1, _⟩
 · injection e with _ e1 e2; omega
 injection e with _ e1 e2; omega
theorem FAt.init {w : World} {P : Nat → Prop} {t : T} {v : NV} : ∀ {l : List T} {vs : List NV}, FAt w P (F.ofL (l ++ [t])) (vs ++ [v]) → FAt w P (F.ofL l) vs ∧ TAt w P v t := by
 intro l
 induction l with
 | nil =>
  intro vs h
  obtain ⟨v', vs', e, h1, h2⟩ := FAt.cons_iff.1 h
  have h3 : vs' = [] := h2
  subst h3
  cases vs with
  | nil => obtain rfl := (List.cons.inj e).1; exact ⟨rfl, h1⟩
  | cons a b => have := (List.cons.inj e).2; simp at this
 | cons u l ih =>
  intro vs h
  obtain ⟨v', vs', e, h1, h2⟩ := FAt.cons_iff.1 h
  cases vs with
  | nil =>
   have h3 := (List.cons.inj e).2
   have := h2.len
   rw [← h3] at this
   simp at this
  | cons a b =>
   obtain ⟨rfl, rfl⟩ := List.cons.inj e
   obtain ⟨h4, h5⟩ := ih h2
   exact ⟨FAt.cons_iff.2 ⟨_, _, rfl, h1, h4⟩, h5⟩
theorem xlw {w : World} {b1 b2 : Nat} {e : TypeId} {size : Nat} {v : Value} {n : Nat} {xs : List Value} (h : w.ownsRow b1 e size v n xs) (hb : b2 ≤ b1) : w.ownsRow b2 e size v n xs := by
 refine ⟨h.1, ?_⟩
 rcases h.2 with h2 | ⟨g, cap, cur, h2, h3, h4⟩
 · exact Or.inl h2
 exact Or.inr ⟨g, cap, cur, h2, Nat.le_trans hb h3, h4⟩
theorem xaF.count {w wr wA w2 : World} {D : Nat → Prop} {av pv : Value} {al ps0 : List T} {us vs0 : List NV} {tn : T} {vn : NV} (hD : ∀ b, D b → b < w.heap.size) (hR : xaF w wr D av al us pv (ps0 ++ [tn]) (vs0 ++ [vn])) (KA : xaa (fun _ => False) wr wA) (K2 : xaa (fun _ => False) wA w2)
 {g2 cap2 g77 N : Nat} {XS : List Value} {mm xx : Int} (hm : in64 mm) (hx : in64 xx) (hN : N = ps0.length + 1) (hXS : XS = cellsOf 5 encN vs0)
 (hown2 : w2.ownsRow wA.heap.size 52 5 (.slice (some ⟨g2, 0, none⟩) N cap2) N (XS ++ [.int .i64 6, .slice none 0 0, .int .i64 mm, .int .i64 xx, .slice (some ⟨g77, 0, none⟩) 1 1]))
 (hk : ∀ j, j < 5 → w2.cell? ⟨g77, j, none⟩ = some (encN vn j)) (h77 : wA.heap.size ≤ g77) (hne : g2 ≠ g77) :
 xaF w w2 D av al us (.slice (some ⟨g2, 0, none⟩) N cap2) (ps0 ++ [⟨6, [], mm, xx, F.ofL [tn]⟩]) (vs0 ++ [⟨6, .slice none 0 0, mm, xx, .slice (some ⟨g77, 0, none⟩) 1 1⟩]) := by
 have h2 := xab hown2 g2 rfl
 have h3 := xax hown2 g2 rfl
 have h4 : g77 < w2.heap.size := xan (hk 0 (by omega))
 have hsz := hR.size
 have hs1 := KA.size
 have hs2 := K2.size
 have K := KA.trans K2
 have hW := hR.keepF K
 subst hN
 subst hXS
 obtain ⟨hF, hT⟩ := FAt.init hR.pkids
 have e1 : ∀ b, Kq w.heap.size D wr.heap.size av.ownBlock pv.ownBlock b → Kq w.heap.size D w2.heap.size av.ownBlock (Value.slice (some ⟨g2, 0, none⟩) (ps0.length + 1) cap2).ownBlock b := fun b hb => ⟨hb.1.imp id (fun x => ⟨x.1, by omega⟩), hb.2.1, fun e => by
  have e : g2 = b := Option.some.inj e
  rcases hb.1 with h | ⟨_, h⟩
  · have := hD b h; omega
  omega⟩
 have hTn : TAt w2 (Kq w.heap.size D w2.heap.size av.ownBlock (Value.slice (some ⟨g2, 0, none⟩) (ps0.length + 1) cap2).ownBlock) ⟨6, .slice none 0 0, mm, xx, .slice (some ⟨g77, 0, none⟩) 1 1⟩ ⟨6, [], mm, xx, F.ofL [tn]⟩ := by
  refine ⟨rfl, rfl, rfl, hm, hx, ⟨SlOf.nil _ _ _, fun p hp => by cases hp⟩, fun b hb => by simp [Value.ownBlock] at hb, ⟨[vn], ⟨_, 1, rfl, ⟨by simp, fun h => by cases h⟩, by simp, fun _ => ⟨g77, 0, rfl, fun i x hx j hj => ?_⟩⟩, FAt.cons_iff.2 ⟨vn, [], rfl, hT.keepsTo K (fun _ _ => id) e1, rfl⟩⟩, fun b hb => ?_⟩
  · rcases i with _ | i
    · obtain rfl : vn = x := by simpa using hx
      simpa using hk j hj
    simp at hx
  have e : g77 = b := Option.some.inj hb
  subst e
  exact ⟨Or.inr ⟨by omega, h4⟩, fun e => by have := xax hR.aown _ e; omega, fun e => hne (Option.some.inj e)⟩
 refine ⟨hW.aown, ?_, fun b x y => ?_, hR.akids.keepsTo K (fun _ _ => id) e1, FAt.snoc (hF.keepsTo K (fun _ _ => id) e1) hTn, hW.keep⟩
 · rw [List.length_append, xai, ← xcS]; exact xlw hown2 (by omega)
 have h5 := xax hR.aown b x
 have h6 : g2 = b := Option.some.inj y
 omega
theorem xbm {w : World} {base H : Nat} (hb : base ≤ w.heap.size) (hH : w.heap.size = H) : (w.alloc (.cells #[] 52)).ownsRow base 52 5 (.slice (some ⟨H, 0, none⟩) 0 0) 0 [] := by
 subst hH
 exact ⟨rfl, Or.inr ⟨w.heap.size, 0, _, rfl, hb, heap_alloc_new w _, Nat.le_refl _, by unfold maxLen; decide, rfl, rfl⟩⟩
theorem xke {W : World} {G : Nat} {v0 v1 v2 v3 v4 : Value} (h0 : W.cell? ⟨G, 0, none⟩ = some v0) (h1 : W.cell? ⟨G, 1, none⟩ = some v1) (h2 : W.cell? ⟨G, 2, none⟩ = some v2) (h3 : W.cell? ⟨G, 3, none⟩ = some v3) (h4 : W.cell? ⟨G, 4, none⟩ = some v4) :
 ∀ j u, [v0, v1, v2, v3, v4][j]? = some u → W.cell? ((⟨G, 0, none⟩ : Addr).add j) = some u := by
 intro j u hj
 have hadd : (⟨G, 0, none⟩ : Addr).add j = ⟨G, j, none⟩ := by unfold Addr.add; split <;> simp_all
 rw [hadd]
 match j, hj with
 | 0, hj => simp at hj; subst hj; exact h0
 | 1, hj => simp at hj; subst hj; exact h1
 | 2, hj => simp at hj; subst hj; exact h2
 | 3, hj => simp at hj; subst hj; exact h3
 | 4, hj => simp at hj; subst hj; exact h4
 | j + 5, hj => simp at hj
theorem xaq {W w2 : World} {row : Option Nat} {a : Addr} {v : Value} (hg : W.grownBy w2 row) (h1 : a.block < W.heap.size) (h2 : some a.block ≠ row) (h : W.cell? a = some v) : w2.cell? a = some v := by
 rw [World.grownBy.cell_far hg a h1 h2]; exact h
theorem k5 {W : World} {G : Nat} {o m x : Int} {s k : Value} (h0 : W.cell? ⟨G, 0, none⟩ = some (.int .i64 o)) (h1 : W.cell? ⟨G, 1, none⟩ = some s) (h2 : W.cell? ⟨G, 2, none⟩ = some (.int .i64 m)) (h3 : W.cell? ⟨G, 3, none⟩ = some (.int .i64 x)) (h4 : W.cell? ⟨G, 4, none⟩ = some k) :
 ∀ j, j < 5 → W.cell? ⟨G, j, none⟩ = some (encN ⟨o, s, m, x, k⟩ j) := by
 intro j hj
 match j, hj with
 | 0, _ => exact h0
 | 1, _ => exact h1
 | 2, _ => exact h2
 | 3, _ => exact h3
 | 4, _ => exact h4
theorem xgA {W w2 : World} {row : Option Nat} {G : Nat} {v : NV} (h : ∀ j, j < 5 → W.cell? ⟨G, j, none⟩ = some (encN v j)) (hg : W.grownBy w2 row) (hne : row ≠ some G) : ∀ j, j < 5 → w2.cell? ⟨G, j, none⟩ = some (encN v j) := by
 intro j hj
 rw [World.grownBy.cell_far hg ⟨G, j, none⟩ (xan (h j hj)) (fun e => hne e.symm)]
 exact h j hj
theorem xaF.news0 {w wr W : World} {D : Nat → Prop} {n c g : Nat} {av : Value} {al ps0 : List T} {us vs0 : List NV} {tn : T} {vn : NV} (hR : xaF w wr D av al us (.slice (some ⟨g, 0, none⟩) n c) (ps0 ++ [tn]) (vs0 ++ [vn])) (K : xaa (fun _ => False) wr W) :
 ∀ j u, (cellsOf 5 encN vs0)[j]? = some u → W.cell? ((⟨g, 0, none⟩ : Addr).add j) = some u := by
 intro j u hj
 have hadd : (⟨g, 0, none⟩ : Addr).add j = ⟨g, j, none⟩ := by unfold Addr.add; split <;> simp_all
 rw [hadd]
 have hl := hR.pkids.len
 obtain ⟨_, _, e⟩ := xad hR.pown
 obtain ⟨_, rfl, _⟩ := Value.slice.inj e
 simp at hl
 have hjl : j < vs0.length * 5 := by rw [← xah 5 encN vs0]; exact (List.getElem?_eq_some_iff.1 hj).1
 refine K.cell ?_ id
 rw [hR.pown.cellAt j (by simp; omega), xai, List.getElem?_append_left (by rw [xah]; omega), hj]
theorem xj7 {w : World} {P : Nat → Prop} : ∀ {l : List T} {vs : List NV}, FAt w P (F.ofL l) vs → ∀ u ∈ cellsOf 5 encN vs, u.oneCell' = true := by
 intro l
 induction l with
 | nil => intro vs h u hu; have h : vs = [] := h; subst h; simp [cellsOf] at hu
 | cons t l ih =>
  intro vs h u hu
  obtain ⟨v, vs', rfl, h1, h2⟩ := FAt.cons_iff.1 h
  rw [show v :: vs' = [v] ++ vs' from rfl, xai, List.mem_append] at hu
  rcases hu with hu | hu
  · obtain ⟨o, a1, n1, c1, m, x, a2, n2, c2, rfl⟩ := NV.form h1
    rw [← xcS] at hu
    simp at hu
    rcases hu with rfl | rfl | rfl | rfl | rfl <;> rfl
  exact ih h2 u hu
def xmn (w : World) (D : Nat → Prop) (e : Ending) (w' : World) : Prop := ∃ (v : NV) (t : T) (ok : Bool), e = .returned (.tuple #[v.val, .bool ok]) ∧ TAt w' (fun b => D b ∨ w.heap.size ≤ b ∧ b < w'.heap.size) v t ∧ xaa (fun _ => False) w w'
theorem xcY {w wX wE : World} {D : Nat → Prop} {v : NV} {t : T} {ok : Bool} (hD : ∀ b, D b → b < w.heap.size) (K : xaa (fun _ => False) (w.alloc (.cells #[.int .i64 0, .slice none 0 0, .int .i64 0, .int .i64 0, .slice none 0 0] 52)) wX)
 (hT : TAt wX (fun b => D b ∨ w.heap.size < b ∧ b < wX.heap.size) v t) (kE : xaa (fun b => b = w.heap.size) wX wE) : xmn w D (.returned (.tuple #[v.val, .bool ok])) wE := by
 have h1 := K.size
 have h2 := kE.size
 simp at h1
 exact ⟨v, t, ok, rfl, hT.keepsTo kE (fun b hb e => hb.elim (fun h => by have := hD b h; omega) (fun h => by omega)) (fun b hb => hb.imp id (fun h => by omega)), (xaa.trans (KI.out) K).trans2 kE (fun b hb e => by omega)⟩
def TrW (n : Nat) (D : Nat → Prop) (w : World) (av pv lov iv : Value) (wr : World) : Prop :=
 ∃ i al us ps vs lo, iv = .int .i64 (i : Nat) ∧ lov = .bool lo ∧ xaF w wr D av al us pv ps vs ∧ (lo = true → ps ≠ []) ∧ al.length ≤ i ∧ ps.length ≤ i ∧ i ≤ n + 1
theorem xcf {n j : Nat} {D : Nat → Prop} {w w9 : World} {av pv lov iv : Value} {al ps : List T} {us vs : List NV} {lo : Bool} (hR : xaF w w9 D av al us pv ps vs) (hj : j ≤ n + 1)
 (hlo : lo = true → ps ≠ []) (ha : al.length ≤ j) (hp : ps.length ≤ j) (e1 : iv = .int .i64 (j : Nat)) (e2 : lov = .bool lo) : TrW n D w av pv lov iv w9 := ⟨j, al, us, ps, vs, lo, e1, e2, hR, hlo, ha, hp, hj⟩
theorem TAt.bare (w : World) (P : Nat → Prop) (op : Int) : TAt w P ⟨op, .slice none 0 0, 0, 0, .slice none 0 0⟩ ⟨op, [], 0, 0, .nil⟩ :=
 ⟨rfl, rfl, rfl, xbq, xbq, ⟨SlOf.nil _ _ _, fun p hp => by cases hp⟩, fun b hb => by simp [Value.ownBlock] at hb, ⟨[], SlOf.nil _ _ _, rfl⟩, fun b hb => by simp [Value.ownBlock] at hb⟩
theorem TAt.char {w : World} {P : Nat → Prop} {sv : Value} {s : List (Int × Int)} (h : RSl w sv s) (hb : ∀ b, sv.ownBlock = some b → P b) : TAt w P ⟨1, sv, 0, 0, .slice none 0 0⟩ (xbn s) :=
 ⟨rfl, rfl, rfl, xbq, xbq, h, hb, ⟨[], SlOf.nil _ _ _, rfl⟩, fun b hb => by simp [Value.ownBlock] at hb⟩
theorem xbJ (w : World) (o : Obj) (cs : List Value) (ty : TypeId) : ∀ j u, cs[j]? = some u → ((w.alloc o).alloc (.cells cs.toArray ty)).cell? ((⟨w.heap.size + 1, 0, none⟩ : Addr).add j) = some u := by
 intro j u h
 have := xak (w.alloc o) cs ty j u h
 simpa using this
theorem PtR.len {is : List Ins} {bg en : Bool} {i : Nat} {s s' : List Nat × (Nat → Bool)} (h : PtR is bg en i s s') : s.1.length ≤ s'.1.length := by
 induction h with
 | seen => exact Nat.le_refl _
 | leaf => simp
 | split _ _ _ _ _ ih1 ih2 => exact Nat.le_trans ih1 ih2
 | skip => exact Nat.le_refl _
 | pass _ _ _ _ ih => exact ih
def PuE (is : List Ins) (B tb mb now : Nat) (lv : Value) (s' : List Nat × (Nat → Bool)) (w : World) (e : Ending) (w' : World) : Prop :=
 e = .returned (.tuple #[]) ∧ ∃ lv', Thr B w' tb mb is.length lv' s'.1 s'.2 now ∧ xaa (inT tb mb lv) w w' ∧ (lv'.ownBlock = lv.ownBlock ∨ ∃ g, lv'.ownBlock = some g ∧ w.heap.size ≤ g)
def PtOK (is : List Ins) (bg en : Bool) (i : Nat) (s s' : List Nat × (Nat → Bool)) : Prop := ∀ (B c tb mb now z : Nat) (pv : Value) (tx : List UInt8) (w : World) (lv : Value), Thr B w tb mb is.length lv s.1 s.2 now → PgAt w (fun b => b < B) pv is → w.cell? ⟨c, 0, none⟩ = some pv → w.cell? ⟨c, 1, none⟩ = some (.string ⟨tx.toArray⟩) → bg = decide (z = 0) → en = decide (z = tx.length) → ¬ inT tb mb lv c → s'.1.length ≤ 4000 → is.length ≤ 4000 → now ≤ 1000000000000 → tx.length ≤ 100000 →
 Calls Tryz.prog 159 #[.pointer (some ⟨c, 0, none⟩), .pointer (some ⟨tb, 0, none⟩), .int .i64 i, .int .i64 z] w fun e w' => PuE is B tb mb now lv s' w e w'
set_option maxHeartbeats 4000000 in
theorem xln {is : List Ins} {bg en : Bool} {i : Nat} {L : List Nat} {M : Nat → Bool} (hi : i < is.length) (h : M i = true) : PtOK is bg en i (L, M) (L, M) := by
 intro B c tb mb now z pv tx w lv hT hP hc hc9 hbg hen hin hl his hnow htx
 obtain ⟨m, hm⟩ := hT.mks
 obtain ⟨x0, x1, x2, x3⟩ := hm i hi
 have e1 : m i = now := x3.1 h
 rw [e1] at x0
 have c1 : w.cell? ⟨tb, 1, none⟩ = some (.slice (some ⟨mb, 0, none⟩) is.length is.length) := by rw [Lib.cell_of_heap hT.bk]; rfl
 have c2 : w.cell? ⟨tb, 2, none⟩ = some (.int .i64 now) := by rw [Lib.cell_of_heap hT.bk]; rfl
 have HT := xmA hT
 clear hT hP hm x3 hin hc9 hbg hen
 go_enter Tryz.func159, Tryz.ntmps159
 go_wp2_with fail
 go_quiet (fail)
 go_wp2_with fail
 refine bodyPost_ret (results_none rfl _ _ _) rfl ?_
 exact ⟨rfl, lv, HT.out.keeps ((xaa.refl (fun _ => False) _).drawN _) (fun _ _ => id), (xaa.refl _ _).drawN _, Or.inl rfl⟩
set_option maxHeartbeats 8000000 in
theorem xlp {is : List Ins} {bg en : Bool} {i : Nat} {L : List Nat} {M : Nat → Bool} {x : Ins} (h : M i = false) (hx : is[i]? = some x) (ho : x.op = 0 ∨ x.op = 1) : PtOK is bg en i (L, M) (L ++ [i], updM M i) := by
 intro B c tb mb now z pv tx w lv hT hP hc hc9 hbg hen hin hl his hnow htx
 obtain ⟨i0, hi0, hz0, hz1, hz2⟩ := info_parts xbM
 have hil := (List.getElem?_eq_some_iff.1 hx).1
 obtain ⟨m, hm⟩ := hT.mks
 obtain ⟨x0, x1, x2, x3⟩ := hm i hil
 have e1 : ¬ m i = now := fun e => by have h9 : M i = true := x3.2 e; rw [h9] at h; cases h
 obtain ⟨mi, hmi⟩ : ∃ k, m i = k := ⟨_, rfl⟩
 rw [hmi] at x0 e1
 have g1 : ((mi : Int) == (now : Int)) = false := beq_eq_false_iff_ne.2 (by omega)
 have c1 : w.cell? ⟨tb, 1, none⟩ = some (.slice (some ⟨mb, 0, none⟩) is.length is.length) := by rw [Lib.cell_of_heap hT.bk]; rfl
 have c2 : w.cell? ⟨tb, 2, none⟩ = some (.int .i64 now) := by rw [Lib.cell_of_heap hT.bk]; rfl
 have HT := xmA hT
 have HP := xmA hP
 clear hT hP hm x3 hmi x2 hc9 hbg hen
 go_enter Tryz.func159, Tryz.ntmps159
 go_wp2_with fail
 go_quiet (fail)
 go_wp2_with fail
 go_region
 obtain ⟨w1, hw1⟩ : ∃ W, W = ((w.drewN (nq + 1)).setCell ⟨mb, i, none⟩ (.int .i64 now)) := ⟨_, rfl⟩
 have hT1 : Thr B w1 tb mb is.length lv L (updM M i) now := by rw [hw1]; exact (HT.out.keeps ((xaa.refl (fun _ => False) _).drawN _) (fun _ _ => id)).mark hil
 have hK1 : xaa (inT tb mb lv) w w1 := by rw [hw1]; exact ((xaa.refl _ _).drawN _).set (p := ⟨mb, i, none⟩) (Or.inr (Or.inl rfl)) _
 rw [← hw1]
 have hP1 := HP.out.keepsTo (Q := fun b => b < B) hK1 (fun b hb e => by have := (HT.out.inlt e).2; omega) (fun _ h => h)
 have hc1 := hK1.cell hc hin
 obtain ⟨b, off, cp, sa, sc, rfl, hb, _, _, hbB, z0, z1, z2, z3⟩ := hP1.at hx
 obtain ⟨op, set, xx, yy⟩ := x
 simp only at ho z0 z1 z2 z3
 obtain ⟨va, vc, rfl⟩ := xad hT1.own
 have t0 : w1.cell? ⟨tb, 0, none⟩ = some (.slice va L.length vc) := by rw [Lib.cell_of_heap hT1.bk]; rfl
 have f0 : w1.frozen? ⟨tb, 0, none⟩ = false := Lib.frozen_of_heap hT1.bk 0
 have t0a := xaj t0 (.cells #[.int .i64 op, .slice sa set.length sc, .int .i64 xx, .int .i64 yy] 130)
 have hltb := hT1.ltb
 have hne2 := hT1.ne2
 have HT1 := xmA hT1
 have HK1 := xmA hK1
 have hBw : B ≤ w1.heap.size := by have := hT1.htb; omega
 have hLl : L.length ≤ 4000 := by simp at hl; omega
 clear hw1 hT1 hK1 hP1 hx hc hin c1 c2 x0 x1 HT HP h g1 e1
 rcases ho with rfl | rfl
 all_goals
  go_wp2_with (at_builtin; refine wpList_append_lies _ rfl (.tmp 44) (.tmp 46) 23 rfl B 3 i0 _ 1 8 Tryz.underlying23 hi0 hz0 hz1 hz2 rfl (by decide) _ L.length (L.map natV) rfl (xac (xac HT1.out.own _) _) ⟨w1.heap.size + 1, 0, none⟩ 1 1 [.int .i64 i] rfl rfl (by exact xbJ w1 _ [_] _) (by simp [Value.oneCell']) (by decide) (by unfold maxLen; omega) (by omega) (by simp; omega) _ rfl ?_)
  intro g cap w2 hown2 hgrow2 hat2 hlt2
  have t2 : w2.cell? ⟨tb, 0, none⟩ = some (.slice va L.length vc) := (hgrow2.cell_far ⟨tb, 0, none⟩ (by simp; omega) (fun e => hne2 e.symm)).trans (xaj t0a _)
  have f2 : w2.frozen? ⟨tb, 0, none⟩ = false := (hgrow2.frozen_far ⟨tb, 0, none⟩ (by simp; omega) (fun e => hne2 e.symm)).trans ((((xaa.refl (fun _ => False) w1).alloc _).alloc _).frozen f0 hltb id)
  have hPu := Thr.push (i := i) HT1.out (((xaa.refl (fun _ => False) w1).alloc _).alloc _) hown2 hgrow2 hat2 (by simp)
  have HPu := xmA hPu
  have HAt : Hid ((Value.slice (some ⟨g, 0, none⟩) (L.length + 1) cap).ownBlock = (Value.slice va L.length vc).ownBlock ∨ ∃ g', (Value.slice (some ⟨g, 0, none⟩) (L.length + 1) cap).ownBlock = some g' ∧ w1.heap.size ≤ g') := xmA (by
   rcases hat2 with e | e
   · exact Or.inl e.symm
   exact Or.inr ⟨g, rfl, by omega⟩)
  clear hPu hown2 hgrow2 hat2 t0 t0a f0 z0 z1 z2 z3 hc1
  go_wp2_with fail
  go_end0
  refine ⟨rfl, _, HPu.out.1, HK1.out.trans2 HPu.out.2 (fun _ _ e => e), ?_⟩
  rcases HAt.out with e | ⟨g', e1, e2⟩
  · exact Or.inl e
  exact Or.inr ⟨g', e1, by have := HK1.out.size; omega⟩
set_option maxHeartbeats 8000000 in
theorem xjT {is : List Ins} {bg en : Bool} {i : Nat} {L : List Nat} {M : Nat → Bool} {x : Ins} {s1 s2 : List Nat × (Nat → Bool)} (h : M i = false) (hx : is[i]? = some x) (ho : x.op = 2) (hr1 : PtR is bg en x.x (L, updM M i) s1) (hr2 : PtR is bg en x.y s1 s2) (ih1 : PtOK is bg en x.x (L, updM M i) s1) (ih2 : PtOK is bg en x.y s1 s2) : PtOK is bg en i (L, M) s2 := by
 intro B c tb mb now z pv tx w lv hT hP hc hc9 hbg hen hin hl his hnow htx
 have hl1 : s1.1.length ≤ 4000 := by have := hr2.len; omega
 have HL := xmA hl
 have hil := (List.getElem?_eq_some_iff.1 hx).1
 obtain ⟨m, hm⟩ := hT.mks
 obtain ⟨x0, x1, x2, x3⟩ := hm i hil
 have e1 : ¬ m i = now := fun e => by have h9 : M i = true := x3.2 e; rw [h9] at h; cases h
 obtain ⟨mi, hmi⟩ : ∃ k, m i = k := ⟨_, rfl⟩
 rw [hmi] at x0 e1
 have g1 : ((mi : Int) == (now : Int)) = false := beq_eq_false_iff_ne.2 (by omega)
 have c1 : w.cell? ⟨tb, 1, none⟩ = some (.slice (some ⟨mb, 0, none⟩) is.length is.length) := by rw [Lib.cell_of_heap hT.bk]; rfl
 have c2 : w.cell? ⟨tb, 2, none⟩ = some (.int .i64 now) := by rw [Lib.cell_of_heap hT.bk]; rfl
 have HT := xmA hT
 have HP := xmA hP
 have hcw : c < w.heap.size := xan hc
 have Hc := xmA hc
 have Hc9 := xmA hc9
 have Hbg := xmA hbg
 have Hen := xmA hen
 have Hin := xmA hin
 have I1 := xmA ih1
 have I2 := xmA ih2
 clear hT hP hm x3 hmi x2 hr1 hr2 hc hc9 hbg hen hin ih1 ih2 hl
 go_enter Tryz.func159, Tryz.ntmps159
 go_wp2_with fail
 go_quiet (fail)
 go_wp2_with fail
 go_region
 obtain ⟨w1, hw1⟩ : ∃ W, W = ((w.drewN (nq + 1)).setCell ⟨mb, i, none⟩ (.int .i64 now)) := ⟨_, rfl⟩
 have hT1 : Thr B w1 tb mb is.length lv L (updM M i) now := by rw [hw1]; exact (HT.out.keeps ((xaa.refl (fun _ => False) _).drawN _) (fun _ _ => id)).mark hil
 have hK1 : xaa (inT tb mb lv) w w1 := by rw [hw1]; exact ((xaa.refl _ _).drawN _).set (p := ⟨mb, i, none⟩) (Or.inr (Or.inl rfl)) _
 rw [← hw1]
 have hP1 := HP.out.keepsTo (Q := fun b => b < B) hK1 (fun b hb e => by have := (HT.out.inlt e).2; omega) (fun _ h => h)
 have hc1 := hK1.cell Hc.out Hin.out
 have Hc91 := xmA (hK1.cell Hc9.out Hin.out)
 obtain ⟨b, off, cp, sa, sc, rfl, hb, _, _, hbB, z0, z1, z2, z3⟩ := hP1.at hx
 obtain ⟨op, set, xx, yy⟩ := x
 simp only at ho z0 z1 z2 z3
 obtain rfl := ho
 have ka : xaa (fun _ => False) w1 (w1.alloc (.cells #[.int .i64 2, .slice sa set.length sc, .int .i64 xx, .int .i64 yy] 130)) := (xaa.refl _ _).alloc _
 have hs1 := hK1.size
 have y3 : (w1.alloc (.cells #[.int .i64 2, .slice sa set.length sc, .int .i64 xx, .int .i64 yy] 130)).cell? ⟨w1.heap.size, 3, none⟩ = some (.int .i64 yy) := by simp [go_sem]
 have hTa := hT1.keeps ka (fun _ _ => id)
 have hfar : ¬ inT tb mb lv w1.heap.size := fun e => by have := (hT1.inlt e).1; omega
 have HC1 := xmA (I1.out B c tb mb now z _ tx _ lv hTa (hP1.keepsTo ka (fun _ _ => id) (fun _ h => h)) (ka.cell hc1 id) (ka.cell Hc91.out id) Hbg.out Hen.out Hin.out hl1 his hnow htx)
 have HP1 := xmA hP1
 have Hc1 := xmA hc1
 have HK1 := xmA hK1
 have HT1 := xmA hT1
 have KA := xmA ka
 clear hw1 hT1 hK1 hP1 hx c1 c2 x0 x1 h g1 e1 ka hTa
 go_wp2_with fail
 refine HC1.out.mono ?_
 rintro e w2 ⟨rfl, lv1, hT2, k2, hat1⟩
 have q3 := k2.cell y3 hfar
 have hsz2 := k2.size
 simp at hsz2
 have hin1 : ¬ inT tb mb lv1 c := by
  rintro (e | e | e)
  · exact Hin.out (Or.inl e)
  · exact Hin.out (Or.inr (Or.inl e))
  rcases hat1 with h9 | ⟨g, h9, h10⟩
  · exact Hin.out (Or.inr (Or.inr (by rw [← h9]; exact e)))
  rw [h9] at e
  have := Option.some.inj e
  simp at h10
  omega
 have hP2 := (HP1.out.keepsTo (Q := fun b => b < B) KA.out (fun _ _ => id) (fun _ h => h)).keepsTo (Q := fun b => b < B) k2 (fun b hb e => by have := (HT1.out.inlt e).2; omega) (fun _ h => h)
 have hc2 := k2.cell (KA.out.cell Hc1.out id) Hin.out
 have HC2 := xmA (I2.out B c tb mb now z _ tx w2 lv1 hT2 hP2 hc2 (k2.cell (KA.out.cell Hc91.out id) Hin.out) Hbg.out Hen.out hin1 HL.out his hnow htx)
 have K2 : Hid (xaa (inT tb mb lv) w w2) := xmA ((HK1.out.trans2 KA.out (fun _ _ e => e.elim)).trans2 k2 (fun _ _ e => e))
 have HAT1 := xmA hat1
 clear hT2 k2 hP2 hc2 hat1 z0 z1 z2 z3 y3
 go_wp2_with fail
 refine HC2.out.mono ?_
 rintro e w3 ⟨rfl, lv2, hT3, k3, hat2⟩
 have KE : Hid (xaa (inT tb mb lv) w w3) := xmA (K2.out.trans2 k3 (fun b hb e => by
  rcases e with e | e | e
  · exact Or.inl e
  · exact Or.inr (Or.inl e)
  rcases HAT1.out with h9 | ⟨g, h9, h10⟩
  · exact Or.inr (Or.inr (by rw [← h9]; exact e))
  rw [h9] at e
  have := Option.some.inj e
  simp at h10
  omega))
 have HT3 := xmA hT3
 have HE : Hid (lv2.ownBlock = lv.ownBlock ∨ ∃ g, lv2.ownBlock = some g ∧ w.heap.size ≤ g) := xmA (by
  rcases hat2 with e | ⟨g, e, h9⟩
  · rcases HAT1.out with h9 | ⟨g, h9, h10⟩
    · exact Or.inl (e.trans h9)
    exact Or.inr ⟨g, e.trans h9, by simp at h10; omega⟩
  exact Or.inr ⟨g, e, by have := K2.out.size; omega⟩)
 clear hT3 k3 hat2 q3
 go_wp2_with fail
 go_end0
 exact ⟨rfl, lv2, HT3.out, KE.out, HE.out⟩
set_option maxHeartbeats 8000000 in
theorem xlm {is : List Ins} {bg en : Bool} {i : Nat} {L : List Nat} {M : Nat → Bool} {x : Ins} (h : M i = false) (hx : is[i]? = some x) (ho : x.op = 3 ∧ bg = false ∨ x.op = 4 ∧ en = false) : PtOK is bg en i (L, M) (L, updM M i) := by
 intro B c tb mb now z pv tx w lv hT hP hc hc9 hbg hen hin hl his hnow htx
 obtain ⟨i0, hi0, hz0, hz1, hz2⟩ := info_parts xbM
 have hil := (List.getElem?_eq_some_iff.1 hx).1
 obtain ⟨m, hm⟩ := hT.mks
 obtain ⟨x0, x1, x2, x3⟩ := hm i hil
 have e1 : ¬ m i = now := fun e => by have h9 : M i = true := x3.2 e; rw [h9] at h; cases h
 obtain ⟨mi, hmi⟩ : ∃ k, m i = k := ⟨_, rfl⟩
 rw [hmi] at x0 e1
 have g1 : ((mi : Int) == (now : Int)) = false := beq_eq_false_iff_ne.2 (by omega)
 have c1 : w.cell? ⟨tb, 1, none⟩ = some (.slice (some ⟨mb, 0, none⟩) is.length is.length) := by rw [Lib.cell_of_heap hT.bk]; rfl
 have c2 : w.cell? ⟨tb, 2, none⟩ = some (.int .i64 now) := by rw [Lib.cell_of_heap hT.bk]; rfl
 have HT := xmA hT
 have HP := xmA hP
 have Hbg := xmA hbg
 have Hen := xmA hen
 clear hT hP hm x3 hmi x2 hbg hen
 go_enter Tryz.func159, Tryz.ntmps159
 go_wp2_with fail
 go_quiet (fail)
 go_wp2_with fail
 go_region
 obtain ⟨w1, hw1⟩ : ∃ W, W = ((w.drewN (nq + 1)).setCell ⟨mb, i, none⟩ (.int .i64 now)) := ⟨_, rfl⟩
 have hT1 : Thr B w1 tb mb is.length lv L (updM M i) now := by rw [hw1]; exact (HT.out.keeps ((xaa.refl (fun _ => False) _).drawN _) (fun _ _ => id)).mark hil
 have hK1 : xaa (inT tb mb lv) w w1 := by rw [hw1]; exact ((xaa.refl _ _).drawN _).set (p := ⟨mb, i, none⟩) (Or.inr (Or.inl rfl)) _
 rw [← hw1]
 have hP1 := HP.out.keepsTo (Q := fun b => b < B) hK1 (fun b hb e => by have := (HT.out.inlt e).2; omega) (fun _ h => h)
 have hc1 := hK1.cell hc hin
 have hc91 := hK1.cell hc9 hin
 obtain ⟨b, off, cp, sa, sc, rfl, hb, _, _, hbB, z0, z1, z2, z3⟩ := hP1.at hx
 obtain ⟨op, set, xx, yy⟩ := x
 simp only at ho z0 z1 z2 z3
 have ka : xaa (fun _ => False) w1 (w1.alloc (.cells #[.int .i64 op, .slice sa set.length sc, .int .i64 xx, .int .i64 yy] 130)) := (xaa.refl _ _).alloc _
 have HTa := xmA (hT1.keeps ka (fun _ _ => id))
 have HKa := xmA (hK1.trans2 ka (fun _ _ e => e.elim))
 have hc9a := ka.cell hc91 id
 clear hw1 hT1 hP1 hx hc hin hc9 c1 c2 x0 x1 HT HP h g1 e1 hK1 ka
 rcases ho with ⟨rfl, hb9⟩ | ⟨rfl, he9⟩
 · have g2 : ((z : Int) == 0) = false := beq_eq_false_iff_ne.2 (by have h9 := Hbg.out; rw [hb9] at h9; have := of_decide_eq_false h9.symm; omega)
   go_wp2_with fail
   go_end0
   exact ⟨rfl, lv, HTa.out, HKa.out, Or.inl rfl⟩
 have g2 : ((z : Int) == (tx.length : Int)) = false := beq_eq_false_iff_ne.2 (by have h9 := Hen.out; rw [he9] at h9; have := of_decide_eq_false h9.symm; omega)
 go_wp2_with fail
 go_end0
 exact ⟨rfl, lv, HTa.out, HKa.out, Or.inl rfl⟩
set_option maxHeartbeats 8000000 in
theorem xlo {is : List Ins} {bg en : Bool} {i : Nat} {L : List Nat} {M : Nat → Bool} {x : Ins} {s1 : List Nat × (Nat → Bool)} (h : M i = false) (hx : is[i]? = some x) (ho : x.op = 3 ∧ bg = true ∨ x.op = 4 ∧ en = true) (hr1 : PtR is bg en x.x (L, updM M i) s1) (ih1 : PtOK is bg en x.x (L, updM M i) s1) : PtOK is bg en i (L, M) s1 := by
 intro B c tb mb now z pv tx w lv hT hP hc hc9 hbg hen hin hl his hnow htx
 have hl1 := hl
 have HL := xmA hl
 have hil := (List.getElem?_eq_some_iff.1 hx).1
 obtain ⟨m, hm⟩ := hT.mks
 obtain ⟨x0, x1, x2, x3⟩ := hm i hil
 have e1 : ¬ m i = now := fun e => by have h9 : M i = true := x3.2 e; rw [h9] at h; cases h
 obtain ⟨mi, hmi⟩ : ∃ k, m i = k := ⟨_, rfl⟩
 rw [hmi] at x0 e1
 have g1 : ((mi : Int) == (now : Int)) = false := beq_eq_false_iff_ne.2 (by omega)
 have c1 : w.cell? ⟨tb, 1, none⟩ = some (.slice (some ⟨mb, 0, none⟩) is.length is.length) := by rw [Lib.cell_of_heap hT.bk]; rfl
 have c2 : w.cell? ⟨tb, 2, none⟩ = some (.int .i64 now) := by rw [Lib.cell_of_heap hT.bk]; rfl
 have HT := xmA hT
 have HP := xmA hP
 have hcw : c < w.heap.size := xan hc
 have Hc := xmA hc
 have Hc9 := xmA hc9
 have Hbg := xmA hbg
 have Hen := xmA hen
 have Hin := xmA hin
 have I1 := xmA ih1
 clear hT hP hm x3 hmi x2 hr1 hc hc9 hbg hen hin ih1 hl
 go_enter Tryz.func159, Tryz.ntmps159
 go_wp2_with fail
 go_quiet (fail)
 go_wp2_with fail
 go_region
 obtain ⟨w1, hw1⟩ : ∃ W, W = ((w.drewN (nq + 1)).setCell ⟨mb, i, none⟩ (.int .i64 now)) := ⟨_, rfl⟩
 have hT1 : Thr B w1 tb mb is.length lv L (updM M i) now := by rw [hw1]; exact (HT.out.keeps ((xaa.refl (fun _ => False) _).drawN _) (fun _ _ => id)).mark hil
 have hK1 : xaa (inT tb mb lv) w w1 := by rw [hw1]; exact ((xaa.refl _ _).drawN _).set (p := ⟨mb, i, none⟩) (Or.inr (Or.inl rfl)) _
 rw [← hw1]
 have hP1 := HP.out.keepsTo (Q := fun b => b < B) hK1 (fun b hb e => by have := (HT.out.inlt e).2; omega) (fun _ h => h)
 have hc1 := hK1.cell Hc.out Hin.out
 have Hc91 := xmA (hK1.cell Hc9.out Hin.out)
 obtain ⟨b, off, cp, sa, sc, rfl, hb, _, _, hbB, z0, z1, z2, z3⟩ := hP1.at hx
 obtain ⟨op, set, xx, yy⟩ := x
 simp only at ho z0 z1 z2 z3
 have ka : xaa (fun _ => False) w1 (w1.alloc (.cells #[.int .i64 op, .slice sa set.length sc, .int .i64 xx, .int .i64 yy] 130)) := (xaa.refl _ _).alloc _
 have hTa := hT1.keeps ka (fun _ _ => id)
 have hc9a := ka.cell Hc91.out id
 have HC1 := xmA (I1.out B c tb mb now z _ tx _ lv hTa (hP1.keepsTo ka (fun _ _ => id) (fun _ h => h)) (ka.cell hc1 id) hc9a Hbg.out Hen.out Hin.out hl1 his hnow htx)
 have HKa := xmA (hK1.trans2 ka (fun _ _ e => e.elim))
 have hs1 := hK1.size
 clear hw1 hT1 hK1 hP1 hx c1 c2 x0 x1 h g1 e1 ka hTa
 have hend : ∀ (w2 : World) (lv1 : Value), Thr B w2 tb mb is.length lv1 s1.1 s1.2 now → xaa (inT tb mb lv) (w1.alloc (.cells #[.int .i64 op, .slice sa set.length sc, .int .i64 xx, .int .i64 yy] 130)) w2 → (lv1.ownBlock = lv.ownBlock ∨ ∃ g, lv1.ownBlock = some g ∧ (w1.alloc (.cells #[.int .i64 op, .slice sa set.length sc, .int .i64 xx, .int .i64 yy] 130)).heap.size ≤ g) → PuE is B tb mb now lv s1 w (.returned (.tuple #[])) w2 := fun w2 lv1 h1 h2 h3 => by
  refine ⟨rfl, lv1, h1, HKa.out.trans2 h2 (fun _ _ e => e), ?_⟩
  rcases h3 with h3 | ⟨g, h3, h4⟩
  · exact Or.inl h3
  exact Or.inr ⟨g, h3, by have := HKa.out.size; omega⟩
 have HEnd := xmA hend
 clear hend
 rcases ho with ⟨rfl, hb9⟩ | ⟨rfl, he9⟩
 · have g2 : ((z : Int) == 0) = true := beq_iff_eq.2 (by have h9 := Hbg.out; rw [hb9] at h9; have := of_decide_eq_true h9.symm; omega)
   go_wp2_with fail
   refine HC1.out.mono ?_
   rintro e w2 ⟨rfl, lv1, hT2, k2, hat1⟩
   have HE := xmA (HEnd.out w2 lv1 hT2 k2 hat1)
   clear hT2 k2 hat1
   go_wp2_with fail
   go_end0
   exact HE.out
 have g2 : ((z : Int) == (tx.length : Int)) = true := beq_iff_eq.2 (by have h9 := Hen.out; rw [he9] at h9; have := of_decide_eq_true h9.symm; omega)
 go_wp2_with fail
 refine HC1.out.mono ?_
 rintro e w2 ⟨rfl, lv1, hT2, k2, hat1⟩
 have HE := xmA (HEnd.out w2 lv1 hT2 k2 hat1)
 clear hT2 k2 hat1
 go_wp2_with fail
 go_end0
 exact HE.out
theorem xki {is : List Ins} {bg en : Bool} {i : Nat} {s s' : List Nat × (Nat → Bool)} (h : PtR is bg en i s s') : PtOK is bg en i s s' := by
 induction h with
 | seen hi h => exact xln hi h
 | leaf h hx ho => exact xlp h hx ho
 | split h hx ho h1 h2 ih1 ih2 => exact xjT h hx ho h1 h2 ih1 ih2
 | skip h hx ho => exact xlm h hx ho
 | pass h hx ho h1 ih1 => exact xlo h hx ho h1 ih1
theorem xlN (c : Nat) : lenP c ≤ 4 := by unfold lenP; split <;> (try split) <;> (try split) <;> (try split) <;> omega
theorem xi9 (c : UInt8) (t : List UInt8) : getP (c :: t.take 3) = getP (c :: t) := by
 have h4 := xlN c.toNat
 rw [xfF, xfF]
 have e1 : (lenP c.toNat = 0 ∨ (t.take 3).length + 1 < lenP c.toNat) ↔ (lenP c.toNat = 0 ∨ t.length + 1 < lenP c.toNat) := by
  rw [List.length_take]; omega
 have e2 : (t.take 3).take (lenP c.toNat - 1) = t.take (lenP c.toNat - 1) := by rw [List.take_take, Nat.min_eq_left (by omega)]
 rw [e2]
 by_cases h : lenP c.toNat = 0 ∨ t.length + 1 < lenP c.toNat
 · rw [if_pos (e1.2 h), if_pos h]
 rw [if_neg (fun x => h (e1.1 x)), if_neg h]
theorem xlZ (l : List UInt8) (a b : Nat) : (⟨l.toArray⟩ : ByteArray).extract a b = ⟨((l.drop a).take (b - a)).toArray⟩ := by
 apply ByteArray.ext
 simp [ByteArray.data_extract, List.extract_eq_take_drop]
set_option maxHeartbeats 2000000 in
theorem xe6 (l : List UInt8) (at' : Nat) (c : UInt8) (t : List UInt8) (w : World) (h : l.drop at' = c :: t) (hl : l.length ≤ 100000) :
 Calls Tryz.prog 120 #[.string ⟨l.toArray⟩, .int .i64 at'] w fun e w' => e = .returned (.tuple #[.int .i64 (getP (c :: t)).1, .int .i64 ((getP (c :: t)).2 : Nat)]) ∧ xaa (fun _ => False) w w' := by
 have hat : at' < l.length := by
  rcases Nat.lt_or_ge at' l.length with h1 | h1
  · exact h1
  rw [List.drop_eq_nil_of_le h1] at h; cases h
 have hlen : l.length - at' = t.length + 1 := by rw [← List.length_drop, h]; rfl
 obtain ⟨M, hM⟩ : ∃ M, M = min (at' + 4) l.length := ⟨_, rfl⟩
 have hmin : ∀ W : World, (Builtin.min_ #[3, 3] 3 #[.int .i64 ((at' : Int) + 4), .int .i64 (l.length : Int)]).run Tryz.prog W = .ok (.int .i64 (M : Int)) W := fun W => by
  rw [xgv, hM]
  congr 2
  split <;> omega
 have hM1 : at' ≤ M := by omega
 have hM2 : M ≤ l.length := by omega
 have hM3 : M ≤ at' + 4 := by omega
 have hex := xlZ l at' M
 have hsub : (l.drop at').take (M - at') = c :: t.take 3 := by
  rw [h]
  obtain ⟨k, hk⟩ : ∃ k, M - at' = k + 1 := ⟨M - at' - 1, by omega⟩
  rw [hk, List.take_succ_cons]
  congr 1
  by_cases h4 : t.length ≤ 3
  · rw [List.take_of_length_le (by omega), List.take_of_length_le (by omega)]
  congr 1; omega
 rw [hsub] at hex
 have hG := xi9 c t
 obtain ⟨s, hs⟩ : ∃ s : ByteArray, s = ⟨(c :: t.take 3).toArray⟩ := ⟨_, rfl⟩
 rw [← hs] at hex
 have Hs : Hid (s.data.toList = c :: t.take 3) := xmA (by rw [hs])
 have Hz : Hid (s.size = (t.take 3).length + 1) := xmA (by rw [hs]; show (c :: t.take 3).toArray.size = _; simp)
 have HG2 := xmA hG
 rw [← hG]
 clear hM hsub hG hs hlen h
 generalize t.take 3 = u at *
 go_enter Tryz.func120, Tryz.ntmps120
 have hconv := fun W => Lib.run_convert_string_bytes (P := Tryz.prog) W 9 22 5 s Tryz.underlying9 Tryz.underlying22 Tryz.underlying5
 go_wp2_with fail
 have hW0 : xaa (fun _ => False) w (Lib.bytesWorld w 5 s) := ⟨rfl, rfl, rfl, by rw [Lib.bytesWorld_size]; omega, fun k hk _ => Lib.bytesWorld_at_old w 5 s k hk⟩
 have hcp := grownCap_ge w s.size 0 5
 have hX0 : ∀ j x, (c :: u)[j]? = some x → (Lib.bytesWorld w 5 s).cell? ⟨w.heap.size, 0 + j, none⟩ = some (.int .u8 (x.toNat : Int)) := fun j x hx => by
  have hj : j < (c :: u).length := (List.getElem?_eq_some_iff.1 hx).1
  have := Lib.bytesWorld_cell w 5 s j (by rw [Hz.out]; exact hj)
  rw [Hs.out, List.getD_eq_getElem?_getD, hx] at this
  rw [Nat.zero_add]; exact this
 refine (xcD w.heap.size 0 _ s.size c u _ Hz.out hcp hX0).mono ?_
 rintro e w2 ⟨rfl, rfl⟩
 have HW := xmA hW0
 clear hX0 hW0 hconv
 go_wp2_with fail
 go_ret2
 exact ⟨rfl, HW.out⟩
def plcP : Nat → List UInt8 → Nat → List Nat
 | 0, _, _ => []
 | f + 1, l, a => match l with
  | [] => []
  | c :: t => (a + (getP (c :: t)).2) :: plcP f ((c :: t).drop (getP (c :: t)).2) (a + (getP (c :: t)).2)
def xbr (l : List UInt8) : List Nat := 0 :: plcP l.length l 0
def PlR (l : List UInt8) (base : Nat) (w0 : World) (ov av : Value) (wr : World) : Prop :=
 ∃ (f a : Nat) (acc : List Nat), av = .int .i64 a ∧ a ≤ l.length ∧ l.length - a ≤ f ∧ acc.length ≤ a + 1 ∧ wr.ownsRow base 3 1 ov acc.length (acc.map fun n : Nat => Value.int .i64 (n : Int)) ∧ acc ++ plcP f (l.drop a) a = xbr l ∧ xaa (fun _ => False) w0 wr
set_option maxHeartbeats 4000000 in
theorem xiS (l : List UInt8) (w : World) (hl : l.length ≤ 100000) :
 Calls Tryz.prog 79 #[.string ⟨l.toArray⟩] w fun e w' => ∃ v, e = .returned v ∧ w'.ownsRow w.heap.size 3 1 v (xbr l).length ((xbr l).map fun n : Nat => Value.int .i64 (n : Int)) ∧ xaa (fun _ => False) w w' := by
 obtain ⟨i0, hi0, hz0, hz1, hz2⟩ := info_parts xbM
 have HP := xmA (fun a c t W (h : l.drop a = c :: t) => xe6 l a c t W h hl)
 go_enter Tryz.func79, Tryz.ntmps79
 go_wp2_with fail
 go_loopw [3, 4] (fun ov av wr => PlR l w.heap.size w ov av wr) (fun _ av _ => l.length - (intOf av).toNat)
 case atStart => exact ⟨l.length, 0, [0], rfl, Nat.zero_le _, by omega, by simp, ⟨rfl, Or.inr ⟨_, 1, #[.int .i64 0], rfl, Nat.le_refl _, by simp [World.alloc, -World.alloc_eq], by simp, by unfold maxLen; omega, rfl, rfl⟩⟩, rfl, (xaa.refl _ _).alloc _⟩
 case round =>
  obtain ⟨f, a, acc, rfl, ha, hf, hacc, hown, hpl, hk⟩ := hrel
  have OW := xmA hown
  have K := xmA hk
  have HPl := xmA hpl
  obtain ⟨va, vc, rfl⟩ := xad hown
  have hsw := hk.size
  clear hown hk hpl
  by_cases hal : a < l.length
  · obtain ⟨c, t, hct⟩ : ∃ c t, l.drop a = c :: t := by
     cases h : l.drop a with
     | nil => have := congrArg List.length h; simp at this; omega
     | cons c t => exact ⟨c, t, rfl⟩
    obtain ⟨g, rfl⟩ : ∃ g, f = g + 1 := ⟨f - 1, by omega⟩
    have hp1 := (xbS c t).1
    have hp2 := xet c t
    have hlen : l.length - a = t.length + 1 := by rw [← List.length_drop, hct]; rfl
    have E : Hid (xbr l = acc ++ (a + (getP (c :: t)).2) :: plcP g (l.drop (a + (getP (c :: t)).2)) (a + (getP (c :: t)).2)) := xmA (by
     have h := HPl.out
     rw [hct] at h
     rw [← List.drop_drop, hct]
     exact h.symm)
    have HG := xmA (fun W => HP.out a c t W hct)
    clear hct
    generalize getP (c :: t) = G at *
    obtain ⟨r, n⟩ := G
    simp only at hp1 hp2 E HG
    go_wp2_with fail
    refine (HG.out _).mono ?_
    rintro e w2 ⟨rfl, k2⟩
    have K2 := xmA (K.out.trans k2)
    have O2 := xmA (xae OW.out k2 (fun _ _ => id))
    have hs2 := K2.out.size
    clear k2
    go_wp2_with (at_builtin; refine wpList_append_own _ rfl (.tmp 21) (.tmp 23) 23 rfl w.heap.size 3 i0 (.int .i64 0) 1 8 Tryz.underlying23 hi0 hz0 hz1 hz2 rfl (by decide) _ _ _ rfl (xac O2.out _) ⟨w2.heap.size, 0, none⟩ 1 1 [.int .i64 ((a : Int) + (n : Int))] rfl rfl (by exact xak _ [_] _) (by intro u hu; simp at hu; subst hu; rfl) ?d3 ?d4 ?d5 ?_)
    case d3 => unfold maxLen; omega
    case d4 => omega
    case d5 => simp; omega
    intro v' w3 hown' hgrow _
    have K3 : Hid (xaa (fun _ => False) w w3) := xmA (K2.out.trans2 (((xaa.refl (fun b => w.heap.size ≤ b) w2).alloc _).grown hgrow (fun b hb => Or.inl (xab O2.out b hb))) (fun i hi e => by omega))
    have O3 : Hid (w3.ownsRow w.heap.size 3 1 v' (acc ++ [a + n]).length ((acc ++ [a + n]).map fun n : Nat => Value.int .i64 (n : Int))) := xmA (by simpa using hown')
    clear hown' hgrow
    go_wp2_with fail
    go_roundw
    case rel => exact ⟨g, a + n, acc ++ [a + n], by go_num, by omega, by omega, by simp; omega, O3.out, by rw [E.out]; simp, K3.out⟩
    case measure => simp [intOf]; omega
  have he : a = l.length := by omega
  subst he
  have E : Hid (acc = xbr l) := xmA (by
   have h := HPl.out
   rw [List.drop_length] at h
   cases f with
   | zero => simpa [plcP] using h
   | succ f => simpa [plcP] using h)
  go_wp2_with fail
  go_ret
  exact ⟨_, rfl, by rw [← E.out]; exact OW.out, K.out⟩
end Go.Proofs.YtjahiihmoglpfaaGreatDoor
