/-
  Several texts in one: The parser's atom: all its other cases. The document's Tree: the two rows of nodes that it gathers.
-/
import Derived.Test.YtinogeobkljngaaMg15
import Derived.Test.YtinogeobkljngaaMg9
import Derived.Maps.AppendAt
import Derived.Deep.AppendLies
section
namespace Go.Proofs.Ytinogeobkljngaa
open Go.RowKit
set_option linter.unusedVariables false
set_option linter.unusedSimpArgs false
set_option maxRecDepth 100000

/-- The result's block as it was laid. -/
theorem res_facts {w wX : World} {pb : Nat} (K : Keeps (OnlyP pb) (w.alloc (.cells #[.int .i64 0, .slice none 0 0, .int .i64 0, .int .i64 0, .slice none 0 0] 31)) wX) (hpb : pb < w.heap.size) :
    (wX.cell? ⟨w.heap.size, 0, none⟩ = some (.int .i64 0) ∧ wX.cell? ⟨w.heap.size, 1, none⟩ = some (.slice none 0 0) ∧ wX.cell? ⟨w.heap.size, 2, none⟩ = some (.int .i64 0) ∧ wX.cell? ⟨w.heap.size, 3, none⟩ = some (.int .i64 0) ∧ wX.cell? ⟨w.heap.size, 4, none⟩ = some (.slice none 0 0)) ∧
    (wX.frozen? ⟨w.heap.size, 0, none⟩ = false ∧ wX.frozen? ⟨w.heap.size, 1, none⟩ = false ∧ wX.frozen? ⟨w.heap.size, 2, none⟩ = false ∧ wX.frozen? ⟨w.heap.size, 3, none⟩ = false ∧ wX.frozen? ⟨w.heap.size, 4, none⟩ = false) := by
  have hne1 : ¬ (w.heap.size = pb) := by omega
  exact ⟨⟨K.cell (by simp [go_sem]) hne1, K.cell (by simp [go_sem]) hne1, K.cell (by simp [go_sem]) hne1, K.cell (by simp [go_sem]) hne1, K.cell (by simp [go_sem]) hne1⟩,
    K.frozen (by simp [go_sem]) (by simp) hne1, K.frozen (by simp [go_sem]) (by simp) hne1, K.frozen (by simp [go_sem]) (by simp) hne1, K.frozen (by simp [go_sem]) (by simp) hne1, K.frozen (by simp [go_sem]) (by simp) hne1⟩
/-- A tree has been stored over it. -/
theorem tree_close {w wX wE : World} {pb : Nat} {rv : Value} {rs : List Int} {s' : PS} {t : T} {v : NV} (hpb : pb < w.heap.size) (hrb : ∀ b, rv.ownBlock = some b → b < w.heap.size)
    (K : Keeps (OnlyP pb) (w.alloc (.cells #[.int .i64 0, .slice none 0 0, .int .i64 0, .int .i64 0, .slice none 0 0] 31)) wX) (hP : PaAt wX pb rv rs s')
    (hT : TAt wX (fun b => w.heap.size < b ∧ b < wX.heap.size) v t) (kE : Keeps (fun b => b = w.heap.size) wX wE) : TreeRet w pb rv rs (t, s') (.returned v.val) wE := by
  have hs := K.size
  simp at hs
  have hs2 := kE.size
  refine ⟨v, rfl, hT.keepsTo kE (fun b hb e => by omega) (fun b hb => ⟨by omega, by omega⟩), hP.keeps kE (by omega) (fun b hb e => by have := hrb b hb; omega), ?_⟩
  exact (Keeps.trans (by (repeat' (with_reducible first | exact Keeps.refl _ _ | assumption | refine Keeps.drawN ?_ _ | refine Keeps.drew ?_ | refine Keeps.setCell ?_ ?_ _ | refine Keeps.alloc ?_ _)) <;> (first | exact Or.inr (Nat.le_refl _) | exact Or.inl rfl | exact Or.inl (Or.inl rfl) | exact Or.inl (Or.inr rfl) | (right; simp; done) | (right; simp; omega))) K).trans2 kE (fun b hb e => by omega)
/-- A set that a call made, as a node's. -/
theorem charT_at {w' : World} {lo : Nat} {u : Value} {L : List (Int × Int)} (h : w'.ownsRow lo 57 2 u L.length (cellsOf 2 encR L)) (hl : L.length ≤ 4611686018427387904) (hr : ∀ p ∈ L, in64 p.1 ∧ in64 p.2) :
    TAt w' (fun b => lo ≤ b ∧ b < w'.heap.size) ⟨1, u, 0, 0, .slice none 0 0⟩ (charT L) := by
  exact ⟨rfl, rfl, rfl, zero64, zero64, ⟨SlOf.ofOwn h hl, hr⟩, fun b hb => ⟨ownBlock_base h b hb, own_lt h b hb⟩, ⟨[], SlOf.nil _ _ _, rfl⟩, fun b hb => by simp [Value.ownBlock] at hb⟩

theorem norm_len {l : List (Int × Int)} (h : Norm l) : l.length ≤ 1114112 := by
  have h1 := (sumR_nonneg l h).2
  have h2 : ∀ l : List (Int × Int), (∀ p ∈ l, p.1 ≤ p.2) → (l.length : Int) ≤ sumR l := by
    intro l
    induction l with
    | nil => intro _; simp [sumR_nil]
    | cons p l ih =>
      intro hp
      have h3 := ih (fun q hq => hp q (by simp [hq]))
      have h4 := hp p (by simp)
      rw [sumR_cons]; simp; omega
  have h5 := h2 l (fun p hp => (h.rng p hp).2.1)
  omega

end Go.Proofs.Ytinogeobkljngaa
end
section
namespace Go.Proofs.Ytinogeobkljngaa
open Go.RowKit
set_option linter.unusedVariables false
set_option linter.unusedSimpArgs false
set_option maxRecDepth 100000

/-- The blocks of kids: old ones, or of the call's own but for its two rows. -/
def Kq (lo : Nat) (D : Nat → Prop) (hs : Nat) (oa op : Option Nat) : Nat → Prop := fun b => (D b ∨ lo < b ∧ b < hs) ∧ oa ≠ some b ∧ op ≠ some b
structure Rows2 (w wr : World) (D : Nat → Prop) (av : Value) (al : List T) (us : List NV) (pv : Value) (ps : List T) (vs : List NV) : Prop where
  aown : wr.ownsRow (w.heap.size + 1) 31 5 av al.length (cellsOf 5 encN us)
  pown : wr.ownsRow (w.heap.size + 1) 31 5 pv ps.length (cellsOf 5 encN vs)
  sep : ∀ b, av.ownBlock = some b → pv.ownBlock = some b → False
  akids : FAt wr (Kq w.heap.size D wr.heap.size av.ownBlock pv.ownBlock) (F.ofL al) us
  pkids : FAt wr (Kq w.heap.size D wr.heap.size av.ownBlock pv.ownBlock) (F.ofL ps) vs
  keep : Keeps (fun _ => False) (w.alloc (.cells #[.int .i64 0, .slice none 0 0, .int .i64 0, .int .i64 0, .slice none 0 0] 31)) wr
theorem Rows2.size {w wr : World} {D : Nat → Prop} {av pv : Value} {al ps : List T} {us vs : List NV} (h : Rows2 w wr D av al us pv ps vs) : w.heap.size < wr.heap.size := by
  have := h.keep.size; simp at this; omega
theorem Rows2.start {w wr : World} (D : Nat → Prop) (K : Keeps (fun _ => False) (w.alloc (.cells #[.int .i64 0, .slice none 0 0, .int .i64 0, .int .i64 0, .slice none 0 0] 31)) wr) : Rows2 w wr D (.slice none 0 0) [] [] (.slice none 0 0) [] [] :=
  ⟨World.ownsRow_nil _ _ _ _, World.ownsRow_nil _ _ _ _, fun b hb => by simp [Value.ownBlock] at hb, rfl, rfl, K⟩
theorem Rows2.old {w wr : World} {D : Nat → Prop} {av pv : Value} {al ps : List T} {us vs : List NV} (h : Rows2 w wr D av al us pv ps vs) (hD : ∀ b, D b → b < w.heap.size) {b : Nat} (hb : D b) (hs : Nat) : Kq w.heap.size D hs av.ownBlock pv.ownBlock b :=
  ⟨Or.inl hb, fun e => by have := ownBlock_base h.aown b e; have := hD b hb; omega, fun e => by have := ownBlock_base h.pown b e; have := hD b hb; omega⟩
theorem Rows2.new {w wr : World} {D : Nat → Prop} {av pv : Value} {al ps : List T} {us vs : List NV} (h : Rows2 w wr D av al us pv ps vs) {b hs : Nat} (h1 : wr.heap.size ≤ b) (h2 : b < hs) : Kq w.heap.size D hs av.ownBlock pv.ownBlock b :=
  ⟨Or.inr ⟨by have := h.size; omega, h2⟩, fun e => by have := own_lt h.aown b e; omega, fun e => by have := own_lt h.pown b e; omega⟩
theorem Rows2.keepF {w wr w' : World} {D : Nat → Prop} {av pv : Value} {al ps : List T} {us vs : List NV} (h : Rows2 w wr D av al us pv ps vs) (K : Keeps (fun _ => False) wr w') : Rows2 w w' D av al us pv ps vs :=
  ⟨ownsRow_keeps h.aown K (fun _ _ => id), ownsRow_keeps h.pown K (fun _ _ => id), h.sep, h.akids.keepsTo K (fun _ _ => id) (fun b hb => ⟨hb.1.imp id (fun x => ⟨x.1, Nat.lt_of_lt_of_le x.2 K.size⟩), hb.2⟩),
    h.pkids.keepsTo K (fun _ _ => id) (fun b hb => ⟨hb.1.imp id (fun x => ⟨x.1, Nat.lt_of_lt_of_le x.2 K.size⟩), hb.2⟩), h.keep.trans K⟩
theorem Rows2.symm {w wr : World} {D : Nat → Prop} {av pv : Value} {al ps : List T} {us vs : List NV} (h : Rows2 w wr D av al us pv ps vs) : Rows2 w wr D pv ps vs av al us :=
  ⟨h.pown, h.aown, fun b x y => h.sep b y x, h.pkids.keepsTo (Keeps.refl (fun _ => False) _) (fun _ _ => id) (fun b hb => ⟨hb.1, hb.2.2, hb.2.1⟩), h.akids.keepsTo (Keeps.refl (fun _ => False) _) (fun _ _ => id) (fun b hb => ⟨hb.1, hb.2.2, hb.2.1⟩), h.keep⟩
theorem Rows2.dropP {w wr : World} {D : Nat → Prop} {av pv : Value} {al ps : List T} {us vs : List NV} (h : Rows2 w wr D av al us pv ps vs) : Rows2 w wr D av al us (.slice none 0 0) [] [] :=
  ⟨h.aown, World.ownsRow_nil _ _ _ _, fun b x y => by simp [Value.ownBlock] at y, h.akids.keepsTo (Keeps.refl (fun _ => False) _) (fun _ _ => id) (fun b hb => ⟨hb.1, hb.2.1, by simp [Value.ownBlock]⟩), rfl, h.keep⟩
theorem cells_nodeR (v : NV) : [Value.int .i64 v.op, v.sv, .int .i64 v.mn, .int .i64 v.mx, v.kv] = cellsOf 5 encN [v] := by simp [cellsOf, encN_cells]
theorem Rows2.push {w wr wP w9 : World} {D : Nat → Prop} {av pv v' : Value} {al ps : List T} {us vs : List NV} {v : NV} {t : T} (hD : ∀ b, D b → b < w.heap.size) (h : Rows2 w wr D av al us pv ps vs) (K : Keeps (fun _ => False) wr wP)
    (hT : TAt wP (Kq w.heap.size D wP.heap.size av.ownBlock pv.ownBlock) v t) (hown : w9.ownsRow (w.heap.size + 1) 31 5 v' (ps.length + 1) (cellsOf 5 encN vs ++ [Value.int .i64 v.op, v.sv, .int .i64 v.mn, .int .i64 v.mx, v.kv]))
    (hg : wP.grownBy w9 pv.ownBlock) {H : Nat} (hloc : v'.ownBlock = pv.ownBlock ∨ v'.ownBlock = some H) (hH : wP.heap.size ≤ H) : Rows2 w w9 D av al us v' (ps ++ [t]) (vs ++ [v]) := by
  have hP := h.keepF K
  have k9 : Keeps (fun b => pv.ownBlock = some b) wP w9 := (Keeps.refl _ _).grown hg (fun b hb => Or.inl hb)
  have hs9 := k9.size
  have hsz := hP.size
  have e1 : ∀ b, Kq w.heap.size D wP.heap.size av.ownBlock pv.ownBlock b → Kq w.heap.size D w9.heap.size av.ownBlock v'.ownBlock b := fun b hb => ⟨hb.1.imp id (fun x => ⟨x.1, by omega⟩), hb.2.1, fun e => by
    rcases hloc with h1 | h1
    · exact hb.2.2 (h1 ▸ e)
    · rw [h1] at e
      have := Option.some.inj e
      rcases hb.1 with h2 | ⟨_, h2⟩
      · have := hD b h2; omega
      · omega⟩
  refine ⟨ownsRow_keeps hP.aown k9 (fun b x y => hP.sep b x y), ?_, fun b x y => ?_, hP.akids.keepsTo k9 (fun b hb e => hb.2.2 e) e1, ?_, ?_⟩
  · rw [List.length_append, cellsOf_append, ← cells_nodeR]; exact hown
  · rcases hloc with h1 | h1
    · exact hP.sep b x (h1 ▸ y)
    · rw [h1] at y
      have := Option.some.inj y
      have := own_lt hP.aown b x
      omega
  · exact FAt.snoc (hP.pkids.keepsTo k9 (fun b hb e => hb.2.2 e) e1) (hT.keepsTo k9 (fun b hb e => hb.2.2 e) e1)
  · exact hP.keep.trans2 k9 (fun b hb e => by have := ownBlock_base hP.pown b e; simp at hb; omega)
theorem Rows2.slofP {w wr : World} {D : Nat → Prop} {av pv : Value} {al ps : List T} {us vs : List NV} (h : Rows2 w wr D av al us pv ps vs) (hl : ps.length ≤ 1000000) : SlOf 5 encN wr pv vs :=
  SlOf.ofOwn (by have := h.pown; rwa [← h.pkids.len] at this) (by rw [h.pkids.len]; omega)
theorem Rows2.pvc_le {w wr : World} {D : Nat → Prop} {n c : Nat} {av : Value} {pa : Option Addr} {al ps : List T} {us vs : List NV} (h : Rows2 w wr D av al us (.slice pa n c) ps vs) : n ≤ c := by
  rcases h.pown.2 with ⟨e, _⟩ | ⟨g, cap, cur, e, _, _, h1, _⟩
  · injection e with _ e1 e2; omega
  · injection e with _ e1 e2; omega
theorem FAt.init {w : World} {P : Nat → Prop} {t : T} {v : NV} : ∀ {l : List T} {vs : List NV}, FAt w P (F.ofL (l ++ [t])) (vs ++ [v]) → FAt w P (F.ofL l) vs ∧ TAt w P v t := by
  intro l
  induction l with
  | nil =>
    intro vs h
    obtain ⟨v', vs', e, h1, h2⟩ := FAt.cons_iff.1 h
    have h3 : vs' = [] := h2
    subst h3
    cases vs with
    | nil => obtain rfl := (List.cons.inj e).1; exact ⟨rfl, h1⟩
    | cons a b => have := (List.cons.inj e).2; simp at this
  | cons u l ih =>
    intro vs h
    obtain ⟨v', vs', e, h1, h2⟩ := FAt.cons_iff.1 h
    cases vs with
    | nil =>
      have h3 := (List.cons.inj e).2
      have := h2.len
      rw [← h3] at this
      simp at this
    | cons a b =>
      obtain ⟨rfl, rfl⟩ := List.cons.inj e
      obtain ⟨h4, h5⟩ := ih h2
      exact ⟨FAt.cons_iff.2 ⟨_, _, rfl, h1, h4⟩, h5⟩
theorem own_base {w : World} {b1 b2 : Nat} {e : TypeId} {size : Nat} {v : Value} {n : Nat} {xs : List Value} (h : w.ownsRow b1 e size v n xs) (hb : b2 ≤ b1) : w.ownsRow b2 e size v n xs := by
  refine ⟨h.1, ?_⟩
  rcases h.2 with h2 | ⟨g, cap, cur, h2, h3, h4⟩
  · exact Or.inl h2
  · exact Or.inr ⟨g, cap, cur, h2, Nat.le_trans hb h3, h4⟩
/-- The last node is put under a count, in a new row. -/
theorem Rows2.count {w wr wA w2 : World} {D : Nat → Prop} {av pv : Value} {al ps0 : List T} {us vs0 : List NV} {tn : T} {vn : NV} (hD : ∀ b, D b → b < w.heap.size) (hR : Rows2 w wr D av al us pv (ps0 ++ [tn]) (vs0 ++ [vn])) (KA : Keeps (fun _ => False) wr wA) (K2 : Keeps (fun _ => False) wA w2)
    {g2 cap2 g77 N : Nat} {XS : List Value} {mm xx : Int} (hm : in64 mm) (hx : in64 xx) (hN : N = ps0.length + 1) (hXS : XS = cellsOf 5 encN vs0)
    (hown2 : w2.ownsRow wA.heap.size 31 5 (.slice (some ⟨g2, 0, none⟩) N cap2) N (XS ++ [.int .i64 6, .slice none 0 0, .int .i64 mm, .int .i64 xx, .slice (some ⟨g77, 0, none⟩) 1 1]))
    (hk : ∀ j, j < 5 → w2.cell? ⟨g77, j, none⟩ = some (encN vn j)) (h77 : wA.heap.size ≤ g77) (hne : g2 ≠ g77) :
    Rows2 w w2 D av al us (.slice (some ⟨g2, 0, none⟩) N cap2) (ps0 ++ [⟨6, [], mm, xx, F.ofL [tn]⟩]) (vs0 ++ [⟨6, .slice none 0 0, mm, xx, .slice (some ⟨g77, 0, none⟩) 1 1⟩]) := by
  have h2 := ownBlock_base hown2 g2 rfl
  have h3 := own_lt hown2 g2 rfl
  have h4 : g77 < w2.heap.size := lt_of_cell (hk 0 (by omega))
  have hsz := hR.size
  have hs1 := KA.size
  have hs2 := K2.size
  have K := KA.trans K2
  have hW := hR.keepF K
  subst hN
  subst hXS
  obtain ⟨hF, hT⟩ := FAt.init hR.pkids
  have e1 : ∀ b, Kq w.heap.size D wr.heap.size av.ownBlock pv.ownBlock b → Kq w.heap.size D w2.heap.size av.ownBlock (Value.slice (some ⟨g2, 0, none⟩) (ps0.length + 1) cap2).ownBlock b := fun b hb => ⟨hb.1.imp id (fun x => ⟨x.1, by omega⟩), hb.2.1, fun e => by
    have e : g2 = b := Option.some.inj e
    rcases hb.1 with h | ⟨_, h⟩
    · have := hD b h; omega
    · omega⟩
  have hTn : TAt w2 (Kq w.heap.size D w2.heap.size av.ownBlock (Value.slice (some ⟨g2, 0, none⟩) (ps0.length + 1) cap2).ownBlock) ⟨6, .slice none 0 0, mm, xx, .slice (some ⟨g77, 0, none⟩) 1 1⟩ ⟨6, [], mm, xx, F.ofL [tn]⟩ := by
    refine ⟨rfl, rfl, rfl, hm, hx, ⟨SlOf.nil _ _ _, fun p hp => by cases hp⟩, fun b hb => by simp [Value.ownBlock] at hb, ⟨[vn], ⟨_, 1, rfl, ⟨by simp, fun h => by cases h⟩, by simp, fun _ => ⟨g77, 0, rfl, fun i x hx j hj => ?_⟩⟩, FAt.cons_iff.2 ⟨vn, [], rfl, hT.keepsTo K (fun _ _ => id) e1, rfl⟩⟩, fun b hb => ?_⟩
    · rcases i with _ | i
      · obtain rfl : vn = x := by simpa using hx
        simpa using hk j hj
      · simp at hx
    · have e : g77 = b := Option.some.inj hb
      subst e
      exact ⟨Or.inr ⟨by omega, h4⟩, fun e => by have := own_lt hR.aown _ e; omega, fun e => hne (Option.some.inj e)⟩
  refine ⟨hW.aown, ?_, fun b x y => ?_, hR.akids.keepsTo K (fun _ _ => id) e1, FAt.snoc (hF.keepsTo K (fun _ _ => id) e1) hTn, hW.keep⟩
  · rw [List.length_append, cellsOf_append, ← cells_nodeR]; exact own_base hown2 (by omega)
  · have h5 := own_lt hR.aown b x
    have h6 : g2 = b := Option.some.inj y
    omega
theorem own_empty {w : World} {base H : Nat} (hb : base ≤ w.heap.size) (hH : w.heap.size = H) : (w.alloc (.cells #[] 31)).ownsRow base 31 5 (.slice (some ⟨H, 0, none⟩) 0 0) 0 [] := by
  subst hH
  exact ⟨rfl, Or.inr ⟨w.heap.size, 0, _, rfl, hb, heap_alloc_new w _, Nat.le_refl _, by unfold maxLen; decide, rfl, rfl⟩⟩
theorem news5 {W : World} {G : Nat} {v0 v1 v2 v3 v4 : Value} (h0 : W.cell? ⟨G, 0, none⟩ = some v0) (h1 : W.cell? ⟨G, 1, none⟩ = some v1) (h2 : W.cell? ⟨G, 2, none⟩ = some v2) (h3 : W.cell? ⟨G, 3, none⟩ = some v3) (h4 : W.cell? ⟨G, 4, none⟩ = some v4) :
    ∀ j u, [v0, v1, v2, v3, v4][j]? = some u → W.cell? ((⟨G, 0, none⟩ : Addr).add j) = some u := by
  intro j u hj
  have hadd : (⟨G, 0, none⟩ : Addr).add j = ⟨G, j, none⟩ := by unfold Addr.add; split <;> simp_all
  rw [hadd]
  match j, hj with
  | 0, hj => simp at hj; subst hj; exact h0
  | 1, hj => simp at hj; subst hj; exact h1
  | 2, hj => simp at hj; subst hj; exact h2
  | 3, hj => simp at hj; subst hj; exact h3
  | 4, hj => simp at hj; subst hj; exact h4
  | j + 5, hj => simp at hj
theorem cell_grown {W w2 : World} {row : Option Nat} {a : Addr} {v : Value} (hg : W.grownBy w2 row) (h1 : a.block < W.heap.size) (h2 : some a.block ≠ row) (h : W.cell? a = some v) : w2.cell? a = some v := by
  rw [World.grownBy.cell_far hg a h1 h2]; exact h
theorem k5 {W : World} {G : Nat} {o m x : Int} {s k : Value} (h0 : W.cell? ⟨G, 0, none⟩ = some (.int .i64 o)) (h1 : W.cell? ⟨G, 1, none⟩ = some s) (h2 : W.cell? ⟨G, 2, none⟩ = some (.int .i64 m)) (h3 : W.cell? ⟨G, 3, none⟩ = some (.int .i64 x)) (h4 : W.cell? ⟨G, 4, none⟩ = some k) :
    ∀ j, j < 5 → W.cell? ⟨G, j, none⟩ = some (encN ⟨o, s, m, x, k⟩ j) := by
  intro j hj
  match j, hj with
  | 0, _ => exact h0
  | 1, _ => exact h1
  | 2, _ => exact h2
  | 3, _ => exact h3
  | 4, _ => exact h4
theorem k5_far {W w2 : World} {row : Option Nat} {G : Nat} {v : NV} (h : ∀ j, j < 5 → W.cell? ⟨G, j, none⟩ = some (encN v j)) (hg : W.grownBy w2 row) (hne : row ≠ some G) : ∀ j, j < 5 → w2.cell? ⟨G, j, none⟩ = some (encN v j) := by
  intro j hj
  rw [World.grownBy.cell_far hg ⟨G, j, none⟩ (lt_of_cell (h j hj)) (fun e => hne e.symm)]
  exact h j hj
/-- The cells ahead of the last node, to be copied. -/
theorem Rows2.news0 {w wr W : World} {D : Nat → Prop} {n c g : Nat} {av : Value} {al ps0 : List T} {us vs0 : List NV} {tn : T} {vn : NV} (hR : Rows2 w wr D av al us (.slice (some ⟨g, 0, none⟩) n c) (ps0 ++ [tn]) (vs0 ++ [vn])) (K : Keeps (fun _ => False) wr W) :
    ∀ j u, (cellsOf 5 encN vs0)[j]? = some u → W.cell? ((⟨g, 0, none⟩ : Addr).add j) = some u := by
  intro j u hj
  have hadd : (⟨g, 0, none⟩ : Addr).add j = ⟨g, j, none⟩ := by unfold Addr.add; split <;> simp_all
  rw [hadd]
  have hl := hR.pkids.len
  obtain ⟨_, _, e⟩ := ownsRow_slice hR.pown
  obtain ⟨_, rfl, _⟩ := Value.slice.inj e
  simp at hl
  have hjl : j < vs0.length * 5 := by rw [← cellsOf_length 5 encN vs0]; exact (List.getElem?_eq_some_iff.1 hj).1
  refine K.cell ?_ id
  rw [hR.pown.cellAt j (by simp; omega), cellsOf_append, List.getElem?_append_left (by rw [cellsOf_length]; omega), hj]
theorem one_cell5 {w : World} {P : Nat → Prop} : ∀ {l : List T} {vs : List NV}, FAt w P (F.ofL l) vs → ∀ u ∈ cellsOf 5 encN vs, u.oneCell' = true := by
  intro l
  induction l with
  | nil => intro vs h u hu; have h : vs = [] := h; subst h; simp [cellsOf] at hu
  | cons t l ih =>
    intro vs h u hu
    obtain ⟨v, vs', rfl, h1, h2⟩ := FAt.cons_iff.1 h
    rw [show v :: vs' = [v] ++ vs' from rfl, cellsOf_append, List.mem_append] at hu
    rcases hu with hu | hu
    · obtain ⟨o, a1, n1, c1, m, x, a2, n2, c2, rfl⟩ := NV.form h1
      rw [← cells_nodeR] at hu
      simp at hu
      rcases hu with rfl | rfl | rfl | rfl | rfl <;> rfl
    · exact ih h2 u hu
/-- What Tree answers. -/
def TreeE (w : World) (D : Nat → Prop) (G : Option T) (e : Ending) (w' : World) : Prop :=
  match G with
  | none => e = .returned (.tuple #[NV.val ⟨0, .slice none 0 0, 0, 0, .slice none 0 0⟩, .bool false]) ∧ Keeps (fun _ => False) w w'
  | some t => ∃ v : NV, e = .returned (.tuple #[v.val, .bool true]) ∧ TAt w' (fun b => D b ∨ w.heap.size ≤ b ∧ b < w'.heap.size) v t ∧ Keeps (fun _ => False) w w'
/-- At the head of its loop. -/
def TrR (G : Option T) (n : Nat) (d : Int) (ts : List Tok) (D : Nat → Prop) (w : World) (av pv lov iv : Value) (wr : World) : Prop :=
  ∃ m i al us ps vs lo, iv = .int .i64 (i : Nat) ∧ lov = .bool lo ∧ Rows2 w wr D av al us pv ps vs ∧ (lo = true → ps ≠ []) ∧ al.length ≤ i ∧ ps.length ≤ i ∧ m ≤ n ∧
    ((i ≤ ts.length ∧ ts.length < m + i ∧ treeM m d (ts.drop i) al ps lo = G) ∨ (i = ts.length + 1 ∧ G = some (joinT 5 al)))
theorem treeM_pt (n : Nat) (d : Int) (s : List (Int × Int)) (r : List Tok) (al ps : List T) (lo : Bool) : treeM (n + 1) d (.pt s :: r) al ps lo = treeM n d r al (ps ++ [charT s]) true := rfl
theorem treeM_ct (n : Nat) (d m x : Int) (r : List Tok) (al ps : List T) (lo : Bool) : treeM (n + 1) d (.ct m x :: r) al ps lo = if lo = true then treeM n d r al (repT ps m x) false else none := rfl
theorem treeM_nil (n : Nat) (d : Int) (al ps : List T) (lo : Bool) : treeM (n + 1) d [] al ps lo = some (joinT 5 (al ++ [joinT 4 ps])) := rfl
theorem treeM_124 (n : Nat) (d : Int) (r : List Tok) (al ps : List T) (lo : Bool) : treeM (n + 1) d (.sg 124 :: r) al ps lo = treeM n d r (al ++ [joinT 4 ps]) [] false := rfl
theorem treeM_94 (n : Nat) (d : Int) (r : List Tok) (al ps : List T) (lo : Bool) : treeM (n + 1) d (.sg 94 :: r) al ps lo = treeM n d r al (ps ++ [⟨2, [], 0, 0, .nil⟩]) false := rfl
theorem treeM_36 (n : Nat) (d : Int) (r : List Tok) (al ps : List T) (lo : Bool) : treeM (n + 1) d (.sg 36 :: r) al ps lo = treeM n d r al (ps ++ [⟨3, [], 0, 0, .nil⟩]) false := rfl
theorem treeM_41 (n : Nat) (d : Int) (r : List Tok) (al ps : List T) (lo : Bool) : treeM (n + 1) d (.sg 41 :: r) al ps lo = none := rfl
theorem treeM_40 (n : Nat) (d : Int) (r : List Tok) (al ps : List T) (lo : Bool) : treeM (n + 1) d (.sg 40 :: r) al ps lo = (match closeT 0 r with
        | none => none
        | some (l1, r') => if 10 < d + 1 then none else match treeM n (d + 1) l1 [] [] false with
          | none => none
          | some t => treeM n d r' al (ps ++ [t]) true) := rfl
theorem tr_next {G : Option T} {n m i j : Nat} {d : Int} {ts : List Tok} {D : Nat → Prop} {w w9 : World} {av pv lov iv : Value} {al ps : List T} {us vs : List NV} {lo : Bool} (hR : Rows2 w w9 D av al us pv ps vs) (hm : m + 1 ≤ n) (hi : ts.length < m + 1 + i) (hij : i < j) (hj : j ≤ ts.length)
    (hG : treeM m d (ts.drop j) al ps lo = G) (hlo : lo = true → ps ≠ []) (ha : al.length ≤ j) (hp : ps.length ≤ j) (e1 : iv = .int .i64 (j : Nat)) (e2 : lov = .bool lo) : TrR G n d ts D w av pv lov iv w9 :=
  ⟨m, j, al, us, ps, vs, lo, e1, e2, hR, hlo, ha, hp, by omega, Or.inl ⟨hj, by omega, hG⟩⟩
/-- A node with no set of its own and no kids. -/
theorem TAt.bare (w : World) (P : Nat → Prop) (op : Int) : TAt w P ⟨op, .slice none 0 0, 0, 0, .slice none 0 0⟩ ⟨op, [], 0, 0, .nil⟩ :=
  ⟨rfl, rfl, rfl, zero64, zero64, ⟨SlOf.nil _ _ _, fun p hp => by cases hp⟩, fun b hb => by simp [Value.ownBlock] at hb, ⟨[], SlOf.nil _ _ _, rfl⟩, fun b hb => by simp [Value.ownBlock] at hb⟩
theorem TAt.char {w : World} {P : Nat → Prop} {sv : Value} {s : List (Int × Int)} (h : RSl w sv s) (hb : ∀ b, sv.ownBlock = some b → P b) : TAt w P ⟨1, sv, 0, 0, .slice none 0 0⟩ (charT s) :=
  ⟨rfl, rfl, rfl, zero64, zero64, h, hb, ⟨[], SlOf.nil _ _ _, rfl⟩, fun b hb => by simp [Value.ownBlock] at hb⟩
theorem cells_new1 (w : World) (o : Obj) (cs : List Value) (ty : TypeId) : ∀ j u, cs[j]? = some u → ((w.alloc o).alloc (.cells cs.toArray ty)).cell? ((⟨w.heap.size + 1, 0, none⟩ : Addr).add j) = some u := by
  intro j u h
  have := cells_new (w.alloc o) cs ty j u h
  simpa using this
end Go.Proofs.Ytinogeobkljngaa
end
