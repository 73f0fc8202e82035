/-
  (*maker).rep.
-/
import Derived.Test.YtapmdhejgnplaaaGreatMg14
import Derived.Test.YtapmdhejgnplaaaGreatMg12
import Derived.BigRegion
import Derived.Test.YtapmdhejgnplaaaGreatMg7
namespace Go.Proofs.YtapmdhejgnplaaaGreat
open Go.RowKit Go.Proofs.Tryz
set_option linter.unusedVariables false
set_option linter.unusedSimpArgs false
set_option maxRecDepth 100000
set_option maxHeartbeats 16000000
def optC (p : Cd) : Nat -> Nat -> Nat -> List Ins
 | 0, _, _ => []
 | k + 1, b, E => ⟨2, [], b + 1, E⟩ :: (p.1 (b + 1) ++ optC p k (b + 1 + p.2) E)
def optN (p : Cd) : Nat -> Nat
 | 0 => 0
 | k + 1 => p.2 + 1 + optN p k
def xcs (p : Cd) : Nat -> Nat -> List Ins
 | 0, _ => []
 | k + 1, b => p.1 b ++ xcs p k (b + p.2)
def xbf (p : Cd) : Nat -> Nat
 | 0 => 0
 | k + 1 => p.2 + xbf p k
def xjJ (p : Cd) (b : Nat) : List Ins := ⟨2, [], b + 1, b + p.2 + 2⟩ :: (p.1 (b + 1) ++ [⟨2, [], b, b⟩])
def repC (p : Cd) (a : Nat) (mx : Int) (b : Nat) : List Ins :=
 xcs p a b ++ if mx < 0 then xjJ p (b + xbf p a) else optC p (mx.toNat - a) (b + xbf p a) (b + xbf p a + optN p (mx.toNat - a))
def repN (p : Cd) (a : Nat) (mx : Int) : Nat := xbf p a + if mx < 0 then p.2 + 2 else optN p (mx.toNat - a)
theorem xdD {p : Cd} (h : ∀ b, (p.1 b).length = p.2) : ∀ k b, (xcs p k b).length = xbf p k
 | 0, _ => rfl
 | k + 1, b => by rw [xcs, List.length_append, h, xdD h k, xbf]
theorem xiJ {p : Cd} (h : ∀ b, (p.1 b).length = p.2) : ∀ k b E, (optC p k b E).length = optN p k
 | 0, _, _ => rfl
 | k + 1, b, E => by rw [optC, List.length_cons, List.length_append, h, xiJ h k, optN]; omega
theorem xmT {p : Cd} (h : ∀ b, (p.1 b).length = p.2) (a : Nat) (mx : Int) (b : Nat) : (repC p a mx b).length = repN p a mx := by
 unfold repC repN
 rw [List.length_append, xdD h]
 split
 · simp [xjJ, h]
 rw [xiJ h]
theorem xgv {p : Cd} (h : ∀ (b k : Nat) (i : Ins), (p.1 b)[k]? = some i -> okG b (b + p.2) i) : ∀ (n b k : Nat) (i : Ins), (xcs p n b)[k]? = some i -> okG b (b + xbf p n) i
 | 0, _, _, _, hi => by simp [xcs] at hi
 | n + 1, b, k, i, hi => by
  rw [xcs] at hi
  rcases xdU hi with hi | ⟨_, hi⟩
  · exact (h b k i hi).mono (Nat.le_refl _) (by simp only [xbf]; omega)
  exact (xgv h n (b + p.2) _ i hi).mono (by omega) (by simp only [xbf]; omega)
theorem xlp {p : Cd} (h : ∀ (b k : Nat) (i : Ins), (p.1 b)[k]? = some i -> okG b (b + p.2) i) : ∀ (n b E k : Nat) (i : Ins), b + optN p n <= E -> (optC p n b E)[k]? = some i -> okG b E i
 | 0, _, _, _, _, _, hi => by simp [optC] at hi
 | n + 1, b, E, k, i, hE, hi => by
  simp only [optN] at hE
  rw [optC] at hi
  rcases k with _ | k
  · obtain rfl : (⟨2, [], b + 1, E⟩ : Ins) = i := by simpa using hi
    exact Or.inr ⟨rfl, ⟨by simp, by simp; omega⟩, by simp; omega, by simp⟩
  rw [List.getElem?_cons_succ] at hi
  rcases xdU hi with hi | ⟨_, hi⟩
  · exact (h (b + 1) k i hi).mono (by omega) (by omega)
  exact (xlp h n (b + 1 + p.2) E _ i (by omega) hi).mono (by omega) (Nat.le_refl _)
theorem repC_ok {p : Cd} (h : ∀ (b k : Nat) (i : Ins), (p.1 b)[k]? = some i -> okG b (b + p.2) i) (a : Nat) (mx : Int) (b k : Nat) (i : Ins) (hi : (repC p a mx b)[k]? = some i) : okG b (b + repN p a mx) i := by
 unfold repC at hi
 unfold repN
 rcases xdU hi with hi | ⟨_, hi⟩
 · exact (xgv h a b k i hi).mono (Nat.le_refl _) (by omega)
 split at hi
 · rename_i hm
   rw [if_pos hm]
   generalize k - (xcs p a b).length = k' at hi
   unfold xjJ at hi
   rcases k' with _ | k'
   · obtain rfl : (⟨2, [], b + xbf p a + 1, b + xbf p a + p.2 + 2⟩ : Ins) = i := by simpa using hi
     exact Or.inr ⟨rfl, ⟨by (first | (simp; done) | (simp; omega)), by (first | (simp; done) | (simp; omega))⟩, by (first | (simp; done) | (simp; omega)), by (first | (simp; done) | (simp; omega))⟩
   rw [List.getElem?_cons_succ] at hi
   rcases xdU hi with hi | ⟨_, hi⟩
   · exact (h _ _ i hi).mono (by omega) (by omega)
   generalize k' - (p.1 (b + xbf p a + 1)).length = k2 at hi
   rcases k2 with _ | k2
   · obtain rfl : (⟨2, [], b + xbf p a, b + xbf p a⟩ : Ins) = i := by simpa using hi
     exact Or.inr ⟨rfl, ⟨by (first | (simp; done) | (simp; omega)), by (first | (simp; done) | (simp; omega))⟩, by (first | (simp; done) | (simp; omega)), by (first | (simp; done) | (simp; omega))⟩
   simp at hi
 rename_i hm
 rw [if_neg hm]
 exact (xlp h _ _ _ _ i (Nat.le_refl _) hi).mono (by omega) (by omega)
def xbE (es : List Nat) (E : Nat) (l : List Ins) : List Ins := es.foldl (fun l e => l.set e ⟨2, [], e + 1, E⟩) l
theorem xdK : ∀ (es : List Nat) (E : Nat) (l : List Ins), (xbE es E l).length = l.length
 | [], _, _ => rfl
 | e :: es, E, l => by
  show (xbE es E (l.set e _)).length = _
  rw [xdK es E, List.length_set]
theorem xfu : ∀ (es : List Nat) (E : Nat) (l m : List Ins), (∀ e ∈ es, e < l.length) -> xbE es E (l ++ m) = xbE es E l ++ m
 | [], _, _, _, _ => rfl
 | e :: es, E, l, m, h => by
  show xbE es E ((l ++ m).set e _) = xbE es E (l.set e _) ++ m
  rw [List.set_append_left _ _ (h e (by simp)), xfu es E _ m (fun x hx => by rw [List.length_set]; exact h x (by simp [hx]))]
theorem xhM (es : List Nat) (E : Nat) (l c : List Ins) (h : ∀ e ∈ es, e < l.length) : xbE (es ++ [l.length]) E (l ++ ⟨2, [], l.length + 1, 0⟩ :: c) = xbE es E l ++ ⟨2, [], l.length + 1, E⟩ :: c := by
 have : xbE (es ++ [l.length]) E (l ++ ⟨2, [], l.length + 1, 0⟩ :: c) = (xbE es E (l ++ ⟨2, [], l.length + 1, 0⟩ :: c)).set l.length ⟨2, [], l.length + 1, E⟩ := by
  unfold xbE; rw [List.foldl_append]; rfl
 rw [this, xfu es E l _ h, List.set_append_right _ _ (by rw [xdK]; omega), xdK, Nat.sub_self]
 rfl
def Rp1 (p : Cd) (a : Nat) (R : List Ins) (lim : Nat) (B : Nat -> Prop) (mb : Nat) (w : World) (iv : Value) (wr : World) : Prop :=
 ∃ (i r : Nat) (is' : List Ins), iv = .int .i64 i /\ i + r = a /\ MkAt B wr mb is' /\ is'.length + xbf p r = lim /\ is' ++ xcs p r is'.length = R /\ xaa (fun b => b = mb \/ B b) w wr
def Rp2 (p : Cd) (n : Nat) (R : Nat -> List Ins) (lim : Nat) (B : Nat -> Prop) (mb : Nat) (w : World) (sv iv : Value) (wr : World) : Prop :=
 ∃ (i r : Nat) (is' : List Ins) (es : List Nat), iv = .int .i64 i /\ i + r = n /\ es.length = i /\ MkE B wr mb is' sv es /\ is'.length + optN p r = lim /\ (∀ e ∈ es, e < is'.length /\ ∃ y, is'[e]? = some ⟨2, [], e + 1, y⟩) /\ (∀ E, xbE es E is' ++ optC p r is'.length E = R E) /\ xaa (fun b => b = mb \/ B b) w wr
def Rp3 (B : Nat -> Prop) (mb E : Nat) (es : List Nat) (R : List Ins) (ev : Value) (w : World) (iv : Value) (wr : World) : Prop :=
 ∃ (j : Nat) (is' : List Ins), iv = .int .i64 j /\ j <= es.length /\ MkE B wr mb is' ev es /\ is'.length = E /\ (∀ e ∈ es.drop j, e < E /\ ∃ y, is'[e]? = some ⟨2, [], e + 1, y⟩) /\ xbE (es.drop j) E is' = R /\ xaa (fun b => b = mb \/ B b) w wr
theorem xlo (p : Cd) : ∀ n, n <= optN p n
 | 0 => Nat.le_refl _
 | n + 1 => by have := xlo p n; simp only [optN]; omega
theorem xnm (k : T) (p : Cd) (hk : xbS k p.1 p.2) (an : Nat) (mx : Int) (hmx : mx < 0 \/ (an : Int) <= mx) (hmx2 : -1 <= mx /\ mx <= 1000) (han : an <= 1000) (P B : Nat -> Prop) (a1 a : Option Addr) (n1 c1 c mb : Nat) (w0 w : World) (is : List Ins) (ha : KRow w0 P a [k]) (k0 : KF w0 w) (hmb1 : w0.heap.size <= mb)
 (hmb : ¬ B mb) (hb : ∀ b, w.heap.size <= b -> B b) (hB : ∀ b, B b -> w0.heap.size <= b) (hn : is.length + repN p an mx <= 2500) (hM : MkAt B w mb is) :
 Calls prog 96 #[.pointer (some ⟨mb, 0, none⟩), .agg #[.int .i64 6, .slice a1 n1 c1, .int .i64 an, .int .i64 mx, .slice a 1 c]] w fun e w' => NdE B mb (is ++ repC p an mx is.length) w e w' := by
 obtain ⟨i0, hi0, hz0, hz1, hz2⟩ := info_parts xdx
 obtain ⟨b, off, uo, d1, f1, g1, um, ux, d2, f2, g2, rfl, hu, hlt0, x0, x1, x2, x3, x4⟩ := ha.kid k0 (i := 0) rfl
 simp only [Nat.zero_mul, Nat.add_zero] at x0 x1 x2 x3 x4
 have hlt : b < w.heap.size := xal x0
 have hmw : mb < w.heap.size := hM.lt
 obtain ⟨w2, hw2⟩ : ∃ W, W = (w.alloc (.cells #[.int .i64 6, .slice a1 n1 c1, .int .i64 an, .int .i64 mx, .slice (some ⟨b, off, none⟩) 1 c] 73)).alloc (.cells #[.int .i64 uo, .slice d1 f1 g1, .int .i64 um, .int .i64 ux, .slice d2 f2 g2] 73) := ⟨_, rfl⟩
 have k02 : KF w w2 := by rw [hw2]; exact ((xaa.refl _ _).alloc _).alloc _
 have hs2 : w2.heap.size = w.heap.size + 2 := by rw [hw2]; simp
 have hMn : w2.cell? ⟨w.heap.size, 2, none⟩ = some (.int .i64 (an : Int)) := by rw [hw2]; exact xaf (by simp [go_sem]) _
 have hMx : w2.cell? ⟨w.heap.size, 3, none⟩ = some (.int .i64 mx) := by rw [hw2]; exact xaf (by simp [go_sem]) _
 have t0 : w2.cell? ⟨w.heap.size + 1, 0, none⟩ = some (.int .i64 uo) := by rw [hw2]; simp [go_sem]
 have t1 : w2.cell? ⟨w.heap.size + 1, 1, none⟩ = some (.slice d1 f1 g1) := by rw [hw2]; simp [go_sem]
 have t2 : w2.cell? ⟨w.heap.size + 1, 2, none⟩ = some (.int .i64 um) := by rw [hw2]; simp [go_sem]
 have t3 : w2.cell? ⟨w.heap.size + 1, 3, none⟩ = some (.int .i64 ux) := by rw [hw2]; simp [go_sem]
 have t4 : w2.cell? ⟨w.heap.size + 1, 4, none⟩ = some (.slice d2 f2 g2) := by rw [hw2]; simp [go_sem]
 obtain ⟨B2, hB2⟩ : ∃ B2 : Nat -> Prop, B2 = fun x => B x /\ ¬ (x = w.heap.size \/ x = w.heap.size + 1) := ⟨_, rfl⟩
 have b2a : ¬ B2 mb := by rw [hB2]; exact fun h => hmb h.1
 have b2b : ∀ x, w.heap.size + 2 <= x -> B2 x := fun x h => by rw [hB2]; exact ⟨hb x (by omega), by omega⟩
 have b2c : ∀ x, B2 x -> w0.heap.size <= x := fun x h => by rw [hB2] at h; exact hB x h.1
 have b2e : ∀ x, B2 x -> B x := fun x h => by rw [hB2] at h; exact h.1
 have hM2 : MkAt B2 w2 mb is := by
  rw [hB2]
  exact (hM.but (fun x => x = w.heap.size \/ x = w.heap.size + 1) (fun x e => by omega)).keepsF k02
 have hfar0 : ¬ (fun x => x = mb \/ B2 x) w.heap.size := fun h => by
  rcases h with h | h
  · omega
  rw [hB2] at h; exact h.2 (Or.inl rfl)
 have hfar1 : ¬ (fun x => x = mb \/ B2 x) (w.heap.size + 1) := fun h => by
  rcases h with h | h
  · omega
  rw [hB2] at h; exact h.2 (Or.inr rfl)
 have HT : Hid (∀ W, xaa (fun x => x = mb \/ B2 x) w2 W -> W.cell? ⟨w.heap.size + 1, 0, none⟩ = some (.int .i64 uo) /\ W.cell? ⟨w.heap.size + 1, 1, none⟩ = some (.slice d1 f1 g1) /\ W.cell? ⟨w.heap.size + 1, 2, none⟩ = some (.int .i64 um) /\ W.cell? ⟨w.heap.size + 1, 3, none⟩ = some (.int .i64 ux) /\ W.cell? ⟨w.heap.size + 1, 4, none⟩ = some (.slice d2 f2 g2) /\ W.cell? ⟨w.heap.size, 3, none⟩ = some (.int .i64 mx) /\ W.cell? ⟨w.heap.size, 2, none⟩ = some (.int .i64 (an : Int)) /\ w.heap.size + 2 <= W.heap.size) :=
  xa fun W K => ⟨K.cell t0 hfar1, K.cell t1 hfar1, K.cell t2 hfar1, K.cell t3 hfar1, K.cell t4 hfar1, K.cell hMx hfar0, K.cell hMn hfar0, by have := K.size; omega⟩
 have HNd : Hid (∀ (C : Nat -> Prop) W is', (∀ x, C x -> B2 x) -> (∀ x, W.heap.size <= x -> C x) -> xaa (fun x => x = mb \/ B2 x) w2 W -> is'.length + p.2 <= 2500 -> MkAt C W mb is' -> Calls prog 73 #[.pointer (some ⟨mb, 0, none⟩), .agg #[.int .i64 uo, .slice d1 f1 g1, .int .i64 um, .int .i64 ux, .slice d2 f2 g2]] W fun e w' => NdE C mb (is' ++ p.1 is'.length) W e w') := by
  refine xa fun C W is' hC hf K hl hM => ?_
  exact hk.run P C ⟨uo, .slice d1 f1 g1, um, ux, .slice d2 f2 g2⟩ w0 W mb is' hu ((k0.trans k02).trans2 K (fun x hx e => by
   rcases e with e | e
   · omega
   have := b2c x e; omega)) hmb1 (fun h => b2a (hC mb h)) hf (fun x h => b2c x (hC x h)) hl hM
 have HE : Hid (∀ W, xaa (fun x => x = mb \/ B2 x) w2 W -> xaa (fun x => x = mb \/ B x) w W) := xa fun W K => (k02.mono (fun _ _ e => e.elim)).trans2 K (fun x hx e => e.imp id (b2e x))
 have HE' := HE
 have HL := xa hk.len
 have HM2 := xa hM2
 obtain ⟨R1, hR1⟩ : ∃ R, is ++ xcs p an is.length = R := ⟨_, rfl⟩
 have hR1l : R1.length = is.length + xbf p an := by rw [<- hR1, List.length_append, xdD hk.len]
 have hfin : is ++ repC p an mx is.length = R1 ++ if mx < 0 then xjJ p R1.length else optC p (mx.toNat - an) R1.length (R1.length + optN p (mx.toNat - an)) := by
  unfold repC
  rw [<- List.append_assoc, hR1, hR1l]
 rw [hfin]
 unfold repN at hn
 have HR1 := xa hR1
 have HR1l := xa hR1l
 clear ha hu k0 t0 t1 t2 t3 t4 hMx hM2 hfin hR1 hR1l hM hk k02 hB2
 go_enter func96, ntmps96
 go_wp2_with fail
 rw [<- hw2]
 clear hw2 x0 x1 x2 x3 x4 hMn
 go_loopw [15] (fun iv wr => Rp1 p an R1 (is.length + xbf p an) B2 mb w2 iv wr) (fun iv _ => an - (intOf iv).toNat)
 case atStart => exact ⟨0, an, is, rfl, by omega, HM2.out, rfl, HR1.out, xaa.refl _ _⟩
 case round =>
  clear HM2
  obtain ⟨i, r, is', rfl, hir, hM, hl, hf, hk⟩ := hrel
  have HM := xa hM
  have HF := xa hf
  have K := xa hk
  obtain ⟨t0, t1, t2, t3, t4, t5, t6, hsz⟩ := HT.out wr K.out
  clear hM hf hk
  rcases r with _ | r
  · obtain rfl : i = an := by omega
    have HI : Hid (is' = R1) := xa (by have h := HF.out; simpa [xcs] using h)
    have HM1 : Hid (MkAt B2 wr mb R1) := xa (by rw [<- HI.out]; exact HM.out)
    have hl1 := HR1l.out
    clear HF HI HM hl
    have hl1b : R1.length <= 2500 := by omega
    by_cases hm : mx < 0
    · have g1 : decide (mx < 0) = true := by simpa using hm
      rw [if_pos hm] at hn
      have hA : R1.length + (p.2 + 2) <= 2500 := by omega
      clear t0 t1 t2 t3 t4 hl1 hn
      have HSp := xa (xcR B2 mb R1 wr HM1.out b2a (fun x h => b2b x (by omega)) (by omega))
      go_wp2_with fail
      refine HSp.out.mono ?_
      rintro e w3 ⟨rfl, h3, k3⟩
      have k23 := K.out.trans k3
      have K3 := xa k23
      obtain ⟨t0, t1, t2, t3, t4, t7, t8, hsz3⟩ := HT.out w3 k23
      have hLs : (R1 ++ [(⟨2, [], R1.length + 1, 0⟩ : Ins)]).length = R1.length + 1 := by simp
      have hrun := HNd.out B2 w3 _ (fun _ h => h) (fun x h => b2b x (by omega)) k23 (by rw [hLs]; omega) h3
      rw [hLs] at hrun
      have HS := xa hrun
      clear h3 k3 k23 hrun HSp t7 t8
      go_wp2_with fail
      refine HS.out.mono ?_
      rintro e w4 ⟨rfl, h4, k4⟩
      have k24 := K3.out.trans k4
      obtain ⟨_, _, _, _, _, _, _, hsz4⟩ := HT.out w4 k24
      obtain ⟨cc, hcc⟩ : ∃ cc, p.1 (R1.length + 1) = cc := ⟨_, rfl⟩
      have hccl : cc.length = p.2 := by rw [<- hcc]; exact HL.out _
      rw [hcc] at h4
      have HCC := xa hcc
      have hL4 : (R1 ++ [(⟨2, [], R1.length + 1, 0⟩ : Ins)] ++ cc).length = R1.length + 1 + cc.length := by simp; omega
      have hJ := xgQ B2 mb R1.length _ w4 h4 b2a (fun x h => b2b x (by omega)) (by rw [hL4]; omega) (by omega)
      rw [hL4] at hJ
      have HJ := xa hJ
      have K4 := xa k24
      clear h4 k4 hJ hcc HS t0 t1 t2 t3 t4 k24
      go_wp2_with fail
      refine HJ.out.mono ?_
      rintro e w5 ⟨rfl, h5, k5⟩
      have K5 := xa (K4.out.trans k5)
      obtain ⟨is5, his5⟩ : ∃ l, l = R1 ++ [(⟨2, [], R1.length + 1, 0⟩ : Ins)] ++ cc ++ [⟨2, [], R1.length, R1.length⟩] := ⟨_, rfl⟩
      rw [<- his5] at h5
      have hl5 : is5.length = R1.length + p.2 + 2 := by rw [his5]; simp; omega
      have hx5 : is5[R1.length]? = some ⟨2, [], R1.length + 1, 0⟩ := by rw [his5]; simp
      have hset : is5.set R1.length ⟨2, [], R1.length + 1, is5.length⟩ = R1 ++ xjJ p R1.length := by
       unfold xjJ
       rw [HCC.out, hl5, his5]
       simp [List.set_append_right]
      obtain ⟨g, cap, ivs, hO⟩ := h5.mko (by omega)
      obtain ⟨iv, hiv⟩ := hO.last (k := R1.length) (by omega)
      have c0 : w5.cell? ⟨mb, 0, none⟩ = some (.slice (some ⟨g, 0, none⟩) is5.length cap) := by rw [Lib.cell_of_heap hO.bk]; rfl
      have y3 := hO.cell hiv (j := 3) (by omega)
      have f3 := hO.own.frozenAt (R1.length * 4 + 3)
      have hgB := hO.gB
      have hgm : g ≠ mb := fun h => b2a (h ▸ hgB)
      have hmg : mb ≠ g := fun h => hgm h.symm
      have hXY := (hO.setXY b2a hiv hx5 0 is5.length).2.2
      simp only [hset] at hXY
      have HXY := xa hXY
      have e3 : encP iv 3 = .int .i64 iv.y := rfl
      rw [e3] at y3
      have hl5a : R1.length < is5.length := by omega
      have hl5b : is5.length <= 2502 := by omega
      clear hl5 h5 k5 his5 hx5 hset hO hiv hXY e3 hccl HJ
      go_wp2_with fail
      go_region
      all_goals
       go_wp2_with fail
       refine bodyPost_ret (results_none rfl _ _ _) rfl ?_
       obtain ⟨ivs', hM5⟩ := HXY.out
       exact ⟨rfl, (hM5.at.mono b2e).keepsF (xaa.refl (fun _ => False) _).drew, HE.out _ ((K5.out.set (p := ⟨g, R1.length * 4 + 3, none⟩) (Or.inr hgB) _).drew)⟩
    have g1 : decide (mx < 0) = false := by simpa using hm
    rw [if_neg hm] at hn
    obtain ⟨n, rfl⟩ : ∃ n : Nat, mx = (i : Int) + (n : Int) := ⟨(mx - i).toNat, by omega⟩
    have hmn : ((i : Int) + (n : Int)).toNat - i = n := by omega
    rw [hmn] at hn
    have hon := xlo p n
    have hA : R1.length + optN p n <= 2500 := by omega
    clear hl1 hn
    have HMn := xa hmn
    have HME : Hid (MkE B2 wr mb R1 (.slice none 0 0) []) := xa ⟨HM1.out.mono (fun x hx => ⟨hx, by simp [Value.ownBlock]⟩), ⟨rfl, Or.inl ⟨rfl, rfl⟩⟩, fun x e => by simp [Value.ownBlock] at e⟩
    clear t0 t1 t2 t3 t4 hmn hmx
    go_wp2_with fail
    go_loopw [6, 49] (fun sv iv wr => Rp2 p n (fun E => R1 ++ optC p n R1.length E) (R1.length + optN p n) B2 mb w2 sv iv wr) (fun _ iv _ => n - (intOf iv).toNat)
    case atStart => exact ⟨0, n, R1, [], rfl, by omega, rfl, HME.out, rfl, fun e he => by simp at he, fun E => rfl, K.out⟩
    case round =>
     clear HME HM1 t5 t6 hsz K
     obtain ⟨j, r, is', es, rfl, hjr, hesl, hE, hlen, hes, hpat, hk⟩ := hrel
     have HE := xa hE
     have HPat := xa hpat
     have K := xa hk
     have HEs := xa hes
     obtain ⟨ea, ec, rfl⟩ := xad hE.row
     obtain ⟨t0, t1, t2, t3, t4, t5, t6, hsz⟩ := HT.out wr K.out
     have hesb : es.length <= n := by omega
     have Hesl := xa hesl
     clear hE hpat hk hes hesl
     rcases r with _ | r
     · obtain rfl : j = n := by omega
       clear t0 t1 t2 t3 t4 t5 t6
       simp only [optN, Nat.add_zero] at hlen
       obtain ⟨EE, hEE⟩ : ∃ E, is'.length = E := ⟨_, rfl⟩
       have HEE := xa hEE
       have HEq : Hid (R1.length + optN p j = EE) := xa (by omega)
       have HR2 : Hid (xbE es EE is' = R1 ++ optC p j R1.length EE) := xa (by have h := HPat.out EE; simpa [optC] using h)
       have HEs2 : Hid (∀ e ∈ es, e < EE /\ ∃ y, is'[e]? = some ⟨2, [], e + 1, y⟩) := xa (fun e he => by rw [<- hEE]; exact HEs.out e he)
       obtain ⟨RR, hRR⟩ : ∃ R, R1 ++ optC p j R1.length EE = R := ⟨_, rfl⟩
       rw [hRR] at HR2
       have HRR := xa hRR
       clear hEE hlen hRR HEs HPat
       go_wp2_with fail
       go_loopw [62] (fun iv wr => Rp3 B2 mb EE es RR (.slice ea es.length ec) w2 iv wr) (fun iv _ => es.length - (intOf iv).toNat)
       case atStart => exact ⟨0, is', rfl, Nat.zero_le _, HE.out, HEE.out, by rw [List.drop_zero]; exact HEs2.out, HR2.out, K.out⟩
       case round =>
        clear HE HEs2 HR2 K HEE
        obtain ⟨m, is2, rfl, hj, hE, hL2, hes2, hp2, hk⟩ := hrel
        have HE3 := xa hE
        have HK3 := xa hk
        have HP3 := xa hp2
        have HS3 := xa hes2
        clear hE hk hp2 hes2
        by_cases hjl : m < es.length
        · obtain ⟨e, he⟩ : ∃ e, es[m]? = some e := ⟨_, List.getElem?_eq_getElem hjl⟩
          have hdr : es.drop m = e :: es.drop (m + 1) := by
           obtain ⟨h1, h2⟩ := List.getElem?_eq_some_iff.1 he
           rw [List.drop_eq_getElem_cons h1, h2]
          obtain ⟨hel, y, hex⟩ := HS3.out e (by rw [hdr]; simp)
          obtain ⟨ge, gcap, hgv, _, _⟩ := (HE3.out.row).form (by omega)
          obtain ⟨rfl, _, rfl⟩ := Value.slice.inj hgv
          have ce : wr.cell? ⟨ge, m, none⟩ = some (.int .i64 (e : Int)) := by
           have hr := HE3.out.row
           unfold ownN at hr
           rw [hr.cellAt m (by omega), List.getElem?_map, he]; rfl
          obtain ⟨g, cap, ivs, hO⟩ := HE3.out.mkr.mko (by omega)
          rw [hL2] at hO
          obtain ⟨iv, hiv⟩ := hO.last (k := e) hel
          have c0 : wr.cell? ⟨mb, 0, none⟩ = some (.slice (some ⟨g, 0, none⟩) EE cap) := by rw [Lib.cell_of_heap hO.bk]; rfl
          have y3 := hO.cell hiv (j := 3) (by omega)
          have z3 := hO.own.frozenAt (e * 4 + 3)
          have hgm : g ≠ mb := fun h => b2a (h ▸ hO.gB.1)
          have hmg : mb ≠ g := fun h => hgm h.symm
          have hgg : g ≠ ge := fun h => hO.gB.2 (by rw [h]; rfl)
          have hXY := (hO.setXY (fun h => b2a h.1) hiv hex 0 EE).2.2
          have HXY := xa hXY
          have u3 : encP iv 3 = .int .i64 iv.y := rfl
          rw [u3] at y3
          have hEp : xbE (es.drop (m + 1)) EE (is2.set e ⟨2, [], e + 1, EE⟩) = RR := by rw [<- HP3.out, hdr]; rfl
          have HEp := xa hEp
          have HS4 : Hid (∀ e' ∈ es.drop (m + 1), e' < EE /\ ∃ y, (is2.set e ⟨2, [], e + 1, EE⟩)[e']? = some ⟨2, [], e' + 1, y⟩) := xa (fun e' he' => by
           obtain ⟨h1, y', h2⟩ := HS3.out e' (by rw [hdr]; simp [he'])
           refine ⟨h1, ?_⟩
           rw [List.getElem?_set]
           by_cases h : e = e'
           · subst h
             rw [if_pos rfl, if_pos (by rw [hL2]; exact h1)]
             exact ⟨_, rfl⟩
           rw [if_neg h]; exact ⟨y', h2⟩)
          have KG : Hid (xaa (fun b => b = g) wr (wr.setCell ⟨g, e * 4 + 3, none⟩ (.int .i64 (EE : Int)))) := xa ((xaa.refl (fun b => b = g) wr).set (p := ⟨g, e * 4 + 3, none⟩) rfl _)
          have HL2 := xa hL2
          clear hXY hO hiv hex he hdr hEp u3 hgv HP3 HS3 hL2
          go_wp2_with fail
          go_region
          all_goals
           go_wp2
           go_roundw
           case rel =>
            obtain ⟨ivs', hM⟩ := HXY.out
            obtain ⟨q1, q2⟩ := HE3.out.stored hM KG.out
            exact ⟨m + 1, is2.set e ⟨2, [], e + 1, EE⟩, by go_num, by omega, q1.keepsF (xaa.refl (fun _ => False) _).drew, by rw [List.length_set]; exact HL2.out, HS4.out, HEp.out, (HK3.out.trans q2).drew⟩
           case measure => simp [intOf]; omega
        obtain rfl : m = es.length := by omega
        have HF : Hid (is2 = RR) := xa (by have h := HP3.out; rw [List.drop_length] at h; exact h)
        have HM3 := xa ((HE3.out.mkr.mono (C := B2) (fun b h => h.1)).mono b2e)
        go_wp2
        go_end0
        have h1 := HM3.out
        rw [HF.out, <- HRR.out, <- HEq.out] at h1
        have h2 : NdE B mb (R1 ++ optC p j R1.length (R1.length + optN p j)) w (.returned (.tuple #[])) wr := ⟨rfl, h1, HE'.out _ HK3.out⟩
        simpa [hm, HMn.out] using h2
     have hjn : j < n := by omega
     have glt : decide ((j : Int) < (n : Int)) = true := by simp; omega
     simp only [optN] at hlen
     have hfre : ∀ x, wr.heap.size <= x -> B2 x /\ (Value.slice ea es.length ec).ownBlock ≠ some x := fun x h => ⟨b2b x (by omega), fun e => by have := xaM HE.out.row x e; omega⟩
     have HSp := xa (xcR (fun x => B2 x /\ (Value.slice ea es.length ec).ownBlock ≠ some x) mb is' wr HE.out.mkr (fun h => b2a h.1) hfre (by omega))
     clear hfre
     go_wp2_with fail
     refine HSp.out.mono ?_
     rintro e w3 ⟨rfl, h3, k3⟩
     have hE3 := HE.out.next b2a h3 k3
     have k23 := K.out.trans (k3.mono (fun x _ e => e.imp id (fun h => h.1)))
     have HE3 := xa hE3
     have K3 := xa k23
     have hsz3 := k23.size
     clear h3 k3 hE3 k23 HSp t0 t1 t2 t3 t4 t5 t6
     go_wp2_with (at_builtin; refine wpList_append_lies _ rfl (.tmp 51) (.tmp 54) 23 rfl 0 3 i0 (.int .i64 0) 1 8 underlying23 hi0 hz0 hz1 hz2 rfl (by decide) _ es.length _ rfl (xac HE3.out.row _) ⟨w3.heap.size, 0, none⟩ 1 1 [.int .i64 (is'.length : Int)] rfl rfl (by exact xaq _ [_] _) (by simp [Value.oneCell']) (by decide) (by unfold maxLen; omega) (by omega) (Nat.zero_le _) _ rfl ?_)
     intro ge gcap w5 hown5 hgrow5 hat5 hlt5
     obtain ⟨hE5, k5⟩ := HE3.out.push b2a (fun x h => b2b x (by omega)) ((xaa.refl (fun _ => False) w3).alloc _) hown5 hgrow5 (hat5.imp id (fun h => by rw [h]; simp))
     have k25 := K3.out.trans k5
     have HE5 := xa hE5
     have K5 := xa k25
     obtain ⟨t0, t1, t2, t3, t4, t5, t6, hsz5⟩ := HT.out w5 k25
     have hLs : (is' ++ [(⟨2, [], is'.length + 1, 0⟩ : Ins)]).length = is'.length + 1 := by simp
     have hrun := HNd.out (fun x => B2 x /\ (Value.slice (some ⟨ge, 0, none⟩) (es.length + 1) gcap).ownBlock ≠ some x) w5 _ (fun _ h => h.1) (fun x h => ⟨b2b x (by omega), fun e => by have h9 : ge = x := Option.some.inj e; omega⟩) k25 (by rw [hLs]; omega) hE5.mkr
     rw [hLs] at hrun
     have HS := xa hrun
     clear hown5 hgrow5 hat5 hE5 k5 k25 hrun t5 t6 HE3
     go_wp2_with fail
     refine HS.out.mono ?_
     rintro e w6 ⟨rfl, h6, k6⟩
     have HE6 := xa (HE5.out.next b2a h6 k6)
     have K6 := xa (K5.out.trans (k6.mono (fun x _ e => e.imp id (fun h => h.1))))
     have HL3 : Hid ((is' ++ [(⟨2, [], is'.length + 1, 0⟩ : Ins)] ++ p.1 (is'.length + 1)).length = is'.length + 1 + p.2) := xa (by simp [HL.out]; omega)
     have HPs : Hid (∀ E, xbE (es ++ [is'.length]) E (is' ++ [(⟨2, [], is'.length + 1, 0⟩ : Ins)] ++ p.1 (is'.length + 1)) ++ optC p r (is' ++ [(⟨2, [], is'.length + 1, 0⟩ : Ins)] ++ p.1 (is'.length + 1)).length E = R1 ++ optC p n R1.length E) := xa (fun E => by
      rw [HL3.out, <- HPat.out E, List.append_assoc is', List.singleton_append, xhM es E is' _ (fun e he => (HEs.out e he).1), optC]
      simp)
     have HEs5 : Hid (∀ e ∈ es ++ [is'.length], e < (is' ++ [(⟨2, [], is'.length + 1, 0⟩ : Ins)] ++ p.1 (is'.length + 1)).length /\ ∃ y, (is' ++ [(⟨2, [], is'.length + 1, 0⟩ : Ins)] ++ p.1 (is'.length + 1))[e]? = some ⟨2, [], e + 1, y⟩) := xa (fun e he => by
      rw [HL3.out]
      rcases List.mem_append.1 he with he | he
      · obtain ⟨h1, y, h2⟩ := HEs.out e he
        exact ⟨by omega, y, by rw [List.append_assoc, List.getElem?_append_left h1]; exact h2⟩
      obtain rfl : e = is'.length := by simpa using he
      exact ⟨by omega, 0, by rw [List.append_assoc, List.getElem?_append_right (Nat.le_refl _), Nat.sub_self]; rfl⟩)
     clear h6 k6 HS t0 t1 t2 t3 t4 HPat HEs
     go_wp2
     go_roundw
     case rel => exact ⟨j + 1, r, _, es ++ [is'.length], by go_num, by omega, by simp [Hesl.out], by have := HE6.out; simpa using this, by rw [HL3.out]; omega, HEs5.out, HPs.out, K6.out⟩
     case measure => simp [intOf]; omega
  have hlt2 : decide ((i : Int) < (an : Int)) = true := by simp; omega
  simp only [xbf] at hl
  have hrun := HNd.out B2 wr is' (fun _ h => h) (fun x h => b2b x (by omega)) K.out (by omega) HM.out
  have HS := xa hrun
  clear hrun
  go_wp2_with fail
  refine HS.out.mono ?_
  rintro e w3 ⟨rfl, h3, k3⟩
  have H3 := xa h3
  have K3 := xa (K.out.trans k3)
  clear h3 k3 t0 t1 t2 t3 t4 t5 t6
  go_wp2
  go_roundw
  case rel => exact ⟨i + 1, r, is' ++ p.1 is'.length, by go_num, by omega, H3.out, by rw [List.length_append, HL.out]; omega, by rw [List.length_append, HL.out, List.append_assoc]; exact HF.out, K3.out⟩
  case measure => simp [intOf]; omega
theorem xni (t : T) (q : List Cd) (h : t.op = 5) (h0 : 0 < t.kids.toL.length) (hq : q.length = t.kids.toL.length) (ih : ∀ (i : Nat) (k : T) (p : Cd), t.kids.toL[i]? = some k -> q[i]? = some p -> xbS k p.1 p.2) : xbS t (fun b => altC q b (b + altN q)) (altN q) := by
 have hl := fun p hp => (xi8 hq ih (p := p) hp).choose_spec.len
 refine ⟨fun b => xjg q hl b _, fun b k i hk => xmu q (fun p hp => (xi8 hq ih hp).choose_spec.ok) hl b _ k i (Nat.le_refl _) hk, fun P B v w0 w mb is ht k0 hmb1 hmb hb hB hn hM => ?_⟩
 clear hl
 obtain ⟨a1, n1, c1, a2, c2, e1, e2, hl, hc⟩ := ht.krow
 generalize t.kids.toL = L at *
 have o1 : v.op = 5 := ht.op.trans h
 obtain ⟨vo, vsv, vm, vx, vk⟩ := v
 obtain rfl := e1
 obtain rfl := e2
 obtain rfl := o1
 have kB : KF w (w.alloc (.cells #[.int .i64 5, .slice a1 n1 c1, .int .i64 vm, .int .i64 vx, .slice a2 L.length c2] 73)) := (xaa.refl _ _).alloc _
 have HP := xa (xno L q hq h0 ih P B a2 c2 mb w0 _ is hc (k0.trans kB) hmb1 hmb (fun b h => hb b (by simp at h; omega)) hB hn (hM.keepsF kB))
 have KB := xa kB
 clear hc ht k0 hM kB ih hB hb hq
 show Calls prog 73 #[.pointer (some ⟨mb, 0, none⟩), .agg #[.int .i64 5, .slice a1 n1 c1, .int .i64 vm, .int .i64 vx, .slice a2 L.length c2]] w _
 go_enter func73, ntmps73
 go_wp2_with fail
 refine HP.out.mono ?_
 rintro e w2 ⟨rfl, h2, k2⟩
 have H2 := xa h2
 have K2 : Hid (xaa (fun b => b = mb \/ B b) w w2) := xa ((KB.out.mono (fun _ _ e => e.elim)).trans2 k2 (fun _ _ e => e))
 clear h2 k2
 go_wp2
 go_end0
 exact ⟨rfl, H2.out, K2.out⟩
theorem xnf (t k : T) (p : Cd) (h : t.op = 6) (hk : t.kids.toL = [k]) (hmn : 0 <= t.mn /\ t.mn <= 1000) (hmx : -1 <= t.mx /\ t.mx <= 1000) (hmm : t.mx < 0 \/ t.mn <= t.mx) (ih : xbS k p.1 p.2) : xbS t (repC p t.mn.toNat t.mx) (repN p t.mn.toNat t.mx) := by
 refine ⟨fun b => xmT ih.len _ _ b, fun b k i hk => repC_ok ih.ok _ _ b k i hk, fun P B v w0 w mb is ht k0 hmb1 hmb hb hB hn hM => ?_⟩
 obtain ⟨a1, n1, c1, a2, c2, e1, e2, hl, hc⟩ := ht.krow
 rw [hk] at e2 hc
 have o1 : v.op = 6 := ht.op.trans h
 have o2 : v.mn = t.mn := ht.mn
 have o3 : v.mx = t.mx := ht.mx
 obtain ⟨vo, vsv, vm, vx, vk⟩ := v
 obtain rfl := e1
 obtain rfl := e2
 obtain rfl := o1
 obtain rfl := o2
 obtain rfl := o3
 obtain ⟨an, han⟩ : ∃ an : Nat, t.mn = (an : Int) := ⟨t.mn.toNat, by omega⟩
 rw [han] at hmn hmm hn ⊢
 rw [Int.toNat_natCast] at hn ⊢
 generalize t.mx = mx at *
 have kB : KF w (w.alloc (.cells #[.int .i64 6, .slice a1 n1 c1, .int .i64 (an : Int), .int .i64 mx, .slice a2 1 c2] 73)) := (xaa.refl _ _).alloc _
 have HP := xa (xnm k p ih an mx hmm hmx (by omega) P B a1 a2 n1 c1 c2 mb w0 _ is hc (k0.trans kB) hmb1 hmb (fun b h => hb b (by simp at h; omega)) hB hn (hM.keepsF kB))
 have KB := xa kB
 clear hc ht k0 hM kB ih hB hb hl
 show Calls prog 73 #[.pointer (some ⟨mb, 0, none⟩), .agg #[.int .i64 6, .slice a1 n1 c1, .int .i64 (an : Int), .int .i64 mx, .slice a2 1 c2]] w _
 go_enter func73, ntmps73
 go_wp2_with fail
 refine HP.out.mono ?_
 rintro e w2 ⟨rfl, h2, k2⟩
 have H2 := xa h2
 have K2 : Hid (xaa (fun b => b = mb \/ B b) w w2) := xa ((KB.out.mono (fun _ _ e => e.elim)).trans2 k2 (fun _ _ e => e))
 clear h2 k2
 go_wp2
 go_end0
 exact ⟨rfl, H2.out, K2.out⟩
def WGn (t : T) : Prop := (t.set.length <= 4000 /\ t.kids.toL.length <= 4000) /\ (t.op = 0 \/ t.op = 1 \/ t.op = 2 \/ t.op = 3 \/ t.op = 4 \/ (t.op = 5 /\ 0 < t.kids.toL.length) \/ (t.op = 6 /\ (∃ k, t.kids.toL = [k]) /\ (0 <= t.mn /\ t.mn <= 1000) /\ (-1 <= t.mx /\ t.mx <= 1000) /\ (t.mx < 0 \/ t.mn <= t.mx)))
inductive WG : T -> Prop
 | mk {t : T} (h : WGn t) (hk : ∀ (i : Nat) (k : T), t.kids.toL[i]? = some k -> WG k) : WG t
def LenC (t : T) (n : Nat) : Prop := ∀ (P : Nat -> Prop) (v : NV) (w : World), TAt w P v t -> Calls prog 72 #[v.val] w fun e w' => e = .returned (.int .i64 (n : Int)) /\ KF w w'
theorem xgR (W : World) (x y : Int) : (Builtin.min_ #[3, 3] 3 #[.int .i64 x, .int .i64 y]).run prog W = .ok (.int .i64 (if y < x then y else x)) W := by
 simp [Builtin.min_, Builtin.min2]
def xat (n : Nat) : Nat := min n 1099511627776
theorem xbY (n : Nat) : xat n <= 1099511627776 := by unfold xat; omega
def LenG (t : T) (n : Nat) : Prop := ∀ (P : Nat -> Prop) (v : NV) (w : World), TAt w P v t -> Calls prog 72 #[v.val] w fun e w' => e = .returned (.int .i64 (xat n : Nat)) /\ KF w w'
def lenOf (t : T) (s : Nat) : Nat :=
 if t.op = 0 then 0 else if t.op = 4 then s else if t.op = 5 then s + 2 * (t.kids.toL.length - 1) else if t.op = 6 then (if t.mx < 0 then (t.mn.toNat + 1) * s + 2 else t.mn.toNat * s + (t.mx - t.mn).toNat * (s + 1)) else 1
def xax : List Nat -> Nat
 | [] => 0
 | n :: r => n + xax r
theorem xc1 {l : List Nat} {i n : Nat} (h : l[i]? = some n) : xax (l.take (i + 1)) = xax (l.take i) + n := by
 induction l generalizing i with
 | nil => simp at h
 | cons x l ih =>
  rcases i with _ | i
  · obtain rfl : x = n := by simpa using h
    simp [xax]
  rw [List.take_succ_cons, List.take_succ_cons, xax, xax, ih (by simpa using h)]; omega
theorem min_cap (x y : Nat) (W : World) : (Builtin.min_ #[3, 3] 3 #[.int .i64 ((xat x : Int) + (xat y : Int)), .int .i64 1099511627776]).run prog W = .ok (.int .i64 (xat (x + y) : Nat)) W := by
 rw [xgR]
 congr 2
 unfold xat
 split <;> omega
theorem min_eq2 (P : Nat) : (if (1099511627776 : Int) < (P : Int) + 2 then (1099511627776 : Int) else (P : Int) + 2) = (xat (P + 2) : Nat) := by
 unfold xat
 split <;> omega
theorem min_eqp (P Q : Nat) : (if (1099511627776 : Int) < (P : Int) + (Q : Int) then (1099511627776 : Int) else (P : Int) + (Q : Int)) = (xat (P + Q) : Nat) := by
 unfold xat
 split <;> omega
theorem xdq (a X : Nat) (ha : a <= 1001) (hX : X <= 1099511627777) : a * X <= 1200000000000000 := Nat.le_trans (Nat.mul_le_mul ha hX) (by decide)
theorem xmk (m S c : Nat) (hm : 0 < m) : xat (m * S + c) = xat (m * xat S + c) := by
 by_cases h : S <= 1099511627776
 · rw [show xat S = S by unfold xat; omega]
 rw [show xat S = 1099511627776 by unfold xat; omega]
 have h1 : S <= m * S := Nat.le_mul_of_pos_left S hm
 have h2 : 1099511627776 <= m * 1099511627776 := Nat.le_mul_of_pos_left _ hm
 unfold xat; omega
theorem xja (a d S : Nat) : xat (a * S + d * (S + 1)) = xat (a * xat S + d * (xat S + 1)) := by
 by_cases h : S <= 1099511627776
 · rw [show xat S = S by unfold xat; omega]
 rw [show xat S = 1099511627776 by unfold xat; omega]
 rcases Nat.eq_zero_or_pos a with rfl | ha
 · rcases Nat.eq_zero_or_pos d with rfl | hd
   · simp
   have h1 : S + 1 <= d * (S + 1) := Nat.le_mul_of_pos_left _ hd
   have h2 : 1099511627776 + 1 <= d * (1099511627776 + 1) := Nat.le_mul_of_pos_left _ hd
   unfold xat; omega
 have h1 : S <= a * S := Nat.le_mul_of_pos_left S ha
 have h2 : 1099511627776 <= a * 1099511627776 := Nat.le_mul_of_pos_left _ ha
 unfold xat; omega
def LeR (L : List T) (q : List Nat) (w : World) (iv av : Value) (wr : World) : Prop := ∃ i : Nat, iv = .int .i64 i /\ i <= L.length /\ av = .int .i64 (xat (xax (q.take i)) : Nat) /\ KF w wr
theorem len_any (t : T) (q : List Nat) (hW : WGn t) (hq : q.length = t.kids.toL.length) (ih : ∀ (i : Nat) (k : T) (n : Nat), t.kids.toL[i]? = some k -> q[i]? = some n -> LenG k n) : LenG t (lenOf t (xax q)) := by
 intro P v w ht
 obtain ⟨a1, n1, c1, a2, c2, e1, e2, hl, hc⟩ := ht.krow
 obtain ⟨⟨_, hL4⟩, hops⟩ := hW
 have hlo : ∀ s, lenOf t s = if t.op = 0 then 0 else if t.op = 4 then s else if t.op = 5 then s + 2 * (t.kids.toL.length - 1) else if t.op = 6 then (if t.mx < 0 then (t.mn.toNat + 1) * s + 2 else t.mn.toNat * s + (t.mx - t.mn).toNat * (s + 1)) else 1 := fun s => rfl
 rw [hlo]
 clear hlo
 have o1 : v.op = t.op := ht.op
 have o2 : v.mn = t.mn := ht.mn
 have o3 : v.mx = t.mx := ht.mx
 obtain ⟨vo, vsv, vm, vx, vk⟩ := v
 obtain rfl := e1
 obtain rfl := e2
 simp only at o1 o2 o3
 subst o1
 subst o2
 subst o3
 have HOps : Hid (t.op = 0 \/ t.op = 1 \/ t.op = 2 \/ t.op = 3 \/ t.op = 4 \/ (t.op = 5 /\ 0 < t.kids.toL.length) \/ (t.op = 6 /\ (0 <= t.mn /\ t.mn <= 1000) /\ (-1 <= t.mx /\ t.mx <= 1000) /\ (t.mx < 0 \/ t.mn <= t.mx))) := xa (by
  rcases hops with h | h | h | h | h | h | ⟨h, _, h2, h3, h4⟩
  · exact Or.inl h
  · exact Or.inr (Or.inl h)
  · exact Or.inr (Or.inr (Or.inl h))
  · exact Or.inr (Or.inr (Or.inr (Or.inl h)))
  · exact Or.inr (Or.inr (Or.inr (Or.inr (Or.inl h))))
  · exact Or.inr (Or.inr (Or.inr (Or.inr (Or.inr (Or.inl h)))))
  exact Or.inr (Or.inr (Or.inr (Or.inr (Or.inr (Or.inr ⟨h, h2, h3, h4⟩))))))
 generalize t.op = op at *
 generalize t.mn = mn at *
 generalize t.mx = mx at *
 generalize t.kids.toL = L at *
 have HC := xa hc
 have IH := xa ih
 have HQ := xa hq
 clear hl hc ht ih hops hq
 show Calls prog 72 #[.agg #[.int .i64 op, .slice a1 n1 c1, .int .i64 mn, .int .i64 mx, .slice a2 L.length c2]] w _
 go_enter func72, ntmps72
 go_wp2_with fail
 obtain ⟨wb, hwb⟩ : ∃ W, W = w.alloc (.cells #[.int .i64 op, .slice a1 n1 c1, .int .i64 mn, .int .i64 mx, .slice a2 L.length c2] 73) := ⟨_, rfl⟩
 have hKB : KF w wb := by rw [hwb]; exact (xaa.refl _ _).alloc _
 have b0 : wb.cell? ⟨w.heap.size, 0, none⟩ = some (.int .i64 op) := by rw [hwb]; simp [go_sem]
 have b2 : wb.cell? ⟨w.heap.size, 2, none⟩ = some (.int .i64 mn) := by rw [hwb]; simp [go_sem]
 have b3 : wb.cell? ⟨w.heap.size, 3, none⟩ = some (.int .i64 mx) := by rw [hwb]; simp [go_sem]
 have b4 : wb.cell? ⟨w.heap.size, 4, none⟩ = some (.slice a2 L.length c2) := by rw [hwb]; simp [go_sem]
 rw [<- hwb]
 clear hwb
 have KB := xa hKB
 have B0 := xa b0
 have B2 := xa b2
 have B3 := xa b3
 have B4 := xa b4
 clear hKB b0 b2 b3 b4
 go_loopw [9, 3] (fun iv av wr => LeR L q wb iv av wr) (fun iv _ _ => L.length - (intOf iv).toNat)
 case atStart => exact ⟨0, rfl, Nat.zero_le _, by rw [List.take_zero]; rfl, xaa.refl _ _⟩
 case round =>
  obtain ⟨i, rfl, hi, rfl, hk⟩ := hrel
  have K := xa hk
  clear hk
  by_cases hil : i < L.length
  · obtain ⟨k, hki⟩ : ∃ k, L[i]? = some k := ⟨_, List.getElem?_eq_getElem hil⟩
    obtain ⟨n, hni⟩ : ∃ n, q[i]? = some n := ⟨_, List.getElem?_eq_getElem (by rw [HQ.out]; exact hil)⟩
    obtain ⟨b, off, uo, d1, f1, g1, um, ux, d2, f2, g2, rfl, hu, hlt, x0, x1, x2, x3, x4⟩ := (HC.out.keep (KB.out.trans K.out)).at hki
    have HS : Hid (∀ W, KF wr W -> Calls prog 72 #[.agg #[.int .i64 uo, .slice d1 f1 g1, .int .i64 um, .int .i64 ux, .slice d2 f2 g2]] W fun e w' => e = .returned (.int .i64 (xat n : Nat)) /\ KF W w') := xa (fun W kW =>
     IH.out i k n hki hni P ⟨uo, .slice d1 f1 g1, um, ux, .slice d2 f2 g2⟩ W (hu.keepsTo kW (fun _ _ => id) (fun _ h => h)))
    have hS1 := xc1 hni
    have hm2 := fun W => min_cap (xax (q.take i)) n W
    rw [<- hS1] at hm2
    have q1 := xbY (xax (q.take i))
    have q2 := xbY n
    clear hki hu hni hS1
    generalize xat (xax (q.take i)) = X at *
    generalize xat n = Y at *
    obtain ⟨Z, hZ⟩ : ∃ Z, xat (xax (q.take (i + 1))) = Z := ⟨_, rfl⟩
    rw [hZ] at hm2
    have HZ := xa hZ
    clear hZ
    go_wp2_with fail
    refine (HS.out _ (KI.out)).mono ?_
    rintro e w2 ⟨rfl, k2⟩
    have K2 : Hid (KF wb w2) := xa (K.out.trans (xaa.trans (KI.out) k2))
    clear k2
    go_wp2
    go_roundw
    case rel => exact ⟨i + 1, by go_num, by omega, by rw [HZ.out], K2.out⟩
    case measure => simp [intOf]; omega
  have he : i = L.length := by omega
  subst he
  have b0 := K.out.cell B0.out id
  have b2 := K.out.cell B2.out id
  have b3 := K.out.cell B3.out id
  have b4 := K.out.cell B4.out id
  have hsz : w.heap.size < wr.heap.size := xal b0
  have KE := xa (KB.out.trans K.out)
  rw [List.take_of_length_le (by rw [HQ.out]; exact Nat.le_refl _)]
  have q1 := xbY (xax q)
  obtain ⟨S, hS⟩ : ∃ S, xax q = S := ⟨_, rfl⟩
  rw [hS] at q1 ⊢
  have HSS := xa hS
  obtain ⟨X, hX⟩ : ∃ X, xat S = X := ⟨_, rfl⟩
  rw [hX] at q1 ⊢
  have HX := xa hX
  clear hS hX K B0 B2 B3 B4 KB
  rcases HOps.out with rfl | rfl | rfl | rfl | rfl | ⟨rfl, h5⟩ | ⟨rfl, h6, h7, h8⟩
  · go_wp2
    go_ret
    exact ⟨by simp [xat], KE.out⟩
  · go_wp2
    go_ret
    exact ⟨by simp [xat], KE.out⟩
  · go_wp2
    go_ret
    exact ⟨by simp [xat], KE.out⟩
  · go_wp2
    go_ret
    exact ⟨by simp [xat], KE.out⟩
  · have hm2 := fun W => xgR W (X : Int) 1099511627776
    rw [if_neg (by omega)] at hm2
    go_wp2
    go_ret
    exact ⟨by rw [<- HX.out, <- HSS.out]; simp, KE.out⟩
  · obtain ⟨Y, hY⟩ : ∃ Y : Nat, L.length - 1 = Y := ⟨_, rfl⟩
    have hm2 := fun W => xgR W ((X : Int) + 2 * ((L.length : Int) - 1)) 1099511627776
    have HE : Hid ((if (1099511627776 : Int) < (X : Int) + 2 * ((L.length : Int) - 1) then (1099511627776 : Int) else (X : Int) + 2 * ((L.length : Int) - 1)) = (xat (S + 2 * (L.length - 1)) : Nat)) := xa (by
     rw [<- HX.out]
     unfold xat
     split <;> omega)
    obtain ⟨Z, hZ⟩ : ∃ Z, (if (1099511627776 : Int) < (X : Int) + 2 * ((L.length : Int) - 1) then (1099511627776 : Int) else (X : Int) + 2 * ((L.length : Int) - 1)) = Z := ⟨_, rfl⟩
    rw [hZ] at hm2 HE
    clear hZ hY
    go_wp2
    go_ret
    exact ⟨by rw [HE.out, <- HSS.out]; simp, KE.out⟩
  obtain ⟨a, rfl⟩ : ∃ a : Nat, mn = (a : Int) := ⟨mn.toNat, by omega⟩
  by_cases hm : mx < 0
  · have g1 : decide (mx < 0) = true := by simpa using hm
    obtain ⟨P1, hP1⟩ : ∃ P1, (a + 1) * X = P1 := ⟨_, rfl⟩
    have hb1 : P1 <= 1200000000000000 := by rw [<- hP1]; exact xdq _ X (by omega) (by omega)
    have hw0 : IntKind.i64.wrap ((a : Int) + 1) = (a : Int) + 1 := IntWalk.i64_in _ (by omega)
    have hw1 : IntKind.i64.wrap (((a : Int) + 1) * (X : Int)) = (P1 : Int) := by
     rw [show ((a : Int) + 1) * (X : Int) = (P1 : Int) by rw [<- hP1]; push_cast; rfl]
     exact IntWalk.i64_in _ (by omega)
    have hm2 := fun W => xgR W ((P1 : Int) + 2) 1099511627776
    have HE : Hid ((if (1099511627776 : Int) < (P1 : Int) + 2 then (1099511627776 : Int) else (P1 : Int) + 2) = (xat ((a + 1) * S + 2) : Nat)) := xa (by
     have hc := xmk (a + 1) S 2 (by omega)
     rw [HX.out, hP1] at hc
     rw [hc]
     exact min_eq2 P1)
    obtain ⟨Z, hZ⟩ : ∃ Z, (if (1099511627776 : Int) < (P1 : Int) + 2 then (1099511627776 : Int) else (P1 : Int) + 2) = Z := ⟨_, rfl⟩
    rw [hZ] at hm2 HE
    clear hZ hP1
    go_wp2
    go_ret
    exact ⟨by rw [HE.out, <- HSS.out]; simp [hm], KE.out⟩
  have g1 : decide (mx < 0) = false := by simpa using hm
  obtain ⟨d, rfl⟩ : ∃ d : Nat, mx = (a : Int) + (d : Int) := ⟨(mx - a).toNat, by omega⟩
  obtain ⟨P1, hP1⟩ : ∃ P1, a * X = P1 := ⟨_, rfl⟩
  obtain ⟨P2, hP2⟩ : ∃ P2, d * (X + 1) = P2 := ⟨_, rfl⟩
  have hb1 : P1 <= 1200000000000000 := by rw [<- hP1]; exact xdq _ X (by omega) (by omega)
  have hb2 : P2 <= 1200000000000000 := by rw [<- hP2]; exact xdq _ _ (by omega) (by omega)
  have hw1 : IntKind.i64.wrap ((a : Int) * (X : Int)) = (P1 : Int) := by
   rw [show (a : Int) * (X : Int) = (P1 : Int) by rw [<- hP1]; push_cast; rfl]
   exact IntWalk.i64_in _ (by omega)
  have hsub : (a : Int) + (d : Int) - (a : Int) = (d : Int) := by omega
  have hw2 : wrap64 (((a : Int) + (d : Int) - (a : Int)) * ((X : Int) + 1)) = (P2 : Int) := by
   rw [hsub, show (d : Int) * ((X : Int) + 1) = (P2 : Int) by rw [<- hP2]; push_cast; rfl]
   unfold wrap64
   omega
  clear hsub
  have hm2 := fun W => xgR W ((P1 : Int) + (P2 : Int)) 1099511627776
  have HE : Hid ((if (1099511627776 : Int) < (P1 : Int) + (P2 : Int) then (1099511627776 : Int) else (P1 : Int) + (P2 : Int)) = (xat (a * S + d * (S + 1)) : Nat)) := xa (by
   have hc := xja a d S
   rw [HX.out, hP1, hP2] at hc
   rw [hc]
   exact min_eqp P1 P2)
  obtain ⟨Z, hZ⟩ : ∃ Z, (if (1099511627776 : Int) < (P1 : Int) + (P2 : Int) then (1099511627776 : Int) else (P1 : Int) + (P2 : Int)) = Z := ⟨_, rfl⟩
  rw [hZ] at hm2 HE
  have hd1 : ((a : Int) + (d : Int) - (a : Int)).toNat = d /\ ((a : Int) + (d : Int)).toNat - a = d := by omega
  have HD := xa hd1
  clear hZ hP1 hP2 hd1
  go_wp2
  go_ret
  exact ⟨by rw [HE.out, <- HSS.out]; simp [hm, HD.out.1, HD.out.2], KE.out⟩
theorem MkAt.empty {mb : Nat} {B : Nat -> Prop} {w : World} (h : w.heap[mb]? = some (.cells #[.slice none 0 0] 193 (0, 0))) : MkAt B w mb [] :=
 ⟨_, [], h, ⟨World.ownsRow_nil _ _ _ _, fun b e => by simp [Value.ownBlock] at e⟩, rfl, fun k iv i a b => by simp at a⟩
structure PgAt (w : World) (P : Nat -> Prop) (v : Value) (is : List Ins) : Prop where
 row : ∃ ivs, SlOf 4 encP w v ivs /\ ivs.length = is.length /\ ∀ (k : Nat) (iv : IV) (i : Ins), ivs[k]? = some iv -> is[k]? = some i -> InAt w P iv i
 blk : ∀ b, v.ownBlock = some b -> P b
theorem PgAt.keepsTo {S P Q : Nat -> Prop} {w w' : World} {v : Value} {is : List Ins} (h : PgAt w P v is) (K : xaa S w w') (hs : ∀ b, P b -> ¬ S b) (hq : ∀ b, P b -> Q b) : PgAt w' Q v is := by
 obtain ⟨⟨ivs, h1, h2, h3⟩, h4⟩ := h
 exact ⟨⟨ivs, h1.keeps K (fun b hb => hs b (h4 b hb)), h2, fun k iv i a b => (h3 k iv i a b).keepsTo K hs hq⟩, fun b hb => hq b (h4 b hb)⟩
theorem MkAt.pg {B : Nat -> Prop} {mb : Nat} {w : World} {is : List Ins} {v : Value} (h : MkAt B w mb is) (hc : w.cell? ⟨mb, 0, none⟩ = some v) (hn : is.length <= 4000) : PgAt w (fun b => B b /\ b < w.heap.size) v is := by
 obtain ⟨v', ivs, h1, ⟨h2, h5⟩, h3, h4⟩ := h
 have e : v' = v := by
  rw [Lib.cell_of_heap h1] at hc
  simpa using hc
 subst e
 exact ⟨⟨ivs, SlOf.ofOwn (by rw [h3]; exact h2) (by omega), h3, fun k iv i a b => (h4 k iv i a b).keepsTo (xaa.refl (fun _ => False) _) (fun _ _ => id) (fun b hb => ⟨hb.1, hb.2.1⟩)⟩, fun b hb => ⟨h5 b hb, xaM h2 b hb⟩⟩
def NodeE (t : T) (is : List Ins) : Prop := ∀ (P : Nat -> Prop) (v : NV) (w0 w : World) (mb : Nat), TAt w0 P v t -> KF w0 w -> w0.heap.size <= mb -> mb < w.heap.size -> w.heap[mb]? = some (.cells #[.slice none 0 0] 193 (0, 0)) ->
 Calls prog 73 #[.pointer (some ⟨mb, 0, none⟩), v.val] w fun e w' => e = .returned (.tuple #[]) /\ MkAt (fun b => mb < b) w' mb is /\ xaa (fun b => b = mb \/ mb < b) w w'
theorem xbS.empty {t : T} {c : Nat -> List Ins} {n : Nat} (h : xbS t c n) (hn : n <= 2500) : NodeE t (c 0) := fun P v w0 w mb ht k0 h1 h2 h3 => by
 have := h.run P (fun b => mb < b) v w0 w mb [] ht k0 h1 (by omega) (fun b hb => by omega) (fun b hb => by omega) (by simpa using hn) (MkAt.empty h3)
 simpa [NdE] using this
def mI : Ins := ⟨0, [], 0, 0⟩
def CoE (w : World) (is : List Ins) (e : Ending) (w' : World) : Prop := ∃ v, e = .returned (.tuple #[v, .int .i64 0]) /\ PgAt w' (fun b => w.heap.size <= b /\ b < w'.heap.size) v is /\ KF w w'
theorem xh8 (t : T) (n : Nat) (is : List Ins) (hl : LenC t n) (hn : n < 2000) (hN : NodeE t is) (his : is.length <= 2500) (P : Nat -> Prop) (v : NV) (w : World) (ht : TAt w P v t) :
 Calls prog 60 #[v.val] w fun e w' => CoE w (is ++ [mI]) e w' := by
 obtain ⟨i0, hi0, hz0, hz1, hz2⟩ := info_parts xg4
 obtain ⟨a1, n1, c1, a2, c2, e1, e2, _, _⟩ := ht.krow
 have HL := xa (fun W (K : KF w W) => hl P v W (ht.keepsTo K (fun _ _ => id) (fun _ h => h)))
 have HN := xa (fun W mb (K : KF w W) h1 h2 h3 => hN P v w W mb ht K h1 h2 h3)
 obtain ⟨vo, vsv, vm, vx, vk⟩ := v
 obtain rfl := e1
 obtain rfl := e2
 have g0 : decide ((2000 : Int) <= (n : Int)) = false := by simp; omega
 unfold NV.val at HL HN
 clear ht hl hN
 generalize t.kids.toL.length = KL at *
 show Calls prog 60 #[.agg #[.int .i64 vo, .slice a1 n1 c1, .int .i64 vm, .int .i64 vx, .slice a2 KL c2]] w _
 go_enter func60, ntmps60
 go_wp2_with fail
 refine (HL.out _ (KI.out)).mono ?_
 rintro e w2 ⟨rfl, k2⟩
 have z0 : w2.cell? ⟨w.heap.size, 0, none⟩ = some (.int .i64 vo) := k2.cell (by simp [go_sem]) id
 have z1 : w2.cell? ⟨w.heap.size, 1, none⟩ = some (.slice a1 n1 c1) := k2.cell (by simp [go_sem]) id
 have z2 : w2.cell? ⟨w.heap.size, 2, none⟩ = some (.int .i64 vm) := k2.cell (by simp [go_sem]) id
 have z3 : w2.cell? ⟨w.heap.size, 3, none⟩ = some (.int .i64 vx) := k2.cell (by simp [go_sem]) id
 have z4 : w2.cell? ⟨w.heap.size, 4, none⟩ = some (.slice a2 KL c2) := k2.cell (by simp [go_sem]) id
 have K2 : Hid (KF w w2) := xa (xaa.trans (KI.out) k2)
 have hs2 : w.heap.size < w2.heap.size := xal z0
 have z0 := xaf z0 (.cells #[.slice none 0 0] 193)
 have z1 := xaf z1 (.cells #[.slice none 0 0] 193)
 have z2 := xaf z2 (.cells #[.slice none 0 0] 193)
 have z3 := xaf z3 (.cells #[.slice none 0 0] 193)
 have z4 := xaf z4 (.cells #[.slice none 0 0] 193)
 have Hs2 := xa hs2
 clear k2 hs2
 go_wp2_with fail
 refine (HN.out _ w2.heap.size (K2.out.alloc _) (by have := Hs2.out; omega) (by simp) (heap_alloc_new w2 _)).mono ?_
 rintro e w3 ⟨rfl, hM, k3⟩
 obtain ⟨u, ivs, hbk, ⟨hown, hvB⟩, hlen, hin⟩ := hM
 obtain ⟨va, vc, rfl⟩ := xad hown
 have c0 : w3.cell? ⟨w2.heap.size, 0, none⟩ = some (.slice va is.length vc) := by rw [Lib.cell_of_heap hbk]; rfl
 have f0 : w3.frozen? ⟨w2.heap.size, 0, none⟩ = false := Lib.frozen_of_heap hbk 0
 have hs3 := k3.size
 simp at hs3
 have hvm : (Value.slice va is.length vc).ownBlock ≠ some w2.heap.size := fun e => by have := hvB _ e; omega
 have KW3 : Hid (KF w w3) := xa ((K2.out.alloc _).trans2 k3 (fun b hb e => by have := Hs2.out; omega))
 have HO := xa hown
 have HVB := xa hvB
 have HBK := xa hbk
 have HIN := xa hin
 have c0a := xaf c0 (.cells #[.int .i64 0, .slice none 0 0, .int .i64 0, .int .i64 0] 196)
 have hs3' : w2.heap.size < w3.heap.size := by omega
 clear hbk hown hin hvB k3 z0 z1 z2 z3 z4 HN
 go_wp2_with (at_builtin; refine wpList_append_lies _ rfl (.tmp 17) (.tmp 19) 159 rfl 0 196 i0 _ 4 48 underlying159 hi0 hz0 hz1 hz2 rfl (by decide) _ is.length (cellsOf 4 encP ivs) rfl (xac HO.out _) ⟨w3.heap.size, 0, none⟩ 1 1 [.int .i64 0, .slice none 0 0, .int .i64 0, .int .i64 0] rfl rfl (by exact xaq w3 [_, _, _, _] _) (by simp [Value.oneCell']) (by decide) (by unfold maxLen; omega) (by omega) (Nat.zero_le _) _ rfl ?_)
 intro g cap w4 hown4 hgrow4 hat4 hlt4
 have c4 : w4.cell? ⟨w2.heap.size, 0, none⟩ = some (.slice va is.length vc) := (hgrow4.cell_far ⟨w2.heap.size, 0, none⟩ (by simp; omega) (fun e => hvm e.symm)).trans c0a
 have f4 : w4.frozen? ⟨w2.heap.size, 0, none⟩ = false := (hgrow4.frozen_far ⟨w2.heap.size, 0, none⟩ (by simp; omega) (fun e => hvm e.symm)).trans (((xaa.refl (fun _ => False) w3).alloc _).frozen f0 (by show w2.heap.size < w3.heap.size; omega) id)
 have hP := MkAt.push (wA := w3.alloc (.cells #[.int .i64 0, .slice none 0 0, .int .i64 0, .int .i64 0] 196)) (i := mI) (iv := ⟨0, .slice none 0 0, 0, 0⟩) HBK.out HO.out HVB.out hlen HIN.out (Nat.lt_irrefl _) hs3' (fun b hb => by omega) (xaa.refl _ _) ((xaa.refl _ _).alloc _) ⟨rfl, rfl, rfl, xet _, fun b hb => by simp [Value.ownBlock] at hb⟩ hown4 hgrow4 hat4 (by simp)
 have HP := xa hP
 have hcc : (w4.setCell ⟨w2.heap.size, 0, none⟩ (.slice (some ⟨g, 0, none⟩) (is.length + 1) cap)).cell? ⟨w2.heap.size, 0, none⟩ = some (.slice (some ⟨g, 0, none⟩) (is.length + 1) cap) := xaw c4
 have HPG := xa (hP.1.pg hcc (by simp; omega))
 have KE : Hid (KF w (w4.setCell ⟨w2.heap.size, 0, none⟩ (.slice (some ⟨g, 0, none⟩) (is.length + 1) cap))) := xa (KW3.out.trans2 hP.2 (fun b hb e => by have := Hs2.out; omega))
 clear hP hown4 hgrow4 hat4 c0a c0 f0
 go_wp2
 go_ret2
 exact ⟨_, rfl, HPG.out.keepsTo (xaa.refl (fun _ => False) _) (fun _ _ => id) (fun b hb => ⟨by have := hb.1; have := Hs2.out; omega, hb.2⟩), KE.out⟩
theorem PgAt.form {w : World} {P : Nat -> Prop} {v : Value} {is : List Ins} (h : PgAt w P v is) : ∃ a c, v = .slice a is.length c := by
 obtain ⟨⟨ivs, ⟨a, c, e1, _⟩, hlen, _⟩, _⟩ := h
 exact ⟨a, c, by rw [e1, hlen]⟩
theorem xip : ∀ (q : List Cd), sumN q = xax (q.map (·.2))
 | [] => rfl
 | p :: r => by rw [sumN, xip r]; rfl
theorem xjf : ∀ (q : List Cd), 0 < q.length -> altN q = xax (q.map (·.2)) + 2 * (q.length - 1)
 | [], h => by simp at h
 | [p], _ => by simp [altN, xax]
 | p :: p2 :: r, _ => by
  rw [altN, xjf (p2 :: r) (by simp)]
  simp only [List.map_cons, xax, List.length_cons]; omega
theorem xfi (p : Cd) : ∀ k, xbf p k = k * p.2
 | 0 => by simp [xbf]
 | k + 1 => by rw [xbf, xfi p k, Nat.add_mul]; omega
theorem xiI (p : Cd) : ∀ k, optN p k = k * (p.2 + 1)
 | 0 => by simp [optN]
 | k + 1 => by rw [optN, xiI p k, Nat.add_mul]; omega
theorem xfy (q : List Cd) (i n : Nat) (h : (q.map (·.2))[i]? = some n) : ∃ p, q[i]? = some p /\ p.2 = n := by
 rw [List.getElem?_map, Option.map_eq_some_iff] at h
 exact h
theorem xkH {t : T} (h : WGn t) (q : List Cd) (hq : q.length = t.kids.toL.length) (hn : ∀ (i : Nat) (k : T) (p : Cd), t.kids.toL[i]? = some k -> q[i]? = some p -> xbS k p.1 p.2) : ∃ c n, xbS t c n /\ lenOf t (xax (q.map (·.2))) = n := by
 obtain ⟨⟨hs, _⟩, ho | ho | ho | ho | ho | ⟨ho, h5⟩ | ⟨ho, ⟨k, hk1⟩, h6, h7, h8⟩⟩ := h
 all_goals unfold lenOf
 · exact ⟨_, 0, xly t ho, by rw [if_pos ho]⟩
 · exact ⟨_, 1, xlz t ho hs, by rw [if_neg (by omega), if_neg (by omega), if_neg (by omega), if_neg (by omega)]⟩
 · exact ⟨_, 1, xjV t ho, by rw [if_neg (by omega), if_neg (by omega), if_neg (by omega), if_neg (by omega)]⟩
 · exact ⟨_, 1, xng t ho, by rw [if_neg (by omega), if_neg (by omega), if_neg (by omega), if_neg (by omega)]⟩
 · exact ⟨_, _, xnh t q ho hq hn, by rw [if_neg (by omega), if_pos ho, <- xip]⟩
 · exact ⟨_, _, xni t q ho h5 hq hn, by rw [if_neg (by omega), if_neg (by omega), if_pos ho, <- hq, <- xjf q (by omega)]⟩
 rw [hk1] at hq hn
 obtain ⟨p, rfl⟩ : ∃ p, q = [p] := by
  rcases q with _ | ⟨p, _ | ⟨p2, r⟩⟩
  · simp at hq
  · exact ⟨p, rfl⟩
  simp at hq
 have hp := hn 0 k p rfl rfl
 refine ⟨_, _, xnf t k p ho hk1 h6 h7 h8 hp, ?_⟩
 rw [if_neg (by omega), if_neg (by omega), if_neg (by omega), if_pos ho]
 have e : xax (List.map (fun x => x.2) [p]) = p.2 := by simp [xax]
 rw [e]
 unfold repN
 rw [xfi, xiI]
 by_cases hm : t.mx < 0
 · rw [if_pos hm, if_pos hm, show t.mn.toNat * p.2 + (p.2 + 2) = (t.mn.toNat + 1) * p.2 + 2 by rw [Nat.add_mul]; omega]
 rw [if_neg hm, if_neg hm, show t.mx.toNat - t.mn.toNat = (t.mx - t.mn).toNat by omega]
theorem LenG.exact {t : T} {n : Nat} (h : LenG t n) (hn : n < 2000) : LenC t n := fun P v w ht => by
 have := h P v w ht
 rwa [show xat n = n by unfold xat; omega] at this
theorem xh7 (t : T) (n : Nat) (hl : LenG t n) (hn : 2000 <= n) (P : Nat -> Prop) (v : NV) (w : World) (ht : TAt w P v t) :
 Calls prog 60 #[v.val] w fun e w' => e = .returned (.tuple #[.slice none 0 0, .int .i64 16]) /\ KF w w' := by
 obtain ⟨a1, n1, c1, a2, c2, e1, e2, _, _⟩ := ht.krow
 have HL := xa (fun W (K : KF w W) => hl P v W (ht.keepsTo K (fun _ _ => id) (fun _ h => h)))
 obtain ⟨vo, vsv, vm, vx, vk⟩ := v
 obtain rfl := e1
 obtain rfl := e2
 have hc : 2000 <= xat n := by unfold xat; omega
 generalize xat n = X at *
 have g0 : decide ((2000 : Int) <= (X : Int)) = true := by simp; omega
 unfold NV.val at HL
 clear ht hl
 generalize t.kids.toL.length = KL at *
 show Calls prog 60 #[.agg #[.int .i64 vo, .slice a1 n1 c1, .int .i64 vm, .int .i64 vx, .slice a2 KL c2]] w _
 go_enter func60, ntmps60
 go_wp2_with fail
 refine (HL.out _ (KI.out)).mono ?_
 rintro e w2 ⟨rfl, k2⟩
 have K2 : Hid (KF w w2) := xa (xaa.trans (KI.out) k2)
 clear k2
 go_wp2
 go_ret2
 exact ⟨rfl, K2.out⟩
def xhu (t : T) (n : Nat) : Prop := ∀ (P : Nat -> Prop) (v : NV) (w : World), TAt w P v t -> Calls prog 45 #[v.val] w fun e w' => e = .returned (.int .i64 (n : Int)) /\ KF w w'
def xhv (t : T) (n : Nat) : Prop := ∀ (P : Nat -> Prop) (v : NV) (w : World), TAt w P v t -> Calls prog 25 #[v.val] w fun e w' => e = .returned (.int .i64 (n : Int)) /\ KF w w'
theorem xeL : ∀ (q : List Nat) (B : Nat), (∀ n ∈ q, n <= B) -> xax q <= q.length * B
 | [], B, _ => by simp [xax]
 | n :: r, B, h => by
  have h1 := h n (by simp)
  have h2 := xeL r B (fun m hm => h m (by simp [hm]))
  rw [xax, List.length_cons, Nat.add_mul]; omega
theorem xfz (q : List Nat) (i : Nat) (hB : ∀ n ∈ q, n <= 1099511627776) (hl : q.length <= 4000) : xax (q.take i) <= 4398046511104000 := by
 have h1 := xeL (q.take i) 1099511627776 (fun n hn => hB n (List.mem_of_mem_take hn))
 have h2 : (q.take i).length <= 4000 := by rw [List.length_take]; omega
 have h3 : (q.take i).length * 1099511627776 <= 4000 * 1099511627776 := Nat.mul_le_mul_right _ h2
 omega
def xgA (t : T) (S : Nat) : Nat := if t.op = 0 then 0 else if t.op = 4 then min S 1099511627776 else if t.op = 5 then min (S + 2 * t.kids.toL.length - 2) 1099511627776 else if t.op = 6 then (if t.mx < 0 then min (t.mn.toNat * S + (S + 2)) 1099511627776 else min (t.mn.toNat * S + (t.mx - t.mn).toNat * (S + 1)) 1099511627776) else 1
def RleR (L : List T) (q : List Nat) (w : World) (iv av : Value) (wr : World) : Prop := ∃ i : Nat, iv = .int .i64 i /\ i <= L.length /\ av = .int .i64 (xax (q.take i) : Nat) /\ KF w wr
theorem xmQ (t : T) (q : List Nat) (hW : WGn t) (hq : q.length = t.kids.toL.length) (hB : ∀ n ∈ q, n <= 1099511627776) (ih : ∀ (i : Nat) (k : T) (n : Nat), t.kids.toL[i]? = some k -> q[i]? = some n -> xhu k n) : xgA t (xax q) <= 1099511627776 /\ xhu t (xgA t (xax q)) := by
 obtain ⟨⟨_, hL4⟩, hops⟩ := hW
 have hS0 : xax q <= 4398046511104000 := by have := xfz q q.length hB (by omega); rwa [List.take_length] at this
 have hS6 : t.op = 6 -> xax q <= 1099511627776 := fun h6 => by
  have h1 : q.length = 1 := by
   rcases hops with h | h | h | h | h | ⟨h, _⟩ | ⟨_, ⟨k, hk⟩, _⟩
   all_goals first | omega | (rw [hq, hk]; rfl)
  have := xeL q 1099511627776 hB
  rw [h1] at this; omega
 have HOps : Hid (t.op = 0 \/ t.op = 1 \/ t.op = 2 \/ t.op = 3 \/ t.op = 4 \/ (t.op = 5 /\ 0 < t.kids.toL.length) \/ (t.op = 6 /\ (0 <= t.mn /\ t.mn <= 1000) /\ (-1 <= t.mx /\ t.mx <= 1000) /\ (t.mx < 0 \/ t.mn <= t.mx))) := xa (by
  rcases hops with h | h | h | h | h | h | ⟨h, _, h2, h3, h4⟩
  · exact Or.inl h
  · exact Or.inr (Or.inl h)
  · exact Or.inr (Or.inr (Or.inl h))
  · exact Or.inr (Or.inr (Or.inr (Or.inl h)))
  · exact Or.inr (Or.inr (Or.inr (Or.inr (Or.inl h))))
  · exact Or.inr (Or.inr (Or.inr (Or.inr (Or.inr (Or.inl h)))))
  exact Or.inr (Or.inr (Or.inr (Or.inr (Or.inr (Or.inr ⟨h, h2, h3, h4⟩))))))
 obtain ⟨S, hS⟩ : ∃ S, xax q = S := ⟨_, rfl⟩
 have hS' := hS
 rw [hS] at hS0 hS6
 have HSS := xa hS
 have HS6 := xa hS6
 have HBq := xa (fun i => xfz q i hB (by omega))
 have HB := xa hB
 have HQ := xa hq
 have IH := xa ih
 clear hops hS hS6 hB hq ih
 rw [hS']
 unfold xgA
 refine ⟨?_, ?_⟩
 · split; omega
   split; omega
   split; omega
   split
   · split <;> omega
   omega
 intro P v w ht
 obtain ⟨a1, n1, c1, a2, c2, e1, e2, hl, hc⟩ := ht.krow
 have o1 : v.op = t.op := ht.op
 have o2 : v.mn = t.mn := ht.mn
 have o3 : v.mx = t.mx := ht.mx
 obtain ⟨vo, vsv, vm, vx, vk⟩ := v
 obtain rfl := e1
 obtain rfl := e2
 simp only at o1 o2 o3
 subst o1
 subst o2
 subst o3
 generalize t.op = op at *
 generalize t.mn = mn at *
 generalize t.mx = mx at *
 generalize t.kids.toL = L at *
 have HC := xa hc
 clear hl hc ht
 show Calls prog 45 #[.agg #[.int .i64 op, .slice a1 n1 c1, .int .i64 mn, .int .i64 mx, .slice a2 L.length c2]] w _
 go_enter func45, ntmps45
 go_wp2_with fail
 obtain ⟨wb, hwb⟩ : ∃ W, W = w.alloc (.cells #[.int .i64 op, .slice a1 n1 c1, .int .i64 mn, .int .i64 mx, .slice a2 L.length c2] 73) := ⟨_, rfl⟩
 have hKB : KF w wb := by rw [hwb]; exact (xaa.refl _ _).alloc _
 have b0 : wb.cell? ⟨w.heap.size, 0, none⟩ = some (.int .i64 op) := by rw [hwb]; simp [go_sem]
 have b2 : wb.cell? ⟨w.heap.size, 2, none⟩ = some (.int .i64 mn) := by rw [hwb]; simp [go_sem]
 have b3 : wb.cell? ⟨w.heap.size, 3, none⟩ = some (.int .i64 mx) := by rw [hwb]; simp [go_sem]
 have b4 : wb.cell? ⟨w.heap.size, 4, none⟩ = some (.slice a2 L.length c2) := by rw [hwb]; simp [go_sem]
 rw [<- hwb]
 clear hwb
 have KB := xa hKB
 have B0 := xa b0
 have B2 := xa b2
 have B3 := xa b3
 have B4 := xa b4
 clear hKB b0 b2 b3 b4
 go_loopw [4, 3] (fun iv av wr => RleR L q wb iv av wr) (fun iv _ _ => L.length - (intOf iv).toNat)
 case atStart => exact ⟨0, rfl, Nat.zero_le _, by rw [List.take_zero]; rfl, xaa.refl _ _⟩
 case round =>
  obtain ⟨i, rfl, hi, rfl, hk⟩ := hrel
  have K := xa hk
  clear hk
  by_cases hil : i < L.length
  · obtain ⟨k, hki⟩ : ∃ k, L[i]? = some k := ⟨_, List.getElem?_eq_getElem hil⟩
    obtain ⟨n, hni⟩ : ∃ n, q[i]? = some n := ⟨_, List.getElem?_eq_getElem (by rw [HQ.out]; exact hil)⟩
    obtain ⟨b, off, uo, d1, f1, g1, um, ux, d2, f2, g2, rfl, hu, hlt, x0, x1, x2, x3, x4⟩ := (HC.out.keep (KB.out.trans K.out)).at hki
    have HS : Hid (∀ W, KF wr W -> Calls prog 45 #[.agg #[.int .i64 uo, .slice d1 f1 g1, .int .i64 um, .int .i64 ux, .slice d2 f2 g2]] W fun e w' => e = .returned (.int .i64 (n : Int)) /\ KF W w') := xa (fun W kW =>
     IH.out i k n hki hni P ⟨uo, .slice d1 f1 g1, um, ux, .slice d2 f2 g2⟩ W (hu.keepsTo kW (fun _ _ => id) (fun _ h => h)))
    have hS1 := xc1 hni
    have q1 := HBq.out i
    have q2 : n <= 1099511627776 := HB.out n (List.mem_of_getElem? hni)
    have b4 := K.out.cell B4.out id
    generalize xax (q.take i) = X at *
    have HZ := xa hS1
    clear hki hu hni hS1
    have hw0 : IntKind.i64.wrap ((X : Int) + (n : Int)) = (X : Int) + (n : Int) := IntWalk.i64_in _ (by omega)
    go_wp2_with fail
    refine (HS.out _ (KI.out)).mono ?_
    rintro e w2 ⟨rfl, k2⟩
    have K2 : Hid (KF wb w2) := xa (K.out.trans (xaa.trans (KI.out) k2))
    clear k2
    go_wp2
    go_roundw
    case rel => exact ⟨i + 1, by go_num, by omega, by rw [HZ.out]; push_cast; rfl, K2.out⟩
    case measure => simp [intOf]; omega
  have he : i = L.length := by omega
  subst he
  have b0 := K.out.cell B0.out id
  have b2 := K.out.cell B2.out id
  have b3 := K.out.cell B3.out id
  have b4 := K.out.cell B4.out id
  have hsz : w.heap.size < wr.heap.size := xal b0
  have KE := xa (KB.out.trans K.out)
  rw [List.take_of_length_le (by rw [HQ.out]; exact Nat.le_refl _), HSS.out]
  clear K B0 B2 B3 B4 KB
  rcases HOps.out with rfl | rfl | rfl | rfl | rfl | ⟨rfl, h5⟩ | ⟨rfl, h6, h7, h8⟩
  · go_wp2
    go_ret
    exact ⟨by simp, KE.out⟩
  · go_wp2
    go_ret
    exact ⟨by simp, KE.out⟩
  · go_wp2
    go_ret
    exact ⟨by simp, KE.out⟩
  · go_wp2
    go_ret
    exact ⟨by simp, KE.out⟩
  · by_cases hb : 1099511627776 < S
    · have g1 : decide ((1099511627776 : Int) < (S : Int)) = true := by simp; omega
      have HE : Hid (min S 1099511627776 = 1099511627776) := xa (Nat.min_eq_right (Nat.le_of_lt hb))
      go_wp2
      go_ret
      exact ⟨by simp [HE.out], KE.out⟩
    have g1 : decide ((1099511627776 : Int) < (S : Int)) = false := by simp; omega
    have HE : Hid (min S 1099511627776 = S) := xa (Nat.min_eq_left (Nat.not_lt.1 hb))
    go_wp2
    go_ret
    exact ⟨by simp [HE.out], KE.out⟩
  · by_cases hb : 1099511627776 < S + 2 * L.length - 2
    · have g1 : decide ((1099511627776 : Int) < (S : Int) + 2 * (L.length : Int) - 2) = true := by simp; omega
      have HE : Hid (min (S + 2 * L.length - 2) 1099511627776 = 1099511627776) := xa (Nat.min_eq_right (Nat.le_of_lt hb))
      go_wp2
      go_ret
      exact ⟨by simp [HE.out], KE.out⟩
    have g1 : decide ((1099511627776 : Int) < (S : Int) + 2 * (L.length : Int) - 2) = false := by simp; omega
    have HE : Hid (min (S + 2 * L.length - 2) 1099511627776 = (S + 2 * L.length - 2)) := xa (Nat.min_eq_left (Nat.not_lt.1 hb))
    go_wp2
    go_ret
    exact ⟨by simp [HE.out]; omega, KE.out⟩
  obtain ⟨a, rfl⟩ : ∃ a : Nat, mn = (a : Int) := ⟨mn.toNat, by omega⟩
  have hS6 : S <= 1099511627776 := HS6.out rfl
  by_cases hm : mx < 0
  · have g1 : decide (mx < 0) = true := by simpa using hm
    obtain rfl : mx = -1 := by omega
    obtain ⟨P1, hP1⟩ : ∃ P1, a * S = P1 := ⟨_, rfl⟩
    obtain ⟨P2, hP2⟩ : ∃ P2, (1 + a) * (S + 1) = P2 := ⟨_, rfl⟩
    have hb1 : P1 <= 1200000000000000 := by rw [<- hP1]; exact xdq _ S (by omega) (by omega)
    have hb2 : P2 <= 1200000000000000 := by rw [<- hP2]; exact xdq _ _ (by omega) (by omega)
    have hw1 : IntKind.i64.wrap ((a : Int) * (S : Int)) = (P1 : Int) := by
     rw [show (a : Int) * (S : Int) = (P1 : Int) by rw [<- hP1]; push_cast; rfl]
     exact IntWalk.i64_in _ (by omega)
    have hw2 : wrap64 ((-1 - (a : Int)) * ((S : Int) + 1)) = - (P2 : Int) := by
     rw [show (-1 - (a : Int)) * ((S : Int) + 1) = - (P2 : Int) by rw [<- hP2]; push_cast; rw [<- Int.neg_mul]; congr 1; omega]
     unfold wrap64
     omega
    have HP1 := xa hP1
    clear hP1 hP2
    by_cases hb : 1099511627776 < P1 + (S + 2)
    · have g2 : decide ((1099511627776 : Int) < (P1 : Int) + ((S : Int) + 2)) = true := by simp; omega
      have HE : Hid (min (P1 + (S + 2)) 1099511627776 = 1099511627776) := xa (Nat.min_eq_right (Nat.le_of_lt hb))
      go_wp2
      go_ret
      exact ⟨by simp [HP1.out, HE.out], KE.out⟩
    have g2 : decide ((1099511627776 : Int) < (P1 : Int) + ((S : Int) + 2)) = false := by simp; omega
    have HE : Hid (min (P1 + (S + 2)) 1099511627776 = (P1 + (S + 2))) := xa (Nat.min_eq_left (Nat.not_lt.1 hb))
    go_wp2
    go_ret
    exact ⟨by simp [HP1.out, HE.out], KE.out⟩
  have g1 : decide (mx < 0) = false := by simpa using hm
  obtain ⟨d, rfl⟩ : ∃ d : Nat, mx = (a : Int) + (d : Int) := ⟨(mx - a).toNat, by omega⟩
  obtain ⟨P1, hP1⟩ : ∃ P1, a * S = P1 := ⟨_, rfl⟩
  obtain ⟨P2, hP2⟩ : ∃ P2, d * (S + 1) = P2 := ⟨_, rfl⟩
  have hb1 : P1 <= 1200000000000000 := by rw [<- hP1]; exact xdq _ S (by omega) (by omega)
  have hb2 : P2 <= 1200000000000000 := by rw [<- hP2]; exact xdq _ _ (by omega) (by omega)
  have hw1 : IntKind.i64.wrap ((a : Int) * (S : Int)) = (P1 : Int) := by
   rw [show (a : Int) * (S : Int) = (P1 : Int) by rw [<- hP1]; push_cast; rfl]
   exact IntWalk.i64_in _ (by omega)
  have hsub : (a : Int) + (d : Int) - (a : Int) = (d : Int) := by omega
  have hw2 : wrap64 (((a : Int) + (d : Int) - (a : Int)) * ((S : Int) + 1)) = (P2 : Int) := by
   rw [hsub, show (d : Int) * ((S : Int) + 1) = (P2 : Int) by rw [<- hP2]; push_cast; rfl]
   unfold wrap64
   omega
  have hd1 : ((a : Int) + (d : Int) - (a : Int)).toNat = d /\ ((a : Int) + (d : Int)).toNat - a = d := by omega
  have HD := xa hd1
  have HP := xa (And.intro hP1 hP2)
  clear hP1 hP2 hd1 hsub
  by_cases hb : 1099511627776 < P1 + P2
  · have g2 : decide ((1099511627776 : Int) < (P1 : Int) + (P2 : Int)) = true := by simp; omega
    have HE : Hid (min (P1 + P2) 1099511627776 = 1099511627776) := xa (Nat.min_eq_right (Nat.le_of_lt hb))
    go_wp2
    go_ret
    exact ⟨by simp [hm, HD.out.1, HD.out.2, HP.out.1, HP.out.2, HE.out], KE.out⟩
  have g2 : decide ((1099511627776 : Int) < (P1 : Int) + (P2 : Int)) = false := by simp; omega
  have HE : Hid (min (P1 + P2) 1099511627776 = (P1 + P2)) := xa (Nat.min_eq_left (Nat.not_lt.1 hb))
  go_wp2
  go_ret
  exact ⟨by simp [hm, HD.out.1, HD.out.2, HP.out.1, HP.out.2, HE.out], KE.out⟩
def RcoR (L : List T) (q : List Nat) (w : World) (iv av : Value) (wr : World) : Prop := ∃ i : Nat, iv = .int .i64 i /\ i <= L.length /\ av = .int .i64 (xat (1 + xax (q.take i)) : Nat) /\ KF w wr
theorem cap_add (x n : Nat) : (if (1099511627776 : Int) < (xat x : Int) + (n : Int) then (1099511627776 : Int) else (xat x : Int) + (n : Int)) = (xat (x + n) : Nat) := by
 unfold xat
 split <;> omega
theorem xmj (P : Nat) : (if (1099511627776 : Int) < (P : Int) then (1099511627776 : Int) else (P : Int)) = (xat P : Nat) := by
 unfold xat
 split <;> omega
theorem xmW (t : T) (q : List Nat) (hW : WGn t) (hq : q.length = t.kids.toL.length) (hB : ∀ n ∈ q, n <= 1099511627776) (ih : ∀ (i : Nat) (k : T) (n : Nat), t.kids.toL[i]? = some k -> q[i]? = some n -> xhv k n) : ∃ n : Nat, n <= 1099511627776 /\ xhv t n := by
 obtain ⟨⟨_, hL4⟩, hops⟩ := hW
 have HOps : Hid (t.op = 0 \/ t.op = 1 \/ t.op = 2 \/ t.op = 3 \/ t.op = 4 \/ (t.op = 5 /\ 0 < t.kids.toL.length) \/ (t.op = 6 /\ (0 <= t.mn /\ t.mn <= 1000) /\ (-1 <= t.mx /\ t.mx <= 1000) /\ (t.mx < 0 \/ t.mn <= t.mx))) := xa (by
  rcases hops with h | h | h | h | h | h | ⟨h, _, h2, h3, h4⟩
  · exact Or.inl h
  · exact Or.inr (Or.inl h)
  · exact Or.inr (Or.inr (Or.inl h))
  · exact Or.inr (Or.inr (Or.inr (Or.inl h)))
  · exact Or.inr (Or.inr (Or.inr (Or.inr (Or.inl h))))
  · exact Or.inr (Or.inr (Or.inr (Or.inr (Or.inr (Or.inl h)))))
  exact Or.inr (Or.inr (Or.inr (Or.inr (Or.inr (Or.inr ⟨h, h2, h3, h4⟩))))))
 obtain ⟨S, hS⟩ : ∃ S, xat (1 + xax q) = S := ⟨_, rfl⟩
 have hS0 : S <= 1099511627776 := by rw [<- hS]; exact xbY _
 have HSS := xa hS
 have HB := xa hB
 have HQ := xa hq
 have IH := xa ih
 clear hops hS hB hq ih
 refine ⟨if t.op = 6 then (if t.mn + 1 < t.mx then xat (S * t.mx.toNat) else xat (S * (t.mn.toNat + 1))) else S, ?_, ?_⟩
 · split
   · split <;> exact xbY _
   exact hS0
 intro P v w ht
 obtain ⟨a1, n1, c1, a2, c2, e1, e2, hl, hc⟩ := ht.krow
 have o1 : v.op = t.op := ht.op
 have o2 : v.mn = t.mn := ht.mn
 have o3 : v.mx = t.mx := ht.mx
 obtain ⟨vo, vsv, vm, vx, vk⟩ := v
 obtain rfl := e1
 obtain rfl := e2
 simp only at o1 o2 o3
 subst o1
 subst o2
 subst o3
 generalize t.op = op at *
 generalize t.mn = mn at *
 generalize t.mx = mx at *
 generalize t.kids.toL = L at *
 have HC := xa hc
 clear hl hc ht
 show Calls prog 25 #[.agg #[.int .i64 op, .slice a1 n1 c1, .int .i64 mn, .int .i64 mx, .slice a2 L.length c2]] w _
 go_enter func25, ntmps25
 go_wp2_with fail
 obtain ⟨wb, hwb⟩ : ∃ W, W = w.alloc (.cells #[.int .i64 op, .slice a1 n1 c1, .int .i64 mn, .int .i64 mx, .slice a2 L.length c2] 73) := ⟨_, rfl⟩
 have hKB : KF w wb := by rw [hwb]; exact (xaa.refl _ _).alloc _
 have b0 : wb.cell? ⟨w.heap.size, 0, none⟩ = some (.int .i64 op) := by rw [hwb]; simp [go_sem]
 have b2 : wb.cell? ⟨w.heap.size, 2, none⟩ = some (.int .i64 mn) := by rw [hwb]; simp [go_sem]
 have b3 : wb.cell? ⟨w.heap.size, 3, none⟩ = some (.int .i64 mx) := by rw [hwb]; simp [go_sem]
 have b4 : wb.cell? ⟨w.heap.size, 4, none⟩ = some (.slice a2 L.length c2) := by rw [hwb]; simp [go_sem]
 rw [<- hwb]
 clear hwb
 have KB := xa hKB
 have B0 := xa b0
 have B2 := xa b2
 have B3 := xa b3
 have B4 := xa b4
 clear hKB b0 b2 b3 b4
 go_loopw [4, 3] (fun iv av wr => RcoR L q wb iv av wr) (fun iv _ _ => L.length - (intOf iv).toNat)
 case atStart => exact ⟨0, rfl, Nat.zero_le _, by rw [List.take_zero]; rfl, xaa.refl _ _⟩
 case round =>
  obtain ⟨i, rfl, hi, rfl, hk⟩ := hrel
  have K := xa hk
  clear hk
  by_cases hil : i < L.length
  · obtain ⟨k, hki⟩ : ∃ k, L[i]? = some k := ⟨_, List.getElem?_eq_getElem hil⟩
    obtain ⟨n, hni⟩ : ∃ n, q[i]? = some n := ⟨_, List.getElem?_eq_getElem (by rw [HQ.out]; exact hil)⟩
    obtain ⟨b, off, uo, d1, f1, g1, um, ux, d2, f2, g2, rfl, hu, hlt, x0, x1, x2, x3, x4⟩ := (HC.out.keep (KB.out.trans K.out)).at hki
    have HS : Hid (∀ W, KF wr W -> Calls prog 25 #[.agg #[.int .i64 uo, .slice d1 f1 g1, .int .i64 um, .int .i64 ux, .slice d2 f2 g2]] W fun e w' => e = .returned (.int .i64 (n : Int)) /\ KF W w') := xa (fun W kW =>
     IH.out i k n hki hni P ⟨uo, .slice d1 f1 g1, um, ux, .slice d2 f2 g2⟩ W (hu.keepsTo kW (fun _ _ => id) (fun _ h => h)))
    have hS1 := xc1 hni
    have q1 := xbY (1 + xax (q.take i))
    have q2 : n <= 1099511627776 := HB.out n (List.mem_of_getElem? hni)
    have b4 := K.out.cell B4.out id
    have hz := cap_add (1 + xax (q.take i)) n
    rw [Nat.add_assoc, <- hS1] at hz
    have hm2 := fun W => xgR W ((xat (1 + xax (q.take i)) : Nat) + (n : Int)) 1099511627776
    generalize xat (1 + xax (q.take i)) = X at *
    obtain ⟨Z, hZ⟩ : ∃ Z, (if (1099511627776 : Int) < (X : Int) + (n : Int) then (1099511627776 : Int) else (X : Int) + (n : Int)) = Z := ⟨_, rfl⟩
    rw [hZ] at hm2 hz
    have HZ := xa hz
    clear hki hu hni hS1 hZ hz
    go_wp2_with fail
    refine (HS.out _ (KI.out)).mono ?_
    rintro e w2 ⟨rfl, k2⟩
    have K2 : Hid (KF wb w2) := xa (K.out.trans (xaa.trans (KI.out) k2))
    clear k2
    go_wp2
    go_roundw
    case rel => exact ⟨i + 1, by go_num, by omega, by rw [HZ.out], K2.out⟩
    case measure => simp [intOf]; omega
  have he : i = L.length := by omega
  subst he
  have b0 := K.out.cell B0.out id
  have b2 := K.out.cell B2.out id
  have b3 := K.out.cell B3.out id
  have b4 := K.out.cell B4.out id
  have hsz : w.heap.size < wr.heap.size := xal b0
  have KE := xa (KB.out.trans K.out)
  rw [List.take_of_length_le (by rw [HQ.out]; exact Nat.le_refl _), HSS.out]
  clear K B0 B2 B3 B4 KB
  have HO := HOps.out
  by_cases h6 : op = 6
  · subst h6
    have hmm : (0 <= mn /\ mn <= 1000) /\ (-1 <= mx /\ mx <= 1000) := by
     rcases HO with h | h | h | h | h | ⟨h, _⟩ | ⟨_, h1, h2, _⟩
     all_goals first | exact ⟨h1, h2⟩ | exact absurd h (by decide)
    obtain ⟨hm1, hm3⟩ := hmm
    obtain ⟨a, rfl⟩ : ∃ a : Nat, mn = (a : Int) := ⟨mn.toNat, by omega⟩
    by_cases hm : (a : Int) + 1 < mx
    · have g1 : decide ((a : Int) + 1 < mx) = true := by simpa using hm
      obtain ⟨d, rfl⟩ : ∃ d : Nat, mx = (d : Int) := ⟨mx.toNat, by omega⟩
      obtain ⟨P1, hP1⟩ : ∃ P1, S * d = P1 := ⟨_, rfl⟩
      have hb1 : P1 <= 1200000000000000 := by rw [<- hP1, Nat.mul_comm]; exact xdq _ S (by omega) (by omega)
      have hw1 : IntKind.i64.wrap ((S : Int) * (d : Int)) = (P1 : Int) := by
       rw [show (S : Int) * (d : Int) = (P1 : Int) by rw [<- hP1]; push_cast; rfl]
       exact IntWalk.i64_in _ (by omega)
      have hm2 := fun W => xgR W (P1 : Int) 1099511627776
      rw [xmj] at hm2
      have HP := xa hP1
      clear hP1 HO
      go_wp2
      go_ret
      exact ⟨by simp [hm, HP.out], KE.out⟩
    have g1 : decide ((a : Int) + 1 < mx) = false := by simpa using hm
    obtain ⟨P1, hP1⟩ : ∃ P1, S * (a + 1) = P1 := ⟨_, rfl⟩
    have hb1 : P1 <= 1200000000000000 := by rw [<- hP1, Nat.mul_comm]; exact xdq _ S (by omega) (by omega)
    have hw1 : IntKind.i64.wrap ((S : Int) * ((a : Int) + 1)) = (P1 : Int) := by
     rw [show (S : Int) * ((a : Int) + 1) = (P1 : Int) by rw [<- hP1]; push_cast; rfl]
     exact IntWalk.i64_in _ (by omega)
    have hm2 := fun W => xgR W (P1 : Int) 1099511627776
    rw [xmj] at hm2
    have HP := xa hP1
    clear hP1 HO
    go_wp2
    go_ret
    exact ⟨by simp [hm, HP.out], KE.out⟩
  have g6 : (op == 6) = false := by simpa using h6
  clear HO
  go_wp2
  go_ret
  exact ⟨by simp [h6], KE.out⟩
def RPar (l : List UInt8) (r : T × Int) : Prop := ∀ W, Calls prog 44 #[.string ⟨l.toArray⟩] W fun e w' => ∃ v : NV, e = .returned (.tuple #[v.val, .int .i64 r.2]) /\ TAt w' (fun _ => True) v r.1 /\ KF W w'
def RCoE (t : T) (c : Int) (W : World) (e : Ending) (w' : World) : Prop := ∃ p, e = .returned (.tuple #[.pointer p, .int .i64 c]) /\ KF W w' /\
 (c = 0 -> ∃ eb o a1 n1 c1 m x a2 n2 cc2, p = some ⟨eb, 0, none⟩ /\ w'.heap[eb]? = some (.cells #[.int .i64 o, .slice a1 n1 c1, .int .i64 m, .int .i64 x, .slice a2 n2 cc2] 75 (0, 0)) /\ TAt w' (fun _ => True) ⟨o, .slice a1 n1 c1, m, x, .slice a2 n2 cc2⟩ t)
def RCo (l : List UInt8) (t : T) (c : Int) : Prop := ∀ W, Calls prog 24 #[.string ⟨l.toArray⟩] W (RCoE t c W)
theorem xk7 (l : List UInt8) (t : T) (c : Int) (hP : RPar l (t, c)) (hc : c ≠ 0) : RCo l t c := by
 intro w
 unfold RPar at hP
 have HP := xa hP
 have g0 : (c != 0) = true := by simp [hc]
 have HE : Hid (c = 0 -> False) := xa hc
 clear hP hc
 go_enter func24, ntmps24
 go_wp2_with fail
 refine (HP.out _).mono ?_
 rintro e w2 ⟨v, rfl, hv, k2⟩
 obtain ⟨o, a1, n1, c1, m, x, a2, n2, cc2, rfl⟩ := NV.form hv
 have K2 := xa k2
 clear hv k2 HP
 unfold NV.val
 go_wp2
 go_ret2
 exact ⟨none, rfl, xaa.trans K2.out (KI.out), fun h => (HE.out h).elim⟩
theorem xk6 (l : List UInt8) (t : T) (n : Nat) (hP : RPar l (t, 0)) (hn : n <= 1099511627776) (hL : xhu t n) : RCo l t (if 2000 <= n then 16 else 0) := by
 intro w
 obtain ⟨c, hc⟩ : ∃ c : Int, (if 2000 <= n then 16 else 0) = c := ⟨_, rfl⟩
 rw [hc]
 have HCc := xa hc
 clear hc
 unfold RPar at hP
 have HP := xa hP
 have HL := xa hL
 unfold xhu at HL
 clear hP hL
 go_enter func24, ntmps24
 go_wp2_with fail
 refine (HP.out _).mono ?_
 rintro e w2 ⟨v, rfl, hv, k2⟩
 obtain ⟨o, a1, n1, c1, m, x, a2, n2, cc2, rfl⟩ := NV.form hv
 have HC := xa (fun W (K : KF w2 W) => HL.out (fun _ => True) ⟨o, .slice a1 n1 c1, m, x, .slice a2 n2 cc2⟩ W (hv.keepsTo K (fun _ _ => id) (fun _ _ => trivial)))
 have HV := xa hv
 have K2 := xa k2
 clear hv k2 HP
 unfold NV.val at HC ⊢
 go_wp2_with fail
 obtain ⟨wa, hwa⟩ : ∃ W, w2.alloc (.cells #[.int .i64 o, .slice a1 n1 c1, .int .i64 m, .int .i64 x, .slice a2 n2 cc2] 73) = W := ⟨_, rfl⟩
 have hKA : KF w2 wa := by rw [<- hwa]; exact (xaa.refl _ _).alloc _
 have b0 : wa.cell? ⟨w2.heap.size, 0, none⟩ = some (.int .i64 o) := by rw [<- hwa]; simp [go_sem]
 have b1 : wa.cell? ⟨w2.heap.size, 1, none⟩ = some (.slice a1 n1 c1) := by rw [<- hwa]; simp [go_sem]
 have b2 : wa.cell? ⟨w2.heap.size, 2, none⟩ = some (.int .i64 m) := by rw [<- hwa]; simp [go_sem]
 have b3 : wa.cell? ⟨w2.heap.size, 3, none⟩ = some (.int .i64 x) := by rw [<- hwa]; simp [go_sem]
 have b4 : wa.cell? ⟨w2.heap.size, 4, none⟩ = some (.slice a2 n2 cc2) := by rw [<- hwa]; simp [go_sem]
 rw [hwa]
 clear hwa
 refine (HC.out _ hKA).mono ?_
 rintro e w3 ⟨rfl, k3⟩
 have b0 := k3.cell b0 id
 have b1 := k3.cell b1 id
 have b2 := k3.cell b2 id
 have b3 := k3.cell b3 id
 have b4 := k3.cell b4 id
 have HV3 := xa (HV.out.keepsTo (hKA.trans k3) (fun _ _ => id) (fun _ h => h))
 have K3 := xa (K2.out.trans (hKA.trans k3))
 have hs3 : w.heap.size <= w3.heap.size := K3.out.size
 clear hKA k3 K2 HV HC HL
 by_cases hb : 2000 <= n
 · have g1 : decide ((2000 : Int) <= (n : Int)) = true := by simp; omega
   obtain rfl : (16 : Int) = c := by rw [<- HCc.out, if_pos hb]
   go_wp2
   go_ret2
   exact ⟨none, rfl, K3.out, fun h => absurd h (by decide)⟩
 have g1 : decide ((2000 : Int) <= (n : Int)) = false := by simp; omega
 obtain rfl : (0 : Int) = c := by rw [<- HCc.out, if_neg hb]
 go_wp2
 go_ret2
 refine ⟨_, rfl, K3.out.alloc _, fun _ => ⟨_, o, a1, n1, c1, m, x, a2, n2, cc2, rfl, heap_alloc_new w3 _, HV3.out.keepsTo (xaa.alloc (xaa.refl (fun _ => False) _) _) (fun _ _ => id) (fun _ h => h)⟩⟩
end Go.Proofs.YtapmdhejgnplaaaGreat
