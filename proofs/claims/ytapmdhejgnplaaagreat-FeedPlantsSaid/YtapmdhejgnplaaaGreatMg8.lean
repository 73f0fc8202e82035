/-
  feed.New, where it is known what model.Right says. No condition.
-/
import Derived.Test.YtapmdhejgnplaaaGreatMg7
import Derived.Deep.DeepCutAuto
import Derived.Deep.CutBlock
import Derived.Deep.CutRange
import Derived.IntWalk
import Derived.Test.YtapmdhejgnplaaaGreatMg1
import Derived.Test.YtapmdhejgnplaaaGreatProg
import Derived.Laws.BitsAllLaws
import Derived.Outline
import Derived.Lib.ConvBytes
import Derived.Deep.Cut
namespace Go.Proofs.YtapmdhejgnplaaaGreat
open Go.RowKit Go.Proofs.Tryz
set_option linter.unusedVariables false
set_option linter.unusedSimpArgs false
set_option maxRecDepth 100000
set_option maxHeartbeats 16000000
def QC (v : Addr) (lo hi : Nat) (w : World) : Prop := ∃ cb, v = ⟨cb, 0, none⟩ /\ ClAt w cb 0 ⟨#[]⟩ 0 0 /\ lo <= cb /\ cb < hi
def QL (v : Addr) (lo hi : Nat) (w : World) : Prop := ∃ lb, v = ⟨lb, 0, none⟩ /\ w.cell? ⟨lb, 1, none⟩ = some (.slice none 0 0) /\ lo <= lb /\ lb < hi
def QT (v : Addr) (lo hi : Nat) (w : World) : Prop := ObS tr0 w (.pointer (some v)) (fun b => lo <= b /\ b < hi)
theorem QC.keeps {v : Addr} {lo hi : Nat} {w w' : World} (h : QC v lo hi w) (K : KF w w') : QC v lo hi w' := by
 obtain ⟨b, e, h1, h2⟩ := h; exact ⟨b, e, h1.keeps K id, h2⟩
theorem QL.keeps {v : Addr} {lo hi : Nat} {w w' : World} (h : QL v lo hi w) (K : KF w w') : QL v lo hi w' := by
 obtain ⟨b, e, h1, h2⟩ := h; exact ⟨b, e, K.cell h1 id, h2⟩
theorem QT.keeps {v : Addr} {lo hi : Nat} {w w' : World} (h : QT v lo hi w) (K : KF w w') : QT v lo hi w' := ObS.keeps h K (fun _ _ => id)
def Makes (f : FuncId) (Q : Addr -> Nat -> Nat -> World -> Prop) : Prop := ∀ W, Calls prog f #[] W fun e w' => ∃ v, e = .returned (.pointer (some v)) /\ Q v W.heap.size w'.heap.size w' /\ KF W w'
theorem mk_cell : Makes 27 QC := fun W => (xmf W).mono fun _ w' ⟨he, h, k⟩ => ⟨_, he, ⟨_, rfl, h, Nat.le_refl _, (Array.getElem?_eq_some_iff.1 h).1⟩, k⟩
theorem mk_loom : Makes 28 QL := fun W => (xnp W).mono fun _ w' ⟨he, h, k⟩ => ⟨_, he, ⟨_, rfl, by rw [xaj h]; rfl, Nat.le_refl _, (Array.getElem?_eq_some_iff.1 h).1⟩, k⟩
theorem mk_tree : Makes 29 QT := fun W => (xmF W).mono fun _ w' ⟨v, he, h, k⟩ => by
 obtain ⟨i, o, H, ρ, a, b, c, rfl, d⟩ := h
 exact ⟨_, he, ⟨i, o, H, ρ, a, b, c, rfl, d⟩, k⟩
def plCs (j : JV) (c l t : Addr) : Array Value := #[.slice j.da j.dn j.dc, .slice j.sa j.sn j.sc, .int .i64 j.fl, .int .i64 j.cd, .int .i64 j.mo, .string ⟨j.pt.toArray⟩, .int .i64 j.ev, .int .i64 j.bd, .int .i64 j.te, .int .i64 j.be, .int .i64 j.af, .int .i64 j.rf, .int .i64 j.bu, .int .i64 j.ch, .int .i64 j.ro, .int .i64 j.wo, .int .i64 j.rg, .pointer none, .pointer (some c), .pointer (some l), .pointer none, .pointer (some t), .int .i64 0, .int .i64 0, .slice none 0 0]
def xo (j : JV) (w : World) (v : Value) (W : World) : Prop :=
 ∃ c l t c1 c2 l1 l2 t1 t2 pb, v = .pointer (some ⟨pb, 0, none⟩) /\ W.heap[pb]? = some (.cells (plCs j c l t) 40 (0, 0)) /\ QC c c1 c2 W /\ QL l l1 l2 W /\ QT t t1 t2 W /\
  (c2 <= l1 \/ l2 <= c1) /\ (c2 <= t1 \/ t2 <= c1) /\ (l2 <= t1 \/ t2 <= l1) /\ w.heap.size <= c1 /\ w.heap.size <= l1 /\ w.heap.size <= t1 /\ c2 <= pb /\ l2 <= pb /\ t2 <= pb /\ w.heap.size <= pb /\ KF w W
theorem xo.mk {j : JV} {w wd y1 y2 y3 : World} {c l t : Addr} (kd : KF w wd) (qc : QC c wd.heap.size y1.heap.size y3) (ql : QL l y1.heap.size y2.heap.size y3) (qt : QT t y2.heap.size y3.heap.size y3)
 (k1 : KF wd y1) (k2 : KF y1 y2) (k3 : KF y2 y3) : xo j w (.pointer (some ⟨y3.heap.size, 0, none⟩)) (y3.alloc (.cells (plCs j c l t) 40)) := by
 have k4 := (xaa.refl (fun _ => False) y3).alloc (.cells (plCs j c l t) 40)
 have := kd.size; have := k1.size; have := k2.size; have := k3.size
 exact ⟨c, l, t, _, _, _, _, _, _, _, rfl, heap_alloc_new _ _, qc.keeps k4, ql.keeps k4, qt.keeps k4, by omega, by omega, by omega, by omega, by omega, by omega, by omega, by omega, by omega, by omega, (((kd.trans k1).trans k2).trans k3).trans k4⟩
theorem xm5 {j : JV} {c l t : Addr} {c1 c2 l1 l2 t1 t2 pb ob ab lo n N : Nat} {gv : Value} {ch : Int} {wc w3 w4 w5 : World} (hpb : wc.heap[pb]? = some (.cells (plCs j c l t) 40 (0, 0))) (qc : QC c c1 c2 wc) (ql : QL l l1 l2 wc)
 (hds : (c2 <= l1 \/ l2 <= c1) /\ (c2 <= t1 \/ t2 <= c1) /\ (l2 <= t1 \/ t2 <= l1) /\ N <= c1 /\ N <= l1 /\ N <= t1 /\ c2 <= pb /\ l2 <= pb /\ t2 <= pb /\ N <= pb) (hn : 1 <= n /\ n <= 64)
 (k3 : KF wc w3) (hpo : PoAt w3 ob ab lo n ch n) (hp1 : wc.heap.size <= ob) (hp2 : wc.heap.size <= ab) (hp3 : wc.heap.size <= lo)
 (k4 : KF (w3.setCell ⟨pb, 17, none⟩ (.pointer (some ⟨ob, 0, none⟩))) w4)
 (h5 : ObS tr1 w5 (.pointer (some t)) (GrO (fun b => t1 <= b /\ b < t2) (w4.setCell ⟨pb, 20, none⟩ gv) w5)) (k5 : xaa (fun b => t1 <= b /\ b < t2) (w4.setCell ⟨pb, 20, none⟩ gv) w5) (W : World) (hW : w5.setCell ⟨pb, 22, none⟩ (.int .i64 1) = W) :
 ∃ p : PLC, p.pb = pb /\ p.n = n /\ PlAt W p 0 0 0 (.slice none 0 0) 0 ⟨#[]⟩ 0 0 /\ (∀ b, p.has b -> N <= b) /\ xaa (fun b => b = pb \/ t1 <= b /\ b < t2) wc W := by
 obtain ⟨e1, e2, e3, e4, e5, e6, e7, e8, e9, e10⟩ := hds
 obtain ⟨cb, rfl, hc, y1, y2⟩ := qc
 obtain ⟨lb, rfl, hl, y3, y4⟩ := ql
 have hlt : pb < wc.heap.size := (Array.getElem?_eq_some_iff.1 hpb).1
 have s1 := xbd 17 (.pointer (some ⟨ob, 0, none⟩)) (k3.heap hpb id)
 have s2 := xbd 20 gv (k4.heap s1 id)
 have s3 := xbd 22 (.int .i64 1) (k5.heap s2 (by omega))
 rw [hW] at s3
 have kW : xaa (fun b => b = pb) w5 W := by rw [<- hW]; exact xcu _ _ _ _
 have K : xaa (fun b => b = pb \/ t1 <= b /\ b < t2) w3 W :=
  ((((xcu w3 pb 17 (.pointer (some ⟨ob, 0, none⟩))).mono fun _ _ e => Or.inl e).trans (k4.mono fun _ _ e => e.elim)).trans ((xcu w4 pb 20 gv).mono fun _ _ e => Or.inl e)).trans ((k5.mono fun _ _ e => Or.inr e).trans (kW.mono fun _ _ e => Or.inl e))
 have K0 : xaa (fun b => b = pb \/ t1 <= b /\ b < t2) wc W := (k3.mono fun _ _ e => e.elim).trans K
 have z4 : w3.heap.size <= (w4.setCell ⟨pb, 20, none⟩ gv).heap.size := by have := k4.size; simp [World.setCell] at this ⊢; omega
 have z3 := k3.size
 obtain ⟨tb, rb, ro, kb, ko, et, ht, g1, g2, g3⟩ := tree_at h5
 obtain rfl : t = ⟨tb, 0, none⟩ := by simpa using et
 obtain ⟨lv, hob, hown⟩ := hpo.hd
 obtain ⟨g, cap, rfl, hg, hln⟩ : ∃ g cap, lv = .slice (some ⟨g, 0, none⟩) n cap /\ lo <= g /\ ∀ (j : Nat) (u : Value), (upTo n)[j]? = some u -> w3.cell? ((⟨g, 0, none⟩ : Addr).add j) = some u := by
  rcases hown.2 with ⟨_, h⟩ | ⟨g, cap, cur, rfl, hg, _⟩
  · omega
  exact ⟨g, cap, rfl, hg, hown.cells (g := g) rfl⟩
 have hb0 := hpo.bf 0 (by omega)
 have hg0 : g < w3.heap.size := by
  obtain ⟨m, hm⟩ : ∃ m, n = m + 1 := ⟨n - 1, by omega⟩
  have := xal (hln 0 (.int .i64 0) (by rw [hm]; simp [upTo]))
  rwa [add0] at this
 have hab := xal hb0.1
 have hobl : ob < w3.heap.size := (Array.getElem?_eq_some_iff.1 hob).1
 simp only at hab
 unfold GrO at g1 g2 g3
 have o0 : w3.cell? ⟨ob, 0, none⟩ = some (.slice (some ⟨ab, 0, none⟩) n n) := by rw [xaj hob]; rfl
 have o1 : w3.cell? ⟨ob, 1, none⟩ = some (.slice (some ⟨g, 0, none⟩) n cap) := by rw [xaj hob]; rfl
 have ctr := k4.heap (k := cb) (o := _) (by
  have := (xcu w3 pb 17 (.pointer (some ⟨ob, 0, none⟩))).heap (k3.heap hc id) (show ¬ cb = pb by omega)
  exact this) id
 have hlb := xal hl
 have hcb : cb < wc.heap.size := xal hc.cells.1
 simp only at hlb
 refine ⟨⟨pb, tb, rb, ro, kb, ko, cb, lb, ob, ab, g, n⟩, rfl, rfl, ⟨⟨?_, ?_, ?_, ?_, ?_, ?_, ?_, fun o => xbb s3 o none⟩, ht.keeps kW (show ¬ tb = pb by omega) (show ¬ rb = pb by omega) (show ¬ kb = pb by omega), hc.keeps K0 (by omega),
  ⟨K0.cell hl (show ¬ (lb = pb \/ t1 <= lb /\ lb < t2) by omega), K.cell o0 (show ¬ (ob = pb \/ t1 <= ob /\ ob < t2) by omega), ⟨cap, K.cell o1 (show ¬ (ob = pb \/ t1 <= ob /\ ob < t2) by omega)⟩, fun i hi => ⟨K.cell (hpo.bf i hi).1 (show ¬ (ab = pb \/ t1 <= ab /\ ab < t2) by omega), K.cell (hpo.bf i hi).2 (show ¬ (ab = pb \/ t1 <= ab /\ ab < t2) by omega)⟩,
   fun j u hu => K.cell (hln j u hu) (by rw [add0]; show ¬ (g = pb \/ t1 <= g /\ g < t2); omega)⟩, hn, ?_, ?_, ?_⟩, ?_, K0⟩
 · rw [xaj s3]; rfl
 · rw [xaj s3]; rfl
 · rw [xaj s3]; rfl
 · rw [xaj s3]; rfl
 · rw [xaj s3]; rfl
 · rw [xaj s3]; rfl
 · rw [xaj s3]; rfl
 · simp only; omega
 · simp only; omega
 · simp only; omega
 intro b hb
 unfold PLC.has at hb
 simp only at hb
 omega
theorem xdE {P : Program} {ops : Array Oper} {o : Oper} {a : Act} {w w' : World} {K : Act -> World -> Prop} {Q : Exit -> Act -> World -> Prop} {E : Prop} (hgd : o.guard = none) (v : Value)
 (hrun : (execOp a.eval o).run P w = .ok (.value v) w') (h : K (a.put o.dst v) w') : if Region.wanted o (yielded ops a.tmps) = true then Oper.wp P o a w K Q else E := by
 rw [if_pos (by simp [Region.wanted, hgd])]
 unfold Oper.wp
 rw [hrun, Oper.upon_value]
 exact h
theorem new_no (j : JV) (HR : ∀ W, Calls prog 26 #[jV j] W fun e w' => e = .returned (.bool false) /\ KF W w') (w : World) :
 Calls prog 7 #[jV j] w fun e w' => e = .returned (.tuple #[.pointer none, .int .i64 2]) /\ KF w w' := by
 have HR0 := xa HR
 have hjb := xfC w j
 obtain ⟨w1, hw⟩ : ∃ W, w.alloc (.cells (jCs j) 25) = W := ⟨_, rfl⟩
 rw [hw] at hjb
 have hk1 : KF w w1 := by rw [<- hw]; exact (xaa.refl _ _).alloc _
 have hw2 := hw
 unfold jCs at hw2
 have HW2 := xa hw2
 have HJ := xa hjb
 have HK1 := xa hk1
 clear hw2 hw hjb hk1 HR
 have hLd := xed j
 unfold jV jCs
 go_enter func7, ntmps7
 go_upto_region 1 with fail
 rw [HW2.out]
 clear HW2
 go_wp2_with (refine xay rfl 25 (.tmp 1) rfl w.heap.size rfl 25 (jCs j) (0, 0) _ HJ.out underlying25 rfl hLd ?_)
 refine (HR0.out _).mono ?_
 rintro e w2 ⟨rfl, k2⟩
 go_wp2
 go_ret2
 exact ⟨rfl, HK1.out.trans k2⟩
theorem new_yes (j : JV) (hj : JOk j) (HR : ∀ W, Calls prog 26 #[jV j] W fun e w' => e = .returned (.bool true) /\ KF W w') (w : World) :
 Calls prog 7 #[jV j] w fun e w' => ∃ p : PLC, e = .returned (.tuple #[.pointer (some ⟨p.pb, 0, none⟩), .int .i64 0]) /\ PlAt w' p 0 0 0 (.slice none 0 0) 0 ⟨#[]⟩ 0 0 /\ j.bu = (p.n : Int) /\ (∀ b, p.has b -> w.heap.size <= b) /\ KF w w' := by
 have HR0 := xa HR
 have hjb := xfC w j
 obtain ⟨w1, hw⟩ : ∃ W, w.alloc (.cells (jCs j) 25) = W := ⟨_, rfl⟩
 rw [hw] at hjb
 have hk1 : KF w w1 := by rw [<- hw]; exact (xaa.refl _ _).alloc _
 have hw2 := hw
 unfold jCs at hw2
 have HW2 := xa hw2
 have HJ := xa hjb
 have HK1 := xa hk1
 clear hw2 hw hjb hk1 HR
 have hLd := xed j
 unfold jV jCs
 go_enter func7, ntmps7
 go_upto_region 1 with fail
 rw [HW2.out]
 clear HW2
 go_wp2_with (refine xay rfl 25 (.tmp 1) rfl w.heap.size rfl 25 (jCs j) (0, 0) _ HJ.out underlying25 rfl hLd ?_)
 refine (HR0.out _).mono ?_
 rintro e w2 ⟨rfl, k2⟩
 have HJ2 := xa (HJ.out.keeps k2 id)
 have HK2 := xa (HK1.out.trans k2)
 clear k2 HJ HK1 HR0
 generalize Value.agg (jCs j) = z0
 go_upto_region 3 with fail
 go_cut [4] (fun v W => xo j w2 v W /\ JbAt W w.heap.size j)
 case first =>
  obtain ⟨wd, hwd⟩ : ∃ W : World, { w2 with drawn := w2.drawn + 1 } = W := ⟨_, rfl⟩
  have hS : JbAt wd w.heap.size j := by rw [<- hwd]; exact HJ2.out
  have kd : KF w2 wd := by rw [<- hwd]; exact (xaa.refl _ _).drew
  refine wp_region_held (S := fun w' => JbAt w' w.heap.size j) (by kernel_rfl) ?_
  rw [hwd]
  refine wpAnyH_take (i := 0) (oi := ⟨some 9, .load 25 (.tmp 1), 25, "plant.go:37", #[], none⟩) (v := .agg (jCs j)) rfl (by kernel_rfl) (by kernel_rfl) (by kernel_rfl) (fun _ _ _ h => h) (Or.inl ⟨by rfl, fun w' hs => xga 25 (.tmp 1) (by rfl) w.heap.size (by rfl) 25 (jCs j) (0, 0) _ hs underlying25 (by rfl) (xed j)⟩) hS ?_
  simp only [Act.put, List.setIfInBounds_toArray, List.set_cons_zero, List.set_cons_succ]
  refine wpAnyH_ready (rs := [1]) (by kernel_rfl) (by simp) (AllReadyH.cons (o := ⟨some 10, .call { callee := .value (.func 27), args := #[], argTypes := #[] }, 34, "plant.go:37", #[], none⟩) rfl (fun K hK => ?_) AllReadyH.nil)
  refine xeq rfl 27 #[] (by go_simp) ((mk_cell _).mono ?_)
  rintro e y1 ⟨vc, rfl, qc, k1⟩
  have hS1 := hS.keeps k1 id
  refine ⟨_, rfl, hK.out _ _ hS1 (fun _ => ?_)⟩
  simp only [Act.put, List.setIfInBounds_toArray, List.set_cons_zero, List.set_cons_succ]
  refine wpAnyH_ready (rs := [2]) (by kernel_rfl) (by simp) (AllReadyH.cons (o := ⟨some 11, .call { callee := .value (.func 28), args := #[], argTypes := #[] }, 35, "plant.go:37", #[⟨1, .chain⟩], none⟩) rfl (fun K hK => ?_) AllReadyH.nil)
  refine xeq rfl 28 #[] (by go_simp) ((mk_loom _).mono ?_)
  rintro e y2 ⟨vl, rfl, ql, k2⟩
  have hS2 := hS1.keeps k2 id
  have qc := qc.keeps k2
  refine ⟨_, rfl, hK.out _ _ hS2 (fun _ => ?_)⟩
  simp only [Act.put, List.setIfInBounds_toArray, List.set_cons_zero, List.set_cons_succ]
  refine wpAnyH_ready (rs := [3]) (by kernel_rfl) (by simp) (AllReadyH.cons (o := ⟨some 12, .call { callee := .value (.func 29), args := #[], argTypes := #[] }, 37, "plant.go:37", #[⟨2, .chain⟩], none⟩) rfl (fun K hK => ?_) AllReadyH.nil)
  refine xeq rfl 29 #[] (by go_simp) ((mk_tree _).mono ?_)
  rintro e y3 ⟨vt, rfl, qt, k3⟩
  have hS3 := hS2.keeps k3 id
  have qc := qc.keeps k3
  have ql := ql.keeps k3
  refine ⟨_, rfl, hK.out _ _ hS3 (fun _ => ?_)⟩
  simp only [Act.put, List.setIfInBounds_toArray, List.set_cons_zero, List.set_cons_succ]
  refine wpAnyH_ready (rs := [4]) (by kernel_rfl) (by simp) (AllReadyH.cons (o := ⟨some 13, .build 40 #[(0, .tmp 9), (2, .tmp 10), (3, .tmp 11), (5, .tmp 12)], 40, "plant.go:37", #[⟨0, .data⟩, ⟨1, .data⟩, ⟨2, .data⟩, ⟨3, .data⟩], none⟩) rfl (fun K hK => ?_) AllReadyH.nil)
  refine xdE rfl (.agg (plCs j vc vl vt)) (by unfold jCs plCs; go_simp) (hK.out _ _ hS3 (fun _ => ?_))
  simp only [Act.put, List.setIfInBounds_toArray, List.set_cons_zero, List.set_cons_succ]
  have k4 := (xaa.refl (fun _ => False) y3).alloc (.cells (plCs j vc vl vt) 40)
  have hS4 := hS3.keeps k4 id
  have hq := xo.mk (j := j) kd qc ql qt k1 k2 k3
  refine wpAnyH_ready (rs := [5]) (by kernel_rfl) (by simp) (AllReadyH.cons (o := ⟨some 14, .box 40 (.tmp 13), 28, "plant.go:37", #[⟨4, .data⟩], none⟩) rfl (fun K hK => ?_) AllReadyH.nil)
  refine xdE rfl (.pointer (some ⟨y3.heap.size, 0, none⟩)) (by unfold plCs; go_simp) (hK.out _ _ hS4 (fun _ => ?_))
  simp only [Act.put, List.setIfInBounds_toArray, List.set_cons_zero, List.set_cons_succ]
  refine wpAnyH_ready (rs := [6]) (by kernel_rfl) (by simp) (AllReadyH.cons (o := ⟨some 4, .assign (.tmp 14), 28, "plant.go:37", #[⟨5, .data⟩, ⟨3, .chain⟩, ⟨0, .phase⟩, ⟨1, .phase⟩, ⟨2, .phase⟩, ⟨3, .phase⟩, ⟨4, .phase⟩, ⟨5, .phase⟩], none⟩) rfl (fun K hK => ?_) AllReadyH.nil)
  refine xdE rfl (.pointer (some ⟨y3.heap.size, 0, none⟩)) (by go_simp) (hK.out _ _ hS4 (fun _ => wpAnyH_done (by kernel_rfl) ?_ _))
  simp only [Act.put, List.setIfInBounds_toArray, List.set_cons_zero, List.set_cons_succ]
  generalize y3.alloc (.cells (plCs j vc vl vt) 40) = y4 at *
  go_wp2
  go_meet
  case rel => exact ⟨hq, hS4⟩
 case rest =>
  obtain ⟨⟨c, l, t, c1, c2, l1, l2, t1, t2, pb, rfl, hpb, qc, ql, qt, hds⟩, hjw⟩ := hcut
  obtain ⟨n, hn⟩ : ∃ n : Nat, (n : Int) = j.bu := ⟨j.bu.toNat, by have := hj.bu; omega⟩
  obtain ⟨r, hr⟩ : ∃ r : Nat, (r : Int) = j.rg := ⟨j.rg.toNat, by have := hj.rg; omega⟩
  have hnb : 1 <= n /\ n <= 64 := by have := hj.bu; omega
  have hrb : 1 <= r /\ r <= 64 := by have := hj.rg; omega
  obtain ⟨_, j12, j13, _, _, j16⟩ := hjw.d
  rw [<- hn] at j12
  have HP := xa (fun W => xm4 n j.ch W hnb.1 hnb.2 hj.ch.1 hj.ch.2)
  have HG := xa (fun W => xmR r W hrb.1 hrb.2)
  have HN := xa hn
  have HB := xa hnb
  have HA := xa (And.intro hpb (And.intro qc (And.intro ql (And.intro qt (And.intro hds hjw)))))
  rw [<- hr] at j16
  have H16 := xa j16
  clear hpb qc ql qt hds hjw hn hnb hrb j16 hr
  go_wp2_with fail
  refine (HP.out _).mono ?_
  rintro e w3 ⟨ob, ab, lo, rfl, hpo, hp1, hp2, hp3, k3⟩
  have hA := HA.out
  have p3 := k3.heap hA.1 id
  have c17 : w3.cell? ⟨pb, 17, none⟩ = some (.pointer none) := by rw [xaj p3]; rfl
  have f17 : w3.frozen? ⟨pb, 17, none⟩ = false := xbb p3 17 none
  have hlt : w.heap.size < pb := by
   have := (Array.getElem?_eq_some_iff.1 HJ2.out).1
   have := hA.2.2.2.2.1.2.2.2.2.2.2.2.2.2.1
   omega
  have p4 := xbd 17 (.pointer (some ⟨ob, 0, none⟩)) p3
  have x16 : (w3.setCell ⟨pb, 17, none⟩ (.pointer (some ⟨ob, 0, none⟩))).cell? ⟨w.heap.size, 16, none⟩ = some (.int .i64 (r : Int)) := by rw [xae (by simp)]; exact k3.cell H16.out id
  have P4 := xa p4
  have HPO := xa hpo
  have HK3 := xa (And.intro k3 (And.intro hp1 (And.intro hp2 hp3)))
  have HLT := xa hlt
  clear p3 p4 hA hpo hp1 hp2 hp3 k3 hlt H16
  go_wp2_with fail
  refine (HG.out _).mono ?_
  rintro e w4 ⟨⟨gb, rfl⟩, k4⟩
  have p5 := k4.heap P4.out id
  have c20 : w4.cell? ⟨pb, 20, none⟩ = some (.pointer none) := by rw [xaj p5]; rfl
  have f20 : w4.frozen? ⟨pb, 20, none⟩ = false := xbb p5 20 none
  have p6 := xbd 20 (.pointer (some ⟨gb, 0, none⟩)) p5
  have x21 : (w4.setCell ⟨pb, 20, none⟩ (.pointer (some ⟨gb, 0, none⟩))).cell? ⟨pb, 21, none⟩ = some (.pointer (some t)) := by rw [xaj p6]; rfl
  have HT := xa (xmG (w4.setCell ⟨pb, 20, none⟩ (.pointer (some ⟨gb, 0, none⟩))) (.pointer (some t)) (fun b => t1 <= b /\ b < t2) (by
   have hA := HA.out
   have e9 := hA.2.2.2.2.1.2.2.2.2.2.2.2.2.1
   have q1 := hA.2.2.2.1.keeps HK3.out.1
   unfold QT at q1
   exact (ObS.keeps (ObS.keeps (ObS.keeps q1 (xcu _ pb 17 _) (fun b hb e => by omega)) k4 (fun _ _ => id)) (xcu _ pb 20 _) (fun b hb e => by omega))))
  have P6 := xa p6
  have HK4 := xa k4
  clear p5 p6 k4 c17 f17 x16
  go_wp2_with fail
  refine HT.out.mono ?_
  rintro e w5 ⟨rfl, h5, k5⟩
  have hA := HA.out
  have e9 := hA.2.2.2.2.1.2.2.2.2.2.2.2.2.1
  have p7 := k5.heap P6.out (show ¬ (t1 <= pb /\ pb < t2) by omega)
  have c22 : w5.cell? ⟨pb, 22, none⟩ = some (.int .i64 0) := by rw [xaj p7]; rfl
  have f22 : w5.frozen? ⟨pb, 22, none⟩ = false := xbb p7 22 none
  obtain ⟨W, hW⟩ : ∃ W, w5.setCell ⟨pb, 22, none⟩ (.int .i64 1) = W := ⟨_, rfl⟩
  have hds := hA.2.2.2.2.1
  obtain ⟨p, rfl, hpn, hpa, hpl, hpk⟩ := xm5 (N := w2.heap.size) hA.1 hA.2.1 hA.2.2.1 ⟨hds.1, hds.2.1, hds.2.2.1, hds.2.2.2.1, hds.2.2.2.2.1, hds.2.2.2.2.2.1, hds.2.2.2.2.2.2.1, hds.2.2.2.2.2.2.2.1, hds.2.2.2.2.2.2.2.2.1, hds.2.2.2.2.2.2.2.2.2.1⟩ HB.out HK3.out.1 HPO.out HK3.out.2.1 HK3.out.2.2.1 HK3.out.2.2.2 HK4.out h5 k5 W hW
  have HF : Hid (PlAt W p 0 0 0 (.slice none 0 0) 0 ⟨#[]⟩ 0 0 /\ j.bu = (p.n : Int) /\ (∀ b, p.has b -> w.heap.size <= b) /\ KF w W) := xa ⟨hpa, by rw [hpn]; exact HN.out.symm, fun b hb => by have := hpl b hb; have := HK2.out.size; omega,
   (HK2.out.trans hds.2.2.2.2.2.2.2.2.2.2).trans2 hpk (fun b hb e => by
     have := HK2.out.size
     have := hds.2.2.2.2.2.1
     have := hds.2.2.2.2.2.2.2.2.2.1
     omega)⟩
  clear hA e9 p7 h5 k5 hds hpn hpa hpl hpk x21 c20 f20 HT P6 HK4 HPO HK3 HB HN HJ2 P4
  go_wp2
  go_ret2
  exact ⟨p, rfl, HF.out⟩
section
section
variable {w : World} {p : PLC} {c0 c1 sl cc cn cr : Int} {hv : Value} {cs : ByteArray}
theorem xol (b N i : Nat) (xs : List Value) (h : PlAt w p c0 c1 sl hv cc cs cn cr) (hp : ∀ b, p.has b -> b < N) (hN : N <= w.heap.size) (hi : i <= 1000) (ho : w.ownsRow N 87 1 hv i xs) :
 Calls prog 16 #[.pointer (some ⟨p.pb, 0, none⟩), xcr b] w fun e w' => e = .returned (.tuple #[]) /\ ∃ v, PlAt w' p c0 c1 sl v cc cs cn cr /\ w'.ownsRow N 87 1 v (i + 1) (xs ++ [xcr b]) /\ xaa (fun k => k = p.pb \/ hv.ownBlock = some k) w w' := by
 refine (xnu p.pb b N i hv xs w h.h.hs (h.h.fr _) (hp _ (Or.inl rfl)) hN hi ho).mono ?_
 rintro e w' ⟨he, v, w1, rfl, h1, h2⟩
 have h3 : PlAt w1 p c0 c1 sl hv cc cs cn cr := h.keeps h2 fun k hk e => by
  have := xab ho k e
  have := hp k hk
  omega
 exact ⟨he, v, h3.at24 v, h1, (h2.mono fun _ _ e => Or.inr e).trans ((xcu w1 p.pb 24 v).mono fun _ _ e => Or.inl e)⟩
def xdY (w : World) (hv : Value) (s1 s2 : Nat) (v1 v2 : Int) : Prop :=
 ∃ g cap, hv = .slice (some ⟨g, 0, none⟩) 2 cap /\ w.cell? ⟨g, 0, none⟩ = some (xcr s1) /\ w.cell? ⟨g, 1, none⟩ = some (xcr s2) /\ w.cell? ⟨s1, 0, none⟩ = some (.int .i64 v1) /\ w.cell? ⟨s2, 0, none⟩ = some (.int .i64 v2)
theorem xdY.keeps {w' : World} {s1 s2 : Nat} {v1 v2 : Int} (h : xdY w hv s1 s2 v1 v2) (K : KF w w') : xdY w' hv s1 s2 v1 v2 := by
 obtain ⟨g, cap, e, h1, h2, h3, h4⟩ := h
 exact ⟨g, cap, e, K.cell h1 id, K.cell h2 id, K.cell h3 id, K.cell h4 id⟩
theorem xdY.of {N s1 s2 : Nat} {v1 v2 : Int} (ho : w.ownsRow N 87 1 hv 2 [xcr s1, xcr s2]) (h1 : w.cell? ⟨s1, 0, none⟩ = some (.int .i64 v1)) (h2 : w.cell? ⟨s2, 0, none⟩ = some (.int .i64 v2)) : xdY w hv s1 s2 v1 v2 := by
 rcases ho.2 with ⟨_, h⟩ | ⟨g, cap, cur, rfl, hg, _⟩
 · omega
 have hc := ho.cells (g := g) rfl
 have a := hc 0 (xcr s1) rfl
 have b := hc 1 (xcr s2) rfl
 rw [add0] at a b
 exact ⟨g, cap, rfl, a, b, h1, h2⟩
theorem xdY.turn {s1 s2 : Nat} {v1 v2 : Int} (h : xdY w hv s1 s2 v1 v2) (hne : s1 ≠ s2) (v : Int) : xdY (w.setCell ⟨s1, 0, none⟩ (.int .i64 v)) hv s1 s2 v v2 := by
 obtain ⟨g, cap, e, h1, h2, h3, h4⟩ := h
 have hg : g ≠ s1 := by
  rintro rfl
  rw [h1] at h3
  simp [xcr] at h3
 exact ⟨g, cap, e, by rw [xae (by simp <;> omega)]; exact h1, by rw [xae (by simp)]; exact h2, xaw h3, by rw [xae (by simp <;> omega)]; exact h4⟩
theorem xlk {s1 s2 : Nat} {v1 v2 : Int} (h : PlAt w p c0 c1 sl hv cc cs cn cr) (hh : xdY w hv s1 s2 v1 v2) (hw : wrap64 v1 = v1) :
 Calls prog 11 #[.pointer (some ⟨p.pb, 0, none⟩)] w fun e w' => e = .returned (.int .i64 (wrap64 (v1 + v2))) /\ KF w w' := by
 obtain ⟨g, cap, rfl, h1, h2, h3, h4⟩ := hh
 exact xnC p.pb p.ob g cap s1 s2 v1 v2 w h.h.pl h.h.hs h1 h2 h3 h4 hw (xll h)
def TP (p : PLC) (N b : Nat) : Prop := p.has b \/ N <= b
theorem xmL {W W' : World} {N : Nat} (k : xaa (fun b => b = p.rb) W W') : xaa (TP p N) W W' := k.mono fun _ _ e => Or.inl (by rw [e]; simp [PLC.has])
theorem tk_pb {W W' : World} {N : Nat} (k : xaa (fun b => b = p.pb) W W') : xaa (TP p N) W W' := k.mono fun _ _ e => Or.inl (by rw [e]; simp [PLC.has])
theorem tk_f {W W' : World} {N : Nat} (k : KF W W') : xaa (TP p N) W W' := k.mono fun _ _ e => e.elim
theorem xb1 {W W' : World} (h : W' = W) : KF W W' := by rw [h]; exact xaa.refl _ _
theorem xdj (h : PlAt w p c0 c1 sl hv cc cs cn cr) : Calls prog 9 #[.pointer (some ⟨p.pb, 0, none⟩)] w fun e w' => e = .returned (.bool (c0 != 0)) /\ PlAt w' p c0 c1 sl hv cc cs cn cr /\ KF w w' :=
 (xgI h).mono fun _ _ ⟨a, b⟩ => ⟨a, h.keeps (xb1 b) fun _ _ => id, xb1 b⟩
theorem q_dry (h : PlAt w p c0 c1 sl hv cc cs cn cr) : Calls prog 10 #[.pointer (some ⟨p.pb, 0, none⟩)] w fun e w' => e = .returned (.bool (c1 != 0)) /\ PlAt w' p c0 c1 sl hv cc cs cn cr /\ KF w w' :=
 (p_dry h).mono fun _ _ ⟨a, k, b⟩ => by
  subst b
  have hk : KF w (w.drewN k) := (xaa.refl _ _).drawN k
  exact ⟨a, h.keeps hk fun _ _ => id, hk⟩
theorem xl (h : PlAt w p c0 c1 sl hv cc cs cn cr) : Calls prog 12 #[.pointer (some ⟨p.pb, 0, none⟩)] w fun e w' => e = .returned (.int .i64 sl) /\ PlAt w' p c0 c1 sl hv cc cs cn cr /\ KF w w' :=
 (xlj h).mono fun _ _ ⟨a, b⟩ => ⟨a, h.keeps (xb1 b) fun _ _ => id, xb1 b⟩
theorem xez (h : PlAt w p c0 c1 sl hv cc cs cn cr) : Calls prog 17 #[.pointer (some ⟨p.cb, 0, none⟩)] w fun e w' => e = .returned (.int .i64 cr) /\ PlAt w' p c0 c1 sl hv cc cs cn cr /\ KF w w' :=
 (xhl _ _ _ _ _ w h.c).mono fun _ _ ⟨a, b⟩ => ⟨a, h.keeps (xb1 b) fun _ _ => id, xb1 b⟩
theorem q_cause (h : PlAt w p c0 c1 sl hv cc cs cn cr) : Calls prog 20 #[.pointer (some ⟨p.cb, 0, none⟩)] w fun e w' => e = .returned (.int .i64 cc) /\ PlAt w' p c0 c1 sl hv cc cs cn cr /\ KF w w' :=
 (xkq _ _ _ _ _ w h.c).mono fun _ _ ⟨a, b⟩ => ⟨a, h.keeps (xb1 b) fun _ _ => id, xb1 b⟩
theorem q_note (h : PlAt w p c0 c1 sl hv cc cs cn cr) : Calls prog 21 #[.pointer (some ⟨p.cb, 0, none⟩)] w fun e w' => e = .returned (.string cs) /\ PlAt w' p c0 c1 sl hv cc cs cn cr /\ KF w w' :=
 (xme _ _ _ _ _ w h.c).mono fun _ _ ⟨a, b⟩ => ⟨a, h.keeps (xb1 b) fun _ _ => id, xb1 b⟩
theorem p_cut0 (h : PlAt w p c0 c1 sl hv cc cs cn cr) : Calls prog 14 #[.pointer (some ⟨p.pb, 0, none⟩), .int .i64 0] w fun e w' => e = .returned (.tuple #[]) /\ PlAt w' p c0 c1 sl hv cc cs cn cr /\ xaa (fun b => b = p.rb) w w' :=
 (p_cut 0 h).mono fun _ _ ⟨a, b, c⟩ => ⟨a, by simpa using b, c⟩
theorem p_cut10 (h : PlAt w p c0 0 sl hv cc cs cn cr) : Calls prog 14 #[.pointer (some ⟨p.pb, 0, none⟩), .int .i64 10] w fun e w' => e = .returned (.tuple #[]) /\ PlAt w' p c0 10 sl hv cc cs cn cr /\ xaa (fun b => b = p.rb) w w' :=
 (p_cut 10 h).mono fun _ _ ⟨a, b, c⟩ => ⟨a, by simpa [stay] using b, c⟩
theorem p_stop0 (h : PlAt w p c0 c1 sl hv cc cs cn cr) : Calls prog 18 #[.pointer (some ⟨p.pb, 0, none⟩), .int .i64 0] w fun e w' => e = .returned (.tuple #[]) /\ PlAt w' p c0 c1 sl hv cc cs cn cr /\ xaa (fun b => b = p.rb) w w' :=
 (xok 0 h).mono fun _ _ ⟨a, b, c⟩ => ⟨a, by simpa using b, c⟩
theorem xm8 (h : PlAt w p 0 10 sl hv cc cs cn cr) : Calls prog 18 #[.pointer (some ⟨p.pb, 0, none⟩), .int .i64 19] w fun e w' => e = .returned (.tuple #[]) /\ PlAt w' p 19 10 sl hv cc cs cn cr /\ xaa (fun b => b = p.rb) w w' :=
 (xok 19 h).mono fun _ _ ⟨a, b, c⟩ => ⟨a, by simpa [stay] using b, c⟩
theorem p_held7 {s1 s2 : Nat} (h : PlAt w p c0 c1 sl hv cc cs cn cr) (hh : xdY w hv s1 s2 5 2) :
 Calls prog 11 #[.pointer (some ⟨p.pb, 0, none⟩)] w fun e w' => e = .returned (.int .i64 7) /\ KF w w' := by
 have := xlk h hh (IntWalk.wrap64_in 5 (by omega))
 rwa [IntWalk.wrap64_in (5 + 2) (by omega)] at this
end
end
def xcj (f : FuncId) (j : JV) (q : Bool) : Prop := ∀ W, Calls prog f #[jV j] W fun e w' => e = .returned (.bool q) /\ KF W w'
def xmD (f : FuncId) : Prop := ∀ W, Calls prog f #[] W fun e w' => e = .returned (.bool true) /\ KF W w'
def TwoP (w : World) (n : Int) (p q : PLC) (W : World) : Prop :=
 PlAt W p 0 0 0 (.slice none 0 0) 0 ⟨#[]⟩ 0 0 /\ PlAt W q 0 0 0 (.slice none 0 0) 0 ⟨#[]⟩ 0 0 /\ n = (p.n : Int) /\ (∀ b, p.has b -> w.heap.size <= b) /\ (∀ b, q.has b -> w.heap.size <= b /\ ¬ p.has b) /\ KF w W
def xmE (w7 : World) (f : FuncId) (b : Nat) (v : Value) : Prop := ∀ W, KF w7 W -> Calls prog f #[.pointer (some ⟨b, 0, none⟩)] W fun e w' => e = .returned v /\ KF W w'
theorem keep3 {w7 W W' : World} {a b : Addr} {u v : Value} (k : KF W W') (h : W.cell? a = some u /\ W.cell? b = some v /\ KF w7 W) : W'.cell? a = some u /\ W'.cell? b = some v /\ KF w7 W' :=
 ⟨k.cell h.1 id, k.cell h.2.1 id, h.2.2.trans k⟩
theorem xg1 {W w' : World} (h : w' = W) : KF W w' := by rw [h]; exact xaa.refl _ _
theorem xj9 {W w' : World} (h : ∃ k, w' = W.drewN k) : KF W w' := by obtain ⟨k, rfl⟩ := h; exact (xaa.refl _ _).drawN k
theorem xjK (j : JV) (t : ByteArray) (q1 q2 q3 : Bool) (ht : (t.size : Int) <= 9223372036854775807) (hA : xmD 4) (hL : xcj 5 j q1) (hS : q1 = true -> xcj 6 j q2)
 (hR : q1 = true -> xcj 8 j q3) (hM : q1 = true -> xcj 26 j q3) (hok : q1 = true -> q3 = true -> JOk j) (w : World) :
 Calls prog 3 #[jV j, .string t] w fun e w' => e = .returned (.bool true) /\ KF w w' := by
 unfold xcj at hL hS hR hM
 unfold xmD at hA
 have HA := xa hA
 have HL := xa hL
 have HS := xa hS
 have HR := xa hR
 have HM := xa hM
 have HO := xa hok
 have HT := xa ht
 have hjb := xfC w j
 obtain ⟨w1, hw⟩ : ∃ W, w.alloc (.cells (jCs j) 25) = W := ⟨_, rfl⟩
 rw [hw] at hjb
 have hk1 : KF w w1 := by rw [<- hw]; exact (xaa.refl _ _).alloc _
 have hw2 := hw
 unfold jCs at hw2
 have HW2 := xa hw2
 have HJ := xa hjb
 have HK1 := xa hk1
 clear hw2 hw hjb hk1 hL hS hR hM hA hok ht
 have hLd := xed j
 unfold jV jCs
 go_enter func3, ntmps3
 go_upto_region 1 with fail
 rw [HW2.out]
 clear HW2
 go_wp2_with fail
 refine (HA.out _).mono ?_
 rintro e w2 ⟨rfl, k2⟩
 have HJ2 := xa (HJ.out.keeps k2 id)
 have HK2 := xa (HK1.out.trans k2)
 clear k2 HJ HK1
 go_wp2_with (refine xay rfl 25 (.tmp 2) rfl w.heap.size rfl 25 (jCs j) (0, 0) _ HJ2.out underlying25 rfl hLd ?_)
 refine (HL.out _).mono ?_
 rintro e w3 ⟨rfl, k3⟩
 have HJ3 := xa (HJ2.out.keeps k3 id)
 have HK3 := xa (HK2.out.trans k3)
 clear k3 HJ2 HK2 HL
 generalize Value.agg (jCs j) = z13
 cases q1 with
 | false =>
  go_wp2_with fail
  refine (HA.out _).mono ?_
  rintro e w4 ⟨rfl, k4⟩
  go_wp2
  go_ret
  exact ⟨rfl, HK3.out.trans k4⟩
 | true =>
  go_wp2_with (refine xay rfl 25 (.tmp 2) rfl w.heap.size rfl 25 (jCs j) (0, 0) _ HJ3.out underlying25 rfl hLd ?_)
  refine (HS.out (by simp) _).mono ?_
  rintro e w4 ⟨rfl, k4⟩
  have HJ4 := xa (HJ3.out.keeps k4 id)
  have HK4 := xa (HK3.out.trans k4)
  clear k4 HJ3 HK3 HS
  generalize Value.agg (jCs j) = z18
  cases q2 with
  | false =>
   go_wp2_with fail
   refine (HA.out _).mono ?_
   rintro e w5 ⟨rfl, k5⟩
   go_wp2
   go_ret
   exact ⟨rfl, HK4.out.trans k5⟩
  | true =>
   have HM2 := xa (HM.out (by simp))
   have HR2 := xa (HR.out (by simp))
   have HO2 := xa (HO.out (by simp))
   clear HM HR HO HA
   cases q3 with
   | false =>
    go_wp2_with (refine xay rfl 25 (.tmp 2) rfl w.heap.size rfl 25 (jCs j) (0, 0) _ HJ4.out underlying25 rfl hLd ?_)
    refine (new_no j HM2.out _).mono ?_
    rintro e w5 ⟨rfl, k5⟩
    have HJ5 := xa (HJ4.out.keeps k5 id)
    have HK5 := xa (HK4.out.trans k5)
    clear k5 HJ4 HK4 HM2 HO2
    generalize Value.agg (jCs j) = z24
    go_wp2_with (refine xay rfl 25 (.tmp 2) rfl w.heap.size rfl 25 (jCs j) (0, 0) _ HJ5.out underlying25 rfl hLd ?_)
    refine (HR2.out _).mono ?_
    rintro e w6 ⟨rfl, k6⟩
    have HK6 := xa (HK5.out.trans k6)
    clear k6 HJ5 HK5 HR2
    go_wp2
    go_ret
    exact ⟨rfl, HK6.out⟩
   | true =>
    have hj := HO2.out (by simp)
    have HNew := xa (fun W => new_yes j hj HM2.out W)
    have HJo := xa hj
    clear HM2 HO2 hj
    go_wp2_with (refine xay rfl 25 (.tmp 2) rfl w.heap.size rfl 25 (jCs j) (0, 0) _ HJ4.out underlying25 rfl hLd ?_)
    refine (HNew.out _).mono ?_
    rintro e w5 ⟨p, rfl, hpa, hpn, hpl, k5⟩
    have HJ5 := xa (HJ4.out.keeps k5 id)
    have HK5 := xa (HK4.out.trans k5)
    have HP5 := xa (And.intro hpa (And.intro hpn (fun b hb => Nat.le_trans HK4.out.size (hpl b hb))))
    clear k5 HJ4 HK4 hpa hpn hpl
    generalize Value.agg (jCs j) = z24
    go_wp2_with (refine xay rfl 25 (.tmp 2) rfl w.heap.size rfl 25 (jCs j) (0, 0) _ HJ5.out underlying25 rfl hLd ?_)
    refine (HR2.out _).mono ?_
    rintro e w6 ⟨rfl, k6⟩
    have HJ6 := xa (HJ5.out.keeps k6 id)
    have HK6 := xa (HK5.out.trans k6)
    have HP6 := xa (And.intro (HP5.out.1.keeps k6 (fun _ _ => id)) HP5.out.2)
    clear k6 HJ5 HK5 HP5 HR2
    generalize Value.agg (jCs j) = z28
    go_wp2_with (refine xay rfl 25 (.tmp 2) rfl w.heap.size rfl 25 (jCs j) (0, 0) _ HJ6.out underlying25 rfl hLd ?_)
    refine (HNew.out _).mono ?_
    rintro e w7 ⟨q, rfl, hqa, hqn, hql, k7⟩
    have HJ7 := xa (HJ6.out.keeps k7 id)
    have H7 : Hid (TwoP w j.bu p q w7) := xa ⟨HP6.out.1.keeps k7 (fun _ _ => id), hqa, HP6.out.2.1, HP6.out.2.2, fun b hb => ⟨Nat.le_trans HK6.out.size (hql b hb), fun h => by
     have := hql b hb
     have := HP6.out.1.lt b h
     omega⟩, HK6.out.trans k7⟩
    clear k7 HJ6 HK6 HP6 hqa hqn hql HNew
    generalize Value.agg (jCs j) = z38
    go_upto_region 7 with fail
    go_cut [80] (fun v W => v = .bool false /\ KF w7 W)
    case first =>
     have h9 : xmE w7 9 p.pb (.bool false) := fun W k => (xgI (H7.out.1.keeps k fun _ _ => id)).mono fun _ _ ⟨a, b⟩ => ⟨a, xg1 b⟩
     have h10 : xmE w7 10 p.pb (.bool false) := fun W k => (p_dry (H7.out.1.keeps k fun _ _ => id)).mono fun _ _ ⟨a, b⟩ => ⟨a, xj9 b⟩
     have h11 : xmE w7 11 p.pb (.int .i64 0) := fun W k => p_held0 (H7.out.1.keeps k fun _ _ => id)
     have h12 : xmE w7 12 p.pb (.int .i64 0) := fun W k => (xlj (H7.out.1.keeps k fun _ _ => id)).mono fun _ _ ⟨a, b⟩ => ⟨a, xg1 b⟩
     have h13 : ∀ W, KF w7 W -> Calls prog 13 #[.pointer (some ⟨p.ob, 0, none⟩)] W fun e w' => (∃ a c, e = .returned (.slice a p.n c)) /\ KF W w' := fun W k => p_free (H7.out.1.keeps k fun _ _ => id)
     unfold xmE at h9 h10 h11 h12
     have H9 := xa h9
     have H10 := xa h10
     have H11 := xa h11
     have H12 := xa h12
     have H13 := xa h13
     have x17 : w7.cell? ⟨p.pb, 17, none⟩ = some (.pointer (some ⟨p.ob, 0, none⟩)) := H7.out.1.h.pl
     have x12 : w7.cell? ⟨w.heap.size, 12, none⟩ = some (.int .i64 (p.n : Int)) := by rw [<- H7.out.2.2.1]; exact HJ7.out.d.2.1
     have kd : KF w7 w7.drew := (xaa.refl _ _).drew
     clear h9 h10 h11 h12 h13
     go_region_held3 (fun w' => w'.cell? ⟨p.pb, 17, none⟩ = some (.pointer (some ⟨p.ob, 0, none⟩)) /\ w'.cell? ⟨w.heap.size, 12, none⟩ = some (.int .i64 (p.n : Int)) /\ KF w7 w')
      (first | exact ⟨x17, x12, kd⟩ | exact keep3 k (by assumption))
      (first | (go_at_call 9; refine (H9.out _ ?_).mono ?_; (first | assumption | exact (by assumption : _ /\ _ /\ KF w7 _).2.2); rintro e w' ⟨rfl, k⟩) | (go_at_call 10; refine (H10.out _ ?_).mono ?_; (first | assumption | exact (by assumption : _ /\ _ /\ KF w7 _).2.2); rintro e w' ⟨rfl, k⟩) | (go_at_call 11; refine (H11.out _ ?_).mono ?_; (first | assumption | exact (by assumption : _ /\ _ /\ KF w7 _).2.2); rintro e w' ⟨rfl, k⟩) | (go_at_call 12; refine (H12.out _ ?_).mono ?_; (first | assumption | exact (by assumption : _ /\ _ /\ KF w7 _).2.2); rintro e w' ⟨rfl, k⟩) | (go_at_call 13; refine (H13.out _ ?_).mono ?_; (first | assumption | exact (by assumption : _ /\ _ /\ KF w7 _).2.2); rintro e w' ⟨⟨fa, fc, rfl⟩, k⟩))
     go_wp2
     go_meet
     case rel => exact ⟨by simp, (by assumption : _ /\ _ /\ KF w7 _).2.2⟩
    case rest =>
     obtain ⟨rfl, kc⟩ := hcut
     have HB := xa (And.intro H7.out.2.2.2.1 (And.intro H7.out.2.2.2.2.1 (H7.out.2.2.2.2.2.trans kc)))
     have HQ := xa (H7.out.2.1.keeps kc (fun _ _ => id))
     have HP := xa (H7.out.1.keeps kc (fun _ _ => id))
     have HTc : Hid (xaa (TP p wc.heap.size) wc wc) := xa (xaa.refl _ _)
     have HN : Hid (∀ b, p.has b -> b < wc.heap.size) := xa HP.out.lt
     clear H7 HJ7 kc HJo
     go_wp2_with fail
     refine (p_cut0 HP.out).mono ?_
     rintro e x1 ⟨rfl, h, k⟩
     have HP1 := xa h
     have HT1 := xa (HTc.out.trans (xmL k))
     clear h k HTc HP
     go_wp2_with fail
     refine (p_slip0 HP1.out (by omega) (by omega)).mono ?_
     rintro e w' ⟨rfl, rfl⟩
     go_wp2_with fail
     refine (q_dry HP1.out).mono ?_
     rintro e x2 ⟨rfl, h, k⟩
     have HP2 := xa h
     have HT2 := xa (HT1.out.trans (tk_f k))
     clear h k HT1 HP1
     go_wp2_with fail
     refine (xl HP2.out).mono ?_
     rintro e x3 ⟨rfl, h, k⟩
     have HP3 := xa h
     have HT3 := xa (HT2.out.trans (tk_f k))
     clear h k HT2 HP2
     go_wp2_with fail
     obtain ⟨y1, hy1⟩ : ∃ X, x3.alloc (.cells #[.int .i64 (t.size : Int)] 45) = X := ⟨_, rfl⟩
     rw [hy1]
     have ky1 : KF x3 y1 := by rw [<- hy1]; exact (xaa.refl _ _).alloc _
     have by1 : y1.heap[x3.heap.size]? = some (.cells #[.int .i64 (t.size : Int)] 45 (0, 0)) := by rw [<- hy1]; exact heap_alloc_new _ _
     have sy1 : y1.heap.size = x3.heap.size + 1 := by rw [<- hy1]; simp
     refine (xol x3.heap.size y1.heap.size 0 [] (HP3.out.keeps ky1 fun _ _ => id) (fun b hb => (HP3.out.keeps ky1 fun _ _ => id).lt b hb) (Nat.le_refl _) (by omega) (World.ownsRow_nil _ _ _ _)).mono ?_
     rintro e z1 ⟨rfl, hv1, hP, oR, kR⟩
     have HP20 := xa hP
     have HR1 := xa oR
     have HT20 := xa ((HT3.out.trans (tk_f ky1)).trans (kR.mono fun b _ e => e.elim (fun e => Or.inl (Or.inl e)) (fun e => by simp [Value.ownBlock] at e)))
     have HS1 : Hid (z1.heap[x3.heap.size]? = some (.cells #[.int .i64 (t.size : Int)] 45 (0, 0))) := xa (kR.heap by1 (fun e => e.elim (fun e => by have := HP3.out.lt p.pb (Or.inl rfl); omega) (fun e => by simp [Value.ownBlock] at e)))
     have HZ1 : Hid (y1.heap.size = x3.heap.size + 1 /\ y1.heap.size <= z1.heap.size /\ wc.heap.size <= x3.heap.size) := xa ⟨sy1, kR.size, HT3.out.size⟩
     clear hP oR kR ky1 by1 sy1 hy1 HP3 HT3
     go_wp2_with fail
     obtain ⟨y2, hy2⟩ : ∃ X, z1.alloc (.cells #[.int .i64 2] 45) = X := ⟨_, rfl⟩
     rw [hy2]
     have ky2 : KF z1 y2 := by rw [<- hy2]; exact (xaa.refl _ _).alloc _
     have by2 : y2.heap[z1.heap.size]? = some (.cells #[.int .i64 2] 45 (0, 0)) := by rw [<- hy2]; exact heap_alloc_new _ _
     have sy2 : y2.heap.size = z1.heap.size + 1 := by rw [<- hy2]; simp
     refine (xol z1.heap.size y1.heap.size 1 [xcr x3.heap.size] (HP20.out.keeps ky2 fun _ _ => id) (fun b hb => by have := HN.out b hb; have := HZ1.out; omega) (by have := HZ1.out; omega) (by omega) (by rw [<- hy2]; exact xac HR1.out _)).mono ?_
     rintro e z2 ⟨rfl, hv2, hP, oR, kR⟩
     have hg : ∀ b, hv1.ownBlock = some b -> y1.heap.size <= b /\ b < z1.heap.size := fun b hb => ⟨xab HR1.out b hb, by
      rcases HR1.out.2 with ⟨rfl, h⟩ | ⟨g, cap, cur, rfl, _, hh, _⟩
      · omega
      obtain rfl : g = b := by simpa [Value.ownBlock] using hb
      exact (Array.getElem?_eq_some_iff.1 hh).1⟩
     have HP21 := xa hP
     have HT21 := xa ((HT20.out.trans (tk_f ky2)).trans (kR.mono fun b _ e => e.elim (fun e => Or.inl (Or.inl e)) (fun e => Or.inr (by have := hg b e; have := HZ1.out; omega))))
     have hpb := HN.out p.pb (Or.inl rfl)
     have HS1b := xa (kR.heap (ky2.heap HS1.out id) (fun e => e.elim (fun e => by have := HZ1.out; omega) (fun e => by have := hg _ e; have := HZ1.out; omega)))
     have HS2 := xa (kR.heap by2 (fun e => e.elim (fun e => by have := HZ1.out; omega) (fun e => by have := hg _ e; omega)))
     have HH : Hid (xdY z2 hv2 x3.heap.size z1.heap.size (t.size : Int) 2) := xa (xdY.of oR (by rw [xaj HS1b.out]; rfl) (by rw [xaj HS2.out]; rfl))
     clear hP oR kR ky2 by2 sy2 hy2 hg hpb HP20 HT20 HS1 HR1 HS2
     go_wp2_with fail
     refine (xlk HP21.out HH.out (IntWalk.wrap64_in _ (by have := HT.out; omega))).mono ?_
     rintro e z3 ⟨rfl, k⟩
     have HP22 := xa (HP21.out.keeps k fun _ _ => id)
     have HT22 := xa (HT21.out.trans (tk_f k))
     have HH3 := xa (HH.out.keeps k)
     have HS3 := xa (k.heap HS1b.out id)
     clear k HP21 HT21 HH HS1b
     have f5 : z3.frozen? ⟨x3.heap.size, 0, none⟩ = false := xbb HS3.out 0 none
     have c5 : z3.cell? ⟨x3.heap.size, 0, none⟩ = some (.int .i64 (t.size : Int)) := by rw [xaj HS3.out]; rfl
     go_wp2_with fail
     obtain ⟨z4, hz4⟩ : ∃ X, z3.setCell ⟨x3.heap.size, 0, none⟩ (.int .i64 5) = X := ⟨_, rfl⟩
     rw [hz4]
     have k4 : xaa (fun b => b = x3.heap.size) z3 z4 := by rw [<- hz4]; exact xcu _ _ _ _
     have HH4 : Hid (xdY z4 hv2 x3.heap.size z1.heap.size 5 2) := xa (by rw [<- hz4]; exact HH3.out.turn (by have := HZ1.out; omega) 5)
     have HP23 := xa (HP22.out.keeps k4 fun b hb e => by have := HN.out b hb; have := HZ1.out; omega)
     have HT23 := xa (HT22.out.trans (k4.mono fun b _ e => Or.inr (by have := HZ1.out; omega)))
     clear k4 hz4 f5 c5 HH3 HS3 HP22 HT22
     refine (p_held7 HP23.out HH4.out).mono ?_
     rintro e z5 ⟨rfl, k⟩
     have HP24 := xa (HP23.out.keeps k fun _ _ => id)
     have HT24 := xa (HT23.out.trans (tk_f k))
     clear k HP23 HT23 HH4
     go_wp2_with fail
     refine (p_cut10 HP24.out).mono ?_
     rintro e x31 ⟨rfl, h, k⟩
     have HP31 := xa h
     have HT31 := xa (HT24.out.trans (xmL k))
     clear h k HT24 HP24
     go_wp2_with fail
     refine (p_slip 18 (by omega) HP31.out (by omega) (by omega)).mono ?_
     rintro e x32 ⟨rfl, h, k⟩
     have HP32 := xa h
     have HT32 := xa (HT31.out.trans (tk_pb k))
     clear h k HT31 HP31
     go_wp2_with fail
     refine (xdj HP32.out).mono ?_
     rintro e x33 ⟨rfl, h, k⟩
     have HP33 := xa h
     have HT33 := xa (HT32.out.trans (tk_f k))
     clear h k HT32 HP32
     go_wp2_with fail
     refine (q_dry HP33.out).mono ?_
     rintro e x34 ⟨rfl, h, k⟩
     have HP34 := xa h
     have HT34 := xa (HT33.out.trans (tk_f k))
     clear h k HT33 HP33
     go_wp2_with fail
     refine (xl HP34.out).mono ?_
     rintro e x35 ⟨rfl, h, k⟩
     have HP35 := xa h
     have HT35 := xa (HT34.out.trans (tk_f k))
     have c18 := h.h.ce
     clear h k HT34 HP34
     go_wp2_with fail
     refine (xez HP35.out).mono ?_
     rintro e x36 ⟨rfl, h, k⟩
     have HP36 := xa h
     have HT36 := xa (HT35.out.trans (tk_f k))
     clear h k HT35 HP35
     go_wp2_with fail
     refine (p_stop0 HP36.out).mono ?_
     rintro e x37 ⟨rfl, h, k⟩
     have HP37 := xa h
     have HT37 := xa (HT36.out.trans (xmL k))
     clear h k HT36 HP36
     go_wp2_with fail
     refine (xdj HP37.out).mono ?_
     rintro e x38 ⟨rfl, h, k⟩
     have HP38 := xa h
     have HT38 := xa (HT37.out.trans (tk_f k))
     clear h k HT37 HP37
     go_wp2_with fail
     refine (xm8 HP38.out).mono ?_
     rintro e x39 ⟨rfl, h, k⟩
     have HP39 := xa h
     have HT39 := xa (HT38.out.trans (xmL k))
     clear h k HT38 HP38
     go_wp2_with fail
     refine (xdj HP39.out).mono ?_
     rintro e x40 ⟨rfl, h, k⟩
     have HP40 := xa h
     have HT40 := xa (HT39.out.trans (tk_f k))
     have c18 := h.h.ce
     clear h k HT39 HP39
     go_wp2_with fail
     refine (xez HP40.out).mono ?_
     rintro e x41 ⟨rfl, h, k⟩
     have HP41 := xa h
     have HT41 := xa (HT40.out.trans (tk_f k))
     clear h k HT40 HP40
     go_wp2_with fail
     have HQ1 := xa (HQ.out.keeps HT41.out fun b hb e => e.elim (fun e => (HB.out.2.1 b hb).2 e) (fun e => by have := HQ.out.lt b hb; omega))
     have HW : Hid (xaa (fun b => w.heap.size <= b) w x41) := xa ((HB.out.2.2.mono fun _ _ e => e.elim).trans (HT41.out.mono fun b _ e => e.elim (fun e => HB.out.1 b e) (fun e => Nat.le_trans HB.out.2.2.size e)))
     have HQB : Hid (∀ b, q.has b -> w.heap.size <= b) := xa fun b hb => (HB.out.2.1 b hb).1
     clear HP41 HT41 HQ HB HN HZ1
     refine (p_fail1 12 t (by omega) HQ1.out).mono ?_
     rintro e v1 ⟨rfl, h, k⟩
     have HQ2 := xa h
     have HW2 := xa (HW.out.trans (k.mono fun b _ e => HQB.out b (by rcases e with rfl | rfl <;> simp [PLC.has])))
     clear h k HQ1 HW
     go_wp2_with fail
     refine (p_fail2 14 ⟨#[]⟩ (by omega) (by omega) (by omega) (by omega) (by omega) HQ2.out).mono ?_
     rintro e v2 ⟨rfl, h, k⟩
     have HQ3 := xa h
     have HW3 := xa (HW2.out.trans (k.mono fun b _ e => HQB.out b (by rcases e with rfl | rfl <;> simp [PLC.has])))
     clear h k HQ2 HW2
     go_wp2_with fail
     refine (xdj HQ3.out).mono ?_
     rintro e u4 ⟨rfl, h, k⟩
     have HQ4 := xa h
     have HW4 := xa (HW3.out.trans (k.mono fun _ _ e => e.elim))
     clear h k HQ3 HW3
     go_wp2_with fail
     refine (q_dry HQ4.out).mono ?_
     rintro e u5 ⟨rfl, h, k⟩
     have HQ5 := xa h
     have c18 := h.h.ce
     have HW5 := xa (HW4.out.trans (k.mono fun _ _ e => e.elim))
     clear h k HQ4 HW4
     go_wp2_with fail
     refine (q_cause HQ5.out).mono ?_
     rintro e u6 ⟨rfl, h, k⟩
     have HQ6 := xa h
     clear c18
     have c18 := h.h.ce
     have HW6 := xa (HW5.out.trans (k.mono fun _ _ e => e.elim))
     clear h k HQ5 HW5
     go_wp2_with fail
     refine (q_note HQ6.out).mono ?_
     rintro e u7 ⟨rfl, h, k⟩
     have HQ7 := xa h
     clear c18
     have c18 := h.h.ce
     have HW7 := xa (HW6.out.trans (k.mono fun _ _ e => e.elim))
     clear h k HQ6 HW6
     go_wp2_with fail
     refine (xez HQ7.out).mono ?_
     rintro e u8 ⟨rfl, h, k⟩
     have HW8 := xa (HW7.out.trans (k.mono fun _ _ e => e.elim))
     clear h k HQ7 HW7
     go_wp2
     go_ret
     exact ⟨rfl, HW8.out.mono fun b hb e => by omega⟩
def SlOf {α : Type} (k : Nat) (enc : α -> Nat -> Value) (w : World) (v : Value) (l : List α) : Prop :=
 ∃ a cap, v = .slice a l.length cap /\ (l.length <= cap /\ (a = none -> cap = 0)) /\ l.length <= 4611686018427387904 /\
  (0 < l.length -> ∃ b off, a = some ⟨b, off, none⟩ /\ ∀ i x, l[i]? = some x -> ∀ j, j < k -> w.cell? ⟨b, off + i * k + j, none⟩ = some (enc x j))
theorem SlOf.keeps {α : Type} {k : Nat} {enc : α -> Nat -> Value} {S : Nat -> Prop} {w w' : World} {v : Value} {l : List α} (h : SlOf k enc w v l) (K : xaa S w w') (hs : ∀ b, v.ownBlock = some b -> ¬ S b) : SlOf k enc w' v l := by
 obtain ⟨a, cap, rfl, hl, hl2, hc⟩ := h
 refine ⟨a, cap, rfl, hl, hl2, fun h0 => ?_⟩
 obtain ⟨b, off, rfl, hcc⟩ := hc h0
 exact ⟨b, off, rfl, fun i x hx j hj => K.cell (hcc i x hx j hj) (hs b rfl)⟩
theorem SlOf.keep {α : Type} {k : Nat} {enc : α -> Nat -> Value} {w w' : World} {v : Value} {l : List α} (h : SlOf k enc w v l) (K : KF w w') : SlOf k enc w' v l := h.keeps K (fun _ _ => id)
theorem SlOf.nil {α : Type} (k : Nat) (enc : α -> Nat -> Value) (w : World) : SlOf k enc w (.slice none 0 0) [] := ⟨none, 0, rfl, ⟨Nat.le_refl _, fun _ => rfl⟩, by simp, fun h => by simp at h⟩
def cellsOf {α : Type} (k : Nat) (enc : α -> Nat -> Value) (l : List α) : List Value := l.flatMap fun x => (List.range k).map (enc x)
theorem xai {α : Type} (k : Nat) (enc : α -> Nat -> Value) (l : List α) : (cellsOf k enc l).length = l.length * k := by
 induction l with
 | nil => simp [cellsOf]
 | cons x l ih => simp only [cellsOf, List.flatMap_cons, List.length_append, List.length_map, List.length_range, List.length_cons] at ih ⊢; rw [ih, Nat.add_mul]; omega
theorem xah {α : Type} (k : Nat) (enc : α -> Nat -> Value) (l m : List α) : cellsOf k enc (l ++ m) = cellsOf k enc l ++ cellsOf k enc m := by simp [cellsOf]
theorem xaI {α : Type} (k : Nat) (enc : α -> Nat -> Value) (l : List α) : ∀ i x, l[i]? = some x -> ∀ j, j < k -> (cellsOf k enc l)[i * k + j]? = some (enc x j) := by
 induction l with
 | nil => intro i x hx; simp at hx
 | cons y l ih =>
  intro i x hx j hj
  have e : cellsOf k enc (y :: l) = (List.range k).map (enc y) ++ cellsOf k enc l := by simp [cellsOf]
  rw [e]
  cases i with
  | zero =>
   simp at hx; subst hx
   rw [List.getElem?_append_left (by simp; omega)]; simp [hj]
  | succ i =>
   simp at hx
   rw [List.getElem?_append_right (by simp; rw [Nat.add_mul]; omega)]
   have : (i + 1) * k + j - ((List.range k).map (enc y)).length = i * k + j := by simp; rw [Nat.add_mul]; omega
   rw [this]; exact ih i x hx j hj
theorem SlOf.ofOwn {α : Type} {k : Nat} {enc : α -> Nat -> Value} {w : World} {base : Nat} {e : TypeId} {v : Value} {l : List α} (h : w.ownsRow base e k v l.length (cellsOf k enc l)) (hl : l.length <= 4611686018427387904) : SlOf k enc w v l := by
 rcases h.2 with ⟨rfl, h0⟩ | ⟨g, cap, cur, rfl, hg, hh, hn, hcap, _⟩
 · refine ⟨none, 0, by rw [h0], ⟨by omega, fun _ => rfl⟩, hl, fun hp => by omega⟩
 refine ⟨_, cap, rfl, ⟨hn, (fun h => by cases h)⟩, hl, fun h0 => ⟨g, 0, rfl, fun i x hx j hj => ?_⟩⟩
 have hi : i < l.length := by
  rcases Nat.lt_or_ge i l.length with hi | hi
  · exact hi
  rw [List.getElem?_eq_none hi] at hx; cases hx
 have hb : i * k + j < l.length * k := by
  have : (i + 1) * k <= l.length * k := Nat.mul_le_mul_right k hi
  rw [Nat.add_mul] at this; omega
 have := h.cellAt (i * k + j) hb
 rw [xaI k enc l i x hx j hj] at this
 rw [Nat.zero_add]; exact this
theorem xe2 {α : Type} (k : Nat) (hk : 0 < k) (enc : α -> Nat -> Value) (l : List α) (j : Nat) (u : Value) (h : (cellsOf k enc l)[j]? = some u) : ∃ x, l[j / k]? = some x /\ u = enc x (j % k) := by
 have hlt : j < l.length * k := by
  rw [<- xai k enc l]
  rcases Nat.lt_or_ge j (cellsOf k enc l).length with h1 | h1
  · exact h1
  rw [List.getElem?_eq_none h1] at h; cases h
 have hd : j / k < l.length := (Nat.div_lt_iff_lt_mul hk).2 hlt
 refine ⟨l[j / k], List.getElem?_eq_getElem hd, ?_⟩
 have := xaI k enc l (j / k) _ (List.getElem?_eq_getElem hd) (j % k) (Nat.mod_lt _ hk)
 rw [show j / k * k + j % k = j by rw [Nat.mul_comm]; exact Nat.div_add_mod j k, h] at this
 exact Option.some.inj this
theorem SlOf.news {α : Type} {k : Nat} {enc : α -> Nat -> Value} {w : World} {v : Value} {l : List α} (hk : 0 < k) (h : SlOf k enc w v l) :
 (v = .slice none 0 0 /\ l = []) \/ ∃ x cap, v = .slice (some x) l.length cap /\ ∀ j u, (cellsOf k enc l)[j]? = some u -> w.cell? (x.add j) = some u := by
 obtain ⟨a, cap, rfl, ⟨hl, hn⟩, hl2, hc⟩ := h
 cases a with
 | none =>
  have := hn rfl
  subst this
  have h0 : l = [] := List.length_eq_zero_iff.1 (by omega)
  subst h0
  exact Or.inl ⟨rfl, rfl⟩
 | some x =>
  refine Or.inr ⟨x, cap, rfl, fun j u hj => ?_⟩
  obtain ⟨y, hy, rfl⟩ := xe2 k hk enc l j u hj
  have hp : 0 < l.length := by
   cases l with
   | nil => simp at hy
   | cons _ _ => simp
  obtain ⟨b, off, hb, hcc⟩ := hc hp
  have hb := Option.some.inj hb
  subst hb
  have e := hcc (j / k) y hy (j % k) (Nat.mod_lt _ hk)
  have : (⟨b, off, none⟩ : Addr).add j = ⟨b, off + j / k * k + j % k, none⟩ := by
   unfold Addr.add
   have h2 : j / k * k + j % k = j := by rw [Nat.mul_comm]; exact Nat.div_add_mod j k
   split
   · simp_all
   simp only [Nat.add_assoc, h2]
  rw [this]; exact e
def in64 (n : Int) : Prop := -9223372036854775808 <= n /\ n <= 9223372036854775807
def isB (r : Int) : Bool := decide (0 <= r) && decide (r <= 1114111) && (decide (r < 55296) || decide (57344 <= r))
def sizP (r : Int) : Int := if isB r then (if r < 128 then 1 else if r < 2048 then 2 else if r < 65536 then 3 else 4) else 0
def lenP (c : Nat) : Nat := if c < 128 then 1 else if 194 <= c /\ c < 224 then 2 else if 224 <= c /\ c < 240 then 3 else if 240 <= c /\ c < 245 then 4 else 0
theorem xeQ (r : Int) (w : World) : Calls prog 75 #[.int .i64 r] w fun e w' => e = .returned (.bool (isB r)) /\ w = w' := by
 by_cases h0 : 0 <= r
 · by_cases h1 : r <= 1114111
   · have g0 : decide (0 <= r) = true := by simpa using h0
     have g1 : decide (r <= 1114111) = true := by simpa using h1
     by_cases h2 : r < 55296
     · have e : isB r = true := by simp [isB, h0, h1, h2]
       have g2 : decide (r < 55296) = true := by simpa using h2
       rw [e]
       go_enter func75, ntmps75
       go_wp2
       go_ret
       exact ⟨rfl, rfl⟩
     have g2 : decide (r < 55296) = false := by simp; omega
     by_cases h3 : 57344 <= r
     · have e : isB r = true := by simp [isB, h0, h1, h3]
       have g3 : decide (57344 <= r) = true := by simpa using h3
       rw [e]
       go_enter func75, ntmps75
       go_wp2
       go_ret
       exact ⟨rfl, rfl⟩
     have e : isB r = false := by simp [isB, h2]; omega
     have g3 : decide (57344 <= r) = false := by simp; omega
     rw [e]
     go_enter func75, ntmps75
     go_wp2
     go_ret
     exact ⟨rfl, rfl⟩
   have e : isB r = false := by simp [isB]; omega
   have g0 : decide (0 <= r) = true := by simpa using h0
   have g1 : decide (r <= 1114111) = false := by simp; omega
   rw [e]
   go_enter func75, ntmps75
   go_wp2
   go_ret
   exact ⟨rfl, rfl⟩
 have e : isB r = false := by simp [isB]; omega
 have g0 : decide (0 <= r) = false := by simp; omega
 rw [e]
 go_enter func75, ntmps75
 go_wp2
 go_ret
 exact ⟨rfl, rfl⟩
theorem xbx (r : Int) (w : World) : Calls prog 90 #[.int .i64 r] w fun e w' => e = .returned (.int .i64 (sizP r)) /\ w = w' := by
 have HI := xa (fun W => xeQ r W)
 have He : Hid (sizP r = if isB r then (if r < 128 then 1 else if r < 2048 then 2 else if r < 65536 then 3 else 4) else 0) := xa rfl
 generalize sizP r = q at He
 cases hb : isB r with
 | false =>
  rw [hb] at HI He
  simp only [Bool.false_eq_true, if_false] at He
  clear hb
  go_enter func90, ntmps90
  go_wp2_with fail
  refine (HI.out _).mono ?_
  rintro e w1 ⟨rfl, rfl⟩
  go_wp2
  go_ret
  exact ⟨by rw [He.out]; rfl, rfl⟩
 | true =>
  rw [hb] at HI He
  simp only [if_true] at He
  clear hb
  by_cases h1 : r < 128
  · have E : Hid (q = 1) := xa (by rw [He.out, if_pos h1])
    clear He
    go_enter func90, ntmps90
    go_wp2_with fail
    refine (HI.out _).mono ?_
    rintro e w1 ⟨rfl, rfl⟩
    go_wp2
    go_ret
    exact ⟨by rw [E.out]; rfl, rfl⟩
  have g1 : decide (r < 128) = false := by simp; omega
  by_cases h2 : r < 2048
  · have E : Hid (q = 2) := xa (by rw [He.out, if_neg h1, if_pos h2])
    clear He
    go_enter func90, ntmps90
    go_wp2_with fail
    refine (HI.out _).mono ?_
    rintro e w1 ⟨rfl, rfl⟩
    go_wp2
    go_ret
    exact ⟨by rw [E.out]; rfl, rfl⟩
  have g2 : decide (r < 2048) = false := by simp; omega
  by_cases h3 : r < 65536
  · have E : Hid (q = 3) := xa (by rw [He.out, if_neg h1, if_neg h2, if_pos h3])
    clear He
    go_enter func90, ntmps90
    go_wp2_with fail
    refine (HI.out _).mono ?_
    rintro e w1 ⟨rfl, rfl⟩
    go_wp2
    go_ret
    exact ⟨by rw [E.out]; rfl, rfl⟩
  have g3 : decide (r < 65536) = false := by simp; omega
  have E : Hid (q = 4) := xa (by rw [He.out, if_neg h1, if_neg h2, if_neg h3])
  clear He
  go_enter func90, ntmps90
  go_wp2_with fail
  refine (HI.out _).mono ?_
  rintro e w1 ⟨rfl, rfl⟩
  go_wp2
  go_ret
  exact ⟨by rw [E.out]; rfl, rfl⟩
theorem xdn (a : Nat) (ha : a < 9223372036854775808) : (BitVec.ofInt 64 (a : Int)).toNat = a := by
 rw [BitVec.ofInt_natCast, BitVec.toNat_ofNat]; exact Nat.mod_eq_of_lt (by omega)
theorem or_64 (a b : Nat) (ha : a < 1099511627776) (hb : b < 64) : bits .or .i64 ((a : Int) * 64) (b : Int) = (a : Int) * 64 + b := by
 have e : (a : Int) * 64 = ((a * 64 : Nat) : Int) := by omega
 rw [e]
 show IntKind.i64.wrap ((BitVec.ofInt 64 ((a * 64 : Nat) : Int) ||| BitVec.ofInt 64 (b : Int)).toNat : Int) = _
 rw [BitVec.toNat_or, xdn _ (by omega), xdn _ (by omega)]
 have h := Nat.shiftLeft_add_eq_or_of_lt (i := 6) (show b < 2 ^ 6 by omega) a
 rw [Nat.shiftLeft_eq] at h
 rw [show a * 64 = a * 2 ^ 6 by omega, <- h, IntKind.wrap_i64]
 omega
theorem xii (n k : Nat) (hk : k < 16) (hn : n < 256) : bits .and .i64 (n : Int) ((2 ^ k - 1 : Nat) : Int) = ((n % 2 ^ k : Nat) : Int) := by
 have hp : 2 ^ k <= 2 ^ 16 := Nat.pow_le_pow_right (by omega) (by omega)
 show IntKind.i64.wrap ((BitVec.ofInt 64 (n : Int) &&& BitVec.ofInt 64 ((2 ^ k - 1 : Nat) : Int)).toNat : Int) = _
 rw [BitVec.toNat_and, xdn _ (by omega), xdn _ (by omega), Nat.and_two_pow_sub_one_eq_mod, IntKind.wrap_i64]
 have : n % 2 ^ k <= n := Nat.mod_le _ _
 omega
def xbk (r : Nat) : List UInt8 -> Option Nat
 | [] => some r
 | c :: l => if c.toNat / 64 = 2 then xbk (r * 64 + c.toNat % 64) l else none
def xbP (c : UInt8) : Nat := if 1 < lenP c.toNat then c.toNat % 2 ^ (7 - lenP c.toNat) else c.toNat
def getP : List UInt8 -> Int × Nat
 | [] => (65533, 0)
 | c :: l => if lenP c.toNat = 0 \/ l.length + 1 < lenP c.toNat then (65533, 1) else
  match xbk (xbP c) (l.take (lenP c.toNat - 1)) with
  | none => (65533, 1)
  | some r => if sizP r = lenP c.toNat then (r, lenP c.toNat) else (65533, 1)
theorem xj8 (c : Nat) (w : World) (hc : c < 256) : Calls prog 104 #[.int .u8 (c : Int)] w fun e w' => e = .returned (.int .i64 (lenP c)) /\ w = w' := by
 have He : Hid (lenP c = if c < 128 then 1 else if 194 <= c /\ c < 224 then 2 else if 224 <= c /\ c < 240 then 3 else if 240 <= c /\ c < 245 then 4 else 0) := xa rfl
 generalize lenP c = q at *
 have gg : (c < 128 /\ q = 1) \/ (128 <= c /\ c < 194 /\ q = 0) \/ (194 <= c /\ c < 224 /\ q = 2) \/ (224 <= c /\ c < 240 /\ q = 3) \/ (240 <= c /\ c < 245 /\ q = 4) \/ (245 <= c /\ q = 0) := by
  have h := He.out
  split at h
  · left; omega
  split at h
  · omega
  split at h
  · omega
  split at h <;> omega
 clear He
 rcases gg with ⟨h1, rfl⟩ | ⟨h1, h2, rfl⟩ | ⟨h1, h2, rfl⟩ | ⟨h1, h2, rfl⟩ | ⟨h1, h2, rfl⟩ | ⟨h1, rfl⟩
 · have g1 : decide ((c : Int) < 128) = true := by simp; omega
   go_enter func104, ntmps104
   go_wp2
   go_ret
   exact ⟨rfl, rfl⟩
 all_goals
  have g1 : decide ((c : Int) < 128) = false := by simp; omega
  obtain ⟨b1, e1⟩ : ∃ b, decide ((194 : Int) <= (c : Int)) = b := ⟨_, rfl⟩
  obtain ⟨b2, e2⟩ : ∃ b, decide ((c : Int) < 224) = b := ⟨_, rfl⟩
  obtain ⟨b3, e3⟩ : ∃ b, decide ((224 : Int) <= (c : Int)) = b := ⟨_, rfl⟩
  obtain ⟨b4, e4⟩ : ∃ b, decide ((c : Int) < 240) = b := ⟨_, rfl⟩
  obtain ⟨b5, e5⟩ : ∃ b, decide ((240 : Int) <= (c : Int)) = b := ⟨_, rfl⟩
  obtain ⟨b6, e6⟩ : ∃ b, decide ((c : Int) < 245) = b := ⟨_, rfl⟩
  cases b1 <;> cases b2 <;> cases b3 <;> cases b4 <;> cases b5 <;> cases b6 <;> first | (exfalso; simp at e1 e2 e3 e4 e5 e6; omega) | skip
  all_goals
   go_enter func104, ntmps104
   go_wp2
   go_ret
   exact ⟨rfl, rfl⟩
def GetR (r0 : Nat) (L : List UInt8) (rv iv : Value) : Prop :=
 ∃ (i r : Nat), iv = .int .i64 i /\ i <= L.length /\ rv = .int .i64 r /\ r < 128 * 64 ^ i /\ xbk r0 L = xbk r (L.drop i)
theorem xnE (b off cap n : Nat) (c : UInt8) (l : List UInt8) (w : World) (hn : n = l.length + 1) (hcap : n <= cap)
 (hc : ∀ i x, (c :: l)[i]? = some x -> w.cell? ⟨b, off + i, none⟩ = some (.int .u8 (x.toNat : Int))) :
 Calls prog 89 #[.slice (some ⟨b, off, none⟩) n cap] w fun e w' => e = .returned (.tuple #[.int .i64 (getP (c :: l)).1, .int .i64 ((getP (c :: l)).2 : Int)]) /\ w = w' := by
 have hc8 := c.toNat_lt
 have c0 := hc 0 c rfl
 simp only [Nat.add_zero] at c0
 have HC := xa hc
 clear hc
 have HL := xa (fun W => xj8 c.toNat W (by omega))
 have hn1 : 1 <= n := by omega
 have hn0 : ((n : Int) == 0) = false := by simp; omega
 have Hn := xa hn
 have Hg : Hid (getP (c :: l) = if lenP c.toNat = 0 \/ l.length + 1 < lenP c.toNat then (65533, 1) else
  match xbk (xbP c) (l.take (lenP c.toNat - 1)) with
  | none => (65533, 1)
  | some r => if sizP r = lenP c.toNat then ((r : Int), lenP c.toNat) else (65533, 1)) := xa rfl
 generalize getP (c :: l) = G at *
 have Hh : Hid (xbP c = if 1 < lenP c.toNat then c.toNat % 2 ^ (7 - lenP c.toNat) else c.toNat) := xa rfl
 clear hn
 have hq : lenP c.toNat = 0 \/ lenP c.toNat = 1 \/ lenP c.toNat = 2 \/ lenP c.toNat = 3 \/ lenP c.toNat = 4 := by
  unfold lenP; split; · omega
  · split; · omega
    · split; · omega
      · split <;> omega
 by_cases hbad : lenP c.toNat = 0 \/ n < lenP c.toNat
 · have E : Hid (G = (65533, 1)) := xa (by rw [Hg.out]; exact if_pos (by have := Hn.out; omega))
   clear Hg Hh
   generalize lenP c.toNat = q at *
   by_cases h0 : q = 0
   · subst h0
     go_enter func89, ntmps89
     go_wp2_with fail
     refine (HL.out _).mono ?_
     rintro e w1 ⟨rfl, rfl⟩
     go_wp2
     go_ret2
     exact ⟨by rw [E.out]; rfl, rfl⟩
   have g1 : ((q : Int) == 0) = false := by simp; omega
   have g2 : decide ((n : Int) < (q : Int)) = true := by simp; omega
   have g3 : decide (n < q) = true := by simp; omega
   clear hbad hq
   go_enter func89, ntmps89
   go_wp2_with fail
   refine (HL.out _).mono ?_
   rintro e w1 ⟨rfl, rfl⟩
   go_wp2
   go_ret2
   exact ⟨by rw [E.out]; rfl, rfl⟩
 have E : Hid (G = match xbk (xbP c) (l.take (lenP c.toNat - 1)) with
 | none => (65533, 1)
 | some r => if sizP r = lenP c.toNat then ((r : Int), lenP c.toNat) else (65533, 1)) := xa (by rw [Hg.out]; exact if_neg (by have := Hn.out; omega))
 clear Hg
 have hL : (l.take (lenP c.toNat - 1)).length = lenP c.toNat - 1 := by rw [List.length_take]; have := Hn.out; omega
 have HcL : Hid (∀ i x, (l.take (lenP c.toNat - 1))[i]? = some x -> w.cell? ⟨b, off + 1 + i, none⟩ = some (.int .u8 (x.toNat : Int))) := xa (fun i x hx => by
  rw [show off + 1 + i = off + (i + 1) by omega]
  refine HC.out (i + 1) x ?_
  rw [List.getElem?_take] at hx
  split at hx
  · simpa using hx
  cases hx)
 generalize l.take (lenP c.toNat - 1) = L at *
 generalize xbP c = r0 at *
 by_cases h1 : lenP c.toNat = 1
 · rw [h1] at HL Hh E hL
   have hc128 : c.toNat < 128 := by
    unfold lenP at h1
    split at h1
    · assumption
    split at h1
    · omega
    split at h1
    · omega
    split at h1 <;> omega
   have hr0 : Hid (r0 = c.toNat) := xa (by rw [Hh.out]; rfl)
   have hr0b : r0 < 128 := by rw [hr0.out]; omega
   have hLl : L.length = 0 := by omega
   clear Hh hL hbad hq h1
   have g2 : decide ((n : Int) < 1) = false := by simp; omega
   by_cases hc1 : cap = 1
   · subst hc1
     obtain rfl : n = 1 := by omega
     go_enter func89, ntmps89
     go_wp2_with fail
     refine (HL.out _).mono ?_
     rintro e w1 ⟨rfl, rfl⟩
     go_wp2_with fail
     go_loop [5, 39] (fun rv iv => GetR r0 L rv iv) (fun _ iv => L.length - (intOf iv).toNat)
     case atStart => exact ⟨0, r0, rfl, Nat.zero_le _, by rw [hr0.out], by omega, rfl⟩
     case round =>
      obtain ⟨i, r, rfl, hi, rfl, hr, ht⟩ := hrel
      have hi4 : i <= 3 := by omega
      have hrb : r < 33554432 := by
       have : 64 ^ i <= 64 ^ 3 := Nat.pow_le_pow_right (by omega) hi4
       omega
      have Ht := xa ht
      have Hr := xa hr
      clear ht hr
      by_cases hil : i < L.length
      · exact absurd hil (by omega)
      have hLi : i = L.length := by omega
      have EE : Hid (G = if sizP r = ((1 : Nat) : Int) then ((r : Int), 1) else (65533, 1)) := xa (by rw [E.out, Ht.out, List.drop_eq_nil_of_le (by omega), xbk])
      have HS := xa (fun W => xbx r W)
      by_cases hs : sizP r = 1
      · have E2 : Hid (G = ((r : Int), 1)) := xa (by rw [EE.out]; exact if_pos hs)
        rw [hs] at HS
        clear EE hs hLi
        go_wp2_with fail
        refine (HS.out _).mono ?_
        rintro e w1 ⟨rfl, rfl⟩
        go_wp2
        go_ret2
        exact ⟨by rw [E2.out]; rfl, rfl⟩
      have E2 : Hid (G = (65533, 1)) := xa (by rw [EE.out]; exact if_neg hs)
      have g5 : (sizP r != 1) = true := by simp only [bne_iff_ne, ne_eq]; exact hs
      clear EE hs hLi
      generalize sizP r = sz at *
      go_wp2_with fail
      refine (HS.out _).mono ?_
      rintro e w1 ⟨rfl, rfl⟩
      go_wp2
      go_ret2
      exact ⟨by rw [E2.out]; rfl, rfl⟩
   have g4 : ¬ cap - 1 = 0 := by omega
   go_enter func89, ntmps89
   go_wp2_with fail
   refine (HL.out _).mono ?_
   rintro e w1 ⟨rfl, rfl⟩
   go_wp2_with fail
   go_loop [5, 39] (fun rv iv => GetR r0 L rv iv) (fun _ iv => L.length - (intOf iv).toNat)
   case atStart => exact ⟨0, r0, rfl, Nat.zero_le _, by rw [hr0.out], by omega, rfl⟩
   case round =>
    obtain ⟨i, r, rfl, hi, rfl, hr, ht⟩ := hrel
    have hi4 : i <= 3 := by omega
    have hrb : r < 33554432 := by
     have : 64 ^ i <= 64 ^ 3 := Nat.pow_le_pow_right (by omega) hi4
     omega
    have Ht := xa ht
    have Hr := xa hr
    clear ht hr
    by_cases hil : i < L.length
    · exact absurd hil (by omega)
    have hLi : i = L.length := by omega
    have EE : Hid (G = if sizP r = ((1 : Nat) : Int) then ((r : Int), 1) else (65533, 1)) := xa (by rw [E.out, Ht.out, List.drop_eq_nil_of_le (by omega), xbk])
    have HS := xa (fun W => xbx r W)
    by_cases hs : sizP r = 1
    · have E2 : Hid (G = ((r : Int), 1)) := xa (by rw [EE.out]; exact if_pos hs)
      rw [hs] at HS
      clear EE hs hLi
      go_wp2_with fail
      refine (HS.out _).mono ?_
      rintro e w1 ⟨rfl, rfl⟩
      go_wp2
      go_ret2
      exact ⟨by rw [E2.out]; rfl, rfl⟩
    have E2 : Hid (G = (65533, 1)) := xa (by rw [EE.out]; exact if_neg hs)
    have g5 : (sizP r != 1) = true := by simp only [bne_iff_ne, ne_eq]; exact hs
    clear EE hs hLi
    generalize sizP r = sz at *
    go_wp2_with fail
    refine (HS.out _).mono ?_
    rintro e w1 ⟨rfl, rfl⟩
    go_wp2
    go_ret2
    exact ⟨by rw [E2.out]; rfl, rfl⟩
 have hq2 : lenP c.toNat = 2 \/ lenP c.toNat = 3 \/ lenP c.toNat = 4 := by omega
 clear hq h1
 rcases hq2 with h2 | h2 | h2
 · rw [h2] at HL Hh E hL
   have hr0 : Hid (r0 = c.toNat % 2 ^ (7 - 2)) := xa (by rw [Hh.out]; rfl)
   have hr0b : r0 < 128 := by rw [hr0.out]; omega
   have hqn : 2 <= n := by omega
   have hLl : L.length = 2 - 1 := hL
   have g2 : decide ((n : Int) < 2) = false := by simp; omega
   have g4 : ¬ cap = 1 := by omega
   clear hL hbad h2 Hh
   go_enter func89, ntmps89
   go_wp2_with fail
   refine (HL.out _).mono ?_
   rintro e w1 ⟨rfl, rfl⟩
   go_wp2_with fail
   go_loop [5, 39] (fun rv iv => GetR r0 L rv iv) (fun _ iv => L.length - (intOf iv).toNat)
   case atStart => exact ⟨0, r0, rfl, Nat.zero_le _, by rw [hr0.out]; have h6 := xii c.toNat 5 (by omega) (by omega); exact congrArg (Value.int .i64) (by simpa using h6), by omega, rfl⟩
   case round =>
    obtain ⟨i, r, rfl, hi, rfl, hr, ht⟩ := hrel
    have hi4 : i <= 3 := by omega
    have hrb : r < 33554432 := by
     have : 64 ^ i <= 64 ^ 3 := Nat.pow_le_pow_right (by omega) hi4
     omega
    have Ht := xa ht
    have Hr := xa hr
    clear ht hr
    by_cases hil : i < L.length
    · obtain ⟨x, hx⟩ : ∃ x, L[i]? = some x := ⟨_, List.getElem?_eq_getElem hil⟩
      have cx := HcL.out i x hx
      have Hd : Hid (L.drop i = x :: L.drop (i + 1)) := xa (by
       obtain ⟨h1, h2⟩ := List.getElem?_eq_some_iff.1 hx
       rw [List.drop_eq_getElem_cons h1, h2])
      have hx8 := x.toNat_lt
      have hil2 : i < 2 - 1 := by omega
      clear hx
      by_cases hx2 : x.toNat / 64 = 2
      · have g3 : ((x.toNat : Int) / 64 != 2) = false := by
         have : (x.toNat : Int) / 64 = 2 := by omega
         rw [this]; rfl
        have Hx2 := xa hx2
        clear hx2
        go_wp2_with fail
        go_round
        case rel =>
         refine ⟨i + 1, r * 64 + x.toNat % 64, by go_num, by omega, ?_, ?_, ?_⟩
         · have := or_64 r (x.toNat % 64) (by omega) (by omega)
           rw [show ((x.toNat : Int) % 64) = ((x.toNat % 64 : Nat) : Int) by omega, this]
           exact congrArg (Value.int .i64) (by omega)
         · have h5 := Hr.out
           rw [Nat.pow_succ]; omega
         rw [Ht.out, Hd.out, xbk, if_pos Hx2.out]
        case measure => simp [intOf]; omega
      have g3 : ((x.toNat : Int) / 64 != 2) = true := by
       simp only [bne_iff_ne, ne_eq]; omega
      have EE : Hid (G = (65533, 1)) := xa (by rw [E.out, Ht.out, Hd.out, xbk, if_neg hx2])
      clear hx2
      go_wp2
      go_ret2
      exact ⟨by rw [EE.out]; rfl, rfl⟩
    have hLi : i = L.length := by omega
    have EE : Hid (G = if sizP r = ((2 : Nat) : Int) then ((r : Int), 2) else (65533, 1)) := xa (by rw [E.out, Ht.out, List.drop_eq_nil_of_le (by omega), xbk])
    have HS := xa (fun W => xbx r W)
    by_cases hs : sizP r = 2
    · have E2 : Hid (G = ((r : Int), 2)) := xa (by rw [EE.out]; exact if_pos hs)
      rw [hs] at HS
      clear EE hs hLi
      go_wp2_with fail
      refine (HS.out _).mono ?_
      rintro e w1 ⟨rfl, rfl⟩
      go_wp2
      go_ret2
      exact ⟨by rw [E2.out]; rfl, rfl⟩
    have E2 : Hid (G = (65533, 1)) := xa (by rw [EE.out]; exact if_neg hs)
    have g5 : (sizP r != 2) = true := by simp only [bne_iff_ne, ne_eq]; exact hs
    clear EE hs hLi
    generalize sizP r = sz at *
    go_wp2_with fail
    refine (HS.out _).mono ?_
    rintro e w1 ⟨rfl, rfl⟩
    go_wp2
    go_ret2
    exact ⟨by rw [E2.out]; rfl, rfl⟩
 · rw [h2] at HL Hh E hL
   have hr0 : Hid (r0 = c.toNat % 2 ^ (7 - 3)) := xa (by rw [Hh.out]; rfl)
   have hr0b : r0 < 128 := by rw [hr0.out]; omega
   have hqn : 3 <= n := by omega
   have hLl : L.length = 3 - 1 := hL
   have g2 : decide ((n : Int) < 3) = false := by simp; omega
   have g4 : ¬ cap = 1 := by omega
   clear hL hbad h2 Hh
   go_enter func89, ntmps89
   go_wp2_with fail
   refine (HL.out _).mono ?_
   rintro e w1 ⟨rfl, rfl⟩
   go_wp2_with fail
   go_loop [5, 39] (fun rv iv => GetR r0 L rv iv) (fun _ iv => L.length - (intOf iv).toNat)
   case atStart => exact ⟨0, r0, rfl, Nat.zero_le _, by rw [hr0.out]; have h6 := xii c.toNat 4 (by omega) (by omega); exact congrArg (Value.int .i64) (by simpa using h6), by omega, rfl⟩
   case round =>
    obtain ⟨i, r, rfl, hi, rfl, hr, ht⟩ := hrel
    have hi4 : i <= 3 := by omega
    have hrb : r < 33554432 := by
     have : 64 ^ i <= 64 ^ 3 := Nat.pow_le_pow_right (by omega) hi4
     omega
    have Ht := xa ht
    have Hr := xa hr
    clear ht hr
    by_cases hil : i < L.length
    · obtain ⟨x, hx⟩ : ∃ x, L[i]? = some x := ⟨_, List.getElem?_eq_getElem hil⟩
      have cx := HcL.out i x hx
      have Hd : Hid (L.drop i = x :: L.drop (i + 1)) := xa (by
       obtain ⟨h1, h2⟩ := List.getElem?_eq_some_iff.1 hx
       rw [List.drop_eq_getElem_cons h1, h2])
      have hx8 := x.toNat_lt
      have hil2 : i < 3 - 1 := by omega
      clear hx
      by_cases hx2 : x.toNat / 64 = 2
      · have g3 : ((x.toNat : Int) / 64 != 2) = false := by
         have : (x.toNat : Int) / 64 = 2 := by omega
         rw [this]; rfl
        have Hx2 := xa hx2
        clear hx2
        go_wp2_with fail
        go_round
        case rel =>
         refine ⟨i + 1, r * 64 + x.toNat % 64, by go_num, by omega, ?_, ?_, ?_⟩
         · have := or_64 r (x.toNat % 64) (by omega) (by omega)
           rw [show ((x.toNat : Int) % 64) = ((x.toNat % 64 : Nat) : Int) by omega, this]
           exact congrArg (Value.int .i64) (by omega)
         · have h5 := Hr.out
           rw [Nat.pow_succ]; omega
         rw [Ht.out, Hd.out, xbk, if_pos Hx2.out]
        case measure => simp [intOf]; omega
      have g3 : ((x.toNat : Int) / 64 != 2) = true := by
       simp only [bne_iff_ne, ne_eq]; omega
      have EE : Hid (G = (65533, 1)) := xa (by rw [E.out, Ht.out, Hd.out, xbk, if_neg hx2])
      clear hx2
      go_wp2
      go_ret2
      exact ⟨by rw [EE.out]; rfl, rfl⟩
    have hLi : i = L.length := by omega
    have EE : Hid (G = if sizP r = ((3 : Nat) : Int) then ((r : Int), 3) else (65533, 1)) := xa (by rw [E.out, Ht.out, List.drop_eq_nil_of_le (by omega), xbk])
    have HS := xa (fun W => xbx r W)
    by_cases hs : sizP r = 3
    · have E2 : Hid (G = ((r : Int), 3)) := xa (by rw [EE.out]; exact if_pos hs)
      rw [hs] at HS
      clear EE hs hLi
      go_wp2_with fail
      refine (HS.out _).mono ?_
      rintro e w1 ⟨rfl, rfl⟩
      go_wp2
      go_ret2
      exact ⟨by rw [E2.out]; rfl, rfl⟩
    have E2 : Hid (G = (65533, 1)) := xa (by rw [EE.out]; exact if_neg hs)
    have g5 : (sizP r != 3) = true := by simp only [bne_iff_ne, ne_eq]; exact hs
    clear EE hs hLi
    generalize sizP r = sz at *
    go_wp2_with fail
    refine (HS.out _).mono ?_
    rintro e w1 ⟨rfl, rfl⟩
    go_wp2
    go_ret2
    exact ⟨by rw [E2.out]; rfl, rfl⟩
 rw [h2] at HL Hh E hL
 have hr0 : Hid (r0 = c.toNat % 2 ^ (7 - 4)) := xa (by rw [Hh.out]; rfl)
 have hr0b : r0 < 128 := by rw [hr0.out]; omega
 have hqn : 4 <= n := by omega
 have hLl : L.length = 4 - 1 := hL
 have g2 : decide ((n : Int) < 4) = false := by simp; omega
 have g4 : ¬ cap = 1 := by omega
 clear hL hbad h2 Hh
 go_enter func89, ntmps89
 go_wp2_with fail
 refine (HL.out _).mono ?_
 rintro e w1 ⟨rfl, rfl⟩
 go_wp2_with fail
 go_loop [5, 39] (fun rv iv => GetR r0 L rv iv) (fun _ iv => L.length - (intOf iv).toNat)
 case atStart => exact ⟨0, r0, rfl, Nat.zero_le _, by rw [hr0.out]; have h6 := xii c.toNat 3 (by omega) (by omega); exact congrArg (Value.int .i64) (by simpa using h6), by omega, rfl⟩
 case round =>
  obtain ⟨i, r, rfl, hi, rfl, hr, ht⟩ := hrel
  have hi4 : i <= 3 := by omega
  have hrb : r < 33554432 := by
   have : 64 ^ i <= 64 ^ 3 := Nat.pow_le_pow_right (by omega) hi4
   omega
  have Ht := xa ht
  have Hr := xa hr
  clear ht hr
  by_cases hil : i < L.length
  · obtain ⟨x, hx⟩ : ∃ x, L[i]? = some x := ⟨_, List.getElem?_eq_getElem hil⟩
    have cx := HcL.out i x hx
    have Hd : Hid (L.drop i = x :: L.drop (i + 1)) := xa (by
     obtain ⟨h1, h2⟩ := List.getElem?_eq_some_iff.1 hx
     rw [List.drop_eq_getElem_cons h1, h2])
    have hx8 := x.toNat_lt
    have hil2 : i < 4 - 1 := by omega
    clear hx
    by_cases hx2 : x.toNat / 64 = 2
    · have g3 : ((x.toNat : Int) / 64 != 2) = false := by
       have : (x.toNat : Int) / 64 = 2 := by omega
       rw [this]; rfl
      have Hx2 := xa hx2
      clear hx2
      go_wp2_with fail
      go_round
      case rel =>
       refine ⟨i + 1, r * 64 + x.toNat % 64, by go_num, by omega, ?_, ?_, ?_⟩
       · have := or_64 r (x.toNat % 64) (by omega) (by omega)
         rw [show ((x.toNat : Int) % 64) = ((x.toNat % 64 : Nat) : Int) by omega, this]
         exact congrArg (Value.int .i64) (by omega)
       · have h5 := Hr.out
         rw [Nat.pow_succ]; omega
       rw [Ht.out, Hd.out, xbk, if_pos Hx2.out]
      case measure => simp [intOf]; omega
    have g3 : ((x.toNat : Int) / 64 != 2) = true := by
     simp only [bne_iff_ne, ne_eq]; omega
    have EE : Hid (G = (65533, 1)) := xa (by rw [E.out, Ht.out, Hd.out, xbk, if_neg hx2])
    clear hx2
    go_wp2
    go_ret2
    exact ⟨by rw [EE.out]; rfl, rfl⟩
  have hLi : i = L.length := by omega
  have EE : Hid (G = if sizP r = ((4 : Nat) : Int) then ((r : Int), 4) else (65533, 1)) := xa (by rw [E.out, Ht.out, List.drop_eq_nil_of_le (by omega), xbk])
  have HS := xa (fun W => xbx r W)
  by_cases hs : sizP r = 4
  · have E2 : Hid (G = ((r : Int), 4)) := xa (by rw [EE.out]; exact if_pos hs)
    rw [hs] at HS
    clear EE hs hLi
    go_wp2_with fail
    refine (HS.out _).mono ?_
    rintro e w1 ⟨rfl, rfl⟩
    go_wp2
    go_ret2
    exact ⟨by rw [E2.out]; rfl, rfl⟩
  have E2 : Hid (G = (65533, 1)) := xa (by rw [EE.out]; exact if_neg hs)
  have g5 : (sizP r != 4) = true := by simp only [bne_iff_ne, ne_eq]; exact hs
  clear EE hs hLi
  generalize sizP r = sz at *
  go_wp2_with fail
  refine (HS.out _).mono ?_
  rintro e w1 ⟨rfl, rfl⟩
  go_wp2
  go_ret2
  exact ⟨by rw [E2.out]; rfl, rfl⟩
def ptsP : Nat -> List UInt8 -> Option (List Int)
 | 0, _ => some []
 | f + 1, l => if l = [] then some [] else if sizP (getP l).1 = (getP l).2 then (ptsP f (l.drop (getP l).2)).map ((getP l).1 :: ·) else none
theorem xcA (c : UInt8) (l : List UInt8) : getP (c :: l) = if lenP c.toNat = 0 \/ l.length + 1 < lenP c.toNat then (65533, 1) else
 match xbk (xbP c) (l.take (lenP c.toNat - 1)) with
 | none => (65533, 1)
 | some r => if sizP r = lenP c.toNat then ((r : Int), lenP c.toNat) else (65533, 1) := rfl
theorem xdy (c : UInt8) (l : List UInt8) : 1 <= (getP (c :: l)).2 /\ (getP (c :: l)).2 <= 4 := by
 have hq : lenP c.toNat <= 4 := by unfold lenP; split <;> (try split) <;> (try split) <;> (try split) <;> omega
 rw [xcA]
 by_cases h : lenP c.toNat = 0 \/ l.length + 1 < lenP c.toNat
 · rw [if_pos h]; simp
 rw [if_neg h]
 split
 · simp
 split
 · simp; omega
 simp
theorem xlX (c : UInt8) (l : List UInt8) : (getP (c :: l)).2 <= l.length + 1 := by
 rw [xcA]
 by_cases h : lenP c.toNat = 0 \/ l.length + 1 < lenP c.toNat
 · rw [if_pos h]; simp
 rw [if_neg h]
 split
 · simp
 split
 · simp; omega
 simp
def pts (l : List UInt8) : Option (List Int) := ptsP l.length l
theorem xdx : (prog.info? 3).map (fun i => (i.zero, i.size, i.bytes)) = some (some (.int .i64 0), 1, 8) := by kernel_rfl
def BS (X : Nat) (w : World) (v : Value) (rest : List UInt8) : Prop :=
 ∃ a cap, v = .slice a rest.length cap /\ rest.length <= cap /\ (rest ≠ [] -> ∃ off, a = some ⟨X, off, none⟩ /\ ∀ i x, rest[i]? = some x -> w.cell? ⟨X, off + i, none⟩ = some (.int .u8 (x.toNat : Int)))
def PtsR (l : List UInt8) (X base : Nat) (w1 : World) (ov bv : Value) (wr : World) : Prop :=
 ∃ (f : Nat) (rest : List UInt8) (acc : List Int), rest.length <= f /\ acc.length + rest.length <= l.length /\ BS X wr bv rest /\ wr.ownsRow base 3 1 ov acc.length (acc.map (Value.int .i64)) /\ xaa (fun k => base <= k) w1 wr /\ pts l = (ptsP f rest).map (acc ++ ·)
def PtsE (base : Nat) (l : List UInt8) (e : Ending) (w' : World) : Prop :=
 match pts l with
 | none => e = .returned (.tuple #[.slice none 0 0, .bool false])
 | some rs => ∃ v, e = .returned (.tuple #[v, .bool true]) /\ w'.ownsRow base 3 1 v rs.length (rs.map (Value.int .i64))
def xb0 : Value -> Nat
 | .slice _ n _ => n
 | _ => 0
theorem xjI (l : List UInt8) (w : World) (hl : l.length <= 100000) :
 Calls prog 70 #[.string ⟨l.toArray⟩] w fun e w' => PtsE w.heap.size l e w' /\ KF w w' := by
 obtain ⟨i0, hi0, hz0, hz1, hz2⟩ := info_parts xdx
 have Hs : Hid ((⟨l.toArray⟩ : ByteArray).data.toList = l) := rfl
 have Hz : Hid ((⟨l.toArray⟩ : ByteArray).size = l.length) := by show l.toArray.size = _; simp
 generalize (⟨l.toArray⟩ : ByteArray) = s at *
 go_enter func70, ntmps70
 go_upto_region 2 with fail
 have hconv := fun W => Lib.run_convert_string_bytes (P := prog) W 9 22 5 s underlying9 underlying22 underlying5
 go_wp2_with fail
 clear hconv
 have hW0 : KF w (Lib.bytesWorld w 5 s) := ⟨rfl, rfl, rfl, by rw [Lib.bytesWorld_size]; omega, fun k hk _ => Lib.bytesWorld_at_old w 5 s k hk⟩
 have hX0 : ∀ j x, l[j]? = some x -> (Lib.bytesWorld w 5 s).cell? ⟨w.heap.size, 0 + j, none⟩ = some (.int .u8 (x.toNat : Int)) := fun j x hx => by
  have hj : j < l.length := (List.getElem?_eq_some_iff.1 hx).1
  have := Lib.bytesWorld_cell w 5 s j (by rw [Hz.out]; exact hj)
  rw [Hs.out, List.getD_eq_getElem?_getD, hx] at this
  rw [Nat.zero_add]; exact this
 have hsz : (Lib.bytesWorld w 5 s).heap.size = w.heap.size + 1 := Lib.bytesWorld_size _ _ _
 have hcp := grownCap_ge w s.size 0 5
 have hcp2 := grownCap_le_maxLen w s.size 0 5 (by rw [Hz.out]; unfold maxLen; omega)
 generalize grownCap w s.size 0 5 = cp at *
 generalize Lib.bytesWorld w 5 s = w1 at *
 unfold maxLen at hcp2
 rw [Hz.out] at hcp ⊢
 have hB0 : BS w.heap.size w1 (.slice (some ⟨w.heap.size, 0, none⟩) l.length cp) l := ⟨_, cp, rfl, hcp, fun _ => ⟨0, rfl, hX0⟩⟩
 clear hX0 Hs Hz
 have Hsz := xa hsz
 clear hsz
 go_loopw [4, 5] (fun ov bv wr => PtsR l w.heap.size (w.heap.size + 1) w1 ov bv wr) (fun _ bv _ => xb0 bv)
 case atStart => exact ⟨l.length, l, [], Nat.le_refl _, by simp, hB0, World.ownsRow_nil _ _ _ _, xaa.refl _ _, by unfold pts; simp⟩
 case round =>
  clear hB0
  obtain ⟨f, rest, acc, hf, hlen, hB, hown, hk, hp⟩ := hrel
  have HB := xa hB
  obtain ⟨a, cap, rfl, hcap, hcell⟩ := hB
  obtain ⟨va, vc, rfl⟩ := xad hown
  have hsw : w.heap.size + 1 <= wr.heap.size := by have := hk.size; rw [Hsz.out] at this; exact this
  have hkw : KF w wr := (hW0.trans2 (T := fun k => w.heap.size + 1 <= k) hk (fun i hi e => by omega))
  have Hp := xa hp
  clear hp
  cases rest with
  | nil =>
   have E : Hid (pts l = some acc) := xa (by rw [Hp.out]; cases f <;> simp [ptsP])
   clear hcell
   go_wp2
   go_ret2
   refine ⟨?_, hkw⟩
   unfold PtsE
   rw [E.out]
   exact ⟨_, rfl, ⟨hown.1, hown.2.imp id (fun ⟨g, c, cur, h1, h2, h3⟩ => ⟨g, c, cur, h1, by omega, h3⟩)⟩⟩
  | cons c t =>
   obtain ⟨g, rfl⟩ : ∃ g, f = g + 1 := ⟨f - 1, by simp at hf; omega⟩
   obtain ⟨off, rfl, hcc⟩ := hcell (by simp)
   have HC := xa hcc
   have hp1 := (xdy c t).1
   have hp2 := xlX c t
   have E : Hid (pts l = (if sizP (getP (c :: t)).1 = (getP (c :: t)).2 then (ptsP g ((c :: t).drop (getP (c :: t)).2)).map ((getP (c :: t)).1 :: ·) else none).map (acc ++ ·)) := xa (by rw [Hp.out, ptsP, if_neg (by simp)])
   have HG := xa (xnE w.heap.size off cap (t.length + 1) c t wr rfl (by simpa using hcap) hcc)
   clear hcc hcell Hp
   generalize getP (c :: t) = G at *
   obtain ⟨r, n⟩ := G
   simp only at hp1 hp2 E HG
   have HS := xa (fun W => xbx r W)
   have hlc : (c :: t).length = t.length + 1 := rfl
   simp only [List.length_cons] at hcap hf hlen hlc
   by_cases hs : sizP r = n
   · have E2 : Hid (pts l = ((ptsP g ((c :: t).drop n)).map (r :: ·)).map (acc ++ ·)) := xa (by rw [E.out, if_pos hs])
     rw [hs] at HS
     have hdl : ((c :: t).drop n).length = t.length + 1 - n := by simp
     have hdc : ∀ i x, ((c :: t).drop n)[i]? = some x -> wr.cell? ⟨w.heap.size, off + n + i, none⟩ = some (.int .u8 (x.toNat : Int)) := fun i x hx => by
      rw [List.getElem?_drop] at hx
      rw [Nat.add_assoc]; exact HC.out (n + i) x hx
     have Hdl := xa hdl
     have Hdc := xa hdc
     clear hs E hdl hdc
     generalize (c :: t).drop n = rest' at *
     have hgo : ∀ (o' : Nat) (v' : Value) (w2 : World), w2.ownsRow (w.heap.size + 1) 3 1 v' (acc ++ [r]).length ((acc ++ [r]).map (Value.int .i64)) -> xaa (fun k => w.heap.size + 1 <= k) w1 w2 -> xaa (fun k => w.heap.size + 1 <= k) wr w2 -> (n < cap -> o' = off + n) -> PtsR l w.heap.size (w.heap.size + 1) w1 v' (.slice (some ⟨w.heap.size, o', none⟩) (t.length + 1 - n) (cap - n)) w2 := by
      intro o' v' w2 h1 h2 h3 h4
      refine ⟨g, rest', acc ++ [r], by rw [Hdl.out]; omega, by rw [Hdl.out]; simp; omega, ?_, h1, h2, ?_⟩
      · refine ⟨some ⟨w.heap.size, o', none⟩, cap - n, by rw [Hdl.out], by rw [Hdl.out]; omega, fun hne => ?_⟩
        have h5 : 0 < rest'.length := List.length_pos_iff.2 hne
        rw [Hdl.out] at h5
        refine ⟨o', rfl, fun i x hx => ?_⟩
        rw [h4 (by omega)]
        exact h3.cell (Hdc.out i x hx) (by show ¬ w.heap.size + 1 <= w.heap.size; omega)
      rw [E2.out, Option.map_map]
      congr 1
      funext q; simp
     have HGo := xa hgo
     clear hgo
     by_cases hcn : cap = n
     · subst hcn
       go_wp2_with fail
       refine HG.out.mono ?_
       rintro e w2 ⟨rfl, rfl⟩
       go_wp2_with fail
       refine (HS.out _).mono ?_
       rintro e w2 ⟨rfl, rfl⟩
       go_wp2_with (at_builtin; refine wpList_append_own _ rfl (.tmp 22) (.tmp 24) 23 rfl (w.heap.size + 1) 3 i0 (.int .i64 0) 1 8 underlying23 hi0 hz0 hz1 hz2 rfl (by decide) _ _ _ rfl (xac hown _) ⟨wr.heap.size, 0, none⟩ 1 1 [.int .i64 r] rfl rfl (by exact xaq _ [_] _) (by intro u hu; simp at hu; subst hu; rfl) ?d3 ?d4 ?d5 ?_)
       case d3 => unfold maxLen; omega
       case d4 => omega
       case d5 => simp; omega
       intro v' w2 hown' hgrow _
       have hk2 : xaa (fun k => w.heap.size + 1 <= k) wr w2 := ((xaa.refl _ wr).alloc _).grown hgrow (fun b hb => Or.inl (xab hown b hb))
       have hown2 : w2.ownsRow (w.heap.size + 1) 3 1 v' (acc ++ [r]).length ((acc ++ [r]).map (Value.int .i64)) := by simpa using hown'
       have Hown2 := xa hown2
       clear hown' hgrow hown2
       go_wp2
       go_roundw
       case rel => first | exact HGo.out _ _ _ Hown2.out (hk.trans hk2) hk2 (fun h => by first | rfl | omega) | (have h9 := HGo.out off _ _ Hown2.out (hk.trans hk2) hk2 (fun h => by omega); rw [show t.length + 1 - cap = 0 by omega, Nat.sub_self] at h9; exact h9)
       case measure => first | (simp [xb0]; done) | (simp [xb0]; omega)
     have hcn2 : n < cap := by omega
     go_wp2_with fail
     refine HG.out.mono ?_
     rintro e w2 ⟨rfl, rfl⟩
     go_wp2_with fail
     refine (HS.out _).mono ?_
     rintro e w2 ⟨rfl, rfl⟩
     go_wp2_with (at_builtin; refine wpList_append_own _ rfl (.tmp 22) (.tmp 24) 23 rfl (w.heap.size + 1) 3 i0 (.int .i64 0) 1 8 underlying23 hi0 hz0 hz1 hz2 rfl (by decide) _ _ _ rfl (xac hown _) ⟨wr.heap.size, 0, none⟩ 1 1 [.int .i64 r] rfl rfl (by exact xaq _ [_] _) (by intro u hu; simp at hu; subst hu; rfl) ?d3 ?d4 ?d5 ?_)
     case d3 => unfold maxLen; omega
     case d4 => omega
     case d5 => simp; omega
     intro v' w2 hown' hgrow _
     have hk2 : xaa (fun k => w.heap.size + 1 <= k) wr w2 := ((xaa.refl _ wr).alloc _).grown hgrow (fun b hb => Or.inl (xab hown b hb))
     have hown2 : w2.ownsRow (w.heap.size + 1) 3 1 v' (acc ++ [r]).length ((acc ++ [r]).map (Value.int .i64)) := by simpa using hown'
     have Hown2 := xa hown2
     clear hown' hgrow hown2
     go_wp2
     go_roundw
     case rel => first | exact HGo.out _ _ _ Hown2.out (hk.trans hk2) hk2 (fun h => by first | rfl | omega) | (have h9 := HGo.out off _ _ Hown2.out (hk.trans hk2) hk2 (fun h => by omega); rw [show t.length + 1 - cap = 0 by omega, Nat.sub_self] at h9; exact h9)
     case measure => first | (simp [xb0]; done) | (simp [xb0]; omega)
   have E2 : Hid (pts l = none) := xa (by rw [E.out, if_neg hs]; rfl)
   have g1 : (sizP r != (n : Int)) = true := by simp only [bne_iff_ne, ne_eq]; exact hs
   clear hs E
   generalize sizP r = sz at *
   go_wp2_with fail
   refine HG.out.mono ?_
   rintro e w2 ⟨rfl, rfl⟩
   go_wp2_with fail
   refine (HS.out _).mono ?_
   rintro e w2 ⟨rfl, rfl⟩
   go_wp2
   go_ret2
   refine ⟨?_, hkw⟩
   unfold PtsE
   rw [E2.out]
   rfl
end Go.Proofs.YtapmdhejgnplaaaGreat
