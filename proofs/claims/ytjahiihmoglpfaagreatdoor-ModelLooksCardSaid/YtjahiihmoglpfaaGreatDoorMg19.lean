/-
  Several texts in one: (*maker).rep, walked. (*maker).node at every tree. A quoted text, in plain Lean: what it is, what it parses to. lit.Prefix at leaves, at Cat and Alt. strings.Builder in a block of the call's own: what its methods do, with what else stays as it was. strings.Repeat at one octet, twice. strings.HasPrefix.
-/
import Derived.Test.YtjahiihmoglpfaaGreatDoorMg18
import Derived.Test.YtjahiihmoglpfaaGreatDoorMg8
import Derived.Test.YtjahiihmoglpfaaGreatDoorMg17
import Derived.Test.YtjahiihmoglpfaaGreatDoorMg1
import Derived.Test.YtjahiihmoglpfaaGreatDoorProg
import Derived.Lib.Builder
import Derived.Lib.AppendStr
import Derived.Lib.UnsafeStr
import Derived.Laws.Externs
import Derived.Laws.IdiomCopy
import Derived.Test.YtjahiihmoglpfaaGreatDoorShelf
import Derived.Shelf.Strings.BuilderF
namespace Go.Proofs.YtjahiihmoglpfaaGreatDoor
open Go.RowKit
set_option linter.unusedVariables false
set_option linter.unusedSimpArgs false
set_option maxRecDepth 100000
theorem xj4 (p : Cd) : ∀ n, n ≤ optN p n
 | 0 => Nat.le_refl _
 | n + 1 => by have := xj4 p n; simp only [optN]; omega
set_option maxHeartbeats 16000000 in
theorem xlJ (k : T) (p : Cd) (hk : xbX k p.1 p.2) (an : Nat) (mx : Int) (hmx : mx < 0 ∨ (an : Int) ≤ mx) (hmx2 : -1 ≤ mx ∧ mx ≤ 1000) (han : an ≤ 1000) (P B : Nat → Prop) (a1 a : Option Addr) (n1 c1 c mb : Nat) (w0 w : World) (is : List Ins) (ha : KRow w0 P a [k]) (k0 : xaa (fun _ => False) w0 w) (hmb1 : w0.heap.size ≤ mb)
 (hmb : ¬ B mb) (hb : ∀ b, w.heap.size ≤ b → B b) (hB : ∀ b, B b → w0.heap.size ≤ b) (hn : is.length + repN p an mx ≤ 2500) (hM : MkAt B w mb is) :
 Calls Tryz.prog 107 #[.pointer (some ⟨mb, 0, none⟩), .agg #[.int .i64 6, .slice a1 n1 c1, .int .i64 an, .int .i64 mx, .slice a 1 c]] w fun e w' => NdE B mb (is ++ repC p an mx is.length) w e w' := by
 obtain ⟨i0, hi0, hz0, hz1, hz2⟩ := info_parts xbM
 obtain ⟨b, off, uo, d1, f1, g1, um, ux, d2, f2, g2, rfl, hu, hlt0, x0, x1, x2, x3, x4⟩ := ha.kid k0 (i := 0) rfl
 simp only [Nat.zero_mul, Nat.add_zero] at x0 x1 x2 x3 x4
 have hlt : b < w.heap.size := xan x0
 have hmw : mb < w.heap.size := hM.lt
 obtain ⟨w2, hw2⟩ : ∃ W, W = (w.alloc (.cells #[.int .i64 6, .slice a1 n1 c1, .int .i64 an, .int .i64 mx, .slice (some ⟨b, off, none⟩) 1 c] 52)).alloc (.cells #[.int .i64 uo, .slice d1 f1 g1, .int .i64 um, .int .i64 ux, .slice d2 f2 g2] 52) := ⟨_, rfl⟩
 have k02 : xaa (fun _ => False) w w2 := by rw [hw2]; exact ((xaa.refl _ _).alloc _).alloc _
 have hs2 : w2.heap.size = w.heap.size + 2 := by rw [hw2]; simp
 have hMn : w2.cell? ⟨w.heap.size, 2, none⟩ = some (.int .i64 (an : Int)) := by rw [hw2]; exact xaj (by simp [go_sem]) _
 have hMx : w2.cell? ⟨w.heap.size, 3, none⟩ = some (.int .i64 mx) := by rw [hw2]; exact xaj (by simp [go_sem]) _
 have t0 : w2.cell? ⟨w.heap.size + 1, 0, none⟩ = some (.int .i64 uo) := by rw [hw2]; simp [go_sem]
 have t1 : w2.cell? ⟨w.heap.size + 1, 1, none⟩ = some (.slice d1 f1 g1) := by rw [hw2]; simp [go_sem]
 have t2 : w2.cell? ⟨w.heap.size + 1, 2, none⟩ = some (.int .i64 um) := by rw [hw2]; simp [go_sem]
 have t3 : w2.cell? ⟨w.heap.size + 1, 3, none⟩ = some (.int .i64 ux) := by rw [hw2]; simp [go_sem]
 have t4 : w2.cell? ⟨w.heap.size + 1, 4, none⟩ = some (.slice d2 f2 g2) := by rw [hw2]; simp [go_sem]
 obtain ⟨B2, hB2⟩ : ∃ B2 : Nat → Prop, B2 = fun x => B x ∧ ¬ (x = w.heap.size ∨ x = w.heap.size + 1) := ⟨_, rfl⟩
 have b2a : ¬ B2 mb := by rw [hB2]; exact fun h => hmb h.1
 have b2b : ∀ x, w.heap.size + 2 ≤ x → B2 x := fun x h => by rw [hB2]; exact ⟨hb x (by omega), by omega⟩
 have b2c : ∀ x, B2 x → w0.heap.size ≤ x := fun x h => by rw [hB2] at h; exact hB x h.1
 have b2e : ∀ x, B2 x → B x := fun x h => by rw [hB2] at h; exact h.1
 have hM2 : MkAt B2 w2 mb is := by
  rw [hB2]
  exact (hM.but (fun x => x = w.heap.size ∨ x = w.heap.size + 1) (fun x e => by omega)).keepsF k02
 have hfar0 : ¬ (fun x => x = mb ∨ B2 x) w.heap.size := fun h => by
  rcases h with h | h
  · omega
  rw [hB2] at h; exact h.2 (Or.inl rfl)
 have hfar1 : ¬ (fun x => x = mb ∨ B2 x) (w.heap.size + 1) := fun h => by
  rcases h with h | h
  · omega
  rw [hB2] at h; exact h.2 (Or.inr rfl)
 have HT : Hid (∀ W, xaa (fun x => x = mb ∨ B2 x) w2 W → W.cell? ⟨w.heap.size + 1, 0, none⟩ = some (.int .i64 uo) ∧ W.cell? ⟨w.heap.size + 1, 1, none⟩ = some (.slice d1 f1 g1) ∧ W.cell? ⟨w.heap.size + 1, 2, none⟩ = some (.int .i64 um) ∧ W.cell? ⟨w.heap.size + 1, 3, none⟩ = some (.int .i64 ux) ∧ W.cell? ⟨w.heap.size + 1, 4, none⟩ = some (.slice d2 f2 g2) ∧ W.cell? ⟨w.heap.size, 3, none⟩ = some (.int .i64 mx) ∧ W.cell? ⟨w.heap.size, 2, none⟩ = some (.int .i64 (an : Int)) ∧ w.heap.size + 2 ≤ W.heap.size) :=
  xmA fun W K => ⟨K.cell t0 hfar1, K.cell t1 hfar1, K.cell t2 hfar1, K.cell t3 hfar1, K.cell t4 hfar1, K.cell hMx hfar0, K.cell hMn hfar0, by have := K.size; omega⟩
 have HNd : Hid (∀ (C : Nat → Prop) W is', (∀ x, C x → B2 x) → (∀ x, W.heap.size ≤ x → C x) → xaa (fun x => x = mb ∨ B2 x) w2 W → is'.length + p.2 ≤ 2500 → MkAt C W mb is' → Calls Tryz.prog 64 #[.pointer (some ⟨mb, 0, none⟩), .agg #[.int .i64 uo, .slice d1 f1 g1, .int .i64 um, .int .i64 ux, .slice d2 f2 g2]] W fun e w' => NdE C mb (is' ++ p.1 is'.length) W e w') := by
  refine xmA fun C W is' hC hf K hl hM => ?_
  exact hk.run P C ⟨uo, .slice d1 f1 g1, um, ux, .slice d2 f2 g2⟩ w0 W mb is' hu ((k0.trans k02).trans2 K (fun x hx e => by
   rcases e with e | e
   · omega
   have := b2c x e; omega)) hmb1 (fun h => b2a (hC mb h)) hf (fun x h => b2c x (hC x h)) hl hM
 have HE : Hid (∀ W, xaa (fun x => x = mb ∨ B2 x) w2 W → xaa (fun x => x = mb ∨ B x) w W) := xmA fun W K => (k02.mono (fun _ _ e => e.elim)).trans2 K (fun x hx e => e.imp id (b2e x))
 have HE' := HE
 have HL := xmA hk.len
 have HM2 := xmA hM2
 obtain ⟨R1, hR1⟩ : ∃ R, is ++ xcg p an is.length = R := ⟨_, rfl⟩
 have hR1l : R1.length = is.length + xbc p an := by rw [← hR1, List.length_append, xds hk.len]
 have hfin : is ++ repC p an mx is.length = R1 ++ if mx < 0 then xiR p R1.length else optC p (mx.toNat - an) R1.length (R1.length + optN p (mx.toNat - an)) := by
  unfold repC
  rw [← List.append_assoc, hR1, hR1l]
 rw [hfin]
 unfold repN at hn
 have HR1 := xmA hR1
 have HR1l := xmA hR1l
 clear ha hu k0 t0 t1 t2 t3 t4 hMx hM2 hfin hR1 hR1l hM hk k02 hB2
 go_enter Tryz.func107, Tryz.ntmps107
 go_wp2_with fail
 rw [← hw2]
 clear hw2 x0 x1 x2 x3 x4 hMn
 go_loopw [15] (fun iv wr => Rp1 p an R1 (is.length + xbc p an) B2 mb w2 iv wr) (fun iv _ => an - (intOf iv).toNat)
 case atStart => exact ⟨0, an, is, rfl, by omega, HM2.out, rfl, HR1.out, xaa.refl _ _⟩
 case round =>
  clear HM2
  obtain ⟨i, r, is', rfl, hir, hM, hl, hf, hk⟩ := hrel
  have HM := xmA hM
  have HF := xmA hf
  have K := xmA hk
  obtain ⟨t0, t1, t2, t3, t4, t5, t6, hsz⟩ := HT.out wr K.out
  clear hM hf hk
  rcases r with _ | r
  · obtain rfl : i = an := by omega
    have HI : Hid (is' = R1) := xmA (by have h := HF.out; simpa [xcg] using h)
    have HM1 : Hid (MkAt B2 wr mb R1) := xmA (by rw [← HI.out]; exact HM.out)
    have hl1 := HR1l.out
    clear HF HI HM hl
    have hl1b : R1.length ≤ 2500 := by omega
    by_cases hm : mx < 0
    · have g1 : decide (mx < 0) = true := by simpa using hm
      rw [if_pos hm] at hn
      have hA : R1.length + (p.2 + 2) ≤ 2500 := by omega
      clear t0 t1 t2 t3 t4 hl1 hn
      have HSp := xmA (xcB B2 mb R1 wr HM1.out b2a (fun x h => b2b x (by omega)) (by omega))
      go_wp2_with fail
      refine HSp.out.mono ?_
      rintro e w3 ⟨rfl, h3, k3⟩
      have k23 := K.out.trans k3
      have K3 := xmA k23
      obtain ⟨t0, t1, t2, t3, t4, t7, t8, hsz3⟩ := HT.out w3 k23
      have hLs : (R1 ++ [(⟨2, [], R1.length + 1, 0⟩ : Ins)]).length = R1.length + 1 := by simp
      have hrun := HNd.out B2 w3 _ (fun _ h => h) (fun x h => b2b x (by omega)) k23 (by rw [hLs]; omega) h3
      rw [hLs] at hrun
      have HS := xmA hrun
      clear h3 k3 k23 hrun HSp t7 t8
      go_wp2_with fail
      refine HS.out.mono ?_
      rintro e w4 ⟨rfl, h4, k4⟩
      have k24 := K3.out.trans k4
      obtain ⟨_, _, _, _, _, _, _, hsz4⟩ := HT.out w4 k24
      obtain ⟨cc, hcc⟩ : ∃ cc, p.1 (R1.length + 1) = cc := ⟨_, rfl⟩
      have hccl : cc.length = p.2 := by rw [← hcc]; exact HL.out _
      rw [hcc] at h4
      have HCC := xmA hcc
      have hL4 : (R1 ++ [(⟨2, [], R1.length + 1, 0⟩ : Ins)] ++ cc).length = R1.length + 1 + cc.length := by simp; omega
      have hJ := xgu B2 mb R1.length _ w4 h4 b2a (fun x h => b2b x (by omega)) (by rw [hL4]; omega) (by omega)
      rw [hL4] at hJ
      have HJ := xmA hJ
      have K4 := xmA k24
      clear h4 k4 hJ hcc HS t0 t1 t2 t3 t4 k24
      go_wp2_with fail
      refine HJ.out.mono ?_
      rintro e w5 ⟨rfl, h5, k5⟩
      have K5 := xmA (K4.out.trans k5)
      obtain ⟨is5, his5⟩ : ∃ l, l = R1 ++ [(⟨2, [], R1.length + 1, 0⟩ : Ins)] ++ cc ++ [⟨2, [], R1.length, R1.length⟩] := ⟨_, rfl⟩
      rw [← his5] at h5
      have hl5 : is5.length = R1.length + p.2 + 2 := by rw [his5]; simp; omega
      have hx5 : is5[R1.length]? = some ⟨2, [], R1.length + 1, 0⟩ := by rw [his5]; simp
      have hset : is5.set R1.length ⟨2, [], R1.length + 1, is5.length⟩ = R1 ++ xiR p R1.length := by
       unfold xiR
       rw [HCC.out, hl5, his5]
       simp [List.set_append_right]
      obtain ⟨g, cap, ivs, hO⟩ := h5.mko (by omega)
      obtain ⟨iv, hiv⟩ := hO.last (k := R1.length) (by omega)
      have c0 : w5.cell? ⟨mb, 0, none⟩ = some (.slice (some ⟨g, 0, none⟩) is5.length cap) := by rw [Lib.cell_of_heap hO.bk]; rfl
      have y3 := hO.cell hiv (j := 3) (by omega)
      have f3 := hO.own.frozenAt (R1.length * 4 + 3)
      have hgB := hO.gB
      have hgm : g ≠ mb := fun h => b2a (h ▸ hgB)
      have hmg : mb ≠ g := fun h => hgm h.symm
      have hXY := (hO.setXY b2a hiv hx5 0 is5.length).2.2
      simp only [hset] at hXY
      have HXY := xmA hXY
      have e3 : encP iv 3 = .int .i64 iv.y := rfl
      rw [e3] at y3
      have hl5a : R1.length < is5.length := by omega
      have hl5b : is5.length ≤ 2502 := by omega
      clear hl5 h5 k5 his5 hx5 hset hO hiv hXY e3 hccl HJ
      go_wp2_with fail
      go_region
      all_goals
       go_wp2_with fail
       refine bodyPost_ret (results_none rfl _ _ _) rfl ?_
       obtain ⟨ivs', hM5⟩ := HXY.out
       exact ⟨rfl, (hM5.at.mono b2e).keepsF (xaa.refl (fun _ => False) _).drew, HE.out _ ((K5.out.set (p := ⟨g, R1.length * 4 + 3, none⟩) (Or.inr hgB) _).drew)⟩
    have g1 : decide (mx < 0) = false := by simpa using hm
    rw [if_neg hm] at hn
    obtain ⟨n, rfl⟩ : ∃ n : Nat, mx = (i : Int) + (n : Int) := ⟨(mx - i).toNat, by omega⟩
    have hmn : ((i : Int) + (n : Int)).toNat - i = n := by omega
    rw [hmn] at hn
    have hon := xj4 p n
    have hA : R1.length + optN p n ≤ 2500 := by omega
    clear hl1 hn
    have HMn := xmA hmn
    have HME : Hid (MkE B2 wr mb R1 (.slice none 0 0) []) := xmA ⟨HM1.out.mono (fun x hx => ⟨hx, by simp [Value.ownBlock]⟩), ⟨rfl, Or.inl ⟨rfl, rfl⟩⟩, fun x e => by simp [Value.ownBlock] at e⟩
    clear t0 t1 t2 t3 t4 hmn hmx
    go_wp2_with fail
    go_loopw [6, 49] (fun sv iv wr => Rp2 p n (fun E => R1 ++ optC p n R1.length E) (R1.length + optN p n) B2 mb w2 sv iv wr) (fun _ iv _ => n - (intOf iv).toNat)
    case atStart => exact ⟨0, n, R1, [], rfl, by omega, rfl, HME.out, rfl, fun e he => by simp at he, fun E => rfl, K.out⟩
    case round =>
     clear HME HM1 t5 t6 hsz K
     obtain ⟨j, r, is', es, rfl, hjr, hesl, hE, hlen, hes, hpat, hk⟩ := hrel
     have HE := xmA hE
     have HPat := xmA hpat
     have K := xmA hk
     have HEs := xmA hes
     obtain ⟨ea, ec, rfl⟩ := xad hE.row
     obtain ⟨t0, t1, t2, t3, t4, t5, t6, hsz⟩ := HT.out wr K.out
     have hesb : es.length ≤ n := by omega
     have Hesl := xmA hesl
     clear hE hpat hk hes hesl
     rcases r with _ | r
     · obtain rfl : j = n := by omega
       clear t0 t1 t2 t3 t4 t5 t6
       simp only [optN, Nat.add_zero] at hlen
       obtain ⟨EE, hEE⟩ : ∃ E, is'.length = E := ⟨_, rfl⟩
       have HEE := xmA hEE
       have HEq : Hid (R1.length + optN p j = EE) := xmA (by omega)
       have HR2 : Hid (xbB es EE is' = R1 ++ optC p j R1.length EE) := xmA (by have h := HPat.out EE; simpa [optC] using h)
       have HEs2 : Hid (∀ e ∈ es, e < EE ∧ ∃ y, is'[e]? = some ⟨2, [], e + 1, y⟩) := xmA (fun e he => by rw [← hEE]; exact HEs.out e he)
       obtain ⟨RR, hRR⟩ : ∃ R, R1 ++ optC p j R1.length EE = R := ⟨_, rfl⟩
       rw [hRR] at HR2
       have HRR := xmA hRR
       clear hEE hlen hRR HEs HPat
       go_wp2_with fail
       go_loopw [62] (fun iv wr => Rp3 B2 mb EE es RR (.slice ea es.length ec) w2 iv wr) (fun iv _ => es.length - (intOf iv).toNat)
       case atStart => exact ⟨0, is', rfl, Nat.zero_le _, HE.out, HEE.out, by rw [List.drop_zero]; exact HEs2.out, HR2.out, K.out⟩
       case round =>
        clear HE HEs2 HR2 K HEE
        obtain ⟨m, is2, rfl, hj, hE, hL2, hes2, hp2, hk⟩ := hrel
        have HE3 := xmA hE
        have HK3 := xmA hk
        have HP3 := xmA hp2
        have HS3 := xmA hes2
        clear hE hk hp2 hes2
        by_cases hjl : m < es.length
        · obtain ⟨e, he⟩ : ∃ e, es[m]? = some e := ⟨_, List.getElem?_eq_getElem hjl⟩
          have hdr : es.drop m = e :: es.drop (m + 1) := by
           obtain ⟨h1, h2⟩ := List.getElem?_eq_some_iff.1 he
           rw [List.drop_eq_getElem_cons h1, h2]
          obtain ⟨hel, y, hex⟩ := HS3.out e (by rw [hdr]; simp)
          obtain ⟨ge, gcap, hgv, _, _⟩ := (HE3.out.row).form (by omega)
          obtain ⟨rfl, _, rfl⟩ := Value.slice.inj hgv
          have ce : wr.cell? ⟨ge, m, none⟩ = some (.int .i64 (e : Int)) := by
           have hr := HE3.out.row
           unfold ownN at hr
           rw [hr.cellAt m (by omega), List.getElem?_map, he]; rfl
          obtain ⟨g, cap, ivs, hO⟩ := HE3.out.mkr.mko (by omega)
          rw [hL2] at hO
          obtain ⟨iv, hiv⟩ := hO.last (k := e) hel
          have c0 : wr.cell? ⟨mb, 0, none⟩ = some (.slice (some ⟨g, 0, none⟩) EE cap) := by rw [Lib.cell_of_heap hO.bk]; rfl
          have y3 := hO.cell hiv (j := 3) (by omega)
          have z3 := hO.own.frozenAt (e * 4 + 3)
          have hgm : g ≠ mb := fun h => b2a (h ▸ hO.gB.1)
          have hmg : mb ≠ g := fun h => hgm h.symm
          have hgg : g ≠ ge := fun h => hO.gB.2 (by rw [h]; rfl)
          have hXY := (hO.setXY (fun h => b2a h.1) hiv hex 0 EE).2.2
          have HXY := xmA hXY
          have u3 : encP iv 3 = .int .i64 iv.y := rfl
          rw [u3] at y3
          have hEp : xbB (es.drop (m + 1)) EE (is2.set e ⟨2, [], e + 1, EE⟩) = RR := by rw [← HP3.out, hdr]; rfl
          have HEp := xmA hEp
          have HS4 : Hid (∀ e' ∈ es.drop (m + 1), e' < EE ∧ ∃ y, (is2.set e ⟨2, [], e + 1, EE⟩)[e']? = some ⟨2, [], e' + 1, y⟩) := xmA (fun e' he' => by
           obtain ⟨h1, y', h2⟩ := HS3.out e' (by rw [hdr]; simp [he'])
           refine ⟨h1, ?_⟩
           rw [List.getElem?_set]
           by_cases h : e = e'
           · subst h
             rw [if_pos rfl, if_pos (by rw [hL2]; exact h1)]
             exact ⟨_, rfl⟩
           rw [if_neg h]; exact ⟨y', h2⟩)
          have KG : Hid (xaa (fun b => b = g) wr (wr.setCell ⟨g, e * 4 + 3, none⟩ (.int .i64 (EE : Int)))) := xmA ((xaa.refl (fun b => b = g) wr).set (p := ⟨g, e * 4 + 3, none⟩) rfl _)
          have HL2 := xmA hL2
          clear hXY hO hiv hex he hdr hEp u3 hgv HP3 HS3 hL2
          go_wp2_with fail
          go_region
          all_goals
           go_wp2_with fail
           go_roundw
           case rel =>
            obtain ⟨ivs', hM⟩ := HXY.out
            obtain ⟨q1, q2⟩ := HE3.out.stored hM KG.out
            exact ⟨m + 1, is2.set e ⟨2, [], e + 1, EE⟩, by go_num, by omega, q1.keepsF (xaa.refl (fun _ => False) _).drew, by rw [List.length_set]; exact HL2.out, HS4.out, HEp.out, (HK3.out.trans q2).drew⟩
           case measure => simp [intOf]; omega
        obtain rfl : m = es.length := by omega
        have HF : Hid (is2 = RR) := xmA (by have h := HP3.out; rw [List.drop_length] at h; exact h)
        have HM3 := xmA ((HE3.out.mkr.mono (C := B2) (fun b h => h.1)).mono b2e)
        go_wp2_with fail
        go_end0
        have h1 := HM3.out
        rw [HF.out, ← HRR.out, ← HEq.out] at h1
        have h2 : NdE B mb (R1 ++ optC p j R1.length (R1.length + optN p j)) w (.returned (.tuple #[])) wr := ⟨rfl, h1, HE'.out _ HK3.out⟩
        simpa [hm, HMn.out] using h2
     have hjn : j < n := by omega
     have glt : decide ((j : Int) < (n : Int)) = true := by simp; omega
     simp only [optN] at hlen
     have hfre : ∀ x, wr.heap.size ≤ x → B2 x ∧ (Value.slice ea es.length ec).ownBlock ≠ some x := fun x h => ⟨b2b x (by omega), fun e => by have := xax HE.out.row x e; omega⟩
     have HSp := xmA (xcB (fun x => B2 x ∧ (Value.slice ea es.length ec).ownBlock ≠ some x) mb is' wr HE.out.mkr (fun h => b2a h.1) hfre (by omega))
     clear hfre
     go_wp2_with fail
     refine HSp.out.mono ?_
     rintro e w3 ⟨rfl, h3, k3⟩
     have hE3 := HE.out.next b2a h3 k3
     have k23 := K.out.trans (k3.mono (fun x _ e => e.imp id (fun h => h.1)))
     have HE3 := xmA hE3
     have K3 := xmA k23
     have hsz3 := k23.size
     clear h3 k3 hE3 k23 HSp t0 t1 t2 t3 t4 t5 t6
     go_wp2_with (at_builtin; refine wpList_append_lies _ rfl (.tmp 51) (.tmp 54) 23 rfl 0 3 i0 (.int .i64 0) 1 8 Tryz.underlying23 hi0 hz0 hz1 hz2 rfl (by decide) _ es.length _ rfl (xac HE3.out.row _) ⟨w3.heap.size, 0, none⟩ 1 1 [.int .i64 (is'.length : Int)] rfl rfl (by exact xak _ [_] _) (by simp [Value.oneCell']) (by decide) (by unfold maxLen; omega) (by omega) (Nat.zero_le _) _ rfl ?_)
     intro ge gcap w5 hown5 hgrow5 hat5 hlt5
     obtain ⟨hE5, k5⟩ := HE3.out.push b2a (fun x h => b2b x (by omega)) ((xaa.refl (fun _ => False) w3).alloc _) hown5 hgrow5 (hat5.imp id (fun h => by rw [h]; simp))
     have k25 := K3.out.trans k5
     have HE5 := xmA hE5
     have K5 := xmA k25
     obtain ⟨t0, t1, t2, t3, t4, t5, t6, hsz5⟩ := HT.out w5 k25
     have hLs : (is' ++ [(⟨2, [], is'.length + 1, 0⟩ : Ins)]).length = is'.length + 1 := by simp
     have hrun := HNd.out (fun x => B2 x ∧ (Value.slice (some ⟨ge, 0, none⟩) (es.length + 1) gcap).ownBlock ≠ some x) w5 _ (fun _ h => h.1) (fun x h => ⟨b2b x (by omega), fun e => by have h9 : ge = x := Option.some.inj e; omega⟩) k25 (by rw [hLs]; omega) hE5.mkr
     rw [hLs] at hrun
     have HS := xmA hrun
     clear hown5 hgrow5 hat5 hE5 k5 k25 hrun t5 t6 HE3
     go_wp2_with fail
     refine HS.out.mono ?_
     rintro e w6 ⟨rfl, h6, k6⟩
     have HE6 := xmA (HE5.out.next b2a h6 k6)
     have K6 := xmA (K5.out.trans (k6.mono (fun x _ e => e.imp id (fun h => h.1))))
     have HL3 : Hid ((is' ++ [(⟨2, [], is'.length + 1, 0⟩ : Ins)] ++ p.1 (is'.length + 1)).length = is'.length + 1 + p.2) := xmA (by simp [HL.out]; omega)
     have HPs : Hid (∀ E, xbB (es ++ [is'.length]) E (is' ++ [(⟨2, [], is'.length + 1, 0⟩ : Ins)] ++ p.1 (is'.length + 1)) ++ optC p r (is' ++ [(⟨2, [], is'.length + 1, 0⟩ : Ins)] ++ p.1 (is'.length + 1)).length E = R1 ++ optC p n R1.length E) := xmA (fun E => by
      rw [HL3.out, ← HPat.out E, List.append_assoc is', List.singleton_append, xhh es E is' _ (fun e he => (HEs.out e he).1), optC]
      simp)
     have HEs5 : Hid (∀ e ∈ es ++ [is'.length], e < (is' ++ [(⟨2, [], is'.length + 1, 0⟩ : Ins)] ++ p.1 (is'.length + 1)).length ∧ ∃ y, (is' ++ [(⟨2, [], is'.length + 1, 0⟩ : Ins)] ++ p.1 (is'.length + 1))[e]? = some ⟨2, [], e + 1, y⟩) := xmA (fun e he => by
      rw [HL3.out]
      rcases List.mem_append.1 he with he | he
      · obtain ⟨h1, y, h2⟩ := HEs.out e he
        exact ⟨by omega, y, by rw [List.append_assoc, List.getElem?_append_left h1]; exact h2⟩
      obtain rfl : e = is'.length := by simpa using he
      exact ⟨by omega, 0, by rw [List.append_assoc, List.getElem?_append_right (Nat.le_refl _), Nat.sub_self]; rfl⟩)
     clear h6 k6 HS t0 t1 t2 t3 t4 HPat HEs
     go_wp2_with fail
     go_roundw
     case rel => exact ⟨j + 1, r, _, es ++ [is'.length], by go_num, by omega, by simp [Hesl.out], by have := HE6.out; simpa using this, by rw [HL3.out]; omega, HEs5.out, HPs.out, K6.out⟩
     case measure => simp [intOf]; omega
  have hlt2 : decide ((i : Int) < (an : Int)) = true := by simp; omega
  simp only [xbc] at hl
  have hrun := HNd.out B2 wr is' (fun _ h => h) (fun x h => b2b x (by omega)) K.out (by omega) HM.out
  have HS := xmA hrun
  clear hrun
  go_wp2_with fail
  refine HS.out.mono ?_
  rintro e w3 ⟨rfl, h3, k3⟩
  have H3 := xmA h3
  have K3 := xmA (K.out.trans k3)
  clear h3 k3 t0 t1 t2 t3 t4 t5 t6
  go_wp2_with fail
  go_roundw
  case rel => exact ⟨i + 1, r, is' ++ p.1 is'.length, by go_num, by omega, H3.out, by rw [List.length_append, HL.out]; omega, by rw [List.length_append, HL.out, List.append_assoc]; exact HF.out, K3.out⟩
  case measure => simp [intOf]; omega
set_option maxHeartbeats 2000000 in
theorem xlF (t : T) (q : List Cd) (h : t.op = 5) (h0 : 0 < t.kids.toL.length) (hq : q.length = t.kids.toL.length) (ih : ∀ (i : Nat) (k : T) (p : Cd), t.kids.toL[i]? = some k → q[i]? = some p → xbX k p.1 p.2) : xbX t (fun b => altC q b (b + altN q)) (altN q) := by
 have hl := fun p hp => (xil hq ih (p := p) hp).choose_spec.len
 refine ⟨fun b => xir q hl b _, fun b k i hk => xkZ q (fun p hp => (xil hq ih hp).choose_spec.ok) hl b _ k i (Nat.le_refl _) hk, fun P B v w0 w mb is ht k0 hmb1 hmb hb hB hn hM => ?_⟩
 clear hl
 obtain ⟨a1, n1, c1, a2, c2, e1, e2, hl, hc⟩ := ht.krow
 generalize t.kids.toL = L at *
 have o1 : v.op = 5 := ht.op.trans h
 obtain ⟨vo, vsv, vm, vx, vk⟩ := v
 obtain rfl := e1
 obtain rfl := e2
 obtain rfl := o1
 have kB : xaa (fun _ => False) w (w.alloc (.cells #[.int .i64 5, .slice a1 n1 c1, .int .i64 vm, .int .i64 vx, .slice a2 L.length c2] 52)) := (xaa.refl _ _).alloc _
 have HP := xmA (xlL L q hq h0 ih P B a2 c2 mb w0 _ is hc (k0.trans kB) hmb1 hmb (fun b h => hb b (by simp at h; omega)) hB hn (hM.keepsF kB))
 have KB := xmA kB
 clear hc ht k0 hM kB ih hB hb hq
 show Calls Tryz.prog 64 #[.pointer (some ⟨mb, 0, none⟩), .agg #[.int .i64 5, .slice a1 n1 c1, .int .i64 vm, .int .i64 vx, .slice a2 L.length c2]] w _
 go_enter Tryz.func64, Tryz.ntmps64
 go_wp2_with fail
 refine HP.out.mono ?_
 rintro e w2 ⟨rfl, h2, k2⟩
 have H2 := xmA h2
 have K2 : Hid (xaa (fun b => b = mb ∨ B b) w w2) := xmA ((KB.out.mono (fun _ _ e => e.elim)).trans2 k2 (fun _ _ e => e))
 clear h2 k2
 go_wp2_with fail
 go_end0
 exact ⟨rfl, H2.out, K2.out⟩
set_option maxHeartbeats 2000000 in
theorem xlC (t k : T) (p : Cd) (h : t.op = 6) (hk : t.kids.toL = [k]) (hmn : 0 ≤ t.mn ∧ t.mn ≤ 1000) (hmx : -1 ≤ t.mx ∧ t.mx ≤ 1000) (hmm : t.mx < 0 ∨ t.mn ≤ t.mx) (ih : xbX k p.1 p.2) : xbX t (repC p t.mn.toNat t.mx) (repN p t.mn.toNat t.mx) := by
 refine ⟨fun b => xlk ih.len _ _ b, fun b k i hk => repC_ok ih.ok _ _ b k i hk, fun P B v w0 w mb is ht k0 hmb1 hmb hb hB hn hM => ?_⟩
 obtain ⟨a1, n1, c1, a2, c2, e1, e2, hl, hc⟩ := ht.krow
 rw [hk] at e2 hc
 have o1 : v.op = 6 := ht.op.trans h
 have o2 : v.mn = t.mn := ht.mn
 have o3 : v.mx = t.mx := ht.mx
 obtain ⟨vo, vsv, vm, vx, vk⟩ := v
 obtain rfl := e1
 obtain rfl := e2
 obtain rfl := o1
 obtain rfl := o2
 obtain rfl := o3
 obtain ⟨an, han⟩ : ∃ an : Nat, t.mn = (an : Int) := ⟨t.mn.toNat, by omega⟩
 rw [han] at hmn hmm hn ⊢
 rw [Int.toNat_natCast] at hn ⊢
 generalize t.mx = mx at *
 have kB : xaa (fun _ => False) w (w.alloc (.cells #[.int .i64 6, .slice a1 n1 c1, .int .i64 (an : Int), .int .i64 mx, .slice a2 1 c2] 52)) := (xaa.refl _ _).alloc _
 have HP := xmA (xlJ k p ih an mx hmm hmx (by omega) P B a1 a2 n1 c1 c2 mb w0 _ is hc (k0.trans kB) hmb1 hmb (fun b h => hb b (by simp at h; omega)) hB hn (hM.keepsF kB))
 have KB := xmA kB
 clear hc ht k0 hM kB ih hB hb hl
 show Calls Tryz.prog 64 #[.pointer (some ⟨mb, 0, none⟩), .agg #[.int .i64 6, .slice a1 n1 c1, .int .i64 (an : Int), .int .i64 mx, .slice a2 1 c2]] w _
 go_enter Tryz.func64, Tryz.ntmps64
 go_wp2_with fail
 refine HP.out.mono ?_
 rintro e w2 ⟨rfl, h2, k2⟩
 have H2 := xmA h2
 have K2 : Hid (xaa (fun b => b = mb ∨ B b) w w2) := xmA ((KB.out.mono (fun _ _ e => e.elim)).trans2 k2 (fun _ _ e => e))
 clear h2 k2
 go_wp2_with fail
 go_end0
 exact ⟨rfl, H2.out, K2.out⟩
def WGn (t : T) : Prop := (t.set.length ≤ 4000 ∧ t.kids.toL.length ≤ 4000) ∧ (t.op = 0 ∨ t.op = 1 ∨ t.op = 2 ∨ t.op = 3 ∨ t.op = 4 ∨ (t.op = 5 ∧ 0 < t.kids.toL.length) ∨ (t.op = 6 ∧ (∃ k, t.kids.toL = [k]) ∧ (0 ≤ t.mn ∧ t.mn ≤ 1000) ∧ (-1 ≤ t.mx ∧ t.mx ≤ 1000) ∧ (t.mx < 0 ∨ t.mn ≤ t.mx)))
inductive WG : T → Prop
 | mk {t : T} (h : WGn t) (hk : ∀ (i : Nat) (k : T), t.kids.toL[i]? = some k → WG k) : WG t
theorem xjU (n : Nat) : 1 ≤ (putP n).length := by
 unfold putP; split <;> (try split) <;> (try split) <;> simp
theorem xc4 {y : Nat} : (putP y).length ≤ 4 := by unfold putP; split <;> (try split) <;> (try split) <;> simp [lowB]
set_option maxHeartbeats 2000000 in
theorem prx_one (t : T) (h : t.op = 1) (hs : t.set.length ≤ 4000) (y : Nat) (ho : ofL t.set = [((y : Int), (y : Int))]) (hb : isB (y : Int) = true) : PreC t (putP y, true) := by
 intro P v w ht
 have HSt := xmA ht.set
 obtain ⟨a1, n1, c1, a2, c2, e1, e2, hl, hc⟩ := ht.krow
 have o1 : v.op = 1 := ht.op.trans h
 obtain ⟨vo, vsv, vm, vx, vk⟩ := v
 obtain rfl := e1
 obtain rfl := e2
 obtain rfl := o1
 have HI := xmA (fun W => xdd (y : Int) W)
 have HP := xmA (fun W => xfq y W hb)
 rw [hb] at HI
 clear hl hc ht hb
 generalize t.kids.toL.length = KL at *
 generalize t.set = s at *
 generalize putP y = R at *
 show Calls Tryz.prog 35 #[.agg #[.int .i64 1, .slice a1 n1 c1, .int .i64 vm, .int .i64 vx, .slice a2 KL c2]] w _
 go_enter Tryz.func35, Tryz.ntmps35
 go_wp2_with fail
 refine (xfu s _ _ (HSt.out.keeps (S := fun _ => False) (KI.out) (fun _ _ => id)) (by omega)).mono ?_
 rintro e w2 ⟨out, x, ok, rfl, hof, hyes, hno, k2⟩
 have hout : out = [((y : Int), (y : Int))] := (xgm hof).symm.trans ho
 cases ok
 · exact absurd hout ((hno rfl).2 _)
 obtain rfl : x = y := by
  have := hyes rfl
  rw [hout] at this
  simpa using this.symm
 have K2 : Hid (xaa (fun _ => False) w w2) := xmA (xaa.trans (KI.out) k2)
 clear hof hyes hno hout k2 ho
 go_wp2_with fail
 refine (HI.out _).mono ?_
 rintro e w3 ⟨rfl, rfl⟩
 go_wp2_with fail
 refine (HP.out _).mono ?_
 rintro e w4 ⟨v4, rfl, hO, k4⟩
 have hcv := xgl hO
 have K4 := xmA (K2.out.trans k4)
 clear k4 hO
 unfold strL at hcv
 go_wp2_with fail
 go_ret2
 exact ⟨rfl, K4.out⟩
set_option maxHeartbeats 2000000 in
theorem xls (t : T) (h : t.op = 1) (hs : t.set.length ≤ 4000) (ho : ∀ y : Int, ofL t.set = [(y, y)] → isB y = false) : PreC t ([], false) := by
 intro P v w ht
 have HSt := xmA ht.set
 obtain ⟨a1, n1, c1, a2, c2, e1, e2, hl, hc⟩ := ht.krow
 have o1 : v.op = 1 := ht.op.trans h
 obtain ⟨vo, vsv, vm, vx, vk⟩ := v
 obtain rfl := e1
 obtain rfl := e2
 obtain rfl := o1
 clear hl hc ht
 generalize t.kids.toL.length = KL at *
 generalize t.set = s at *
 show Calls Tryz.prog 35 #[.agg #[.int .i64 1, .slice a1 n1 c1, .int .i64 vm, .int .i64 vx, .slice a2 KL c2]] w _
 go_enter Tryz.func35, Tryz.ntmps35
 go_wp2_with fail
 refine (xfu s _ _ (HSt.out.keeps (S := fun _ => False) (KI.out) (fun _ _ => id)) (by omega)).mono ?_
 rintro e w2 ⟨out, x, ok, rfl, hof, hyes, hno, k2⟩
 have K2 : Hid (xaa (fun _ => False) w w2) := xmA (xaa.trans (KI.out) k2)
 cases ok
 · clear hof hyes hno k2 ho
   go_wp2_with fail
   go_ret2
   exact ⟨rfl, K2.out⟩
 have hb := ho x ((xgm hof).trans (hyes rfl))
 have HI := xmA (fun W => xdd x W)
 rw [hb] at HI
 clear hof hyes hno k2 ho hb
 go_wp2_with fail
 refine (HI.out _).mono ?_
 rintro e w3 ⟨rfl, rfl⟩
 go_wp2_with fail
 go_ret2
 exact ⟨rfl, K2.out⟩
set_option maxHeartbeats 2000000 in
theorem xlr (t : T) (h : t.op = 0) : PreC t ([], true) := by
 intro P v w ht
 obtain ⟨a1, n1, c1, a2, c2, e1, e2, hl, hc⟩ := ht.krow
 have o1 : v.op = 0 := ht.op.trans h
 obtain ⟨vo, vsv, vm, vx, vk⟩ := v
 obtain rfl := e1
 obtain rfl := e2
 obtain rfl := o1
 clear hl hc ht
 generalize t.kids.toL.length = KL at *
 show Calls Tryz.prog 35 #[.agg #[.int .i64 0, .slice a1 n1 c1, .int .i64 vm, .int .i64 vx, .slice a2 KL c2]] w _
 go_enter Tryz.func35, Tryz.ntmps35
 go_wp2_with fail
 go_ret2
 exact ⟨rfl, KI.out⟩
set_option maxHeartbeats 2000000 in
theorem xjW (t : T) (h : t.op = 2) : PreC t ([], false) := by
 intro P v w ht
 obtain ⟨a1, n1, c1, a2, c2, e1, e2, hl, hc⟩ := ht.krow
 have o1 : v.op = 2 := ht.op.trans h
 obtain ⟨vo, vsv, vm, vx, vk⟩ := v
 obtain rfl := e1
 obtain rfl := e2
 obtain rfl := o1
 clear hl hc ht
 generalize t.kids.toL.length = KL at *
 show Calls Tryz.prog 35 #[.agg #[.int .i64 2, .slice a1 n1 c1, .int .i64 vm, .int .i64 vx, .slice a2 KL c2]] w _
 go_enter Tryz.func35, Tryz.ntmps35
 go_wp2_with fail
 go_ret2
 exact ⟨rfl, KI.out⟩
set_option maxHeartbeats 2000000 in
theorem prx_end (t : T) (h : t.op = 3) : PreC t ([], false) := by
 intro P v w ht
 obtain ⟨a1, n1, c1, a2, c2, e1, e2, hl, hc⟩ := ht.krow
 have o1 : v.op = 3 := ht.op.trans h
 obtain ⟨vo, vsv, vm, vx, vk⟩ := v
 obtain rfl := e1
 obtain rfl := e2
 obtain rfl := o1
 clear hl hc ht
 generalize t.kids.toL.length = KL at *
 show Calls Tryz.prog 35 #[.agg #[.int .i64 3, .slice a1 n1 c1, .int .i64 vm, .int .i64 vx, .slice a2 KL c2]] w _
 go_enter Tryz.func35, Tryz.ntmps35
 go_wp2_with fail
 go_ret2
 exact ⟨rfl, KI.out⟩
set_option maxHeartbeats 2000000 in
theorem prx_cat (t : T) (h : t.op = 4) (res : List (List UInt8 × Bool)) (hn : res.length = t.kids.toL.length) (ih : ∀ (i : Nat) (k : T) (r : List UInt8 × Bool), t.kids.toL[i]? = some k → res[i]? = some r → PreC k r ∧ r.1.length ≤ 1000) : PreC t (catP res []) := by
 intro P v w ht
 obtain ⟨a1, n1, c1, a2, c2, e1, e2, hl, hc⟩ := ht.krow
 generalize t.kids.toL = L at *
 have HK := xmA (fun W (K : xaa (fun _ => False) w W) => cat_any P L res a2 c2 W (hc.keep K) hl hn ih)
 have o1 : v.op = 4 := ht.op.trans h
 obtain ⟨vo, vsv, vm, vx, vk⟩ := v
 obtain rfl := e1
 obtain rfl := e2
 obtain rfl := o1
 clear hl hc ht ih hn
 generalize catP res [] = R at *
 show Calls Tryz.prog 35 #[.agg #[.int .i64 4, .slice a1 n1 c1, .int .i64 vm, .int .i64 vx, .slice a2 L.length c2]] w _
 go_enter Tryz.func35, Tryz.ntmps35
 go_wp2_with fail
 refine (HK.out _ (KI.out)).mono ?_
 rintro e w2 ⟨rfl, k2⟩
 have K2 : Hid (xaa (fun _ => False) w w2) := xmA (xaa.trans (KI.out) k2)
 clear k2
 unfold strL
 go_wp2_with fail
 go_ret2
 exact ⟨rfl, K2.out⟩
theorem TAt.kcap' {w : World} {P : Nat → Prop} {v : NV} {t : T} (h : TAt w P v t) {a : Option Addr} {n c : Nat} (e : v.kv = .slice a n c) : n ≤ c := by
 obtain ⟨ks, ⟨a2, c2, e2, hcap, _⟩, _⟩ := h.kids
 rw [e] at e2
 cases e2
 exact hcap.1
set_option maxHeartbeats 2000000 in
theorem prx_alt (t : T) (h : t.op = 5) (k0 : T) (L : List T) (hL : t.kids.toL = k0 :: L) (hl4 : L.length ≤ 4000) (r0 : List UInt8 × Bool) (rest : List (List UInt8 × Bool)) (hn : rest.length = L.length) (h0 : PreC k0 r0 ∧ r0.1.length ≤ 1000) (ih : ∀ (i : Nat) (k : T) (r : List UInt8 × Bool), L[i]? = some k → rest[i]? = some r → PreC k r ∧ r.1.length ≤ 1000) : PreC t (rest.foldl xa9 r0) := by
 intro P v w ht
 obtain ⟨a1, n1, c1, a2, c2, e1, e2, hl, hc⟩ := ht.krow
 have hcp := ht.kcap' e2
 rw [hL] at e2 hc hcp
 simp only [List.length_cons] at hcp
 have HK := xmA (fun W (K : xaa (fun _ => False) w W) => alt_any P k0 L r0 rest a2 c2 W (hc.keep K) hl4 hn hcp h0 ih)
 have o1 : v.op = 5 := ht.op.trans h
 obtain ⟨vo, vsv, vm, vx, vk⟩ := v
 obtain rfl := e1
 obtain rfl := e2
 obtain rfl := o1
 clear hl hc ht ih hn hcp h0
 generalize rest.foldl xa9 r0 = R at *
 show Calls Tryz.prog 35 #[.agg #[.int .i64 5, .slice a1 n1 c1, .int .i64 vm, .int .i64 vx, .slice a2 (L.length + 1) c2]] w _
 go_enter Tryz.func35, Tryz.ntmps35
 go_wp2_with fail
 refine (HK.out _ (KI.out)).mono ?_
 rintro e w2 ⟨rfl, k2⟩
 have K2 : Hid (xaa (fun _ => False) w w2) := xmA (xaa.trans (KI.out) k2)
 clear k2
 unfold strL
 go_wp2_with fail
 go_ret2
 exact ⟨rfl, K2.out⟩
theorem xeE : ∀ (rest : List (List UInt8 × Bool)) (r : List UInt8 × Bool), (rest.foldl xa9 r).1.length ≤ r.1.length
 | [], _ => Nat.le_refl _
 | t :: rest, r => Nat.le_trans (xeE rest (xa9 r t)) (xdI r.1 t.1)
theorem xim : ∀ (res : List (List UInt8 × Bool)) (all : List UInt8), all.length ≤ 200 → (catP res all).1.length ≤ 200
 | [], all, h => h
 | (s, b) :: r, all, h => by
  rw [catP]
  split
  · split
    · simp only [List.length_take]; omega
    simp only at *; omega
  rename_i hn
  have : ¬ 200 < (all ++ s).length := fun x => hn (Or.inr x)
  exact xim r _ (by omega)
def Bld (base b : Nat) (bs : List Value) (w : World) : Prop :=
 ∃ p v, (p = .pointer none ∨ p = .pointer (some ⟨b, 0, none⟩)) ∧ w.heap[b]? = some (.cells #[p, v] 181 (0, 0)) ∧ w.ownsRow base 5 1 v bs.length bs ∧ v.ownBlock ≠ some b
theorem xea : (Tryz.prog.info? 181).map (·.size) = some 2 := by kernel_rfl
theorem xhs : liesAt Tryz.prog Tryz.prog.depth 181 (2 / Tryz.prog.cellsOf 181) 0 181 1 = true := by kernel_rfl
theorem xkq : (Tryz.prog.info? 5).map (fun i => (i.zero, i.size, i.bytes)) = some (some (.int .u8 0), 1, 1) := by kernel_rfl
set_option maxHeartbeats 1000000 in
theorem xcF (b : Nat) (w : World) (h0 : w.cell? ⟨b, 0, none⟩ = some (.pointer (some ⟨b, 0, none⟩))) :
 Calls Tryz.prog 157 #[.pointer (some ⟨b, 0, none⟩)] w fun e w' => e = .returned (.tuple #[]) ∧ w' = w := by
 obtain ⟨j, hj, _⟩ := Option.map_eq_some_iff.1 xea
 go_enter Tryz.func157, Tryz.ntmps157
 go_wp2
 rw [Lib.run_neq_ptr_same w _ Tryz.underlying179 hj]
 go_wp2
 go_end0
 exact ⟨rfl, rfl⟩
set_option maxHeartbeats 1000000 in
theorem xcp (b : Nat) (w : World) (h0 : w.cell? ⟨b, 0, none⟩ = some (.pointer none)) (hsh : w.shape? b = some (181, 2)) (hfz : w.frozen? ⟨b, 0, none⟩ = false) :
 Calls Tryz.prog 157 #[.pointer (some ⟨b, 0, none⟩)] w fun e w' => e = .returned (.tuple #[]) ∧ w' = w.setCell ⟨b, 0, none⟩ (.pointer (some ⟨b, 0, none⟩)) := by
 obtain ⟨j, hj, hjs⟩ := Option.map_eq_some_iff.1 xea
 go_enter Tryz.func157, Tryz.ntmps157
 go_wp2
 rw [Lib.run_to_unsafe w ⟨b, 0, none⟩ Tryz.underlying179 Tryz.underlying244 hj (by rw [hjs]; decide) hsh (Nat.zero_lt_succ 1)]
 simp only [Result.andThen]
 rw [Oper.upon_value]
 go_wp2
 rw [run_callFunc_extern Tryz.func185 (by kernel_rfl) (by kernel_rfl) (by kernel_rfl) (e := Extern.AbiNoEscape.same) (by kernel_rfl)]
 rw [Lib.run_noEscape]
 simp only [Result.andThen]
 rw [Oper.upon_value]
 go_wp2
 rw [Lib.run_from_unsafe w ⟨b, 0, none⟩ Tryz.underlying244 Tryz.underlying179 hj hsh xhs]
 simp only [Result.andThen]
 rw [Oper.upon_value]
 go_wp2
 go_end0
 exact ⟨rfl, rfl⟩
theorem Bld.lt {base b : Nat} {bs : List Value} {w : World} (h : Bld base b bs w) : b < w.heap.size := by
 obtain ⟨p, v, _, hb, _⟩ := h
 exact (Array.getElem?_eq_some_iff.1 hb).1
def BldU (base b : Nat) (bs : List Value) (w : World) : Prop :=
 ∃ v, w.heap[b]? = some (.cells #[.pointer (some ⟨b, 0, none⟩), v] 181 (0, 0)) ∧ w.ownsRow base 5 1 v bs.length bs ∧ v.ownBlock ≠ some b
theorem BldU.bld {base b : Nat} {bs : List Value} {w : World} (h : BldU base b bs w) : Bld base b bs w := by
 obtain ⟨v, a, b, c⟩ := h; exact ⟨_, v, Or.inr rfl, a, b, c⟩
theorem xbW {base : Nat} {e : TypeId} {size n : Nat} {v : Value} {xs : List Value} {S : Nat → Prop} {w w' : World} (h : w.ownsRow base e size v n xs) (K : xaa S w w') (hs : ∀ k, v.ownBlock = some k → ¬ S k) : w'.ownsRow base e size v n xs := by
 obtain ⟨h1, h2⟩ := h
 refine ⟨h1, ?_⟩
 rcases h2 with h2 | ⟨g, cap, cur, rfl, hg, hh, hc⟩
 · exact Or.inl h2
 exact Or.inr ⟨g, cap, cur, rfl, hg, K.heap hh (hs g rfl), hc⟩
theorem Bld.keeps {base b : Nat} {bs : List Value} {S : Nat → Prop} {w w' : World} (h : Bld base b bs w) (K : xaa S w w') (hb : ¬ S b) (hs : ∀ k, base ≤ k → ¬ S k) : Bld base b bs w' := by
 obtain ⟨p, v, hp, h1, h2, h3⟩ := h
 exact ⟨p, v, hp, K.heap h1 hb, xbW h2 K (fun k hk => hs k (xab h2 k hk)), h3⟩
theorem Bld.keepsF {base b : Nat} {bs : List Value} {w w' : World} (h : Bld base b bs w) (K : xaa (fun _ => False) w w') : Bld base b bs w' := h.keeps K id (fun _ _ => id)
theorem Bld.fresh {w w' : World} {b base : Nat} (h : w.heap[b]? = some (.cells #[.pointer none, .slice none 0 0] 181 (0, 0))) : Bld base b [] w :=
 ⟨_, _, Or.inl rfl, h, World.ownsRow_nil _ _ _ _, by simp [Value.ownBlock]⟩
theorem xfL (base b : Nat) (bs : List Value) (w : World) (h : Bld base b bs w) :
 Calls Tryz.prog 157 #[.pointer (some ⟨b, 0, none⟩)] w fun e w' => e = .returned (.tuple #[]) ∧ BldU base b bs w' ∧ xaa (fun k => k = b) w w' := by
 have hlt := h.lt
 obtain ⟨p, v, hp, hb, ho, hn⟩ := h
 rcases hp with rfl | rfl
 · refine (xcp b w (by rw [Lib.cell_of_heap hb]; rfl) (by simp [World.shape?, hb]) (by simp [World.frozen?, hb])).mono ?_
   rintro e w' ⟨rfl, rfl⟩
   have K : xaa (fun k => k = b) w (w.setCell ⟨b, 0, none⟩ (.pointer (some ⟨b, 0, none⟩))) := (xaa.refl (fun k => k = b) _).set (p := ⟨b, 0, none⟩) rfl _
   refine ⟨rfl, ⟨v, ?_, xbW ho K (fun k hk e => hn (by rw [hk, e])), hn⟩, K⟩
   simp [World.setCell, Array.getElem?_modify, hb]
 refine (xcF b w (by rw [Lib.cell_of_heap hb]; rfl)).mono ?_
 rintro e w' ⟨rfl, rfl⟩
 exact ⟨rfl, ⟨v, hb, ho, hn⟩, xaa.refl _ _⟩
theorem BldU.put {base b : Nat} {p v v' : Value} {bs : List Value} {w : World} (hp : p = .pointer (some ⟨b, 0, none⟩)) (hb : w.heap[b]? = some (.cells #[p, v] 181 (0, 0))) (hown : w.ownsRow base 5 1 v' bs.length bs) :
 BldU base b bs (w.setCell ⟨b, 1, none⟩ v') := by
 subst hp
 have hne := Lib.ownBlock_ne hown hb (by decide)
 refine ⟨v', ?_, ?_, hne⟩
 · simp [World.setCell, Array.getElem?_modify, hb]
 exact xbW hown ((xaa.refl (fun k => k = b) _).set (p := ⟨b, 1, none⟩) rfl _) (fun k hk e => hne (by rw [hk, e]))
theorem xeK (B b : Nat) (bs : List Value) (w : World) (h : Lib.IsBuilderF 181 5 B b bs w) :
 Calls Tryz.prog 157 #[.pointer (some ⟨b, 0, none⟩)] w fun e w' => e = .returned (.tuple #[]) ∧ (Lib.BuilderAtF 181 5 B b (.pointer (some ⟨b, 0, none⟩)) bs w' ∧ Below B w w') := by
 rcases h with h | h
 · refine (xcp b w h.cell0 h.shape h.frozen0).mono ?_
   rintro e w' ⟨rfl, rfl⟩
   exact ⟨rfl, h.used _, (Below.refl B w).setCell (p := ⟨b, 0, none⟩) h.1 _⟩
 refine (xcF b w h.cell0).mono ?_
 rintro e w' ⟨rfl, rfl⟩
 exact ⟨rfl, h, Below.refl B _⟩
set_option maxHeartbeats 2000000 in
theorem xb8 (B b : Nat) (bs : List Value) (s : ByteArray) (w : World) (h : Lib.IsBuilderF 181 5 B b bs w) (hlen : bs.length + s.size ≤ 140737488355328) (hBw : B ≤ w.heap.size) :
 Calls Tryz.prog 148 #[.pointer (some ⟨b, 0, none⟩), .string s] w fun e w' => e = .returned (.tuple #[.int .i64 s.size, .nilIface]) ∧ (Lib.BuilderAtF 181 5 B b (.pointer (some ⟨b, 0, none⟩)) (bs ++ Lib.strCells s) w' ∧ Below B w w') := by
 obtain ⟨i0, hi, hz0, hz1, hz2⟩ := info_parts xkq
 go_enter Tryz.func148, Tryz.ntmps148
 go_wp2_with fail
 refine (xeK B b bs _ h).mono ?_
 rintro e w1 ⟨rfl, h1, hb1⟩
 obtain ⟨hB, v, hbk, hown, hne⟩ := h1
 have c0 : w1.cell? ⟨b, 0, none⟩ = some (.pointer (some ⟨b, 0, none⟩)) := by rw [Lib.cell_of_heap hbk]; rfl
 have c1 : w1.cell? ⟨b, 1, none⟩ = some v := by rw [Lib.cell_of_heap hbk]; rfl
 go_wp2_with (at_builtin; refine Lib.wpList_append_own_stringF _ rfl _ _ 22 9 rfl B 5 i0 Tryz.underlying22 Tryz.underlying9 hi hz0 hz1 hz2 _ _ _ rfl hown s rfl ?c3 ?c4 ?c5 ?_)
 case c3 => unfold maxLen; omega
 case c4 => omega
 case c5 => have := hb1.size; omega
 intro v' w2 hown' hgrow _
 have hlt : b < w1.heap.size := by
  rcases Nat.lt_or_ge b w1.heap.size with h' | h'
  · exact h'
  simp [Array.getElem?_eq_none h'] at hbk
 have hb2 : w2.heap[b]? = some (.cells #[.pointer (some ⟨b, 0, none⟩), v] 181 (0, 0)) := by
  rw [hgrow.block b hlt (fun e => hne e.symm)]
  exact hbk
 have d0 : w2.cell? ⟨b, 0, none⟩ = some (.pointer (some ⟨b, 0, none⟩)) := by rw [Lib.cell_of_heap hb2]; rfl
 have d1 : w2.cell? ⟨b, 1, none⟩ = some v := by rw [Lib.cell_of_heap hb2]; rfl
 have f1 : w2.frozen? ⟨b, 1, none⟩ = false := Lib.frozen_of_heap hb2 1
 obtain ⟨ao, n', cap, rfl⟩ : ∃ ao n' cap, v' = .slice ao n' cap := by
  rcases hown'.2 with ⟨hv, _⟩ | ⟨g, cap, cur, fz, hv, _⟩
  · exact ⟨_, _, _, hv⟩
  exact ⟨_, _, _, hv⟩
 go_wp2
 go_ret2
 refine ⟨rfl, ?_, ?_⟩
 · exact Lib.BuilderAtF.put (T := 181) (e := 5) hB hb2 (bs' := bs ++ Lib.strCells s) (by simpa [Lib.strCells_length] using hown') (by decide)
 exact (hb1.grown hgrow (by have := hb1.size; omega) (fun k hk => (hown.lt k hk).1)).setCell (p := ⟨b, 1, none⟩) hB _
theorem min_3 (W : World) (x y z : Int) : (Builtin.min_ #[3, 3, 3] 3 #[.int .i64 x, .int .i64 y, .int .i64 z]).run Tryz.prog W = .ok (.int .i64 (if z < (if y < x then y else x) then z else (if y < x then y else x))) W := by
 simp [Builtin.min_, Builtin.min2]
def hpB (X s : ByteArray) : Bool := decide (s.size ≤ X.size) && ((X.extract 0 s.size).toList == s.toList)
set_option maxHeartbeats 1000000 in
theorem xlU (X s : ByteArray) (w : World) (hX : X.size ≤ 100000) (hs : s.size ≤ 100000) : Calls Tryz.prog 173 #[.string X, .string s] w fun e w' => e = .returned (.bool (hpB X s)) ∧ w = w' := by
 obtain ⟨b, hb⟩ : ∃ b, hpB X s = b := ⟨_, rfl⟩
 rw [hb]
 have HB := xmA hb
 clear hb
 by_cases h : s.size ≤ X.size
 · have g : decide ((s.size : Int) ≤ (X.size : Int)) = true := by simp; omega
   have HE : Hid (((X.extract 0 s.size).toList == s.toList) = b) := xmA (by rw [← HB.out]; unfold hpB; simp [h])
   go_enter Tryz.func173, Tryz.ntmps173
   go_wp2_with fail
   go_ret
   exact ⟨by rw [← HE.out]; rfl, rfl⟩
 have g : decide ((s.size : Int) ≤ (X.size : Int)) = false := by simp; omega
 have HE : Hid (false = b) := xmA (by rw [← HB.out]; unfold hpB; simp [h])
 go_enter Tryz.func173, Tryz.ntmps173
 go_wp2_with fail
 go_ret
 exact ⟨by rw [← HE.out]; rfl, rfl⟩
theorem xhw (X s : ByteArray) (w : World) (hX : X.size ≤ 100000) (hs : s.size ≤ 100000) : Calls Tryz.prog 146 #[.string X, .string s] w fun e w' => e = .returned (.bool (hpB X s)) ∧ w = w' := by
 have HP := xmA (fun W => xlU X s W hX hs)
 generalize hpB X s = b at *
 go_enter Tryz.func146, Tryz.ntmps146
 go_wp2_with fail
 refine (HP.out _).mono ?_
 rintro e w2 ⟨rfl, rfl⟩
 go_wp2_with fail
 go_ret
 exact ⟨rfl, rfl⟩
end Go.Proofs.YtjahiihmoglpfaaGreatDoor
