/-
  Several texts in one: (*maker).alt, walked. (*maker).rep. (*maker).rep, walked.
-/
import Derived.Test.YtbifklibdkjbeaaGreatDoorMg13
import Derived.Deep.AppendLies
namespace Go.Proofs.YtbifklibdkjbeaaGreatDoor
open Go.RowKit
set_option linter.unusedVariables false
set_option linter.unusedSimpArgs false
set_option maxRecDepth 100000
set_option maxHeartbeats 16000000
theorem xmz : ∀ (q : List Cd), 2 * (q.length - 1) ≤ altN q
 | [] => by simp
 | [p] => by simp
 | p :: p2 :: r => by
  have := xmz (p2 :: r)
  simp only [altN, List.length_cons] at this ⊢; omega
theorem MkE.stored {B : Nat → Prop} {w w' : World} {mb g n cap : Nat} {is is' : List Ins} {ivs : List IV} {ev : Value} {es : List Nat} (h : MkE B w mb is ev es) (hO : MkO (fun b => B b ∧ ev.ownBlock ≠ some b) w' mb is' g n cap ivs) (K : xa (fun b => b = g) w w') : MkE B w' mb is' ev es ∧ xa (fun b => b = mb ∨ B b) w w' :=
 ⟨⟨hO.at, xae h.row K (fun b e x => hO.gB.2 (by rw [← x]; exact e)), h.eB⟩, K.mono (fun b _ e => Or.inr (by rw [e]; exact hO.gB.1))⟩
theorem xnm (L : List T) (q : List Cd) (hq : q.length = L.length) (h0 : 0 < L.length) (ih : ∀ (i : Nat) (k : T) (p : Cd), L[i]? = some k → q[i]? = some p → xbU k p.1 p.2) (P B : Nat → Prop) (a : Option Addr) (c mb : Nat) (w0 w : World) (is : List Ins) (ha : KRow w0 P a L) (k0 : xa (fun _ => False) w0 w) (hmb1 : w0.heap.size ≤ mb)
 (hmb : ¬ B mb) (hb : ∀ b, w.heap.size ≤ b → B b) (hB : ∀ b, B b → w0.heap.size ≤ b) (hn : is.length + altN q ≤ 2500) (hM : MkAt B w mb is) :
 Calls Tryz.prog 168 #[.pointer (some ⟨mb, 0, none⟩), .slice a L.length c] w fun e w' => NdE B mb (is ++ altC q is.length (is.length + altN q)) w e w' := by
 obtain ⟨i0, hi0, hz0, hz1, hz2⟩ := info_parts xds
 have hqn := xmz q
 rw [hq] at hqn
 have HM := xoo hM
 have HA := xoo ha
 have IH := xoo ih
 have K0 := xoo k0
 have HN := xoo hq
 have HB := xoo hB
 have Hb := xoo hb
 obtain ⟨R, hR⟩ : ∃ R : Nat → List Ins, ∀ E, is ++ altC q is.length E = R E := ⟨fun E => is ++ altC q is.length E, fun _ => rfl⟩
 obtain ⟨EE, hEE⟩ : ∃ E, is.length + altN q = E := ⟨_, rfl⟩
 have HR := xoo hR
 have hw0 := k0.size
 have HEE := xoo hEE
 rw [hR, hEE]
 clear ha k0 hM ih hR hq hB hb hEE
 go_enter Tryz.func168, Tryz.ntmps168
 go_wp2_with fail
 go_loopw [4, 12] (fun ev iv wr => AlsR B L.length mb q is w iv ev wr) (fun _ iv _ => L.length - (intOf iv).toNat)
 case atStart => exact ⟨0, is, [], rfl, h0, Nat.le_refl _, ⟨HM.out.mono (fun b hb => ⟨hb, by simp [Value.ownBlock]⟩), ⟨rfl, Or.inl ⟨rfl, rfl⟩⟩, fun b e => by simp [Value.ownBlock] at e⟩, rfl, fun e he => by simp at he, fun E => rfl, xa.refl _ _⟩
 case round =>
  obtain ⟨i, is', es, rfl, hi, hesl, hE, hlen, hes, hpat, hk⟩ := hrel
  have HE := xoo hE
  have HPat := xoo hpat
  have HKr := xoo hk
  have HEs := xoo hes
  obtain ⟨ea, ec, rfl⟩ := xac hE.row
  have hsw := hk.size
  have K0r : Hid (xa (fun _ => False) w0 wr) := xoo (K0.out.trans2 hk (fun b hb e => by
   rcases e with e | e
   · omega
   have := HB.out b e; omega))
  clear hE hpat hk hes
  obtain ⟨k, hki⟩ : ∃ k, L[i]? = some k := ⟨_, List.getElem?_eq_getElem hi⟩
  obtain ⟨p, hpi⟩ : ∃ p, q[i]? = some p := ⟨_, List.getElem?_eq_getElem (by rw [HN.out]; exact hi)⟩
  obtain ⟨b, off, uo, d1, f1, g1, um, ux, d2, f2, g2, rfl, hu, hlt0, x0, x1, x2, x3, x4⟩ := HA.out.kid K0r.out hki
  have hlt : b < wr.heap.size := xay x0
  have HNG := xoo (IH.out i k p hki hpi)
  have Hu := xoo hu
  obtain ⟨B2, hB2⟩ : ∃ B2 : Nat → Prop, B2 = fun b => (B b ∧ (Value.slice ea es.length ec).ownBlock ≠ some b) ∧ ¬ b = wr.heap.size := ⟨_, rfl⟩
  have b2a : ¬ B2 mb := by rw [hB2]; exact fun h => hmb h.1.1
  have b2b : ∀ b, wr.heap.size < b → B2 b := fun b h => by rw [hB2]; exact ⟨⟨Hb.out b (by omega), fun e => by have := xaM HE.out.row b e; omega⟩, by omega⟩
  have b2c : ∀ b, B2 b → w0.heap.size ≤ b := fun b h => by rw [hB2] at h; exact HB.out b h.1.1
  have b2d : ¬ B2 wr.heap.size := by rw [hB2]; exact fun h => h.2 rfl
  have b2e : ∀ b, B2 b → B b ∧ (Value.slice ea es.length ec).ownBlock ≠ some b := fun b h => by rw [hB2] at h; exact h.1
  have hmw : mb < wr.heap.size := HE.out.mkr.lt
  have M0 : Hid (MkAt B2 (wr.alloc (.cells #[.int .i64 uo, .slice d1 f1 g1, .int .i64 um, .int .i64 ux, .slice d2 f2 g2] 154)) mb is') := xoo (by
   rw [hB2]
   exact (HE.out.mkr.but (fun b => b = wr.heap.size) (fun b e => by omega)).keepsF ((xa.refl _ _).alloc _))
  clear hB2 hu
  have ka : xa (fun _ => False) wr (wr.alloc (.cells #[.int .i64 uo, .slice d1 f1 g1, .int .i64 um, .int .i64 ux, .slice d2 f2 g2] 154)) := (xa.refl _ _).alloc _
  have KA := xoo ka
  have hsa : (wr.alloc (.cells #[.int .i64 uo, .slice d1 f1 g1, .int .i64 um, .int .i64 ux, .slice d2 f2 g2] 154)).heap.size = wr.heap.size + 1 := by simp
  have K0a := xoo (K0r.out.trans ka)
  have hdi := xeP hpi
  clear ka
  by_cases hl : i + 1 = L.length
  · have g3 : ((i : Int) == (L.length : Int) - 1) = true := beq_iff_eq.2 (by omega)
    have hd1 : q.drop i = [p] := by rw [hdi, List.drop_eq_nil_of_le (by rw [HN.out]; omega)]
    rw [hd1] at hlen
    simp only [altN] at hlen
    have HP2 : Hid (∀ E, xcs es E is' ++ p.1 is'.length = R E) := xoo (fun E => by have h := HPat.out E; rw [hd1] at h; rw [← HR.out E]; exact h)
    have HL := xoo (HNG.out.len is'.length)
    have HS := xoo (HNG.out.run P B2 ⟨uo, .slice d1 f1 g1, um, ux, .slice d2 f2 g2⟩ w0 _ mb is' Hu.out K0a.out hmb1 b2a (fun b h => b2b b (by omega)) b2c (by omega) M0.out)
    unfold NV.val at HS
    clear hki hpi hdi hd1 HPat
    go_wp2_with fail
    refine HS.out.mono ?_
    rintro e w2 ⟨rfl, h2, k2⟩
    have hE2 : MkE B w2 mb (is' ++ p.1 is'.length) (.slice ea es.length ec) es := (HE.out.keepsF KA.out).next hmb (h2.mono b2e) (k2.mono (fun b _ e => e.imp id (b2e b)))
    have K2 : Hid (xa (fun b => b = mb ∨ B b) w w2) := xoo ((HKr.out.trans2 KA.out (fun _ _ e => e.elim)).trans2 k2 (fun b _ e => e.imp id (fun h => (b2e b h).1)))
    have HE2 := xoo hE2
    have HR2 : Hid (xcs es EE (is' ++ p.1 is'.length) = R EE) := xoo (by rw [xez es EE is' _ (fun e he => (HEs.out e he).1)]; exact HP2.out EE)
    have HL2 : Hid ((is' ++ p.1 is'.length).length = EE) := xoo (by rw [List.length_append, HL.out, ← HEE.out]; omega)
    have HEs2 : Hid (∀ e ∈ es, e < EE ∧ ∃ x y, (is' ++ p.1 is'.length)[e]? = some ⟨2, [], x, y⟩) := xoo (fun e he => by
     obtain ⟨h1, x, y, h2⟩ := HEs.out e he
     exact ⟨by rw [← HL2.out, List.length_append]; omega, x, y, by rw [List.getElem?_append_left h1]; exact h2⟩)
    clear h2 k2 hE2 HS x0 x1 x2 x3 x4
    go_wp2_with fail
    go_loopw [50] (fun iv wr => EndR B mb EE es (R EE) (.slice ea es.length ec) w iv wr) (fun iv _ => es.length - (intOf iv).toNat)
    case atStart => exact ⟨0, _, rfl, Nat.zero_le _, HE2.out, HL2.out, by rw [List.drop_zero]; exact HEs2.out, HR2.out, K2.out⟩
    case round =>
     clear HE2 HL2 HEs2 HR2 K2
     obtain ⟨j, is2, rfl, hj, hE, hL2, hes2, hp2, hk⟩ := hrel
     have HE3 := xoo hE
     have HK3 := xoo hk
     have HP3 := xoo hp2
     have HS3 := xoo hes2
     clear hE hk hp2 hes2
     by_cases hjl : j < es.length
     · obtain ⟨e, he⟩ : ∃ e, es[j]? = some e := ⟨_, List.getElem?_eq_getElem hjl⟩
       have hdr : es.drop j = e :: es.drop (j + 1) := by
        obtain ⟨h1, h2⟩ := List.getElem?_eq_some_iff.1 he
        rw [List.drop_eq_getElem_cons h1, h2]
       obtain ⟨hel, x, y, hex⟩ := HS3.out e (by rw [hdr]; simp)
       obtain ⟨ge, gcap, hgv, _, _⟩ := (HE3.out.row).form (by omega)
       obtain ⟨rfl, _, rfl⟩ := Value.slice.inj hgv
       have ce : wr.cell? ⟨ge, j, none⟩ = some (.int .i64 (e : Int)) := by
        have hr := HE3.out.row
        unfold ownN at hr
        rw [hr.cellAt j (by omega), List.getElem?_map, he]; rfl
       obtain ⟨g, cap, ivs, hO⟩ := HE3.out.mkr.mko (by omega)
       rw [hL2] at hO
       obtain ⟨iv, hiv⟩ := hO.last (k := e) hel
       have c0 : wr.cell? ⟨mb, 0, none⟩ = some (.slice (some ⟨g, 0, none⟩) EE cap) := by rw [Lib.cell_of_heap hO.bk]; rfl
       have y2 := hO.cell hiv (j := 2) (by omega)
       have y3 := hO.cell hiv (j := 3) (by omega)
       have z2 := hO.own.frozenAt (e * 4 + 2)
       have z3 := hO.own.frozenAt (e * 4 + 3)
       have hgm : g ≠ mb := fun h => hmb (h ▸ hO.gB.1)
       have hmg : mb ≠ g := fun h => hgm h.symm
       have hgg : g ≠ ge := fun h => hO.gB.2 (by rw [h]; rfl)
       have hXY := (hO.setXY (fun h => hmb h.1) hiv hex EE EE).1
       have HXY := xoo hXY
       have u2 : encP iv 2 = .int .i64 iv.x := rfl
       have u3 : encP iv 3 = .int .i64 iv.y := rfl
       rw [u2] at y2
       rw [u3] at y3
       have hEp : xcs (es.drop (j + 1)) EE (is2.set e ⟨2, [], EE, EE⟩) = R EE := by rw [← HP3.out, hdr]; rfl
       have HEp := xoo hEp
       have HS4 : Hid (∀ e' ∈ es.drop (j + 1), e' < EE ∧ ∃ x y, (is2.set e ⟨2, [], EE, EE⟩)[e']? = some ⟨2, [], x, y⟩) := xoo (fun e' he' => by
        obtain ⟨h1, x', y', h2⟩ := HS3.out e' (by rw [hdr]; simp [he'])
        refine ⟨h1, ?_⟩
        rw [List.getElem?_set]
        by_cases h : e = e'
        · subst h
          rw [if_pos rfl, if_pos (by rw [hL2]; exact h1)]
          exact ⟨_, _, rfl⟩
        rw [if_neg h]; exact ⟨x', y', h2⟩)
       have KG : Hid (xa (fun b => b = g) wr ((wr.setCell ⟨g, e * 4 + 2, none⟩ (.int .i64 (EE : Int))).setCell ⟨g, e * 4 + 3, none⟩ (.int .i64 (EE : Int)))) := xoo (((xa.refl (fun b => b = g) wr).set (p := ⟨g, e * 4 + 2, none⟩) rfl _).set (p := ⟨g, e * 4 + 3, none⟩) rfl _)
       clear hXY hO hiv hex he hdr hEp u2 u3 hgv HP3 HS3
       go_wp2_with fail
       go_region
       all_goals
        go_wp2_with fail
        go_roundw
        case rel =>
         obtain ⟨ivs', hM⟩ := HXY.out
         obtain ⟨q1, q2⟩ := HE3.out.stored hM KG.out
         exact ⟨j + 1, is2.set e ⟨2, [], EE, EE⟩, by go_num, by omega, q1.keepsF (xa.refl (fun _ => False) _).drew, by rw [List.length_set]; exact hL2, HS4.out, HEp.out, (HK3.out.trans q2).drew⟩
        case measure => simp [intOf]; omega
     obtain rfl : j = es.length := by omega
     have HF : Hid (is2 = R EE) := xoo (by have h := HP3.out; rw [List.drop_length] at h; exact h)
     have HM3 := xoo (HE3.out.mkr.mono (C := B) (fun b h => h.1))
     go_wp2_with fail
     go_end0
     exact ⟨rfl, by rw [← HF.out]; exact HM3.out, HK3.out⟩
  have g3 : ((i : Int) == (L.length : Int) - 1) = false := beq_eq_false_iff_ne.2 (by omega)
  obtain ⟨p2, hp2⟩ : ∃ p2, q[i + 1]? = some p2 := ⟨_, List.getElem?_eq_getElem (by rw [HN.out]; omega)⟩
  have hd2 : q.drop i = p :: p2 :: q.drop (i + 1 + 1) := by rw [hdi, xeP hp2]
  have hd3 : q.drop (i + 1) = p2 :: q.drop (i + 1 + 1) := xeP hp2
  rw [hd2] at hlen
  simp only [altN] at hlen
  have HL := xoo (fun b => HNG.out.len b)
  have HSp := xoo (xcO B2 mb is' _ M0.out b2a (fun b h => b2b b (by omega)) (by omega))
  have z0 : (wr.alloc (.cells #[.int .i64 uo, .slice d1 f1 g1, .int .i64 um, .int .i64 ux, .slice d2 f2 g2] 154)).cell? ⟨wr.heap.size, 0, none⟩ = some (.int .i64 uo) := by simp [go_sem]
  have z1 : (wr.alloc (.cells #[.int .i64 uo, .slice d1 f1 g1, .int .i64 um, .int .i64 ux, .slice d2 f2 g2] 154)).cell? ⟨wr.heap.size, 1, none⟩ = some (.slice d1 f1 g1) := by simp [go_sem]
  have z2 : (wr.alloc (.cells #[.int .i64 uo, .slice d1 f1 g1, .int .i64 um, .int .i64 ux, .slice d2 f2 g2] 154)).cell? ⟨wr.heap.size, 2, none⟩ = some (.int .i64 um) := by simp [go_sem]
  have z3 : (wr.alloc (.cells #[.int .i64 uo, .slice d1 f1 g1, .int .i64 um, .int .i64 ux, .slice d2 f2 g2] 154)).cell? ⟨wr.heap.size, 3, none⟩ = some (.int .i64 ux) := by simp [go_sem]
  have z4 : (wr.alloc (.cells #[.int .i64 uo, .slice d1 f1 g1, .int .i64 um, .int .i64 ux, .slice d2 f2 g2] 154)).cell? ⟨wr.heap.size, 4, none⟩ = some (.slice d2 f2 g2) := by simp [go_sem]
  have Z0 := xoo z0
  have Z1 := xoo z1
  have Z2 := xoo z2
  have Z3 := xoo z3
  have Z4 := xoo z4
  have hfar : ¬ (wr.heap.size = mb ∨ B2 wr.heap.size) := fun h => by
   rcases h with h | h
   · omega
   exact b2d h
  have hfal : ¬ (fun b => b = mb ∨ B2 b) wr.heap.size := hfar
  clear z0 z1 z2 z3 z4 hki hpi hdi hp2 M0
  go_wp2_with fail
  refine HSp.out.mono ?_
  rintro e w2 ⟨rfl, h2, k2⟩
  have hs2 := k2.size
  rw [hsa] at hs2
  have z0 := k2.cell Z0.out hfal
  have z1 := k2.cell Z1.out hfal
  have z2 := k2.cell Z2.out hfal
  have z3 := k2.cell Z3.out hfal
  have z4 := k2.cell Z4.out hfal
  have K02 : xa (fun _ => False) w0 w2 := K0a.out.trans2 k2 (fun b hb e => by
   rcases e with e | e
   · omega
   have := b2c b e; omega)
  have hLs : (is' ++ [(⟨2, [], is'.length + 1, 0⟩ : Ins)]).length = is'.length + 1 := by simp
  have hrun := HNG.out.run P B2 ⟨uo, .slice d1 f1 g1, um, ux, .slice d2 f2 g2⟩ w0 w2 mb _ Hu.out K02 hmb1 b2a (fun b h => b2b b (by omega)) b2c (by rw [hLs]; omega) h2
  rw [hLs] at hrun
  have HS := xoo hrun
  unfold NV.val at HS
  have K2 := xoo k2
  clear h2 k2 K02 hrun HSp
  go_wp2_with fail
  refine HS.out.mono ?_
  rintro e w3 ⟨rfl, h3, k3⟩
  have hs3 := k3.size
  have K3 := xoo (K2.out.trans k3)
  obtain ⟨cc, hcc⟩ : ∃ cc, p.1 (is'.length + 1) = cc := ⟨_, rfl⟩
  have hccl : cc.length = p.2 := by rw [← hcc]; exact HL.out _
  rw [hcc] at h3
  have HCC := xoo hcc
  have hL3 : (is' ++ [(⟨2, [], is'.length + 1, 0⟩ : Ins)] ++ cc).length = is'.length + 1 + cc.length := by simp; omega
  have hJ := xgR B2 mb 0 _ w3 h3 b2a (fun b h => b2b b (by omega)) (by rw [hL3]; omega) (by omega)
  rw [hL3] at hJ
  have HJ := xoo hJ
  clear h3 k3 hJ hcc HS z0 z1 z2 z3 z4 K2
  go_wp2_with fail
  refine HJ.out.mono ?_
  rintro e w4 ⟨rfl, h4, k4⟩
  have k24 := K3.out.trans k4
  have hE4 : MkE B w4 mb (is' ++ [(⟨2, [], is'.length + 1, 0⟩ : Ins)] ++ cc ++ [⟨2, [], 0, 0⟩]) (.slice ea es.length ec) es := (HE.out.keepsF KA.out).next hmb (h4.mono b2e) (k24.mono (fun b _ e => e.imp id (b2e b)))
  have HE4 := xoo hE4
  have K4 : Hid (xa (fun b => b = mb ∨ B b) w w4) := xoo ((HKr.out.trans2 KA.out (fun _ _ e => e.elim)).trans2 k24 (fun b _ e => e.imp id (fun h => (b2e b h).1)))
  have hs4 := k4.size
  clear h4 k4 k24 hE4 HJ K3
  go_wp2_with (at_builtin; refine wpList_append_lies _ rfl (.tmp 30) (.tmp 33) 23 rfl 0 3 i0 (.int .i64 0) 1 8 Tryz.underlying23 hi0 hz0 hz1 hz2 rfl (by decide) _ es.length _ rfl (xab HE4.out.row _) ⟨w4.heap.size, 0, none⟩ 1 1 [.int .i64 ((is'.length : Int) + 1 + (p.2 : Int))] rfl rfl (by exact xan _ [_] _) (by simp [Value.oneCell']) (by decide) (by unfold maxLen; omega) (by omega) (Nat.zero_le _) _ rfl ?_)
  intro ge gcap w5 hown5 hgrow5 hat5 hlt5
  rw [show ((is'.length : Int) + 1 + (p.2 : Int)) = ((is'.length + 1 + p.2 : Nat) : Int) by omega] at hown5
  obtain ⟨hE5, k5⟩ := HE4.out.push hmb (fun b h => Hb.out b (by have := K4.out.size; omega)) ((xa.refl (fun _ => False) w4).alloc _) hown5 hgrow5 (hat5.imp id (fun h => by rw [h]; simp))
  obtain ⟨is5, his5⟩ : ∃ l, l = is' ++ [(⟨2, [], is'.length + 1, 0⟩ : Ins)] ++ cc ++ [⟨2, [], 0, 0⟩] := ⟨_, rfl⟩
  rw [← his5] at hE5
  have hl5 : is5.length = is'.length + p.2 + 2 := by rw [his5]; simp; omega
  have hx5 : is5[is'.length]? = some ⟨2, [], is'.length + 1, 0⟩ := by rw [his5]; simp
  have hset : is5.set is'.length ⟨2, [], is'.length + 1, is5.length⟩ = is' ++ ⟨2, [], is'.length + 1, is5.length⟩ :: (cc ++ [⟨2, [], 0, 0⟩]) := by
   rw [hl5, his5]
   simp [List.set_append_right]
  obtain ⟨g, cap, ivs, hO⟩ := hE5.mkr.mko (by omega)
  obtain ⟨iv, hiv⟩ := hO.last (k := is'.length) (by omega)
  have c0 : w5.cell? ⟨mb, 0, none⟩ = some (.slice (some ⟨g, 0, none⟩) is5.length cap) := by rw [Lib.cell_of_heap hO.bk]; rfl
  have y3 := hO.cell hiv (j := 3) (by omega)
  have f3 := hO.own.frozenAt (is'.length * 4 + 3)
  have hgm : g ≠ mb := fun h => hmb (h ▸ hO.gB.1)
  have hmg : mb ≠ g := fun h => hgm h.symm
  have hXY := (hO.setXY (fun h => hmb h.1) hiv hx5 0 is5.length).2.2
  simp only [hset] at hXY
  have HXY := xoo hXY
  have e3 : encP iv 3 = .int .i64 iv.y := rfl
  rw [e3] at y3
  have KG : Hid (xa (fun b => b = g) w5 (w5.setCell ⟨g, is'.length * 4 + 3, none⟩ (.int .i64 (is5.length : Int)))) := xoo ((xa.refl (fun b => b = g) w5).set (p := ⟨g, is'.length * 4 + 3, none⟩) rfl _)
  have HE5 := xoo hE5
  have K5 := xoo (K4.out.trans k5)
  have HPs : Hid (∀ E, xcs (es ++ [is'.length + 1 + p.2]) E (is' ++ ⟨2, [], is'.length + 1, is5.length⟩ :: (cc ++ [⟨2, [], 0, 0⟩])) ++ altC (q.drop (i + 1)) (is' ++ (⟨2, [], is'.length + 1, is5.length⟩ : Ins) :: (cc ++ [⟨2, [], 0, 0⟩])).length E = is ++ altC q is.length E) := xoo (fun E => by
   rw [show is'.length + 1 + p.2 = is'.length + 1 + cc.length by omega, xjL es E is' cc is5.length (fun e he => (HEs.out e he).1), ← HPat.out E, hd2, hd3, altC, HCC.out]
   have : (is' ++ (⟨2, [], is'.length + 1, is5.length⟩ : Ins) :: (cc ++ [⟨2, [], 0, 0⟩])).length = is'.length + p.2 + 2 := by simp; omega
   rw [this, hl5]
   simp)
  have HEs5 : Hid (∀ e ∈ es ++ [is'.length + 1 + p.2], e < (is' ++ (⟨2, [], is'.length + 1, is5.length⟩ : Ins) :: (cc ++ [⟨2, [], 0, 0⟩])).length ∧ ∃ x y, (is' ++ (⟨2, [], is'.length + 1, is5.length⟩ : Ins) :: (cc ++ [⟨2, [], 0, 0⟩]))[e]? = some ⟨2, [], x, y⟩) := xoo (fun e he => by
   rcases List.mem_append.1 he with he | he
   · obtain ⟨h1, x, y, h2⟩ := HEs.out e he
     exact ⟨by rw [List.length_append]; omega, x, y, by rw [List.getElem?_append_left h1]; exact h2⟩
   obtain rfl : e = is'.length + 1 + p.2 := by simpa using he
   refine ⟨by simp; omega, 0, 0, ?_⟩
   rw [List.getElem?_append_right (by omega), show is'.length + 1 + p.2 - is'.length = cc.length + 1 by omega, List.getElem?_cons_succ, List.getElem?_append_right (Nat.le_refl _), Nat.sub_self]
   rfl)
  have HLn : Hid ((is' ++ (⟨2, [], is'.length + 1, is5.length⟩ : Ins) :: (cc ++ [⟨2, [], 0, 0⟩])).length + altN (q.drop (i + 1)) = is.length + altN q) := xoo (by rw [hd3]; simp; omega)
  have hl5a : is'.length < is5.length := by omega
  have hl5b : is5.length ≤ 2500 := by omega
  clear hl5
  clear hown5 hgrow5 hat5 hE5 k5 his5 hx5 hset hO hiv hXY e3 HPat HEs hd2 hd3 HE4
  go_wp2_with fail
  go_region
  all_goals
   go_wp2_with fail
   go_roundw
   case rel =>
    obtain ⟨ivs', hM⟩ := HXY.out
    obtain ⟨q1, q2⟩ := HE5.out.stored hM KG.out
    exact ⟨i + 1, _, es ++ [is'.length + 1 + p.2], by go_num, by omega, by simp; omega, by have := q1.keepsF (xa.refl (fun _ => False) _).drew; simpa using this, HLn.out, HEs5.out, HPs.out, (K5.out.trans q2).drew⟩
   case measure => simp [intOf]; omega
def optC (p : Cd) : Nat → Nat → Nat → List Ins
 | 0, _, _ => []
 | k + 1, b, E => ⟨2, [], b + 1, E⟩ :: (p.1 (b + 1) ++ optC p k (b + 1 + p.2) E)
def optN (p : Cd) : Nat → Nat
 | 0 => 0
 | k + 1 => p.2 + 1 + optN p k
def xcq (p : Cd) : Nat → Nat → List Ins
 | 0, _ => []
 | k + 1, b => p.1 b ++ xcq p k (b + p.2)
def xbh (p : Cd) : Nat → Nat
 | 0 => 0
 | k + 1 => p.2 + xbh p k
def xjI (p : Cd) (b : Nat) : List Ins := ⟨2, [], b + 1, b + p.2 + 2⟩ :: (p.1 (b + 1) ++ [⟨2, [], b, b⟩])
def repC (p : Cd) (a : Nat) (mx : Int) (b : Nat) : List Ins :=
 xcq p a b ++ if mx < 0 then xjI p (b + xbh p a) else optC p (mx.toNat - a) (b + xbh p a) (b + xbh p a + optN p (mx.toNat - a))
def repN (p : Cd) (a : Nat) (mx : Int) : Nat := xbh p a + if mx < 0 then p.2 + 2 else optN p (mx.toNat - a)
theorem xdy {p : Cd} (h : ∀ b, (p.1 b).length = p.2) : ∀ k b, (xcq p k b).length = xbh p k
 | 0, _ => rfl
 | k + 1, b => by rw [xcq, List.length_append, h, xdy h k, xbh]
theorem xiD {p : Cd} (h : ∀ b, (p.1 b).length = p.2) : ∀ k b E, (optC p k b E).length = optN p k
 | 0, _, _ => rfl
 | k + 1, b, E => by rw [optC, List.length_cons, List.length_append, h, xiD h k, optN]; omega
theorem xmU {p : Cd} (h : ∀ b, (p.1 b).length = p.2) (a : Nat) (mx : Int) (b : Nat) : (repC p a mx b).length = repN p a mx := by
 unfold repC repN
 rw [List.length_append, xdy h]
 split
 · simp [xjI, h]
 rw [xiD h]
theorem xgz {p : Cd} (h : ∀ (b k : Nat) (i : Ins), (p.1 b)[k]? = some i → okG b (b + p.2) i) : ∀ (n b k : Nat) (i : Ins), (xcq p n b)[k]? = some i → okG b (b + xbh p n) i
 | 0, _, _, _, hi => by simp [xcq] at hi
 | n + 1, b, k, i, hi => by
  rw [xcq] at hi
  rcases xdP hi with hi | ⟨_, hi⟩
  · exact (h b k i hi).mono (Nat.le_refl _) (by simp only [xbh]; omega)
  exact (xgz h n (b + p.2) _ i hi).mono (by omega) (by simp only [xbh]; omega)
theorem xlc {p : Cd} (h : ∀ (b k : Nat) (i : Ins), (p.1 b)[k]? = some i → okG b (b + p.2) i) : ∀ (n b E k : Nat) (i : Ins), b + optN p n ≤ E → (optC p n b E)[k]? = some i → okG b E i
 | 0, _, _, _, _, _, hi => by simp [optC] at hi
 | n + 1, b, E, k, i, hE, hi => by
  simp only [optN] at hE
  rw [optC] at hi
  rcases k with _ | k
  · obtain rfl : (⟨2, [], b + 1, E⟩ : Ins) = i := by simpa using hi
    exact Or.inr ⟨rfl, ⟨by simp, by simp; omega⟩, by simp; omega, by simp⟩
  rw [List.getElem?_cons_succ] at hi
  rcases xdP hi with hi | ⟨_, hi⟩
  · exact (h (b + 1) k i hi).mono (by omega) (by omega)
  exact (xlc h n (b + 1 + p.2) E _ i (by omega) hi).mono (by omega) (Nat.le_refl _)
theorem repC_ok {p : Cd} (h : ∀ (b k : Nat) (i : Ins), (p.1 b)[k]? = some i → okG b (b + p.2) i) (a : Nat) (mx : Int) (b k : Nat) (i : Ins) (hi : (repC p a mx b)[k]? = some i) : okG b (b + repN p a mx) i := by
 unfold repC at hi
 unfold repN
 rcases xdP hi with hi | ⟨_, hi⟩
 · exact (xgz h a b k i hi).mono (Nat.le_refl _) (by omega)
 split at hi
 · rename_i hm
   rw [if_pos hm]
   generalize k - (xcq p a b).length = k' at hi
   unfold xjI at hi
   rcases k' with _ | k'
   · obtain rfl : (⟨2, [], b + xbh p a + 1, b + xbh p a + p.2 + 2⟩ : Ins) = i := by simpa using hi
     exact Or.inr ⟨rfl, ⟨by (first | (simp; done) | (simp; omega)), by (first | (simp; done) | (simp; omega))⟩, by (first | (simp; done) | (simp; omega)), by (first | (simp; done) | (simp; omega))⟩
   rw [List.getElem?_cons_succ] at hi
   rcases xdP hi with hi | ⟨_, hi⟩
   · exact (h _ _ i hi).mono (by omega) (by omega)
   generalize k' - (p.1 (b + xbh p a + 1)).length = k2 at hi
   rcases k2 with _ | k2
   · obtain rfl : (⟨2, [], b + xbh p a, b + xbh p a⟩ : Ins) = i := by simpa using hi
     exact Or.inr ⟨rfl, ⟨by (first | (simp; done) | (simp; omega)), by (first | (simp; done) | (simp; omega))⟩, by (first | (simp; done) | (simp; omega)), by (first | (simp; done) | (simp; omega))⟩
   simp at hi
 rename_i hm
 rw [if_neg hm]
 exact (xlc h _ _ _ _ i (Nat.le_refl _) hi).mono (by omega) (by omega)
def xbF (es : List Nat) (E : Nat) (l : List Ins) : List Ins := es.foldl (fun l e => l.set e ⟨2, [], e + 1, E⟩) l
theorem xdE : ∀ (es : List Nat) (E : Nat) (l : List Ins), (xbF es E l).length = l.length
 | [], _, _ => rfl
 | e :: es, E, l => by
  show (xbF es E (l.set e _)).length = _
  rw [xdE es E, List.length_set]
theorem xft : ∀ (es : List Nat) (E : Nat) (l m : List Ins), (∀ e ∈ es, e < l.length) → xbF es E (l ++ m) = xbF es E l ++ m
 | [], _, _, _, _ => rfl
 | e :: es, E, l, m, h => by
  show xbF es E ((l ++ m).set e _) = xbF es E (l.set e _) ++ m
  rw [List.set_append_left _ _ (h e (by simp)), xft es E _ m (fun x hx => by rw [List.length_set]; exact h x (by simp [hx]))]
theorem xhK (es : List Nat) (E : Nat) (l c : List Ins) (h : ∀ e ∈ es, e < l.length) : xbF (es ++ [l.length]) E (l ++ ⟨2, [], l.length + 1, 0⟩ :: c) = xbF es E l ++ ⟨2, [], l.length + 1, E⟩ :: c := by
 have : xbF (es ++ [l.length]) E (l ++ ⟨2, [], l.length + 1, 0⟩ :: c) = (xbF es E (l ++ ⟨2, [], l.length + 1, 0⟩ :: c)).set l.length ⟨2, [], l.length + 1, E⟩ := by
  unfold xbF; rw [List.foldl_append]; rfl
 rw [this, xft es E l _ h, List.set_append_right _ _ (by rw [xdE]; omega), xdE, Nat.sub_self]
 rfl
def Rp1 (p : Cd) (a : Nat) (R : List Ins) (lim : Nat) (B : Nat → Prop) (mb : Nat) (w : World) (iv : Value) (wr : World) : Prop :=
 ∃ (i r : Nat) (is' : List Ins), iv = .int .i64 i ∧ i + r = a ∧ MkAt B wr mb is' ∧ is'.length + xbh p r = lim ∧ is' ++ xcq p r is'.length = R ∧ xa (fun b => b = mb ∨ B b) w wr
def Rp2 (p : Cd) (n : Nat) (R : Nat → List Ins) (lim : Nat) (B : Nat → Prop) (mb : Nat) (w : World) (sv iv : Value) (wr : World) : Prop :=
 ∃ (i r : Nat) (is' : List Ins) (es : List Nat), iv = .int .i64 i ∧ i + r = n ∧ es.length = i ∧ MkE B wr mb is' sv es ∧ is'.length + optN p r = lim ∧ (∀ e ∈ es, e < is'.length ∧ ∃ y, is'[e]? = some ⟨2, [], e + 1, y⟩) ∧ (∀ E, xbF es E is' ++ optC p r is'.length E = R E) ∧ xa (fun b => b = mb ∨ B b) w wr
def Rp3 (B : Nat → Prop) (mb E : Nat) (es : List Nat) (R : List Ins) (ev : Value) (w : World) (iv : Value) (wr : World) : Prop :=
 ∃ (j : Nat) (is' : List Ins), iv = .int .i64 j ∧ j ≤ es.length ∧ MkE B wr mb is' ev es ∧ is'.length = E ∧ (∀ e ∈ es.drop j, e < E ∧ ∃ y, is'[e]? = some ⟨2, [], e + 1, y⟩) ∧ xbF (es.drop j) E is' = R ∧ xa (fun b => b = mb ∨ B b) w wr
theorem xlb (p : Cd) : ∀ n, n ≤ optN p n
 | 0 => Nat.le_refl _
 | n + 1 => by have := xlb p n; simp only [optN]; omega
theorem xnk (k : T) (p : Cd) (hk : xbU k p.1 p.2) (an : Nat) (mx : Int) (hmx : mx < 0 ∨ (an : Int) ≤ mx) (hmx2 : -1 ≤ mx ∧ mx ≤ 1000) (han : an ≤ 1000) (P B : Nat → Prop) (a1 a : Option Addr) (n1 c1 c mb : Nat) (w0 w : World) (is : List Ins) (ha : KRow w0 P a [k]) (k0 : xa (fun _ => False) w0 w) (hmb1 : w0.heap.size ≤ mb)
 (hmb : ¬ B mb) (hb : ∀ b, w.heap.size ≤ b → B b) (hB : ∀ b, B b → w0.heap.size ≤ b) (hn : is.length + repN p an mx ≤ 2500) (hM : MkAt B w mb is) :
 Calls Tryz.prog 169 #[.pointer (some ⟨mb, 0, none⟩), .agg #[.int .i64 6, .slice a1 n1 c1, .int .i64 an, .int .i64 mx, .slice a 1 c]] w fun e w' => NdE B mb (is ++ repC p an mx is.length) w e w' := by
 obtain ⟨i0, hi0, hz0, hz1, hz2⟩ := info_parts xds
 obtain ⟨b, off, uo, d1, f1, g1, um, ux, d2, f2, g2, rfl, hu, hlt0, x0, x1, x2, x3, x4⟩ := ha.kid k0 (i := 0) rfl
 simp only [Nat.zero_mul, Nat.add_zero] at x0 x1 x2 x3 x4
 have hlt : b < w.heap.size := xay x0
 have hmw : mb < w.heap.size := hM.lt
 obtain ⟨w2, hw2⟩ : ∃ W, W = (w.alloc (.cells #[.int .i64 6, .slice a1 n1 c1, .int .i64 an, .int .i64 mx, .slice (some ⟨b, off, none⟩) 1 c] 154)).alloc (.cells #[.int .i64 uo, .slice d1 f1 g1, .int .i64 um, .int .i64 ux, .slice d2 f2 g2] 154) := ⟨_, rfl⟩
 have k02 : xa (fun _ => False) w w2 := by rw [hw2]; exact ((xa.refl _ _).alloc _).alloc _
 have hs2 : w2.heap.size = w.heap.size + 2 := by rw [hw2]; simp
 have hMn : w2.cell? ⟨w.heap.size, 2, none⟩ = some (.int .i64 (an : Int)) := by rw [hw2]; exact xad (by simp [go_sem]) _
 have hMx : w2.cell? ⟨w.heap.size, 3, none⟩ = some (.int .i64 mx) := by rw [hw2]; exact xad (by simp [go_sem]) _
 have t0 : w2.cell? ⟨w.heap.size + 1, 0, none⟩ = some (.int .i64 uo) := by rw [hw2]; simp [go_sem]
 have t1 : w2.cell? ⟨w.heap.size + 1, 1, none⟩ = some (.slice d1 f1 g1) := by rw [hw2]; simp [go_sem]
 have t2 : w2.cell? ⟨w.heap.size + 1, 2, none⟩ = some (.int .i64 um) := by rw [hw2]; simp [go_sem]
 have t3 : w2.cell? ⟨w.heap.size + 1, 3, none⟩ = some (.int .i64 ux) := by rw [hw2]; simp [go_sem]
 have t4 : w2.cell? ⟨w.heap.size + 1, 4, none⟩ = some (.slice d2 f2 g2) := by rw [hw2]; simp [go_sem]
 obtain ⟨B2, hB2⟩ : ∃ B2 : Nat → Prop, B2 = fun x => B x ∧ ¬ (x = w.heap.size ∨ x = w.heap.size + 1) := ⟨_, rfl⟩
 have b2a : ¬ B2 mb := by rw [hB2]; exact fun h => hmb h.1
 have b2b : ∀ x, w.heap.size + 2 ≤ x → B2 x := fun x h => by rw [hB2]; exact ⟨hb x (by omega), by omega⟩
 have b2c : ∀ x, B2 x → w0.heap.size ≤ x := fun x h => by rw [hB2] at h; exact hB x h.1
 have b2e : ∀ x, B2 x → B x := fun x h => by rw [hB2] at h; exact h.1
 have hM2 : MkAt B2 w2 mb is := by
  rw [hB2]
  exact (hM.but (fun x => x = w.heap.size ∨ x = w.heap.size + 1) (fun x e => by omega)).keepsF k02
 have hfar0 : ¬ (fun x => x = mb ∨ B2 x) w.heap.size := fun h => by
  rcases h with h | h
  · omega
  rw [hB2] at h; exact h.2 (Or.inl rfl)
 have hfar1 : ¬ (fun x => x = mb ∨ B2 x) (w.heap.size + 1) := fun h => by
  rcases h with h | h
  · omega
  rw [hB2] at h; exact h.2 (Or.inr rfl)
 have HT : Hid (∀ W, xa (fun x => x = mb ∨ B2 x) w2 W → W.cell? ⟨w.heap.size + 1, 0, none⟩ = some (.int .i64 uo) ∧ W.cell? ⟨w.heap.size + 1, 1, none⟩ = some (.slice d1 f1 g1) ∧ W.cell? ⟨w.heap.size + 1, 2, none⟩ = some (.int .i64 um) ∧ W.cell? ⟨w.heap.size + 1, 3, none⟩ = some (.int .i64 ux) ∧ W.cell? ⟨w.heap.size + 1, 4, none⟩ = some (.slice d2 f2 g2) ∧ W.cell? ⟨w.heap.size, 3, none⟩ = some (.int .i64 mx) ∧ W.cell? ⟨w.heap.size, 2, none⟩ = some (.int .i64 (an : Int)) ∧ w.heap.size + 2 ≤ W.heap.size) :=
  xoo fun W K => ⟨K.cell t0 hfar1, K.cell t1 hfar1, K.cell t2 hfar1, K.cell t3 hfar1, K.cell t4 hfar1, K.cell hMx hfar0, K.cell hMn hfar0, by have := K.size; omega⟩
 have HNd : Hid (∀ (C : Nat → Prop) W is', (∀ x, C x → B2 x) → (∀ x, W.heap.size ≤ x → C x) → xa (fun x => x = mb ∨ B2 x) w2 W → is'.length + p.2 ≤ 2500 → MkAt C W mb is' → Calls Tryz.prog 130 #[.pointer (some ⟨mb, 0, none⟩), .agg #[.int .i64 uo, .slice d1 f1 g1, .int .i64 um, .int .i64 ux, .slice d2 f2 g2]] W fun e w' => NdE C mb (is' ++ p.1 is'.length) W e w') := by
  refine xoo fun C W is' hC hf K hl hM => ?_
  exact hk.run P C ⟨uo, .slice d1 f1 g1, um, ux, .slice d2 f2 g2⟩ w0 W mb is' hu ((k0.trans k02).trans2 K (fun x hx e => by
   rcases e with e | e
   · omega
   have := b2c x e; omega)) hmb1 (fun h => b2a (hC mb h)) hf (fun x h => b2c x (hC x h)) hl hM
 have HE : Hid (∀ W, xa (fun x => x = mb ∨ B2 x) w2 W → xa (fun x => x = mb ∨ B x) w W) := xoo fun W K => (k02.mono (fun _ _ e => e.elim)).trans2 K (fun x hx e => e.imp id (b2e x))
 have HE' := HE
 have HL := xoo hk.len
 have HM2 := xoo hM2
 obtain ⟨R1, hR1⟩ : ∃ R, is ++ xcq p an is.length = R := ⟨_, rfl⟩
 have hR1l : R1.length = is.length + xbh p an := by rw [← hR1, List.length_append, xdy hk.len]
 have hfin : is ++ repC p an mx is.length = R1 ++ if mx < 0 then xjI p R1.length else optC p (mx.toNat - an) R1.length (R1.length + optN p (mx.toNat - an)) := by
  unfold repC
  rw [← List.append_assoc, hR1, hR1l]
 rw [hfin]
 unfold repN at hn
 have HR1 := xoo hR1
 have HR1l := xoo hR1l
 clear ha hu k0 t0 t1 t2 t3 t4 hMx hM2 hfin hR1 hR1l hM hk k02 hB2
 go_enter Tryz.func169, Tryz.ntmps169
 go_wp2_with fail
 rw [← hw2]
 clear hw2 x0 x1 x2 x3 x4 hMn
 go_loopw [15] (fun iv wr => Rp1 p an R1 (is.length + xbh p an) B2 mb w2 iv wr) (fun iv _ => an - (intOf iv).toNat)
 case atStart => exact ⟨0, an, is, rfl, by omega, HM2.out, rfl, HR1.out, xa.refl _ _⟩
 case round =>
  clear HM2
  obtain ⟨i, r, is', rfl, hir, hM, hl, hf, hk⟩ := hrel
  have HM := xoo hM
  have HF := xoo hf
  have K := xoo hk
  obtain ⟨t0, t1, t2, t3, t4, t5, t6, hsz⟩ := HT.out wr K.out
  clear hM hf hk
  rcases r with _ | r
  · obtain rfl : i = an := by omega
    have HI : Hid (is' = R1) := xoo (by have h := HF.out; simpa [xcq] using h)
    have HM1 : Hid (MkAt B2 wr mb R1) := xoo (by rw [← HI.out]; exact HM.out)
    have hl1 := HR1l.out
    clear HF HI HM hl
    have hl1b : R1.length ≤ 2500 := by omega
    by_cases hm : mx < 0
    · have g1 : decide (mx < 0) = true := by simpa using hm
      rw [if_pos hm] at hn
      have hA : R1.length + (p.2 + 2) ≤ 2500 := by omega
      clear t0 t1 t2 t3 t4 hl1 hn
      have HSp := xoo (xcO B2 mb R1 wr HM1.out b2a (fun x h => b2b x (by omega)) (by omega))
      go_wp2_with fail
      refine HSp.out.mono ?_
      rintro e w3 ⟨rfl, h3, k3⟩
      have k23 := K.out.trans k3
      have K3 := xoo k23
      obtain ⟨t0, t1, t2, t3, t4, t7, t8, hsz3⟩ := HT.out w3 k23
      have hLs : (R1 ++ [(⟨2, [], R1.length + 1, 0⟩ : Ins)]).length = R1.length + 1 := by simp
      have hrun := HNd.out B2 w3 _ (fun _ h => h) (fun x h => b2b x (by omega)) k23 (by rw [hLs]; omega) h3
      rw [hLs] at hrun
      have HS := xoo hrun
      clear h3 k3 k23 hrun HSp t7 t8
      go_wp2_with fail
      refine HS.out.mono ?_
      rintro e w4 ⟨rfl, h4, k4⟩
      have k24 := K3.out.trans k4
      obtain ⟨_, _, _, _, _, _, _, hsz4⟩ := HT.out w4 k24
      obtain ⟨cc, hcc⟩ : ∃ cc, p.1 (R1.length + 1) = cc := ⟨_, rfl⟩
      have hccl : cc.length = p.2 := by rw [← hcc]; exact HL.out _
      rw [hcc] at h4
      have HCC := xoo hcc
      have hL4 : (R1 ++ [(⟨2, [], R1.length + 1, 0⟩ : Ins)] ++ cc).length = R1.length + 1 + cc.length := by simp; omega
      have hJ := xgR B2 mb R1.length _ w4 h4 b2a (fun x h => b2b x (by omega)) (by rw [hL4]; omega) (by omega)
      rw [hL4] at hJ
      have HJ := xoo hJ
      have K4 := xoo k24
      clear h4 k4 hJ hcc HS t0 t1 t2 t3 t4 k24
      go_wp2_with fail
      refine HJ.out.mono ?_
      rintro e w5 ⟨rfl, h5, k5⟩
      have K5 := xoo (K4.out.trans k5)
      obtain ⟨is5, his5⟩ : ∃ l, l = R1 ++ [(⟨2, [], R1.length + 1, 0⟩ : Ins)] ++ cc ++ [⟨2, [], R1.length, R1.length⟩] := ⟨_, rfl⟩
      rw [← his5] at h5
      have hl5 : is5.length = R1.length + p.2 + 2 := by rw [his5]; simp; omega
      have hx5 : is5[R1.length]? = some ⟨2, [], R1.length + 1, 0⟩ := by rw [his5]; simp
      have hset : is5.set R1.length ⟨2, [], R1.length + 1, is5.length⟩ = R1 ++ xjI p R1.length := by
       unfold xjI
       rw [HCC.out, hl5, his5]
       simp [List.set_append_right]
      obtain ⟨g, cap, ivs, hO⟩ := h5.mko (by omega)
      obtain ⟨iv, hiv⟩ := hO.last (k := R1.length) (by omega)
      have c0 : w5.cell? ⟨mb, 0, none⟩ = some (.slice (some ⟨g, 0, none⟩) is5.length cap) := by rw [Lib.cell_of_heap hO.bk]; rfl
      have y3 := hO.cell hiv (j := 3) (by omega)
      have f3 := hO.own.frozenAt (R1.length * 4 + 3)
      have hgB := hO.gB
      have hgm : g ≠ mb := fun h => b2a (h ▸ hgB)
      have hmg : mb ≠ g := fun h => hgm h.symm
      have hXY := (hO.setXY b2a hiv hx5 0 is5.length).2.2
      simp only [hset] at hXY
      have HXY := xoo hXY
      have e3 : encP iv 3 = .int .i64 iv.y := rfl
      rw [e3] at y3
      have hl5a : R1.length < is5.length := by omega
      have hl5b : is5.length ≤ 2502 := by omega
      clear hl5 h5 k5 his5 hx5 hset hO hiv hXY e3 hccl HJ
      go_wp2_with fail
      go_region
      all_goals
       go_wp2_with fail
       refine bodyPost_ret (results_none rfl _ _ _) rfl ?_
       obtain ⟨ivs', hM5⟩ := HXY.out
       exact ⟨rfl, (hM5.at.mono b2e).keepsF (xa.refl (fun _ => False) _).drew, HE.out _ ((K5.out.set (p := ⟨g, R1.length * 4 + 3, none⟩) (Or.inr hgB) _).drew)⟩
    have g1 : decide (mx < 0) = false := by simpa using hm
    rw [if_neg hm] at hn
    obtain ⟨n, rfl⟩ : ∃ n : Nat, mx = (i : Int) + (n : Int) := ⟨(mx - i).toNat, by omega⟩
    have hmn : ((i : Int) + (n : Int)).toNat - i = n := by omega
    rw [hmn] at hn
    have hon := xlb p n
    have hA : R1.length + optN p n ≤ 2500 := by omega
    clear hl1 hn
    have HMn := xoo hmn
    have HME : Hid (MkE B2 wr mb R1 (.slice none 0 0) []) := xoo ⟨HM1.out.mono (fun x hx => ⟨hx, by simp [Value.ownBlock]⟩), ⟨rfl, Or.inl ⟨rfl, rfl⟩⟩, fun x e => by simp [Value.ownBlock] at e⟩
    clear t0 t1 t2 t3 t4 hmn hmx
    go_wp2_with fail
    go_loopw [6, 49] (fun sv iv wr => Rp2 p n (fun E => R1 ++ optC p n R1.length E) (R1.length + optN p n) B2 mb w2 sv iv wr) (fun _ iv _ => n - (intOf iv).toNat)
    case atStart => exact ⟨0, n, R1, [], rfl, by omega, rfl, HME.out, rfl, fun e he => by simp at he, fun E => rfl, K.out⟩
    case round =>
     clear HME HM1 t5 t6 hsz K
     obtain ⟨j, r, is', es, rfl, hjr, hesl, hE, hlen, hes, hpat, hk⟩ := hrel
     have HE := xoo hE
     have HPat := xoo hpat
     have K := xoo hk
     have HEs := xoo hes
     obtain ⟨ea, ec, rfl⟩ := xac hE.row
     obtain ⟨t0, t1, t2, t3, t4, t5, t6, hsz⟩ := HT.out wr K.out
     have hesb : es.length ≤ n := by omega
     have Hesl := xoo hesl
     clear hE hpat hk hes hesl
     rcases r with _ | r
     · obtain rfl : j = n := by omega
       clear t0 t1 t2 t3 t4 t5 t6
       simp only [optN, Nat.add_zero] at hlen
       obtain ⟨EE, hEE⟩ : ∃ E, is'.length = E := ⟨_, rfl⟩
       have HEE := xoo hEE
       have HEq : Hid (R1.length + optN p j = EE) := xoo (by omega)
       have HR2 : Hid (xbF es EE is' = R1 ++ optC p j R1.length EE) := xoo (by have h := HPat.out EE; simpa [optC] using h)
       have HEs2 : Hid (∀ e ∈ es, e < EE ∧ ∃ y, is'[e]? = some ⟨2, [], e + 1, y⟩) := xoo (fun e he => by rw [← hEE]; exact HEs.out e he)
       obtain ⟨RR, hRR⟩ : ∃ R, R1 ++ optC p j R1.length EE = R := ⟨_, rfl⟩
       rw [hRR] at HR2
       have HRR := xoo hRR
       clear hEE hlen hRR HEs HPat
       go_wp2_with fail
       go_loopw [62] (fun iv wr => Rp3 B2 mb EE es RR (.slice ea es.length ec) w2 iv wr) (fun iv _ => es.length - (intOf iv).toNat)
       case atStart => exact ⟨0, is', rfl, Nat.zero_le _, HE.out, HEE.out, by rw [List.drop_zero]; exact HEs2.out, HR2.out, K.out⟩
       case round =>
        clear HE HEs2 HR2 K HEE
        obtain ⟨m, is2, rfl, hj, hE, hL2, hes2, hp2, hk⟩ := hrel
        have HE3 := xoo hE
        have HK3 := xoo hk
        have HP3 := xoo hp2
        have HS3 := xoo hes2
        clear hE hk hp2 hes2
        by_cases hjl : m < es.length
        · obtain ⟨e, he⟩ : ∃ e, es[m]? = some e := ⟨_, List.getElem?_eq_getElem hjl⟩
          have hdr : es.drop m = e :: es.drop (m + 1) := by
           obtain ⟨h1, h2⟩ := List.getElem?_eq_some_iff.1 he
           rw [List.drop_eq_getElem_cons h1, h2]
          obtain ⟨hel, y, hex⟩ := HS3.out e (by rw [hdr]; simp)
          obtain ⟨ge, gcap, hgv, _, _⟩ := (HE3.out.row).form (by omega)
          obtain ⟨rfl, _, rfl⟩ := Value.slice.inj hgv
          have ce : wr.cell? ⟨ge, m, none⟩ = some (.int .i64 (e : Int)) := by
           have hr := HE3.out.row
           unfold ownN at hr
           rw [hr.cellAt m (by omega), List.getElem?_map, he]; rfl
          obtain ⟨g, cap, ivs, hO⟩ := HE3.out.mkr.mko (by omega)
          rw [hL2] at hO
          obtain ⟨iv, hiv⟩ := hO.last (k := e) hel
          have c0 : wr.cell? ⟨mb, 0, none⟩ = some (.slice (some ⟨g, 0, none⟩) EE cap) := by rw [Lib.cell_of_heap hO.bk]; rfl
          have y3 := hO.cell hiv (j := 3) (by omega)
          have z3 := hO.own.frozenAt (e * 4 + 3)
          have hgm : g ≠ mb := fun h => b2a (h ▸ hO.gB.1)
          have hmg : mb ≠ g := fun h => hgm h.symm
          have hgg : g ≠ ge := fun h => hO.gB.2 (by rw [h]; rfl)
          have hXY := (hO.setXY (fun h => b2a h.1) hiv hex 0 EE).2.2
          have HXY := xoo hXY
          have u3 : encP iv 3 = .int .i64 iv.y := rfl
          rw [u3] at y3
          have hEp : xbF (es.drop (m + 1)) EE (is2.set e ⟨2, [], e + 1, EE⟩) = RR := by rw [← HP3.out, hdr]; rfl
          have HEp := xoo hEp
          have HS4 : Hid (∀ e' ∈ es.drop (m + 1), e' < EE ∧ ∃ y, (is2.set e ⟨2, [], e + 1, EE⟩)[e']? = some ⟨2, [], e' + 1, y⟩) := xoo (fun e' he' => by
           obtain ⟨h1, y', h2⟩ := HS3.out e' (by rw [hdr]; simp [he'])
           refine ⟨h1, ?_⟩
           rw [List.getElem?_set]
           by_cases h : e = e'
           · subst h
             rw [if_pos rfl, if_pos (by rw [hL2]; exact h1)]
             exact ⟨_, rfl⟩
           rw [if_neg h]; exact ⟨y', h2⟩)
          have KG : Hid (xa (fun b => b = g) wr (wr.setCell ⟨g, e * 4 + 3, none⟩ (.int .i64 (EE : Int)))) := xoo ((xa.refl (fun b => b = g) wr).set (p := ⟨g, e * 4 + 3, none⟩) rfl _)
          have HL2 := xoo hL2
          clear hXY hO hiv hex he hdr hEp u3 hgv HP3 HS3 hL2
          go_wp2_with fail
          go_region
          all_goals
           go_wp2_with fail
           go_roundw
           case rel =>
            obtain ⟨ivs', hM⟩ := HXY.out
            obtain ⟨q1, q2⟩ := HE3.out.stored hM KG.out
            exact ⟨m + 1, is2.set e ⟨2, [], e + 1, EE⟩, by go_num, by omega, q1.keepsF (xa.refl (fun _ => False) _).drew, by rw [List.length_set]; exact HL2.out, HS4.out, HEp.out, (HK3.out.trans q2).drew⟩
           case measure => simp [intOf]; omega
        obtain rfl : m = es.length := by omega
        have HF : Hid (is2 = RR) := xoo (by have h := HP3.out; rw [List.drop_length] at h; exact h)
        have HM3 := xoo ((HE3.out.mkr.mono (C := B2) (fun b h => h.1)).mono b2e)
        go_wp2_with fail
        go_end0
        have h1 := HM3.out
        rw [HF.out, ← HRR.out, ← HEq.out] at h1
        have h2 : NdE B mb (R1 ++ optC p j R1.length (R1.length + optN p j)) w (.returned (.tuple #[])) wr := ⟨rfl, h1, HE'.out _ HK3.out⟩
        simpa [hm, HMn.out] using h2
     have hjn : j < n := by omega
     have glt : decide ((j : Int) < (n : Int)) = true := by simp; omega
     simp only [optN] at hlen
     have hfre : ∀ x, wr.heap.size ≤ x → B2 x ∧ (Value.slice ea es.length ec).ownBlock ≠ some x := fun x h => ⟨b2b x (by omega), fun e => by have := xaM HE.out.row x e; omega⟩
     have HSp := xoo (xcO (fun x => B2 x ∧ (Value.slice ea es.length ec).ownBlock ≠ some x) mb is' wr HE.out.mkr (fun h => b2a h.1) hfre (by omega))
     clear hfre
     go_wp2_with fail
     refine HSp.out.mono ?_
     rintro e w3 ⟨rfl, h3, k3⟩
     have hE3 := HE.out.next b2a h3 k3
     have k23 := K.out.trans (k3.mono (fun x _ e => e.imp id (fun h => h.1)))
     have HE3 := xoo hE3
     have K3 := xoo k23
     have hsz3 := k23.size
     clear h3 k3 hE3 k23 HSp t0 t1 t2 t3 t4 t5 t6
     go_wp2_with (at_builtin; refine wpList_append_lies _ rfl (.tmp 51) (.tmp 54) 23 rfl 0 3 i0 (.int .i64 0) 1 8 Tryz.underlying23 hi0 hz0 hz1 hz2 rfl (by decide) _ es.length _ rfl (xab HE3.out.row _) ⟨w3.heap.size, 0, none⟩ 1 1 [.int .i64 (is'.length : Int)] rfl rfl (by exact xan _ [_] _) (by simp [Value.oneCell']) (by decide) (by unfold maxLen; omega) (by omega) (Nat.zero_le _) _ rfl ?_)
     intro ge gcap w5 hown5 hgrow5 hat5 hlt5
     obtain ⟨hE5, k5⟩ := HE3.out.push b2a (fun x h => b2b x (by omega)) ((xa.refl (fun _ => False) w3).alloc _) hown5 hgrow5 (hat5.imp id (fun h => by rw [h]; simp))
     have k25 := K3.out.trans k5
     have HE5 := xoo hE5
     have K5 := xoo k25
     obtain ⟨t0, t1, t2, t3, t4, t5, t6, hsz5⟩ := HT.out w5 k25
     have hLs : (is' ++ [(⟨2, [], is'.length + 1, 0⟩ : Ins)]).length = is'.length + 1 := by simp
     have hrun := HNd.out (fun x => B2 x ∧ (Value.slice (some ⟨ge, 0, none⟩) (es.length + 1) gcap).ownBlock ≠ some x) w5 _ (fun _ h => h.1) (fun x h => ⟨b2b x (by omega), fun e => by have h9 : ge = x := Option.some.inj e; omega⟩) k25 (by rw [hLs]; omega) hE5.mkr
     rw [hLs] at hrun
     have HS := xoo hrun
     clear hown5 hgrow5 hat5 hE5 k5 k25 hrun t5 t6 HE3
     go_wp2_with fail
     refine HS.out.mono ?_
     rintro e w6 ⟨rfl, h6, k6⟩
     have HE6 := xoo (HE5.out.next b2a h6 k6)
     have K6 := xoo (K5.out.trans (k6.mono (fun x _ e => e.imp id (fun h => h.1))))
     have HL3 : Hid ((is' ++ [(⟨2, [], is'.length + 1, 0⟩ : Ins)] ++ p.1 (is'.length + 1)).length = is'.length + 1 + p.2) := xoo (by simp [HL.out]; omega)
     have HPs : Hid (∀ E, xbF (es ++ [is'.length]) E (is' ++ [(⟨2, [], is'.length + 1, 0⟩ : Ins)] ++ p.1 (is'.length + 1)) ++ optC p r (is' ++ [(⟨2, [], is'.length + 1, 0⟩ : Ins)] ++ p.1 (is'.length + 1)).length E = R1 ++ optC p n R1.length E) := xoo (fun E => by
      rw [HL3.out, ← HPat.out E, List.append_assoc is', List.singleton_append, xhK es E is' _ (fun e he => (HEs.out e he).1), optC]
      simp)
     have HEs5 : Hid (∀ e ∈ es ++ [is'.length], e < (is' ++ [(⟨2, [], is'.length + 1, 0⟩ : Ins)] ++ p.1 (is'.length + 1)).length ∧ ∃ y, (is' ++ [(⟨2, [], is'.length + 1, 0⟩ : Ins)] ++ p.1 (is'.length + 1))[e]? = some ⟨2, [], e + 1, y⟩) := xoo (fun e he => by
      rw [HL3.out]
      rcases List.mem_append.1 he with he | he
      · obtain ⟨h1, y, h2⟩ := HEs.out e he
        exact ⟨by omega, y, by rw [List.append_assoc, List.getElem?_append_left h1]; exact h2⟩
      obtain rfl : e = is'.length := by simpa using he
      exact ⟨by omega, 0, by rw [List.append_assoc, List.getElem?_append_right (Nat.le_refl _), Nat.sub_self]; rfl⟩)
     clear h6 k6 HS t0 t1 t2 t3 t4 HPat HEs
     go_wp2_with fail
     go_roundw
     case rel => exact ⟨j + 1, r, _, es ++ [is'.length], by go_num, by omega, by simp [Hesl.out], by have := HE6.out; simpa using this, by rw [HL3.out]; omega, HEs5.out, HPs.out, K6.out⟩
     case measure => simp [intOf]; omega
  have hlt2 : decide ((i : Int) < (an : Int)) = true := by simp; omega
  simp only [xbh] at hl
  have hrun := HNd.out B2 wr is' (fun _ h => h) (fun x h => b2b x (by omega)) K.out (by omega) HM.out
  have HS := xoo hrun
  clear hrun
  go_wp2_with fail
  refine HS.out.mono ?_
  rintro e w3 ⟨rfl, h3, k3⟩
  have H3 := xoo h3
  have K3 := xoo (K.out.trans k3)
  clear h3 k3 t0 t1 t2 t3 t4 t5 t6
  go_wp2_with fail
  go_roundw
  case rel => exact ⟨i + 1, r, is' ++ p.1 is'.length, by go_num, by omega, H3.out, by rw [List.length_append, HL.out]; omega, by rw [List.length_append, HL.out, List.append_assoc]; exact HF.out, K3.out⟩
  case measure => simp [intOf]; omega
end Go.Proofs.YtbifklibdkjbeaaGreatDoor
