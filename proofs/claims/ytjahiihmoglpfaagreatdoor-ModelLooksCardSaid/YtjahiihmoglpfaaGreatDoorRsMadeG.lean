/-
  The document's Made: it comes back with some row of ranges.
-/
import Derived.Test.YtjahiihmoglpfaaGreatDoorRsHasG
import Derived.Test.YtjahiihmoglpfaaGreatDoorMg10
import Derived.Deep.RegionHeld3
import Derived.Deep.AppendLies
namespace Go.Proofs.YtjahiihmoglpfaaGreatDoor
open Go.RowKit
set_option linter.unusedVariables false
set_option linter.unusedSimpArgs false
set_option maxRecDepth 100000
set_option maxHeartbeats 4000000 in
theorem xiD (rs : List (Int × Int)) (v : Value) (a b : Int) (nt : Bool) (ha : 0 ≤ a) (ha2 : a ≤ 1114111) : ∃ q : Bool, ∀ W, RSl W v rs → Calls Tryz.prog 165 #[v, .int .i64 a, .int .i64 b, .bool nt] W fun e w' => e = .returned (.bool q) ∧ w' = W := by
 refine ⟨(b == a + 1) || !(has rs (a + 1) == nt), fun W h => ?_⟩
 have HH := xmA (xeW rs v (a + 1) W h)
 obtain ⟨va, cap, rfl, _⟩ := h.cells
 clear h
 rcases g1 : (b == a + 1) with _ | _ <;> rcases g2 : (has rs (a + 1) == nt) with _ | _
 all_goals generalize has rs (a + 1) = q at *
 all_goals go_enter Tryz.func165, Tryz.ntmps165
 all_goals go_wp2_with fail
 all_goals try (refine HH.out.mono ?_; rintro e w2 ⟨rfl, rfl⟩; go_wp2_with fail)
 all_goals go_ret
 all_goals exact ⟨rfl, rfl⟩
def MdS (w w1 : World) (es : List Int) (lv iv : Value) (wr : World) : Prop :=
 ∃ (i : Nat) (l : List Int), iv = .int .i64 i ∧ i ≤ es.length ∧ l.length ≤ i ∧ (∀ y ∈ l, 0 ≤ y ∧ y ≤ 1114111) ∧ wr.ownsRow w.heap.size 3 1 lv l.length (cellsOf 1 encI l) ∧ xaa (fun _ => False) w1 wr ∧ (l = [] → lv = .slice none 0 0)
def MdP (w w1 : World) (es : List Int) (i : Nat) (v : Value) (wr : World) : Prop := ∀ iv : Value, iv = .int .i64 ((i + 1 : Nat) : Int) → MdS w w1 es v iv wr
theorem xkj {w w1 wr w4 : World} {es l L1 L2 : List Int} {i : Nat} {x : Int} {v : Value} (HK : xaa (fun _ => False) w1 wr) (K : xaa (fun _ => False) wr w4) (hi : i < es.length) (hlen : l.length ≤ i) (hL : L1.length + L2.length ≤ i)
 (hm : ∀ y ∈ l, 0 ≤ y ∧ y ≤ 1114111) (hs : ∀ y, y ∈ L1 ∨ y ∈ L2 → y ∈ l) (hx : 0 ≤ x ∧ x ≤ 1114111) (ho : w4.ownsRow w.heap.size 3 1 v (L1.length + 1 + L2.length) (cellsOf 1 encI L1 ++ Value.int .i64 x :: cellsOf 1 encI L2)) : MdP w w1 es i v w4 := by
 have e : (L1 ++ [x] ++ L2).length = L1.length + 1 + L2.length := by simp; omega
 refine fun iv h => ⟨i + 1, L1 ++ [x] ++ L2, h, hi, by omega, fun y hy => ?_, ?_, HK.trans K, fun h => by simp at h⟩
 · simp only [List.mem_append, List.mem_singleton] at hy
   rcases hy with (hy | rfl) | hy
   · exact hm y (hs y (Or.inl hy))
   · exact hx
   exact hm y (hs y (Or.inr hy))
 rw [e, xai, xai, List.append_assoc]; exact ho
theorem made_to {w w1 wr : World} {es : List Int} {i : Nat} {v iv : Value} (H : MdP w w1 es i v wr) (h : iv = .int .i64 ((i + 1 : Nat) : Int)) : MdS w w1 es v iv wr := H iv h
def ScS (l : List Int) (wS : World) (ov iv : Value) (wr : World) : Prop :=
 ∃ (i : Nat) (out : List (Int × Int)), iv = .int .i64 i ∧ i ≤ l.length ∧ (∀ p ∈ out, (0 ≤ p.1 ∧ p.1 ≤ 1114111) ∧ 0 ≤ p.2 ∧ p.2 ≤ 1114111) ∧ wr.ownsRow wS.heap.size 164 2 ov out.length (cellsOf 2 encR out) ∧ xaa (fun _ => False) wS wr ∧ out.length ≤ i
set_option maxHeartbeats 16000000 in
theorem xf7 (rs : List (Int × Int)) (v : Value) (nt : Bool) (w : World) (h : RSl w v rs) (hl : rs.length ≤ 20000) :
 Calls Tryz.prog 132 #[v, .bool nt] w fun e w' => ∃ u R, e = .returned u ∧ R.length ≤ 2 + 6 * rs.length ∧ (∀ p ∈ R, in64 p.1 ∧ in64 p.2) ∧ ROwn w w' u R := by
 have HE := xmA (fun W (hW : RSl W v rs) => xhe rs v W hW hl)
 have HH := xmA (fun r W (hW : RSl W v rs) => xeW rs v r W hW)
 have HI := xmA h
 clear h
 obtain ⟨i0, hi0, hz0, hz1, hz2⟩ := info_parts xdX
 go_enter Tryz.func132, Tryz.ntmps132
 go_wp2_with fail
 refine (HE.out _ HI.out).mono ?_
 rintro e w1 ⟨u, es, rfl, hO⟩
 have hes : SI w1 u es := SlOf.ofOwn (by rw [xct]; exact hO.1) (by have := hO.2.1; omega)
 obtain ⟨_, hOb, _, hOr, hOk⟩ := hO
 have HO := xmA hOr
 have HOK := xmA hOk
 have heslen : es.length ≤ 2 + 6 * rs.length := by omega
 obtain ⟨ua, uc, rfl, huc, huu⟩ := hes.cells
 have HU := xmA huu
 have hw1 := hOk.size
 clear hes huu hOr hOk
 go_wp2_with fail
 go_loopw [6, 7] (fun lv iv wr => MdS w w1 es lv iv wr) (fun _ iv _ => es.length + 1 - (intOf iv).toNat)
 case atStart => exact ⟨0, [], rfl, Nat.zero_le _, by simp, by simp, World.ownsRow_nil _ _ _ _, xaa.refl _ _, fun _ => rfl⟩
 case round =>
  obtain ⟨i, l, rfl, hi, hlen, hmem, hown, hk, hnil⟩ := hrel
  have hszr := hk.size
  by_cases hil : i < es.length
  · obtain ⟨ub, uo, rfl, hue⟩ := HU.out (by omega)
    obtain ⟨x, hxe⟩ : ∃ x, es[i]? = some x := ⟨_, List.getElem?_eq_getElem hil⟩
    have hx12 := HO.out x (List.mem_of_getElem? hxe)
    have hxr := hk.cell (hue i x hxe) id
    have hls : SI wr _ l := SlOf.ofOwn hown (by omega)
    have HLS := xmA hls
    have HOW := xmA hown
    have HM := xmA hmem
    have HK := xmA hk
    obtain ⟨la, lc, rfl⟩ := xad hown
    have hlc : l.length ≤ lc := by obtain ⟨_, c, e, ⟨h1, _⟩, _⟩ := hls; injection e with _ _ e3; omega
    have hld0 : (i : Int) < (es.length : Int) := by omega
    have hld : decide ((i : Int) < (es.length : Int)) = true := by simpa using hld0
    clear hmem hown hk hls hue hxe
    obtain ⟨wR, hwR⟩ : ∃ W, W = wr := ⟨wr, rfl⟩
    subst hwR
    go_wp2_with fail
    go_loopw [8] (fun kv wk => (∃ k : Nat, kv = .int .i64 k ∧ k ≤ l.length) ∧ xaa (fun _ => False) wR wk) (fun kv _ => l.length + 1 - (intOf kv).toNat)
    case atStart => exact ⟨⟨0, rfl, Nat.zero_le _⟩, xaa.refl _ _⟩
    case round =>
     obtain ⟨⟨k, rfl, hkl⟩, hkk⟩ := hrel
     have hxw := hkk.cell hxr id
     have HKK := xmA hkk
     have hsw := HLS.out.keep hkk
     clear hkk
     have hxl : x = x := rfl
     by_cases hkc : k < l.length
     focus (
      have hkd : decide ((k : Int) < (l.length : Int)) = true := by simp; omega
      have hkd0 : (k : Int) < (l.length : Int) := by omega
      obtain ⟨z, hz⟩ : ∃ z, l[k]? = some z := ⟨_, List.getElem?_eq_getElem hkc⟩
      obtain ⟨_, _, he, hcap, hcc⟩ := SI.cells hsw
      injection he with he1 he2 he3
      subst he1 he3
      obtain ⟨lb, lo, rfl, hcc2⟩ := hcc (by omega)
      have z0 := hcc2 k z hz
      clear hcc hcc2 hz hsw hcap he2
      rcases g1 : decide (z < x) with _ | _
      rotate_left
      · go_wp2_with fail
        go_quiet (fail)
        go_wp2_with fail
        go_roundw
        case rel => exact ⟨⟨k + 1, by go_num, by omega⟩, HKK.out.drawN _⟩
        case measure => simp [intOf]; omega
      rcases g2 : (z == x) with _ | _
      rotate_left
      · go_wp2_with fail
        go_quiet (fail)
        revert nq
        intro nqa
        go_wp2_with fail
        go_quiet (fail)
        go_wp2_with fail
        go_roundw
        case rel => exact ⟨i + 1, l, by go_num, by omega, by omega, HM.out, xae HOW.out (HKK.out.drawN _) (fun _ _ h => h), HK.out.trans (HKK.out.drawN _), hnil⟩
        case measure => simp [intOf]; omega
      obtain ⟨L1, L2, hLL, HLm, HT, HRv⟩ : ∃ L1 L2 : List Int, L1.length + L2.length = l.length ∧ Hid (∀ y, y ∈ L1 ∨ y ∈ L2 → y ∈ l) ∧ Hid (∀ W, xaa (fun _ => False) wR W → SlOf 1 encI W (.slice (some ⟨lb, lo, none⟩) k lc) L1) ∧ Hid (∀ W, xaa (fun _ => False) wR W → SlOf 1 encI W (.slice (some ⟨lb, lo + k, none⟩) (l.length - k) (lc - k)) L2) :=
       ⟨l.take k, l.drop k, by rw [List.length_take, List.length_drop]; omega, xmA (fun y h => h.elim List.mem_of_mem_take List.mem_of_mem_drop), xmA (fun W K => (HLS.out.keep K).takeI k hkl), xmA (fun W K => SI.dropS (HLS.out.keep K) k hkl)⟩
      go_wp2_with fail
      go_quiet (fail)
      revert nq
      intro nqa
      go_wp2_with fail
      go_quiet (fail)
      skip)
     rotate_left
     focus (
      have hkd : decide ((k : Int) < (l.length : Int)) = false := by simp; omega
      have hkl2 : k = l.length := by omega
      rcases l with _ | ⟨l0, lt⟩
      focus (
       have e0 := hnil rfl
       injection e0 with e1 e2 e3
       subst e1 e3
       subst hkl2
       obtain ⟨L1, L2, hLL, HLm, HT, HRv⟩ : ∃ L1 L2 : List Int, L1.length + L2.length = ([] : List Int).length ∧ Hid (∀ y, y ∈ L1 ∨ y ∈ L2 → y ∈ ([] : List Int)) ∧ Hid (∀ W, xaa (fun _ => False) wR W → SlOf 1 encI W (.slice none 0 0) L1) ∧ Hid (∀ W, xaa (fun _ => False) wR W → SlOf 1 encI W (.slice none 0 0) L2) :=
        ⟨[], [], rfl, xmA (fun y h => h.elim id id), xmA (fun W K => SlOf.nil _ _ _), xmA (fun W K => SlOf.nil _ _ _)⟩)
      rotate_left
      focus (
       obtain ⟨_, _, he, hcap, hcc⟩ := SI.cells hsw
       injection he with he1 he2 he3
       subst he1 he3
       obtain ⟨lb, lo, rfl, hcc2⟩ := hcc (by simp)
       clear hcc hcc2 hcap he2 hsw
       generalize l0 :: lt = l at *
       subst hkl2
       by_cases hci : lc = l.length
       focus (
        subst hci
        obtain ⟨L1, L2, hLL, HLm, HT, HRv⟩ : ∃ L1 L2 : List Int, L1.length + L2.length = l.length ∧ Hid (∀ y, y ∈ L1 ∨ y ∈ L2 → y ∈ l) ∧ Hid (∀ W, xaa (fun _ => False) wR W → SlOf 1 encI W (.slice (some ⟨lb, lo, none⟩) l.length l.length) L1) ∧ Hid (∀ W, xaa (fun _ => False) wR W → SlOf 1 encI W (.slice (some ⟨lb, lo, none⟩) 0 0) L2) :=
         ⟨l, [], rfl, xmA (fun y h => h.elim id (fun h => by cases h)), xmA (fun W K => HLS.out.keep K), xmA (fun W K => ⟨_, 0, rfl, ⟨Nat.le_refl _, fun h => by cases h⟩, by simp, fun h => by simp at h⟩)⟩)
       rotate_left
       focus (
        obtain ⟨L1, L2, hLL, HLm, HT, HRv⟩ : ∃ L1 L2 : List Int, L1.length + L2.length = l.length ∧ Hid (∀ y, y ∈ L1 ∨ y ∈ L2 → y ∈ l) ∧ Hid (∀ W, xaa (fun _ => False) wR W → SlOf 1 encI W (.slice (some ⟨lb, lo, none⟩) l.length lc) L1) ∧ Hid (∀ W, xaa (fun _ => False) wR W → SlOf 1 encI W (.slice (some ⟨lb, lo + l.length, none⟩) 0 (lc - l.length)) L2) :=
         ⟨l, l.drop l.length, by simp, xmA (fun y h => h.elim id List.mem_of_mem_drop), xmA (fun W K => HLS.out.keep K), xmA (fun W K => by have hh := SI.dropS (HLS.out.keep K) l.length (Nat.le_refl _); rw [Nat.sub_self] at hh; exact hh)⟩))
      all_goals (
       go_wp2_with fail
       go_quiet (fail)
       revert nq
       intro nqa
       go_wp2_with fail
       go_quiet (fail)
       skip))
     all_goals (
      have hkq : xaa (fun _ => False) wR ((wr.drewN nqa).drewN nq) := (HKK.out.drawN _).drawN _
      have hxq : ((wr.drewN nqa).drewN nq).cell? ⟨ub, uo + i, none⟩ = some (.int .i64 x) := hxw
      generalize hwq : (wr.drewN nqa).drewN nq = wq at *
      clear hwq hxw hxr
      have hL1 : L1.length + L2.length ≤ i := by first | omega | (simp at hLL; omega)
      go_wp2_with (at_builtin; refine xbY rfl (.tmp 53) (.tmp 56) rfl wq.heap.size _ _ _ rfl (World.ownsRow_nil _ _ _ _) _ L1 rfl (HT.out _ hkq) (by omega) (Nat.le_refl _) ?_)
      intro v2 w2 hown2 hgrow2
      have hk2 : xaa (fun _ => False) wq w2 := (xaa.refl _ _).grown hgrow2 (fun b hb => by simp [Value.ownBlock] at hb)
      have hx2 := hk2.cell hxq id
      have hz2' := hk2.size
      clear hgrow2 HT hxq
      go_wp2_with (at_builtin; refine wpList_append_own _ rfl (.tmp 58) (.tmp 63) 23 rfl wq.heap.size 3 i0 _ 1 8 Tryz.underlying23 hi0 hz0 hz1 hz2 rfl (by decide) _ _ _ rfl (xac hown2 _) ⟨w2.heap.size, 0, none⟩ 1 1 [.int .i64 x] rfl rfl (by exact xak _ [_] _) (by intro u hu; simp at hu; subst hu; rfl) (by unfold maxLen; omega) (by omega) (by simp; omega) ?_)
      intro v3 w3 hown3 hgrow3 _
      have hk3 : xaa (fun _ => False) wq w3 := (hk2.alloc _).grown hgrow3 (fun b hb => Or.inr (xab hown2 b hb))
      have hz3' := hk3.size
      clear hown2 hgrow3 hx2 hk2
      go_wp2_with (at_builtin; refine xbY rfl (.tmp 65) (.tmp 68) rfl wq.heap.size _ _ _ rfl hown3 _ L2 rfl (HRv.out _ (hkq.trans hk3)) (by omega) hz3' ?_)
      intro v4 w4 hown4 hgrow4
      have hk4 : xaa (fun _ => False) wq w4 := hk3.grown hgrow4 (fun b hb => Or.inr (xab hown3 b hb))
      have HN := xmA (xkj HK.out (hkq.trans hk4) hil hlen hL1 HM.out HLm.out hx12 (xc9 hown4 (Nat.le_trans hw1 (Nat.le_trans hszr hkq.size))))
      clear hown3 hown4 hgrow4 HRv hk3 hk4
      go_wp2_with fail
      go_roundw
      case rel => exact made_to HN.out (by go_num)
      case measure => simp [intOf]; omega)
  obtain rfl : es.length = i := by omega
  have hIS : SI wr _ l := SlOf.ofOwn hown (by omega)
  obtain ⟨la, lc, rfl, hlc, hll⟩ := SI.cells hIS
  have HL := xmA hll
  have HM := xmA hmem
  have HRS := xmA (show RSl wr v rs from ⟨HI.out.1.keep (HOK.out.trans hk), HI.out.2⟩)
  have HKW := xmA (HOK.out.trans hk)
  clear hmem hIS hll hown hk hnil HO HOK HU
  obtain ⟨j0, hj0, hy0, hy1, hy2⟩ := info_parts xaJ
  have hei : decide ((es.length : Int) < (es.length : Int)) = false := by simp
  obtain ⟨wS, hwS⟩ : ∃ W, W = wr := ⟨wr, rfl⟩
  subst hwS
  go_wp2_with fail
  go_loopw [10, 11] (fun ov jv wr => ScS l wS ov jv wr) (fun _ jv _ => l.length + 1 - (intOf jv).toNat)
  case atStart => exact ⟨0, [], rfl, Nat.zero_le _, by simp, World.ownsRow_nil _ _ _ _, xaa.refl _ _, by simp⟩
  case round =>
   obtain ⟨j, out, rfl, hj, hrng, hown, hk, hol⟩ := hrel
   have HR := xmA hrng
   have hsz := hk.size
   by_cases hjl : j < l.length
   · obtain ⟨b, hb⟩ : ∃ b, l[j]? = some b := ⟨_, List.getElem?_eq_getElem hjl⟩
     obtain ⟨lb, lo, rfl, hcc⟩ := HL.out (by omega)
     have hbx := hk.cell (hcc j b hb) id
     have HB := xmA (HM.out b (List.mem_of_getElem? hb))
     have HRW := xmA (show RSl wr v rs from ⟨HRS.out.1.keep hk, HRS.out.2⟩)
     have hjd0 : (j : Int) < (l.length : Int) := by omega
     have hjd : decide ((j : Int) < (l.length : Int)) = true := by simpa using hjd0
     have hbS := hcc j b hb
     have Hcc := xmA hcc
     clear hb hcc hrng
     have HOW := xmA hown
     obtain ⟨va, vc, rfl⟩ := xad hown
     clear hown
     rcases g1 : (has rs b == nt) with _ | _
     rotate_left
     · go_wp2_with fail
       refine (HH.out b _ HRW.out).mono ?_
       rintro e w2 ⟨rfl, rfl⟩
       generalize has rs b = hb at *
       go_wp2_with fail
       go_roundw
       case rel => exact ⟨j + 1, out, by go_num, by omega, HR.out, HOW.out, hk, by omega⟩
       case measure => simp [intOf]; omega
     by_cases h0 : 0 < out.length
     focus (
      have hjp : 0 < j := by omega
      obtain ⟨k, hjk⟩ : ∃ k, j = k + 1 := ⟨j - 1, by omega⟩
      obtain ⟨a, hal⟩ : ∃ a, l[k]? = some a := ⟨_, List.getElem?_eq_getElem (by omega)⟩
      have hax := hk.cell (Hcc.out k a hal) id
      obtain ⟨ha0, ha1⟩ := HM.out a (List.mem_of_getElem? hal)
      have hw1 : IntKind.i64.wrap ((j : Int) - 1) = (k : Int) := by rw [show (j : Int) - 1 = (k : Int) by omega]; exact IntWalk.i64_in _ (by omega)
      have hw2 : IntKind.i64.wrap (k : Int) = (k : Int) := IntWalk.i64_in _ (by omega)
      have hix : (k : Int) < (l.length : Int) := by omega
      have hix2 : ((k : Int)).toNat = k := by simp
      have hg5 : decide ((0 : Int) < (out.length : Int)) = true := by simp; omega
      have hg6 : decide ((0 : Int) < (j : Int)) = true := by simp; omega
      obtain ⟨q, hJ⟩ := xiD rs v a b nt ha0 ha1
      have KA : ∀ n, Calls Tryz.prog 164 #[v, .int .i64 a] (wr.drewN n) fun e w' => e = .returned (.bool (has rs a)) ∧ w' = wr.drewN n := fun n => (HH.out a _ ⟨HRW.out.1.keep ((xaa.refl _ _).drawN n), HRW.out.2⟩).mono fun e w' ⟨e1, e2⟩ => ⟨e1, e2.symm⟩
      have KJ : ∀ n, Calls Tryz.prog 165 #[v, .int .i64 a, .int .i64 b, .bool nt] (wr.drewN n) fun e w' => e = .returned (.bool q) ∧ w' = wr.drewN n := fun n => hJ _ ⟨HRW.out.1.keep ((xaa.refl _ _).drawN n), HRW.out.2⟩
      clear hjk hal hJ
      rcases g3 : (has rs a == nt) with _ | _
      focus (
       cases q
       rotate_left
       focus (
        obtain ⟨o, p, rfl⟩ : ∃ o p, out = o ++ [p] := by
         rcases List.eq_nil_or_concat out with rfl | ⟨o, p, e⟩
         · simp at h0
         exact ⟨o, p, by rw [e, List.concat_eq_append]⟩
        obtain ⟨g, gc, hgv, hg1, hg2⟩ := xbx HOW.out (by simp)
        obtain ⟨rfl, _, rfl⟩ := Value.slice.inj hgv
        have hown := HOW.out
        simp only [List.length_append, List.length_cons, List.length_nil, Nat.zero_add] at hown hol h0 hg5 hgv
        have hcg : wr.cell? ⟨g, o.length * 2 + 1, none⟩ = some (.int .i64 p.2) := by
         rw [hown.cellAt _ (by first | omega | (simp; omega))]
         exact xaz 2 encR (o ++ [p]) o.length p (by simp) 1 (by omega)
        have hfg : ∀ x, wr.frozen? ⟨g, x, none⟩ = false := fun x => hown.frozenAt x
        have hw3 : IntKind.i64.wrap ((o.length : Int) + 1 - 1) = (o.length : Int) := by rw [show (o.length : Int) + 1 - 1 = (o.length : Int) by omega]; exact IntWalk.i64_in _ (by omega)
        have hw4 : IntKind.i64.wrap (o.length : Int) = (o.length : Int) := IntWalk.i64_in _ (by omega)
        have hix5 : (o.length : Int) < (o.length : Int) + 1 := by omega
        have hix6 : ((o.length : Int)).toNat = o.length := by simp
        simp only [List.length_append, List.length_cons, List.length_nil, Nat.zero_add]
        clear h0 hgv
        go_wp2_with fail
        refine (HH.out b _ HRW.out).mono ?_
        rintro e w2 ⟨rfl, rfl⟩
        generalize has rs b = hb at *
        generalize has rs a = ha at *
        go_wp2_with fail
        go_quiet (first | (go_at_call 164; exact Calls.quiet_of_same (KA _)) | (go_at_call 165; exact Calls.quiet_of_same (KJ _)))
        go_wp2_with fail
        go_roundw
        case rel =>
         refine ⟨j + 1, o ++ [(p.1, b)], by go_num, by omega, fun y hy => ?_, ?_, (hk.drawN _).setNew hg1 _, by simp; omega⟩
         · rcases List.mem_append.1 hy with h | h
           · exact HR.out y (by simp [h])
           obtain rfl : y = (p.1, b) := by simpa using h
           exact ⟨(HR.out p (by simp)).1, HB.out⟩
         rw [← xhT o p b]
         have h5 := (World.ownsRow.stored (xa0 hown nq) (o.length * 2 + 1) (.int .i64 b)).1
         simpa using h5
        case measure => simp [intOf]; omega)))
     rotate_right
     focus have hg5 : decide ((0 : Int) < (out.length : Int)) = false := decide_eq_false (by omega)
     all_goals (
      go_wp2_with fail
      refine (HH.out b _ HRW.out).mono ?_
      rintro e w2 ⟨rfl, rfl⟩
      generalize has rs b = hb at *
      try generalize has rs a = ha at *
      go_wp2_with fail
      go_quiet (first | (go_at_call 164; exact Calls.quiet_of_same (KA _)) | (go_at_call 165; exact Calls.quiet_of_same (KJ _)))
      go_wp2_with fail
      have hkA : xaa (fun _ => False) wS (wr.drewN nq) := hk.drawN _
      have hownA := xa0 HOW.out nq
      have hbA : (wr.drewN nq).cell? ⟨lb, lo + j, none⟩ = some (.int .i64 b) := hbx
      have hsA := hkA.size
      generalize wr.drewN nq = wA at *
      clear hbx hsz HOW
      go_region_held3 (fun w' => w'.cell? ⟨lb, lo + j, none⟩ = some (.int .i64 b)) (first | go_keep | exact (((hkA.alloc _).drew).grown hgrow (fun b hb => Or.inr (xab hownA b hb))).cell hbS id)
       ((refine step_append_lies _ (by rfl) _ _ _ (by rfl) wS.heap.size 164 j0 _ 2 16 Tryz.underlying49 hj0 hy0 hy1 hy2 rfl (by omega) (.slice va out.length vc) out.length (cellsOf 2 encR out) (by rfl) ((xac hownA _).drew) ⟨wA.heap.size, 0, none⟩ 1 1 [.int .i64 b, .int .i64 b] (by rfl) (by rfl) (World.news_of_block (cs := #[.int .i64 b, .int .i64 b]) (t := 164) (fr := (0, 0)) (heap_alloc_new wA _)) (by simp [Value.oneCell']) (by omega) (by unfold maxLen; omega) (by omega) (by simp; omega) (wA.heap.size + 1) (by simp) ?_; intro gg cap w1 hown1 hgrow hat hlt))
      have hk1 : xaa (fun _ => False) wS w1 := ((hkA.alloc _).drew).grown hgrow (fun b hb => Or.inr (xab hownA b hb))
      have hO : Hid (w1.ownsRow wS.heap.size 164 2 (.slice (some ⟨gg, 0, none⟩) (out ++ [(b, b)]).length cap) (out ++ [(b, b)]).length (cellsOf 2 encR (out ++ [(b, b)]))) := xmA (by
       rw [xai]; simpa [cellsOf, encR, List.range_succ] using hown1)
      clear hown1 hgrow hat hownA hkA hbA
      go_wp2_with fail
      go_roundw
      case rel =>
       refine ⟨j + 1, out ++ [(b, b)], by go_num, by omega, fun y hy => ?_, by simpa using hO.out, hk1, by simp; omega⟩
       rcases List.mem_append.1 hy with h | h
       · exact HR.out y h
       obtain rfl : y = (b, b) := by simpa using h
       exact ⟨HB.out, HB.out⟩
      case measure => simp [intOf]; omega)
   have hld9 : decide ((j : Int) < (l.length : Int)) = false := by simp; omega
   have HK2 := xmA (HKW.out.trans hk)
   have hsS := HKW.out.size
   go_wp2_with fail
   go_ret
   exact ⟨_, out, rfl, by omega, fun p hp => by have := HR.out p hp; unfold in64; omega, xc9 hown hsS, HK2.out⟩
end Go.Proofs.YtjahiihmoglpfaaGreatDoor
