/-
  The document's xfD, Made.
-/
import Derived.Test.YtbifklibdkjbeaaGreatDoorMg24
import Derived.Deep.RegionHeld3
import Derived.Deep.AppendLies
namespace Go.Proofs.YtbifklibdkjbeaaGreatDoor
open Go.RowKit
set_option linter.unusedVariables false
set_option linter.unusedSimpArgs false
set_option maxRecDepth 100000
set_option maxHeartbeats 16000000
theorem xeq (rs : List (Int × Int)) (v : Value) (nt : Bool) (w : World) (h : RSl w v rs) (hl : rs.length ≤ 1000) :
 Calls Tryz.prog 185 #[v, .bool nt] w fun e w' => ∃ u, e = .returned u ∧ ROwn w w' u (if nt = true then notL rs else ofL rs) := by
 have HE := xoo (fun W (hW : RSl W v rs) => xjx rs v W hW hl)
 have HH := xoo (fun r W (hW : RSl W v rs) => xfo rs v r W hW)
 have HI := xoo h
 have HS := xoo (fun (l : List Int) (out : List (Int × Int)) (h1 : Ends rs l) (h2 : Scn rs nt (xd3 l l.length) out) => scn_end h1 h2)
 generalize (if nt = true then notL rs else ofL rs) = R at HS ⊢
 clear h
 obtain ⟨i0, hi0, hz0, hz1, hz2⟩ := info_parts xg
 go_enter Tryz.func185, Tryz.ntmps185
 go_wp2_with fail
 refine (HE.out _ HI.out).mono ?_
 rintro e w1 ⟨u, es, rfl, hO⟩
 have hes : ISl w1 u es := ⟨SlOf.ofOwn (by rw [xd2]; exact hO.1) (by have := hO.2.1; omega), hO.2.2.2.1⟩
 have heslen : es.length ≤ 7000 := by have := hO.2.1; omega
 have HO := xoo hO
 have HES := xoo hes
 obtain ⟨ua, uc, rfl, huc, huu⟩ := hes.cells
 have HU := xoo huu
 have hw1 := hO.2.2.2.2.1.size
 clear hO hes huu
 go_wp2_with fail
 go_loopw [6, 7] (fun lv iv wr => MdR w w1 es lv iv wr) (fun _ iv _ => es.length + 1 - (intOf iv).toNat)
 case atStart => exact ⟨0, [], rfl, Nat.zero_le _, trivial, by simp, by simp, World.ownsRow_nil _ _ _ _, xa.refl _ _, fun _ => rfl⟩
 case round =>
  obtain ⟨i, l, rfl, hi, hsrt, hmem, hlen, hown, hk, hnil⟩ := hrel
  have hszr := hk.size
  by_cases hil : i < es.length
  · have HW : Hid (MdW w w1 wr es i l) := xoo ⟨hil, hsrt, hmem, hlen, by omega, hk⟩
    obtain ⟨ub, uo, rfl, hue⟩ := HU.out (by omega)
    obtain ⟨x, hxe⟩ : ∃ x, es[i]? = some x := ⟨_, List.getElem?_eq_getElem hil⟩
    obtain ⟨hx0, hx1, hx2⟩ := hue i x hxe
    have hxr := hk.cell hx0 id
    have hls : ISl wr _ l := ⟨SlOf.ofOwn hown (by omega), fun y hy => HO.out.2.2.2.1 y (List.mem_of_mem_take ((hmem y).1 hy))⟩
    have HLS := xoo hls
    have HOW := xoo hown
    have Hxe := xoo hxe
    obtain ⟨la, lc, rfl⟩ := xac hown
    have hlc : l.length ≤ lc := by obtain ⟨_, c, e, ⟨h1, _⟩, _⟩ := hls.1; injection e with _ _ e3; omega
    have hld0 : (i : Int) < (es.length : Int) := by omega
    have hld : decide ((i : Int) < (es.length : Int)) = true := by simpa using hld0
    clear hsrt hmem hown hk hls hx0 hxe hue
    obtain ⟨wR, hwR⟩ : ∃ W, W = wr := ⟨wr, rfl⟩
    subst hwR
    go_wp2_with fail
    go_loopw [8] (fun kv wk => MkR wR l x (.slice la l.length lc) kv wk) (fun kv _ => l.length + 1 - (intOf kv).toNat)
    case atStart => exact ⟨0, rfl, Nat.zero_le _, by simp, xa.refl _ _⟩
    case round =>
     obtain ⟨k, rfl, hkl, hlow, hkk⟩ := hrel
     have hxw := hkk.cell hxr id
     have Hlow := xoo hlow
     have HKK := xoo hkk
     have hsw := HLS.out.keep hkk
     clear hlow hkk
     by_cases hkc : k < l.length
     · have hkd : decide ((k : Int) < (l.length : Int)) = true := by simp; omega
       have hkd0 : (k : Int) < (l.length : Int) := by omega
       obtain ⟨z, hz⟩ : ∃ z, l[k]? = some z := ⟨_, List.getElem?_eq_getElem hkc⟩
       obtain ⟨_, _, he, hcap, hcc⟩ := hsw.cells
       injection he with he1 he2 he3
       subst he1 he3
       obtain ⟨lb, lo, rfl, hcc2⟩ := hcc (by omega)
       obtain ⟨z0, z1, z2⟩ := hcc2 k z hz
       have Hz := xoo hz
       clear hcc hcc2 hz hsw hcap he2
       by_cases hzx : z < x
       · have g1 : decide (z < x) = true := by simpa using hzx
         go_wp2_with fail
         go_quiet (fail)
         go_wp2_with fail
         go_roundw
         case rel =>
          refine ⟨k + 1, by go_num, by omega, fun y hy => ?_, HKK.out.drawN _⟩
          rw [List.take_add_one, Hz.out] at hy
          rcases List.mem_append.1 hy with hy | hy
          · exact Hlow.out y hy
          simp at hy; subst hy; exact hzx
         case measure => simp [intOf]; omega
       have g1 : decide (z < x) = false := by simpa using hzx
       by_cases hze : z = x
       · have g2 : (z == x) = true := by simpa using hze
         go_wp2_with fail
         go_quiet (fail)
         revert nq
         intro nqa
         go_wp2_with fail
         go_quiet (fail)
         go_wp2_with fail
         go_roundw
         case rel => exact xdo (xlv HW.out (HKK.out.drawN _) Hxe.out (by rw [← hze]; exact List.mem_of_getElem? Hz.out) (xae HOW.out (HKK.out.drawN _) (fun _ _ h => h))) (by go_num)
         case measure => simp [intOf]; omega
       have g2 : (z == x) = false := beq_eq_false_iff_ne.2 hze
       go_wp2_with fail
       go_quiet (fail)
       revert nq
       intro nqa
       go_wp2_with fail
       go_quiet (fail)
       have hkq0 : xa (fun _ => False) wR ((wr.drewN nqa).drewN nq) := (HKK.out.drawN _).drawN _
       have hxq0 : ((wr.drewN nqa).drewN nq).cell? ⟨ub, uo + i, none⟩ = some (.int .i64 x) := hxw
       generalize hwq : (wr.drewN nqa).drewN nq = wq at *
       have hkq := hkq0
       have hxq := hxq0
       have hsq := HLS.out.1.keep hkq
       clear hkq0 hxq0 hwq hxw hxr
       have hput : Srt (l.take k ++ [x] ++ l.drop k) ∧ k ≤ l.length := ⟨xfT HW.out.srt Hlow.out (fun y hy => by rw [Hz.out] at hy; obtain rfl := Option.some.inj hy; omega), by omega⟩
       have hxe := Hxe.out
       have HT : SlOf 1 encI wq (.slice (some ⟨lb, lo, none⟩) k lc) (l.take k) := hsq.takeI k (by omega)
       go_wp2_with (at_builtin; refine xax rfl (.tmp 53) (.tmp 56) rfl wq.heap.size _ _ _ rfl (World.ownsRow_nil _ _ _ _) _ (l.take k) rfl HT ?f1 (Nat.le_refl _) ?_)
       case f1 => rw [List.length_take]; omega
       intro v2 w2 hown2 hgrow2
       have hk2 : xa (fun _ => False) wq w2 := (xa.refl _ _).grown hgrow2 (fun b hb => by simp [Value.ownBlock] at hb)
       have ho2 : w2.ownsRow wq.heap.size 3 1 v2 k (cellsOf 1 encI (l.take k)) := by
        first
        | exact hown2
        | (rw [List.take_length]; exact hown2)
        | (have e : 0 + (l.take k).length = k := by (rw [List.length_take]; omega)
           rw [e, List.nil_append] at hown2; exact hown2)
       have hx2 := hk2.cell hxq id
       have hs2 := hsq.keep hk2
       have hz2' := hk2.size
       clear hown2 hgrow2 HT
       go_wp2_with (at_builtin; refine wpList_append_own _ rfl (.tmp 58) (.tmp 63) 23 rfl wq.heap.size 3 i0 _ 1 8 Tryz.underlying23 hi0 hz0 hz1 hz2 rfl (by decide) _ _ _ rfl (xab ho2 _) ⟨w2.heap.size, 0, none⟩ 1 1 [.int .i64 x] rfl rfl (by exact xan _ [_] _) (by intro u hu; simp at hu; subst hu; rfl) ?c3 ?c4 ?c5 ?_)
       case c3 => unfold maxLen; omega
       case c4 => omega
       case c5 => first | omega | (simp; omega)
       intro v3 w3 hown3 hgrow3 _
       have hk3 : xa (fun _ => False) wq w3 := (hk2.alloc _).grown hgrow3 (fun b hb => Or.inr (xaa ho2 b hb))
       have ho3 : w3.ownsRow wq.heap.size 3 1 v3 (k + 1) (cellsOf 1 encI (l.take k ++ [x])) := by
        rw [xag]; simpa [cellsOf, List.range_succ, encI] using hown3
       have hs3 := hsq.keep hk3
       have hz3' := hk3.size
       clear hown3 hgrow3 ho2 hs2 hx2
       obtain ⟨v3a, v3c, rfl⟩ := xac ho3
       have HR : SlOf 1 encI w3 (.slice (some ⟨lb, lo + k, none⟩) (l.length - k) (lc - k)) (l.drop k) := SlOf.dropI1 hs3 k (by omega) (by omega)
       go_wp2_with (at_builtin; refine xax rfl (.tmp 65) (.tmp 68) rfl wq.heap.size _ _ _ rfl ho3 _ (l.drop k) rfl HR ?f2 hz3' ?_)
       case f2 => rw [List.length_drop]; omega
       intro v4 w4 hown4 hgrow4
       have hk4 : xa (fun _ => False) wq w4 := hk3.grown hgrow4 (fun b hb => Or.inr (xaa ho3 b hb))
       have HM := xoo (xdp HW.out hkq hk4 hxe hput (by first | rfl | omega | simp | (simp; omega)) (by first | rfl | (rw [List.take_length, List.drop_length])) hown4)
       clear hown4 hgrow4 ho3 HR
       go_wp2_with fail
       go_roundw
       case rel => exact xdo HM.out (by go_num)
       case measure => simp [intOf]; omega
     have hkd : decide ((k : Int) < (l.length : Int)) = false := by simp; omega
     have hkl2 : k = l.length := by omega
     rcases l with _ | ⟨l0, lt⟩
     · have e0 := hnil rfl
       injection e0 with e1 e2 e3
       subst e1 e3
       subst hkl2
       go_wp2_with fail
       go_quiet (fail)
       revert nq
       intro nqa
       go_wp2_with fail
       go_quiet (fail)
       have hkq0 : xa (fun _ => False) wR ((wr.drewN nqa).drewN nq) := (HKK.out.drawN _).drawN _
       have hxq0 : ((wr.drewN nqa).drewN nq).cell? ⟨ub, uo + i, none⟩ = some (.int .i64 x) := hxw
       generalize hwq : (wr.drewN nqa).drewN nq = wq at *
       have hkq := hkq0
       have hxq := hxq0
       have hsq := HLS.out.1.keep hkq
       clear hkq0 hxq0 hwq hxw hxr
       have hput : Srt (([] : List Int).take 0 ++ [x] ++ ([] : List Int).drop 0) ∧ 0 ≤ ([] : List Int).length := ⟨xfT HW.out.srt Hlow.out (fun y hy => by simp at hy), by omega⟩
       have hxe := Hxe.out
       have HT : SlOf 1 encI wq (.slice none 0 0) (([] : List Int).take 0) := SlOf.nil _ _ _
       go_wp2_with (at_builtin; refine xax rfl (.tmp 53) (.tmp 56) rfl wq.heap.size _ _ _ rfl (World.ownsRow_nil _ _ _ _) _ (([] : List Int).take 0) rfl HT ?f1 (Nat.le_refl _) ?_)
       case f1 => rw [List.length_take]; omega
       intro v2 w2 hown2 hgrow2
       have hk2 : xa (fun _ => False) wq w2 := (xa.refl _ _).grown hgrow2 (fun b hb => by simp [Value.ownBlock] at hb)
       have ho2 : w2.ownsRow wq.heap.size 3 1 v2 0 (cellsOf 1 encI (([] : List Int).take 0)) := by
        first
        | exact hown2
        | (rw [List.take_length]; exact hown2)
        | (have e : 0 + (([] : List Int).take 0).length = 0 := by (rw [List.length_take]; omega)
           rw [e, List.nil_append] at hown2; exact hown2)
       have hx2 := hk2.cell hxq id
       have hs2 := hsq.keep hk2
       have hz2' := hk2.size
       clear hown2 hgrow2 HT
       go_wp2_with (at_builtin; refine wpList_append_own _ rfl (.tmp 58) (.tmp 63) 23 rfl wq.heap.size 3 i0 _ 1 8 Tryz.underlying23 hi0 hz0 hz1 hz2 rfl (by decide) _ _ _ rfl (xab ho2 _) ⟨w2.heap.size, 0, none⟩ 1 1 [.int .i64 x] rfl rfl (by exact xan _ [_] _) (by intro u hu; simp at hu; subst hu; rfl) ?c3 ?c4 ?c5 ?_)
       case c3 => unfold maxLen; omega
       case c4 => omega
       case c5 => first | omega | (simp; omega)
       intro v3 w3 hown3 hgrow3 _
       have hk3 : xa (fun _ => False) wq w3 := (hk2.alloc _).grown hgrow3 (fun b hb => Or.inr (xaa ho2 b hb))
       have ho3 : w3.ownsRow wq.heap.size 3 1 v3 (0 + 1) (cellsOf 1 encI (([] : List Int).take 0 ++ [x])) := by
        rw [xag]; simpa [cellsOf, List.range_succ, encI] using hown3
       have hs3 := hsq.keep hk3
       have hz3' := hk3.size
       clear hown3 hgrow3 ho2 hs2 hx2
       obtain ⟨v3a, v3c, rfl⟩ := xac ho3
       have HR : SlOf 1 encI w3 (.slice none 0 0) (([] : List Int).drop 0) := SlOf.nil _ _ _
       go_wp2_with (at_builtin; refine xax rfl (.tmp 65) (.tmp 68) rfl wq.heap.size _ _ _ rfl ho3 _ (([] : List Int).drop 0) rfl HR ?f2 hz3' ?_)
       case f2 => rw [List.length_drop]; omega
       intro v4 w4 hown4 hgrow4
       have hk4 : xa (fun _ => False) wq w4 := hk3.grown hgrow4 (fun b hb => Or.inr (xaa ho3 b hb))
       have HM := xoo (xdp HW.out hkq hk4 hxe hput (by first | rfl | omega | simp | (simp; omega)) (by first | rfl | (rw [List.take_length, List.drop_length])) hown4)
       clear hown4 hgrow4 ho3 HR
       go_wp2_with fail
       go_roundw
       case rel => exact xdo HM.out (by go_num)
       case measure => simp [intOf]; omega
     obtain ⟨_, _, he, hcap, hcc⟩ := hsw.cells
     injection he with he1 he2 he3
     subst he1 he3
     obtain ⟨lb, lo, rfl, hcc2⟩ := hcc (by simp)
     clear hcc hcc2 hcap he2 hsw
     generalize l0 :: lt = l at *
     subst hkl2
     by_cases hci : lc = l.length
     · subst hci
       go_wp2_with fail
       go_quiet (fail)
       revert nq
       intro nqa
       go_wp2_with fail
       go_quiet (fail)
       have hkq0 : xa (fun _ => False) wR ((wr.drewN nqa).drewN nq) := (HKK.out.drawN _).drawN _
       have hxq0 : ((wr.drewN nqa).drewN nq).cell? ⟨ub, uo + i, none⟩ = some (.int .i64 x) := hxw
       generalize hwq : (wr.drewN nqa).drewN nq = wq at *
       have hkq := hkq0
       have hxq := hxq0
       have hsq := HLS.out.1.keep hkq
       clear hkq0 hxq0 hwq hxw hxr
       have hput : Srt (l.take l.length ++ [x] ++ l.drop l.length) ∧ l.length ≤ l.length := ⟨xfT HW.out.srt Hlow.out (fun y hy => by rw [List.getElem?_eq_none (Nat.le_refl _)] at hy; cases hy), by omega⟩
       have hxe := Hxe.out
       have HT : SlOf 1 encI wq (.slice (some ⟨lb, lo, none⟩) l.length l.length) (l.take l.length) := hsq.takeI l.length (Nat.le_refl _)
       go_wp2_with (at_builtin; refine xax rfl (.tmp 53) (.tmp 56) rfl wq.heap.size _ _ _ rfl (World.ownsRow_nil _ _ _ _) _ (l.take l.length) rfl HT ?f1 (Nat.le_refl _) ?_)
       case f1 => rw [List.length_take]; omega
       intro v2 w2 hown2 hgrow2
       have hk2 : xa (fun _ => False) wq w2 := (xa.refl _ _).grown hgrow2 (fun b hb => by simp [Value.ownBlock] at hb)
       have ho2 : w2.ownsRow wq.heap.size 3 1 v2 l.length (cellsOf 1 encI (l.take l.length)) := by
        first
        | exact hown2
        | (rw [List.take_length]; exact hown2)
        | (have e : 0 + (l.take l.length).length = l.length := by (rw [List.length_take]; omega)
           rw [e, List.nil_append] at hown2; exact hown2)
       have hx2 := hk2.cell hxq id
       have hs2 := hsq.keep hk2
       have hz2' := hk2.size
       clear hown2 hgrow2 HT
       go_wp2_with (at_builtin; refine wpList_append_own _ rfl (.tmp 58) (.tmp 63) 23 rfl wq.heap.size 3 i0 _ 1 8 Tryz.underlying23 hi0 hz0 hz1 hz2 rfl (by decide) _ _ _ rfl (xab ho2 _) ⟨w2.heap.size, 0, none⟩ 1 1 [.int .i64 x] rfl rfl (by exact xan _ [_] _) (by intro u hu; simp at hu; subst hu; rfl) ?c3 ?c4 ?c5 ?_)
       case c3 => unfold maxLen; omega
       case c4 => omega
       case c5 => first | omega | (simp; omega)
       intro v3 w3 hown3 hgrow3 _
       have hk3 : xa (fun _ => False) wq w3 := (hk2.alloc _).grown hgrow3 (fun b hb => Or.inr (xaa ho2 b hb))
       have ho3 : w3.ownsRow wq.heap.size 3 1 v3 (l.length + 1) (cellsOf 1 encI (l.take l.length ++ [x])) := by
        rw [xag]; simpa [cellsOf, List.range_succ, encI] using hown3
       have hs3 := hsq.keep hk3
       have hz3' := hk3.size
       clear hown3 hgrow3 ho2 hs2 hx2
       obtain ⟨v3a, v3c, rfl⟩ := xac ho3
       have HR : SlOf 1 encI w3 (.slice (some ⟨lb, lo, none⟩) 0 0) (l.drop l.length) := by rw [List.drop_length]; exact ⟨_, 0, rfl, ⟨Nat.le_refl _, (fun h => by cases h)⟩, by simp, fun h => by simp at h⟩
       go_wp2_with (at_builtin; refine xax rfl (.tmp 65) (.tmp 68) rfl wq.heap.size _ _ _ rfl ho3 _ (l.drop l.length) rfl HR ?f2 hz3' ?_)
       case f2 => rw [List.length_drop]; omega
       intro v4 w4 hown4 hgrow4
       have hk4 : xa (fun _ => False) wq w4 := hk3.grown hgrow4 (fun b hb => Or.inr (xaa ho3 b hb))
       have HM := xoo (xdp HW.out hkq hk4 hxe hput (by first | rfl | omega | simp | (simp; omega)) (by first | rfl | (rw [List.take_length, List.drop_length])) hown4)
       clear hown4 hgrow4 ho3 HR
       go_wp2_with fail
       go_roundw
       case rel => exact xdo HM.out (by go_num)
       case measure => simp [intOf]; omega
     skip
     go_wp2_with fail
     go_quiet (fail)
     revert nq
     intro nqa
     go_wp2_with fail
     go_quiet (fail)
     have hkq0 : xa (fun _ => False) wR ((wr.drewN nqa).drewN nq) := (HKK.out.drawN _).drawN _
     have hxq0 : ((wr.drewN nqa).drewN nq).cell? ⟨ub, uo + i, none⟩ = some (.int .i64 x) := hxw
     generalize hwq : (wr.drewN nqa).drewN nq = wq at *
     have hkq := hkq0
     have hxq := hxq0
     have hsq := HLS.out.1.keep hkq
     clear hkq0 hxq0 hwq hxw hxr
     have hput : Srt (l.take l.length ++ [x] ++ l.drop l.length) ∧ l.length ≤ l.length := ⟨xfT HW.out.srt Hlow.out (fun y hy => by rw [List.getElem?_eq_none (Nat.le_refl _)] at hy; cases hy), by omega⟩
     have hxe := Hxe.out
     have HT : SlOf 1 encI wq (.slice (some ⟨lb, lo, none⟩) l.length lc) (l.take l.length) := hsq.takeI l.length (Nat.le_refl _)
     go_wp2_with (at_builtin; refine xax rfl (.tmp 53) (.tmp 56) rfl wq.heap.size _ _ _ rfl (World.ownsRow_nil _ _ _ _) _ (l.take l.length) rfl HT ?f1 (Nat.le_refl _) ?_)
     case f1 => rw [List.length_take]; omega
     intro v2 w2 hown2 hgrow2
     have hk2 : xa (fun _ => False) wq w2 := (xa.refl _ _).grown hgrow2 (fun b hb => by simp [Value.ownBlock] at hb)
     have ho2 : w2.ownsRow wq.heap.size 3 1 v2 l.length (cellsOf 1 encI (l.take l.length)) := by
      first
      | exact hown2
      | (rw [List.take_length]; exact hown2)
      | (have e : 0 + (l.take l.length).length = l.length := by (rw [List.length_take]; omega)
         rw [e, List.nil_append] at hown2; exact hown2)
     have hx2 := hk2.cell hxq id
     have hs2 := hsq.keep hk2
     have hz2' := hk2.size
     clear hown2 hgrow2 HT
     go_wp2_with (at_builtin; refine wpList_append_own _ rfl (.tmp 58) (.tmp 63) 23 rfl wq.heap.size 3 i0 _ 1 8 Tryz.underlying23 hi0 hz0 hz1 hz2 rfl (by decide) _ _ _ rfl (xab ho2 _) ⟨w2.heap.size, 0, none⟩ 1 1 [.int .i64 x] rfl rfl (by exact xan _ [_] _) (by intro u hu; simp at hu; subst hu; rfl) ?c3 ?c4 ?c5 ?_)
     case c3 => unfold maxLen; omega
     case c4 => omega
     case c5 => first | omega | (simp; omega)
     intro v3 w3 hown3 hgrow3 _
     have hk3 : xa (fun _ => False) wq w3 := (hk2.alloc _).grown hgrow3 (fun b hb => Or.inr (xaa ho2 b hb))
     have ho3 : w3.ownsRow wq.heap.size 3 1 v3 (l.length + 1) (cellsOf 1 encI (l.take l.length ++ [x])) := by
      rw [xag]; simpa [cellsOf, List.range_succ, encI] using hown3
     have hs3 := hsq.keep hk3
     have hz3' := hk3.size
     clear hown3 hgrow3 ho2 hs2 hx2
     obtain ⟨v3a, v3c, rfl⟩ := xac ho3
     have HR : SlOf 1 encI w3 (.slice (some ⟨lb, lo + l.length, none⟩) 0 (lc - l.length)) (l.drop l.length) := (by have hh := SlOf.dropI1 hs3 l.length (by omega) (by omega); rw [Nat.sub_self] at hh; exact hh)
     go_wp2_with (at_builtin; refine xax rfl (.tmp 65) (.tmp 68) rfl wq.heap.size _ _ _ rfl ho3 _ (l.drop l.length) rfl HR ?f2 hz3' ?_)
     case f2 => rw [List.length_drop]; omega
     intro v4 w4 hown4 hgrow4
     have hk4 : xa (fun _ => False) wq w4 := hk3.grown hgrow4 (fun b hb => Or.inr (xaa ho3 b hb))
     have HM := xoo (xdp HW.out hkq hk4 hxe hput (by first | rfl | omega | simp | (simp; omega)) (by first | rfl | (rw [List.take_length, List.drop_length])) hown4)
     clear hown4 hgrow4 ho3 HR
     go_wp2_with fail
     go_roundw
     case rel => exact xdo HM.out (by go_num)
     case measure => simp [intOf]; omega
  obtain rfl : es.length = i := by omega
  rw [List.take_length] at hmem
  have hE : Ends rs l := ⟨hsrt, fun y hy => HO.out.2.2.2.1 y ((hmem y).1 hy), fun y a b c => (hmem y).2 (HO.out.2.2.2.2.2 y a b c)⟩
  have HEn := xoo hE
  have hIS : ISl wr _ l := ⟨SlOf.ofOwn hown (by omega), hE.2.1⟩
  have HIS := xoo hIS
  obtain ⟨la, lc, rfl, hlc, hll⟩ := hIS.cells
  have HL := xoo hll
  have HRS := xoo ((HI.out.keep (HO.out.2.2.2.2.1.trans hk)))
  have HKW := xoo (HO.out.2.2.2.2.1.trans hk)
  clear hsrt hmem hE hIS hll hown hk hnil HO HE HES HU
  obtain ⟨j0, hj0, hy0, hy1, hy2⟩ := info_parts xaO
  have hei : decide ((es.length : Int) < (es.length : Int)) = false := by simp
  obtain ⟨wS, hwS⟩ : ∃ W, W = wr := ⟨wr, rfl⟩
  subst hwS
  go_wp2_with fail
  go_loopw [10, 11] (fun ov jv wr => ScR rs nt l wS ov jv wr) (fun _ jv _ => l.length + 1 - (intOf jv).toNat)
  case atStart => exact ⟨0, [], rfl, Nat.zero_le _, xkG rs nt, World.ownsRow_nil _ _ _ _, xa.refl _ _, by simp⟩
  case round =>
   obtain ⟨j, out, rfl, hj, hscn, hown, hk, hol⟩ := hrel
   have Hn := xoo hscn
   have hsz := hk.size
   by_cases hjl : j < l.length
   · obtain ⟨b, hb⟩ : ∃ b, l[j]? = some b := ⟨_, List.getElem?_eq_getElem hjl⟩
     obtain ⟨lb, lo, rfl, hcc⟩ := HL.out (by omega)
     have hbx := hk.cell (hcc j b hb).1 id
     have Nb1 := xoo (nb_at (nt := nt) HEn.out hb)
     have Pn := xoo (xb6 hb)
     have HRW := xoo (HRS.out.keep hk)
     have hjd0 : (j : Int) < (l.length : Int) := by omega
     have hjd : decide ((j : Int) < (l.length : Int)) = true := by simpa using hjd0
     have Hb := xoo hb
     have Hcc := xoo hcc
     clear hb hcc hscn hjl
     have HOW := xoo hown
     clear hown
     by_cases hq : qOf rs nt b = false
     · have g1 : (has rs b == nt) = true := by unfold qOf at hq; cases hh : has rs b <;> cases nt <;> simp_all
       go_wp2_with fail
       refine (HH.out b _ HRW.out).mono ?_
       rintro e w2 ⟨rfl, rfl⟩
       generalize has rs b = hb at *
       go_wp2_with fail
       go_roundw
       case rel => exact ⟨j + 1, out, by go_num, by omega, by rw [Pn.out]; exact xmQ Hn.out Nb1.out hq, HOW.out, hk, by omega⟩
       case measure => simp [intOf]; omega
     have hq1 : qOf rs nt b = true := by simpa using hq
     have g1 : (has rs b == nt) = false := by unfold qOf at hq1; cases hh : has rs b <;> cases nt <;> simp_all
     rcases List.eq_nil_or_concat out with rfl | ⟨o, p, rfl⟩
     · obtain ⟨va, vc, rfl⟩ := xac HOW.out
       have hp := scn_nil HEn.out (by omega) Hn.out
       have hown := HOW.out
       simp only [List.length_nil] at hown
       go_wp2_with fail
       refine (HH.out b _ HRW.out).mono ?_
       rintro e w2 ⟨rfl, rfl⟩
       generalize has rs b = hb at *
       go_wp2_with fail
       go_quiet (fail)
       go_wp2_with fail
       have hkA : xa (fun _ => False) wS (wr.drewN nq) := hk.drawN _
       have hownA : (wr.drewN nq).ownsRow wS.heap.size 287 2 (.slice va 0 vc) 0 (cellsOf 2 encR ([] : List (Int × Int))) := hown
       have hbA : (wr.drewN nq).cell? ⟨lb, lo + j, none⟩ = some (.int .i64 b) := hbx
       have hbS := (Hcc.out j b Hb.out).1
       have hsA := hkA.size
       generalize wr.drewN nq = wA at *
       clear hbx hown hsz
       go_region_held3 (fun w' => w'.cell? ⟨lb, lo + j, none⟩ = some (.int .i64 b)) (first | go_keep | exact (((hkA.alloc _).drew).grown hgrow (fun b hb => Or.inr (xaa hownA b hb))).cell hbS id)
        ((refine step_append_lies _ (by rfl) _ _ _ (by rfl) wS.heap.size 287 j0 _ 2 16 Tryz.underlying151 hj0 hy0 hy1 hy2 rfl (by omega) (.slice va 0 vc) 0 (cellsOf 2 encR ([] : List (Int × Int))) (by rfl) ((xab hownA _).drew) ⟨wA.heap.size, 0, none⟩ 1 1 [.int .i64 b, .int .i64 b] (by rfl) (by rfl) (World.news_of_block (cs := #[.int .i64 b, .int .i64 b]) (t := 287) (fr := (0, 0)) (heap_alloc_new wA _)) (by simp [Value.oneCell']) (by omega) (by unfold maxLen; omega) (by omega) (by simp; omega) (wA.heap.size + 1) (by simp) ?_; intro gg cap w1 hown1 hgrow hat hlt))
       have hk1 : xa (fun _ => False) wS w1 := ((hkA.alloc _).drew).grown hgrow (fun b hb => Or.inr (xaa hownA b hb))
       have hO : Hid (w1.ownsRow wS.heap.size 287 2 (.slice (some ⟨gg, 0, none⟩) (([] : List (Int × Int)) ++ [(b, b)]).length cap) (([] : List (Int × Int)) ++ [(b, b)]).length (cellsOf 2 encR (([] : List (Int × Int)) ++ [(b, b)]))) := xoo (by
        rw [xag]; simpa [cellsOf, encR, List.range_succ] using hown1)
       have hS : Hid (Scn rs nt (xd3 l (j + 1)) (([] : List (Int × Int)) ++ [(b, b)])) := xoo (by rw [Pn.out]; exact xkH Hn.out Nb1.out hq1 hp)
       clear hown1 hgrow hat hownA hkA hbA
       go_wp2_with fail
       go_roundw
       case rel => exact ⟨j + 1, ([] : List (Int × Int)) ++ [(b, b)], by go_num, by omega, hS.out, by simpa using hO.out, hk1, by first | (simp; done) | (simp at hol ⊢; omega)⟩
       case measure => simp [intOf]; omega
     rw [List.concat_eq_append] at *
     have hjp : 0 < j := by simp at hol; omega
     obtain ⟨k, hjk⟩ : ∃ k, j = k + 1 := ⟨j - 1, by omega⟩
     · obtain ⟨g, gc, rfl, hg1, hg2⟩ := xbB HOW.out (by simp)
       obtain ⟨a, hal⟩ : ∃ a, l[k]? = some a := ⟨_, List.getElem?_eq_getElem (by omega)⟩
       have hax := hk.cell (Hcc.out k a hal).1 id
       obtain ⟨ha0, ha1⟩ := (Hcc.out k a hal).2
       have hpa := xb6 hal
       rw [← hjk] at hpa
       rw [hpa] at Hn Nb1
       have hown := HOW.out
       simp only [List.length_append, List.length_cons, List.length_nil, Nat.zero_add] at hown hol ⊢
       have hw1 : IntKind.i64.wrap ((j : Int) - 1) = (k : Int) := by rw [show (j : Int) - 1 = (k : Int) by omega]; exact IntWalk.i64_in _ (by omega)
       have hw2 : IntKind.i64.wrap (k : Int) = (k : Int) := IntWalk.i64_in _ (by omega)
       have hix : (k : Int) < (l.length : Int) := by omega
       have hix2 : ((k : Int)).toNat = k := by simp
       have hg5 : decide ((0 : Int) < (o.length : Int) + 1) = true := by simp <;> omega
       have Hjk := xoo hjk
       clear hjk
       have hg6 : decide ((0 : Int) < (j : Int)) = true := by simp <;> omega
       have Hal := xoo hal
       clear hal hpa
       cases hqa : qOf rs nt a
       · have g3 : (has rs a == nt) = true := by unfold qOf at hqa; cases hh : has rs a <;> cases nt <;> simp_all
         have KA : ∀ n, Calls Tryz.prog 215 #[v, .int .i64 a] (wr.drewN n) fun e w' => e = .returned (.bool (has rs a)) ∧ w' = wr.drewN n := fun n => (HH.out a _ (HRW.out.keep ((xa.refl _ _).drawN n))).mono fun e w' ⟨e1, e2⟩ => ⟨e1, e2.symm⟩
         go_wp2_with fail
         refine (HH.out b _ HRW.out).mono ?_
         rintro e w2 ⟨rfl, rfl⟩
         generalize has rs b = hb at *
         generalize has rs a = ha at *
         go_wp2_with fail
         go_quiet ((go_at_call 215; exact Calls.quiet_of_same (KA _)))
         go_wp2_with fail
         have hkA : xa (fun _ => False) wS (wr.drewN nq) := hk.drawN _
         have hownA : (wr.drewN nq).ownsRow wS.heap.size 287 2 (.slice (some ⟨g, 0, none⟩) (o.length + 1) gc) (o.length + 1) (cellsOf 2 encR (o ++ [p])) := hown
         have hbA : (wr.drewN nq).cell? ⟨lb, lo + j, none⟩ = some (.int .i64 b) := hbx
         have hbS := (Hcc.out j b Hb.out).1
         have hsA := hkA.size
         generalize wr.drewN nq = wA at *
         clear hbx hown hsz
         go_region_held3 (fun w' => w'.cell? ⟨lb, lo + j, none⟩ = some (.int .i64 b)) (first | go_keep | exact (((hkA.alloc _).drew).grown hgrow (fun b hb => Or.inr (xaa hownA b hb))).cell hbS id)
          ((refine step_append_lies _ (by rfl) _ _ _ (by rfl) wS.heap.size 287 j0 _ 2 16 Tryz.underlying151 hj0 hy0 hy1 hy2 rfl (by omega) (.slice (some ⟨g, 0, none⟩) (o.length + 1) gc) (o.length + 1) (cellsOf 2 encR (o ++ [p])) (by rfl) ((xab hownA _).drew) ⟨wA.heap.size, 0, none⟩ 1 1 [.int .i64 b, .int .i64 b] (by rfl) (by rfl) (World.news_of_block (cs := #[.int .i64 b, .int .i64 b]) (t := 287) (fr := (0, 0)) (heap_alloc_new wA _)) (by simp [Value.oneCell']) (by omega) (by unfold maxLen; omega) (by omega) (by simp; omega) (wA.heap.size + 1) (by simp) ?_; intro gg cap w1 hown1 hgrow hat hlt))
         have hk1 : xa (fun _ => False) wS w1 := ((hkA.alloc _).drew).grown hgrow (fun b hb => Or.inr (xaa hownA b hb))
         have hO : Hid (w1.ownsRow wS.heap.size 287 2 (.slice (some ⟨gg, 0, none⟩) ((o ++ [p]) ++ [(b, b)]).length cap) ((o ++ [p]) ++ [(b, b)]).length (cellsOf 2 encR ((o ++ [p]) ++ [(b, b)]))) := xoo (by
          rw [xag]; simpa [cellsOf, encR, List.range_succ] using hown1)
         have hS : Hid (Scn rs nt (xd3 l (j + 1)) ((o ++ [p]) ++ [(b, b)])) := xoo (by rw [Pn.out]; exact xkH Hn.out Nb1.out hq1 (Or.inr hqa))
         clear hown1 hgrow hat hownA hkA hbA
         go_wp2_with fail
         go_roundw
         case rel => exact ⟨j + 1, (o ++ [p]) ++ [(b, b)], by go_num, by omega, hS.out, by simpa using hO.out, hk1, by first | (simp; done) | (simp at hol ⊢; omega)⟩
         case measure => simp [intOf]; omega
       have g3 : (has rs a == nt) = false := by unfold qOf at hqa; cases hh : has rs a <;> cases nt <;> simp_all
       have KA : ∀ n, Calls Tryz.prog 215 #[v, .int .i64 a] (wr.drewN n) fun e w' => e = .returned (.bool (has rs a)) ∧ w' = wr.drewN n := fun n => (HH.out a _ (HRW.out.keep ((xa.refl _ _).drawN n))).mono fun e w' ⟨e1, e2⟩ => ⟨e1, e2.symm⟩
       have KJ : ∀ n, Calls Tryz.prog 216 #[v, .int .i64 a, .int .i64 b, .bool nt] (wr.drewN n) fun e w' => e = .returned (.bool true) ∧ w' = wr.drewN n := fun n => xj4 rs v a b nt _ (HRW.out.keep ((xa.refl _ _).drawN n)) ha0 ha1 (by
        by_cases hba : b = a + 1
        · exact Or.inl hba
        right; rw [Nb1.out.same (by have := Nb1.out.lt; omega) (a + 1) (by omega) (by have := Nb1.out.lt; omega)]; exact hqa)
       obtain ⟨p1, rfl⟩ : ∃ p1, p = (p1, a) := by
        obtain ⟨o', lo', e⟩ := xiq Hn.out ha0 ha1 hqa
        have := List.append_inj_right' e rfl
        exact ⟨lo', (List.cons.inj this).1⟩
       have hSE : Hid (Scn rs nt (xd3 l (j + 1)) (o ++ [(p1, b)])) := xoo (by rw [Pn.out]; exact scn_ext Hn.out Nb1.out ha0 hqa hq1)
       have hcg : wr.cell? ⟨g, o.length * 2 + 1, none⟩ = some (.int .i64 a) := by
        rw [hown.cellAt _ (by first | omega | (simp; omega))]
        exact xaH 2 encR (o ++ [(p1, a)]) o.length (p1, a) (by simp) 1 (by omega)
       have hfg : ∀ x, wr.frozen? ⟨g, x, none⟩ = false := fun x => hown.frozenAt x
       have hw3 : IntKind.i64.wrap ((o.length : Int) + 1 - 1) = (o.length : Int) := by rw [show (o.length : Int) + 1 - 1 = (o.length : Int) by omega]; exact IntWalk.i64_in _ (by omega)
       have hw4 : IntKind.i64.wrap (o.length : Int) = (o.length : Int) := IntWalk.i64_in _ (by omega)
       have hix5 : (o.length : Int) < (o.length : Int) + 1 := by omega
       have hix6 : ((o.length : Int)).toNat = o.length := by simp
       go_wp2_with fail
       refine (HH.out b _ HRW.out).mono ?_
       rintro e w2 ⟨rfl, rfl⟩
       generalize has rs b = hb at *
       generalize has rs a = ha at *
       go_wp2_with fail
       go_quiet (first | (go_at_call 215; exact Calls.quiet_of_same (KA _)) | (go_at_call 216; exact Calls.quiet_of_same (KJ _)))
       go_wp2_with fail
       go_roundw
       case rel =>
        refine ⟨j + 1, o ++ [(p1, b)], by go_num, by omega, hSE.out, ?_, (hk.drawN _).setNew hg1 _, by simp; omega⟩
        rw [← xip o (p1, a) b]
        have h5 := (World.ownsRow.stored (xbJ hown nq) (o.length * 2 + 1) (.int .i64 b)).1
        simpa using h5
       case measure => simp [intOf]; omega
   obtain rfl : j = l.length := by omega
   have HF := xoo (HS.out l out HEn.out Hn.out)
   have HK2 := xoo (HKW.out.trans hk)
   have hsS := HKW.out.size
   have hld9 : decide ((l.length : Int) < (l.length : Int)) = false := by simp
   go_wp2_with fail
   go_ret
   refine ⟨_, rfl, ?_⟩
   rw [← HF.out]
   exact ⟨xdh hown (by omega), HK2.out⟩
end Go.Proofs.YtbifklibdkjbeaaGreatDoor
