/-
  The document's Parse.
-/
import Derived.Test.YtpcbfmbpbegjgaaGreatRfTreeG
import Derived.Test.YtpcbfmbpbegjgaaGreatMg34
import Derived.Test.YtpcbfmbpbegjgaaGreatRfClsCG
import Derived.Test.YtpcbfmbpbegjgaaGreatMg22
import Derived.Test.YtpcbfmbpbegjgaaGreatRfStG
import Derived.Test.YtpcbfmbpbegjgaaGreatMg20
namespace Go.Proofs.YtpcbfmbpbegjgaaGreat
open Go.RowKit
set_option linter.unusedVariables false
set_option linter.unusedSimpArgs false
set_option maxRecDepth 100000

theorem info_tok : (Tryz.prog.info? 63).map (fun i => (i.zero, i.size, i.bytes)) = some (some (.agg #[.int .i64 0, .int .i64 0, .slice none 0 0, .int .i64 0, .int .i64 0]), 5, 56) := by kernel_rfl
/-- What Parse answers. -/
def RParE (w : World) (r : T × Int) (e : Ending) (w' : World) : Prop :=
  ∃ v : NV, e = .returned (.tuple #[v.val, .int .i64 r.2]) ∧ TAt w' (fun _ => True) v r.1 ∧ Keeps (fun _ => False) w w'
theorem rpar_zero {w wX wE : World} {n : Int} (K : Keeps (fun _ => False) (w.alloc (.cells #[.int .i64 0, .slice none 0 0, .int .i64 0, .int .i64 0, .slice none 0 0] 27)) wX)
    (kE : Keeps (fun b => b = w.heap.size) wX wE) : RParE w (zeroT, n) (.returned (.tuple #[NV.val ⟨0, .slice none 0 0, 0, 0, .slice none 0 0⟩, .int .i64 n])) wE :=
  ⟨_, rfl, TAt.zero _ _, (Keeps.trans (by (repeat' (with_reducible first | exact Keeps.refl _ _ | assumption | refine Keeps.drawN ?_ _ | refine Keeps.drew ?_ | refine Keeps.setCell ?_ ?_ _ | refine Keeps.alloc ?_ _)) <;> (first | exact Or.inr (Nat.le_refl _) | exact Or.inl rfl | exact Or.inl (Or.inl rfl) | exact Or.inl (Or.inr rfl) | (right; simp; done) | (right; simp; omega))) K).trans2 kE (fun b hb e => by omega)⟩
/-- What stands at the head of its loop. -/
structure PrA (w1 wr : World) (rsv : Value) (rest : List Int) (lv : Value) (ts : List Tok) (tvs : List TV) : Prop where
  rs : ISl wr rsv rest
  rb : ∀ b, rsv.ownBlock = some b → b < w1.heap.size
  own : wr.ownsRow w1.heap.size 63 5 lv ts.length (cellsOf 5 encK tvs)
  len : tvs.length = ts.length
  tok : ∀ (i : Nat) (x : TV) (t : Tok), tvs[i]? = some x → ts[i]? = some t → KAt wr (fun b => w1.heap.size ≤ b ∧ b < wr.heap.size ∧ lv.ownBlock ≠ some b) x t
  keep : Keeps (fun _ => False) w1 wr
theorem cells_tok (v : TV) : [Value.int .i64 v.k, .int .i64 v.r, v.sv, .int .i64 v.m, .int .i64 v.x] = cellsOf 5 encK [v] := by simp [cellsOf, encK_cells]
theorem ISl.keeps {S : Nat → Prop} {w w' : World} {v : Value} {l : List Int} (h : ISl w v l) (K : Keeps S w w') (hs : ∀ b, v.ownBlock = some b → ¬ S b) : ISl w' v l := ⟨h.1.keeps K hs, h.2⟩
theorem PrA.push {w1 wr w3 wP w9 : World} {rsv rsv' lv lv' : Value} {rest rest' : List Int} {ts : List Tok} {tvs : List TV} {v : TV} {t : Tok} (h : PrA w1 wr rsv rest lv ts tvs) (K : Keeps (fun _ => False) wr w3) (hT : KAt w3 (Bt wr w3) v t) (K2 : Keeps (fun _ => False) w3 wP)
    (hown : w9.ownsRow w1.heap.size 63 5 lv' (ts.length + 1) (cellsOf 5 encK tvs ++ [Value.int .i64 v.k, .int .i64 v.r, v.sv, .int .i64 v.m, .int .i64 v.x]))
    (hg : wP.grownBy w9 lv.ownBlock) {H : Nat} (hloc : lv'.ownBlock = lv.ownBlock ∨ lv'.ownBlock = some H) (hH : wP.heap.size ≤ H)
    (hrs : ISl wr rsv' rest') (hrb : ∀ b, rsv'.ownBlock = some b → b < w1.heap.size) : PrA w1 w9 rsv' rest' lv' (ts ++ [t]) (tvs ++ [v]) := by
  have k9 : Keeps (fun b => lv.ownBlock = some b) wP w9 := (Keeps.refl _ _).grown hg (fun b hb => Or.inl hb)
  have KP := K.trans K2
  have hs1 := K.size
  have hs2 := K2.size
  have hs9 := k9.size
  have hs0 := h.keep.size
  have olt := own_lt h.own
  have obs := ownBlock_base h.own
  refine ⟨(hrs.keep KP).keeps k9 (fun b hb e => by have := hrb b hb; have := obs b e; omega), hrb, ?_, by simp [h.len], fun i x t' hx ht => ?_, (h.keep.trans KP).trans2 k9 (fun b hb e => by have := obs b e; omega)⟩
  · rw [List.length_append, cellsOf_append, ← cells_tok]; exact hown
  · have e1 : ∀ b, w1.heap.size ≤ b → b < wP.heap.size → lv.ownBlock ≠ some b → (w1.heap.size ≤ b ∧ b < w9.heap.size ∧ lv'.ownBlock ≠ some b) := fun b h1 h2 h3 => ⟨h1, by omega, fun e => by
      rcases hloc with h4 | h4
      · exact h3 (h4 ▸ e)
      · rw [h4] at e; have := Option.some.inj e; omega⟩
    by_cases hi : i < ts.length
    · rw [List.getElem?_append_left (by rw [h.len]; exact hi)] at hx
      rw [List.getElem?_append_left hi] at ht
      exact ((h.tok i x t' hx ht).keepsTo (Q := fun b => w1.heap.size ≤ b ∧ b < wr.heap.size ∧ lv.ownBlock ≠ some b) KP (fun _ _ => id) (fun _ h => h)).keepsTo k9 (fun b hb e => hb.2.2 e) (fun b hb => e1 b hb.1 (by omega) hb.2.2)
    · have hi2 : i = ts.length := by
        have := (List.getElem?_eq_some_iff.1 ht).1
        simp at this; omega
      subst hi2
      obtain rfl : v = x := by rw [← h.len] at hx; simpa using hx
      obtain rfl : t = t' := by simpa using ht
      exact (hT.keepsTo (Q := Bt wr w3) K2 (fun _ _ => id) (fun _ h => h)).keepsTo k9 (fun b hb e => by have := olt b e; have := hb.1; omega) (fun b hb => e1 b (by have := hb.1; omega) (by have := hb.2; omega) (fun e => by have := olt b e; have := hb.1; omega))
def parT : Option T → T × Int
  | none => (zeroT, 15)
  | some t => (t, 0)
noncomputable def parD (R : Option (List Tok)) : T × Int :=
  match R with
  | none => (zeroT, 15)
  | some ts => parT (treeF ts)
theorem parD_eq {rs : List Int} (hr : ∀ r ∈ rs, 0 ≤ r ∧ r ≤ 1114111) : parseR rs = parD (toks rs) := by
  rw [parse_toks hr]
  unfold parD
  cases toks rs with
  | none => rfl
  | some ts =>
    simp only
    cases treeF ts <;> rfl
def PrR (R : Option (List Tok)) (w1 : World) (rsv lv : Value) (wr : World) : Prop :=
  ∃ rest ts tvs, PrA w1 wr rsv rest lv ts tvs ∧ ts.length + rest.length ≤ 200 ∧ (toks rest).map (ts ++ ·) = R
theorem PrA.ks {w1 wr : World} {rsv : Value} {rest : List Int} {lv : Value} {ts : List Tok} {tvs : List TV} (h : PrA w1 wr rsv rest lv ts tvs) (hl : ts.length ≤ 1000) : KsAt wr (fun b => w1.heap.size ≤ b ∧ b < wr.heap.size) lv tvs ts :=
  ⟨SlOf.ofOwn (by have := h.own; rwa [← h.len] at this) (by rw [h.len]; omega), h.len, fun i x t hx ht => (h.tok i x t hx ht).keepsTo (Keeps.refl (fun _ => False) _) (fun _ _ => id) (fun b hb => ⟨hb.1, hb.2.1⟩)⟩
set_option maxHeartbeats 16000000 in
theorem rparse_any (l : List UInt8) (w : World) (hm : l.length ≤ 9223372036854775807) : Calls Tryz.prog 7 #[.string ⟨l.toArray⟩] w fun e w' => RParE w (parseP l) e w' := by
  obtain ⟨i0, hi0, hz0, hz1, hz2⟩ := info_parts info_tok
  by_cases hlen : 200 < l.length
  · skip
    have hP : parseP l = (zeroT, 16) := by unfold parseP; rw [if_pos hlen]
    rw [hP]
    have g0 : decide ((200 : Int) < (l.length : Int)) = true := by simp; omega
    have g1 : decide (200 < l.length) = true := by simpa using hlen
    go_enter Tryz.func7, Tryz.ntmps7
    go_wp2_with fail
    refine bodyPost_ret (by simp [results, Tryz.results7, go_sem]; try rfl) rfl ?_
    exact ⟨⟨0, .slice none 0 0, 0, 0, .slice none 0 0⟩, rfl, TAt.zero _ _, (Keeps.refl _ _).alloc _⟩
  have g0 : decide ((200 : Int) < (l.length : Int)) = false := by simp; omega
  have g1 : decide (200 < l.length) = false := by simpa using hlen
  have HPt := Lib.hid (fun W => rPoints_any l W (by omega))
  unfold PtsE at HPt
  cases hpt : pts l with
  | none =>
    rw [show parseP l = (zeroT, 15) by unfold parseP; rw [if_neg hlen, hpt]]
    rw [hpt] at HPt
    clear hpt
    simp only at HPt
    go_enter Tryz.func7, Tryz.ntmps7
    go_wp2_with fail
    refine (HPt.out _).mono ?_
    rintro e w2 ⟨rfl, k2⟩
    have K2 := Lib.hid k2
    clear k2
    go_wp2_with fail
    go_loopw [4, 6] (fun rsv lv wr => rsv = .slice none 0 0 ∧ lv = .slice none 0 0 ∧ w2 = wr) (fun _ _ _ => 0)
    case atStart => exact ⟨rfl, rfl, rfl⟩
    case round =>
      obtain ⟨rfl, rfl, rfl⟩ := hrel
      have hlt9 : w.heap.size < w2.heap.size := by have := (K2.out).size; simp at this; omega
      obtain ⟨⟨y0, y1, y2, y3, y4⟩, q0, q1, q2, q3, q4⟩ := res_factsN (K2.out)
      obtain ⟨wE, hWE⟩ : ∃ W, st5 w2 w.heap.size (.int .i64 0) (.slice none 0 0) (.int .i64 0) (.int .i64 0) (.slice none 0 0) = W := ⟨_, rfl⟩
      obtain ⟨r0, r1, r2, r3, r4, kE⟩ := st5_facts w2 w.heap.size y0 y1 y2 y3 y4 (.int .i64 0) (.slice none 0 0) (.int .i64 0) (.int .i64 0) (.slice none 0 0)
      rw [hWE] at r0 r1 r2 r3 r4 kE
      unfold st5 at hWE
      have z0 := alloc_cell r0 (.cells #[.int .i64 0, .slice none 0 0, .int .i64 0, .int .i64 0, .slice none 0 0] 27)
      have z1 := alloc_cell r1 (.cells #[.int .i64 0, .slice none 0 0, .int .i64 0, .int .i64 0, .slice none 0 0] 27)
      have z2 := alloc_cell r2 (.cells #[.int .i64 0, .slice none 0 0, .int .i64 0, .int .i64 0, .slice none 0 0] 27)
      have z3 := alloc_cell r3 (.cells #[.int .i64 0, .slice none 0 0, .int .i64 0, .int .i64 0, .slice none 0 0] 27)
      have z4 := alloc_cell r4 (.cells #[.int .i64 0, .slice none 0 0, .int .i64 0, .int .i64 0, .slice none 0 0] 27)
      have HKE := Lib.hid kE
      have HWE := Lib.hid hWE
      clear kE hWE
      go_wp2_with fail
      rw [HWE.out]
      clear y0 y1 y2 y3 y4
      refine bodyPost_ret (by simp [results, Tryz.results7, go_sem, z0, z1, z2, z3, z4]; try rfl) rfl ?_
      exact rpar_zero (n := 15) K2.out (HKE.out.alloc _)
  | some rs =>
    obtain ⟨hrl, hrr⟩ := pts_facts hpt
    obtain ⟨R, hR⟩ : ∃ R, toks rs = R := ⟨_, rfl⟩
    have HPP : Hid (parseP l = parD R) := Lib.hid (by rw [show parseP l = parseR rs by unfold parseP; rw [if_neg hlen, hpt], parD_eq hrr, hR])
    have HR := Lib.hid hR
    have HRR := Lib.hid hrr
    rw [hpt] at HPt
    clear hpt hR hrr
    simp only at HPt
    go_enter Tryz.func7, Tryz.ntmps7
    go_wp2_with fail
    refine (HPt.out _).mono ?_
    rintro e w1 ⟨⟨rv, rfl, hown⟩, k1⟩
    have hs1 := k1.size
    simp at hs1
    have hst : PrA w1 w1 rv rs (.slice none 0 0) [] [] := by
      refine ⟨⟨SlOf.ofOwn (by rw [← cells_int] at hown; exact hown) (by omega), HRR.out⟩, fun b hb => own_lt hown b hb, World.ownsRow_nil _ _ _ _, rfl, fun i x t hx ht => by simp at hx, Keeps.refl _ _⟩
    obtain ⟨ra, rc, rfl⟩ := ownsRow_slice hown
    have HST := Lib.hid hst
    have K1 := Lib.hid k1
    clear hown hst k1
    go_wp2_with fail
    go_loopw [4, 6] (fun rsv lv wr => PrR R w1 rsv lv wr) (fun rsv _ _ => restLen rsv)
    case atStart => exact ⟨rs, [], [], HST.out, by simp; omega, by rw [HR.out]; cases R <;> simp⟩
    case round =>
      obtain ⟨rest, ts, tvs, hA, hll, hg⟩ := hrel
      have HA := Lib.hid hA
      have HR2 := Lib.hid hg
      have hsz := hA.keep.size
      obtain ⟨la, lc, rfl⟩ := ownsRow_slice hA.own
      obtain ⟨a, cap, rfl, hcap, hc⟩ := hA.rs.cells
      clear hA hg
      cases rest with
      | nil =>
        have E : Hid (R = some ts) := Lib.hid (by rw [← HR2.out, toks_nil]; simp)
        have hok : ∀ t ∈ ts, t.ok := fun t ht => by
          have e := HR.out
          rw [E.out] at e
          exact toks_okk e t ht
        have HTr : Hid (∀ (W : World) (K : Keeps (fun _ => False) wr W), Calls Tryz.prog 23 #[.slice la ts.length lc, .int .i64 0] W fun e w' => TreeE W (fun b => w1.heap.size ≤ b ∧ b < wr.heap.size) (treeF ts) e w') := Lib.hid (fun W K =>
          tree_main (ts.length + 1) 0 _ _ tvs ts W (by omega) (by omega) ((HA.out.ks (by omega)).keep K) (fun b hb => by have := K.size; omega) (by omega) (by omega) hok)
        clear hc HR2 hok
        simp only [List.length_nil] at *
        cases hft : treeF ts with
        | none =>
          have E2 : Hid (parseP l = (zeroT, 15)) := Lib.hid (by rw [HPP.out, E.out, show parD (some ts) = parT (treeF ts) from rfl, hft]; rfl)
          rw [hft] at HTr
          clear hft HPP
          go_wp2_with fail
          refine (HTr.out _ ((Keeps.refl _ _).alloc _)).mono ?_
          rintro e w5 ⟨rfl, k5⟩
          have K5 := Lib.hid ((K1.out.trans HA.out.keep).trans (Keeps.trans ((Keeps.refl _ _).alloc _) k5))
          have hC := k5.heap (heap_alloc_new wr _) id
          have hB := K5.out.heap (heap_alloc_new w _) id
          have hsz5 := k5.size
          simp at hsz5
          have hne : ¬ w.heap.size = wr.heap.size := by omega
          have HB := Lib.hid hB
          clear hB
          unfold NV.val
          go_wp2_with (refine wpList_store_gen rfl 27 (.tmp 9) (.tmp 45) rfl rfl wr.heap.size #[.int .i64 0, .slice none 0 0, .int .i64 0, .int .i64 0, .slice none 0 0] rfl rfl 27 _ hC size_node rfl (by simp [Value.oneCell']) ?_)
          intro w6 h6 k6
          obtain ⟨f0, f1, f2, f3, f4⟩ := five h6
          have hB6 := k6.heap HB.out hne
          go_wp2_with (refine wpList_store_gen rfl 27 (.tmp 2) (.tmp 49) rfl rfl w.heap.size #[.int .i64 0, .slice none 0 0, .int .i64 0, .int .i64 0, .slice none 0 0] rfl rfl 27 _ hB6 size_node rfl (by simp [Value.oneCell']) ?_)
          intro w7 h7 k7
          obtain ⟨r0, r1, r2, r3, r4⟩ := five h7
          go_wp2_with fail
          have HKE := Lib.hid ((k6.mono (T := fun b => b = w.heap.size ∨ b = wr.heap.size) (fun _ _ e => Or.inr e)).trans (k7.mono (fun _ _ e => Or.inl e)))
          clear h6 k6 h7 k7 f0 f1 f2 f3 f4
          refine bodyPost_ret (by simp [results, Tryz.results7, go_sem, r0, r1, r2, r3, r4]; try rfl) rfl ?_
          rw [E2.out]
          exact ⟨⟨0, .slice none 0 0, 0, 0, .slice none 0 0⟩, rfl, TAt.zero _ _, (Keeps.trans (by (repeat' (with_reducible first | exact Keeps.refl _ _ | assumption | refine Keeps.drawN ?_ _ | refine Keeps.drew ?_ | refine Keeps.setCell ?_ ?_ _ | refine Keeps.alloc ?_ _)) <;> (first | exact Or.inr (Nat.le_refl _) | exact Or.inl rfl | exact Or.inl (Or.inl rfl) | exact Or.inl (Or.inr rfl) | (right; simp; done) | (right; simp; omega))) K5.out).trans2 HKE.out (fun b hb e => by rcases e with e | e <;> omega)⟩
        | some t =>
          have E2 : Hid (parseP l = (t, 0)) := Lib.hid (by rw [HPP.out, E.out, show parD (some ts) = parT (treeF ts) from rfl, hft]; rfl)
          rw [hft] at HTr
          clear hft HPP
          go_wp2_with fail
          refine (HTr.out _ ((Keeps.refl _ _).alloc _)).mono ?_
          rintro e w5 ⟨v, rfl, hv, k5⟩
          obtain ⟨o, a1, n1, c1, mm2, xx2, a2, n2, cc2, rfl⟩ := NV.form hv
          have HV := Lib.hid hv
          have K5 := Lib.hid ((K1.out.trans HA.out.keep).trans (Keeps.trans ((Keeps.refl _ _).alloc _) k5))
          clear hv
          have hC := k5.heap (heap_alloc_new wr _) id
          have hB := K5.out.heap (heap_alloc_new w _) id
          have hsz5 := k5.size
          simp at hsz5
          have hne : ¬ w.heap.size = wr.heap.size := by omega
          have HB := Lib.hid hB
          clear hB
          unfold NV.val
          go_wp2_with (refine wpList_store_gen rfl 27 (.tmp 9) (.tmp 45) rfl rfl wr.heap.size #[.int .i64 o, .slice a1 n1 c1, .int .i64 mm2, .int .i64 xx2, .slice a2 n2 cc2] rfl rfl 27 _ hC size_node rfl (by simp [Value.oneCell']) ?_)
          intro w6 h6 k6
          obtain ⟨f0, f1, f2, f3, f4⟩ := five h6
          have hB6 := k6.heap HB.out hne
          go_wp2_with (refine wpList_store_gen rfl 27 (.tmp 2) (.tmp 50) rfl rfl w.heap.size #[.int .i64 o, .slice a1 n1 c1, .int .i64 mm2, .int .i64 xx2, .slice a2 n2 cc2] rfl rfl 27 _ hB6 size_node rfl (by simp [Value.oneCell']) ?_)
          intro w7 h7 k7
          obtain ⟨r0, r1, r2, r3, r4⟩ := five h7
          go_wp2_with fail
          have HKE := Lib.hid ((k6.mono (T := fun b => b = w.heap.size ∨ b = wr.heap.size) (fun _ _ e => Or.inr e)).trans (k7.mono (fun _ _ e => Or.inl e)))
          clear h6 k6 h7 k7 f0 f1 f2 f3 f4
          refine bodyPost_ret (by simp [results, Tryz.results7, go_sem, r0, r1, r2, r3, r4]; try rfl) rfl ?_
          rw [E2.out]
          exact ⟨⟨o, .slice a1 n1 c1, mm2, xx2, .slice a2 n2 cc2⟩, rfl, HV.out.keepsTo HKE.out (fun b hb e => by
            rcases hb with ⟨h, h'⟩ | ⟨h, _⟩
            · rcases e with e | e <;> omega
            · simp at h; rcases e with e | e <;> omega) (fun _ _ => trivial), (Keeps.trans (by (repeat' (with_reducible first | exact Keeps.refl _ _ | assumption | refine Keeps.drawN ?_ _ | refine Keeps.drew ?_ | refine Keeps.setCell ?_ ?_ _ | refine Keeps.alloc ?_ _)) <;> (first | exact Or.inr (Nat.le_refl _) | exact Or.inl rfl | exact Or.inl (Or.inl rfl) | exact Or.inl (Or.inr rfl) | (right; simp; done) | (right; simp; omega))) K5.out).trans2 HKE.out (fun b hb e => by rcases e with e | e <;> omega)⟩
      | cons r rest =>
        obtain ⟨b, off, rfl, _⟩ := hc (by simp)
        simp only [List.length_cons] at hll hcap
        have HTk := Lib.hid (fun W (K : Keeps (fun _ => False) wr W) => rtoken_any rclass_any r rest _ W (HA.out.rs.keep K) (by omega))
        have hp0 : decide ((0 : Int) < (rest.length : Int) + 1) = true := by first | (simp; done) | (simp; omega)
        clear hc
        simp only [List.length_cons] at *
        cases htk : tokP (r :: rest) with
        | none =>
          have E : Hid (R = none) := Lib.hid (by rw [← HR2.out, toks_none htk]; rfl)
          have E2 : Hid (parseP l = (zeroT, 15)) := Lib.hid (by rw [HPP.out, E.out]; rfl)
          clear HR2
          rw [htk] at HTk
          clear htk
          go_wp2_with fail
          refine (HTk.out _ (Keeps.refl _ _)).mono ?_
          rintro e w3 ⟨rfl, k3⟩
          have K3 := Lib.hid (K1.out.trans (HA.out.keep.trans k3))
          clear k3
          unfold tokV
          have hlt9 : w.heap.size < w3.heap.size := by have := (K3.out).size; simp at this; omega
          obtain ⟨⟨y0, y1, y2, y3, y4⟩, q0, q1, q2, q3, q4⟩ := res_factsN (K3.out)
          obtain ⟨wE, hWE⟩ : ∃ W, st5 w3 w.heap.size (.int .i64 0) (.slice none 0 0) (.int .i64 0) (.int .i64 0) (.slice none 0 0) = W := ⟨_, rfl⟩
          obtain ⟨r0, r1, r2, r3, r4, kE⟩ := st5_facts w3 w.heap.size y0 y1 y2 y3 y4 (.int .i64 0) (.slice none 0 0) (.int .i64 0) (.int .i64 0) (.slice none 0 0)
          rw [hWE] at r0 r1 r2 r3 r4 kE
          unfold st5 at hWE
          have z0 := alloc_cell r0 (.cells #[.int .i64 0, .int .i64 0, .slice none 0 0, .int .i64 0, .int .i64 0] 63)
          have z1 := alloc_cell r1 (.cells #[.int .i64 0, .int .i64 0, .slice none 0 0, .int .i64 0, .int .i64 0] 63)
          have z2 := alloc_cell r2 (.cells #[.int .i64 0, .int .i64 0, .slice none 0 0, .int .i64 0, .int .i64 0] 63)
          have z3 := alloc_cell r3 (.cells #[.int .i64 0, .int .i64 0, .slice none 0 0, .int .i64 0, .int .i64 0] 63)
          have z4 := alloc_cell r4 (.cells #[.int .i64 0, .int .i64 0, .slice none 0 0, .int .i64 0, .int .i64 0] 63)
          have HKE := Lib.hid kE
          have HWE := Lib.hid hWE
          clear kE hWE
          go_wp2_with fail
          rw [HWE.out]
          clear y0 y1 y2 y3 y4
          refine bodyPost_ret (by simp [results, Tryz.results7, go_sem, z0, z1, z2, z3, z4]; try rfl) rfl ?_
          rw [E2.out]
          exact rpar_zero (n := 15) K3.out (HKE.out.alloc _)
        | some q =>
          obtain ⟨t, k⟩ := q
          obtain ⟨hk1, hk2, _, _⟩ := tokP_local htk
          have HR3 : Hid ((toks ((r :: rest).drop k)).map ((ts ++ [t]) ++ ·) = R) := Lib.hid (by rw [← HR2.out, toks_some htk]; cases toks ((r :: rest).drop k) <;> simp)
          have gk : ((k : Int) == 0) = false := beq_eq_false_iff_ne.2 (by omega)
          rw [htk] at HTk
          simp only [List.length_cons] at hk2
          have hq1 : (k : Int) ≤ (rest.length : Int) + 1 := by omega
          have hq2 : (k : Int) ≤ (cap : Int) := by omega
          have hq3 : (0 : Int) ≤ (k : Int) := by omega
          clear htk HR2
          by_cases hck : cap = k
          · subst hck
            have hrl : rest.length + 1 = cap := by omega
            have hdr : (r :: rest).drop cap = [] := List.drop_eq_nil_of_le (by simp; omega)
            rw [hdr] at HR3
            have Hrl := Lib.hid hrl
            clear hrl hdr
            go_wp2_with fail
            refine (HTk.out _ (Keeps.refl _ _)).mono ?_
            rintro e w3 ⟨v, rfl, hT, k3⟩
            obtain ⟨sa, sn, sc, hsv⟩ := hT.form
            obtain ⟨vk, vr, vs, vm, vx⟩ := v
            obtain rfl := hsv
            have HT3 := Lib.hid hT
            have K3 := Lib.hid k3
            have hs3 := k3.size
            clear hT k3
            unfold TV.val
            go_wp2_with (at_builtin; refine wpList_append_own_at _ rfl (.tmp 33) (.tmp 35) 61 rfl w1.heap.size 63 i0 _ 5 56 Tryz.underlying61 hi0 hz0 hz1 hz2 rfl (by decide) _ _ _ rfl (ownsRow_alloc (ownsRow_alloc (ownsRow_keeps HA.out.own K3.out (fun _ _ => id)) _) _) ⟨w3.heap.size + 1, 0, none⟩ 1 1 [.int .i64 vk, .int .i64 vr, .slice sa sn sc, .int .i64 vm, .int .i64 vx] rfl rfl (by exact cells_new1 _ _ [_, _, _, _, _] _) (by simp [Value.oneCell']) ?d3 ?d4 ?d5 ?_)
            case d3 => unfold maxLen; omega
            case d4 => omega
            case d5 => first | omega | (simp; omega)
            intro v' w9 hown' hgrow _ hloc
            have HN := Lib.hid (PrA.push HA.out K3.out HT3.out (((Keeps.refl _ _).alloc _).alloc _) hown' hgrow hloc (by simp) (show ISl wr (.slice (some ⟨b, off, none⟩) 0 0) [] from ⟨⟨_, 0, rfl, ⟨Nat.le_refl _, (fun h => by cases h)⟩, by simp, fun h => by simp at h⟩, fun r hr => by cases hr⟩) (fun b hb => HA.out.rb b hb))
            clear hown' hgrow hloc
            go_wp2_with fail
            go_roundw
            case rel => exact ⟨_, _, _, HN.out, by simp; omega, HR3.out⟩
            case measure => first | (simp [restLen]; done) | (simp [restLen]; omega)
          · skip
            go_wp2_with fail
            refine (HTk.out _ (Keeps.refl _ _)).mono ?_
            rintro e w3 ⟨v, rfl, hT, k3⟩
            obtain ⟨sa, sn, sc, hsv⟩ := hT.form
            obtain ⟨vk, vr, vs, vm, vx⟩ := v
            obtain rfl := hsv
            have HT3 := Lib.hid hT
            have K3 := Lib.hid k3
            have hs3 := k3.size
            clear hT k3
            unfold TV.val
            go_wp2_with (at_builtin; refine wpList_append_own_at _ rfl (.tmp 33) (.tmp 35) 61 rfl w1.heap.size 63 i0 _ 5 56 Tryz.underlying61 hi0 hz0 hz1 hz2 rfl (by decide) _ _ _ rfl (ownsRow_alloc (ownsRow_alloc (ownsRow_keeps HA.out.own K3.out (fun _ _ => id)) _) _) ⟨w3.heap.size + 1, 0, none⟩ 1 1 [.int .i64 vk, .int .i64 vr, .slice sa sn sc, .int .i64 vm, .int .i64 vx] rfl rfl (by exact cells_new1 _ _ [_, _, _, _, _] _) (by simp [Value.oneCell']) ?d3 ?d4 ?d5 ?_)
            case d3 => unfold maxLen; omega
            case d4 => omega
            case d5 => first | omega | (simp; omega)
            intro v' w9 hown' hgrow _ hloc
            have HN := Lib.hid (PrA.push HA.out K3.out HT3.out (((Keeps.refl _ _).alloc _).alloc _) hown' hgrow hloc (by simp) (HA.out.rs.dropI k (by first | omega | (simp; omega)) hck) (fun b hb => HA.out.rb b hb))
            clear hown' hgrow hloc
            go_wp2_with fail
            go_roundw
            case rel => exact ⟨_, _, _, HN.out, by simp; omega, HR3.out⟩
            case measure => first | (simp [restLen]; done) | (simp [restLen]; omega)
end Go.Proofs.YtpcbfmbpbegjgaaGreat
