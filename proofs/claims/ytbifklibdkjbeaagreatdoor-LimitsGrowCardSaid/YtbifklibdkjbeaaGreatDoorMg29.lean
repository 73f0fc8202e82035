/-
  Several texts in one: The document's Parse. The program's and the document's length of a tree are the same; both Compiles come to the same error. Light, Short, Right of the model's reference (printed by mk_rr.py).
-/
import Derived.Test.YtbifklibdkjbeaaGreatDoorRfTreeG
import Derived.Test.YtbifklibdkjbeaaGreatDoorMg27
import Derived.Test.YtbifklibdkjbeaaGreatDoorMg28
import Derived.Test.YtbifklibdkjbeaaGreatDoorMg19
import Derived.Test.YtbifklibdkjbeaaGreatDoorMg17
import Derived.Test.YtbifklibdkjbeaaGreatDoorMg16
import Derived.Test.YtbifklibdkjbeaaGreatDoorMg21
namespace Go.Proofs.YtbifklibdkjbeaaGreatDoor
open Go.RowKit
set_option linter.unusedVariables false
set_option linter.unusedSimpArgs false
set_option maxRecDepth 100000
set_option maxHeartbeats 40000000
theorem xns : (Tryz.prog.info? 218).map (fun i => (i.zero, i.size, i.bytes)) = some (some (.agg #[.int .i64 0, .int .i64 0, .slice none 0 0, .int .i64 0, .int .i64 0]), 5, 56) := by kernel_rfl
def RParE (w : World) (r : T × Int) (e : Ending) (w' : World) : Prop :=
 ∃ v : NV, e = .returned (.tuple #[v.val, .int .i64 r.2]) ∧ TAt w' (fun _ => True) v r.1 ∧ xa (fun _ => False) w w'
theorem xgE {w wX wE : World} {n : Int} (K : xa (fun _ => False) (w.alloc (.cells #[.int .i64 0, .slice none 0 0, .int .i64 0, .int .i64 0, .slice none 0 0] 154)) wX)
 (kE : xa (fun b => b = w.heap.size) wX wE) : RParE w (xa3, n) (.returned (.tuple #[NV.val ⟨0, .slice none 0 0, 0, 0, .slice none 0 0⟩, .int .i64 n])) wE :=
 ⟨_, rfl, TAt.zero _ _, (xa.trans (KI.out) K).trans2 kE (fun b hb e => by omega)⟩
structure PrA (w1 wr : World) (rsv : Value) (rest : List Int) (lv : Value) (ts : List Tok) (tvs : List TV) : Prop where
 rs : ISl wr rsv rest
 rb : ∀ b, rsv.ownBlock = some b → b < w1.heap.size
 own : wr.ownsRow w1.heap.size 218 5 lv ts.length (cellsOf 5 encK tvs)
 len : tvs.length = ts.length
 tok : ∀ (i : Nat) (x : TV) (t : Tok), tvs[i]? = some x → ts[i]? = some t → KAt wr (fun b => w1.heap.size ≤ b ∧ b < wr.heap.size ∧ lv.ownBlock ≠ some b) x t
 keep : xa (fun _ => False) w1 wr
theorem xmm (v : TV) : [Value.int .i64 v.k, .int .i64 v.r, v.sv, .int .i64 v.m, .int .i64 v.x] = cellsOf 5 encK [v] := by simp [cellsOf, xka]
theorem ISl.keeps {S : Nat → Prop} {w w' : World} {v : Value} {l : List Int} (h : ISl w v l) (K : xa S w w') (hs : ∀ b, v.ownBlock = some b → ¬ S b) : ISl w' v l := ⟨h.1.keeps K hs, h.2⟩
theorem PrA.push {w1 wr w3 wP w9 : World} {rsv rsv' lv lv' : Value} {rest rest' : List Int} {ts : List Tok} {tvs : List TV} {v : TV} {t : Tok} (h : PrA w1 wr rsv rest lv ts tvs) (K : xa (fun _ => False) wr w3) (hT : KAt w3 (Bt wr w3) v t) (K2 : xa (fun _ => False) w3 wP)
 (hown : w9.ownsRow w1.heap.size 218 5 lv' (ts.length + 1) (cellsOf 5 encK tvs ++ [Value.int .i64 v.k, .int .i64 v.r, v.sv, .int .i64 v.m, .int .i64 v.x]))
 (hg : wP.grownBy w9 lv.ownBlock) {H : Nat} (hloc : lv'.ownBlock = lv.ownBlock ∨ lv'.ownBlock = some H) (hH : wP.heap.size ≤ H)
 (hrs : ISl wr rsv' rest') (hrb : ∀ b, rsv'.ownBlock = some b → b < w1.heap.size) : PrA w1 w9 rsv' rest' lv' (ts ++ [t]) (tvs ++ [v]) := by
 have k9 : xa (fun b => lv.ownBlock = some b) wP w9 := (xa.refl _ _).grown hg (fun b hb => Or.inl hb)
 have KP := K.trans K2
 have hs1 := K.size
 have hs2 := K2.size
 have hs9 := k9.size
 have hs0 := h.keep.size
 have olt := xaM h.own
 have obs := xaa h.own
 refine ⟨(hrs.keep KP).keeps k9 (fun b hb e => by have := hrb b hb; have := obs b e; omega), hrb, ?_, by simp [h.len], fun i x t' hx ht => ?_, (h.keep.trans KP).trans2 k9 (fun b hb e => by have := obs b e; omega)⟩
 · rw [List.length_append, xag, ← xmm]; exact hown
 have e1 : ∀ b, w1.heap.size ≤ b → b < wP.heap.size → lv.ownBlock ≠ some b → (w1.heap.size ≤ b ∧ b < w9.heap.size ∧ lv'.ownBlock ≠ some b) := fun b h1 h2 h3 => ⟨h1, by omega, fun e => by
  rcases hloc with h4 | h4
  · exact h3 (h4 ▸ e)
  rw [h4] at e; have := Option.some.inj e; omega⟩
 by_cases hi : i < ts.length
 · rw [List.getElem?_append_left (by rw [h.len]; exact hi)] at hx
   rw [List.getElem?_append_left hi] at ht
   exact ((h.tok i x t' hx ht).keepsTo (Q := fun b => w1.heap.size ≤ b ∧ b < wr.heap.size ∧ lv.ownBlock ≠ some b) KP (fun _ _ => id) (fun _ h => h)).keepsTo k9 (fun b hb e => hb.2.2 e) (fun b hb => e1 b hb.1 (by omega) hb.2.2)
 have hi2 : i = ts.length := by
  have := (List.getElem?_eq_some_iff.1 ht).1
  simp at this; omega
 subst hi2
 obtain rfl : v = x := by rw [← h.len] at hx; simpa using hx
 obtain rfl : t = t' := by simpa using ht
 exact (hT.keepsTo (Q := Bt wr w3) K2 (fun _ _ => id) (fun _ h => h)).keepsTo k9 (fun b hb e => by have := olt b e; have := hb.1; omega) (fun b hb => e1 b (by have := hb.1; omega) (by have := hb.2; omega) (fun e => by have := olt b e; have := hb.1; omega))
def parT : Option T → T × Int
 | none => (xa3, 15)
 | some t => (t, 0)
noncomputable def parD (R : Option (List Tok)) : T × Int :=
 match R with
 | none => (xa3, 15)
 | some ts => parT (xe6 ts)
theorem parD_eq {rs : List Int} (hr : ∀ r ∈ rs, 0 ≤ r ∧ r ≤ 1114111) : xcS rs = parD (toks rs) := by
 rw [xjO hr]
 unfold parD
 cases toks rs with
 | none => rfl
 | some ts =>
  simp only
  cases xe6 ts <;> rfl
def PrR (R : Option (List Tok)) (w1 : World) (rsv lv : Value) (wr : World) : Prop :=
 ∃ rest ts tvs, PrA w1 wr rsv rest lv ts tvs ∧ ts.length + rest.length ≤ 200 ∧ (toks rest).map (ts ++ ·) = R
theorem PrA.ks {w1 wr : World} {rsv : Value} {rest : List Int} {lv : Value} {ts : List Tok} {tvs : List TV} (h : PrA w1 wr rsv rest lv ts tvs) (hl : ts.length ≤ 1000) : KsAt wr (fun b => w1.heap.size ≤ b ∧ b < wr.heap.size) lv tvs ts :=
 ⟨SlOf.ofOwn (by have := h.own; rwa [← h.len] at this) (by rw [h.len]; omega), h.len, fun i x t hx ht => (h.tok i x t hx ht).keepsTo (xa.refl (fun _ => False) _) (fun _ _ => id) (fun b hb => ⟨hb.1, hb.2.1⟩)⟩
theorem xjt (l : List UInt8) (w : World) (hm : l.length ≤ 9223372036854775807) : Calls Tryz.prog 77 #[.string ⟨l.toArray⟩] w fun e w' => RParE w (xaZ l) e w' := by
 obtain ⟨i0, hi0, hz0, hz1, hz2⟩ := info_parts xns
 by_cases hlen : 200 < l.length
 · skip
   have hP : xaZ l = (xa3, 16) := by unfold xaZ; rw [if_pos hlen]
   rw [hP]
   have g0 : decide ((200 : Int) < (l.length : Int)) = true := by simp; omega
   have g1 : decide (200 < l.length) = true := by simpa using hlen
   go_enter Tryz.func77, Tryz.ntmps77
   go_wp2_with fail
   refine bodyPost_ret (by simp [results, Tryz.results77, go_sem]; try rfl) rfl ?_
   exact ⟨⟨0, .slice none 0 0, 0, 0, .slice none 0 0⟩, rfl, TAt.zero _ _, (xa.refl _ _).alloc _⟩
 have g0 : decide ((200 : Int) < (l.length : Int)) = false := by simp; omega
 have g1 : decide (200 < l.length) = false := by simpa using hlen
 have HPt := xoo (fun W => xhG l W (by omega))
 unfold PtsE at HPt
 cases hpt : pts l with
 | none =>
  rw [show xaZ l = (xa3, 15) by unfold xaZ; rw [if_neg hlen, hpt]]
  rw [hpt] at HPt
  clear hpt
  simp only at HPt
  go_enter Tryz.func77, Tryz.ntmps77
  go_wp2_with fail
  refine (HPt.out _).mono ?_
  rintro e w2 ⟨rfl, k2⟩
  have K2 := xoo k2
  clear k2
  go_wp2_with fail
  go_loopw [4, 6] (fun rsv lv wr => rsv = .slice none 0 0 ∧ lv = .slice none 0 0 ∧ w2 = wr) (fun _ _ _ => 0)
  case atStart => exact ⟨rfl, rfl, rfl⟩
  case round =>
   obtain ⟨rfl, rfl, rfl⟩ := hrel
   have hlt9 : w.heap.size < w2.heap.size := by have := (K2.out).size; simp at this; omega
   obtain ⟨⟨y0, y1, y2, y3, y4⟩, q0, q1, q2, q3, q4⟩ := xbs (K2.out)
   obtain ⟨wE, hWE⟩ : ∃ W, st5 w2 w.heap.size (.int .i64 0) (.slice none 0 0) (.int .i64 0) (.int .i64 0) (.slice none 0 0) = W := ⟨_, rfl⟩
   obtain ⟨r0, r1, r2, r3, r4, kE⟩ := xam w2 w.heap.size y0 y1 y2 y3 y4 (.int .i64 0) (.slice none 0 0) (.int .i64 0) (.int .i64 0) (.slice none 0 0)
   rw [hWE] at r0 r1 r2 r3 r4 kE
   unfold st5 at hWE
   have z0 := xad r0 (.cells #[.int .i64 0, .slice none 0 0, .int .i64 0, .int .i64 0, .slice none 0 0] 154)
   have z1 := xad r1 (.cells #[.int .i64 0, .slice none 0 0, .int .i64 0, .int .i64 0, .slice none 0 0] 154)
   have z2 := xad r2 (.cells #[.int .i64 0, .slice none 0 0, .int .i64 0, .int .i64 0, .slice none 0 0] 154)
   have z3 := xad r3 (.cells #[.int .i64 0, .slice none 0 0, .int .i64 0, .int .i64 0, .slice none 0 0] 154)
   have z4 := xad r4 (.cells #[.int .i64 0, .slice none 0 0, .int .i64 0, .int .i64 0, .slice none 0 0] 154)
   have HKE := xoo kE
   have HWE := xoo hWE
   clear kE hWE
   go_wp2_with fail
   rw [HWE.out]
   clear y0 y1 y2 y3 y4
   refine bodyPost_ret (by simp [results, Tryz.results77, go_sem, z0, z1, z2, z3, z4]; try rfl) rfl ?_
   exact xgE (n := 15) K2.out (HKE.out.alloc _)
 | some rs =>
  obtain ⟨hrl, hrr⟩ := xew hpt
  obtain ⟨R, hR⟩ : ∃ R, toks rs = R := ⟨_, rfl⟩
  have HPP : Hid (xaZ l = parD R) := xoo (by rw [show xaZ l = xcS rs by unfold xaZ; rw [if_neg hlen, hpt], parD_eq hrr, hR])
  have HR := xoo hR
  have HRR := xoo hrr
  rw [hpt] at HPt
  clear hpt hR hrr
  simp only at HPt
  go_enter Tryz.func77, Tryz.ntmps77
  go_wp2_with fail
  refine (HPt.out _).mono ?_
  rintro e w1 ⟨⟨rv, rfl, hown⟩, k1⟩
  have hs1 := k1.size
  simp at hs1
  have hst : PrA w1 w1 rv rs (.slice none 0 0) [] [] := by
   refine ⟨⟨SlOf.ofOwn (by rw [← xhi] at hown; exact hown) (by omega), HRR.out⟩, fun b hb => xaM hown b hb, World.ownsRow_nil _ _ _ _, rfl, fun i x t hx ht => by simp at hx, xa.refl _ _⟩
  obtain ⟨ra, rc, rfl⟩ := xac hown
  have HST := xoo hst
  have K1 := xoo k1
  clear hown hst k1
  go_wp2_with fail
  go_loopw [4, 6] (fun rsv lv wr => PrR R w1 rsv lv wr) (fun rsv _ _ => xb2 rsv)
  case atStart => exact ⟨rs, [], [], HST.out, by simp; omega, by rw [HR.out]; cases R <;> simp⟩
  case round =>
   obtain ⟨rest, ts, tvs, hA, hll, hg⟩ := hrel
   have HA := xoo hA
   have HR2 := xoo hg
   have hsz := hA.keep.size
   obtain ⟨la, lc, rfl⟩ := xac hA.own
   obtain ⟨a, cap, rfl, hcap, hc⟩ := hA.rs.cells
   clear hA hg
   cases rest with
   | nil =>
    have E : Hid (R = some ts) := xoo (by rw [← HR2.out, xbn]; simp)
    have hok : ∀ t ∈ ts, t.ok := fun t ht => by
     have e := HR.out
     rw [E.out] at e
     exact xfR e t ht
    have HTr : Hid (∀ (W : World) (K : xa (fun _ => False) wr W), Calls Tryz.prog 108 #[.slice la ts.length lc, .int .i64 0] W fun e w' => xkr W (fun b => w1.heap.size ≤ b ∧ b < wr.heap.size) (xe6 ts) e w') := xoo (fun W K =>
     xkA (ts.length + 1) 0 _ _ tvs ts W (by omega) (by omega) ((HA.out.ks (by omega)).keep K) (fun b hb => by have := K.size; omega) (by omega) (by omega) hok)
    clear hc HR2 hok
    simp only [List.length_nil] at *
    cases hft : xe6 ts with
    | none =>
     have E2 : Hid (xaZ l = (xa3, 15)) := xoo (by rw [HPP.out, E.out, show parD (some ts) = parT (xe6 ts) from rfl, hft]; rfl)
     rw [hft] at HTr
     clear hft HPP
     go_wp2_with fail
     refine (HTr.out _ ((xa.refl _ _).alloc _)).mono ?_
     rintro e w5 ⟨rfl, k5⟩
     have K5 := xoo ((K1.out.trans HA.out.keep).trans (xa.trans ((xa.refl _ _).alloc _) k5))
     have hC := k5.heap (heap_alloc_new wr _) id
     have hB := K5.out.heap (heap_alloc_new w _) id
     have hsz5 := k5.size
     simp at hsz5
     have hne : ¬ w.heap.size = wr.heap.size := by omega
     have HB := xoo hB
     clear hB
     unfold NV.val
     go_wp2_with (refine xbi rfl 154 (.tmp 9) (.tmp 45) rfl rfl wr.heap.size #[.int .i64 0, .slice none 0 0, .int .i64 0, .int .i64 0, .slice none 0 0] rfl rfl 154 _ hC xde rfl (by simp [Value.oneCell']) ?_)
     intro w6 h6 k6
     obtain ⟨f0, f1, f2, f3, f4⟩ := five h6
     have hB6 := k6.heap HB.out hne
     go_wp2_with (refine xbi rfl 154 (.tmp 2) (.tmp 49) rfl rfl w.heap.size #[.int .i64 0, .slice none 0 0, .int .i64 0, .int .i64 0, .slice none 0 0] rfl rfl 154 _ hB6 xde rfl (by simp [Value.oneCell']) ?_)
     intro w7 h7 k7
     obtain ⟨r0, r1, r2, r3, r4⟩ := five h7
     go_wp2_with fail
     have HKE := xoo ((k6.mono (T := fun b => b = w.heap.size ∨ b = wr.heap.size) (fun _ _ e => Or.inr e)).trans (k7.mono (fun _ _ e => Or.inl e)))
     clear h6 k6 h7 k7 f0 f1 f2 f3 f4
     refine bodyPost_ret (by simp [results, Tryz.results77, go_sem, r0, r1, r2, r3, r4]; try rfl) rfl ?_
     rw [E2.out]
     exact ⟨⟨0, .slice none 0 0, 0, 0, .slice none 0 0⟩, rfl, TAt.zero _ _, (xa.trans (KI.out) K5.out).trans2 HKE.out (fun b hb e => by rcases e with e | e <;> omega)⟩
    | some t =>
     have E2 : Hid (xaZ l = (t, 0)) := xoo (by rw [HPP.out, E.out, show parD (some ts) = parT (xe6 ts) from rfl, hft]; rfl)
     rw [hft] at HTr
     clear hft HPP
     go_wp2_with fail
     refine (HTr.out _ ((xa.refl _ _).alloc _)).mono ?_
     rintro e w5 ⟨v, rfl, hv, k5⟩
     obtain ⟨o, a1, n1, c1, mm2, xx2, a2, n2, cc2, rfl⟩ := NV.form hv
     have HV := xoo hv
     have K5 := xoo ((K1.out.trans HA.out.keep).trans (xa.trans ((xa.refl _ _).alloc _) k5))
     clear hv
     have hC := k5.heap (heap_alloc_new wr _) id
     have hB := K5.out.heap (heap_alloc_new w _) id
     have hsz5 := k5.size
     simp at hsz5
     have hne : ¬ w.heap.size = wr.heap.size := by omega
     have HB := xoo hB
     clear hB
     unfold NV.val
     go_wp2_with (refine xbi rfl 154 (.tmp 9) (.tmp 45) rfl rfl wr.heap.size #[.int .i64 o, .slice a1 n1 c1, .int .i64 mm2, .int .i64 xx2, .slice a2 n2 cc2] rfl rfl 154 _ hC xde rfl (by simp [Value.oneCell']) ?_)
     intro w6 h6 k6
     obtain ⟨f0, f1, f2, f3, f4⟩ := five h6
     have hB6 := k6.heap HB.out hne
     go_wp2_with (refine xbi rfl 154 (.tmp 2) (.tmp 50) rfl rfl w.heap.size #[.int .i64 o, .slice a1 n1 c1, .int .i64 mm2, .int .i64 xx2, .slice a2 n2 cc2] rfl rfl 154 _ hB6 xde rfl (by simp [Value.oneCell']) ?_)
     intro w7 h7 k7
     obtain ⟨r0, r1, r2, r3, r4⟩ := five h7
     go_wp2_with fail
     have HKE := xoo ((k6.mono (T := fun b => b = w.heap.size ∨ b = wr.heap.size) (fun _ _ e => Or.inr e)).trans (k7.mono (fun _ _ e => Or.inl e)))
     clear h6 k6 h7 k7 f0 f1 f2 f3 f4
     refine bodyPost_ret (by simp [results, Tryz.results77, go_sem, r0, r1, r2, r3, r4]; try rfl) rfl ?_
     rw [E2.out]
     exact ⟨⟨o, .slice a1 n1 c1, mm2, xx2, .slice a2 n2 cc2⟩, rfl, HV.out.keepsTo HKE.out (fun b hb e => by
      rcases hb with ⟨h, h'⟩ | ⟨h, _⟩
      · rcases e with e | e <;> omega
      simp at h; rcases e with e | e <;> omega) (fun _ _ => trivial), (xa.trans (KI.out) K5.out).trans2 HKE.out (fun b hb e => by rcases e with e | e <;> omega)⟩
   | cons r rest =>
    obtain ⟨b, off, rfl, _⟩ := hc (by simp)
    simp only [List.length_cons] at hll hcap
    have HTk := xoo (fun W (K : xa (fun _ => False) wr W) => xjq xjB r rest _ W (HA.out.rs.keep K) (by omega))
    have hp0 : decide ((0 : Int) < (rest.length : Int) + 1) = true := by first | (simp; done) | (simp; omega)
    clear hc
    simp only [List.length_cons] at *
    cases htk : tokP (r :: rest) with
    | none =>
     have E : Hid (R = none) := xoo (by rw [← HR2.out, xbO htk]; rfl)
     have E2 : Hid (xaZ l = (xa3, 15)) := xoo (by rw [HPP.out, E.out]; rfl)
     clear HR2
     rw [htk] at HTk
     clear htk
     go_wp2_with fail
     refine (HTk.out _ (xa.refl _ _)).mono ?_
     rintro e w3 ⟨rfl, k3⟩
     have K3 := xoo (K1.out.trans (HA.out.keep.trans k3))
     clear k3
     unfold tokV
     have hlt9 : w.heap.size < w3.heap.size := by have := (K3.out).size; simp at this; omega
     obtain ⟨⟨y0, y1, y2, y3, y4⟩, q0, q1, q2, q3, q4⟩ := xbs (K3.out)
     obtain ⟨wE, hWE⟩ : ∃ W, st5 w3 w.heap.size (.int .i64 0) (.slice none 0 0) (.int .i64 0) (.int .i64 0) (.slice none 0 0) = W := ⟨_, rfl⟩
     obtain ⟨r0, r1, r2, r3, r4, kE⟩ := xam w3 w.heap.size y0 y1 y2 y3 y4 (.int .i64 0) (.slice none 0 0) (.int .i64 0) (.int .i64 0) (.slice none 0 0)
     rw [hWE] at r0 r1 r2 r3 r4 kE
     unfold st5 at hWE
     have z0 := xad r0 (.cells #[.int .i64 0, .int .i64 0, .slice none 0 0, .int .i64 0, .int .i64 0] 218)
     have z1 := xad r1 (.cells #[.int .i64 0, .int .i64 0, .slice none 0 0, .int .i64 0, .int .i64 0] 218)
     have z2 := xad r2 (.cells #[.int .i64 0, .int .i64 0, .slice none 0 0, .int .i64 0, .int .i64 0] 218)
     have z3 := xad r3 (.cells #[.int .i64 0, .int .i64 0, .slice none 0 0, .int .i64 0, .int .i64 0] 218)
     have z4 := xad r4 (.cells #[.int .i64 0, .int .i64 0, .slice none 0 0, .int .i64 0, .int .i64 0] 218)
     have HKE := xoo kE
     have HWE := xoo hWE
     clear kE hWE
     go_wp2_with fail
     rw [HWE.out]
     clear y0 y1 y2 y3 y4
     refine bodyPost_ret (by simp [results, Tryz.results77, go_sem, z0, z1, z2, z3, z4]; try rfl) rfl ?_
     rw [E2.out]
     exact xgE (n := 15) K3.out (HKE.out.alloc _)
    | some q =>
     obtain ⟨t, k⟩ := q
     obtain ⟨hk1, hk2, _, _⟩ := xb4 htk
     have HR3 : Hid ((toks ((r :: rest).drop k)).map ((ts ++ [t]) ++ ·) = R) := xoo (by rw [← HR2.out, xaX htk]; cases toks ((r :: rest).drop k) <;> simp)
     have gk : ((k : Int) == 0) = false := beq_eq_false_iff_ne.2 (by omega)
     rw [htk] at HTk
     simp only [List.length_cons] at hk2
     have hq1 : (k : Int) ≤ (rest.length : Int) + 1 := by omega
     have hq2 : (k : Int) ≤ (cap : Int) := by omega
     have hq3 : (0 : Int) ≤ (k : Int) := by omega
     clear htk HR2
     by_cases hck : cap = k
     · subst hck
       have hrl : rest.length + 1 = cap := by omega
       have hdr : (r :: rest).drop cap = [] := List.drop_eq_nil_of_le (by simp; omega)
       rw [hdr] at HR3
       have Hrl := xoo hrl
       clear hrl hdr
       go_wp2_with fail
       refine (HTk.out _ (xa.refl _ _)).mono ?_
       rintro e w3 ⟨v, rfl, hT, k3⟩
       obtain ⟨sa, sn, sc, hsv⟩ := hT.form
       obtain ⟨vk, vr, vs, vm, vx⟩ := v
       obtain rfl := hsv
       have HT3 := xoo hT
       have K3 := xoo k3
       have hs3 := k3.size
       clear hT k3
       unfold TV.val
       go_wp2_with (at_builtin; refine wpList_append_own_at _ rfl (.tmp 33) (.tmp 35) 216 rfl w1.heap.size 218 i0 _ 5 56 Tryz.underlying216 hi0 hz0 hz1 hz2 rfl (by decide) _ _ _ rfl (xab (xab (xae HA.out.own K3.out (fun _ _ => id)) _) _) ⟨w3.heap.size + 1, 0, none⟩ 1 1 [.int .i64 vk, .int .i64 vr, .slice sa sn sc, .int .i64 vm, .int .i64 vx] rfl rfl (by exact xbN _ _ [_, _, _, _, _] _) (by simp [Value.oneCell']) ?d3 ?d4 ?d5 ?_)
       case d3 => unfold maxLen; omega
       case d4 => omega
       case d5 => first | omega | (simp; omega)
       intro v' w9 hown' hgrow _ hloc
       have HN := xoo (PrA.push HA.out K3.out HT3.out (((xa.refl _ _).alloc _).alloc _) hown' hgrow hloc (by simp) (show ISl wr (.slice (some ⟨b, off, none⟩) 0 0) [] from ⟨⟨_, 0, rfl, ⟨Nat.le_refl _, (fun h => by cases h)⟩, by simp, fun h => by simp at h⟩, fun r hr => by cases hr⟩) (fun b hb => HA.out.rb b hb))
       clear hown' hgrow hloc
       go_wp2_with fail
       go_roundw
       case rel => exact ⟨_, _, _, HN.out, by simp; omega, HR3.out⟩
       case measure => first | (simp [xb2]; done) | (simp [xb2]; omega)
     skip
     go_wp2_with fail
     refine (HTk.out _ (xa.refl _ _)).mono ?_
     rintro e w3 ⟨v, rfl, hT, k3⟩
     obtain ⟨sa, sn, sc, hsv⟩ := hT.form
     obtain ⟨vk, vr, vs, vm, vx⟩ := v
     obtain rfl := hsv
     have HT3 := xoo hT
     have K3 := xoo k3
     have hs3 := k3.size
     clear hT k3
     unfold TV.val
     go_wp2_with (at_builtin; refine wpList_append_own_at _ rfl (.tmp 33) (.tmp 35) 216 rfl w1.heap.size 218 i0 _ 5 56 Tryz.underlying216 hi0 hz0 hz1 hz2 rfl (by decide) _ _ _ rfl (xab (xab (xae HA.out.own K3.out (fun _ _ => id)) _) _) ⟨w3.heap.size + 1, 0, none⟩ 1 1 [.int .i64 vk, .int .i64 vr, .slice sa sn sc, .int .i64 vm, .int .i64 vx] rfl rfl (by exact xbN _ _ [_, _, _, _, _] _) (by simp [Value.oneCell']) ?d3 ?d4 ?d5 ?_)
     case d3 => unfold maxLen; omega
     case d4 => omega
     case d5 => first | omega | (simp; omega)
     intro v' w9 hown' hgrow _ hloc
     have HN := xoo (PrA.push HA.out K3.out HT3.out (((xa.refl _ _).alloc _).alloc _) hown' hgrow hloc (by simp) (HA.out.rs.dropI k (by first | omega | (simp; omega)) hck) (fun b hb => HA.out.rb b hb))
     clear hown' hgrow hloc
     go_wp2_with fail
     go_roundw
     case rel => exact ⟨_, _, _, HN.out, by simp; omega, HR3.out⟩
     case measure => first | (simp [xb2]; done) | (simp [xb2]; omega)
theorem xmq : ∀ q : List Nat, xar (xau (q.map xar)) = xar (xau q)
 | [] => rfl
 | n :: q => by
  have := xmq q
  simp only [List.map_cons, xau]
  unfold xar at *
  omega
theorem xnL (t : T) (q : List Nat) (hW : WGn t) (hq : q.length = t.kids.toL.length) : xgF t (xau (q.map xar)) = xar (lenOf t (xau q)) := by
 have hs := xmq q
 obtain ⟨_, hops⟩ := hW
 unfold xgF lenOf
 rcases hops with h | h | h | h | h | ⟨h, h5⟩ | ⟨h, ⟨k, hk⟩, h6, h7, h8⟩
 · rw [if_pos h, if_pos h]; rfl
 · rw [if_neg (show ¬ t.op = 0 by omega), if_neg (show ¬ t.op = 4 by omega), if_neg (show ¬ t.op = 5 by omega), if_neg (show ¬ t.op = 6 by omega), if_neg (show ¬ t.op = 0 by omega), if_neg (show ¬ t.op = 4 by omega), if_neg (show ¬ t.op = 5 by omega), if_neg (show ¬ t.op = 6 by omega)]; rfl
 · rw [if_neg (show ¬ t.op = 0 by omega), if_neg (show ¬ t.op = 4 by omega), if_neg (show ¬ t.op = 5 by omega), if_neg (show ¬ t.op = 6 by omega), if_neg (show ¬ t.op = 0 by omega), if_neg (show ¬ t.op = 4 by omega), if_neg (show ¬ t.op = 5 by omega), if_neg (show ¬ t.op = 6 by omega)]; rfl
 · rw [if_neg (show ¬ t.op = 0 by omega), if_neg (show ¬ t.op = 4 by omega), if_neg (show ¬ t.op = 5 by omega), if_neg (show ¬ t.op = 6 by omega), if_neg (show ¬ t.op = 0 by omega), if_neg (show ¬ t.op = 4 by omega), if_neg (show ¬ t.op = 5 by omega), if_neg (show ¬ t.op = 6 by omega)]; rfl
 · rw [if_neg (show ¬ t.op = 0 by omega), if_pos h, if_neg (show ¬ t.op = 0 by omega), if_pos h]; exact hs
 · rw [if_neg (show ¬ t.op = 0 by omega), if_neg (show ¬ t.op = 4 by omega), if_pos h, if_neg (show ¬ t.op = 0 by omega), if_neg (show ¬ t.op = 4 by omega), if_pos h]
   unfold xar at *
   omega
 rw [if_neg (show ¬ t.op = 0 by omega), if_neg (show ¬ t.op = 4 by omega), if_neg (show ¬ t.op = 5 by omega), if_pos h, if_neg (show ¬ t.op = 0 by omega), if_neg (show ¬ t.op = 4 by omega), if_neg (show ¬ t.op = 5 by omega), if_pos h]
 obtain ⟨n, rfl⟩ : ∃ n, q = [n] := by
  rw [hk] at hq
  rcases q with _ | ⟨p, _ | ⟨p2, r⟩⟩
  · simp at hq
  · exact ⟨p, rfl⟩
  simp at hq
 have e1 : xau ([n].map xar) = xar n := by simp [xau]
 have e2 : xau [n] = n := by simp [xau]
 rw [e1, e2]
 by_cases hm : t.mx < 0
 · rw [if_pos hm, if_pos hm, xms _ n 2 (Nat.succ_pos _)]
   rw [Nat.succ_mul, Nat.add_assoc]; rfl
 rw [if_neg hm, if_neg hm, xj]; rfl
theorem xfC : ∀ (L : List T), (∀ (i : Nat) (k : T), L[i]? = some k → ∃ (p : Cd) (b : Nat), (xbU k p.1 p.2 ∧ LenG k p.2 ∧ xhr k (xar p.2)) ∧ (b ≤ 1099511627776 ∧ xhs k b)) →
 ∃ (q : List Cd) (r : List Nat), (q.length = L.length ∧ r.length = L.length) ∧ (∀ n ∈ r, n ≤ 1099511627776) ∧ (∀ (i : Nat) (k : T) (p : Cd), L[i]? = some k → q[i]? = some p → xbU k p.1 p.2 ∧ LenG k p.2 ∧ xhr k (xar p.2)) ∧ (∀ (i : Nat) (k : T) (n : Nat), L[i]? = some k → r[i]? = some n → xhs k n)
 | [], _ => ⟨[], [], ⟨rfl, rfl⟩, by simp, fun i k n h => by simp at h, fun i k n h => by simp at h⟩
 | t :: L, h => by
  obtain ⟨a, b, ha, hb, hb2⟩ := h 0 t rfl
  obtain ⟨q, r, ⟨h1, h2⟩, h4, h5, h6⟩ := xfC L (fun i k hk => h (i + 1) k (by simpa using hk))
  refine ⟨a :: q, b :: r, ⟨by simp [h1], by simp [h2]⟩, fun n hn => ?_, fun i k n hk hn => ?_, fun i k n hk hn => ?_⟩
  · rcases List.mem_cons.1 hn with rfl | hn
    · exact hb
    exact h4 n hn
  · rcases i with _ | i
    · obtain rfl : t = k := by simpa using hk
      obtain rfl : a = n := by simpa using hn
      exact ha
    exact h5 i k n (by simpa using hk) (by simpa using hn)
  rcases i with _ | i
  · obtain rfl : t = k := by simpa using hk
    obtain rfl : b = n := by simpa using hn
    exact hb2
  exact h6 i k n (by simpa using hk) (by simpa using hn)
theorem xlB {t : T} (hW : WG t) : ∃ (p : Cd) (b : Nat), (xbU t p.1 p.2 ∧ LenG t p.2 ∧ xhr t (xar p.2)) ∧ (b ≤ 1099511627776 ∧ xhs t b) := by
 induction hW with
 | @mk t h hk ih =>
  obtain ⟨q, r, ⟨h1, h2⟩, h4, h5, h6⟩ := xfC t.kids.toL ih
  have ha := len_any t (q.map (·.2)) h (by simpa using h1) (fun i k n a b => by
   obtain ⟨p, hp, rfl⟩ := xfz q i n b
   exact (h5 i k p a hp).2.1)
  have hr := xmS t ((q.map (·.2)).map xar) h (by simpa using h1) (fun n hn => by obtain ⟨x, _, rfl⟩ := List.mem_map.1 hn; exact xb0 x) (fun i k n a b => by
   rw [List.getElem?_map, Option.map_eq_some_iff] at b
   obtain ⟨x, b, rfl⟩ := b
   obtain ⟨p, hp, rfl⟩ := xfz q i x b
   exact (h5 i k p a hp).2.2)
  rw [xnL t (q.map (·.2)) h (by simpa using h1)] at hr
  obtain ⟨b, hb, hb2⟩ := xmX t r h h2 h4 h6
  obtain ⟨c, n, hN, rfl⟩ := xkz h q h1 (fun i k p h1 h2 => (h5 i k p h1 h2).1)
  exact ⟨(c, _), b, ⟨hN, ha, hr.2⟩, hb, hb2⟩
theorem xhn (l : List UInt8) (hm : l.length ≤ 9223372036854775807) : ∃ (c : Int) (t : T) (b : Nat), CoEr l c ∧ RCo l t c ∧ xhs t b ∧ b ≤ 1099511627776 := by
 obtain ⟨⟨t, c⟩, hp⟩ : ∃ p, xaZ l = p := ⟨_, rfl⟩
 have hW := xm6 l
 rw [hp] at hW
 have hR : RPar l (t, c) := fun W => by
  have := xjt l W hm
  rw [hp] at this
  exact this
 obtain ⟨⟨cd, n⟩, b, ⟨hN, hL, hRL⟩, hb, hb2⟩ := xlB hW
 replace hN : xbU t cd n := hN
 replace hL : LenG t n := hL
 replace hRL : xhr t (xar n) := hRL
 by_cases hc : c = 0
 · subst hc
   have hRC := xkX l t (xar n) hR (xb0 n) hRL
   by_cases hn : n < 2000
   · obtain ⟨r, hr, hr2⟩ := pre_all hW
     rw [if_neg (by unfold xar; omega)] at hRC
     refine ⟨0, t, b, fun W => ?_, hRC, hb2, hb⟩
     refine (xhb l t n (cd 0) r hp (hL.exact hn) hn (hN.empty (by omega)) (by have := hN.len 0; omega) hr W hm).mono ?_
     rintro e w' ⟨eb, pv, rfl, _, k⟩
     exact ⟨_, rfl, k⟩
   rw [if_pos (by unfold xar; omega)] at hRC
   exact ⟨16, t, b, fun W => (xha l t n hp hL (by omega) W hm).mono fun e w' h => ⟨none, h.1, h.2⟩, hRC, hb2, hb⟩
 exact ⟨c, t, b, fun W => (xge l t c hp hc W hm).mono fun e w' h => ⟨none, h.1, h.2⟩, xkY l t c hR hc, hb2, hb⟩
def xb7 (j : JV) : Bool := decide (j.dn ≤ 200) && decide (j.pt.length ≤ 40) && decide (j.sn ≤ 10) && (decide (j.ch ≤ 200) || decide (4096 < j.ch))
theorem xlA (j : JV) (w : World) (hp : j.pt.length ≤ 9223372036854775807) : Calls Tryz.prog 40 #[jV j] w fun e w' => e = .returned (.bool (xb7 j)) ∧ xa (fun _ => False) w w' := by
 obtain ⟨q, hq⟩ : ∃ q, xb7 j = q := ⟨_, rfl⟩
 rw [hq]
 have HQ := xoo hq
 clear hq
 by_cases h0 : j.dn ≤ 200
 rotate_left
 · obtain rfl : false = q := by rw [← HQ.out]; unfold xb7; simp [h0]
   have g0 : decide ((j.dn : Int) ≤ 200) = false := by simp; omega
   clear HQ
   unfold jV jCs
   go_enter Tryz.func40, Tryz.ntmps40
   go_wp2_with fail
   go_ret
   exact ⟨rfl, KI.out⟩
 have g0 : decide ((j.dn : Int) ≤ 200) = true := by simp; omega
 by_cases h1 : j.pt.length ≤ 40
 rotate_left
 · obtain rfl : false = q := by rw [← HQ.out]; unfold xb7; simp [h0, h1]
   have g1 : decide ((j.pt.length : Int) ≤ 40) = false := by simp; omega
   clear HQ
   unfold jV jCs
   go_enter Tryz.func40, Tryz.ntmps40
   go_wp2_with fail
   go_ret
   exact ⟨rfl, KI.out⟩
 have g1 : decide ((j.pt.length : Int) ≤ 40) = true := by simp; omega
 by_cases h2 : j.sn ≤ 10
 rotate_left
 · obtain rfl : false = q := by rw [← HQ.out]; unfold xb7; simp [h0, h1, h2]
   have g2 : decide ((j.sn : Int) ≤ 10) = false := by simp; omega
   clear HQ
   unfold jV jCs
   go_enter Tryz.func40, Tryz.ntmps40
   go_wp2_with fail
   go_ret
   exact ⟨rfl, KI.out⟩
 have g2 : decide ((j.sn : Int) ≤ 10) = true := by simp; omega
 by_cases h3 : j.ch ≤ 200
 · obtain rfl : true = q := by rw [← HQ.out]; unfold xb7; simp [h0, h1, h2, h3]
   have g3 : decide (j.ch ≤ 200) = true := by simp; omega
   clear HQ
   unfold jV jCs
   go_enter Tryz.func40, Tryz.ntmps40
   go_wp2_with fail
   go_ret
   exact ⟨rfl, KI.out⟩
 have g3 : decide (j.ch ≤ 200) = false := by simp; omega
 by_cases h4 : 4096 < j.ch
 · obtain rfl : true = q := by rw [← HQ.out]; unfold xb7; simp [h0, h1, h2, h4]
   have g4 : decide (4096 < j.ch) = true := by simp; omega
   clear HQ
   unfold jV jCs
   go_enter Tryz.func40, Tryz.ntmps40
   go_wp2_with fail
   go_ret
   exact ⟨rfl, KI.out⟩
 obtain rfl : false = q := by rw [← HQ.out]; unfold xb7; simp [h0, h1, h2, h3, h4]
 have g4 : decide (4096 < j.ch) = false := by simp; omega
 clear HQ
 unfold jV jCs
 go_enter Tryz.func40, Tryz.ntmps40
 go_wp2_with fail
 go_ret
 exact ⟨rfl, KI.out⟩
def xaF (j : JV) : Bool := !decide (j.cd < 0) && !decide (3 < j.cd) && !decide (j.mo < 1) && !decide (4096 < j.mo) && !decide (j.te < 0) && !decide (3 < j.te) && !decide (j.be < 0) && !decide (16 < j.be) && !decide (j.af < 0) && !decide (16 < j.af) && !decide (j.bu < 1) && !decide (64 < j.bu) && !decide (j.ch < 1) && !decide (4096 < j.ch) && !decide (j.ro < 0) && !decide (64 < j.ro) && !decide (j.wo < 1) && !decide (16 < j.wo) && !decide (j.rg < 1) && !decide (64 < j.rg)
theorem xer {j : JV} (h : xaF j = true) (h1 : j.dn ≤ 65536) (h2 : j.sn ≤ 64) : JOk j := by
 unfold xaF at h
 simp only [Bool.and_eq_true, Bool.not_eq_true', decide_eq_false_iff_not] at h
 constructor <;> omega
theorem xjs (j : JV) (t : T) (c : Int) (hC : RCo j.pt t c) (h1 : j.dn ≤ 200) (h2 : j.sn ≤ 10) (w : World) :
 Calls Tryz.prog 21 #[jV j] w fun e w' => e = .returned (.bool (xaF j && (c == 0))) ∧ xa (fun _ => False) w w' := by
 have HC := xoo hC
 unfold RCo RCoE at HC
 have d1 : decide (65536 < (j.dn : Int)) = false := by simp; omega
 have d2 : decide (64 < (j.sn : Int)) = false := by simp; omega
 obtain ⟨q, hq⟩ : ∃ q, (xaF j && (c == 0)) = q := ⟨_, rfl⟩
 rw [hq]
 have HQ := xoo hq
 clear hq hC
 by_cases h0' : j.cd < 0
 · obtain rfl : false = q := by rw [← HQ.out]; unfold xaF; simp [h0']
   have g0 : decide (j.cd < 0) = true := by simpa using h0'
   clear HQ HC
   unfold jV jCs
   go_enter Tryz.func21, Tryz.ntmps21
   go_wp2_with fail
   go_ret
   exact ⟨rfl, KI.out⟩
 have g0 : decide (j.cd < 0) = false := by simpa using h0'
 by_cases h1' : 3 < j.cd
 · obtain rfl : false = q := by rw [← HQ.out]; unfold xaF; simp [h1']
   have g1 : decide (3 < j.cd) = true := by simpa using h1'
   clear HQ HC
   unfold jV jCs
   go_enter Tryz.func21, Tryz.ntmps21
   go_wp2_with fail
   go_ret
   exact ⟨rfl, KI.out⟩
 have g1 : decide (3 < j.cd) = false := by simpa using h1'
 by_cases h2' : j.mo < 1
 · obtain rfl : false = q := by rw [← HQ.out]; unfold xaF; simp [h2']
   have g2 : decide (j.mo < 1) = true := by simpa using h2'
   clear HQ HC
   unfold jV jCs
   go_enter Tryz.func21, Tryz.ntmps21
   go_wp2_with fail
   go_ret
   exact ⟨rfl, KI.out⟩
 have g2 : decide (j.mo < 1) = false := by simpa using h2'
 by_cases h3' : 4096 < j.mo
 · obtain rfl : false = q := by rw [← HQ.out]; unfold xaF; simp [h3']
   have g3 : decide (4096 < j.mo) = true := by simpa using h3'
   clear HQ HC
   unfold jV jCs
   go_enter Tryz.func21, Tryz.ntmps21
   go_wp2_with fail
   go_ret
   exact ⟨rfl, KI.out⟩
 have g3 : decide (4096 < j.mo) = false := by simpa using h3'
 by_cases h4' : j.te < 0
 · obtain rfl : false = q := by rw [← HQ.out]; unfold xaF; simp [h4']
   have g4 : decide (j.te < 0) = true := by simpa using h4'
   clear HQ HC
   unfold jV jCs
   go_enter Tryz.func21, Tryz.ntmps21
   go_wp2_with fail
   go_ret
   exact ⟨rfl, KI.out⟩
 have g4 : decide (j.te < 0) = false := by simpa using h4'
 by_cases h5' : 3 < j.te
 · obtain rfl : false = q := by rw [← HQ.out]; unfold xaF; simp [h5']
   have g5 : decide (3 < j.te) = true := by simpa using h5'
   clear HQ HC
   unfold jV jCs
   go_enter Tryz.func21, Tryz.ntmps21
   go_wp2_with fail
   go_ret
   exact ⟨rfl, KI.out⟩
 have g5 : decide (3 < j.te) = false := by simpa using h5'
 by_cases h6' : j.be < 0
 · obtain rfl : false = q := by rw [← HQ.out]; unfold xaF; simp [h6']
   have g6 : decide (j.be < 0) = true := by simpa using h6'
   clear HQ HC
   unfold jV jCs
   go_enter Tryz.func21, Tryz.ntmps21
   go_wp2_with fail
   go_ret
   exact ⟨rfl, KI.out⟩
 have g6 : decide (j.be < 0) = false := by simpa using h6'
 by_cases h7' : 16 < j.be
 · obtain rfl : false = q := by rw [← HQ.out]; unfold xaF; simp [h7']
   have g7 : decide (16 < j.be) = true := by simpa using h7'
   clear HQ HC
   unfold jV jCs
   go_enter Tryz.func21, Tryz.ntmps21
   go_wp2_with fail
   go_ret
   exact ⟨rfl, KI.out⟩
 have g7 : decide (16 < j.be) = false := by simpa using h7'
 by_cases h8' : j.af < 0
 · obtain rfl : false = q := by rw [← HQ.out]; unfold xaF; simp [h8']
   have g8 : decide (j.af < 0) = true := by simpa using h8'
   clear HQ HC
   unfold jV jCs
   go_enter Tryz.func21, Tryz.ntmps21
   go_wp2_with fail
   go_ret
   exact ⟨rfl, KI.out⟩
 have g8 : decide (j.af < 0) = false := by simpa using h8'
 by_cases h9' : 16 < j.af
 · obtain rfl : false = q := by rw [← HQ.out]; unfold xaF; simp [h9']
   have g9 : decide (16 < j.af) = true := by simpa using h9'
   clear HQ HC
   unfold jV jCs
   go_enter Tryz.func21, Tryz.ntmps21
   go_wp2_with fail
   go_ret
   exact ⟨rfl, KI.out⟩
 have g9 : decide (16 < j.af) = false := by simpa using h9'
 by_cases h10' : j.bu < 1
 · obtain rfl : false = q := by rw [← HQ.out]; unfold xaF; simp [h10']
   have g10 : decide (j.bu < 1) = true := by simpa using h10'
   clear HQ HC
   unfold jV jCs
   go_enter Tryz.func21, Tryz.ntmps21
   go_wp2_with fail
   go_ret
   exact ⟨rfl, KI.out⟩
 have g10 : decide (j.bu < 1) = false := by simpa using h10'
 by_cases h11' : 64 < j.bu
 · obtain rfl : false = q := by rw [← HQ.out]; unfold xaF; simp [h11']
   have g11 : decide (64 < j.bu) = true := by simpa using h11'
   clear HQ HC
   unfold jV jCs
   go_enter Tryz.func21, Tryz.ntmps21
   go_wp2_with fail
   go_ret
   exact ⟨rfl, KI.out⟩
 have g11 : decide (64 < j.bu) = false := by simpa using h11'
 by_cases h12' : j.ch < 1
 · obtain rfl : false = q := by rw [← HQ.out]; unfold xaF; simp [h12']
   have g12 : decide (j.ch < 1) = true := by simpa using h12'
   clear HQ HC
   unfold jV jCs
   go_enter Tryz.func21, Tryz.ntmps21
   go_wp2_with fail
   go_ret
   exact ⟨rfl, KI.out⟩
 have g12 : decide (j.ch < 1) = false := by simpa using h12'
 by_cases h13' : 4096 < j.ch
 · obtain rfl : false = q := by rw [← HQ.out]; unfold xaF; simp [h13']
   have g13 : decide (4096 < j.ch) = true := by simpa using h13'
   clear HQ HC
   unfold jV jCs
   go_enter Tryz.func21, Tryz.ntmps21
   go_wp2_with fail
   go_ret
   exact ⟨rfl, KI.out⟩
 have g13 : decide (4096 < j.ch) = false := by simpa using h13'
 by_cases h14' : j.ro < 0
 · obtain rfl : false = q := by rw [← HQ.out]; unfold xaF; simp [h14']
   have g14 : decide (j.ro < 0) = true := by simpa using h14'
   clear HQ HC
   unfold jV jCs
   go_enter Tryz.func21, Tryz.ntmps21
   go_wp2_with fail
   go_ret
   exact ⟨rfl, KI.out⟩
 have g14 : decide (j.ro < 0) = false := by simpa using h14'
 by_cases h15' : 64 < j.ro
 · obtain rfl : false = q := by rw [← HQ.out]; unfold xaF; simp [h15']
   have g15 : decide (64 < j.ro) = true := by simpa using h15'
   clear HQ HC
   unfold jV jCs
   go_enter Tryz.func21, Tryz.ntmps21
   go_wp2_with fail
   go_ret
   exact ⟨rfl, KI.out⟩
 have g15 : decide (64 < j.ro) = false := by simpa using h15'
 by_cases h16' : j.wo < 1
 · obtain rfl : false = q := by rw [← HQ.out]; unfold xaF; simp [h16']
   have g16 : decide (j.wo < 1) = true := by simpa using h16'
   clear HQ HC
   unfold jV jCs
   go_enter Tryz.func21, Tryz.ntmps21
   go_wp2_with fail
   go_ret
   exact ⟨rfl, KI.out⟩
 have g16 : decide (j.wo < 1) = false := by simpa using h16'
 by_cases h17' : 16 < j.wo
 · obtain rfl : false = q := by rw [← HQ.out]; unfold xaF; simp [h17']
   have g17 : decide (16 < j.wo) = true := by simpa using h17'
   clear HQ HC
   unfold jV jCs
   go_enter Tryz.func21, Tryz.ntmps21
   go_wp2_with fail
   go_ret
   exact ⟨rfl, KI.out⟩
 have g17 : decide (16 < j.wo) = false := by simpa using h17'
 by_cases h18' : j.rg < 1
 · obtain rfl : false = q := by rw [← HQ.out]; unfold xaF; simp [h18']
   have g18 : decide (j.rg < 1) = true := by simpa using h18'
   clear HQ HC
   unfold jV jCs
   go_enter Tryz.func21, Tryz.ntmps21
   go_wp2_with fail
   go_ret
   exact ⟨rfl, KI.out⟩
 have g18 : decide (j.rg < 1) = false := by simpa using h18'
 by_cases h19' : 64 < j.rg
 · obtain rfl : false = q := by rw [← HQ.out]; unfold xaF; simp [h19']
   have g19 : decide (64 < j.rg) = true := by simpa using h19'
   clear HQ HC
   unfold jV jCs
   go_enter Tryz.func21, Tryz.ntmps21
   go_wp2_with fail
   go_ret
   exact ⟨rfl, KI.out⟩
 have g19 : decide (64 < j.rg) = false := by simpa using h19'
 obtain rfl : (c == 0) = q := by rw [← HQ.out]; unfold xaF; simp only [g0, g1, g2, g3, g4, g5, g6, g7, g8, g9, g10, g11, g12, g13, g14, g15, g16, g17, g18, g19, Bool.not_false, Bool.true_and, Bool.and_true]
 clear HQ
 have hjb := xcT w j
 obtain ⟨w1, hw⟩ : ∃ W, w.alloc (.cells (jCs j) 28) = W := ⟨_, rfl⟩
 have hk1 : xa (fun _ => False) w w1 := by rw [← hw]; exact (xa.refl _ _).alloc _
 have hw2 := hw
 unfold jCs at hw2
 have HW2 := xoo hw2
 have HK1 := xoo hk1
 clear hjb hw2 hw hk1
 unfold jV jCs
 go_enter Tryz.func21, Tryz.ntmps21
 go_wp2_with fail
 rw [HW2.out]
 clear HW2
 refine (HC.out _).mono ?_
 rintro e w2 ⟨p, rfl, k2, _⟩
 have HK2 := xoo (HK1.out.trans k2)
 clear k2
 go_wp2_with fail
 go_ret
 exact ⟨rfl, HK2.out⟩
theorem xkF (j : JV) (t : T) (c : Int) (b : Nat) (hC : RCo j.pt t c) (hb : xhs t b) (hb2 : b ≤ 1099511627776) (w : World) :
 Calls Tryz.prog 41 #[jV j] w fun e w' => e = .returned (.bool (c != 0 || decide ((b : Int) ≤ 120))) ∧ xa (fun _ => False) w w' := by
 have HC := xoo hC
 unfold RCo at HC
 have HB := xoo hb
 unfold xhs at HB
 have hk1 : xa (fun _ => False) w (w.alloc (.cells (jCs j) 28)) := (xa.refl _ _).alloc _
 have HK1 := xoo hk1
 unfold jCs at HK1
 clear hk1 hC hb
 by_cases hc : c = 0
 · subst hc
   unfold jV jCs
   go_enter Tryz.func41, Tryz.ntmps41
   go_wp2_with fail
   refine (HC.out _).mono ?_
   rintro e w2 ⟨p, rfl, k2, h0⟩
   obtain ⟨eb, o, a1, n1, c1, m, x, a2, n2, cc2, rfl, hh, ht⟩ := h0 rfl
   have b0 : w2.cell? ⟨eb, 0, none⟩ = some (.int .i64 o) := by rw [Lib.cell_of_heap hh]; rfl
   have b1 : w2.cell? ⟨eb, 1, none⟩ = some (.slice a1 n1 c1) := by rw [Lib.cell_of_heap hh]; rfl
   have b2 : w2.cell? ⟨eb, 2, none⟩ = some (.int .i64 m) := by rw [Lib.cell_of_heap hh]; rfl
   have b3 : w2.cell? ⟨eb, 3, none⟩ = some (.int .i64 x) := by rw [Lib.cell_of_heap hh]; rfl
   have b4 : w2.cell? ⟨eb, 4, none⟩ = some (.slice a2 n2 cc2) := by rw [Lib.cell_of_heap hh]; rfl
   have HS := xoo (HB.out _ _ _ ht)
   unfold NV.val at HS
   have HK2 := xoo (HK1.out.trans k2)
   clear h0 hh ht k2 HB HC
   go_wp2_with fail
   refine HS.out.mono ?_
   rintro e w3 ⟨rfl, k3⟩
   have HK3 := xoo (HK2.out.trans k3)
   clear k3
   go_wp2_with fail
   go_ret
   exact ⟨by simp, HK3.out⟩
 have g0 : (c != 0) = true := by simp [hc]
 unfold jV jCs
 go_enter Tryz.func41, Tryz.ntmps41
 go_wp2_with fail
 refine (HC.out _).mono ?_
 rintro e w2 ⟨p, rfl, k2, h0⟩
 have HK2 := xoo (HK1.out.trans k2)
 clear h0 k2 HC
 go_wp2_with fail
 go_ret
 exact ⟨by simp [g0], HK2.out⟩
end Go.Proofs.YtbifklibdkjbeaaGreatDoor
