/-
  Several texts in one: The document's token: it comes back with some token. The document's Parse: it comes back with some tree (printed by mk_sparse.py). The reference's Length and Copies at every tree: they come back (printed by mk_slen.py). The reference's Compile: it comes back with some tree.
-/
import Derived.Test.YtjahiihmoglpfaaGreatDoorRsClsG
import Derived.Test.YtjahiihmoglpfaaGreatDoorMg12
import Derived.Deep.RegionHeld3
import Derived.Test.YtjahiihmoglpfaaGreatDoorRsTreeG
import Derived.Test.YtjahiihmoglpfaaGreatDoorMg9
namespace Go.Proofs.YtjahiihmoglpfaaGreatDoor
open Go.RowKit
set_option linter.unusedVariables false
set_option linter.unusedSimpArgs false
set_option maxRecDepth 100000
theorem xcx : (Tryz.prog.info? 116).map (·.size) = some 5 := by kernel_rfl
def TokW (n : Nat) (w : World) (e : Ending) (w' : World) : Prop := ∃ (v : TV) (k : Nat), e = .returned (.tuple #[v.val, .int .i64 k]) ∧ k ≤ n ∧ KAt w' (Bt w w') v ∧ xaa (fun _ => False) w w'
theorem xdr {w wX wE : World} {v : TV} {k n : Nat} {o : Obj} (K : xaa (fun _ => False) (w.alloc o) wX) (hT : KAt wX (fun b => w.heap.size < b ∧ b < wX.heap.size) v) (kE : xaa (fun b => b = w.heap.size) wX wE) (hk : k ≤ n) : TokW n w (.returned (.tuple #[v.val, .int .i64 k])) wE := by
 have hs := K.size
 simp at hs
 have hs2 := kE.size
 exact ⟨v, k, rfl, hk, hT.keepsTo kE (fun b hb e => by omega) (fun b hb => ⟨by omega, by omega⟩), (xaa.trans ((xaa.refl _ _).alloc _) K).trans2 kE (fun b hb e => by omega)⟩
theorem xgY {w : World} {o : Obj} {k r m x : Int} {c n : Nat} (hk : k = 0 ∨ k = 1 ∨ k = 2) (h : in64 m ∧ in64 x) (hc : c ≤ n) : TokW n w (.returned (.tuple #[.agg #[.int .i64 k, .int .i64 r, .slice none 0 0, .int .i64 m, .int .i64 x], .int .i64 c])) (w.alloc o) :=
 ⟨⟨k, r, _, m, x⟩, c, rfl, hc, KAt.bare _ _ r hk h, (xaa.refl _ _).alloc _⟩
theorem SetW.tok {n : Nat} {is : Bool} {w wX : World} {o : Obj} {u : Value} (h : SetW n is (w.alloc o) wX u) (hn : n ≤ 100000) : KAt wX (fun b => w.heap.size < b ∧ b < wX.heap.size) ⟨0, 0, u, 0, 0⟩ := by
 obtain ⟨R, ⟨h1, _⟩, h2, ho, hk⟩ := h
 exact ⟨Or.inl rfl, ⟨R, SlOf.ofOwn ho (by omega), h2⟩, fun b hb => ⟨by have := xab ho b hb; simp at this; omega, xax ho b hb⟩, by simp [in64], by simp [in64]⟩
theorem xjC {w wE : World} {o o2 : Obj} {k n : Nat} (R : List (Int × Int)) (h0 : 0 < R.length) (hR : R.length ≤ 26) (h64 : ∀ p ∈ R, in64 p.1 ∧ in64 p.2) (hk : k = R.length) (ho : o2 = .cells (cellsOf 2 encR R).toArray 164) (kE : xaa (fun _ => False) ((w.alloc o).alloc o2) wE) (h1 : 1 ≤ n) :
 TokW n w (.returned (.tuple #[.agg #[.int .i64 0, .int .i64 0, .slice (some ⟨w.heap.size + 1, 0, none⟩) k k, .int .i64 0, .int .i64 0], .int .i64 ((1 : Nat) : Int)])) wE := by
 have h := SetW.row (is := false) (xaa.refl (fun _ => False) (w.alloc o)) R h0 hR (by omega) h64 hk ho
 rw [show (w.alloc o).heap.size = w.heap.size + 1 by simp] at h
 have hT := h.tok (by omega)
 have hs := kE.size
 simp at hs
 exact ⟨⟨0, 0, _, 0, 0⟩, 1, rfl, h1, hT.keepsTo kE (fun _ _ => id) (fun b hb => ⟨by omega, by simp at hb; omega⟩), xaa.trans (((xaa.refl _ _).alloc _).alloc _) kE⟩
set_option maxHeartbeats 16000000 in
theorem xiz (r : Int) (t : List Int) (v : Value) (w : World) (h : SI w v (r :: t)) (hl : t.length ≤ 200) (hr : ∀ x ∈ r :: t, in64 x) : Calls Tryz.prog 59 #[v] w (TokW (t.length + 1) w) := by
 obtain ⟨a, cap, rfl, hcap, hc⟩ := SI.cells h
 obtain ⟨b, off, rfl, hcc⟩ := hc (by simp)
 have c0 := hcc 0 r rfl
 simp only [List.length_cons, Nat.add_zero] at c0 hcap h ⊢
 have x0 := xaj c0 (.cells #[.int .i64 0, .int .i64 0, .slice none 0 0, .int .i64 0, .int .i64 0] 116)
 have hI4 : (1 : Int) ≤ (t.length : Int) + 1 := by omega
 have hI5 : (1 : Int) ≤ (cap : Int) := by omega
 have HB : Hid (∀ (W : World) (a' : Option Addr) (n' c' : Nat), xaa (fun _ => False) w W → (a' = some ⟨b, off + 1, none⟩ ∧ c' = cap - 1 ∨ c' = 0 ∧ ∃ b0 off0, a' = some ⟨b0, off0, none⟩) → n' = t.length → n' ≤ c' →
  Calls Tryz.prog 95 #[.slice a' n' c'] W (BrE t.length W) ∧ Calls Tryz.prog 96 #[.slice a' n' c'] W (ClsW t.length W)) := xmA (fun W a' n' c' K ha hn hnc => by
  subst hn
  have hS : SI W (.slice a' t.length c') t ∧ ∃ b0 off0, a' = some ⟨b0, off0, none⟩ := by
   rcases ha with ⟨rfl, rfl⟩ | ⟨rfl, b0, off0, rfl⟩
   · exact ⟨SI.dropS (h.keep K) 1 (by omega), _, _, rfl⟩
   obtain rfl : t = [] := List.length_eq_zero_iff.1 (by omega)
   exact ⟨⟨_, 0, rfl, ⟨Nat.le_refl _, fun h => by cases h⟩, by simp, fun h => by simp at h⟩, _, _, rfl⟩
  obtain ⟨hS, b0, off0, rfl⟩ := hS
  exact ⟨xh t _ W (by omega) hS, xiH t _ _ _ W hS hl (fun x hx => hr x (List.mem_cons_of_mem _ hx))⟩)
 have H1 : Hid (t = [] ∨ ∃ r2 t2, t = r2 :: t2 ∧ in64 r2 ∧ w.cell? ⟨b, off + 1, none⟩ = some (.int .i64 r2)) := xmA (by
  rcases t with _ | ⟨r2, t2⟩
  · exact Or.inl rfl
  exact Or.inr ⟨r2, t2, rfl, hr r2 (by simp), hcc 1 r2 rfl⟩)
 have HR := xmA (hr r (by simp))
 have hne : w.heap.size ≠ b := World.new_ne w ⟨b, off, none⟩ c0
 clear hc hcc h hr
 go_enter Tryz.func59, Tryz.ntmps59
 by_cases h1 : r = 124 ∨ r = 40 ∨ r = 41 ∨ r = 94 ∨ r = 36 ∨ r = 42 ∨ r = 43 ∨ r = 63 ∨ r = 46 ∨ r = 93 ∨ r = 125
 focus (
  clear H1 HB HR c0
  rcases h1 with rfl | rfl | rfl | rfl | rfl | rfl | rfl | rfl | rfl | rfl | rfl
  all_goals (
   go_wp2_with fail
   refine bodyPost_ret (by simp [results, Tryz.results59, go_sem]; try rfl) rfl ?_
   first
    | exact xgY (c := 1) (by simp) (by simp [in64]) (by omega)
    | exact xgY (c := 0) (by simp) (by simp [in64]) (by omega)
    | exact xjC [(0, 9), (11, 1114111)] (by simp) (by simp) (by simp [in64]) rfl rfl (xaa.refl _ _) (by omega)))
 by_cases h2 : r = 123
 focus (
  subst h2
  by_cases hcp : cap = 1
  focus (
   subst hcp
   obtain rfl : t = [] := List.length_eq_zero_iff.1 (by omega))
  all_goals (
   go_wp2_with fail
   refine (HB.out _ _ _ _ ((xaa.refl _ _).alloc _) (by first | exact Or.inl ⟨rfl, rfl⟩ | exact Or.inr ⟨rfl, _, _, rfl⟩) (by first | rfl | omega) (by first | omega | (simp; done) | (simp; omega))).1.mono ?_
   rintro e w3 ⟨k0, m, x, c, rfl, ⟨hc, hk0⟩, h64, K⟩
   have HK := xmA K
   have H64 := xmA h64
   have HK0 := xmA hk0
   have hB : (w3.alloc (.cells #[.int .i64 k0, .int .i64 0, .slice none 0 0, .int .i64 m, .int .i64 x] 116)).heap[w.heap.size]? = some (.cells #[.int .i64 0, .int .i64 0, .slice none 0 0, .int .i64 0, .int .i64 0] 116 (0, 0)) := (K.alloc _).heap (heap_alloc_new w _) id
   unfold tkV
   clear K h64 hk0 h1
   go_upto_region 16 with fail
   by_cases hc0 : c = 0
   focus subst hc0
   rotate_left
   focus have gk : ((c : Int) == 0) = false := beq_eq_false_iff_ne.2 (by omega)
   all_goals (
    go_wp2_with (first | (refine xap rfl 116 (.tmp 2) (.tmp 43) rfl rfl w.heap.size _ rfl rfl 116 _ hB xcx rfl (by simp [Value.oneCell']) ?_) | (refine xap rfl 116 (.tmp 2) (.tmp 44) rfl rfl w.heap.size _ rfl rfl 116 _ hB xcx rfl (by simp [Value.oneCell']) ?_))
    intro w6 h6 k6
    obtain ⟨r0, r1, r2, r3, r4⟩ := five h6
    go_wp2_with fail
    refine bodyPost_ret (by simp [results, Tryz.results59, go_sem, r0, r1, r2, r3, r4]; try rfl) rfl ?_
    first
     | exact xdr (v := ⟨0, 0, .slice none 0 0, 0, 0⟩) (k := 0) (HK.out.alloc _) (KAt.bare _ _ _ (by simp) (by simp [in64])) k6 (by omega)
     | exact xdr (v := ⟨k0, 0, .slice none 0 0, m, x⟩) (k := c + 1) (HK.out.alloc _) (KAt.bare _ _ _ HK0.out H64.out) k6 (by omega))))
 by_cases h3 : r = 91
 focus (
  subst h3
  by_cases hcp : cap = 1
  focus (
   subst hcp
   obtain rfl : t = [] := List.length_eq_zero_iff.1 (by omega))
  all_goals (
   go_wp2_with fail
   refine (HB.out _ _ _ _ ((xaa.refl _ _).alloc _) (by first | exact Or.inl ⟨rfl, rfl⟩ | exact Or.inr ⟨rfl, _, _, rfl⟩) (by first | rfl | omega) (by first | omega | (simp; done) | (simp; omega))).2.mono ?_
   rintro e w3 ⟨u, c, rfl, hc, hs⟩
   have HT := xmA (SetW.tok hs (by omega))
   obtain ⟨_, _, _, ho, K⟩ := hs
   obtain ⟨ua, uc, rfl⟩ := xad ho
   have HK := xmA K
   have hB := K.heap (heap_alloc_new w _) id
   clear K ho h1 h2
   go_upto_region 23 with fail
   by_cases hc0 : c = 0
   focus subst hc0
   rotate_left
   focus have gk : ((c : Int) == 0) = false := beq_eq_false_iff_ne.2 (by omega)
   all_goals first | (exfalso; simp at hc; omega) | (
    go_wp2_with (first | (refine xap rfl 116 (.tmp 2) (.tmp 63) rfl rfl w.heap.size _ rfl rfl 116 _ hB xcx rfl (by simp [Value.oneCell']) ?_) | (refine xap rfl 116 (.tmp 2) (.tmp 65) rfl rfl w.heap.size _ rfl rfl 116 _ hB xcx rfl (by simp [Value.oneCell']) ?_))
    intro w6 h6 k6
    obtain ⟨r0, r1, r2, r3, r4⟩ := five h6
    go_wp2_with fail
    refine bodyPost_ret (by simp [results, Tryz.results59, go_sem, r0, r1, r2, r3, r4]; try rfl) rfl ?_
    first
     | exact xdr (v := ⟨0, 0, .slice none 0 0, 0, 0⟩) (k := 0) HK.out (KAt.bare _ _ _ (by simp) (by simp [in64])) k6 (by omega)
     | exact xdr (v := ⟨0, 0, _, 0, 0⟩) (k := c + 1) HK.out HT.out k6 (by omega))))
 by_cases h4 : r = 92
 focus (
  subst h4
  rcases H1.out with rfl | ⟨r2, t2, rfl, hr2, hc2⟩
  focus (
   clear H1 HB HR c0 h1 h2 h3
   simp only [List.length_nil] at *
   go_wp2_with fail
   refine bodyPost_ret (by simp [results, Tryz.results59, go_sem]; try rfl) rfl ?_
   exact xgY (c := 0) (by simp) (by simp [in64]) (by omega))
  have z0 := xaj hc2 (.cells #[.int .i64 0, .int .i64 0, .slice none 0 0, .int .i64 0, .int .i64 0] 116)
  have HE := xmA (fun W => xdJ r2 W hr2)
  have hJ4 : decide ((t2.length : Int) + 1 + 1 < 2) = false := by simp; omega
  have hJ5 : (1 : Int) < (t2.length : Int) + 1 + 1 := by omega
  simp only [List.length_cons] at *
  clear H1 HB HR c0 h1 h2 h3 hr2 hc2
  go_wp2_with fail
  refine (HE.out _).mono ?_
  rintro e w3 ⟨u, is, ok, rfl, hs⟩
  have HT := xmA (SetW.tok hs (by omega))
  obtain ⟨_, _, _, ho, K⟩ := hs
  obtain ⟨ua, uc, rfl⟩ := xad ho
  have HK := xmA K
  have hB := K.heap (heap_alloc_new w _) id
  clear K ho
  go_upto_region 30 with fail
  cases ok
  all_goals (
   go_wp2_with (first | (refine xap rfl 116 (.tmp 2) (.tmp 84) rfl rfl w.heap.size _ rfl rfl 116 _ hB xcx rfl (by simp [Value.oneCell']) ?_) | (refine xap rfl 116 (.tmp 2) (.tmp 86) rfl rfl w.heap.size _ rfl rfl 116 _ hB xcx rfl (by simp [Value.oneCell']) ?_))
   intro w6 h6 k6
   obtain ⟨r0, r1, r2, r3, r4⟩ := five h6
   go_wp2_with fail
   refine bodyPost_ret (by simp [results, Tryz.results59, go_sem, r0, r1, r2, r3, r4]; try rfl) rfl ?_
   first
    | exact xdr (v := ⟨0, 0, .slice none 0 0, 0, 0⟩) (k := 0) HK.out (KAt.bare _ _ _ (by simp) (by simp [in64])) k6 (by omega)
    | exact xdr (v := ⟨0, 0, _, 0, 0⟩) (k := 2) HK.out HT.out k6 (by omega)))
 simp only [not_or] at h1
 obtain ⟨a1, a2, a3, a4, a5, a6, a7, a8, a9, a10, a11⟩ := h1
 have g0 : (r == 124) = false := beq_eq_false_iff_ne.2 a1
 have g1 : (r == 40) = false := beq_eq_false_iff_ne.2 a2
 have g2 : (r == 41) = false := beq_eq_false_iff_ne.2 a3
 have g3 : (r == 94) = false := beq_eq_false_iff_ne.2 a4
 have g4 : (r == 36) = false := beq_eq_false_iff_ne.2 a5
 have g5 : (r == 42) = false := beq_eq_false_iff_ne.2 a6
 have g6 : (r == 43) = false := beq_eq_false_iff_ne.2 a7
 have g7 : (r == 63) = false := beq_eq_false_iff_ne.2 a8
 have g8 : (r == 46) = false := beq_eq_false_iff_ne.2 a9
 have g9 : (r == 93) = false := beq_eq_false_iff_ne.2 a10
 have g10 : (r == 125) = false := beq_eq_false_iff_ne.2 a11
 have g11 : (r == 123) = false := beq_eq_false_iff_ne.2 h2
 have g12 : (r == 91) = false := beq_eq_false_iff_ne.2 h3
 have g13 : (r == 92) = false := beq_eq_false_iff_ne.2 h4
 clear H1 HB
 go_wp2_with fail
 go_region_held3 (fun w' => w'.cell? ⟨b, off, none⟩ = some (.int .i64 r)) (go_keep) (fail)
 all_goals go_wp2_with fail
 refine bodyPost_ret (by simp [results, Tryz.results59, go_sem]; try rfl) rfl ?_
 exact xjC [(r, r)] (by simp) (by simp) (fun p hp => by obtain rfl := List.mem_singleton.1 hp; exact ⟨HR.out, HR.out⟩) rfl rfl (xaa.drew (xaa.refl _ _)) (by omega)
theorem xlS : (Tryz.prog.info? 116).map (fun i => (i.zero, i.size, i.bytes)) = some (some (.agg #[.int .i64 0, .int .i64 0, .slice none 0 0, .int .i64 0, .int .i64 0]), 5, 56) := by kernel_rfl
def ParW (w : World) (e : Ending) (w' : World) : Prop := ∃ (v : NV) (t : T) (c : Int), e = .returned (.tuple #[v.val, .int .i64 c]) ∧ TAt w' (fun _ => True) v t ∧ xaa (fun _ => False) w w'
theorem xh2 {w wX wE : World} {c : Int} (K : xaa (fun _ => False) (w.alloc (.cells #[.int .i64 0, .slice none 0 0, .int .i64 0, .int .i64 0, .slice none 0 0] 52)) wX)
 (kE : xaa (fun b => b = w.heap.size) wX wE) : ParW w (.returned (.tuple #[NV.val ⟨0, .slice none 0 0, 0, 0, .slice none 0 0⟩, .int .i64 c])) wE :=
 ⟨_, _, _, rfl, TAt.zero _ _, (xaa.trans ((xaa.refl _ _).alloc _) K).trans2 kE (fun b hb e => by omega)⟩
structure PrA (w1 wr : World) (rsv : Value) (rest : List Int) (lv : Value) (tvs : List TV) : Prop where
 rs : SI wr rsv rest
 r64 : ∀ x ∈ rest, in64 x
 rb : ∀ b, rsv.ownBlock = some b → b < w1.heap.size
 own : wr.ownsRow w1.heap.size 116 5 lv tvs.length (cellsOf 5 encK tvs)
 tok : ∀ (i : Nat) (x : TV), tvs[i]? = some x → KAt wr (fun b => w1.heap.size ≤ b ∧ b < wr.heap.size ∧ lv.ownBlock ≠ some b) x
 keep : xaa (fun _ => False) w1 wr
theorem xkN (v : TV) : [Value.int .i64 v.k, .int .i64 v.r, v.sv, .int .i64 v.m, .int .i64 v.x] = cellsOf 5 encK [v] := by simp [cellsOf, xjb]
theorem PrA.push {w1 wr w3 wP w9 : World} {rsv rsv' lv lv' : Value} {rest rest' : List Int} {tvs : List TV} {v : TV} (h : PrA w1 wr rsv rest lv tvs) (K : xaa (fun _ => False) wr w3) (hT : KAt w3 (Bt wr w3) v) (K2 : xaa (fun _ => False) w3 wP)
 (hown : w9.ownsRow w1.heap.size 116 5 lv' (tvs.length + 1) (cellsOf 5 encK tvs ++ [Value.int .i64 v.k, .int .i64 v.r, v.sv, .int .i64 v.m, .int .i64 v.x]))
 (hg : wP.grownBy w9 lv.ownBlock) {H : Nat} (hloc : lv'.ownBlock = lv.ownBlock ∨ lv'.ownBlock = some H) (hH : wP.heap.size ≤ H)
 (hrs : SI wr rsv' rest') (h64 : ∀ x ∈ rest', in64 x) (hrb : ∀ b, rsv'.ownBlock = some b → b < w1.heap.size) : PrA w1 w9 rsv' rest' lv' (tvs ++ [v]) := by
 have k9 : xaa (fun b => lv.ownBlock = some b) wP w9 := (xaa.refl _ _).grown hg (fun b hb => Or.inl hb)
 have KP := K.trans K2
 have hs1 := K.size
 have hs2 := K2.size
 have hs9 := k9.size
 have hs0 := h.keep.size
 have olt := xax h.own
 have obs := xab h.own
 refine ⟨(hrs.keep KP).keeps k9 (fun b hb e => by have := hrb b hb; have := obs b e; omega), h64, hrb, ?_, fun i x hx => ?_, (h.keep.trans KP).trans2 k9 (fun b hb e => by have := obs b e; omega)⟩
 · rw [List.length_append, xai, ← xkN]; exact hown
 have e1 : ∀ b, w1.heap.size ≤ b → b < wP.heap.size → lv.ownBlock ≠ some b → (w1.heap.size ≤ b ∧ b < w9.heap.size ∧ lv'.ownBlock ≠ some b) := fun b h1 h2 h3 => ⟨h1, by omega, fun e => by
  rcases hloc with h4 | h4
  · exact h3 (h4 ▸ e)
  rw [h4] at e; have := Option.some.inj e; omega⟩
 by_cases hi : i < tvs.length
 · rw [List.getElem?_append_left hi] at hx
   exact ((h.tok i x hx).keepsTo (Q := fun b => w1.heap.size ≤ b ∧ b < wr.heap.size ∧ lv.ownBlock ≠ some b) KP (fun _ _ => id) (fun _ h => h)).keepsTo k9 (fun b hb e => hb.2.2 e) (fun b hb => e1 b hb.1 (by omega) hb.2.2)
 have hi2 : i = tvs.length := by
  have := (List.getElem?_eq_some_iff.1 hx).1
  simp at this; omega
 subst hi2
 obtain rfl : v = x := by simpa using hx
 exact (hT.keepsTo (Q := Bt wr w3) K2 (fun _ _ => id) (fun _ h => h)).keepsTo k9 (fun b hb e => by have := olt b e; have := hb.1; omega) (fun b hb => e1 b (by have := hb.1; omega) (by have := hb.2; omega) (fun e => by have := olt b e; have := hb.1; omega))
theorem PrA.ks {w1 wr : World} {rsv : Value} {rest : List Int} {lv : Value} {tvs : List TV} (h : PrA w1 wr rsv rest lv tvs) (hl : tvs.length ≤ 1000) : KsAt wr (fun b => w1.heap.size ≤ b ∧ b < wr.heap.size) lv tvs :=
 ⟨SlOf.ofOwn h.own (by omega), fun i x hx => (h.tok i x hx).keepsTo (xaa.refl (fun _ => False) _) (fun _ _ => id) (fun b hb => ⟨hb.1, hb.2.1⟩)⟩
def PrW (w1 : World) (rsv lv : Value) (wr : World) : Prop := ∃ rest tvs, PrA w1 wr rsv rest lv tvs ∧ tvs.length + rest.length ≤ 200
def slLn : Value → Nat
 | .slice _ n _ => n
 | _ => 0
set_option maxHeartbeats 16000000 in
theorem xiB (l : List UInt8) (w : World) (hm : l.length ≤ 9223372036854775807) : Calls Tryz.prog 30 #[.string ⟨l.toArray⟩] w (ParW w) := by
 obtain ⟨i0, hi0, hz0, hz1, hz2⟩ := info_parts xlS
 by_cases hlen : 200 < l.length
 · have g0 : decide ((200 : Int) < (l.length : Int)) = true := by simp; omega
   have g1 : decide (200 < l.length) = true := by simpa using hlen
   go_enter Tryz.func30, Tryz.ntmps30
   go_wp2_with fail
   refine bodyPost_ret (by simp [results, Tryz.results30, go_sem]; try rfl) rfl ?_
   exact ⟨⟨0, .slice none 0 0, 0, 0, .slice none 0 0⟩, _, _, rfl, TAt.zero _ _, (xaa.refl _ _).alloc _⟩
 have g0 : decide ((200 : Int) < (l.length : Int)) = false := by simp; omega
 have g1 : decide (200 < l.length) = false := by simpa using hlen
 go_enter Tryz.func30, Tryz.ntmps30
 go_wp2_with fail
 refine (xha l _ (by omega)).mono ?_
 rintro e w1 ⟨v, ok, acc, rfl, ⟨hal, h64⟩, hown, k1⟩
 have K1 := xmA k1
 have hS : SI w1 v acc := SlOf.ofOwn (by rw [xct]; exact hown) (by omega)
 have HA0 : Hid (PrA w1 w1 v acc (.slice none 0 0) []) := xmA ⟨hS, h64, xax hown, World.ownsRow_nil _ _ _ _, fun i x hx => by simp at hx, xaa.refl _ _⟩
 obtain ⟨pa, pc, rfl⟩ := xad hown
 have hsz1 := k1.size
 simp at hsz1
 clear hown k1 h64 hS
 go_wp2_with fail
 go_loopw [4, 6] (fun rsv lv wr => PrW w1 rsv lv wr) (fun rsv _ _ => slLn rsv)
 case atStart => exact ⟨acc, [], HA0.out, by simp; omega⟩
 case round =>
  obtain ⟨rest, tvs, hA, hlt⟩ := hrel
  have HA := xmA hA
  obtain ⟨ra, rc, rfl, hrc, hcc⟩ := SI.cells hA.rs
  obtain ⟨la, lc, rfl⟩ := xad hA.own
  have hszr := hA.keep.size
  have hBr := (K1.out.trans hA.keep).heap (heap_alloc_new w _) id
  have HBr := xmA hBr
  have HKS := xmA (hA.ks (by omega))
  clear hA hBr
  cases ok with
  | false =>
   clear hcc
   go_upto_region 14 with fail
   have hB9 := ((K1.out.trans HA.out.keep).alloc (.cells #[.int .i64 0, .slice none 0 0, .int .i64 0, .int .i64 0, .slice none 0 0] 52)).heap (heap_alloc_new w _) id
   go_wp2_with (refine xap rfl 52 (.tmp 2) (.tmp 49) rfl rfl w.heap.size _ rfl rfl 52 _ hB9 xbd rfl (by simp [Value.oneCell']) ?_)
   intro w6 h6 k6
   obtain ⟨r0, r1, r2, r3, r4⟩ := five h6
   go_wp2_with fail
   refine bodyPost_ret (by simp [results, Tryz.results30, go_sem, r0, r1, r2, r3, r4]; try rfl) rfl ?_
   exact xh2 (c := 15) ((K1.out.trans HA.out.keep).alloc (.cells #[.int .i64 0, .slice none 0 0, .int .i64 0, .int .i64 0, .slice none 0 0] 52)) k6
  | true =>
   rcases rest with _ | ⟨r, rest⟩
   · have HTr := xmA (fun W (K : xaa (fun _ => False) wr W) => xiy 11 0 (fun b => w1.heap.size ≤ b ∧ b < wr.heap.size) (.slice la tvs.length lc) tvs W (by omega) (by omega) (by omega) (HKS.out.keep K) (fun b hb => by have := K.size; omega) (by omega))
     clear hcc
     go_wp2_with fail
     refine (HTr.out _ ((xaa.refl _ _).alloc _)).mono ?_
     rintro e w5 ⟨v, t, ok2, rfl, hv, k5⟩
     obtain ⟨o, a1, n1, c1, mm2, xx2, a2, n2, cc2, rfl⟩ := NV.form hv
     have HV := xmA hv
     have K5 := xmA ((K1.out.trans HA.out.keep).trans (xaa.trans ((xaa.refl _ _).alloc _) k5))
     have hC := k5.heap (heap_alloc_new wr _) id
     have hB := K5.out.heap (heap_alloc_new w _) id
     have hsz5 := k5.size
     simp at hsz5
     have hne : ¬ w.heap.size = wr.heap.size := by omega
     have HB := xmA hB
     clear hv hB k5
     unfold NV.val
     go_wp2_with (refine xap rfl 52 (.tmp 9) (.tmp 45) rfl rfl wr.heap.size #[.int .i64 o, .slice a1 n1 c1, .int .i64 mm2, .int .i64 xx2, .slice a2 n2 cc2] rfl rfl 52 _ hC xbd rfl (by simp [Value.oneCell']) ?_)
     intro w6 h6 k6
     obtain ⟨f0, f1, f2, f3, f4⟩ := five h6
     have hB6 := k6.heap HB.out hne
     cases ok2
     · go_wp2_with (refine xap rfl 52 (.tmp 2) (.tmp 49) rfl rfl w.heap.size _ rfl rfl 52 _ hB6 xbd rfl (by simp [Value.oneCell']) ?_)
       intro w7 h7 k7
       obtain ⟨r0, r1, r2, r3, r4⟩ := five h7
       go_wp2_with fail
       have HKE := xmA ((k6.mono (T := fun b => b = w.heap.size ∨ b = wr.heap.size) (fun _ _ e => Or.inr e)).trans (k7.mono (fun _ _ e => Or.inl e)))
       clear h6 k6 h7 k7 f0 f1 f2 f3 f4
       refine bodyPost_ret (by simp [results, Tryz.results30, go_sem, r0, r1, r2, r3, r4]; try rfl) rfl ?_
       exact ⟨⟨0, .slice none 0 0, 0, 0, .slice none 0 0⟩, _, 15, rfl, TAt.zero _ _, (xaa.trans ((xaa.refl _ _).alloc _) K5.out).trans2 HKE.out (fun b hb e => by rcases e with e | e <;> omega)⟩
     go_wp2_with (refine xap rfl 52 (.tmp 2) (.tmp 50) rfl rfl w.heap.size _ rfl rfl 52 _ hB6 xbd rfl (by simp [Value.oneCell']) ?_)
     intro w7 h7 k7
     obtain ⟨r0, r1, r2, r3, r4⟩ := five h7
     go_wp2_with fail
     have HKE := xmA ((k6.mono (T := fun b => b = w.heap.size ∨ b = wr.heap.size) (fun _ _ e => Or.inr e)).trans (k7.mono (fun _ _ e => Or.inl e)))
     clear h6 k6 h7 k7 f0 f1 f2 f3 f4
     refine bodyPost_ret (by simp [results, Tryz.results30, go_sem, r0, r1, r2, r3, r4]; try rfl) rfl ?_
     exact ⟨⟨o, .slice a1 n1 c1, mm2, xx2, .slice a2 n2 cc2⟩, t, 0, rfl, HV.out.keepsTo HKE.out (fun b hb e => by
      rcases hb with ⟨h, h'⟩ | ⟨h, _⟩
      · rcases e with e | e <;> omega
      simp at h; rcases e with e | e <;> omega) (fun _ _ => trivial), (xaa.trans ((xaa.refl _ _).alloc _) K5.out).trans2 HKE.out (fun b hb e => by rcases e with e | e <;> omega)⟩
   obtain ⟨b, off, rfl, _⟩ := hcc (by simp)
   have HTk := xmA (fun W (K : xaa (fun _ => False) wr W) => xiz r rest _ W (HA.out.rs.keep K) (by simp at hlt; omega) HA.out.r64)
   simp only [List.length_cons] at *
   have hp0 : decide ((0 : Int) < (rest.length : Int) + 1) = true := by first | (simp; done) | (simp; omega)
   clear hcc
   go_wp2_with fail
   refine (HTk.out _ (xaa.refl _ _)).mono ?_
   rintro e w3 ⟨v, k, rfl, hk2, hT, k3⟩
   obtain ⟨sa, sn, sc, hsv⟩ := hT.form
   obtain ⟨vk, vr, vs, vm, vx⟩ := v
   obtain rfl := hsv
   have HT3 := xmA hT
   have K3 := xmA k3
   have hs3 := k3.size
   clear hT k3
   unfold TV.val
   go_upto_region 7 with fail
   by_cases hk0 : k = 0
   · subst hk0
     have hB9 := (xaa.alloc (K1.out.trans (HA.out.keep.trans K3.out)) (.cells #[.int .i64 vk, .int .i64 vr, .slice sa sn sc, .int .i64 vm, .int .i64 vx] 116)).heap (heap_alloc_new w _) id
     go_wp2_with (refine xap rfl 52 (.tmp 2) (.tmp 32) rfl rfl w.heap.size _ rfl rfl 52 _ hB9 xbd rfl (by simp [Value.oneCell']) ?_)
     intro w6 h6 k6
     obtain ⟨r0, r1, r2, r3, r4⟩ := five h6
     go_wp2_with fail
     refine bodyPost_ret (by simp [results, Tryz.results30, go_sem, r0, r1, r2, r3, r4]; try rfl) rfl ?_
     exact xh2 (c := 15) (xaa.alloc (K1.out.trans (HA.out.keep.trans K3.out)) (.cells #[.int .i64 vk, .int .i64 vr, .slice sa sn sc, .int .i64 vm, .int .i64 vx] 116)) k6
   have gk : ((k : Int) == 0) = false := beq_eq_false_iff_ne.2 (by omega)
   have hq1 : (k : Int) ≤ (rest.length : Int) + 1 := by omega
   have hq2 : (k : Int) ≤ (rc : Int) := by omega
   have hq3 : (0 : Int) ≤ (k : Int) := by omega
   have HRS : Hid (∀ a' n' c', (a' = some ⟨b, off + k, none⟩ ∧ c' = rc - k ∨ c' = 0 ∧ a' = some ⟨b, off, none⟩) → n' = rest.length + 1 - k → n' ≤ c' → SI wr (.slice a' n' c') ((r :: rest).drop k)) := xmA (fun a' n' c' ha hn hnc => by
    subst hn
    have hS := SI.dropS HA.out.rs k (by first | omega | (simp; omega))
    rcases ha with ⟨rfl, rfl⟩ | ⟨rfl, rfl⟩
    · simpa using hS
    have h0 : rest.length + 1 - k = 0 := by omega
    rw [h0, List.drop_eq_nil_of_le (by simp; omega)]
    exact ⟨_, 0, rfl, ⟨Nat.le_refl _, fun h => by cases h⟩, by simp, fun h => by simp at h⟩)
   go_wp2_with (at_builtin; refine wpList_append_own_at _ rfl (.tmp 33) (.tmp 35) 114 rfl w1.heap.size 116 i0 _ 5 56 Tryz.underlying114 hi0 hz0 hz1 hz2 rfl (by decide) _ _ _ rfl (xac (xac (xae HA.out.own K3.out (fun _ _ => id)) _) _) ⟨w3.heap.size + 1, 0, none⟩ 1 1 [.int .i64 vk, .int .i64 vr, .slice sa sn sc, .int .i64 vm, .int .i64 vx] rfl rfl (by exact xbJ _ _ [_, _, _, _, _] _) (by simp [Value.oneCell']) (by unfold maxLen; omega) (by omega) (by first | omega | (simp; omega)) ?_)
   intro v' w9 hown' hgrow _ hloc
   have HN := xmA (fun rsv' (h : SI wr rsv' ((r :: rest).drop k)) (hb : ∀ b', rsv'.ownBlock = some b' → b' < w1.heap.size) => PrA.push HA.out K3.out HT3.out (((xaa.refl _ _).alloc _).alloc _) hown' hgrow hloc (by simp) h (fun x hx => HA.out.r64 x (List.mem_of_mem_drop hx)) hb)
   have HRB := xmA (HA.out.rb b rfl)
   clear hown' hgrow hloc
   by_cases hck : rc = k
   focus subst hck
   all_goals (
    go_wp2_with fail
    go_roundw
    case rel => exact ⟨_, _, HN.out _ (HRS.out _ _ _ (by first | exact Or.inl ⟨rfl, rfl⟩ | exact Or.inr ⟨rfl, rfl⟩ | exact Or.inr ⟨by omega, rfl⟩) (by first | rfl | omega) (by omega)) (fun b' hb => by obtain rfl := Option.some.inj hb; exact HRB.out), by simp; omega⟩
    case measure => first | (simp [slLn]; done) | (simp [slLn]; omega))
def SlenW (t : T) : Prop := ∀ (P : Nat → Prop) (v : NV) (w : World), TAt w P v t → Calls Tryz.prog 31 #[v.val] w (Rt IsNu w)
def ScopW (t : T) : Prop := ∀ (P : Nat → Prop) (v : NV) (w : World), TAt w P v t → Calls Tryz.prog 19 #[v.val] w (Rt IsNu w)
def SleR (L : List T) (w : World) (iv av : Value) (wr : World) : Prop := ∃ (i : Nat) (x : Int), iv = .int .i64 i ∧ i ≤ L.length ∧ av = .int .i64 x ∧ xaa (fun _ => False) w wr
set_option maxHeartbeats 4000000 in
theorem xlf (t : T) : SlenW t := by
 refine T.ind (C := SlenW) ?_ t
 intro t ih P v w ht
 obtain ⟨a1, n1, c1, a2, c2, e1, e2, hl, hc⟩ := ht.krow
 obtain ⟨op, vsv, mn, mx, vk⟩ := v
 obtain rfl := e1
 obtain rfl := e2
 generalize t.kids.toL = L at *
 have HC := xmA hc
 have IH := xmA ih
 clear hc ht ih
 show Calls Tryz.prog 31 #[.agg #[.int .i64 op, .slice a1 n1 c1, .int .i64 mn, .int .i64 mx, .slice a2 L.length c2]] w _
 go_enter Tryz.func31, Tryz.ntmps31
 go_wp2_with fail
 obtain ⟨wb, hwb⟩ : ∃ W, W = w.alloc (.cells #[.int .i64 op, .slice a1 n1 c1, .int .i64 mn, .int .i64 mx, .slice a2 L.length c2] 52) := ⟨_, rfl⟩
 have hKB : xaa (fun _ => False) w wb := by rw [hwb]; exact (xaa.refl _ _).alloc _
 have b0 : wb.cell? ⟨w.heap.size, 0, none⟩ = some (.int .i64 op) := by rw [hwb]; simp [go_sem]
 have b2 : wb.cell? ⟨w.heap.size, 2, none⟩ = some (.int .i64 mn) := by rw [hwb]; simp [go_sem]
 have b3 : wb.cell? ⟨w.heap.size, 3, none⟩ = some (.int .i64 mx) := by rw [hwb]; simp [go_sem]
 have b4 : wb.cell? ⟨w.heap.size, 4, none⟩ = some (.slice a2 L.length c2) := by rw [hwb]; simp [go_sem]
 rw [← hwb]
 clear hwb
 have KB := xmA hKB
 have B0 := xmA b0
 have B2 := xmA b2
 have B3 := xmA b3
 have B4 := xmA b4
 clear hKB b0 b2 b3 b4
 go_loopw [4, 3] (fun iv av wr => SleR L wb iv av wr) (fun iv _ _ => L.length - (intOf iv).toNat)
 case atStart => exact ⟨0, _, rfl, Nat.zero_le _, rfl, xaa.refl _ _⟩
 case round =>
  obtain ⟨i, x, rfl, hi, rfl, hk⟩ := hrel
  have K := xmA hk
  clear hk
  have b4 := K.out.cell B4.out id
  by_cases hil : i < L.length
  · obtain ⟨k, hki⟩ : ∃ k, L[i]? = some k := ⟨_, List.getElem?_eq_getElem hil⟩
    obtain ⟨b, off, uo, d1, f1, g1, um, ux, d2, f2, g2, rfl, hu, hlt, x0, x1, x2, x3, x4⟩ := (HC.out.keep (KB.out.trans K.out)).at hki
    have HS : Hid (∀ W, xaa (fun _ => False) wr W → Calls Tryz.prog 31 #[.agg #[.int .i64 uo, .slice d1 f1 g1, .int .i64 um, .int .i64 ux, .slice d2 f2 g2]] W (Rt IsNu W)) := xmA (fun W kW =>
     IH.out i k hki P ⟨uo, .slice d1 f1 g1, um, ux, .slice d2 f2 g2⟩ W (hu.keepsTo kW (fun _ _ => id) (fun _ h => h)))
    clear hki hu
    go_wp2_with fail
    refine (HS.out _ (KI.out)).mono ?_
    rintro e w2 ⟨_, rfl, ⟨n, rfl⟩, k2⟩
    have K2 : Hid (xaa (fun _ => False) wb w2) := xmA (K.out.trans (xaa.trans (KI.out) k2))
    clear k2
    go_wp2_with fail
    all_goals (
     go_roundw
     case rel => exact ⟨i + 1, _, by go_num, by omega, rfl, K2.out⟩
     case measure => simp [intOf]; omega)
  have he : i = L.length := by omega
  subst he
  have b0 := K.out.cell B0.out id
  have b2 := K.out.cell B2.out id
  have b3 := K.out.cell B3.out id
  have hsz : w.heap.size < wr.heap.size := xan b0
  have KE := xmA (KB.out.trans K.out)
  clear K B0 B2 B3 B4 KB
  go_wp2_with fail
  all_goals go_ret
  all_goals exact Rt.nu KE.out
set_option maxHeartbeats 4000000 in
theorem xlg (t : T) : ScopW t := by
 refine T.ind (C := ScopW) ?_ t
 intro t ih P v w ht
 obtain ⟨a1, n1, c1, a2, c2, e1, e2, hl, hc⟩ := ht.krow
 obtain ⟨op, vsv, mn, mx, vk⟩ := v
 obtain rfl := e1
 obtain rfl := e2
 generalize t.kids.toL = L at *
 have HC := xmA hc
 have IH := xmA ih
 clear hc ht ih
 show Calls Tryz.prog 19 #[.agg #[.int .i64 op, .slice a1 n1 c1, .int .i64 mn, .int .i64 mx, .slice a2 L.length c2]] w _
 go_enter Tryz.func19, Tryz.ntmps19
 go_wp2_with fail
 obtain ⟨wb, hwb⟩ : ∃ W, W = w.alloc (.cells #[.int .i64 op, .slice a1 n1 c1, .int .i64 mn, .int .i64 mx, .slice a2 L.length c2] 52) := ⟨_, rfl⟩
 have hKB : xaa (fun _ => False) w wb := by rw [hwb]; exact (xaa.refl _ _).alloc _
 have b0 : wb.cell? ⟨w.heap.size, 0, none⟩ = some (.int .i64 op) := by rw [hwb]; simp [go_sem]
 have b2 : wb.cell? ⟨w.heap.size, 2, none⟩ = some (.int .i64 mn) := by rw [hwb]; simp [go_sem]
 have b3 : wb.cell? ⟨w.heap.size, 3, none⟩ = some (.int .i64 mx) := by rw [hwb]; simp [go_sem]
 have b4 : wb.cell? ⟨w.heap.size, 4, none⟩ = some (.slice a2 L.length c2) := by rw [hwb]; simp [go_sem]
 rw [← hwb]
 clear hwb
 have KB := xmA hKB
 have B0 := xmA b0
 have B2 := xmA b2
 have B3 := xmA b3
 have B4 := xmA b4
 clear hKB b0 b2 b3 b4
 have hm2 := fun W x => xgv W x 1099511627776
 go_loopw [4, 3] (fun iv av wr => SleR L wb iv av wr) (fun iv _ _ => L.length - (intOf iv).toNat)
 case atStart => exact ⟨0, _, rfl, Nat.zero_le _, rfl, xaa.refl _ _⟩
 case round =>
  obtain ⟨i, x, rfl, hi, rfl, hk⟩ := hrel
  have K := xmA hk
  clear hk
  have b4 := K.out.cell B4.out id
  by_cases hil : i < L.length
  · obtain ⟨k, hki⟩ : ∃ k, L[i]? = some k := ⟨_, List.getElem?_eq_getElem hil⟩
    obtain ⟨b, off, uo, d1, f1, g1, um, ux, d2, f2, g2, rfl, hu, hlt, x0, x1, x2, x3, x4⟩ := (HC.out.keep (KB.out.trans K.out)).at hki
    have HS : Hid (∀ W, xaa (fun _ => False) wr W → Calls Tryz.prog 19 #[.agg #[.int .i64 uo, .slice d1 f1 g1, .int .i64 um, .int .i64 ux, .slice d2 f2 g2]] W (Rt IsNu W)) := xmA (fun W kW =>
     IH.out i k hki P ⟨uo, .slice d1 f1 g1, um, ux, .slice d2 f2 g2⟩ W (hu.keepsTo kW (fun _ _ => id) (fun _ h => h)))
    clear hki hu
    go_wp2_with fail
    refine (HS.out _ (KI.out)).mono ?_
    rintro e w2 ⟨_, rfl, ⟨n, rfl⟩, k2⟩
    have K2 : Hid (xaa (fun _ => False) wb w2) := xmA (K.out.trans (xaa.trans (KI.out) k2))
    clear k2
    go_wp2_with fail
    all_goals (
     go_roundw
     case rel => exact ⟨i + 1, _, by go_num, by omega, rfl, K2.out⟩
     case measure => simp [intOf]; omega)
  have he : i = L.length := by omega
  subst he
  have b0 := K.out.cell B0.out id
  have b2 := K.out.cell B2.out id
  have b3 := K.out.cell B3.out id
  have hsz : w.heap.size < wr.heap.size := xan b0
  have KE := xmA (KB.out.trans K.out)
  clear K B0 B2 B3 B4 KB
  go_wp2_with fail
  all_goals go_ret
  all_goals exact Rt.nu KE.out
def CoW (W : World) (e : Ending) (w' : World) : Prop := ∃ (p : Option Addr) (c : Int), e = .returned (.tuple #[.pointer p, .int .i64 c]) ∧ xaa (fun _ => False) W w' ∧
 (c = 0 → ∃ eb o a1 n1 c1 m x a2 n2 cc2 t, p = some ⟨eb, 0, none⟩ ∧ w'.heap[eb]? = some (.cells #[.int .i64 o, .slice a1 n1 c1, .int .i64 m, .int .i64 x, .slice a2 n2 cc2] 54 (0, 0)) ∧ TAt w' (fun _ => True) ⟨o, .slice a1 n1 c1, m, x, .slice a2 n2 cc2⟩ t)
set_option maxHeartbeats 4000000 in
theorem xdK (l : List UInt8) (hm : l.length ≤ 9223372036854775807) (w : World) : Calls Tryz.prog 18 #[.string ⟨l.toArray⟩] w (CoW w) := by
 go_enter Tryz.func18, Tryz.ntmps18
 go_wp2_with fail
 refine (xiB l _ hm).mono ?_
 rintro e w2 ⟨v, t, c, rfl, hv, k2⟩
 obtain ⟨o, a1, n1, c1, m, x, a2, n2, cc2, rfl⟩ := NV.form hv
 have HC := xmA (fun W (K : xaa (fun _ => False) w2 W) => xlf t (fun _ => True) ⟨o, .slice a1 n1 c1, m, x, .slice a2 n2 cc2⟩ W (hv.keepsTo K (fun _ _ => id) (fun _ _ => trivial)))
 have HV := xmA hv
 have K2 := xmA k2
 clear hv k2
 unfold NV.val at HC ⊢
 by_cases hc : c = 0
 rotate_left
 · have HE := xmA hc
   have g0 : (c != 0) = true := by simp [hc]
   clear hc HC
   go_wp2_with fail
   go_ret2
   exact ⟨none, c, rfl, xaa.trans K2.out (KI.out), fun h => absurd h HE.out⟩
 subst hc
 go_wp2_with fail
 obtain ⟨wa, hwa⟩ : ∃ W, w2.alloc (.cells #[.int .i64 o, .slice a1 n1 c1, .int .i64 m, .int .i64 x, .slice a2 n2 cc2] 52) = W := ⟨_, rfl⟩
 have hKA : xaa (fun _ => False) w2 wa := by rw [← hwa]; exact (xaa.refl _ _).alloc _
 have b0 : wa.cell? ⟨w2.heap.size, 0, none⟩ = some (.int .i64 o) := by rw [← hwa]; simp [go_sem]
 have b1 : wa.cell? ⟨w2.heap.size, 1, none⟩ = some (.slice a1 n1 c1) := by rw [← hwa]; simp [go_sem]
 have b2 : wa.cell? ⟨w2.heap.size, 2, none⟩ = some (.int .i64 m) := by rw [← hwa]; simp [go_sem]
 have b3 : wa.cell? ⟨w2.heap.size, 3, none⟩ = some (.int .i64 x) := by rw [← hwa]; simp [go_sem]
 have b4 : wa.cell? ⟨w2.heap.size, 4, none⟩ = some (.slice a2 n2 cc2) := by rw [← hwa]; simp [go_sem]
 rw [hwa]
 clear hwa
 refine (HC.out _ hKA).mono ?_
 rintro e w3 ⟨_, rfl, ⟨n, rfl⟩, k3⟩
 have b0 := k3.cell b0 id
 have b1 := k3.cell b1 id
 have b2 := k3.cell b2 id
 have b3 := k3.cell b3 id
 have b4 := k3.cell b4 id
 have HV3 := xmA (HV.out.keepsTo (hKA.trans k3) (fun _ _ => id) (fun _ h => h))
 have K3 := xmA (K2.out.trans (hKA.trans k3))
 have hs3 : w.heap.size ≤ w3.heap.size := K3.out.size
 clear hKA k3 K2 HV HC
 go_wp2_with fail
 all_goals go_ret2
 all_goals first
  | exact ⟨none, 16, rfl, K3.out, fun h => absurd h (by decide)⟩
  | exact ⟨_, 0, rfl, K3.out.alloc _, fun _ => ⟨_, o, a1, n1, c1, m, x, a2, n2, cc2, t, rfl, heap_alloc_new w3 _, HV3.out.keepsTo (xaa.alloc (xaa.refl (fun _ => False) _) _) (fun _ _ => id) (fun _ h => h)⟩⟩
end Go.Proofs.YtjahiihmoglpfaaGreatDoor
