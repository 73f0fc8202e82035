/-
  Several texts in one: Places in a slice; match.behind. (*crew).first. match.begun, First. match.All.
-/
import Derived.Test.YtpcbfmbpbegjgaaGreatEqLonG
import Derived.Handy
import Derived.Laws.MakeOwn
import Derived.Deep.AppendLies
section
namespace Go.Proofs.YtpcbfmbpbegjgaaGreat
open Go.RowKit
set_option linter.unusedVariables false
set_option linter.unusedSimpArgs false
set_option maxRecDepth 100000

/-- The places l lie in v, in the block X. -/
def NS (X : Nat) (w : World) (v : Value) (l : List Nat) : Prop :=
  ∃ a cap, v = .slice a l.length cap ∧ l.length ≤ cap ∧ (l ≠ [] → ∃ off, a = some ⟨X, off, none⟩ ∧ ∀ (i x : Nat), l[i]? = some x → w.cell? ⟨X, off + i, none⟩ = some (.int .i64 (x : Int)))
theorem NS.keeps {X : Nat} {S : Nat → Prop} {w w' : World} {v : Value} {l : List Nat} (h : NS X w v l) (K : Keeps S w w') (hX : ¬ S X) : NS X w' v l := by
  obtain ⟨a, cap, rfl, h1, h2⟩ := h
  exact ⟨a, cap, rfl, h1, fun h0 => by
    obtain ⟨off, rfl, h3⟩ := h2 h0
    exact ⟨off, rfl, fun i x hx => K.cell (h3 i x hx) hX⟩⟩
theorem NS.ofOwn {base : Nat} {w : World} {v : Value} {l : List Nat} (h : w.ownsRow base 3 1 v l.length (l.map fun n : Nat => Value.int .i64 (n : Int))) : ∃ X, NS X w v l ∧ (l ≠ [] → base ≤ X ∧ X < w.heap.size) := by
  rcases h.2 with ⟨rfl, h0⟩ | ⟨g, cap, cur, rfl, hg, hb, hn, _⟩
  · have : l = [] := List.length_eq_zero_iff.1 h0
    subst this
    exact ⟨0, ⟨none, 0, rfl, Nat.le_refl _, fun h => absurd rfl h⟩, fun h => absurd rfl h⟩
  · exact ⟨g, ⟨_, cap, rfl, hn, fun _ => ⟨0, rfl, fun i x hx => by
      have hil := (List.getElem?_eq_some_iff.1 hx).1
      rw [Nat.zero_add, h.cellAt i (by omega), List.getElem?_map, hx]; rfl⟩⟩, fun _ => ⟨hg, own_lt h g rfl⟩⟩
theorem NS.tail {X o' n cap off : Nat} {w : World} {x : Nat} {l : List Nat} (hn : n = l.length + 1) (hc : n ≤ cap) (h : ∀ (i y : Nat), (x :: l)[i]? = some y → w.cell? ⟨X, off + i, none⟩ = some (.int .i64 (y : Int))) (ho : 1 < cap → o' = off + 1) : NS X w (.slice (some ⟨X, o', none⟩) (n - 1) (cap - 1)) l := by
  refine ⟨_, cap - 1, by rw [hn]; rfl, by omega, fun h0 => ⟨o', rfl, fun i y hy => ?_⟩⟩
  have hl : 0 < l.length := List.length_pos_iff.2 h0
  rw [ho (by omega)]
  have := h (i + 1) y (by simpa using hy)
  rwa [show off + (i + 1) = off + 1 + i by omega] at this
def BeR (X : Nat) (l : List Nat) (from' : Nat) (w : World) (v : Value) (wr : World) : Prop := ∃ l', NS X w v l' ∧ l'.length ≤ l.length ∧ l'.dropWhile (fun p => decide (p < from')) = l.dropWhile (fun p => decide (p < from')) ∧ w = wr
set_option maxHeartbeats 2000000 in
theorem behind_any (X : Nat) (l : List Nat) (from' : Nat) (v : Value) (w : World) (h : NS X w v l) (hl : l.length ≤ 100000) :
    Calls Tryz.prog 57 #[v, .int .i64 from'] w fun e w' => (∃ v', e = .returned v' ∧ NS X w v' (l.dropWhile (fun p => decide (p < from')))) ∧ w = w' := by
  have H := Lib.hid h
  obtain ⟨a0, cap0, rfl, hcap0, hcc0⟩ := h
  clear hcc0
  go_enter Tryz.func57, Tryz.ntmps57
  go_wp2_with fail
  go_loopw [0] (fun v wr => BeR X l from' w v wr) (fun v _ => restLen v)
  case atStart => exact ⟨l, H.out, Nat.le_refl _, rfl, rfl⟩
  case round =>
    obtain ⟨l', hN, hl', hd, rfl⟩ := hrel
    have HN := Lib.hid hN
    have HD := Lib.hid hd
    obtain ⟨a, cap, rfl, hcap, hcell⟩ := hN
    clear hd
    cases l' with
    | nil =>
      clear hcell
      go_wp2_with fail
      go_ret
      exact ⟨⟨_, rfl, by rw [← HD.out]; exact HN.out⟩, rfl⟩
    | cons x t =>
      obtain ⟨off, rfl, hcc⟩ := hcell (by simp)
      have c0 : w.cell? ⟨X, off, none⟩ = some (.int .i64 (x : Int)) := hcc 0 x rfl
      have HC := Lib.hid hcc
      simp only [List.length_cons] at hcap hl'
      clear hcc hcell
      by_cases hx : x < from'
      · have g : decide ((x : Int) < (from' : Int)) = true := by simp; omega
        have HD2 : Hid (t.dropWhile (fun p => decide (p < from')) = l.dropWhile (fun p => decide (p < from'))) := Lib.hid (by rw [← HD.out, List.dropWhile_cons_of_pos (by simpa using hx)])
        by_cases hc1 : cap = 1
        · subst hc1
          obtain rfl : t = [] := List.length_eq_zero_iff.1 (by omega)
          go_wp2_with fail
          go_roundw
          case rel => exact ⟨[], ⟨_, _, rfl, Nat.le_refl _, fun h => absurd rfl h⟩, by simp, HD2.out, rfl⟩
          case measure => first | (simp [restLen]; done) | (simp [restLen]; omega)
        · have hc2 : 1 < cap := by omega
          go_wp2_with fail
          go_roundw
          case rel => exact ⟨t, by have := NS.tail (o' := off + 1) (off := off) (n := t.length + 1) (cap := cap) rfl hcap HC.out (fun h => rfl); simpa using this, by omega, HD2.out, rfl⟩
          case measure => first | (simp [restLen]; done) | (simp [restLen]; omega)
      · have g : decide ((x : Int) < (from' : Int)) = false := by simp; omega
        have HE : Hid (x :: t = l.dropWhile (fun p => decide (p < from'))) := Lib.hid (by rw [← HD.out, List.dropWhile_cons_of_neg (by simpa using hx)])
        go_wp2_with fail
        go_ret
        exact ⟨⟨_, rfl, by rw [← HE.out]; exact HN.out⟩, rfl⟩
end Go.Proofs.YtpcbfmbpbegjgaaGreat
end
section
namespace Go.Proofs.YtpcbfmbpbegjgaaGreat
open Go.RowKit
set_option linter.unusedVariables false
set_option linter.unusedSimpArgs false
set_option maxRecDepth 100000

/-- The first place from which there is a match: how many rounds, where, to where. -/
inductive FirstR (is : List Ins) (tx : List UInt8) (L0 : List Nat) : Nat → List Nat → Int × Int × Bool → Prop
  | none : FirstR is tx L0 0 [] (0, 0, false)
  | hit {p k : Nat} {l : List Nat} {e : Int} (hp : p ≤ tx.length) (h : LongR is tx k L0 p (-1) e) (he : 0 ≤ e) : FirstR is tx L0 (k + 1) (p :: l) (p, e, true)
  | miss {p k m : Nat} {l : List Nat} {e : Int} {r : Int × Int × Bool} (hp : p ≤ tx.length) (h : LongR is tx k L0 p (-1) e) (he : e < 0) (hr : FirstR is tx L0 m l r) : FirstR is tx L0 (k + 1 + m) (p :: l) r
theorem Foot.trans {w0 w w' : World} {F : Nat → Prop} {c : Nat} {a b a' b' : TS} (h : Foot w0 F w a b) (hF : F c) (k : Foot w (inC c a b) w' a' b') : Foot w0 F w' a' b' := by
  have hin : ∀ x, x < w0.heap.size → inC c a b x → F x := fun x hx hi => by
    rcases hi with rfl | hi | hi
    · exact hF
    · exact h.ina x hx hi
    · exact h.inb x hx hi
  have hsz := h.keep.size
  exact ⟨h.keep.trans2 k.keep hin, fun x hx hi => hin x hx (k.ina x (by omega) hi), fun x hx hi => hin x hx (k.inb x (by omega) hi)⟩
theorem Foot.down {w w1 W : World} {F : Nat → Prop} {a b : TS} (h : Foot w1 F W a b) (K : Keeps (fun _ => False) w w1) : Foot w F W a b :=
  ⟨(K.mono (fun _ _ e => e.elim)).trans2 h.keep (fun _ _ e => e), fun x hx => h.ina x (by have := K.size; omega), fun x hx => h.inb x (by have := K.size; omega)⟩
theorem Crew.keepsS {S : Nat → Prop} {B c : Nat} {w w' : World} {pv : Value} {tx : List UInt8} {is : List Ins} {a b : TS} (h : Crew B w c pv tx is a b) (K : Keeps S w w') (hc : ¬ S c) (ha : ∀ x, a.inn x → ¬ S x) (hb : ∀ x, b.inn x → ¬ S x) (hB : ∀ x, x < B → ¬ S x) : Crew B w' c pv tx is a b :=
  ⟨by rw [K.block c h.ltc hc]; exact h.bk, Thr.keeps h.ta K ha, Thr.keeps h.tb K hb, h.dis, h.ca, h.cb, h.cB, h.pg.keepsTo K hB (fun _ h => h)⟩
theorem st2_facts (w : World) (h : Nat) {u0 v0 : Value} (r0 : w.cell? ⟨h, 0, none⟩ = some u0) (r1 : w.cell? ⟨h, 1, none⟩ = some v0) (u v : Value) :
    ((w.setCell ⟨h, 0, none⟩ u).setCell ⟨h, 1, none⟩ v).cell? ⟨h, 0, none⟩ = some u ∧ ((w.setCell ⟨h, 0, none⟩ u).setCell ⟨h, 1, none⟩ v).cell? ⟨h, 1, none⟩ = some v ∧ Keeps (fun b => b = h) w ((w.setCell ⟨h, 0, none⟩ u).setCell ⟨h, 1, none⟩ v) := by
  refine ⟨?_, ?_, ((Keeps.refl (fun b => b = h) w).set (p := ⟨h, 0, none⟩) rfl _).set (p := ⟨h, 1, none⟩) rfl _⟩
  · rw [cell_set_other (by simp)]; exact cell_set_same r0
  · exact cell_set_same (by rw [cell_set_other (by simp)]; exact r1)
/-- The result's block is laid. -/
theorem fi_end {w wA w3 wE : World} {B c n M h : Nat} {F : Nat → Prop} {pv : Value} {tx : List UInt8} {is : List Ins} {a b : TS} (KW : Keeps (fun _ => False) w wA) (hC : Crew B w3 c pv tx is a b) (ha : a.now ≤ n) (hb : b.now ≤ n) (hn : n ≤ M) (hF : Foot wA F w3 a b) (hh : h = w.heap.size) (hlw : h < wA.heap.size) (hFh : ¬ F h) (hch : c < h) (kE : Keeps (fun b => b = h) w3 wE) :
    ∃ a b, Crew B wE c pv tx is a b ∧ a.now ≤ M ∧ b.now ≤ M ∧ Foot w F wE a b := by
  have ia : ¬ a.inn h := fun e => hFh (hF.ina h hlw e)
  have ib : ¬ b.inn h := fun e => hFh (hF.inb h hlw e)
  have hcB := hC.cB
  exact ⟨a, b, hC.keepsS kE (by omega) (fun x hx e => ia (e ▸ hx)) (fun x hx e => ib (e ▸ hx)) (fun x hx e => by omega), by omega, by omega,
    ⟨((hF.down KW).keep).trans2 kE (fun x hx e => by omega), (hF.down KW).ina, (hF.down KW).inb⟩⟩
def FisR (B c M : Nat) (F : Nat → Prop) (pv : Value) (tx : List UInt8) (is : List Ins) (L0 : List Nat) (l : List Nat) (fin : Int × Int × Bool) (wA : World) (iv : Value) (wr : World) : Prop :=
  ∃ (i m n : Nat) (a b : TS), iv = .int .i64 i ∧ i ≤ l.length ∧ Crew B wr c pv tx is a b ∧ a.now ≤ n ∧ b.now ≤ n ∧ n + m ≤ M ∧ FirstR is tx L0 m (l.drop i) fin ∧ Foot wA F wr a b
set_option maxHeartbeats 8000000 in
theorem first_any (B c N M X : Nat) (pv v : Value) (tx : List UInt8) (is : List Ins) (a0 b0 : TS) (s0 : List Nat × (Nat → Bool)) (l : List Nat) (fin : Int × Int × Bool) (w : World) (hC : Crew B w c pv tx is a0 b0) (ha : a0.now ≤ N) (hb : b0.now ≤ N) (hp : PtR is 0 ([], fun _ => false) s0) (hs0 : s0.1.length ≤ 1000) (hr : FirstR is tx s0.1 M l fin)
    (htx : tx.length ≤ 1000) (his : is.length ≤ 1000) (hN : N + M ≤ 1000000) (hv : NS X w v l) (hX : X < w.heap.size) (hFX : ¬ inC c a0 b0 X) (hl : l.length ≤ 100000) :
    Calls Tryz.prog 56 #[.pointer (some ⟨c, 0, none⟩), v] w fun e w' => e = .returned (.tuple #[.agg #[.int .i64 fin.1, .int .i64 fin.2.1], .bool fin.2.2]) ∧ ∃ a b, Crew B w' c pv tx is a b ∧ a.now ≤ N + M ∧ b.now ≤ N + M ∧ Foot w (inC c a0 b0) w' a b := by
  obtain ⟨wA, hwA⟩ : ∃ W, W = w.alloc (.cells #[.int .i64 0, .int .i64 0] 38) := ⟨_, rfl⟩
  have kw : Keeps (fun _ => False) w wA := by rw [hwA]; exact (Keeps.refl _ _).alloc _
  have q0 : wA.cell? ⟨w.heap.size, 0, none⟩ = some (.int .i64 0) := by rw [hwA]; simp [go_sem]
  have q1 : wA.cell? ⟨w.heap.size, 1, none⟩ = some (.int .i64 0) := by rw [hwA]; simp [go_sem]
  have hq : wA.heap[w.heap.size]? = some (.cells #[.int .i64 0, .int .i64 0] 38 (0, 0)) := by rw [hwA]; exact heap_alloc_new w _
  have g0 : wA.frozen? ⟨w.heap.size, 0, none⟩ = false := Lib.frozen_of_heap hq 0
  have g1 : wA.frozen? ⟨w.heap.size, 1, none⟩ = false := Lib.frozen_of_heap hq 1
  have hlw : w.heap.size < wA.heap.size := lt_of_cell q0
  obtain ⟨F, hF0⟩ : ∃ F, F = inC c a0 b0 := ⟨_, rfl⟩
  have F0 : Foot wA F wA a0 b0 := by
    rw [hF0]; exact Foot.start wA c a0 b0
  have hFc : F c := by rw [hF0]; exact Or.inl rfl
  have hch : c < w.heap.size := hC.ltc
  have hFh : ¬ F w.heap.size := by
    rw [hF0]
    rintro (e | e | e)
    · have := hC.ltc; omega
    · have := (Thr.inlt hC.ta e).1; omega
    · have := (Thr.inlt hC.tb e).1; omega
  rw [← hF0] at hFX ⊢
  have HCA := Lib.hid (hC.keeps kw (fun _ => id))
  have HNS := Lib.hid (hv.keeps kw id)
  obtain ⟨av, cap0, rfl, hcap0, hcc0⟩ := hv
  have HR := Lib.hid hr
  have KW := Lib.hid kw
  have FF := Lib.hid F0
  clear hcc0 hr kw F0 hF0 hC
  go_enter Tryz.func56, Tryz.ntmps56
  go_wp2_with fail
  rw [← hwA]
  clear hwA
  go_loopw [11] (fun iv wr => FisR B c (N + M) F pv tx is s0.1 l fin wA iv wr) (fun iv _ => l.length - (intOf iv).toNat)
  case atStart => exact ⟨0, M, N, a0, b0, rfl, Nat.zero_le _, HCA.out, ha, hb, Nat.le_refl _, HR.out, FF.out⟩
  case round =>
    obtain ⟨i, m, n, a, b, rfl, hi, hC, hna, hnb, hnm, hFr, hFt⟩ := hrel
    have HC := Lib.hid hC
    have HFt := Lib.hid hFt
    have HFr := Lib.hid hFr
    have r0 := hFt.keep.cell q0 hFh
    have r1 := hFt.keep.cell q1 hFh
    have e0 := hFt.keep.frozen g0 hlw hFh
    have e1 := hFt.keep.frozen g1 hlw hFh
    obtain ⟨av', cap', hve, _, hcc⟩ := HNS.out.keeps hFt.keep hFX
    obtain ⟨rfl, _, rfl⟩ := Value.slice.inj hve
    clear hFr hC hFt hve
    by_cases hil : i < l.length
    · obtain ⟨p, hpi⟩ : ∃ p, l[i]? = some p := ⟨_, List.getElem?_eq_getElem hil⟩
      obtain ⟨off, rfl, hc2⟩ := hcc (by intro h; rw [h] at hil; simp at hil)
      have cp := hc2 i p hpi
      have hXr : X < wr.heap.size := lt_of_cell cp
      have hdr : l.drop i = p :: l.drop (i + 1) := by
        obtain ⟨h1, h2⟩ := List.getElem?_eq_some_iff.1 hpi
        rw [List.drop_eq_getElem_cons h1, h2]
      obtain ⟨k, e, hpt, hLr, hcase⟩ : ∃ (k : Nat) (e : Int), p ≤ tx.length ∧ LongR is tx k s0.1 p (-1) e ∧ ((0 ≤ e ∧ fin = ((p : Int), e, true) ∧ m = k + 1) ∨ (e < 0 ∧ ∃ m', m = k + 1 + m' ∧ FirstR is tx s0.1 m' (l.drop (i + 1)) fin)) := by
        have h := HFr.out
        rw [hdr] at h
        cases h with
        | hit hp h he => exact ⟨_, _, hp, h, Or.inl ⟨he, rfl, rfl⟩⟩
        | miss hp h he hr => exact ⟨_, _, hp, h, Or.inr ⟨he, _, rfl, hr⟩⟩
      have HLo := Lib.hid (longest_any B c (n + k + 1) pv tx is a b p k e s0 wr HC.out hp hs0 hLr hpt htx his (by rcases hcase with ⟨_, _, h⟩ | ⟨_, m', h, _⟩ <;> omega) (by omega) (by omega))
      clear hcc hc2 hdr hpi hLr HFr
      go_wp2_with fail
      refine HLo.out.mono ?_
      rintro e9 w3 ⟨rfl, a', b', hC3, hna3, hnb3, hFt3⟩
      have hF3 := HFt.out.trans hFc hFt3
      clear r0 r1 e0 e1
      have r0 := hF3.keep.cell q0 hFh
      have r1 := hF3.keep.cell q1 hFh
      have e0 := hF3.keep.frozen g0 hlw hFh
      have e1 := hF3.keep.frozen g1 hlw hFh
      have hl3 : w.heap.size < w3.heap.size := lt_of_cell r0
      have HC3 := Lib.hid hC3
      have HF3 := Lib.hid hF3
      clear hC3 hFt3 hF3
      rcases hcase with ⟨he, rfl, rfl⟩ | ⟨he, m', rfl, hrest⟩
      · have ge : decide ((0 : Int) ≤ e) = true := by simpa using he
        go_wp2_with fail
        obtain ⟨z0, z1, kE⟩ := st2_facts w3 w.heap.size r0 r1 (.int .i64 (p : Int)) (.int .i64 e)
        obtain ⟨wE, hWE⟩ : ∃ W, (w3.setCell ⟨w.heap.size, 0, none⟩ (.int .i64 (p : Int))).setCell ⟨w.heap.size, 1, none⟩ (.int .i64 e) = W := ⟨_, rfl⟩
        rw [hWE] at z0 z1 kE ⊢
        refine bodyPost_ret (by simp [results, Tryz.results56, go_sem, z0, z1]; try rfl) rfl ?_
        exact ⟨rfl, fi_end KW.out HC3.out hna3 hnb3 (by omega) HF3.out rfl hlw hFh hch kE⟩
      · have ge : decide ((0 : Int) ≤ e) = false := by simp; omega
        have HRest := Lib.hid hrest
        clear hrest
        go_wp2_with fail
        go_roundw
        case rel => exact ⟨i + 1, m', n + k + 1, a', b', by go_num, by omega, HC3.out, hna3, hnb3, by omega, HRest.out, HF3.out⟩
        case measure => simp [intOf]; omega
    · have hie : i = l.length := by omega
      subst hie
      obtain ⟨rfl, rfl⟩ : fin = (0, 0, false) ∧ m = 0 := by
        have h := HFr.out
        rw [List.drop_length] at h
        cases h; exact ⟨rfl, rfl⟩
      go_wp2_with fail
      obtain ⟨z0, z1, kE⟩ := st2_facts wr w.heap.size r0 r1 (.int .i64 0) (.int .i64 0)
      obtain ⟨wE, hWE⟩ : ∃ W, (wr.setCell ⟨w.heap.size, 0, none⟩ (.int .i64 0)).setCell ⟨w.heap.size, 1, none⟩ (.int .i64 0) = W := ⟨_, rfl⟩
      rw [hWE] at z0 z1 kE ⊢
      refine bodyPost_ret (by simp [results, Tryz.results56, go_sem, z0, z1]; try rfl) rfl ?_
      exact ⟨rfl, fi_end KW.out HC.out hna hnb (by omega) HFt.out rfl hlw hFh hch kE⟩
end Go.Proofs.YtpcbfmbpbegjgaaGreat
end
section
namespace Go.Proofs.YtpcbfmbpbegjgaaGreat
open Go.RowKit
set_option linter.unusedVariables false
set_option linter.unusedSimpArgs false
set_option maxRecDepth 100000

def BegE (w : World) (is : List Ins) (pv : Value) (tx : List UInt8) (e : Ending) (w' : World) : Prop :=
  ∃ (c : Nat) (a b : TS), e = .returned (.pointer (some ⟨c, 0, none⟩)) ∧ Crew w.heap.size w' c pv tx is a b ∧ a.now = 0 ∧ b.now = 0 ∧ (∀ x, inC c a b x → w.heap.size ≤ x) ∧ Keeps (fun _ => False) w w'
theorem Crew.inlt {B c : Nat} {w : World} {pv : Value} {tx : List UInt8} {is : List Ins} {a b : TS} (h : Crew B w c pv tx is a b) {x : Nat} (hx : inC c a b x) : x < w.heap.size := by
  rcases hx with rfl | e | e
  · exact h.ltc
  · exact (Thr.inlt h.ta e).1
  · exact (Thr.inlt h.tb e).1
theorem made_at (n i : Nat) (h : i < n) : (madeCells #[Value.int .i64 0] n)[i]? = some (.int .i64 0) := by
  simp [madeCells, h, Nat.mod_one]
theorem thr_new {B : Nat} {w : World} {n t m : Nat} (h1 : w.heap[t]? = some (.cells #[.slice none 0 0, .slice (some ⟨m, 0, none⟩) n n, .int .i64 0] 132 (0, 0))) (h2 : w.heap[m]? = some (.cells (madeCells #[Value.int .i64 0] n) 3 (0, 0))) (b1 : B ≤ t) (b2 : B ≤ m) (hne : t ≠ m) :
    (⟨t, m, .slice none 0 0, [], fun _ => true, 0⟩ : TS).at B n w := by
  have hm : m < w.heap.size := (Array.getElem?_eq_some_iff.1 h2).1
  refine ⟨h1, ⟨rfl, Or.inl ⟨rfl, rfl⟩⟩, ⟨fun _ => 0, fun i hi => ⟨?_, Lib.frozen_of_heap h2 i, Nat.le_refl _, by simp⟩⟩, b1, b2, hm, hne, by simp [Value.ownBlock], by simp [Value.ownBlock]⟩
  rw [Lib.cell_of_heap h2]
  exact made_at n i hi
theorem begun_mk {w w' : World} {is : List Ins} {pv : Value} {tx : List UInt8} (hpg : PgAt w (fun b => b < w.heap.size) pv is) {cs : Array Value} (hcs : cs = madeCells #[Value.int .i64 0] is.length) (K : Keeps (fun _ => False) w w') (c t1 m1 t2 m2 : Nat)
    (h1 : w'.heap[t1]? = some (.cells #[.slice none 0 0, .slice (some ⟨m1, 0, none⟩) is.length is.length, .int .i64 0] 132 (0, 0))) (h2 : w'.heap[m1]? = some (.cells cs 3 (0, 0)))
    (h3 : w'.heap[t2]? = some (.cells #[.slice none 0 0, .slice (some ⟨m2, 0, none⟩) is.length is.length, .int .i64 0] 132 (0, 0))) (h4 : w'.heap[m2]? = some (.cells cs 3 (0, 0)))
    (h5 : w'.heap[c]? = some (.cells #[pv, .string ⟨tx.toArray⟩, .pointer (some ⟨t1, 0, none⟩), .pointer (some ⟨t2, 0, none⟩)] 134 (0, 0)))
    (hb : w.heap.size ≤ c ∧ w.heap.size ≤ t1 ∧ w.heap.size ≤ m1 ∧ w.heap.size ≤ t2 ∧ w.heap.size ≤ m2) (hd : t1 ≠ m1 ∧ t2 ≠ m2 ∧ t1 ≠ t2 ∧ t1 ≠ m2 ∧ m1 ≠ t2 ∧ m1 ≠ m2 ∧ c ≠ t1 ∧ c ≠ m1 ∧ c ≠ t2 ∧ c ≠ m2) :
    BegE w is pv tx (.returned (.pointer (some ⟨c, 0, none⟩))) w' := by
  subst hcs
  obtain ⟨b1, b2, b3, b4, b5⟩ := hb
  obtain ⟨d1, d2, d3, d4, d5, d6, d7, d8, d9, d10⟩ := hd
  have ina : ∀ x, (⟨t1, m1, .slice none 0 0, [], fun _ => true, 0⟩ : TS).inn x → x = t1 ∨ x = m1 := fun x h => by
    rcases h with h | h | h
    · exact Or.inl h
    · exact Or.inr h
    · simp [Value.ownBlock] at h
  have inb : ∀ x, (⟨t2, m2, .slice none 0 0, [], fun _ => true, 0⟩ : TS).inn x → x = t2 ∨ x = m2 := fun x h => by
    rcases h with h | h | h
    · exact Or.inl h
    · exact Or.inr h
    · simp [Value.ownBlock] at h
  refine ⟨c, ⟨t1, m1, .slice none 0 0, [], fun _ => true, 0⟩, ⟨t2, m2, .slice none 0 0, [], fun _ => true, 0⟩, rfl,
    ⟨h5, thr_new h1 h2 b2 b3 d1, thr_new h3 h4 b4 b5 d2, fun x ha hb => ?_, fun h => ?_, fun h => ?_, b1, hpg.keepsTo K (fun _ _ => id) (fun _ h => h)⟩, rfl, rfl, fun x h => ?_, K⟩
  · rcases ina x ha with rfl | rfl <;> rcases inb _ hb with h | h <;> omega
  · rcases ina c h with h | h <;> omega
  · rcases inb c h with h | h <;> omega
  · rcases h with rfl | h | h
    · exact b1
    · rcases ina x h with rfl | rfl <;> assumption
    · rcases inb x h with rfl | rfl <;> assumption
theorem push_old {h : Array Obj} {o x : Obj} {k : Nat} (e : h[k]? = some x) : (h.push o)[k]? = some x := by
  have := (Array.getElem?_eq_some_iff.1 e).1
  rw [Array.getElem?_push, if_neg (by omega)]; exact e
theorem push_new (h : Array Obj) (o : Obj) : (h.push o)[h.size]? = some o := by simp
theorem push5 (h : Array Obj) (o0 o1 o2 o3 o4 : Obj) : (((((h.push o0).push o1).push o2).push o3).push o4)[h.size]? = some o0 ∧ (((((h.push o0).push o1).push o2).push o3).push o4)[h.size + 1]? = some o1 ∧ (((((h.push o0).push o1).push o2).push o3).push o4)[h.size + 1 + 1]? = some o2 ∧ (((((h.push o0).push o1).push o2).push o3).push o4)[h.size + 1 + 1 + 1]? = some o3 ∧ (((((h.push o0).push o1).push o2).push o3).push o4)[h.size + 1 + 1 + 1 + 1]? = some o4 := by
  have s1 : (h.push o0).size = h.size + 1 := Array.size_push _
  have s2 : ((h.push o0).push o1).size = h.size + 1 + 1 := by rw [Array.size_push, s1]
  have s3 : (((h.push o0).push o1).push o2).size = h.size + 1 + 1 + 1 := by rw [Array.size_push, s2]
  have s4 : ((((h.push o0).push o1).push o2).push o3).size = h.size + 1 + 1 + 1 + 1 := by rw [Array.size_push, s3]
  refine ⟨push_old (push_old (push_old (push_old (push_new _ _)))), ?_, ?_, ?_, ?_⟩
  · rw [← s1]; exact push_old (push_old (push_old (push_new _ _)))
  · rw [← s2]; exact push_old (push_old (push_new _ _))
  · rw [← s3]; exact push_old (push_new _ _)
  · rw [← s4]; exact push_new _ _
theorem info_intF : (Tryz.prog.info? 3).map (fun i => (i.zero, i.size, i.bytes)) = some (some (.int .i64 0), 1, 8) := by kernel_rfl
set_option maxHeartbeats 8000000 in
theorem begun_any (is : List Ins) (pv : Value) (tx : List UInt8) (w : World) (h : PgAt w (fun b => b < w.heap.size) pv is) (hn : is.length ≤ 1000000) :
    Calls Tryz.prog 55 #[pv, .string ⟨tx.toArray⟩] w fun e w' => BegE w is pv tx e w' := by
  obtain ⟨i0, hi, hz0, hz1, hz2⟩ := info_parts info_intF
  obtain ⟨a, c, rfl⟩ := h.form
  have HPg := Lib.hid h
  have hmk : ∀ W : World, (Instr.makeSlice 58 (.int .i64 (is.length : Int)) (.int .i64 (is.length : Int))).run Tryz.prog W = .ok (.slice (some ⟨W.heap.size, 0, none⟩) is.length is.length) (W.alloc (.cells (madeCells #[.int .i64 0] is.length) 3)) := fun W => by
    have := run_make (P := Tryz.prog) W 58 3 i0 (.int .i64 0) Tryz.underlying58 hi hz0 .i64 .i64 (is.length : Int) (is.length : Int) (by omega) (Int.le_refl _) (by rw [hz2]; omega) (by omega)
    rw [hz1, Int.toNat_natCast, Nat.mul_one] at this
    exact this
  obtain ⟨cs, hcs⟩ : ∃ cs, cs = madeCells #[Value.int .i64 0] is.length := ⟨_, rfl⟩
  rw [← hcs] at hmk
  have HCs := Lib.hid hcs
  clear h hcs
  go_enter Tryz.func55, Tryz.ntmps55
  go_wp2_with fail
  go_region
  all_goals
    go_wp2_with fail
    go_ret
    first | exact begun_mk HPg.out HCs.out (by (repeat' (with_reducible first | exact Keeps.refl _ _ | assumption | refine Keeps.drawN ?_ _ | refine Keeps.drew ?_ | refine Keeps.setCell ?_ ?_ _ | refine Keeps.alloc ?_ _)) <;> (first | exact Or.inr (Nat.le_refl _) | exact Or.inl rfl | exact Or.inl (Or.inl rfl) | exact Or.inl (Or.inr rfl) | (right; simp; done) | (right; simp; omega))) (w.heap.size + 1 + 1 + 1 + 1) (w.heap.size + 1) (w.heap.size) (w.heap.size + 1 + 1 + 1) (w.heap.size + 1 + 1) (push5 w.heap _ _ _ _ _).2.1 (push5 w.heap _ _ _ _ _).1 (push5 w.heap _ _ _ _ _).2.2.2.1 (push5 w.heap _ _ _ _ _).2.2.1 (push5 w.heap _ _ _ _ _).2.2.2.2 (by omega) (by omega) | exact begun_mk HPg.out HCs.out (by (repeat' (with_reducible first | exact Keeps.refl _ _ | assumption | refine Keeps.drawN ?_ _ | refine Keeps.drew ?_ | refine Keeps.setCell ?_ ?_ _ | refine Keeps.alloc ?_ _)) <;> (first | exact Or.inr (Nat.le_refl _) | exact Or.inl rfl | exact Or.inl (Or.inl rfl) | exact Or.inl (Or.inr rfl) | (right; simp; done) | (right; simp; omega))) (w.heap.size + 1 + 1 + 1 + 1) (w.heap.size + 1 + 1) (w.heap.size) (w.heap.size + 1 + 1 + 1) (w.heap.size + 1) (push5 w.heap _ _ _ _ _).2.2.1 (push5 w.heap _ _ _ _ _).1 (push5 w.heap _ _ _ _ _).2.2.2.1 (push5 w.heap _ _ _ _ _).2.1 (push5 w.heap _ _ _ _ _).2.2.2.2 (by omega) (by omega) | exact begun_mk HPg.out HCs.out (by (repeat' (with_reducible first | exact Keeps.refl _ _ | assumption | refine Keeps.drawN ?_ _ | refine Keeps.drew ?_ | refine Keeps.setCell ?_ ?_ _ | refine Keeps.alloc ?_ _)) <;> (first | exact Or.inr (Nat.le_refl _) | exact Or.inl rfl | exact Or.inl (Or.inl rfl) | exact Or.inl (Or.inr rfl) | (right; simp; done) | (right; simp; omega))) (w.heap.size + 1 + 1 + 1 + 1) (w.heap.size + 1 + 1) (w.heap.size + 1) (w.heap.size + 1 + 1 + 1) (w.heap.size) (push5 w.heap _ _ _ _ _).2.2.1 (push5 w.heap _ _ _ _ _).2.1 (push5 w.heap _ _ _ _ _).2.2.2.1 (push5 w.heap _ _ _ _ _).1 (push5 w.heap _ _ _ _ _).2.2.2.2 (by omega) (by omega) | exact begun_mk HPg.out HCs.out (by (repeat' (with_reducible first | exact Keeps.refl _ _ | assumption | refine Keeps.drawN ?_ _ | refine Keeps.drew ?_ | refine Keeps.setCell ?_ ?_ _ | refine Keeps.alloc ?_ _)) <;> (first | exact Or.inr (Nat.le_refl _) | exact Or.inl rfl | exact Or.inl (Or.inl rfl) | exact Or.inl (Or.inr rfl) | (right; simp; done) | (right; simp; omega))) (w.heap.size + 1 + 1 + 1 + 1) (w.heap.size + 1 + 1 + 1) (w.heap.size) (w.heap.size + 1 + 1) (w.heap.size + 1) (push5 w.heap _ _ _ _ _).2.2.2.1 (push5 w.heap _ _ _ _ _).1 (push5 w.heap _ _ _ _ _).2.2.1 (push5 w.heap _ _ _ _ _).2.1 (push5 w.heap _ _ _ _ _).2.2.2.2 (by omega) (by omega) | exact begun_mk HPg.out HCs.out (by (repeat' (with_reducible first | exact Keeps.refl _ _ | assumption | refine Keeps.drawN ?_ _ | refine Keeps.drew ?_ | refine Keeps.setCell ?_ ?_ _ | refine Keeps.alloc ?_ _)) <;> (first | exact Or.inr (Nat.le_refl _) | exact Or.inl rfl | exact Or.inl (Or.inl rfl) | exact Or.inl (Or.inr rfl) | (right; simp; done) | (right; simp; omega))) (w.heap.size + 1 + 1 + 1 + 1) (w.heap.size + 1 + 1 + 1) (w.heap.size + 1) (w.heap.size + 1 + 1) (w.heap.size) (push5 w.heap _ _ _ _ _).2.2.2.1 (push5 w.heap _ _ _ _ _).2.1 (push5 w.heap _ _ _ _ _).2.2.1 (push5 w.heap _ _ _ _ _).1 (push5 w.heap _ _ _ _ _).2.2.2.2 (by omega) (by omega) | exact begun_mk HPg.out HCs.out (by (repeat' (with_reducible first | exact Keeps.refl _ _ | assumption | refine Keeps.drawN ?_ _ | refine Keeps.drew ?_ | refine Keeps.setCell ?_ ?_ _ | refine Keeps.alloc ?_ _)) <;> (first | exact Or.inr (Nat.le_refl _) | exact Or.inl rfl | exact Or.inl (Or.inl rfl) | exact Or.inl (Or.inr rfl) | (right; simp; done) | (right; simp; omega))) (w.heap.size + 1 + 1 + 1 + 1) (w.heap.size + 1 + 1 + 1) (w.heap.size + 1 + 1) (w.heap.size + 1) (w.heap.size) (push5 w.heap _ _ _ _ _).2.2.2.1 (push5 w.heap _ _ _ _ _).2.2.1 (push5 w.heap _ _ _ _ _).2.1 (push5 w.heap _ _ _ _ _).1 (push5 w.heap _ _ _ _ _).2.2.2.2 (by omega) (by omega)
set_option maxHeartbeats 8000000 in
theorem mfirst_any (is : List Ins) (pv : Value) (tx : List UInt8) (from' M : Nat) (fin : Int × Int × Bool) (s0 : List Nat × (Nat → Bool)) (w : World) (hpg : PgAt w (fun b => b < w.heap.size) pv is) (hok : ∀ (k : Nat) (i : Ins), is[k]? = some i → okI is.length i) (h0 : 0 < is.length) (his : is.length ≤ 1000) (htx : tx.length ≤ 1000)
    (hp : PtR is 0 ([], fun _ => false) s0) (hs0 : s0.1.length ≤ 1000) (hr : FirstR is tx s0.1 M ((places tx).dropWhile (fun p => decide (p < from'))) fin) (hM : M ≤ 900000) (hpl : (places tx).length ≤ 100000) :
    Calls Tryz.prog 28 #[pv, .string ⟨tx.toArray⟩, .int .i64 from'] w fun e w' => e = .returned (.tuple #[.agg #[.int .i64 fin.1, .int .i64 fin.2.1], .bool fin.2.2]) ∧ Keeps (fun _ => False) w w' := by
  obtain ⟨wA, hwA⟩ : ∃ W, W = w.alloc (.cells #[.int .i64 0, .int .i64 0] 38) := ⟨_, rfl⟩
  have kw : Keeps (fun _ => False) w wA := by rw [hwA]; exact (Keeps.refl _ _).alloc _
  have q0 : wA.cell? ⟨w.heap.size, 0, none⟩ = some (.int .i64 0) := by rw [hwA]; simp [go_sem]
  have q1 : wA.cell? ⟨w.heap.size, 1, none⟩ = some (.int .i64 0) := by rw [hwA]; simp [go_sem]
  have hq : wA.heap[w.heap.size]? = some (.cells #[.int .i64 0, .int .i64 0] 38 (0, 0)) := by rw [hwA]; exact heap_alloc_new w _
  have g0 : wA.frozen? ⟨w.heap.size, 0, none⟩ = false := Lib.frozen_of_heap hq 0
  have g1 : wA.frozen? ⟨w.heap.size, 1, none⟩ = false := Lib.frozen_of_heap hq 1
  have hlw : w.heap.size < wA.heap.size := lt_of_cell q0
  obtain ⟨pa, pc, rfl⟩ := hpg.form
  have HPg := Lib.hid (hpg.keepsTo (Q := fun b => b < w.heap.size) kw (fun _ _ => id) (fun _ h => h))
  have HRi := Lib.hid (pright_any is _ _ wA HPg.out hok h0 his)
  have HR := Lib.hid hr
  have KW := Lib.hid kw
  clear hpg hr hok kw
  go_enter Tryz.func28, Tryz.ntmps28
  go_wp2_with fail
  rw [← hwA]
  clear hwA hq
  refine HRi.out.mono ?_
  rintro e w1 ⟨rfl, k1⟩
  have HPg1 := Lib.hid (HPg.out.keepsTo (Q := fun b => b < w1.heap.size) k1 (fun _ _ => id) (fun b hb => by have := k1.size; omega))
  have K1 := Lib.hid k1
  clear k1
  go_wp2_with fail
  refine (begun_any is _ tx w1 HPg1.out (by omega)).mono ?_
  rintro e w2 ⟨c, a0, b0, rfl, hC, ha0, hb0, hin, k2⟩
  have HC := Lib.hid hC
  have K2 := Lib.hid (K1.out.trans k2)
  have hin2 := Lib.hid (fun x hx => hC.inlt (x := x) hx)
  have HIN := Lib.hid hin
  have hs12 := K1.out.size
  clear hC k2 hin
  go_wp2_with fail
  refine (places_any tx w2 (by omega)).mono ?_
  rintro e w3 ⟨plv, rfl, hown, k3⟩
  obtain ⟨X, hNS, hX⟩ := NS.ofOwn hown
  obtain ⟨hX1, hX2⟩ := hX (by unfold places; simp)
  have HC3 := Lib.hid (HC.out.keeps k3 (fun _ => id))
  have K3 := Lib.hid (K2.out.trans k3)
  have HN := Lib.hid hNS
  obtain ⟨_, _, rfl, _, _⟩ := hNS
  clear hown k3 HC hX HPg HPg1 HRi
  go_wp2_with fail
  refine (behind_any X (places tx) from' _ w3 HN.out hpl).mono ?_
  rintro e w4 ⟨⟨v', rfl, hN4⟩, rfl⟩
  have HN4 := Lib.hid hN4
  obtain ⟨va, vcap, rfl, _, _⟩ := hN4
  have hXc : ¬ inC c a0 b0 X := fun h => by have := hin2.out X h; omega
  go_wp2_with fail
  refine (first_any w1.heap.size c 0 M X _ _ tx is a0 b0 s0 _ fin w3 HC3.out (by omega) (by omega) hp hs0 HR.out htx his (by omega) HN4.out hX2 hXc (Nat.le_trans (List.dropWhile_suffix _).length_le hpl)).mono ?_
  rintro e w5 ⟨rfl, a', b', hC5, _, _, hF5⟩
  have hFh : ¬ inC c a0 b0 w.heap.size := fun h => by have := HIN.out _ h; omega
  have k35 : Keeps (fun x => wA.heap.size ≤ x) wA w5 := (K3.out.mono (fun _ _ e => e.elim)).trans2 (T := inC c a0 b0) hF5.keep (fun x hx h => by have := HIN.out _ h; omega)
  have r0 := k35.cell q0 (by show ¬ wA.heap.size ≤ w.heap.size; omega)
  have r1 := k35.cell q1 (by show ¬ wA.heap.size ≤ w.heap.size; omega)
  have e0 := k35.frozen g0 hlw (by show ¬ wA.heap.size ≤ w.heap.size; omega)
  have e1 := k35.frozen g1 hlw (by show ¬ wA.heap.size ≤ w.heap.size; omega)
  have K5 : Hid (Keeps (fun _ => False) w w5) := Lib.hid ((KW.out.mono (fun _ _ e => e.elim)).trans2 (S := fun _ => False) k35 (fun x hx h => by have := KW.out.size; omega))
  clear k35 hF5 hC5
  go_wp2_with fail
  obtain ⟨z0, z1, kE⟩ := st2_facts w5 w.heap.size r0 r1 (.int .i64 fin.1) (.int .i64 fin.2.1)
  obtain ⟨wE, hWE⟩ : ∃ W, (w5.setCell ⟨w.heap.size, 0, none⟩ (.int .i64 fin.1)).setCell ⟨w.heap.size, 1, none⟩ (.int .i64 fin.2.1) = W := ⟨_, rfl⟩
  rw [hWE] at z0 z1 kE ⊢
  refine bodyPost_ret (by simp [results, Tryz.results28, go_sem, z0, z1]; try rfl) rfl ?_
  exact ⟨rfl, K5.out.trans2 kE (fun x hx h => by omega)⟩
end Go.Proofs.YtpcbfmbpbegjgaaGreat
end
section
namespace Go.Proofs.YtpcbfmbpbegjgaaGreat
open Go.RowKit
set_option linter.unusedVariables false
set_option linter.unusedSimpArgs false
set_option maxRecDepth 100000

/-- All matches, one behind the other, none of them empty. -/
inductive AllR (is : List Ins) (tx : List UInt8) (L0 : List Nat) : Nat → List Nat → Int → List (Int × Int) → Prop
  | nil (last : Int) : AllR is tx L0 0 [] last []
  | stop {m : Nat} {l : List Nat} {last : Int} (hl : l ≠ []) (h : FirstR is tx L0 m l (0, 0, false)) : AllR is tx L0 m l last []
  | far {m m' p e : Nat} {l : List Nat} {last : Int} {r : List (Int × Int)} (hl : l ≠ []) (h : FirstR is tx L0 m l ((p : Int), (e : Int), true)) (hpe : p < e) (hlt : (l.dropWhile (fun q => decide (q < e))).length < l.length) (hr : AllR is tx L0 m' (l.dropWhile (fun q => decide (q < e))) e r) : AllR is tx L0 (m + m') l last (((p : Int), (e : Int)) :: r)
theorem AllR.open {is : List Ins} {tx : List UInt8} {L0 : List Nat} {m : Nat} {l : List Nat} {last : Int} {r : List (Int × Int)} (h : AllR is tx L0 m l last r) (hl : l ≠ []) :
    ∃ (m1 : Nat) (fin : Int × Int × Bool), FirstR is tx L0 m1 l fin ∧ m1 ≤ m ∧ ((fin = (0, 0, false) ∧ r = []) ∨ ∃ (p e m' : Nat) (r' : List (Int × Int)), fin = ((p : Int), (e : Int), true) ∧ p < e ∧ m = m1 + m' ∧ r = ((p : Int), (e : Int)) :: r' ∧ (l.dropWhile (fun q => decide (q < e))).length < l.length ∧ AllR is tx L0 m' (l.dropWhile (fun q => decide (q < e))) e r') := by
  cases h with
  | nil => exact absurd rfl hl
  | stop _ h => exact ⟨_, _, h, Nat.le_refl _, Or.inl ⟨rfl, rfl⟩⟩
  | far _ h hpe hlt hr => exact ⟨_, _, h, by omega, Or.inr ⟨_, _, _, _, rfl, hpe, rfl, rfl, hlt, hr⟩⟩
def AlR (B c M X OB : Nat) (F : Nat → Prop) (pv : Value) (tx : List UInt8) (is : List Ins) (L0 : List Nat) (all : List (Int × Int)) (w0 : World) (ov lv plv : Value) (wr : World) : Prop :=
  ∃ (l : List Nat) (acc rest : List (Int × Int)) (last : Int) (m n : Nat) (a b : TS), lv = .int .i64 last ∧ NS X wr plv l ∧ l.length ≤ 100000 ∧ all = acc ++ rest ∧ AllR is tx L0 m l last rest ∧ Crew B wr c pv tx is a b ∧ a.now ≤ n ∧ b.now ≤ n ∧ n + m ≤ M ∧
    wr.ownsRow OB 38 2 ov acc.length (cellsOf 2 encR acc) ∧ (∀ g, ov.ownBlock = some g → ¬ inC c a b g) ∧ Foot w0 F wr a b
theorem info_hit : (Tryz.prog.info? 38).map (fun i => (i.zero, i.size, i.bytes)) = some (some (.agg #[.int .i64 0, .int .i64 0]), 2, 16) := by kernel_rfl
theorem Foot.inX {w0 w : World} {F : Nat → Prop} {c X : Nat} {a b : TS} (h : Foot w0 F w a b) (hF : F c) (hX : X < w0.heap.size) (hFX : ¬ F X) : ¬ inC c a b X := by
  rintro (rfl | e | e)
  · exact hFX hF
  · exact hFX (h.ina X hX e)
  · exact hFX (h.inb X hX e)
theorem hit_new (w : World) (p e : Int) : Keeps (fun _ => False) w (w.alloc (.cells #[.int .i64 p, .int .i64 e] 38)) ∧ (w.alloc (.cells #[.int .i64 p, .int .i64 e] 38)).cell? ⟨w.heap.size, 0, none⟩ = some (.int .i64 p) ∧ (w.alloc (.cells #[.int .i64 p, .int .i64 e] 38)).cell? ⟨w.heap.size, 1, none⟩ = some (.int .i64 e) :=
  ⟨(Keeps.refl _ _).alloc _, by simp [go_sem], by simp [go_sem]⟩
set_option maxHeartbeats 8000000 in
theorem mall_any (is : List Ins) (pv : Value) (tx : List UInt8) (M : Nat) (all : List (Int × Int)) (s0 : List Nat × (Nat → Bool)) (w : World) (hpg : PgAt w (fun b => b < w.heap.size) pv is) (hok : ∀ (k : Nat) (i : Ins), is[k]? = some i → okI is.length i) (h0 : 0 < is.length) (his : is.length ≤ 1000) (htx : tx.length ≤ 1000)
    (hp : PtR is 0 ([], fun _ => false) s0) (hs0 : s0.1.length ≤ 1000) (hr : AllR is tx s0.1 M (places tx) (-1) all) (hM : M ≤ 900000) (hal : all.length ≤ 100000) (hpl : (places tx).length ≤ 100000) :
    Calls Tryz.prog 30 #[pv, .string ⟨tx.toArray⟩] w fun e w' => ∃ v, e = .returned v ∧ w'.ownsRow w.heap.size 38 2 v all.length (cellsOf 2 encR all) ∧ Keeps (fun _ => False) w w' := by
  obtain ⟨i0, hi, hz0, hz1, hz2⟩ := info_parts info_hit
  obtain ⟨pa, pc, rfl⟩ := hpg.form
  have HPg := Lib.hid hpg
  have HRi := Lib.hid (pright_any is _ _ w hpg hok h0 his)
  have HR := Lib.hid hr
  clear hpg hr hok
  go_enter Tryz.func30, Tryz.ntmps30
  go_wp2_with fail
  refine HRi.out.mono ?_
  rintro e w1 ⟨rfl, k1⟩
  have HPg1 := Lib.hid (HPg.out.keepsTo (Q := fun b => b < w1.heap.size) k1 (fun _ _ => id) (fun b hb => by have := k1.size; omega))
  have K1 := Lib.hid k1
  clear k1
  go_wp2_with fail
  refine (begun_any is _ tx w1 HPg1.out (by omega)).mono ?_
  rintro e w2 ⟨c, a0, b0, rfl, hC, ha0, hb0, hin, k2⟩
  have HC := Lib.hid hC
  have K2 := Lib.hid (K1.out.trans k2)
  have hin2 := Lib.hid (fun x hx => hC.inlt (x := x) hx)
  have HIN := Lib.hid hin
  have hs12 := K1.out.size
  have hs12b := k2.size
  clear hC k2 hin
  go_wp2_with fail
  refine (places_any tx w2 (by omega)).mono ?_
  rintro e w3 ⟨plv, rfl, hown, k3⟩
  obtain ⟨X, hNS, hX⟩ := NS.ofOwn hown
  obtain ⟨hX1, hX2⟩ := hX (by unfold places; simp)
  obtain ⟨F, hF⟩ : ∃ F, F = inC c a0 b0 := ⟨_, rfl⟩
  have FF : Hid (Foot w3 F w3 a0 b0) := Lib.hid (by rw [hF]; exact Foot.start w3 c a0 b0)
  have hFc : F c := by rw [hF]; exact Or.inl rfl
  have hFX : ¬ F X := by rw [hF]; intro h; have := hin2.out X h; omega
  have hFw : Hid (∀ x, F x → w.heap.size ≤ x) := Lib.hid (fun x hx => by rw [hF] at hx; have := HIN.out x hx; omega)
  have HC3 := Lib.hid (HC.out.keeps k3 (fun _ => id))
  have K3 := Lib.hid (K2.out.trans k3)
  have HN := Lib.hid hNS
  have hws : w.heap.size ≤ w3.heap.size := K3.out.size
  have hs23 := k3.size
  obtain ⟨_, _, rfl, _, _⟩ := hNS
  clear hF hown k3 HC hin2 HIN hX HPg HPg1 HRi
  go_wp2_with fail
  go_loopw [6, 7, 8] (fun ov lv pv' wr => AlR w1.heap.size c 900000 X w3.heap.size F (.slice pa is.length pc) tx is s0.1 all w3 ov lv pv' wr) (fun _ _ pv' _ => restLen pv')
  case atStart => exact ⟨places tx, [], all, -1, M, 0, a0, b0, rfl, HN.out, hpl, rfl, HR.out, HC3.out, by omega, by omega, by omega, ⟨rfl, Or.inl ⟨rfl, rfl⟩⟩, fun g hg => by simp [Value.ownBlock] at hg, FF.out⟩
  case round =>
    obtain ⟨l, acc, rest, last, m, n, a, b, rfl, hN, hll, rfl, hA, hC, hna, hnb, hnm, hO, hOC, hFt⟩ := hrel
    have HN1 := Lib.hid hN
    have HA := Lib.hid hA
    have HC := Lib.hid hC
    have HO := Lib.hid hO
    have HOC := Lib.hid hOC
    have HFt := Lib.hid hFt
    have hwr := HFt.out.keep.size
    obtain ⟨av, cap, rfl, _, _⟩ := hN
    obtain ⟨oa, oc, rfl⟩ := ownsRow_slice hO
    clear hA hC hO hOC hFt HR HN HC3
    by_cases hl : l = []
    · subst hl
      obtain rfl : rest = [] := by
        have h := HA.out
        cases h with
        | nil => rfl
        | stop h => exact absurd rfl h
        | far h => exact absurd rfl h
      have KE : Hid (Keeps (fun _ => False) w wr) := Lib.hid (K3.out.trans2 HFt.out.keep (fun x hx h => by have := hFw.out x h; omega))
      have OE : Hid (wr.ownsRow w.heap.size 38 2 (.slice oa acc.length oc) (acc ++ []).length (cellsOf 2 encR (acc ++ []))) := Lib.hid (by simpa using ownsRow_base HO.out hws)
      go_wp2_with fail
      go_ret
      exact ⟨_, rfl, OE.out, KE.out⟩
    · obtain ⟨m1, fin, hf, hm1, hcase⟩ := HA.out.open hl
      have hl0 := List.length_pos_iff.2 hl
      have g0 : decide ((0 : Int) < (l.length : Int)) = true := by simp; omega
      have hFi := first_any w1.heap.size c n m1 X (.slice pa is.length pc) _ tx is a b s0 l fin wr HC.out hna hnb hp hs0 hf htx his (by omega) HN1.out (by omega) (HFt.out.inX hFc hX2 hFX) hll
      have HFi := Lib.hid hFi
      have HCase := Lib.hid hcase
      clear hcase hFi hf
      go_wp2_with fail
      refine HFi.out.mono ?_
      rintro e9 w4 ⟨rfl, a', b', hC4, hna4, hnb4, hFt4⟩
      have hF4 := HFt.out.trans hFc hFt4
      have HO4 := Lib.hid (ownsRow_keeps HO.out hFt4.keep HOC.out)
      have HN4 := Lib.hid (HN1.out.keeps hFt4.keep (HFt.out.inX hFc hX2 hFX))
      have HOC4 : Hid (∀ g, (Value.slice oa acc.length oc).ownBlock = some g → ¬ inC c a' b' g) := Lib.hid (fun g hg hi => by
        have hlt := own_lt HO.out g hg
        have h1 := HOC.out g hg
        rcases hi with rfl | hi | hi
        · exact h1 (Or.inl rfl)
        · exact h1 (hFt4.ina g hlt hi)
        · exact h1 (hFt4.inb g hlt hi))
      have HC4 := Lib.hid hC4
      have HF4 := Lib.hid hF4
      have hs4 := hFt4.keep.size
      clear hC4 hFt4 hF4 HFi
      obtain ⟨f1, f2, ok⟩ := fin
      simp only at HCase ⊢
      obtain ⟨kn, n0, n1⟩ := hit_new w4 f1 f2
      rcases HCase.out with ⟨h1, rfl⟩ | ⟨p, e, m', r', h1, hpe, rfl, rfl, hlt, hA'⟩
      · obtain ⟨rfl, rfl, rfl⟩ : f1 = 0 ∧ f2 = 0 ∧ ok = false := by simpa using h1
        clear h1 HCase
        go_wp2_with fail
        go_ret
        obtain ⟨w5, hw5⟩ : ∃ W, w4.alloc (.cells #[.int .i64 0, .int .i64 0] 38) = W := ⟨_, rfl⟩
        rw [hw5] at kn ⊢
        refine ⟨_, rfl, ?_, (K3.out.trans2 HF4.out.keep (fun x hx h => by have := hFw.out x h; omega)).trans kn⟩
        have := ownsRow_base (ownsRow_keeps HO4.out kn (fun _ _ => id)) hws
        simpa using this
      · obtain ⟨rfl, rfl, rfl⟩ : f1 = (p : Int) ∧ f2 = (e : Int) ∧ ok = true := by simpa using h1
        have HA' := Lib.hid hA'
        have ge1 : ((p : Int) == (e : Int)) = false := beq_eq_false_iff_ne.2 (by omega)
        have ge2 : decide ((p : Int) < (e : Int)) = true := by simp; omega
        clear h1 HCase hA'
        go_wp2_with fail
        obtain ⟨w5, hw5⟩ : ∃ W, w4.alloc (.cells #[.int .i64 (p : Int), .int .i64 (e : Int)] 38) = W := ⟨_, rfl⟩
        rw [hw5] at kn n0 n1 ⊢
        have HC5 := Lib.hid (HC4.out.keeps kn (fun _ => id))
        have HF5 := Lib.hid (HF4.out.keeps kn)
        have HO5 := Lib.hid (ownsRow_keeps HO4.out kn (fun _ _ => id))
        have hs5 := kn.size
        have HBe := Lib.hid (behind_any X l e _ w5 (HN4.out.keeps kn id) hll)
        clear hw5 kn
        refine HBe.out.mono ?_
        rintro e9 w6 ⟨⟨v', rfl, hN6⟩, rfl⟩
        have HN6 := Lib.hid hN6
        obtain ⟨va, vcap, rfl, _, _⟩ := hN6
        have hC5s := fun o => HC5.out.keeps (w' := w5.alloc o) ((Keeps.refl (fun _ => False) w5).alloc o) (fun _ => id)
        clear HBe
        go_wp2_with (at_builtin; refine wpList_append_lies _ rfl (.tmp 52) (.tmp 54) 35 rfl w3.heap.size 38 i0 _ 2 16 Tryz.underlying35 hi hz0 hz1 hz2 rfl (by decide) _ acc.length (cellsOf 2 encR acc) rfl (ownsRow_alloc HO5.out _) ⟨w5.heap.size, 0, none⟩ 1 1 [.int .i64 (p : Int), .int .i64 (e : Int)] rfl rfl (by exact cells_new _ [_, _] _) (by simp [Value.oneCell']) (by decide) (by have := hal; simp at this; unfold maxLen; omega) (by have := hal; simp at this; omega) (by simp; omega) _ rfl ?_)
        intro g cap9 w9 hown9 hgrow9 hat9 hlt9
        have kg : Keeps (fun b => (Value.slice oa acc.length oc).ownBlock = some b) (w5.alloc (.cells #[.int .i64 (p : Int), .int .i64 (e : Int)] 38)) w9 := (Keeps.refl _ _).grown hgrow9 (fun b hb => Or.inl hb)
        have hsg := kg.size
        simp at hsg
        have hOb : ∀ b, (Value.slice oa acc.length oc).ownBlock = some b → w3.heap.size ≤ b ∧ b < w5.heap.size := fun b hb => ⟨ownBlock_base HO5.out b hb, own_lt HO5.out b hb⟩
        have HC9 := Lib.hid ((hC5s _).keepsS kg (fun h => HOC4.out _ h (Or.inl rfl)) (fun x hx h => HOC4.out _ h (Or.inr (Or.inl hx))) (fun x hx h => HOC4.out _ h (Or.inr (Or.inr hx))) (fun x hx h => by have := (hOb x h).1; omega))
        have HF9 : Hid (Foot w3 F w9 a' b') := Lib.hid ⟨(HF5.out.keeps ((Keeps.refl (fun _ => False) w5).alloc _)).keep.trans2 kg (fun x hx h => by have := (hOb x h).1; omega), HF5.out.ina, HF5.out.inb⟩
        have HN9 := Lib.hid ((HN6.out.keeps ((Keeps.refl (fun _ => False) w5).alloc (.cells #[.int .i64 (p : Int), .int .i64 (e : Int)] 38)) id).keeps kg (fun h => by have := (hOb X h).1; omega))
        have HO9 : Hid (w9.ownsRow w3.heap.size 38 2 (.slice (some ⟨g, 0, none⟩) (acc.length + 1) cap9) (acc ++ [((p : Int), (e : Int))]).length (cellsOf 2 encR (acc ++ [((p : Int), (e : Int))]))) := Lib.hid (by
          have e1 : cellsOf 2 encR (acc ++ [((p : Int), (e : Int))]) = cellsOf 2 encR acc ++ [.int .i64 (p : Int), .int .i64 (e : Int)] := by rw [cellsOf_append]; rfl
          rw [e1]; simpa using hown9)
        have HOC9 : Hid (∀ g', (Value.slice (some ⟨g, 0, none⟩) (acc.length + 1) cap9).ownBlock = some g' → ¬ inC c a' b' g') := Lib.hid (fun g' hg' hi => by
          obtain rfl : g = g' := by simpa [Value.ownBlock] using hg'
          rcases hat9 with h | h
          · exact HOC4.out _ h hi
          · have h8 := HC5.out.inlt hi
            have h9 : (w5.alloc (.cells #[.int .i64 (p : Int), .int .i64 (e : Int)] 38)).heap.size = w5.heap.size + 1 := by simp
            omega)
        have n1' := kg.cell (((Keeps.refl (fun _ => False) w5).alloc (.cells #[.int .i64 (p : Int), .int .i64 (e : Int)] 38)).cell n1 id) (by intro h; have h8 : w4.heap.size < w4.heap.size := own_lt HO4.out _ h; omega)
        clear hown9 hgrow9 hat9 kg n0 n1 hC5s
        go_wp2_with fail
        go_roundw
        case rel => exact ⟨_, acc ++ [((p : Int), (e : Int))], r', e, m', n + m1, a', b', rfl, HN9.out, by omega, by simp, HA'.out, HC9.out, hna4, hnb4, by omega, HO9.out, HOC9.out, HF9.out⟩
        case measure => simp only [restLen]; omega
end Go.Proofs.YtpcbfmbpbegjgaaGreat
end
