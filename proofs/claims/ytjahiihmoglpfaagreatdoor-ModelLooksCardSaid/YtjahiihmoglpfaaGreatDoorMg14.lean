/-
  Several texts in one: (*crew).first. match.begun, First. match.All.
-/
import Derived.Test.YtjahiihmoglpfaaGreatDoorMg13
import Derived.Laws.MakeOwn
import Derived.Deep.AppendLies
namespace Go.Proofs.YtjahiihmoglpfaaGreatDoor
open Go.RowKit
set_option linter.unusedVariables false
set_option linter.unusedSimpArgs false
set_option maxRecDepth 100000
inductive xbF (is : List Ins) (tx : List UInt8) : Nat → List Nat → Int × Int × Bool → Prop
 | none : xbF is tx 0 [] (0, 0, false)
 | hit {p k : Nat} {l : List Nat} {e : Int} (hp : p ≤ tx.length) (h : xgT is tx p k e) (he : 0 ≤ e) : xbF is tx (k + 1) (p :: l) (p, e, true)
 | miss {p k m : Nat} {l : List Nat} {e : Int} {r : Int × Int × Bool} (hp : p ≤ tx.length) (h : xgT is tx p k e) (he : e < 0) (hr : xbF is tx m l r) : xbF is tx (k + 1 + m) (p :: l) r
theorem Foot.trans {w0 w w' : World} {F : Nat → Prop} {c : Nat} {a b a' b' : TS} (h : Foot w0 F w a b) (hF : F c) (k : Foot w (inC c a b) w' a' b') : Foot w0 F w' a' b' := by
 have hin : ∀ x, x < w0.heap.size → inC c a b x → F x := fun x hx hi => by
  rcases hi with rfl | hi | hi
  · exact hF
  · exact h.ina x hx hi
  exact h.inb x hx hi
 have hsz := h.keep.size
 exact ⟨h.keep.trans2 k.keep hin, fun x hx hi => hin x hx (k.ina x (by omega) hi), fun x hx hi => hin x hx (k.inb x (by omega) hi)⟩
theorem Foot.down {w w1 W : World} {F : Nat → Prop} {a b : TS} (h : Foot w1 F W a b) (K : xaa (fun _ => False) w w1) : Foot w F W a b :=
 ⟨(K.mono (fun _ _ e => e.elim)).trans2 h.keep (fun _ _ e => e), fun x hx => h.ina x (by have := K.size; omega), fun x hx => h.inb x (by have := K.size; omega)⟩
theorem Crew.keepsS {S : Nat → Prop} {B c : Nat} {w w' : World} {pv : Value} {tx : List UInt8} {is : List Ins} {a b : TS} (h : Crew B w c pv tx is a b) (K : xaa S w w') (hc : ¬ S c) (ha : ∀ x, a.inn x → ¬ S x) (hb : ∀ x, b.inn x → ¬ S x) (hB : ∀ x, x < B → ¬ S x) : Crew B w' c pv tx is a b :=
 ⟨by rw [K.block c h.ltc hc]; exact h.bk, Thr.keeps h.ta K ha, Thr.keeps h.tb K hb, h.dis, h.ca, h.cb, h.cB, h.pg.keepsTo K hB (fun _ h => h)⟩
theorem xf5 (w : World) (h : Nat) {u0 v0 : Value} (r0 : w.cell? ⟨h, 0, none⟩ = some u0) (r1 : w.cell? ⟨h, 1, none⟩ = some v0) (u v : Value) :
 ((w.setCell ⟨h, 0, none⟩ u).setCell ⟨h, 1, none⟩ v).cell? ⟨h, 0, none⟩ = some u ∧ ((w.setCell ⟨h, 0, none⟩ u).setCell ⟨h, 1, none⟩ v).cell? ⟨h, 1, none⟩ = some v ∧ xaa (fun b => b = h) w ((w.setCell ⟨h, 0, none⟩ u).setCell ⟨h, 1, none⟩ v) := by
 refine ⟨?_, ?_, ((xaa.refl (fun b => b = h) w).set (p := ⟨h, 0, none⟩) rfl _).set (p := ⟨h, 1, none⟩) rfl _⟩
 · rw [xaf (by simp)]; exact xas r0
 exact xas (by rw [xaf (by simp)]; exact r1)
theorem xmv {w wA w3 wE : World} {B c n M h : Nat} {F : Nat → Prop} {pv : Value} {tx : List UInt8} {is : List Ins} {a b : TS} (KW : xaa (fun _ => False) w wA) (hC : Crew B w3 c pv tx is a b) (ha : a.now ≤ n) (hb : b.now ≤ n) (hn : n ≤ M) (hF : Foot wA F w3 a b) (hh : h = w.heap.size) (hlw : h < wA.heap.size) (hFh : ¬ F h) (hch : c < h) (kE : xaa (fun b => b = h) w3 wE) :
 ∃ a b, Crew B wE c pv tx is a b ∧ a.now ≤ M ∧ b.now ≤ M ∧ Foot w F wE a b := by
 have ia : ¬ a.inn h := fun e => hFh (hF.ina h hlw e)
 have ib : ¬ b.inn h := fun e => hFh (hF.inb h hlw e)
 have hcB := hC.cB
 exact ⟨a, b, hC.keepsS kE (by omega) (fun x hx e => ia (e ▸ hx)) (fun x hx e => ib (e ▸ hx)) (fun x hx e => by omega), by omega, by omega,
  ⟨((hF.down KW).keep).trans2 kE (fun x hx e => by omega), (hF.down KW).ina, (hF.down KW).inb⟩⟩
def FisR (B c M : Nat) (F : Nat → Prop) (pv : Value) (tx : List UInt8) (is : List Ins) (l : List Nat) (fin : Int × Int × Bool) (wA : World) (iv : Value) (wr : World) : Prop :=
 ∃ (i m n : Nat) (a b : TS), iv = .int .i64 i ∧ i ≤ l.length ∧ Crew B wr c pv tx is a b ∧ a.now ≤ n ∧ b.now ≤ n ∧ n + m ≤ M ∧ xbF is tx m (l.drop i) fin ∧ Foot wA F wr a b
set_option maxHeartbeats 8000000 in
theorem xkx (B c N M X : Nat) (pv v : Value) (tx : List UInt8) (is : List Ins) (a0 b0 : TS) (l : List Nat) (fin : Int × Int × Bool) (w : World) (hC : Crew B w c pv tx is a0 b0) (ha : a0.now ≤ N) (hb : b0.now ≤ N) (hr : xbF is tx M l fin)
 (htx : tx.length ≤ 4000) (his : is.length ≤ 4000) (hN : N + M ≤ 1000000000000) (hv : NS X w v l) (hX : X < w.heap.size) (hFX : ¬ inC c a0 b0 X) (hl : l.length ≤ 100000) :
 Calls Tryz.prog 80 #[.pointer (some ⟨c, 0, none⟩), v] w fun e w' => e = .returned (.tuple #[.agg #[.int .i64 fin.1, .int .i64 fin.2.1], .bool fin.2.2]) ∧ ∃ a b, Crew B w' c pv tx is a b ∧ a.now ≤ N + M ∧ b.now ≤ N + M ∧ Foot w (inC c a0 b0) w' a b := by
 obtain ⟨wA, hwA⟩ : ∃ W, W = w.alloc (.cells #[.int .i64 0, .int .i64 0] 99) := ⟨_, rfl⟩
 have kw : xaa (fun _ => False) w wA := by rw [hwA]; exact (xaa.refl _ _).alloc _
 have q0 : wA.cell? ⟨w.heap.size, 0, none⟩ = some (.int .i64 0) := by rw [hwA]; simp [go_sem]
 have q1 : wA.cell? ⟨w.heap.size, 1, none⟩ = some (.int .i64 0) := by rw [hwA]; simp [go_sem]
 have hq : wA.heap[w.heap.size]? = some (.cells #[.int .i64 0, .int .i64 0] 99 (0, 0)) := by rw [hwA]; exact heap_alloc_new w _
 have g0 : wA.frozen? ⟨w.heap.size, 0, none⟩ = false := Lib.frozen_of_heap hq 0
 have g1 : wA.frozen? ⟨w.heap.size, 1, none⟩ = false := Lib.frozen_of_heap hq 1
 have hlw : w.heap.size < wA.heap.size := xan q0
 obtain ⟨F, hF0⟩ : ∃ F, F = inC c a0 b0 := ⟨_, rfl⟩
 have F0 : Foot wA F wA a0 b0 := by
  rw [hF0]; exact Foot.start wA c a0 b0
 have hFc : F c := by rw [hF0]; exact Or.inl rfl
 have hch : c < w.heap.size := hC.ltc
 have hFh : ¬ F w.heap.size := by
  rw [hF0]
  rintro (e | e | e)
  · have := hC.ltc; omega
  · have := (Thr.inlt hC.ta e).1; omega
  have := (Thr.inlt hC.tb e).1; omega
 rw [← hF0] at hFX ⊢
 have HCA := xmA (hC.keeps kw (fun _ => id))
 have HNS := xmA (hv.keeps kw id)
 obtain ⟨av, cap0, rfl, hcap0, hcc0⟩ := hv
 have HR := xmA hr
 have KW := xmA kw
 have FF := xmA F0
 clear hcc0 hr kw F0 hF0 hC
 go_enter Tryz.func80, Tryz.ntmps80
 go_wp2_with fail
 rw [← hwA]
 clear hwA
 go_loopw [11] (fun iv wr => FisR B c (N + M) F pv tx is l fin wA iv wr) (fun iv _ => l.length - (intOf iv).toNat)
 case atStart => exact ⟨0, M, N, a0, b0, rfl, Nat.zero_le _, HCA.out, ha, hb, Nat.le_refl _, HR.out, FF.out⟩
 case round =>
  obtain ⟨i, m, n, a, b, rfl, hi, hC, hna, hnb, hnm, hFr, hFt⟩ := hrel
  have HC := xmA hC
  have HFt := xmA hFt
  have HFr := xmA hFr
  have r0 := hFt.keep.cell q0 hFh
  have r1 := hFt.keep.cell q1 hFh
  have e0 := hFt.keep.frozen g0 hlw hFh
  have e1 := hFt.keep.frozen g1 hlw hFh
  obtain ⟨av', cap', hve, _, hcc⟩ := HNS.out.keeps hFt.keep hFX
  obtain ⟨rfl, _, rfl⟩ := Value.slice.inj hve
  clear hFr hC hFt hve
  by_cases hil : i < l.length
  · obtain ⟨p, hpi⟩ : ∃ p, l[i]? = some p := ⟨_, List.getElem?_eq_getElem hil⟩
    obtain ⟨off, rfl, hc2⟩ := hcc (by intro h; rw [h] at hil; simp at hil)
    have cp := hc2 i p hpi
    have hXr : X < wr.heap.size := xan cp
    have hdr : l.drop i = p :: l.drop (i + 1) := by
     obtain ⟨h1, h2⟩ := List.getElem?_eq_some_iff.1 hpi
     rw [List.drop_eq_getElem_cons h1, h2]
    obtain ⟨k, e, hpt, hLr, hcase⟩ : ∃ (k : Nat) (e : Int), p ≤ tx.length ∧ xgT is tx p k e ∧ ((0 ≤ e ∧ fin = ((p : Int), e, true) ∧ m = k + 1) ∨ (e < 0 ∧ ∃ m', m = k + 1 + m' ∧ xbF is tx m' (l.drop (i + 1)) fin)) := by
     have h := HFr.out
     rw [hdr] at h
     cases h with
     | hit hp h he => exact ⟨_, _, hp, h, Or.inl ⟨he, rfl, rfl⟩⟩
     | miss hp h he hr => exact ⟨_, _, hp, h, Or.inr ⟨he, _, rfl, hr⟩⟩
    have HLo := xmA (xhr B c (n + k + 1) pv tx is a b p k e wr HC.out hLr hpt htx his (by rcases hcase with ⟨_, _, h⟩ | ⟨_, m', h, _⟩ <;> omega) (by omega) (by omega))
    clear hcc hc2 hdr hpi hLr HFr
    go_wp2_with fail
    refine HLo.out.mono ?_
    rintro e9 w3 ⟨rfl, a', b', hC3, hna3, hnb3, hFt3⟩
    have hF3 := HFt.out.trans hFc hFt3
    clear r0 r1 e0 e1
    have r0 := hF3.keep.cell q0 hFh
    have r1 := hF3.keep.cell q1 hFh
    have e0 := hF3.keep.frozen g0 hlw hFh
    have e1 := hF3.keep.frozen g1 hlw hFh
    have hl3 : w.heap.size < w3.heap.size := xan r0
    have HC3 := xmA hC3
    have HF3 := xmA hF3
    clear hC3 hFt3 hF3
    rcases hcase with ⟨he, rfl, rfl⟩ | ⟨he, m', rfl, hrest⟩
    · have ge : decide ((0 : Int) ≤ e) = true := by simpa using he
      go_wp2_with fail
      obtain ⟨z0, z1, kE⟩ := xf5 w3 w.heap.size r0 r1 (.int .i64 (p : Int)) (.int .i64 e)
      obtain ⟨wE, hWE⟩ : ∃ W, (w3.setCell ⟨w.heap.size, 0, none⟩ (.int .i64 (p : Int))).setCell ⟨w.heap.size, 1, none⟩ (.int .i64 e) = W := ⟨_, rfl⟩
      rw [hWE] at z0 z1 kE ⊢
      refine bodyPost_ret (by simp [results, Tryz.results80, go_sem, z0, z1]; try rfl) rfl ?_
      exact ⟨rfl, xmv KW.out HC3.out hna3 hnb3 (by omega) HF3.out rfl hlw hFh hch kE⟩
    have ge : decide ((0 : Int) ≤ e) = false := by simp; omega
    have HRest := xmA hrest
    clear hrest
    go_wp2_with fail
    go_roundw
    case rel => exact ⟨i + 1, m', n + k + 1, a', b', by go_num, by omega, HC3.out, hna3, hnb3, by omega, HRest.out, HF3.out⟩
    case measure => simp [intOf]; omega
  have hie : i = l.length := by omega
  subst hie
  obtain ⟨rfl, rfl⟩ : fin = (0, 0, false) ∧ m = 0 := by
   have h := HFr.out
   rw [List.drop_length] at h
   cases h; exact ⟨rfl, rfl⟩
  go_wp2_with fail
  obtain ⟨z0, z1, kE⟩ := xf5 wr w.heap.size r0 r1 (.int .i64 0) (.int .i64 0)
  obtain ⟨wE, hWE⟩ : ∃ W, (wr.setCell ⟨w.heap.size, 0, none⟩ (.int .i64 0)).setCell ⟨w.heap.size, 1, none⟩ (.int .i64 0) = W := ⟨_, rfl⟩
  rw [hWE] at z0 z1 kE ⊢
  refine bodyPost_ret (by simp [results, Tryz.results80, go_sem, z0, z1]; try rfl) rfl ?_
  exact ⟨rfl, xmv KW.out HC.out hna hnb (by omega) HFt.out rfl hlw hFh hch kE⟩
def BegE (w : World) (is : List Ins) (pv : Value) (tx : List UInt8) (e : Ending) (w' : World) : Prop :=
 ∃ (c : Nat) (a b : TS), e = .returned (.pointer (some ⟨c, 0, none⟩)) ∧ Crew w.heap.size w' c pv tx is a b ∧ a.now = 0 ∧ b.now = 0 ∧ (∀ x, inC c a b x → w.heap.size ≤ x) ∧ xaa (fun _ => False) w w'
theorem Crew.inlt {B c : Nat} {w : World} {pv : Value} {tx : List UInt8} {is : List Ins} {a b : TS} (h : Crew B w c pv tx is a b) {x : Nat} (hx : inC c a b x) : x < w.heap.size := by
 rcases hx with rfl | e | e
 · exact h.ltc
 · exact (Thr.inlt h.ta e).1
 exact (Thr.inlt h.tb e).1
theorem made_at (n i : Nat) (h : i < n) : (madeCells #[Value.int .i64 0] n)[i]? = some (.int .i64 0) := by
 simp [madeCells, h, Nat.mod_one]
theorem xjE {B : Nat} {w : World} {n t m : Nat} (h1 : w.heap[t]? = some (.cells #[.slice none 0 0, .slice (some ⟨m, 0, none⟩) n n, .int .i64 0] 190 (0, 0))) (h2 : w.heap[m]? = some (.cells (madeCells #[Value.int .i64 0] n) 3 (0, 0))) (b1 : B ≤ t) (b2 : B ≤ m) (hne : t ≠ m) :
 (⟨t, m, .slice none 0 0, [], fun _ => true, 0⟩ : TS).at B n w := by
 have hm : m < w.heap.size := (Array.getElem?_eq_some_iff.1 h2).1
 refine ⟨h1, ⟨rfl, Or.inl ⟨rfl, rfl⟩⟩, ⟨fun _ => 0, fun i hi => ⟨?_, Lib.frozen_of_heap h2 i, Nat.le_refl _, by simp⟩⟩, b1, b2, hm, hne, by simp [Value.ownBlock], by simp [Value.ownBlock]⟩
 rw [Lib.cell_of_heap h2]
 exact made_at n i hi
theorem xcE {w w' : World} {is : List Ins} {pv : Value} {tx : List UInt8} (hpg : PgAt w (fun b => b < w.heap.size) pv is) {cs : Array Value} (hcs : cs = madeCells #[Value.int .i64 0] is.length) (K : xaa (fun _ => False) w w') (c t1 m1 t2 m2 : Nat)
 (h1 : w'.heap[t1]? = some (.cells #[.slice none 0 0, .slice (some ⟨m1, 0, none⟩) is.length is.length, .int .i64 0] 190 (0, 0))) (h2 : w'.heap[m1]? = some (.cells cs 3 (0, 0)))
 (h3 : w'.heap[t2]? = some (.cells #[.slice none 0 0, .slice (some ⟨m2, 0, none⟩) is.length is.length, .int .i64 0] 190 (0, 0))) (h4 : w'.heap[m2]? = some (.cells cs 3 (0, 0)))
 (h5 : w'.heap[c]? = some (.cells #[pv, .string ⟨tx.toArray⟩, .pointer (some ⟨t1, 0, none⟩), .pointer (some ⟨t2, 0, none⟩)] 192 (0, 0)))
 (hb : w.heap.size ≤ c ∧ w.heap.size ≤ t1 ∧ w.heap.size ≤ m1 ∧ w.heap.size ≤ t2 ∧ w.heap.size ≤ m2) (hd : t1 ≠ m1 ∧ t2 ≠ m2 ∧ t1 ≠ t2 ∧ t1 ≠ m2 ∧ m1 ≠ t2 ∧ m1 ≠ m2 ∧ c ≠ t1 ∧ c ≠ m1 ∧ c ≠ t2 ∧ c ≠ m2) :
 BegE w is pv tx (.returned (.pointer (some ⟨c, 0, none⟩))) w' := by
 subst hcs
 obtain ⟨b1, b2, b3, b4, b5⟩ := hb
 obtain ⟨d1, d2, d3, d4, d5, d6, d7, d8, d9, d10⟩ := hd
 have ina : ∀ x, (⟨t1, m1, .slice none 0 0, [], fun _ => true, 0⟩ : TS).inn x → x = t1 ∨ x = m1 := fun x h => by
  rcases h with h | h | h
  · exact Or.inl h
  · exact Or.inr h
  simp [Value.ownBlock] at h
 have inb : ∀ x, (⟨t2, m2, .slice none 0 0, [], fun _ => true, 0⟩ : TS).inn x → x = t2 ∨ x = m2 := fun x h => by
  rcases h with h | h | h
  · exact Or.inl h
  · exact Or.inr h
  simp [Value.ownBlock] at h
 refine ⟨c, ⟨t1, m1, .slice none 0 0, [], fun _ => true, 0⟩, ⟨t2, m2, .slice none 0 0, [], fun _ => true, 0⟩, rfl,
  ⟨h5, xjE h1 h2 b2 b3 d1, xjE h3 h4 b4 b5 d2, fun x ha hb => ?_, fun h => ?_, fun h => ?_, b1, hpg.keepsTo K (fun _ _ => id) (fun _ h => h)⟩, rfl, rfl, fun x h => ?_, K⟩
 · rcases ina x ha with rfl | rfl <;> rcases inb _ hb with h | h <;> omega
 · rcases ina c h with h | h <;> omega
 · rcases inb c h with h | h <;> omega
 rcases h with rfl | h | h
 · exact b1
 · rcases ina x h with rfl | rfl <;> assumption
 rcases inb x h with rfl | rfl <;> assumption
theorem xbu {h : Array Obj} {o x : Obj} {k : Nat} (e : h[k]? = some x) : (h.push o)[k]? = some x := by
 have := (Array.getElem?_eq_some_iff.1 e).1
 rw [Array.getElem?_push, if_neg (by omega)]; exact e
theorem xc5 (h : Array Obj) (o : Obj) : (h.push o)[h.size]? = some o := by simp
theorem xbj (h : Array Obj) (o0 o1 o2 o3 o4 : Obj) : (((((h.push o0).push o1).push o2).push o3).push o4)[h.size]? = some o0 ∧ (((((h.push o0).push o1).push o2).push o3).push o4)[h.size + 1]? = some o1 ∧ (((((h.push o0).push o1).push o2).push o3).push o4)[h.size + 1 + 1]? = some o2 ∧ (((((h.push o0).push o1).push o2).push o3).push o4)[h.size + 1 + 1 + 1]? = some o3 ∧ (((((h.push o0).push o1).push o2).push o3).push o4)[h.size + 1 + 1 + 1 + 1]? = some o4 := by
 have s1 : (h.push o0).size = h.size + 1 := Array.size_push _
 have s2 : ((h.push o0).push o1).size = h.size + 1 + 1 := by rw [Array.size_push, s1]
 have s3 : (((h.push o0).push o1).push o2).size = h.size + 1 + 1 + 1 := by rw [Array.size_push, s2]
 have s4 : ((((h.push o0).push o1).push o2).push o3).size = h.size + 1 + 1 + 1 + 1 := by rw [Array.size_push, s3]
 refine ⟨xbu (xbu (xbu (xbu (xc5 _ _)))), ?_, ?_, ?_, ?_⟩
 · rw [← s1]; exact xbu (xbu (xbu (xc5 _ _)))
 · rw [← s2]; exact xbu (xbu (xc5 _ _))
 · rw [← s3]; exact xbu (xc5 _ _)
 rw [← s4]; exact xc5 _ _
theorem xkr : (Tryz.prog.info? 3).map (fun i => (i.zero, i.size, i.bytes)) = some (some (.int .i64 0), 1, 8) := by kernel_rfl
set_option maxHeartbeats 8000000 in
theorem xkS (is : List Ins) (pv : Value) (tx : List UInt8) (w : World) (h : PgAt w (fun b => b < w.heap.size) pv is) (hn : is.length ≤ 1000000000000) :
 Calls Tryz.prog 78 #[pv, .string ⟨tx.toArray⟩] w fun e w' => BegE w is pv tx e w' := by
 obtain ⟨i0, hi, hz0, hz1, hz2⟩ := info_parts xkr
 obtain ⟨a, c, rfl⟩ := h.form
 have HPg := xmA h
 have hmk : ∀ W : World, (Instr.makeSlice 23 (.int .i64 (is.length : Int)) (.int .i64 (is.length : Int))).run Tryz.prog W = .ok (.slice (some ⟨W.heap.size, 0, none⟩) is.length is.length) (W.alloc (.cells (madeCells #[.int .i64 0] is.length) 3)) := fun W => by
  have := run_make (P := Tryz.prog) W 23 3 i0 (.int .i64 0) Tryz.underlying23 hi hz0 .i64 .i64 (is.length : Int) (is.length : Int) (by omega) (Int.le_refl _) (by rw [hz2]; omega) (by omega)
  rw [hz1, Int.toNat_natCast, Nat.mul_one] at this
  exact this
 obtain ⟨cs, hcs⟩ : ∃ cs, cs = madeCells #[Value.int .i64 0] is.length := ⟨_, rfl⟩
 rw [← hcs] at hmk
 have HCs := xmA hcs
 clear h hcs
 go_enter Tryz.func78, Tryz.ntmps78
 go_wp2_with fail
 go_region
 all_goals
  go_wp2_with fail
  go_ret
  first | exact xcE HPg.out HCs.out (KI.out) (w.heap.size + 1 + 1 + 1 + 1) (w.heap.size + 1) (w.heap.size) (w.heap.size + 1 + 1 + 1) (w.heap.size + 1 + 1) (xbj w.heap _ _ _ _ _).2.1 (xbj w.heap _ _ _ _ _).1 (xbj w.heap _ _ _ _ _).2.2.2.1 (xbj w.heap _ _ _ _ _).2.2.1 (xbj w.heap _ _ _ _ _).2.2.2.2 (by omega) (by omega) | exact xcE HPg.out HCs.out (KI.out) (w.heap.size + 1 + 1 + 1 + 1) (w.heap.size + 1 + 1) (w.heap.size) (w.heap.size + 1 + 1 + 1) (w.heap.size + 1) (xbj w.heap _ _ _ _ _).2.2.1 (xbj w.heap _ _ _ _ _).1 (xbj w.heap _ _ _ _ _).2.2.2.1 (xbj w.heap _ _ _ _ _).2.1 (xbj w.heap _ _ _ _ _).2.2.2.2 (by omega) (by omega) | exact xcE HPg.out HCs.out (KI.out) (w.heap.size + 1 + 1 + 1 + 1) (w.heap.size + 1 + 1) (w.heap.size + 1) (w.heap.size + 1 + 1 + 1) (w.heap.size) (xbj w.heap _ _ _ _ _).2.2.1 (xbj w.heap _ _ _ _ _).2.1 (xbj w.heap _ _ _ _ _).2.2.2.1 (xbj w.heap _ _ _ _ _).1 (xbj w.heap _ _ _ _ _).2.2.2.2 (by omega) (by omega) | exact xcE HPg.out HCs.out (KI.out) (w.heap.size + 1 + 1 + 1 + 1) (w.heap.size + 1 + 1 + 1) (w.heap.size) (w.heap.size + 1 + 1) (w.heap.size + 1) (xbj w.heap _ _ _ _ _).2.2.2.1 (xbj w.heap _ _ _ _ _).1 (xbj w.heap _ _ _ _ _).2.2.1 (xbj w.heap _ _ _ _ _).2.1 (xbj w.heap _ _ _ _ _).2.2.2.2 (by omega) (by omega) | exact xcE HPg.out HCs.out (KI.out) (w.heap.size + 1 + 1 + 1 + 1) (w.heap.size + 1 + 1 + 1) (w.heap.size + 1) (w.heap.size + 1 + 1) (w.heap.size) (xbj w.heap _ _ _ _ _).2.2.2.1 (xbj w.heap _ _ _ _ _).2.1 (xbj w.heap _ _ _ _ _).2.2.1 (xbj w.heap _ _ _ _ _).1 (xbj w.heap _ _ _ _ _).2.2.2.2 (by omega) (by omega) | exact xcE HPg.out HCs.out (KI.out) (w.heap.size + 1 + 1 + 1 + 1) (w.heap.size + 1 + 1 + 1) (w.heap.size + 1 + 1) (w.heap.size + 1) (w.heap.size) (xbj w.heap _ _ _ _ _).2.2.2.1 (xbj w.heap _ _ _ _ _).2.2.1 (xbj w.heap _ _ _ _ _).2.1 (xbj w.heap _ _ _ _ _).1 (xbj w.heap _ _ _ _ _).2.2.2.2 (by omega) (by omega)
inductive AllR (is : List Ins) (tx : List UInt8) : Nat → List Nat → Int → List (Int × Int) → Prop
 | nil (last : Int) : AllR is tx 0 [] last []
 | stop {m : Nat} {l : List Nat} {last : Int} (hl : l ≠ []) (h : xbF is tx m l (0, 0, false)) : AllR is tx m l last []
 | far {m m' p e : Nat} {l : List Nat} {last : Int} {r : List (Int × Int)} (hl : l ≠ []) (h : xbF is tx m l ((p : Int), (e : Int), true)) (hpe : p < e) (hlt : (l.dropWhile (fun q => decide (q < e))).length < l.length) (hr : AllR is tx m' (l.dropWhile (fun q => decide (q < e))) e r) : AllR is tx (m + m') l last (((p : Int), (e : Int)) :: r)
 | same {m m' p x : Nat} {l q : List Nat} {last : Int} {r : List (Int × Int)} (hl : l ≠ []) (h : xbF is tx m l ((p : Int), (p : Int), true)) (hd : l.dropWhile (fun q => decide (q < p)) = x :: q) (he : last = p) (hr : AllR is tx m' q last r) : AllR is tx (m + m') l last r
 | void {m m' p x : Nat} {l q : List Nat} {last : Int} {r : List (Int × Int)} (hl : l ≠ []) (h : xbF is tx m l ((p : Int), (p : Int), true)) (hd : l.dropWhile (fun q => decide (q < p)) = x :: q) (he : last ≠ p) (hr : AllR is tx m' q p r) : AllR is tx (m + m') l last (((p : Int), (p : Int)) :: r)
def NextR (is : List Ins) (tx : List UInt8) (m' p e : Nat) (l : List Nat) (last : Int) (r : List (Int × Int)) : Prop :=
 (p < e ∧ ∃ r', r = ((p : Int), (e : Int)) :: r' ∧ (l.dropWhile (fun q => decide (q < e))).length < l.length ∧ AllR is tx m' (l.dropWhile (fun q => decide (q < e))) e r') ∨
 (p = e ∧ ∃ x q, l.dropWhile (fun q => decide (q < e)) = x :: q ∧ ((last = e ∧ AllR is tx m' q last r) ∨ (last ≠ e ∧ ∃ r', r = ((e : Int), (e : Int)) :: r' ∧ AllR is tx m' q e r')))
theorem AllR.open {is : List Ins} {tx : List UInt8} {m : Nat} {l : List Nat} {last : Int} {r : List (Int × Int)} (h : AllR is tx m l last r) (hl : l ≠ []) :
 ∃ (m1 : Nat) (fin : Int × Int × Bool), xbF is tx m1 l fin ∧ m1 ≤ m ∧ ((fin = (0, 0, false) ∧ r = []) ∨ ∃ (p e m' : Nat), fin = ((p : Int), (e : Int), true) ∧ m = m1 + m' ∧ NextR is tx m' p e l last r) := by
 cases h with
 | nil => exact absurd rfl hl
 | stop _ h => exact ⟨_, _, h, Nat.le_refl _, Or.inl ⟨rfl, rfl⟩⟩
 | far _ h hpe hlt hr => exact ⟨_, _, h, by omega, Or.inr ⟨_, _, _, rfl, rfl, Or.inl ⟨hpe, _, rfl, hlt, hr⟩⟩⟩
 | same _ h hd he hr => exact ⟨_, _, h, by omega, Or.inr ⟨_, _, _, rfl, rfl, Or.inr ⟨rfl, _, _, hd, Or.inl ⟨he, hr⟩⟩⟩⟩
 | void _ h hd he hr => exact ⟨_, _, h, by omega, Or.inr ⟨_, _, _, rfl, rfl, Or.inr ⟨rfl, _, _, hd, Or.inr ⟨he, _, rfl, hr⟩⟩⟩⟩
def AlR (B c M X OB : Nat) (F : Nat → Prop) (pv : Value) (tx : List UInt8) (is : List Ins) (all : List (Int × Int)) (w0 : World) (ov lv plv : Value) (wr : World) : Prop :=
 ∃ (l : List Nat) (acc rest : List (Int × Int)) (last : Int) (m n : Nat) (a b : TS), lv = .int .i64 last ∧ NS X wr plv l ∧ l.length ≤ 100000 ∧ all = acc ++ rest ∧ AllR is tx m l last rest ∧ Crew B wr c pv tx is a b ∧ a.now ≤ n ∧ b.now ≤ n ∧ n + m ≤ M ∧
  wr.ownsRow OB 99 2 ov acc.length (cellsOf 2 encR acc) ∧ (∀ g, ov.ownBlock = some g → ¬ inC c a b g) ∧ Foot w0 F wr a b
theorem xfA : (Tryz.prog.info? 99).map (fun i => (i.zero, i.size, i.bytes)) = some (some (.agg #[.int .i64 0, .int .i64 0]), 2, 16) := by kernel_rfl
theorem Foot.inX {w0 w : World} {F : Nat → Prop} {c X : Nat} {a b : TS} (h : Foot w0 F w a b) (hF : F c) (hX : X < w0.heap.size) (hFX : ¬ F X) : ¬ inC c a b X := by
 rintro (rfl | e | e)
 · exact hFX hF
 · exact hFX (h.ina X hX e)
 exact hFX (h.inb X hX e)
theorem hit_new (w : World) (p e : Int) : xaa (fun _ => False) w (w.alloc (.cells #[.int .i64 p, .int .i64 e] 99)) ∧ (w.alloc (.cells #[.int .i64 p, .int .i64 e] 99)).cell? ⟨w.heap.size, 0, none⟩ = some (.int .i64 p) ∧ (w.alloc (.cells #[.int .i64 p, .int .i64 e] 99)).cell? ⟨w.heap.size, 1, none⟩ = some (.int .i64 e) :=
 ⟨(xaa.refl _ _).alloc _, by simp [go_sem], by simp [go_sem]⟩
theorem xhO {B c g k cap n : Nat} {w0 w5 w9 : World} {F : Nat → Prop} {pv ov : Value} {tx : List UInt8} {is : List Ins} {a b : TS} {e : TypeId} {xs : List Value} {o : Obj} (hC : Crew B w5 c pv tx is a b) (hF : Foot w0 F w5 a b) (hO : w5.ownsRow w0.heap.size e 2 ov n xs) (hOC : ∀ g, ov.ownBlock = some g → ¬ inC c a b g) (hB : B ≤ w0.heap.size)
 (hg : (w5.alloc o).grownBy w9 ov.ownBlock) (hat : ov.ownBlock = some g ∨ g = w5.heap.size + 1) : Crew B w9 c pv tx is a b ∧ Foot w0 F w9 a b ∧ (∀ g', (Value.slice (some ⟨g, 0, none⟩) k cap).ownBlock = some g' → ¬ inC c a b g') ∧ (∀ (X : Nat) (v : Value) (l : List Nat), NS X w5 v l → X < w0.heap.size → NS X w9 v l) ∧ (∀ (h o : Nat) (u : Value), w5.cell? ⟨h, o, none⟩ = some u → ov.ownBlock ≠ some h → w9.cell? ⟨h, o, none⟩ = some u) := by
 have ka : xaa (fun _ => False) w5 (w5.alloc o) := (xaa.refl _ _).alloc _
 have kg : xaa (fun b => ov.ownBlock = some b) (w5.alloc o) w9 := (xaa.refl _ _).grown hg (fun b hb => Or.inl hb)
 have hOb : ∀ b, ov.ownBlock = some b → w0.heap.size ≤ b ∧ b < w5.heap.size := fun b hb => ⟨xab hO b hb, xax hO b hb⟩
 have hsa : (w5.alloc o).heap.size = w5.heap.size + 1 := by simp
 have hCa := hC.keeps ka (fun _ => id)
 refine ⟨hCa.keepsS kg (fun h => hOC _ h (Or.inl rfl)) (fun x hx h => hOC _ h (Or.inr (Or.inl hx))) (fun x hx h => hOC _ h (Or.inr (Or.inr hx))) (fun x hx h => by have := (hOb x h).1; omega),
  ⟨(hF.keeps ka).keep.trans2 kg (fun x hx h => by have := (hOb x h).1; omega), hF.ina, hF.inb⟩, fun g' hg' hi => ?_, fun X v l hN hX => (hN.keeps ka id).keeps kg (fun h => by have := (hOb X h).1; omega), fun h o u hc hn => kg.cell (ka.cell hc id) hn⟩
 obtain rfl : g = g' := by simpa [Value.ownBlock] using hg'
 rcases hat with h | h
 · exact hOC _ h hi
 have h8 := hC.inlt hi
 omega
theorem xer (acc : List (Int × Int)) (p e : Int) : cellsOf 2 encR (acc ++ [(p, e)]) = cellsOf 2 encR acc ++ [.int .i64 p, .int .i64 e] := by rw [xai]; rfl
set_option maxHeartbeats 8000000 in
theorem xlM (is : List Ins) (pv : Value) (tx : List UInt8) (M : Nat) (all : List (Int × Int)) (w : World) (hpg : PgAt w (fun b => b < w.heap.size) pv is) (hok : ∀ (k : Nat) (i : Ins), is[k]? = some i → okI is.length i) (h0 : 0 < is.length) (his : is.length ≤ 4000) (htx : tx.length ≤ 4000)
 (hr : AllR is tx M (xbr tx) (-1) all) (hM : M ≤ 900000000000) (hal : all.length ≤ 100000) (hpl : (xbr tx).length ≤ 100000) :
 Calls Tryz.prog 45 #[pv, .string ⟨tx.toArray⟩] w fun e w' => ∃ v, e = .returned v ∧ w'.ownsRow w.heap.size 99 2 v all.length (cellsOf 2 encR all) ∧ xaa (fun _ => False) w w' := by
 obtain ⟨i0, hi, hz0, hz1, hz2⟩ := info_parts xfA
 obtain ⟨pa, pc, rfl⟩ := hpg.form
 have HPg := xmA hpg
 have HRi := xmA (xiP is _ _ w hpg hok h0 his)
 have HR := xmA hr
 clear hpg hr hok
 go_enter Tryz.func45, Tryz.ntmps45
 go_wp2_with fail
 refine HRi.out.mono ?_
 rintro e w1 ⟨rfl, k1⟩
 have HPg1 := xmA (HPg.out.keepsTo (Q := fun b => b < w1.heap.size) k1 (fun _ _ => id) (fun b hb => by have := k1.size; omega))
 have K1 := xmA k1
 clear k1
 go_wp2_with fail
 refine (xkS is _ tx w1 HPg1.out (by omega)).mono ?_
 rintro e w2 ⟨c, a0, b0, rfl, hC, ha0, hb0, hin, k2⟩
 have HC := xmA hC
 have K2 := xmA (K1.out.trans k2)
 have hin2 := xmA (fun x hx => hC.inlt (x := x) hx)
 have HIN := xmA hin
 have hs12 := K1.out.size
 have hs12b := k2.size
 clear hC k2 hin
 go_wp2_with fail
 refine (xiS tx w2 (by omega)).mono ?_
 rintro e w3 ⟨plv, rfl, hown, k3⟩
 obtain ⟨X, hNS, hX⟩ := NS.ofOwn hown
 obtain ⟨hX1, hX2⟩ := hX (by unfold xbr; simp)
 obtain ⟨F, hF⟩ : ∃ F, F = inC c a0 b0 := ⟨_, rfl⟩
 have FF : Hid (Foot w3 F w3 a0 b0) := xmA (by rw [hF]; exact Foot.start w3 c a0 b0)
 have hFc : F c := by rw [hF]; exact Or.inl rfl
 have hFX : ¬ F X := by rw [hF]; intro h; have := hin2.out X h; omega
 have hFw : Hid (∀ x, F x → w.heap.size ≤ x) := xmA (fun x hx => by rw [hF] at hx; have := HIN.out x hx; omega)
 have HC3 := xmA (HC.out.keeps k3 (fun _ => id))
 have K3 := xmA (K2.out.trans k3)
 have HN := xmA hNS
 have hws : w.heap.size ≤ w3.heap.size := K3.out.size
 have hs23 := k3.size
 obtain ⟨_, _, rfl, _, _⟩ := hNS
 clear hF hown k3 HC hin2 HIN hX HPg HPg1 HRi
 go_wp2_with fail
 go_loopw [6, 7, 8] (fun ov lv pv' wr => AlR w1.heap.size c 900000000000 X w3.heap.size F (.slice pa is.length pc) tx is all w3 ov lv pv' wr) (fun _ _ pv' _ => xaR pv')
 case atStart => exact ⟨xbr tx, [], all, -1, M, 0, a0, b0, rfl, HN.out, hpl, rfl, HR.out, HC3.out, by omega, by omega, by omega, ⟨rfl, Or.inl ⟨rfl, rfl⟩⟩, fun g hg => by simp [Value.ownBlock] at hg, FF.out⟩
 case round =>
  obtain ⟨l, acc, rest, last, m, n, a, b, rfl, hN, hll, rfl, hA, hC, hna, hnb, hnm, hO, hOC, hFt⟩ := hrel
  have HN1 := xmA hN
  have HA := xmA hA
  have HC := xmA hC
  have HO := xmA hO
  have HOC := xmA hOC
  have HFt := xmA hFt
  have hwr := HFt.out.keep.size
  obtain ⟨av, cap, rfl, _, _⟩ := hN
  obtain ⟨oa, oc, rfl⟩ := xad hO
  clear hA hC hO hOC hFt HR HN HC3
  by_cases hl : l = []
  · subst hl
    obtain rfl : rest = [] := by
     have h := HA.out
     cases h with
     | nil => rfl
     | stop h => exact absurd rfl h
     | far h => exact absurd rfl h
     | same h => exact absurd rfl h
     | void h => exact absurd rfl h
    have KE : Hid (xaa (fun _ => False) w wr) := xmA (K3.out.trans2 HFt.out.keep (fun x hx h => by have := hFw.out x h; omega))
    have OE : Hid (wr.ownsRow w.heap.size 99 2 (.slice oa acc.length oc) (acc ++ []).length (cellsOf 2 encR (acc ++ []))) := xmA (by simpa using xag HO.out hws)
    go_wp2_with fail
    go_ret
    exact ⟨_, rfl, OE.out, KE.out⟩
  obtain ⟨m1, fin, hf, hm1, hcase⟩ := HA.out.open hl
  have hl0 := List.length_pos_iff.2 hl
  have g0 : decide ((0 : Int) < (l.length : Int)) = true := by simp; omega
  have hFi := xkx w1.heap.size c n m1 X (.slice pa is.length pc) _ tx is a b l fin wr HC.out hna hnb hf htx his (by omega) HN1.out (by omega) (HFt.out.inX hFc hX2 hFX) hll
  have HFi := xmA hFi
  have HCase := xmA hcase
  clear hcase hFi hf
  go_wp2_with fail
  refine HFi.out.mono ?_
  rintro e9 w4 ⟨rfl, a', b', hC4, hna4, hnb4, hFt4⟩
  have hF4 := HFt.out.trans hFc hFt4
  have HO4 := xmA (xae HO.out hFt4.keep HOC.out)
  have HN4 := xmA (HN1.out.keeps hFt4.keep (HFt.out.inX hFc hX2 hFX))
  have HOC4 : Hid (∀ g, (Value.slice oa acc.length oc).ownBlock = some g → ¬ inC c a' b' g) := xmA (fun g hg hi => by
   have hlt := xax HO.out g hg
   have h1 := HOC.out g hg
   rcases hi with rfl | hi | hi
   · exact h1 (Or.inl rfl)
   · exact h1 (hFt4.ina g hlt hi)
   exact h1 (hFt4.inb g hlt hi))
  have HC4 := xmA hC4
  have HF4 := xmA hF4
  have hs4 := hFt4.keep.size
  clear hC4 hFt4 hF4 HFi
  obtain ⟨f1, f2, ok⟩ := fin
  simp only at HCase ⊢
  obtain ⟨kn, n0, n1⟩ := hit_new w4 f1 f2
  rcases HCase.out with ⟨h1, rfl⟩ | ⟨p, e, m', h1, rfl, hnx⟩
  · obtain ⟨rfl, rfl, rfl⟩ : f1 = 0 ∧ f2 = 0 ∧ ok = false := by simpa using h1
    clear h1 HCase
    go_wp2_with fail
    go_ret
    obtain ⟨w5, hw5⟩ : ∃ W, w4.alloc (.cells #[.int .i64 0, .int .i64 0] 99) = W := ⟨_, rfl⟩
    rw [hw5] at kn ⊢
    refine ⟨_, rfl, ?_, (K3.out.trans2 HF4.out.keep (fun x hx h => by have := hFw.out x h; omega)).trans kn⟩
    have := xag (xae HO4.out kn (fun _ _ => id)) hws
    simpa using this
  obtain ⟨rfl, rfl, rfl⟩ : f1 = (p : Int) ∧ f2 = (e : Int) ∧ ok = true := by simpa using h1
  have HNx := xmA hnx
  clear h1 HCase hnx
  go_wp2_with fail
  obtain ⟨w5, hw5⟩ : ∃ W, w4.alloc (.cells #[.int .i64 (p : Int), .int .i64 (e : Int)] 99) = W := ⟨_, rfl⟩
  rw [hw5] at kn n0 n1 ⊢
  have HC5 := xmA (HC4.out.keeps kn (fun _ => id))
  have HF5 := xmA (HF4.out.keeps kn)
  have HO5 := xmA (xae HO4.out kn (fun _ _ => id))
  have hs5 := kn.size
  have HBe := xmA (xjo X l e _ w5 (HN4.out.keeps kn id) hll)
  clear hw5 kn
  refine HBe.out.mono ?_
  rintro e9 w6 ⟨⟨v', rfl, hN6⟩, rfl⟩
  have HN6 := xmA hN6
  clear HBe hN6
  rcases HNx.out with ⟨hpe, r', rfl, hlt, hA'⟩ | ⟨rfl, x, q, hd, hcs⟩
  · obtain ⟨va, vcap, rfl, _, _⟩ := HN6.out
    have HA' := xmA hA'
    have ge1 : ((p : Int) == (e : Int)) = false := beq_eq_false_iff_ne.2 (by omega)
    have ge2 : decide ((p : Int) < (e : Int)) = true := by simp; omega
    clear hA' HNx
    go_wp2_with (at_builtin; refine wpList_append_lies _ rfl (.tmp 52) (.tmp 54) 40 rfl w3.heap.size 99 i0 _ 2 16 Tryz.underlying40 hi hz0 hz1 hz2 rfl (by decide) _ acc.length (cellsOf 2 encR acc) rfl (xac HO5.out _) ⟨w5.heap.size, 0, none⟩ 1 1 [.int .i64 (p : Int), .int .i64 (e : Int)] rfl rfl (by exact xak _ [_, _] _) (by simp [Value.oneCell']) (by decide) (by have := hal; simp at this; unfold maxLen; omega) (by have := hal; simp at this; omega) (by simp; omega) _ rfl ?_)
    intro g cap9 w9 hown9 hgrow9 hat9 hlt9
    obtain ⟨hC9, hF9, hOC9, hN9, hc9⟩ := xhO (k := acc.length + 1) (cap := cap9) HC5.out HF5.out HO5.out HOC4.out (by omega) hgrow9 hat9
    have HC9 := xmA hC9
    have HF9 := xmA hF9
    have HOC9 := xmA hOC9
    have HN9 := xmA (hN9 X _ _ HN6.out hX2)
    have n1' := hc9 w4.heap.size 1 _ n1 (by intro h; have h8 : w4.heap.size < w4.heap.size := xax HO4.out _ h; omega)
    have HO9 : Hid (w9.ownsRow w3.heap.size 99 2 (.slice (some ⟨g, 0, none⟩) (acc.length + 1) cap9) (acc ++ [((p : Int), (e : Int))]).length (cellsOf 2 encR (acc ++ [((p : Int), (e : Int))]))) := xmA (by rw [xer]; simpa using hown9)
    clear hown9 hgrow9 hat9 n0 n1 hC9 hF9 hOC9 hN9 hc9
    go_wp2_with fail
    go_roundw
    case rel => exact ⟨_, acc ++ [((p : Int), (e : Int))], r', e, m', n + m1, a', b', rfl, HN9.out, by omega, by simp, HA'.out, HC9.out, hna4, hnb4, by omega, HO9.out, HOC9.out, HF9.out⟩
    case measure => simp only [xaR]; omega
  rw [hd] at HN6
  have hql : q.length < l.length := by
   have h8 := (List.dropWhile_suffix (l := l) (fun q => decide (q < p))).length_le
   rw [hd] at h8
   exact h8
  obtain ⟨va, vcap, rfl, hcap, hcell⟩ := HN6.out
  obtain ⟨off, rfl, hcc⟩ := hcell (by simp)
  simp only [List.length_cons] at hcap
  have HCC := xmA hcc
  have ge1 : ((p : Int) == (p : Int)) = true := by simp
  have ge2 : decide ((p : Int) < (p : Int)) = false := by simp
  have HCs := xmA hcs
  clear hcs HNx hcc hcell hd HN6
  by_cases hc1 : vcap = 1
  · subst hc1
    obtain rfl : q = [] := List.length_eq_zero_iff.1 (by omega)
    rcases HCs.out with ⟨rfl, hA'⟩ | ⟨hla, r', rfl, hA'⟩
    · have HA' := xmA hA'
      have ge3 : ((p : Int) != (p : Int)) = false := by simp
      clear hA' HCs
      go_wp2_with fail
      go_roundw
      case rel => exact ⟨[], acc, rest, p, m', n + m1, a', b', rfl, ⟨_, _, rfl, Nat.le_refl _, fun h => absurd rfl h⟩, by simp, rfl, HA'.out, HC5.out, hna4, hnb4, by omega, HO5.out, HOC4.out, HF5.out⟩
      case measure => simp only [xaR]; omega
    have HA' := xmA hA'
    have ge3 : ((p : Int) != last) = true := by simp only [bne_iff_ne, ne_eq]; omega
    clear hA' HCs
    go_wp2_with (at_builtin; refine wpList_append_lies _ rfl (.tmp 52) (.tmp 54) 40 rfl w3.heap.size 99 i0 _ 2 16 Tryz.underlying40 hi hz0 hz1 hz2 rfl (by decide) _ acc.length (cellsOf 2 encR acc) rfl (xac HO5.out _) ⟨w5.heap.size, 0, none⟩ 1 1 [.int .i64 (p : Int), .int .i64 (p : Int)] rfl rfl (by exact xak _ [_, _] _) (by simp [Value.oneCell']) (by decide) (by have := hal; simp at this; unfold maxLen; omega) (by have := hal; simp at this; omega) (by simp; omega) _ rfl ?_)
    intro g cap9 w9 hown9 hgrow9 hat9 hlt9
    obtain ⟨hC9, hF9, hOC9, hN9, hc9⟩ := xhO (k := acc.length + 1) (cap := cap9) HC5.out HF5.out HO5.out HOC4.out (by omega) hgrow9 hat9
    have HC9 := xmA hC9
    have HF9 := xmA hF9
    have HOC9 := xmA hOC9
    have HN9 := xmA (hN9 X (.slice (some ⟨X, off, none⟩) 0 0) [] ⟨_, _, rfl, Nat.le_refl _, fun h => absurd rfl h⟩ hX2)
    have n1' := hc9 w4.heap.size 1 _ n1 (by intro h; have h8 : w4.heap.size < w4.heap.size := xax HO4.out _ h; omega)
    have HO9 : Hid (w9.ownsRow w3.heap.size 99 2 (.slice (some ⟨g, 0, none⟩) (acc.length + 1) cap9) (acc ++ [((p : Int), (p : Int))]).length (cellsOf 2 encR (acc ++ [((p : Int), (p : Int))]))) := xmA (by rw [xer]; simpa using hown9)
    clear hown9 hgrow9 hat9 n0 n1 hC9 hF9 hOC9 hN9 hc9
    go_wp2_with fail
    go_roundw
    case rel => exact ⟨[], acc ++ [((p : Int), (p : Int))], r', p, m', n + m1, a', b', rfl, HN9.out, by omega, by simp, HA'.out, HC9.out, hna4, hnb4, by omega, HO9.out, HOC9.out, HF9.out⟩
    case measure => simp only [xaR]; omega
  have hc2 : 1 < vcap := by omega
  have HNt : Hid (NS X w5 (.slice (some ⟨X, off + 1, none⟩) (q.length + 1 - 1) (vcap - 1)) q) := xmA (NS.tail (x := x) (n := q.length + 1) rfl hcap HCC.out (fun h => rfl))
  rcases HCs.out with ⟨rfl, hA'⟩ | ⟨hla, r', rfl, hA'⟩
  · have HA' := xmA hA'
    have ge3 : ((p : Int) != (p : Int)) = false := by simp
    clear hA' HCs
    go_wp2_with fail
    go_roundw
    case rel => exact ⟨q, acc, rest, p, m', n + m1, a', b', rfl, by simpa using HNt.out, by omega, rfl, HA'.out, HC5.out, hna4, hnb4, by omega, HO5.out, HOC4.out, HF5.out⟩
    case measure => simp only [xaR]; omega
  have HA' := xmA hA'
  have ge3 : ((p : Int) != last) = true := by simp only [bne_iff_ne, ne_eq]; omega
  clear hA' HCs
  go_wp2_with (at_builtin; refine wpList_append_lies _ rfl (.tmp 52) (.tmp 54) 40 rfl w3.heap.size 99 i0 _ 2 16 Tryz.underlying40 hi hz0 hz1 hz2 rfl (by decide) _ acc.length (cellsOf 2 encR acc) rfl (xac HO5.out _) ⟨w5.heap.size, 0, none⟩ 1 1 [.int .i64 (p : Int), .int .i64 (p : Int)] rfl rfl (by exact xak _ [_, _] _) (by simp [Value.oneCell']) (by decide) (by have := hal; simp at this; unfold maxLen; omega) (by have := hal; simp at this; omega) (by simp; omega) _ rfl ?_)
  intro g cap9 w9 hown9 hgrow9 hat9 hlt9
  obtain ⟨hC9, hF9, hOC9, hN9, hc9⟩ := xhO (k := acc.length + 1) (cap := cap9) HC5.out HF5.out HO5.out HOC4.out (by omega) hgrow9 hat9
  have HC9 := xmA hC9
  have HF9 := xmA hF9
  have HOC9 := xmA hOC9
  have HN9 := xmA (hN9 X _ _ HNt.out hX2)
  have n1' := hc9 w4.heap.size 1 _ n1 (by intro h; have h8 : w4.heap.size < w4.heap.size := xax HO4.out _ h; omega)
  have HO9 : Hid (w9.ownsRow w3.heap.size 99 2 (.slice (some ⟨g, 0, none⟩) (acc.length + 1) cap9) (acc ++ [((p : Int), (p : Int))]).length (cellsOf 2 encR (acc ++ [((p : Int), (p : Int))]))) := xmA (by rw [xer]; simpa using hown9)
  clear hown9 hgrow9 hat9 n0 n1 hC9 hF9 hOC9 hN9 hc9
  go_wp2_with fail
  go_roundw
  case rel => exact ⟨q, acc ++ [((p : Int), (p : Int))], r', p, m', n + m1, a', b', rfl, by simpa using HN9.out, by omega, by simp, HA'.out, HC9.out, hna4, hnb4, by omega, HO9.out, HOC9.out, HF9.out⟩
  case measure => simp only [xaR]; omega
end Go.Proofs.YtjahiihmoglpfaaGreatDoor
