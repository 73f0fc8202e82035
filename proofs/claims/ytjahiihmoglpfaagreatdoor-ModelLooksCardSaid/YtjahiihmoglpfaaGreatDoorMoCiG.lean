/-
  The teller's context: a hit; context whole.
-/
import Derived.Test.YtjahiihmoglpfaaGreatDoorMg27
namespace Go.Proofs.YtjahiihmoglpfaaGreatDoor
open Go.RowKit
set_option linter.unusedVariables false
set_option linter.unusedSimpArgs false
set_option maxRecDepth 100000
def CiR (t : Tel) (r : Rc) (tb : Nat) (hv : Value) (w : World) (ov iv : Value) (wr : World) : Prop :=
 ∃ i : Nat, iv = .int .i64 i ∧ i ≤ t.held.length ∧ wr.ownsRow (w.heap.size + 1) 9 1 ov (xaU t (t.held.take i)).1.length ((xaU t (t.held.take i)).1.map strL) ∧ TelC wr tb (xaU t (t.held.take i)).2 hv ∧ xaa (fun b => b = tb) w wr ∧
  wr.cell? ⟨w.heap.size, 0, none⟩ = some (.int .i64 r.n) ∧ wr.cell? ⟨w.heap.size, 1, none⟩ = some (.int .i64 r.at') ∧ wr.cell? ⟨w.heap.size, 2, none⟩ = some (.string ⟨r.text.toArray⟩)
theorem xhX (t : Tel) (x : Rc) (sg : UInt8) : 0 < (recL t x sg).length ∧ (recL t x sg).length ≤ 2 := by
 unfold recL
 split <;> simp
theorem xeQ {w : World} {base : Nat} {v : Value} {q : List (List UInt8)} (h : w.ownsRow base 9 1 v q.length (q.map strL)) (h0 : 0 < q.length) : ∃ g cap, v = .slice (some ⟨g, 0, none⟩) q.length cap ∧ base ≤ g ∧ g < w.heap.size ∧ ∀ (j : Nat) (u : Value), (q.map strL)[j]? = some u → w.cell? ((⟨g, 0, none⟩ : Addr).add j) = some u := by
 obtain ⟨g, cap, rfl, hg, hl⟩ := xft h h0
 refine ⟨g, cap, rfl, hg, hl, fun j u hj => ?_⟩
 have := h.cellAt j (by have := (List.getElem?_eq_some_iff.1 hj).1; simpa using this)
 rw [hj] at this
 rw [xfi, Nat.zero_add]; exact this
set_option maxHeartbeats 16000000 in
theorem ctx_hit (t : Tel) (r : Rc) (tb : Nat) (hv : Value) (w : World) (H : TelC w tb t hv) (hh : xba w hv t.held) (hlt : ∀ b, hv.ownBlock = some b → b < w.heap.size ∧ b ≠ tb) (hok : xeF t) (hT : TabW w) (hn : r.n ≤ 1000000) (ht : r.text.length ≤ 100000) :
 Calls Tryz.prog 51 #[.pointer (some ⟨tb, 0, none⟩), rcV r, .bool true] w (CtE (ctxP t r true) tb hv w) := by
 obtain ⟨i0, hi, hz0, hz1, hz2⟩ := info_parts xdW
 obtain ⟨c0, c1, c2, c3, c4, c5, c6, c7, c8, c9, c10⟩ := H.c
 clear c0 c1 c2 c3 c4 c6 c7 c8 c9 c10
 have HP : Hid (ctxP t r true = ((xaU t t.held).1 ++ recL { (xaU t t.held).2 with held := [], more := (xaU t t.held).2.after } r 58, recT { (xaU t t.held).2 with held := [], more := (xaU t t.held).2.after } r)) := xmA (by unfold ctxP; rw [if_pos rfl])
 have HC := xmA H
 have HH := xmA hh
 have HL := xmA hlt
 have HT := xmA hT
 have HOk := xmA hok
 have hlb := H.lt
 obtain ⟨a0, n, cap, rfl⟩ : ∃ a0 n cap, hv = .slice a0 n cap := by
  rcases hh with ⟨rfl, _⟩ | ⟨b, off, n, cap, rfl, _⟩
  · exact ⟨_, _, _, rfl⟩
  exact ⟨_, _, _, rfl⟩
 have Hn : Hid (n = t.held.length) := xmA (by
  rcases hh with ⟨e, e2⟩ | ⟨b, off, n', cap', e, h⟩
  · rw [e2]; exact (Value.slice.inj e).2.1
  rw [(Value.slice.inj e).2.1]; exact h.len)
 have hnb : n ≤ 100000 := by rw [Hn.out]; exact hok.len
 unfold rcV CtE
 generalize ctxP t r true = P at *
 clear H hh hlt hok hT
 go_enter Tryz.func51, Tryz.ntmps51
 go_wp2_with fail
 go_loopw [7, 17] (fun ov iv wr => CiR t r tb (.slice a0 n cap) w ov iv wr) (fun _ iv _ => n - (intOf iv).toNat)
 case atStart =>
  refine ⟨0, rfl, Nat.zero_le _, World.ownsRow_nil _ _ _ _, ?_, KI.out, by simp [go_sem], by simp [go_sem], by simp [go_sem]⟩
  exact HC.out.keeps (S := fun _ => False) (KI.out) id
 case round =>
  obtain ⟨i, rfl, hi', hO, hC, hkw, r0, r1, r2⟩ := hrel
  have hrl := xdz (t.held.take i) t HOk.out.last (fun x hx => (HOk.out.held x (List.mem_of_mem_take hx)).1)
  have hal : (xaU t (t.held.take i)).1.length ≤ 200000 := by
   have := hrl.2.2.2
   rw [List.length_take] at this
   have := HOk.out.len
   omega
  have hll := hrl.1
  have haf := xmA hrl.2.1
  obtain ⟨pi, hpi⟩ : ∃ p, xaU t (t.held.take i) = p := ⟨_, rfl⟩
  rw [hpi] at hO hC hal hll haf
  obtain ⟨acc, ti⟩ := pi
  simp only at hO hC hal hll haf
  have Hpi := xmA hpi
  obtain ⟨oa, oc, rfl⟩ := xad hO
  have HO := xmA hO
  have HCi := xmA hC
  have HK := xmA hkw
  have hsw := hkw.size
  have hin : i ≤ n := by rw [Hn.out]; exact hi'
  clear hO hC hpi hrl hkw hi'
  by_cases hil : i < n
  · obtain ⟨b, off, hSo, hab⟩ : ∃ b off, xbs w b off n cap t.held ∧ a0 = some ⟨b, off, none⟩ := by
     rcases HH.out with ⟨e, e2⟩ | ⟨b, off, n', cap', e, h⟩
     · have := (Value.slice.inj e).2.1; omega
     obtain ⟨rfl, rfl, rfl⟩ := Value.slice.inj e
     exact ⟨b, off, h, rfl⟩
    subst hab
    have hbtb : b ≠ tb := (HL.out b rfl).2
    obtain ⟨x, hx⟩ : ∃ x, t.held[i]? = some x := ⟨_, List.getElem?_eq_getElem (by rw [← Hn.out]; exact hil)⟩
    have hxk := HOk.out.held x (List.mem_of_getElem? hx)
    have hg := fun j hj => hSo.cells (i * 3 + j) _ (xaz 3 xbe t.held i x hx j hj)
    have x0 := HK.out.cell (hg 0 (by omega)) hbtb
    have x1 := HK.out.cell (hg 1 (by omega)) hbtb
    have x2 := HK.out.cell (hg 2 (by omega)) hbtb
    rw [← Nat.add_assoc] at x0 x1 x2
    simp only [xbe, Nat.add_zero, if_true, Nat.one_ne_zero, if_false, show (2 : Nat) ≠ 0 by decide, show (2 : Nat) ≠ 1 by decide] at x0 x1 x2
    have htk : t.held.take (i + 1) = t.held.take i ++ [x] := by rw [List.take_add_one, hx]; rfl
    have HPn : Hid (xaU t (t.held.take (i + 1)) = (acc ++ recL ti x 45, recT ti x)) := xmA (by rw [htk, xeX, Hpi.out])
    obtain ⟨w1, hw1⟩ : ∃ W, wr.alloc (.cells #[.int .i64 (x.n : Int), .int .i64 (x.at' : Int), .string ⟨x.text.toArray⟩] 39) = W := ⟨_, rfl⟩
    have hk1 : xaa (fun _ => False) wr w1 := by rw [← hw1]; exact (xaa.refl _ _).alloc _
    have HW1 := xmA hw1
    have HK1 := xmA hk1
    have HR := xmA (xcI ti x 45 tb (.slice (some ⟨b, off, none⟩) n cap) w1 (HCi.out.keeps hk1 id) ((HT.out.keepsS HK.out (fun e => HC.out.ne e.symm)).keeps hk1) hxk.1 hxk.2 hll)
    have hrl := xhX ti x 45
    unfold RcE rcV at HR
    generalize recL ti x 45 = RL at *
    generalize recT ti x = TN at *
    clear hx hg hSo htk hw1 hk1 hxk
    go_wp2_with fail
    rw [HW1.out]
    refine HR.out.mono ?_
    rintro e w2 ⟨v, rfl, hO2, hC2, k2⟩
    obtain ⟨g, vc, rfl, hg1, hg2, hcs⟩ := xeQ hO2 hrl.1
    have hs1 := HK1.out.size
    have hs2 := k2.size
    have HCs := xmA hcs
    have HO2 := xmA (xae (xcl HO.out HK1.out) k2 (fun b hb e => by have := xab HO.out b hb; have e : b = tb := e; omega))
    have HC2 := xmA hC2
    have HK2 : Hid (xaa (fun b => b = tb) w w2) := xmA ((HK.out.trans (HK1.out.mono (fun _ _ h => h.elim))).trans k2)
    have q0 := k2.cell (HK1.out.cell r0 id) (by show ¬ w.heap.size = tb; omega)
    have q1 := k2.cell (HK1.out.cell r1 id) (by show ¬ w.heap.size = tb; omega)
    have q2 := k2.cell (HK1.out.cell r2 id) (by show ¬ w.heap.size = tb; omega)
    clear hO2 hC2 k2 hcs r0 r1 r2 x0 x1 x2
    go_wp2_with (at_builtin; refine wpList_append_own _ rfl (.tmp 21) (.tmp 24) 28 rfl (w.heap.size + 1) 9 i0 _ 1 16 Tryz.underlying28 hi hz0 hz1 hz2 rfl (by decide) _ acc.length (acc.map strL) rfl HO2.out ⟨g, 0, none⟩ RL.length vc (RL.map strL) rfl (by simp) HCs.out (by intro u hu; simp at hu; obtain ⟨y, _, rfl⟩ := hu; rfl) (by unfold maxLen; omega) (by omega) (by omega) ?_)
    intro v9 w9 hown9 hgrow9 _
    have kg : xaa (fun b => w.heap.size + 1 ≤ b) w2 w9 := (xaa.refl (fun b => w.heap.size + 1 ≤ b) w2).grown hgrow9 (fun b hb => Or.inl (xab HO2.out b hb))
    have HK9 : Hid (xaa (fun b => b = tb) w w9) := xmA (HK2.out.trans2 kg (fun i hi e => by omega))
    have HC9 := xmA (HC2.out.keeps kg (by show ¬ _ ≤ tb; omega))
    have p0 := kg.cell q0 (by show ¬ _ ≤ w.heap.size; omega)
    have p1 := kg.cell q1 (by show ¬ _ ≤ w.heap.size; omega)
    have p2 := kg.cell q2 (by show ¬ _ ≤ w.heap.size; omega)
    have HO9 : Hid (w9.ownsRow (w.heap.size + 1) 9 1 v9 (acc ++ RL).length ((acc ++ RL).map strL)) := xmA (by rw [List.length_append, List.map_append]; exact hown9)
    clear hown9 hgrow9 kg q0 q1 q2
    go_wp2_with fail
    go_roundw
    case rel => exact ⟨i + 1, by go_num, by rw [← Hn.out]; omega, by rw [HPn.out]; exact HO9.out, by rw [HPn.out]; exact HC9.out, HK9.out, p0, p1, p2⟩
    case measure => simp [intOf]; omega
  have htk : t.held.take i = t.held := List.take_of_length_le (by rw [← Hn.out]; omega)
  have HPE : Hid (xaU t t.held = (acc, ti)) := xmA (by rw [← Hpi.out, htk])
  have y5 := HCi.out.fz 5
  have y6 := HCi.out.fz 6
  obtain ⟨_, _, f2, _, _, f5, f6, _, _, _, _⟩ := HCi.out.c
  have hlr := HCi.out.lt
  have haf2 : (ti.after : Int) ≤ 100000 := by have := HOk.out.after; rw [haf.out]; omega
  obtain ⟨w1, hw1⟩ : ∃ W, (wr.setCell ⟨tb, 5, none⟩ (.slice none 0 0)).setCell ⟨tb, 6, none⟩ (.int .i64 (ti.after : Int)) = W := ⟨_, rfl⟩
  have hk1 : xaa (fun b => b = tb) wr w1 := by
   rw [← hw1]
   exact ((xaa.refl (fun b => b = tb) wr).set (p := ⟨tb, 5, none⟩) rfl _).set (p := ⟨tb, 6, none⟩) rfl _
  obtain ⟨tj, htj⟩ : ∃ tj, { ti with held := [], more := ti.after } = tj := ⟨_, rfl⟩
  have hC1 : TelC w1 tb tj (.slice none 0 0) := by
   rw [← hw1, ← htj]
   exact (HCi.out.heldTo (.slice none 0 0) []).more ti.after
  have HPF : Hid (P = (acc ++ recL tj r 58, recT tj r)) := xmA (by rw [HP.out, HPE.out, htj])
  have hlj : tj.last ≤ 1000000 := by rw [← htj]; exact hll
  have hhj : Hid ((recT tj r).held = []) := xmA (by rw [← htj]; rfl)
  have HW1 := xmA hw1
  have HK1 := xmA hk1
  have HR := xmA (xcI tj r 58 tb (.slice none 0 0) w1 hC1 ((HT.out.keepsS HK.out (fun e => HC.out.ne e.symm)).keepsS hk1 (fun e => HC.out.ne e.symm)) hn ht hlj)
  have hrl := xhX tj r 58
  have HO1 := xmA (xae HO.out hk1 (fun b hb e => by have := xab HO.out b hb; have e : b = tb := e; omega))
  have hs1 := hk1.size
  unfold RcE rcV at HR
  generalize recL tj r 58 = RL at *
  generalize recT tj r = TN at *
  clear htk hw1 hk1 hC1 htj
  go_wp2_with fail
  rw [HW1.out]
  refine HR.out.mono ?_
  rintro e w2 ⟨v, rfl, hO2, hC2, k2⟩
  obtain ⟨g, vc, rfl, hg1, hg2, hcs⟩ := xeQ hO2 hrl.1
  have hs2 := k2.size
  have HCs := xmA hcs
  have HO2 := xmA (xae HO1.out k2 (fun b hb e => by have := xab HO1.out b hb; have e : b = tb := e; omega))
  have HC2 := xmA hC2
  have HK2 : Hid (xaa (fun b => b = tb) w w2) := xmA ((HK.out.trans HK1.out).trans k2)
  clear hO2 hC2 k2 hcs f2 f5 f6 y5 y6 r0 r1 r2
  go_wp2_with (at_builtin; refine wpList_append_own _ rfl (.tmp 37) (.tmp 40) 28 rfl (w.heap.size + 1) 9 i0 _ 1 16 Tryz.underlying28 hi hz0 hz1 hz2 rfl (by decide) _ acc.length (acc.map strL) rfl HO2.out ⟨g, 0, none⟩ RL.length vc (RL.map strL) rfl (by simp) HCs.out (by intro u hu; simp at hu; obtain ⟨y, _, rfl⟩ := hu; rfl) (by unfold maxLen; omega) (by omega) (by omega) ?_)
  intro v9 w9 hown9 hgrow9 _
  have kg : xaa (fun b => w.heap.size + 1 ≤ b) w2 w9 := (xaa.refl (fun b => w.heap.size + 1 ≤ b) w2).grown hgrow9 (fun b hb => Or.inl (xab HO2.out b hb))
  have HK9 : Hid (xaa (fun b => b = tb) w w9) := xmA (HK2.out.trans2 kg (fun i hi e => by omega))
  have HC9 := xmA (HC2.out.keeps kg (by show ¬ _ ≤ tb; omega))
  have HO9 : Hid (w9.ownsRow (w.heap.size + 1) 9 1 v9 (acc ++ RL).length ((acc ++ RL).map strL)) := xmA (by rw [List.length_append, List.map_append]; exact hown9)
  clear hown9 hgrow9 kg
  go_wp2_with fail
  go_ret
  rw [HPF.out]
  exact ⟨_, .slice none 0 0, rfl, xag HO9.out (by omega), HC9.out, Or.inl ⟨rfl, hhj.out⟩, fun b hb => by simp [Value.ownBlock] at hb, fun b hb => by simp [Value.ownBlock] at hb, HK9.out.mono (fun _ _ h => Or.inl h)⟩
theorem xhC (t : Tel) (r : Rc) (hit : Bool) (tb : Nat) (hv : Value) (w : World) (H : TelC w tb t hv) (hh : xba w hv t.held) (hlt : ∀ b, hv.ownBlock = some b → b < w.heap.size ∧ b ≠ tb) (hok : xeF t) (hT : TabW w) (hn : r.n ≤ 1000000) (ht : r.text.length ≤ 100000) :
 Calls Tryz.prog 51 #[.pointer (some ⟨tb, 0, none⟩), rcV r, .bool hit] w (CtE (ctxP t r hit) tb hv w) := by
 cases hit with
 | true => exact ctx_hit t r tb hv w H hh hlt hok hT hn ht
 | false =>
  by_cases hm : 0 < t.more
  · exact xl8 t r tb hv w H hh hlt hok hT hn ht hm
  by_cases hb : 0 < t.before
  · exact xl9 t r tb hv w H hh hlt hok hm hb
  exact xl7 t r tb hv w H hh (fun b h => (hlt b h).1) hm hb
end Go.Proofs.YtjahiihmoglpfaaGreatDoor
