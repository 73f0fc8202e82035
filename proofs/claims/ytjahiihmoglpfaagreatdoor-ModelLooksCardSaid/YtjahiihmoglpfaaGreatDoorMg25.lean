/-
  Several texts in one: The decoder's take. The decoder's New, Write, Close. strings.Join over a row of texts that the call owns; strconv.Itoa where its table lies. What the laws over the parser take from the program's text: the listed table. mode's number; hits cloned, none left out.
-/
import Derived.Test.YtjahiihmoglpfaaGreatDoorMg24
import Derived.Test.YtjahiihmoglpfaaGreatDoorMg19
import Derived.Test.YtjahiihmoglpfaaGreatDoorMg20
import Derived.Test.YtjahiihmoglpfaaGreatDoorShelf
import Derived.Lib.SmallJoins
import Derived.Lib.AppendIntMem
import Derived.Test.YtjahiihmoglpfaaGreatDoorRows
import Derived.Test.YtjahiihmoglpfaaGreatDoorCards
import Derived.Test.YtjahiihmoglpfaaGreatDoorTie
import Derived.ProofKit
import Derived.LaidMore
import Derived.Lib.LaidTab
import Derived.Stop.LaidErr
import Derived.OpenShut
import Derived.ShutString
import Derived.ChangeOld
import Derived.Stop.Joined
import Derived.SevenTiedAt
import Derived.Lib.ItoaLen
namespace Go.Proofs.YtjahiihmoglpfaaGreatDoor
open Go.RowKit
set_option linter.unusedVariables false
set_option linter.unusedSimpArgs false
set_option maxRecDepth 100000
theorem xlX (c : UInt8) (t : List UInt8) : isB (((getP (c :: t)).1.toNat : Nat) : Int) = true := by
 rw [xif, getP]
 by_cases h0 : lenP c.toNat = 0 ∨ t.length + 1 < lenP c.toNat
 · rw [if_pos h0]; rfl
 rw [if_neg h0]
 cases xa4 (xb6 c) (t.take (lenP c.toNat - 1)) with
 | none => rfl
 | some r =>
  show isB (if sizP r = lenP c.toNat then ((r : Int), lenP c.toNat) else (65533, 1)).1 = true
  by_cases hs : sizP r = lenP c.toNat
  · rw [if_pos hs]
    unfold sizP at hs
    by_cases hb : isB (r : Int) = true
    · exact hb
    rw [if_neg hb] at hs; omega
  rw [if_neg hs]; rfl
theorem xgB (us : List Nat) (h : ∀ u ∈ us, u < 65536) : isB ((xa8 us).1 : Int) = true := by
 rcases us with _ | ⟨u, _ | ⟨v, r⟩⟩
 · show isB ((65533 : Nat) : Int) = true
   rw [xbV]; omega
 · have hu := h u (by simp)
   simp only [xa8]
   by_cases g : 55296 ≤ u ∧ u < 57344
   · rw [if_pos g, xbV]; omega
   rw [if_neg g, xbV]; omega
 have hu := h u (by simp)
 simp only [xa8]
 by_cases g : 56320 ≤ u ∧ u < 57344
 · rw [if_pos g, xbV]; omega
 rw [if_neg g]
 by_cases g2 : 55296 ≤ u ∧ u < 56320
 · rw [if_pos g2]
   by_cases g3 : v < 56320 ∨ 57344 ≤ v
   · rw [if_pos g3, xbV]; omega
   rw [if_neg g3, xbV]; omega
 rw [if_neg g2, xbV]; omega
theorem xf3 (k : Int) (all : Bool) (h : List UInt8) (h0 : h ≠ []) (hs : (xaG k all h).2 ≠ 0) : isB ((xaG k all h).1 : Int) = true := by
 unfold xaG at hs ⊢
 split at hs
 · rename_i hk
   rw [if_pos hk]
   unfold xg3 at hs ⊢
   split at hs
   · exact absurd rfl hs
   rename_i ho
   rw [if_neg ho]
   cases h with
   | nil => exact absurd rfl h0
   | cons c t => exact xlX c t
 rename_i hk
 rw [if_neg hk]
 unfold xg1 at hs ⊢
 have hlt := xd6 k _ (h.take 4) (Nat.le_refl _)
 generalize xaC k (h.take 4) = us at *
 rcases us with _ | ⟨u, _ | ⟨v, r⟩⟩
 · simp only at hs ⊢
   split at hs
   · rename_i ha; rw [if_pos ha, xbV]; omega
   exact absurd rfl hs
 · simp only at hs ⊢
   split at hs
   · exact absurd rfl hs
   rename_i hb; rw [if_neg hb]; exact xgB _ hlt
 exact xgB _ hlt
theorem xeC (a b : List UInt8) : Lib.byteCells (a ++ b) = Lib.byteCells a ++ Lib.byteCells b := by simp [Lib.byteCells]
def lenD (db : Nat) (w : World) : Nat := match w.cell? ⟨db, 2, none⟩ with
 | some (.slice _ n _) => n
 | _ => 0
theorem xaS.len {w : World} {db : Nat} {v : Value} {X : Nat} {d : Dec} {cl : Bool} (h : xaS w db v X d cl) : lenD db w = d.held.length := by
 obtain ⟨a, cap, rfl, _⟩ := h.hs
 unfold lenD
 rw [h.cells.2.2.1]
def TkR (kind : Int) (all : Bool) (H0 : List UInt8) (db X : Nat) (cl : Bool) (b base : Nat) (w0 wr : World) : Prop :=
 ∃ v h o, xaS wr db v X ⟨kind, true, h⟩ cl ∧ Bld base b (Lib.byteCells o) wr ∧ xbi kind all H0 = (o ++ (xbi kind all h).1, (xbi kind all h).2) ∧ xaa (fun k => k = db ∨ k = b ∨ base ≤ k) w0 wr ∧
  h.length ≤ H0.length ∧ o.length + 4 * h.length ≤ 4 * H0.length ∧ (h ≠ [] → H0 ≠ [])
theorem xdZ {w : World} {db : Nat} {v : Value} {X : Nat} {d : Dec} {cl : Bool} (H : xaS w db v X d cl) (k : Nat) (v' : Value) (hv : BS X w v' (d.held.drop k)) (hf : v' = .slice none 0 0 ∨ ∃ off n cap, v' = .slice (some ⟨X, off, none⟩) n cap) :
 xaS (w.setCell ⟨db, 2, none⟩ v') db v' X { d with held := d.held.drop k } cl := by
 have K : xaa (fun b => b = db) w (w.setCell ⟨db, 2, none⟩ v') := (xaa.refl (fun b => b = db) w).set (p := ⟨db, 2, none⟩) rfl _
 have hd : d.held.drop k ≠ [] → d.held ≠ [] := fun h e => h (by rw [e]; simp)
 refine ⟨?_, hv.keepsN K (fun h => H.ne (hd h)), fun h => H.ne (hd h), hf⟩
 have := H.bk
 simp [World.setCell, Array.getElem?_modify, this]
def TkE (all : Bool) (d : Dec) (db X : Nat) (cl : Bool) (w : World) (e : Ending) (w' : World) : Prop :=
 ∃ v, e = .returned (strL (xbk all d).1) ∧ xaS w' db v X (xbk all d).2 cl ∧ xaa (fun b => b = db) w w'
set_option maxHeartbeats 8000000 in
theorem xla (db X : Nat) (v : Value) (d : Dec) (cl all : Bool) (w : World) (H : xaS w db v X d cl) (hn : (xal all d).sure = false) :
 Calls Tryz.prog 75 #[.pointer (some ⟨db, 0, none⟩), .bool all] w (TkE all d db X cl w) := by
 obtain ⟨c0, c1, c2, c3, fz, hlt⟩ := H.cells
 have HS := xmA (fun W (K : xaa (fun _ => False) w W) => xdx db X v d cl all W (H.keeps K id (fun _ => id)))
 have HX : Hid (∀ W (v' : Value), xaS W db v' X (xal all d) cl → xaa (fun b => b = db) w W → (xal all d).held ≠ [] → X < w.heap.size) := xmA (fun W v' h K h0 => H.hs.lt (fun e => h0 (by
  unfold xal; split
  · exact e
  rw [e]; simp)))
 have HT : Hid (xbk all d = ([], xal all d)) := xmA (by unfold xbk; rw [hn]; rfl)
 clear fz H
 unfold TkE
 generalize xbk all d = T at *
 generalize hD : xal all d = D at *
 clear hD
 go_enter Tryz.func75, Tryz.ntmps75
 go_wp2_with fail
 refine (HS.out _ (KI.out)).mono ?_
 rintro e w2 ⟨rfl, v2, hD2, k2⟩
 have hkw : xaa (fun b => b = db) w w2 := xaa.trans ((xaa.refl _ _).alloc _) k2
 have hB : Bld (w.heap.size + 1) w.heap.size [] w2 := Bld.fresh (w' := w) (k2.heap (heap_alloc_new w _) (by show ¬ w.heap.size = db; omega))
 obtain ⟨e0, e1, e2, e3, _, _⟩ := hD2.cells
 rw [hn] at e1
 have HXX := xmA (HX.out w2 v2 hD2 hkw)
 have HD2 := xmA hD2
 have HB := xmA hB
 have HKW := xmA hkw
 have hs2 := hkw.size
 have hs3 : w.heap.size < w2.heap.size := by have := k2.size; simp at this; omega
 clear hD2 hB hkw k2 HX
 have HX := HXX
 go_wp2_with fail
 refine wp_loop_rounds 1 ?_
 rw [rounds_succ]
 go_wp2_with fail
 refine (Tryz.Builder_String_any_f (w.heap.size) w.heap.size [] w2 (xkR HB.out _ (by omega) (Nat.le_refl _)) (by omega)).mono ?_
 rintro e w9 ⟨rfl, _, hbe⟩
 have KB : xaa (fun k => w.heap.size ≤ k) w2 w9 := xaa.ofBelow hbe
 have HD9 := xmA (HD2.out.keeps KB (by show ¬ w.heap.size ≤ db; omega) (fun h => by have := HX.out h; show ¬ w.heap.size ≤ X; omega))
 have KE : Hid (xaa (fun b => b = db) w w9) := xmA (HKW.out.trans2 KB (fun i hi e => by omega))
 clear hbe KB
 go_wp2_with fail
 go_ret
 rw [HT.out]
 exact ⟨_, rfl, HD9.out, KE.out⟩
set_option maxHeartbeats 16000000 in
theorem take_8 (db X : Nat) (v : Value) (d : Dec) (cl all : Bool) (w : World) (H : xaS w db v X d cl) (hn : (xal all d).sure = true) (hk : (xal all d).kind = 1) (hl : d.held.length ≤ 100000) :
 Calls Tryz.prog 75 #[.pointer (some ⟨db, 0, none⟩), .bool all] w (TkE all d db X cl w) := by
 obtain ⟨c0, c1, c2, c3, fz, hlt⟩ := H.cells
 have HS := xmA (fun W (K : xaa (fun _ => False) w W) => xdx db X v d cl all W (H.keeps K id (fun _ => id)))
 have hsl : (xal all d).held.length ≤ d.held.length := by
  unfold xal; split
  · exact Nat.le_refl _
  show (d.held.drop _).length ≤ _; rw [List.length_drop]; omega
 have HX0 : Hid ((xal all d).held ≠ [] → X < w.heap.size) := xmA (fun h0 => H.hs.lt (fun e => h0 (by rw [e] at hsl; exact List.length_eq_zero_iff.1 (by simpa using hsl))))
 have HT : Hid (xbk all d = ((xbi (xal all d).kind all (xal all d).held).1, { xal all d with held := (xbi (xal all d).kind all (xal all d).held).2 })) := xmA (by unfold xbk; rw [hn]; rfl)
 clear fz H
 unfold TkE
 generalize xbk all d = T at *
 generalize hD : xal all d = D at *
 clear hD
 obtain ⟨kind, sure, H0⟩ := D
 simp only at hn hk hsl HX0 HT
 subst hn
 have HStep : Hid (∀ W v h, xaS W db v X ⟨kind, true, h⟩ cl → h ≠ [] → h.length ≤ 100000 → Calls Tryz.prog 116 #[.pointer (some ⟨db, 0, none⟩), .bool all] W (StE (xaG kind all h) W)) := xmA (fun W v h hD h0 hl => by
  rw [hk] at hD
  unfold xaG
  rw [if_pos hk]
  exact xkE db X v _ cl all W hD h0 hl)
 have gk : (kind == 1) = true := by rw [hk]; rfl
 have hHl : H0.length ≤ 100000 := by omega
 clear hk hsl
 go_enter Tryz.func75, Tryz.ntmps75
 go_wp2_with fail
 refine (HS.out _ (KI.out)).mono ?_
 rintro e w2 ⟨rfl, v2, hD2, k2⟩
 have hkw : xaa (fun b => b = db) w w2 := xaa.trans ((xaa.refl _ _).alloc _) k2
 have hB : Bld (w.heap.size + 1) w.heap.size [] w2 := Bld.fresh (w' := w) (k2.heap (heap_alloc_new w _) (by show ¬ w.heap.size = db; omega))
 have HD2 := xmA hD2
 have HB := xmA hB
 have HKW := xmA hkw
 have hs3 : w.heap.size < w2.heap.size := by have := k2.size; simp at this; omega
 clear hD2 hB hkw k2 HS c0 c1 c2 c3
 go_wp2_with fail
 go_loopw [] (fun wr => TkR kind all H0 db X cl w.heap.size (w.heap.size + 1) w2 wr) (fun wr => lenD db wr)
 case atStart => exact ⟨v2, H0, [], HD2.out, by simpa [Lib.byteCells] using HB.out, by simp, xaa.refl _ _, Nat.le_refl _, by simp, fun h => h⟩
 case round =>
  clear HD2 HB
  obtain ⟨v1, h, o, hD, hB, ht, hk1, hh, ho, hne⟩ := hrel
  obtain ⟨e0, e1, e2, e3, fz, hlt1⟩ := hD.cells
  have f2 := fz 2
  have HD := xmA hD
  have HB := xmA hB
  have HT1 := xmA ht
  have HK1 := xmA hk1
  have HLen := xmA hD.len
  have hs4 := hk1.size
  have HKw : Hid (xaa (fun b => b = db) w wr) := xmA (HKW.out.trans2 hk1 (fun i hi e => by rcases e with e | e | e <;> omega))
  have HX : Hid (h ≠ [] → X < w.heap.size) := xmA (fun h9 => HX0.out (hne h9))
  clear hD hB ht hk1 fz
  by_cases h0 : h = []
  · subst h0
    have HTE : Hid (xbi kind all H0 = (o, [])) := xmA (by rw [HT1.out, xc0]; simp)
    obtain ⟨a1, c1, hv1, _, _⟩ := HD.out.hs
    subst hv1
    go_wp2_with fail
    refine (Tryz.Builder_String_any_f (w.heap.size) w.heap.size o wr (xkR HB.out _ (by omega) (Nat.le_refl _)) (by omega)).mono ?_
    rintro e w9 ⟨rfl, _, hbe⟩
    have KB : xaa (fun k => w.heap.size ≤ k) wr w9 := xaa.ofBelow hbe
    have HD9 := xmA (HD.out.keeps KB (by show ¬ w.heap.size ≤ db; omega) (fun h => by have := HX.out h; show ¬ w.heap.size ≤ X; omega))
    have KE : Hid (xaa (fun b => b = db) w w9) := xmA (HKw.out.trans2 KB (fun i hi e => by omega))
    clear hbe KB
    go_wp2_with fail
    go_ret
    rw [HT.out, HTE.out]
    exact ⟨_, rfl, HD9.out, KE.out⟩
  have hp := List.length_pos_iff.2 h0
  have Hp := xmA hp
  obtain ⟨off, n1, cap, rfl⟩ : ∃ off n cap, v1 = .slice (some ⟨X, off, none⟩) n cap := by
   rcases HD.out.fm with rfl | h9
   · obtain ⟨a', c', e', _⟩ := HD.out.hs
     have h7 : 0 = h.length := (Value.slice.inj e').2.1
     omega
   exact h9
  obtain ⟨a', c', e', hcap, _⟩ := HD.out.hs.form
  obtain ⟨rfl, rfl, rfl⟩ := Value.slice.inj e'
  clear e'
  have HSt := xmA (HStep.out wr _ h HD.out h0 (by omega))
  have gl : decide ((0 : Int) < (h.length : Int)) = true := by simp; omega
  have hsle := xc3 kind all h
  by_cases hz : (xaG kind all h).2 = 0
  · have HTE : Hid (xbi kind all H0 = (o, h)) := xmA (by rw [HT1.out, xdt kind all h h0 hz]; simp)
    unfold StE at HSt
    rw [hz] at HSt
    clear hz
    generalize (xaG kind all h).1 = s1 at *
    go_wp2_with fail
    refine HSt.out.mono ?_
    rintro e w3 ⟨rfl, k3⟩
    have HD3 := xmA (HD.out.keeps k3 id (fun _ => id))
    have HB3 := xmA (HB.out.keepsF k3)
    have HK3 : Hid (xaa (fun b => b = db) w w3) := xmA (HKw.out.trans2 k3 (fun i hi e => e.elim))
    have hs5 := k3.size
    clear k3
    go_wp2_with fail
    refine (Tryz.Builder_String_any_f (w.heap.size) w.heap.size o w3 (xkR HB3.out _ (by omega) (Nat.le_refl _)) (by omega)).mono ?_
    rintro e w9 ⟨rfl, _, hbe⟩
    have KB : xaa (fun k => w.heap.size ≤ k) w3 w9 := xaa.ofBelow hbe
    have HD9 := xmA (HD3.out.keeps KB (by show ¬ w.heap.size ≤ db; omega) (fun h => by have := HX.out h; show ¬ w.heap.size ≤ X; omega))
    have KE : Hid (xaa (fun b => b = db) w w9) := xmA (HK3.out.trans2 KB (fun i hi e => by omega))
    clear hbe KB
    go_wp2_with fail
    go_ret
    rw [HT.out, HTE.out]
    exact ⟨_, rfl, HD9.out, KE.out⟩
  have hb := xf3 kind all h h0 hz
  have HTE : Hid (xbi kind all H0 = ((o ++ putP (xaG kind all h).1) ++ (xbi kind all (h.drop (xaG kind all h).2)).1, (xbi kind all (h.drop (xaG kind all h).2)).2)) := xmA (by rw [HT1.out, xcw kind all h h0 hz]; simp)
  unfold StE at HSt
  generalize xaG kind all h = S at *
  obtain ⟨s1, m⟩ := S
  simp only at hsle hz hb HTE HSt
  have HPu := xmA (fun W => xfq s1 W hb)
  have hp4 := xc4 (y := s1)
  have hp0 : putP s1 ≠ [] := by
   have := xjU s1
   intro e; rw [e] at this; simp at this
  have Hm := xmA hz
  have gm : ((m : Int) == 0) = false := by rw [beq_eq_false_iff_ne]; omega
  clear hb
  go_wp2_with fail
  refine HSt.out.mono ?_
  rintro e w3 ⟨rfl, k3⟩
  have HD3 := xmA (HD.out.keeps k3 id (fun _ => id))
  have HB3 := xmA (HB.out.keepsF k3)
  have HK3 := xmA (HK1.out.trans (k3.mono (fun _ _ h => h.elim)))
  have hs5 := k3.size
  clear k3
  go_wp2_with fail
  refine (HPu.out _).mono ?_
  rintro e w4 ⟨u, rfl, hO, k4⟩
  have HD4 := xmA (HD3.out.keeps k4 id (fun _ => id))
  have hB4 := HB3.out.keepsF k4
  have HK4 := xmA (HK3.out.trans (k4.mono (fun _ _ h => h.elim)))
  have hs6 := k4.size
  have hgb := fun g => xab hO g
  obtain ⟨g, pc, rfl, hpc, hcc⟩ := hO.cells hp0
  have hg1 := hgb g rfl
  clear hO k4 hgb
  generalize hP : putP s1 = P at *
  go_wp2_with fail
  refine (xfS (w.heap.size + 1) w.heap.size _ g 0 P.length pc P w4 hB4 rfl (by rw [Lib.byteCells_length]; omega) (by omega) (by omega) hcc).mono ?_
  rintro e w5 ⟨rfl, hB5, k5⟩
  have HB5 : Hid (Bld (w.heap.size + 1) w.heap.size (Lib.byteCells (o ++ P)) w5) := xmA (by rw [xeC]; exact hB5)
  have hD5 := HD4.out.keeps k5 (by show ¬ (db = w.heap.size ∨ w.heap.size + 1 ≤ db); omega) (fun h9 => by have := HX.out h9; show ¬ (X = w.heap.size ∨ w.heap.size + 1 ≤ X); omega)
  have HD5 := xmA hD5
  obtain ⟨q0, q1, q2, q3, fz5, _⟩ := hD5.cells
  have f25 := fz5 2
  have HK5 := xmA (HK4.out.trans (k5.mono (fun k _ h => Or.inr h)))
  have hdl : (h.drop m).length = h.length - m := List.length_drop
  clear hB4 hB5 k5 hD5 fz5 hcc HPu
  by_cases hcm : cap = m
  · subst hcm
    go_wp2_with fail
    go_roundw
    case rel =>
     have h9 := xdZ HD5.out cap (.slice (some ⟨X, off, none⟩) (h.length - cap) (cap - cap)) (HD5.out.hs.drop cap off hsle (fun h => by omega)) (Or.inr ⟨_, _, _, rfl⟩)
     rw [show h.length - cap = 0 by omega, Nat.sub_self] at h9
     exact ⟨_, h.drop cap, o ++ P, h9, HB5.out.keeps (S := fun b => b = db) (by (repeat' (with_reducible first | exact xaa.refl _ _ | assumption | refine xaa.drawN ?_ _ | refine xaa.drew ?_ | refine xaa.setCell ?_ ?_ _ | refine xaa.alloc ?_ _)) <;> (first | exact Or.inr (Nat.le_refl _) | exact Or.inl rfl | exact Or.inl (Or.inl rfl) | exact Or.inl (Or.inr rfl) | (right; simp; done) | (right; simp; omega))) (by show ¬ w.heap.size = db; omega) (fun k h => by show ¬ k = db; omega), HTE.out, HK5.out.trans ((xaa.refl (fun k => k = db ∨ k = w.heap.size ∨ w.heap.size + 1 ≤ k) _).set (p := ⟨db, 2, none⟩) (Or.inl rfl) _), by omega, by rw [List.length_append]; omega, fun h => absurd (List.length_eq_zero_iff.1 (by omega)) h⟩
    case measure =>
     rw [HLen.out]
     show lenD db _ < h.length
     unfold lenD
     rw [xas q2]
     exact Hp.out
  have hcm' : m < cap := by omega
  clear hcm
  go_wp2_with fail
  go_roundw
  case rel =>
   have h9 := xdZ HD5.out m _ (HD5.out.hs.drop m (off + m) hsle (fun h => rfl)) (Or.inr ⟨_, _, _, rfl⟩)
   exact ⟨_, h.drop m, o ++ P, h9, HB5.out.keeps (S := fun b => b = db) (by (repeat' (with_reducible first | exact xaa.refl _ _ | assumption | refine xaa.drawN ?_ _ | refine xaa.drew ?_ | refine xaa.setCell ?_ ?_ _ | refine xaa.alloc ?_ _)) <;> (first | exact Or.inr (Nat.le_refl _) | exact Or.inl rfl | exact Or.inl (Or.inl rfl) | exact Or.inl (Or.inr rfl) | (right; simp; done) | (right; simp; omega))) (by show ¬ w.heap.size = db; omega) (fun k h => by show ¬ k = db; omega), HTE.out, HK5.out.trans ((xaa.refl (fun k => k = db ∨ k = w.heap.size ∨ w.heap.size + 1 ≤ k) _).set (p := ⟨db, 2, none⟩) (Or.inl rfl) _), by omega, by rw [List.length_append]; omega, fun h9 => hne (fun e => h9 (by rw [e]; simp))⟩
  case measure =>
   rw [HLen.out]
   show lenD db _ < h.length
   unfold lenD
   rw [xas q2]
   show h.length - m < h.length
   have := Hp.out
   have := Hm.out
   omega
set_option maxHeartbeats 16000000 in
theorem take_u (db X : Nat) (v : Value) (d : Dec) (cl all : Bool) (w : World) (H : xaS w db v X d cl) (hn : (xal all d).sure = true) (hk : (xal all d).kind = 2 ∨ (xal all d).kind = 3) (hl : d.held.length ≤ 100000) :
 Calls Tryz.prog 75 #[.pointer (some ⟨db, 0, none⟩), .bool all] w (TkE all d db X cl w) := by
 obtain ⟨c0, c1, c2, c3, fz, hlt⟩ := H.cells
 have HS := xmA (fun W (K : xaa (fun _ => False) w W) => xdx db X v d cl all W (H.keeps K id (fun _ => id)))
 have hsl : (xal all d).held.length ≤ d.held.length := by
  unfold xal; split
  · exact Nat.le_refl _
  show (d.held.drop _).length ≤ _; rw [List.length_drop]; omega
 have HX0 : Hid ((xal all d).held ≠ [] → X < w.heap.size) := xmA (fun h0 => H.hs.lt (fun e => h0 (by rw [e] at hsl; exact List.length_eq_zero_iff.1 (by simpa using hsl))))
 have HT : Hid (xbk all d = ((xbi (xal all d).kind all (xal all d).held).1, { xal all d with held := (xbi (xal all d).kind all (xal all d).held).2 })) := xmA (by unfold xbk; rw [hn]; rfl)
 clear fz H
 unfold TkE
 generalize xbk all d = T at *
 generalize hD : xal all d = D at *
 clear hD
 obtain ⟨kind, sure, H0⟩ := D
 simp only at hn hk hsl HX0 HT
 subst hn
 have HStep : Hid (∀ W v h, xaS W db v X ⟨kind, true, h⟩ cl → h ≠ [] → h.length ≤ 100000 → Calls Tryz.prog 115 #[.pointer (some ⟨db, 0, none⟩), .bool all] W (StE (xaG kind all h) W)) := xmA (fun W v h hD h0 hl => by
  unfold xaG
  rw [if_neg (by omega)]
  exact xjA db X v _ cl all W hD hk h0 hl)
 have gk : (kind == 1) = false := by rw [beq_eq_false_iff_ne]; omega
 have hHl : H0.length ≤ 100000 := by omega
 clear hk hsl
 go_enter Tryz.func75, Tryz.ntmps75
 go_wp2_with fail
 refine (HS.out _ (KI.out)).mono ?_
 rintro e w2 ⟨rfl, v2, hD2, k2⟩
 have hkw : xaa (fun b => b = db) w w2 := xaa.trans ((xaa.refl _ _).alloc _) k2
 have hB : Bld (w.heap.size + 1) w.heap.size [] w2 := Bld.fresh (w' := w) (k2.heap (heap_alloc_new w _) (by show ¬ w.heap.size = db; omega))
 have HD2 := xmA hD2
 have HB := xmA hB
 have HKW := xmA hkw
 have hs3 : w.heap.size < w2.heap.size := by have := k2.size; simp at this; omega
 clear hD2 hB hkw k2 HS c0 c1 c2 c3
 go_wp2_with fail
 go_loopw [] (fun wr => TkR kind all H0 db X cl w.heap.size (w.heap.size + 1) w2 wr) (fun wr => lenD db wr)
 case atStart => exact ⟨v2, H0, [], HD2.out, by simpa [Lib.byteCells] using HB.out, by simp, xaa.refl _ _, Nat.le_refl _, by simp, fun h => h⟩
 case round =>
  clear HD2 HB
  obtain ⟨v1, h, o, hD, hB, ht, hk1, hh, ho, hne⟩ := hrel
  obtain ⟨e0, e1, e2, e3, fz, hlt1⟩ := hD.cells
  have f2 := fz 2
  have HD := xmA hD
  have HB := xmA hB
  have HT1 := xmA ht
  have HK1 := xmA hk1
  have HLen := xmA hD.len
  have hs4 := hk1.size
  have HKw : Hid (xaa (fun b => b = db) w wr) := xmA (HKW.out.trans2 hk1 (fun i hi e => by rcases e with e | e | e <;> omega))
  have HX : Hid (h ≠ [] → X < w.heap.size) := xmA (fun h9 => HX0.out (hne h9))
  clear hD hB ht hk1 fz
  by_cases h0 : h = []
  · subst h0
    have HTE : Hid (xbi kind all H0 = (o, [])) := xmA (by rw [HT1.out, xc0]; simp)
    obtain ⟨a1, c1, hv1, _, _⟩ := HD.out.hs
    subst hv1
    go_wp2_with fail
    refine (Tryz.Builder_String_any_f (w.heap.size) w.heap.size o wr (xkR HB.out _ (by omega) (Nat.le_refl _)) (by omega)).mono ?_
    rintro e w9 ⟨rfl, _, hbe⟩
    have KB : xaa (fun k => w.heap.size ≤ k) wr w9 := xaa.ofBelow hbe
    have HD9 := xmA (HD.out.keeps KB (by show ¬ w.heap.size ≤ db; omega) (fun h => by have := HX.out h; show ¬ w.heap.size ≤ X; omega))
    have KE : Hid (xaa (fun b => b = db) w w9) := xmA (HKw.out.trans2 KB (fun i hi e => by omega))
    clear hbe KB
    go_wp2_with fail
    go_ret
    rw [HT.out, HTE.out]
    exact ⟨_, rfl, HD9.out, KE.out⟩
  have hp := List.length_pos_iff.2 h0
  have Hp := xmA hp
  obtain ⟨off, n1, cap, rfl⟩ : ∃ off n cap, v1 = .slice (some ⟨X, off, none⟩) n cap := by
   rcases HD.out.fm with rfl | h9
   · obtain ⟨a', c', e', _⟩ := HD.out.hs
     have h7 : 0 = h.length := (Value.slice.inj e').2.1
     omega
   exact h9
  obtain ⟨a', c', e', hcap, _⟩ := HD.out.hs.form
  obtain ⟨rfl, rfl, rfl⟩ := Value.slice.inj e'
  clear e'
  have HSt := xmA (HStep.out wr _ h HD.out h0 (by omega))
  have gl : decide ((0 : Int) < (h.length : Int)) = true := by simp; omega
  have hsle := xc3 kind all h
  by_cases hz : (xaG kind all h).2 = 0
  · have HTE : Hid (xbi kind all H0 = (o, h)) := xmA (by rw [HT1.out, xdt kind all h h0 hz]; simp)
    unfold StE at HSt
    rw [hz] at HSt
    clear hz
    generalize (xaG kind all h).1 = s1 at *
    go_wp2_with fail
    refine HSt.out.mono ?_
    rintro e w3 ⟨rfl, k3⟩
    have HD3 := xmA (HD.out.keeps k3 id (fun _ => id))
    have HB3 := xmA (HB.out.keepsF k3)
    have HK3 : Hid (xaa (fun b => b = db) w w3) := xmA (HKw.out.trans2 k3 (fun i hi e => e.elim))
    have hs5 := k3.size
    clear k3
    go_wp2_with fail
    refine (Tryz.Builder_String_any_f (w.heap.size) w.heap.size o w3 (xkR HB3.out _ (by omega) (Nat.le_refl _)) (by omega)).mono ?_
    rintro e w9 ⟨rfl, _, hbe⟩
    have KB : xaa (fun k => w.heap.size ≤ k) w3 w9 := xaa.ofBelow hbe
    have HD9 := xmA (HD3.out.keeps KB (by show ¬ w.heap.size ≤ db; omega) (fun h => by have := HX.out h; show ¬ w.heap.size ≤ X; omega))
    have KE : Hid (xaa (fun b => b = db) w w9) := xmA (HK3.out.trans2 KB (fun i hi e => by omega))
    clear hbe KB
    go_wp2_with fail
    go_ret
    rw [HT.out, HTE.out]
    exact ⟨_, rfl, HD9.out, KE.out⟩
  have hb := xf3 kind all h h0 hz
  have HTE : Hid (xbi kind all H0 = ((o ++ putP (xaG kind all h).1) ++ (xbi kind all (h.drop (xaG kind all h).2)).1, (xbi kind all (h.drop (xaG kind all h).2)).2)) := xmA (by rw [HT1.out, xcw kind all h h0 hz]; simp)
  unfold StE at HSt
  generalize xaG kind all h = S at *
  obtain ⟨s1, m⟩ := S
  simp only at hsle hz hb HTE HSt
  have HPu := xmA (fun W => xfq s1 W hb)
  have hp4 := xc4 (y := s1)
  have hp0 : putP s1 ≠ [] := by
   have := xjU s1
   intro e; rw [e] at this; simp at this
  have Hm := xmA hz
  have gm : ((m : Int) == 0) = false := by rw [beq_eq_false_iff_ne]; omega
  clear hb
  go_wp2_with fail
  refine HSt.out.mono ?_
  rintro e w3 ⟨rfl, k3⟩
  have HD3 := xmA (HD.out.keeps k3 id (fun _ => id))
  have HB3 := xmA (HB.out.keepsF k3)
  have HK3 := xmA (HK1.out.trans (k3.mono (fun _ _ h => h.elim)))
  have hs5 := k3.size
  clear k3
  go_wp2_with fail
  refine (HPu.out _).mono ?_
  rintro e w4 ⟨u, rfl, hO, k4⟩
  have HD4 := xmA (HD3.out.keeps k4 id (fun _ => id))
  have hB4 := HB3.out.keepsF k4
  have HK4 := xmA (HK3.out.trans (k4.mono (fun _ _ h => h.elim)))
  have hs6 := k4.size
  have hgb := fun g => xab hO g
  obtain ⟨g, pc, rfl, hpc, hcc⟩ := hO.cells hp0
  have hg1 := hgb g rfl
  clear hO k4 hgb
  generalize hP : putP s1 = P at *
  go_wp2_with fail
  refine (xfS (w.heap.size + 1) w.heap.size _ g 0 P.length pc P w4 hB4 rfl (by rw [Lib.byteCells_length]; omega) (by omega) (by omega) hcc).mono ?_
  rintro e w5 ⟨rfl, hB5, k5⟩
  have HB5 : Hid (Bld (w.heap.size + 1) w.heap.size (Lib.byteCells (o ++ P)) w5) := xmA (by rw [xeC]; exact hB5)
  have hD5 := HD4.out.keeps k5 (by show ¬ (db = w.heap.size ∨ w.heap.size + 1 ≤ db); omega) (fun h9 => by have := HX.out h9; show ¬ (X = w.heap.size ∨ w.heap.size + 1 ≤ X); omega)
  have HD5 := xmA hD5
  obtain ⟨q0, q1, q2, q3, fz5, _⟩ := hD5.cells
  have f25 := fz5 2
  have HK5 := xmA (HK4.out.trans (k5.mono (fun k _ h => Or.inr h)))
  have hdl : (h.drop m).length = h.length - m := List.length_drop
  clear hB4 hB5 k5 hD5 fz5 hcc HPu
  by_cases hcm : cap = m
  · subst hcm
    go_wp2_with fail
    go_roundw
    case rel =>
     have h9 := xdZ HD5.out cap (.slice (some ⟨X, off, none⟩) (h.length - cap) (cap - cap)) (HD5.out.hs.drop cap off hsle (fun h => by omega)) (Or.inr ⟨_, _, _, rfl⟩)
     rw [show h.length - cap = 0 by omega, Nat.sub_self] at h9
     exact ⟨_, h.drop cap, o ++ P, h9, HB5.out.keeps (S := fun b => b = db) (by (repeat' (with_reducible first | exact xaa.refl _ _ | assumption | refine xaa.drawN ?_ _ | refine xaa.drew ?_ | refine xaa.setCell ?_ ?_ _ | refine xaa.alloc ?_ _)) <;> (first | exact Or.inr (Nat.le_refl _) | exact Or.inl rfl | exact Or.inl (Or.inl rfl) | exact Or.inl (Or.inr rfl) | (right; simp; done) | (right; simp; omega))) (by show ¬ w.heap.size = db; omega) (fun k h => by show ¬ k = db; omega), HTE.out, HK5.out.trans ((xaa.refl (fun k => k = db ∨ k = w.heap.size ∨ w.heap.size + 1 ≤ k) _).set (p := ⟨db, 2, none⟩) (Or.inl rfl) _), by omega, by rw [List.length_append]; omega, fun h => absurd (List.length_eq_zero_iff.1 (by omega)) h⟩
    case measure =>
     rw [HLen.out]
     show lenD db _ < h.length
     unfold lenD
     rw [xas q2]
     exact Hp.out
  have hcm' : m < cap := by omega
  clear hcm
  go_wp2_with fail
  go_roundw
  case rel =>
   have h9 := xdZ HD5.out m _ (HD5.out.hs.drop m (off + m) hsle (fun h => rfl)) (Or.inr ⟨_, _, _, rfl⟩)
   exact ⟨_, h.drop m, o ++ P, h9, HB5.out.keeps (S := fun b => b = db) (by (repeat' (with_reducible first | exact xaa.refl _ _ | assumption | refine xaa.drawN ?_ _ | refine xaa.drew ?_ | refine xaa.setCell ?_ ?_ _ | refine xaa.alloc ?_ _)) <;> (first | exact Or.inr (Nat.le_refl _) | exact Or.inl rfl | exact Or.inl (Or.inl rfl) | exact Or.inl (Or.inr rfl) | (right; simp; done) | (right; simp; omega))) (by show ¬ w.heap.size = db; omega) (fun k h => by show ¬ k = db; omega), HTE.out, HK5.out.trans ((xaa.refl (fun k => k = db ∨ k = w.heap.size ∨ w.heap.size + 1 ≤ k) _).set (p := ⟨db, 2, none⟩) (Or.inl rfl) _), by omega, by rw [List.length_append]; omega, fun h9 => hne (fun e => h9 (by rw [e]; simp))⟩
  case measure =>
   rw [HLen.out]
   show lenD db _ < h.length
   unfold lenD
   rw [xas q2]
   show h.length - m < h.length
   have := Hp.out
   have := Hm.out
   omega
def xcn (kind : Int) : Prop := kind = 1 ∨ kind = 2 ∨ kind = 3
theorem xi1 (l : List UInt8) (h : (xaE l).2 ≠ 0) : xcn (xaE l).1 := by
 unfold xcn
 rw [xia] at h ⊢
 split
 · exact Or.inl rfl
 split
 · exact Or.inr (Or.inl rfl)
 split
 · exact Or.inr (Or.inr rfl)
 rename_i h1 h2 h3
 rw [if_neg h1, if_neg h2, if_neg h3] at h
 exact absurd rfl h
theorem xcL (all : Bool) (d : Dec) (h : d.sure = true → xcn d.kind) (hs : (xal all d).sure = true) : xcn (xal all d).kind := by
 unfold xal at hs ⊢
 split at hs
 · rename_i hc; rw [if_pos hc]; exact h hs
 rename_i hc; rw [if_neg hc]
 show xcn (if (xaE d.held).2 = 0 then 1 else (xaE d.held).1)
 split
 · exact Or.inl rfl
 rename_i hm; exact xi1 _ hm
theorem xgK (db X : Nat) (v : Value) (d : Dec) (cl all : Bool) (w : World) (H : xaS w db v X d cl) (hk : d.sure = true → xcn d.kind) (hl : d.held.length ≤ 100000) :
 Calls Tryz.prog 75 #[.pointer (some ⟨db, 0, none⟩), .bool all] w (TkE all d db X cl w) := by
 cases hn : (xal all d).sure with
 | false => exact xla db X v d cl all w H hn
 | true =>
  rcases xcL all d hk hn with h | h
  · exact take_8 db X v d cl all w H hn h hl
  exact take_u db X v d cl all w H hn h hl
theorem xiw (all : Bool) (d : Dec) (h : d.sure = true → xcn d.kind) : (xbk all d).2.sure = true → xcn (xbk all d).2.kind := by
 unfold xbk
 split
 · rename_i hs; intro _; exact xcL all d h hs
 intro hs; exact xcL all d h hs
theorem xfZ (k : Int) (all : Bool) : ∀ (n : Nat) (h : List UInt8), (xbp k all n h).2.length ≤ h.length ∧ (xbp k all n h).1.length ≤ 4 * h.length
 | 0, h => by simp [xbp]
 | n + 1, h => by
  rw [xbp]
  by_cases h0 : h = []
  · rw [if_pos h0]; simp
  rw [if_neg h0]
  by_cases h3 : (xaG k all h).2 = 0
  · rw [if_pos h3]; simp
  rw [if_neg h3]
  have hle := xc3 k all h
  obtain ⟨h1, h2⟩ := xfZ k all n (h.drop (xaG k all h).2)
  rw [List.length_drop] at h1 h2
  have hp := xc4 (y := (xaG k all h).1)
  refine ⟨?_, ?_⟩
  · show (xbp k all n (h.drop (xaG k all h).2)).2.length ≤ _; omega
  show (putP (xaG k all h).1 ++ (xbp k all n (h.drop (xaG k all h).2)).1).length ≤ _
  rw [List.length_append]; omega
theorem xeU (all : Bool) (d : Dec) : (xal all d).held.length ≤ d.held.length := by
 unfold xal; split
 · exact Nat.le_refl _
 show (d.held.drop _).length ≤ _; rw [List.length_drop]; omega
theorem xfX (all : Bool) (d : Dec) : (xbk all d).1.length ≤ 4 * d.held.length ∧ (xbk all d).2.held.length ≤ d.held.length := by
 have h1 := xeU all d
 unfold xbk
 split
 · obtain ⟨h2, h3⟩ := xfZ (xal all d).kind all (xal all d).held.length (xal all d).held
   refine ⟨?_, ?_⟩
   · show (xbp _ _ _ _).1.length ≤ _; omega
   show (xbp _ _ _ _).2.length ≤ _; omega
 exact ⟨Nat.zero_le _, h1⟩
set_option maxHeartbeats 4000000 in
theorem xij (kind : Int) (w : World) (hk : 0 ≤ kind ∧ kind ≤ 3) :
 Calls Tryz.prog 36 #[.int .i64 kind] w fun e w' => ∃ db, e = .returned (.tuple #[.pointer (some ⟨db, 0, none⟩), .int .i64 0]) ∧ w.heap.size ≤ db ∧ xaS w' db (.slice none 0 0) 0 (decN kind) false ∧ xaa (fun _ => False) w w' := by
 have g1 : decide (kind < 0) = false := by simp; omega
 have g2 : decide (3 < kind) = false := by simp; omega
 go_enter Tryz.func36, Tryz.ntmps36
 go_wp2_with fail
 go_ret2
 exact ⟨_, rfl, Nat.le_refl _, ⟨heap_alloc_new w _, ⟨none, 0, rfl, Nat.le_refl _, fun h => absurd rfl h⟩, fun h => absurd rfl h, Or.inl rfl⟩, KI.out⟩
theorem xjc (l : List UInt8) : cellsOf 1 encB l = l.map u8V := by
 unfold cellsOf
 induction l with
 | nil => rfl
 | cons c t ih => rw [List.flatMap_cons, ih]; rfl
def DwE (d : Dec) (t : List UInt8) (db : Nat) (cl : Bool) (w : World) (e : Ending) (w' : World) : Prop :=
 ∃ v X, e = .returned (strL t) ∧ xaS w' db v X d cl ∧ xaa (fun b => b = db) w w'
theorem xj3 {w9 : World} {base : Nat} {v : Value} {l : List UInt8} (h : w9.ownsRow base 5 1 v l.length (l.map u8V)) (hn : v ≠ .slice none 0 0) : ∃ g cap, v = .slice (some ⟨g, 0, none⟩) l.length cap ∧ base ≤ g ∧ BS g w9 v l := by
 rcases h.2 with ⟨rfl, _⟩ | ⟨g, cap, cur, rfl, hg, hh, hcap, _⟩
 · exact absurd rfl hn
 refine ⟨g, cap, rfl, hg, ⟨_, cap, rfl, hcap, fun h0 => ⟨0, rfl, fun i x hx => ?_⟩⟩⟩
 have hc := World.ownsRow.cellAt h
 have := hc i (by have := (List.getElem?_eq_some_iff.1 hx).1; simpa using this)
 rw [List.getElem?_map, hx] at this
 rw [Nat.zero_add]; exact this
theorem xkF {w : World} {db : Nat} {kd : Int} {su cl : Bool} {u : Value} (H : w.heap[db]? = some (.cells #[.int .i64 kd, .bool su, u, .bool cl] 137 (0, 0))) (v' : Value) (l : List UInt8) (X' : Nat) (hv : BS X' w v' l) (hne : l ≠ [] → X' ≠ db) (hf : v' = .slice none 0 0 ∨ ∃ off n cap, v' = .slice (some ⟨X', off, none⟩) n cap) :
 xaS (w.setCell ⟨db, 2, none⟩ v') db v' X' ⟨kd, su, l⟩ cl := by
 have K : xaa (fun b => b = db) w (w.setCell ⟨db, 2, none⟩ v') := (xaa.refl (fun b => b = db) w).set (p := ⟨db, 2, none⟩) rfl _
 refine ⟨?_, hv.keepsN K hne, hne, hf⟩
 simp [World.setCell, Array.getElem?_modify, H]
set_option maxHeartbeats 8000000 in
theorem xff (db X : Nat) (kind : Int) (b : Value) (l : List UInt8) (w : World) (H : xaS w db (.slice none 0 0) X (decN kind) false) (hk : 0 ≤ kind ∧ kind ≤ 3) (hb : SlOf 1 encB w b l) (hl : l.length ≤ 20000) :
 Calls Tryz.prog 40 #[.pointer (some ⟨db, 0, none⟩), b] w (DwE (decW (decN kind) l).2 (decW (decN kind) l).1 db false w) := by
 obtain ⟨i0, hi0, hz0, hz1, hz2⟩ := info_parts xcC
 obtain ⟨c0, c1, c2, c3, fz, hlt⟩ := H.cells
 have f2 := fz 2
 have HT : Hid (∀ W X' v, xaS W db v X' { decN kind with held := l } false → Calls Tryz.prog 75 #[.pointer (some ⟨db, 0, none⟩), .bool false] W (TkE false { decN kind with held := l } db X' false W)) := xmA (fun W X' v hD => xgK db X' v _ false false W hD (fun hs => by
  show kind = 1 ∨ kind = 2 ∨ kind = 3
  have : (kind != 0) = true := hs
  have : kind ≠ 0 := by simpa using this
  omega) (by show l.length ≤ _; omega))
 have hD : decW (decN kind) l = xbk false { decN kind with held := l } := rfl
 rw [hD]
 have HB := xmA H.bk
 clear hD fz H
 unfold TkE at HT
 generalize xbk false { decN kind with held := l } = T at *
 rcases hb.news (by omega) with ⟨rfl, rfl⟩ | ⟨ad, c, rfl, hnews⟩
 · clear hb
   have HD9 : Hid (xaS ((w.setCell ⟨db, 2, none⟩ (.slice (some ⟨w.heap.size, 0, none⟩) 0 0)).alloc (.cells #[] 5)) db (.slice (some ⟨w.heap.size, 0, none⟩) 0 0) w.heap.size { decN kind with held := [] } false) := xmA
    ((xkF HB.out (.slice (some ⟨w.heap.size, 0, none⟩) 0 0) [] w.heap.size ⟨_, 0, rfl, Nat.le_refl _, fun h => absurd rfl h⟩ (fun h => absurd rfl h) (Or.inr ⟨_, _, _, rfl⟩)).keeps (S := fun _ => False) (KI.out) id (fun _ => id))
   go_enter Tryz.func40, Tryz.ntmps40
   go_wp2_with fail
   refine (HT.out _ _ _ HD9.out).mono ?_
   rintro e w2 ⟨v2, rfl, hD2, k2⟩
   have K2 : Hid (xaa (fun b => b = db) w w2) := xmA (xaa.trans (by (repeat' (with_reducible first | exact xaa.refl _ _ | assumption | refine xaa.drawN ?_ _ | refine xaa.drew ?_ | refine xaa.setCell ?_ ?_ _ | refine xaa.alloc ?_ _)) <;> (first | exact Or.inr (Nat.le_refl _) | exact Or.inl rfl | exact Or.inl (Or.inl rfl) | exact Or.inl (Or.inr rfl) | (right; simp; done) | (right; simp; omega))) k2)
   have HD2 := xmA hD2
   clear k2 hD2
   go_wp2_with fail
   go_ret
   exact ⟨_, _, rfl, HD2.out, K2.out⟩
 have HN : Hid (∀ j u, (l.map u8V)[j]? = some u → (w.alloc (.cells #[] 5)).cell? (ad.add j) = some u) := xmA (fun j u hu => xaj (hnews j u (by rw [xjc]; exact hu)) _)
 clear hb hnews
 go_enter Tryz.func40, Tryz.ntmps40
 go_wp2_with (at_builtin; refine wpList_append_own _ rfl (.tmp 15) (.tmp 16) 22 rfl w.heap.size 5 i0 _ 1 1 Tryz.underlying22 hi0 hz0 hz1 hz2 rfl (by decide) _ 0 [] rfl (xc8 w _ 1) ad l.length c (l.map u8V) rfl (by simp) HN.out (by intro u hu; simp at hu; obtain ⟨x, _, rfl⟩ := hu; rfl) (by unfold maxLen; omega) (by omega) (by simp) ?_)
 intro v9 w9 hown9 hgrow9 hne9
 have hv9 : v9 ≠ .slice none 0 0 := by simpa using hne9
 obtain ⟨g, cap9, rfl, hg, hbs⟩ := xj3 hown9 hv9
 have hk9 : xaa (fun _ => False) w w9 := ((xaa.refl (fun _ => False) w).alloc _).trans2 ((xaa.refl (fun b => w.heap.size ≤ b) _).grown hgrow9 (fun b hb => Or.inl (by have := Option.some.inj hb; rw [← this]; exact Nat.le_refl _))) (fun i hi e => by omega)
 have hB9 := hk9.heap HB.out id
 have d2 : w9.cell? ⟨db, 2, none⟩ = some (.slice none 0 0) := hk9.cell c2 id
 have g2 : w9.frozen? ⟨db, 2, none⟩ = false := Lib.frozen_of_heap hB9 2
 have HD9 := xmA (xkF hB9 _ l g hbs (fun _ => by omega) (Or.inr ⟨_, _, _, rfl⟩))
 have HK9 := xmA hk9
 clear hown9 hgrow9 hne9 hv9 hbs hk9 hB9
 go_wp2_with fail
 refine (HT.out _ _ _ HD9.out).mono ?_
 rintro e w2 ⟨v2, rfl, hD2, k2⟩
 have h8 : xaa (fun b => b = db) w w9 := HK9.out.mono (fun _ _ h => h.elim)
 have K2 : Hid (xaa (fun b => b = db) w w2) := xmA (xaa.trans (h8.set (S := fun b => b = db) (p := ⟨db, 2, none⟩) rfl _) k2)
 have HD2 := xmA hD2
 clear k2 hD2
 go_wp2_with fail
 go_ret
 exact ⟨_, _, rfl, HD2.out, K2.out⟩
set_option maxHeartbeats 4000000 in
theorem xjg (db X : Nat) (v : Value) (d : Dec) (w : World) (H : xaS w db v X d false) (hk : d.sure = true → xcn d.kind) (hl : d.held.length ≤ 100000) :
 Calls Tryz.prog 41 #[.pointer (some ⟨db, 0, none⟩)] w fun e w' => e = .returned (strL (xbk true d).1) ∧ xaa (fun b => b = db) w w' := by
 obtain ⟨c0, c1, c2, c3, fz, hlt⟩ := H.cells
 have HT := xmA (xgK db X v d false true w H hk hl)
 unfold TkE at HT
 clear fz H
 generalize xbk true d = T at *
 go_enter Tryz.func41, Tryz.ntmps41
 go_wp2_with fail
 refine HT.out.mono ?_
 rintro e w2 ⟨v2, rfl, hD2, k2⟩
 obtain ⟨e0, e1, e2, e3, fz, _⟩ := hD2.cells
 have f3 := fz 3
 have HK := xmA k2
 clear hD2 k2 fz
 go_wp2_with fail
 go_ret
 exact ⟨rfl, HK.out.set (p := ⟨db, 3, none⟩) rfl _⟩
section
open Go.Sort (grow)
def TabW (w : World) : Prop := Lib.TabIs Tryz.prog w "internal/strconv.uint64pow10" .u64 Lib.pow10Tab
theorem xc1 : Tryz.prog.globalNamed "internal/strconv.uint64pow10" = some 1 := by kernel_rfl
theorem TabW.keeps {w w' : World} (h : TabW w) (K : xaa (fun _ => False) w w') : TabW w' := Go.Joins.tab_stays xc1 h K.belowAll (Nat.le_refl _)
theorem xi4 (w : World) (os : Array Obj) (k : Nat) : xaa (fun _ => False) w (grow (w.drewN k) os) := 
 xaa.ofBelowAll (Lib.below_grow _ w (Nat.le_refl _) k os) _
theorem xlQ (n : Int) (w : World) (h : in64 n) (ht : TabW w) : Calls Tryz.prog 86 #[.int .i64 n] w fun e w' => e = .returned (strL (Lib.itoa n)) ∧ xaa (fun _ => False) w w' :=
 (Tryz.strconv_Itoa n h.1 h.2 w ht).mono fun e w' ⟨h1, k, os, h2⟩ => ⟨h1, by rw [h2]; exact xi4 _ _ _⟩
end
section
open Go.ChangeShapes Go.WideShapes Go.ChangeAt Go.WideMaps Go.WideElems
theorem own : ownKnob Tryz.prog.godebug = none := by kernel_rfl
theorem xfx : laidOutB Tryz.prog = true := by kernel_rfl
abbrev xen {H : Type} : List (String × DataW H) := [("math/bits.deBruijn32tab", Rows.laid_math_bits_deBruijn32tab), ("math/bits.deBruijn64tab", Rows.laid_math_bits_deBruijn64tab), ("internal/strconv.uint64pow10", Rows.laid_internal_strconv_uint64pow10)]
theorem tTab : (Tryz.prog.globals[1]?).map (·.type) = some 271 := by kernel_rfl
theorem xfK (os : Os) (args : Array Value) : laidMetH Tryz.prog xen ((World.doorLaid Tryz.prog 400 os).forCall (fun _ _ => 0) ⟨#[], args, []⟩).memory :=
 laidMetH_of_parts3 (fuel := 8) (laidMet_of_run' 8 (by kernel_rfl) (by kernel_rfl)) (by kernel_rfl) (by kernel_rfl)
set_option maxRecDepth 100000 in
theorem xhi {W : World} (h : laidMetH Tryz.prog xen W) : TabW W := by
 rw [MakeChecks.laidMetH_plain _ _ _ (by kernel_rfl)] at h
 exact Lib.tabIs_of_head xc1 tTab Tryz.underlying271 Tryz.underlying69 (by kernel_rfl) (by kernel_rfl) (show laidMet Tryz.prog [("internal/strconv.uint64pow10", Lib.tabData .u64 Lib.pow10Tab)] W from h.tail.tail)
end
theorem TabW.lt {w : World} (h : TabW w) : 1 < w.heap.size := by
 unfold TabW Lib.TabIs World.var? at h
 rw [xc1] at h
 simp only [Option.bind_some] at h
 rcases Nat.lt_or_ge 1 w.heap.size with h1 | h1
 · exact h1
 simp [Array.getElem?_eq_none h1] at h
theorem TabW.keepsS {S : Nat → Prop} {w w' : World} (h : TabW w) (K : xaa S w w') (hs : ¬ S 1) : TabW w' := by
 have hl := h.lt
 have hb := K.block _ hl hs
 unfold TabW Lib.TabIs World.var? at h ⊢
 rw [xc1] at h ⊢
 simp only [Option.bind_some] at h ⊢
 rw [hb]; exact h
theorem xb5 (n : Int) (w : World) (h : in64 n) (ht : TabW w) : Calls Tryz.prog 52 #[.int .i64 n] w fun e w' => e = .returned (strL (Lib.itoa n)) ∧ xaa (fun _ => False) w w' := by
 have HI := xmA (xlQ n w h ht)
 generalize Lib.itoa n = l at *
 go_enter Tryz.func52, Tryz.ntmps52
 go_wp2_with fail
 refine HI.out.mono ?_
 rintro e w' ⟨rfl, k⟩
 go_wp2_with fail
 go_ret
 exact ⟨rfl, k⟩
def CloH (l : List (Int × Int)) (w : World) (e : Ending) (w' : World) : Prop := ∃ u, e = .returned u ∧ w'.ownsRow w.heap.size 99 2 u l.length (cellsOf 2 encR l) ∧ xaa (fun _ => False) w w'
set_option maxHeartbeats 4000000 in
theorem xb1 (l : List (Int × Int)) (v : Value) (w : World) (h : SlOf 2 encR w v l) (hl : l.length ≤ 5000) :
 Calls Tryz.prog 48 #[v] w (CloH l w) := by
 rcases h.news (by omega) with ⟨rfl, rfl⟩ | ⟨ad, cap, rfl, hnews⟩
 · have hE := fun W => Lib.run_eql_slice_nil (P := Tryz.prog) W 40 99 none 0 0 0 0 Tryz.underlying40
   clear h hl
   go_enter Tryz.func48, Tryz.ntmps48
   go_wp2_with fail
   go_ret
   exact ⟨_, rfl, World.ownsRow_nil _ _ _ _, xaa.refl _ _⟩
 obtain ⟨i0, hi0, hz0, hz1, hz2⟩ := info_parts xfA
 have HC : Hid (∀ (j : Nat) (u : Value), (cellsOf 2 encR l)[j]? = some u → (w.alloc (.cells #[] 99)).cell? (ad.add j) = some u) := xmA (fun j u hu => xaj (hnews j u hu) _)
 have hE := fun W => Lib.run_eql_slice_nil (P := Tryz.prog) W 40 99 (some ad) l.length cap 0 0 Tryz.underlying40
 clear h hnews
 go_enter Tryz.func48, Tryz.ntmps48
 go_wp2_with (at_builtin; refine wpList_append_own _ rfl (.tmp 5) (.tmp 6) 40 rfl w.heap.size 99 i0 _ 2 16 Tryz.underlying40 hi0 hz0 hz1 hz2 rfl (by decide) _ 0 [] rfl (xc8 w _ 2) ad l.length cap (cellsOf 2 encR l) rfl (by rw [xah]) HC.out (xl2 _) (by unfold maxLen; omega) (by omega) (by simp) ?_)
 intro v' w2 hown hgrow _
 have hk2 : xaa (fun _ => False) w w2 := ((xaa.refl (fun _ => False) w).alloc _).trans2 ((xaa.refl (fun b => w.heap.size ≤ b) _).grown hgrow (fun b hb => Or.inl (by have := Option.some.inj hb; rw [← this]; exact Nat.le_refl _))) (fun i hi e => by omega)
 have HO := xmA hown
 have HK := xmA hk2
 clear hown hgrow hk2
 go_wp2_with fail
 go_ret
 exact ⟨_, rfl, HO.out, HK.out⟩
def InT (n : Nat) (l : List (Int × Int)) : Prop := ∀ p ∈ l, 0 ≤ p.1 ∧ p.1 ≤ p.2 ∧ p.2 ≤ (n : Int)
set_option maxHeartbeats 4000000 in
theorem out_any (p : Int × Int) (n : Nat) (s : ByteArray) (c : Nat) (w : World) (hc : w.cell? ⟨c, 2, none⟩ = some (.string s)) (hs : s.size = n) (hp : 0 ≤ p.1 ∧ p.1 ≤ p.2 ∧ p.2 ≤ (n : Int)) :
 Calls Tryz.prog 49 #[.agg #[.int .i64 p.1, .int .i64 p.2], .pointer (some ⟨c, 0, none⟩)] w fun e w' => e = .returned (.bool false) ∧ xaa (fun _ => False) w w' := by
 have hc1 : ∀ o, (w.alloc o).cell? ⟨c, 2, none⟩ = some (.string s) := xaj hc
 obtain ⟨p1, p2⟩ := p
 simp only at hp
 obtain ⟨h1, h2, h3⟩ := hp
 have g1 : decide (p1 < 0) = false := by simp; omega
 have g2 : decide (p2 < p1) = false := by simp; omega
 have g3 : decide ((s.size : Int) < p2) = false := by simp; omega
 clear h1 h2 h3 hs
 go_enter Tryz.func49, Tryz.ntmps49
 go_wp2_with fail
 go_ret
 exact ⟨rfl, (xaa.refl _ _).alloc _⟩
set_option maxHeartbeats 4000000 in
theorem xlT (l : List (Int × Int)) (v : Value) (n : Nat) (s : ByteArray) (c : Nat) (w : World) (h : SlOf 2 encR w v l) (hc : w.cell? ⟨c, 2, none⟩ = some (.string s)) (hs : s.size = n) (hin : InT n l) :
 Calls Tryz.prog 84 #[v, .func (.func 49) #[] #[.pointer (some ⟨c, 0, none⟩)]] w
  fun e w' => e = .returned (.int .i64 (-1)) ∧ xaa (fun _ => False) w w' := by
 have HI := xmA hin
 have HS := xmA h
 obtain ⟨a, cap, rfl, hl, hl2, hcl⟩ := h
 have Hc := xmA hcl
 clear hcl hin
 go_enter Tryz.func84, Tryz.ntmps84
 go_wp2_with fail
 go_loopw [8] (fun iv wr => ∃ i : Nat, iv = .int .i64 i ∧ i ≤ l.length ∧ xaa (fun _ => False) w wr) (fun iv _ => l.length - (intOf iv).toNat)
 case atStart => exact ⟨0, rfl, Nat.zero_le _, xaa.refl _ _⟩
 case round =>
  obtain ⟨i, rfl, hi, hkw⟩ := hrel
  by_cases hil : i < l.length
  · obtain ⟨b, off, rfl, hcc⟩ := Hc.out (by omega)
    obtain ⟨p, hp⟩ : ∃ p, l[i]? = some p := ⟨_, List.getElem?_eq_getElem hil⟩
    have c0 := hkw.cell (hcc i p hp 0 (by omega)) id
    have c1 := hkw.cell (hcc i p hp 1 (by omega)) id
    simp only [Nat.add_zero, encR, if_true, Nat.one_ne_zero, if_false] at c0 c1
    have hcr := hkw.cell hc id
    have hpp := HI.out p (List.mem_of_getElem? hp)
    clear hcc hp
    have HO := xmA (out_any p n s c wr hcr hs hpp)
    clear hpp
    go_wp2_with fail
    refine HO.out.mono ?_
    rintro e w1 ⟨rfl, hk1⟩
    have hkw1 := hkw.trans hk1
    go_wp2_with fail
    go_roundw
    case rel => exact ⟨i + 1, by go_num, by omega, hkw1⟩
    case measure => simp [intOf]; omega
  go_wp2_with fail
  go_ret
  exact ⟨rfl, hkw⟩
theorem xdk (l : List (Int × Int)) (v : Value) (n : Nat) (s : ByteArray) (c : Nat) (w : World) (h : SlOf 2 encR w v l) (hc : w.cell? ⟨c, 2, none⟩ = some (.string s)) (hs : s.size = n) (hin : InT n l) :
 Calls Tryz.prog 47 #[v, .func (.func 49) #[] #[.pointer (some ⟨c, 0, none⟩)]] w
  fun e w' => e = .returned v ∧ xaa (fun _ => False) w w' := by
 have HI := xmA (xlT l v n s c w h hc hs hin)
 obtain ⟨a, cap, rfl, _, _, _⟩ := h
 clear hc hin
 go_enter Tryz.func47, Tryz.ntmps47
 go_wp2_with fail
 refine HI.out.mono ?_
 rintro e w1 ⟨rfl, hk1⟩
 go_wp2_with fail
 go_ret
 exact ⟨rfl, hk1⟩
end Go.Proofs.YtjahiihmoglpfaaGreatDoor
