/-
  Several texts in one: The giver: what it has yet to send; its small functions and its Step. No condition. A stage's Shut and Send; a worker's leave, take, send. No condition. A worker: send, leave, take. No condition. A worker: take, Ready; its Step but the look. No condition. A worker's Step, but the look. No condition. A farm's look, guarded. No condition but that the engine answers.
-/
import Derived.Test.YtgobcnheemocnaaGreatDoorMg11
import Derived.BigRegion
import Derived.Defers
import Derived.Recover
import Derived.Laws.Pointers
section
namespace Go.Proofs.YtgobcnheemocnaaGreatDoor
open Go.RowKit
set_option linter.unusedVariables false
set_option linter.unusedSimpArgs false
set_option maxRecDepth 100000

/-- What is yet to be sent: a row of items, its block among S. -/
structure RoAt (w : World) (S : Nat → Prop) (v : Value) (L : List Itm) : Prop where
  ln : ∃ a c, v = .slice a L.length c
  at' : L ≠ [] → ∃ g off c, v = .slice (some ⟨g, off, none⟩) L.length c ∧ L.length ≤ c ∧ S g ∧ ∀ j u, (itL L)[j]? = some u → w.cell? ⟨g, off + j, none⟩ = some u
theorem RoAt.keeps {S T : Nat → Prop} {w w' : World} {v : Value} {L : List Itm} (h : RoAt w S v L) (K : Keeps T w w') (hs : ∀ b, S b → ¬ T b) : RoAt w' S v L := by
  refine ⟨h.ln, fun hne => ?_⟩
  obtain ⟨g, off, c, e, hc, hg, hu⟩ := h.at' hne
  exact ⟨g, off, c, e, hc, hg, fun j u hj => K.cell (hu j u hj) (hs _ hg)⟩
theorem RoAt.tail {S : Nat → Prop} {w : World} {g off c : Nat} {x : Itm} {L : List Itm} (h : RoAt w S (.slice (some ⟨g, off, none⟩) (L.length + 1) c) (x :: L)) : RoAt w S (.slice (some ⟨g, off + 7, none⟩) L.length (c - 1)) L := by
  refine ⟨⟨_, _, rfl⟩, fun hne => ?_⟩
  obtain ⟨g', off', c', e, hc, hg, hu⟩ := h.at' (by simp)
  simp only [Value.slice.injEq, Option.some.injEq, Addr.mk.injEq] at e
  obtain ⟨⟨rfl, rfl, _⟩, _, rfl⟩ := e
  refine ⟨g, off + 7, c - 1, rfl, by simp at hc; omega, hg, fun j u hj => ?_⟩
  have := hu (j + 7) u (by
    have : itL (x :: L) = (itC x).toList ++ itL L := by simp [itL]
    rw [this, List.getElem?_append_right (by simp [itC])]
    simpa [itC] using hj)
  rwa [show off + 7 + j = off + (j + 7) by omega]
theorem RoAt.none {S : Nat → Prop} {w : World} (a : Option Addr) (c : Nat) : RoAt w S (.slice a 0 c) [] := ⟨⟨a, c, rfl⟩, fun h => absurd rfl h⟩
/-- The giver. -/
structure GiAt (w : World) (gb pb ab : Nat) (S : Nat → Prop) (L : List Itm) (ov : Bool) : Prop where
  hd : ∃ v, w.heap[gb]? = some (.cells #[.pointer (some ⟨pb, 0, none⟩), .pointer (some ⟨ab, 0, none⟩), .int .i64 0, v, .bool ov] 66 (0, 0)) ∧ RoAt w (fun b => S b ∧ b ≠ gb) v L
  sb : S gb
theorem GiAt.keeps {S T : Nat → Prop} {w w' : World} {gb pb ab : Nat} {L : List Itm} {ov : Bool} (h : GiAt w gb pb ab S L ov) (K : Keeps T w w') (hs : ∀ b, S b → ¬ T b) : GiAt w' gb pb ab S L ov := by
  obtain ⟨v, h1, h2⟩ := h.hd
  exact ⟨⟨v, K.heap h1 (hs _ h.sb), h2.keeps K (fun b hb => hs _ hb.1)⟩, h.sb⟩
section
variable {w : World} {gb pb ab : Nat} {S Sp : Nat → Prop} {L : List Itm} {ov : Bool}
theorem GiAt.c (h : GiAt w gb pb ab S L ov) : ∃ v, w.cell? ⟨gb, 0, none⟩ = some (.pointer (some ⟨pb, 0, none⟩)) ∧ w.cell? ⟨gb, 1, none⟩ = some (.pointer (some ⟨ab, 0, none⟩)) ∧ w.cell? ⟨gb, 2, none⟩ = some (.int .i64 0) ∧ w.cell? ⟨gb, 3, none⟩ = some v ∧ w.cell? ⟨gb, 4, none⟩ = some (.bool ov) ∧ (∀ o, w.frozen? ⟨gb, o, none⟩ = false) ∧ RoAt w (fun b => S b ∧ b ≠ gb) v L := by
  obtain ⟨v, h1, h2⟩ := h.hd
  refine ⟨v, ?_, ?_, ?_, ?_, ?_, fun o => frozen_block h1 o none, h2⟩ <;> (rw [cell_block h1]; rfl)
theorem gover_any (h : GiAt w gb pb ab S L ov) : Calls Tryz.prog 207 #[.pointer (some ⟨gb, 0, none⟩)] w fun e w' => e = .returned (.bool ov) ∧ Keeps (fun _ => False) w w' := by
  obtain ⟨v, _, _, _, _, x4, _⟩ := h.c
  clear h
  go_enter Tryz.func207, Tryz.ntmps207
  go_wp2_with fail
  go_ret
  exact ⟨rfl, Keeps.refl _ _⟩
theorem gname_any (w : World) : Calls Tryz.prog 206 #[.pointer (some ⟨gb, 0, none⟩)] w fun e w' => (∃ s, e = .returned (.string s)) ∧ Keeps (fun _ => False) w w' := by
  go_enter Tryz.func206, Tryz.ntmps206
  go_wp2_with fail
  go_ret
  exact ⟨⟨_, rfl⟩, Keeps.refl _ _⟩
set_option maxHeartbeats 4000000 in
theorem gready_any {Sa : Nat → Prop} {o : Option (Int × Itm)} {cl : Bool} {sn : Int} (h : GiAt w gb pb ab S L ov) (hpl : PlF w pb Sp) (hp : PiAt w ab Sa o cl sn) (ho : ∀ p, o = some p → p.1 = 0) :
    Calls Tryz.prog 208 #[.pointer (some ⟨gb, 0, none⟩)] w fun e w' => e = .returned (.bool (!o.isSome)) ∧ Keeps (fun _ => False) w w' := by
  obtain ⟨v, x0, x1, x2, _⟩ := h.c
  have HSt := Lib.hid (fstopped_any pb Sp w.drew (hpl.keeps (T := fun _ => False) (Keeps.refl _ _).drew (fun _ _ => id)))
  have HW := Lib.hid (waits_any 0 ab Sa o cl sn w.drew (hp.keeps (T := fun _ => False) (Keeps.refl _ _).drew (fun _ _ => id)) ho)
  clear h hpl hp ho
  go_enter Tryz.func208, Tryz.ntmps208
  go_upto_region 1 with fail
  go_region_law (first | (go_simp; go_at_call 210; refine HSt.out.mono ?_; rintro e w1 ⟨rfl, rfl⟩) | (go_simp; go_at_call 211; refine HW.out.mono ?_; rintro e w2 ⟨rfl, k2⟩))
  all_goals (go_wp2_with fail; go_ret; exact ⟨by cases o <;> rfl, (Keeps.refl _ _).drew.trans k2⟩)
set_option maxHeartbeats 4000000 in
theorem gstep_end {Sa : Nat → Prop} {sn : Int} (h : GiAt w gb pb ab S [] ov) (hp : PiAt w ab Sa none false sn) (hs : ∀ b, Sa b → b ≠ gb) :
    Calls Tryz.prog 209 #[.pointer (some ⟨gb, 0, none⟩)] w fun e w' => e = .returned (.tuple #[]) ∧ (∃ v, w'.heap[gb]? = some (.cells #[.pointer (some ⟨pb, 0, none⟩), .pointer (some ⟨ab, 0, none⟩), .int .i64 0, v, .bool true] 66 (0, 0)) ∧ ∃ a c, v = .slice a 0 c) ∧ PiAt w' ab Sa none true sn ∧ Keeps (fun k => k = gb ∨ k = ab) w w' := by
  obtain ⟨v, hd, hv⟩ := h.hd
  obtain ⟨a, c, rfl⟩ := hv.ln
  have hne : gb ≠ ab := fun e => hs _ hp.sb e.symm
  obtain ⟨_, x0, x1, x2, hq⟩ := h.c
  clear hq
  have x3 : w.cell? ⟨gb, 3, none⟩ = some (.slice a 0 c) := by rw [cell_block hd]; rfl
  have HWd := Lib.hid (withdraw_none 0 ab Sa false sn w.drew (hp.keeps (T := fun _ => False) (Keeps.refl _ _).drew (fun _ _ => id)))
  have H := Lib.hid (And.intro hd (And.intro hp (And.intro hne hs)))
  have HS := Lib.hid (fun W => fslip_any pb W)
  clear h hp hd hv hne hs
  go_enter Tryz.func209, Tryz.ntmps209
  go_upto_region 1 with fail
  go_still_tail 8, (by kernel_rfl)
  change wpList _ _ _ _ _ w.drew
  go_wp2_with fail
  refine HWd.out.mono ?_
  rintro e w1 ⟨rfl, k1⟩
  have K1 : Keeps (fun _ => False) w w1 := (Keeps.refl _ _).drew.trans k1
  have hd1 := K1.heap H.out.1 id
  have y0 : w1.cell? ⟨gb, 0, none⟩ = some (.pointer (some ⟨pb, 0, none⟩)) := by rw [cell_block hd1]; rfl
  have y1 : w1.cell? ⟨gb, 1, none⟩ = some (.pointer (some ⟨ab, 0, none⟩)) := by rw [cell_block hd1]; rfl
  have HC := Lib.hid (pclose_any ab Sa sn w1.drew ((H.out.2.1.keeps K1 (fun _ _ => id)).keeps (T := fun _ => False) (Keeps.refl _ _).drew (fun _ _ => id)))
  have H1 := Lib.hid (And.intro hd1 K1)
  have hn := H.out.2.2.1
  clear K1 hd1 k1 HWd x0 x1 x2 x3
  go_wp2_with fail
  go_region_law (first | (go_simp; go_at_call 214; refine HC.out.mono ?_; rintro e w2 ⟨rfl, hp2, k2⟩; have d0 := k2.cell y0 hn; have d1 := k2.cell y1 hn; have KD := Lib.hid (And.intro hp2 k2); clear hp2 k2) | (go_simp; go_at_call 213; refine (HS.out _).mono ?_; rintro e w3 ⟨rfl, rfl⟩))
  all_goals
    have k2 := (H1.out.2.mono (T := fun k => k = ab) fun _ _ e => e.elim).drew.trans KD.out.2
    have hd2 := KD.out.2.heap (show w1.drew.heap[gb]? = _ from H1.out.1) hn
    have z4 := (cell_block hd2 4).trans (show _ = some (Value.bool ov) from rfl)
    have f4 := frozen_block hd2 4 none
    have HF := Lib.hid (And.intro (cellQ_set 4 (.bool true) hd2) (And.intro (KD.out.1.keeps (setQ _ gb 4 (.bool true)) (fun b hb e => H.out.2.2.2 b hb e)) ((k2.mono (T := fun k => k = gb ∨ k = ab) fun _ _ e => Or.inr e).trans ((setQ _ gb 4 (.bool true)).mono fun _ _ e => Or.inl e))))
    clear k2 hd2 H H1 KD HC
    go_wp2_with fail
    (try simp only [Exit.inBlock, Exit.then]); refine bodyPost_ret (results_none rfl _ _ _) rfl ?_
    exact ⟨rfl, ⟨_, HF.out.1, a, c, rfl⟩, HF.out.2.1, HF.out.2.2⟩
set_option maxHeartbeats 4000000 in
theorem gstep_send {Sa : Nat → Prop} {sn : Int} {x : Itm} (h : GiAt w gb pb ab S (x :: L) ov) (hpl : PlF w pb Sp) (hp : PiAt w ab Sa none false sn) (hs : ∀ b, Sa b → ¬ S b) (h0 : 0 ≤ sn) (h1 : sn ≤ 1000000) :
    Calls Tryz.prog 209 #[.pointer (some ⟨gb, 0, none⟩)] w fun e w' => e = .returned (.tuple #[]) ∧ GiAt w' gb pb ab S L ov ∧ PiAt w' ab (GrP Sa w w') (some (0, x)) false (sn + 1) ∧ Keeps (fun k => k = gb ∨ Sa k) w w' := by
  obtain ⟨v, hd, hv⟩ := h.hd
  obtain ⟨g, off, cap, rfl, hcap, hg, hu⟩ := hv.at' (by simp)
  simp only [List.length_cons] at hd hv hcap
  have hsb := h.sb
  have x0 : w.cell? ⟨gb, 0, none⟩ = some (.pointer (some ⟨pb, 0, none⟩)) := by rw [cell_block hd]; rfl
  have x1 : w.cell? ⟨gb, 1, none⟩ = some (.pointer (some ⟨ab, 0, none⟩)) := by rw [cell_block hd]; rfl
  have x2 : w.cell? ⟨gb, 2, none⟩ = some (.int .i64 0) := by rw [cell_block hd]; rfl
  have x3 : w.cell? ⟨gb, 3, none⟩ = some (.slice (some ⟨g, off, none⟩) (L.length + 1) cap) := by rw [cell_block hd]; rfl
  have i0 : w.cell? ⟨g, off, none⟩ = some (.int .i64 x.n) := hu 0 _ rfl
  have i1 := hu 1 (.int .i64 x.bf) rfl
  have i2 := hu 2 (.int .i64 x.rn) rfl
  have i3 := hu 3 (.int .i64 x.ra) rfl
  have i4 := hu 4 (.string x.s) rfl
  have i5 := hu 5 (.slice x.ha x.hn x.hc) rfl
  have i6 := hu 6 (.int .i64 x.e) rfl
  have HSt := Lib.hid (fstopped_any pb Sp w hpl)
  have HC := Lib.hid (send_any ab Sa 0 x sn w.drew (hp.keeps (T := fun _ => False) (Keeps.refl _ _).drew (fun _ _ => id)) h0 h1)
  have H := Lib.hid (And.intro hd (And.intro hp (And.intro hs (And.intro hsb hv))))
  have n0 : ((L.length : Int) + 1 == 0) = false := by simp; omega
  have n1 : ¬ ((L.length : Int) + 1 = 0) := by omega
  have n2 : (0 : Int) < (L.length : Int) + 1 := by omega
  have hc3 : (L.length : Int) + 1 ≤ (cap : Int) := by omega
  clear h hp hd hv hs hpl hu hg h0 h1
  unfold itV itC at HC
  go_enter Tryz.func209, Tryz.ntmps209
  go_wp2_with fail
  refine HSt.out.mono ?_
  rintro e w1 ⟨rfl, rfl⟩
  go_upto_region 4 with fail
  go_still_tail 14, (by kernel_rfl)
  change wpList _ _ _ _ _ w1.drew
  go_wp2_with fail
  refine HC.out.mono ?_
  rintro e w2 ⟨rfl, hp2, k2⟩
  have K2 : Keeps Sa w1 w2 := (Keeps.refl Sa w1).drew.trans k2
  have hd2 := K2.heap H.out.1 (fun e => H.out.2.2.1 _ e H.out.2.2.2.1)
  have hv2 := H.out.2.2.2.2.keeps K2 (fun b hb e => H.out.2.2.1 _ e hb.1)
  have y3 : w2.cell? ⟨gb, 3, none⟩ = some (.slice (some ⟨g, off, none⟩) (L.length + 1) cap) := by rw [cell_block hd2]; rfl
  have f3 : w2.frozen? ⟨gb, 3, none⟩ = false := frozen_block hd2 3 none
  have HF : Hid (∀ v', RoAt w2 (fun b => S b ∧ b ≠ gb) v' L → GiAt (w2.setCell ⟨gb, 3, none⟩ v') gb pb ab S L ov ∧ PiAt (w2.setCell ⟨gb, 3, none⟩ v') ab (GrP Sa w1 (w2.setCell ⟨gb, 3, none⟩ v')) (some (0, x)) false (sn + 1) ∧ Keeps (fun k => k = gb ∨ Sa k) w1 (w2.setCell ⟨gb, 3, none⟩ v')) := Lib.hid (fun v' hv' => by
    have hgl : gb < w1.heap.size := (Array.getElem?_eq_some_iff.1 H.out.1).1
    refine ⟨⟨⟨v', cellQ_set 3 v' hd2, hv'.keeps (setQ _ gb 3 v') (fun b hb e => hb.2 e)⟩, H.out.2.2.2.1⟩, ?_, (K2.mono fun _ _ e => Or.inr e).trans ((setQ _ gb 3 v').mono fun _ _ e => Or.inl e)⟩
    refine (hp2.keeps (setQ _ gb 3 v') (fun b hb e => ?_)).mono (fun b hb => ?_)
    · rcases hb with hb | ⟨hb1, _⟩
      · exact H.out.2.2.1 _ hb (by rw [e]; exact H.out.2.2.2.1)
      · have e : b = gb := e
        have e2 : w1.drew.heap.size = w1.heap.size := rfl
        omega
    · rcases hb with hb | ⟨hb1, hb2⟩
      · exact Or.inl hb
      · exact Or.inr ⟨hb1, by simpa [World.setCell] using hb2⟩)
  have HV2 := Lib.hid hv2
  clear K2 hd2 hv2 hp2 k2 HC HSt H x0 x1 x2 x3 i0 i1 i2 i3 i4 i5 i6 n0 n1 n2
  by_cases hc1 : cap = 1
  · obtain rfl : L = [] := List.eq_nil_of_length_eq_zero (by omega)
    subst hc1
    simp only [List.length_nil] at y3 hc3 HV2
    have HX := Lib.hid (HF.out (.slice (some ⟨g, off, none⟩) 0 0) (RoAt.none _ _))
    clear HF
    go_wp2_with fail
    go_end0
    exact ⟨rfl, HX.out⟩
  · have hc2 : ¬ (cap : Int) = 1 := by omega
    have hc4 : ((cap - 1 : Nat) : Int) = (cap : Int) - 1 := by omega
    have hc5 : (2 : Int) ≤ (cap : Int) := by omega
    have HX := Lib.hid (HF.out (.slice (some ⟨g, off + 7, none⟩) L.length (cap - 1)) HV2.out.tail)
    clear HF
    go_wp2_with fail
    go_end0
    exact ⟨rfl, HX.out⟩
end
end Go.Proofs.YtgobcnheemocnaaGreatDoor
end
section
namespace Go.Proofs.YtgobcnheemocnaaGreatDoor
open Go.RowKit
set_option linter.unusedVariables false
set_option linter.unusedSimpArgs false
set_option maxRecDepth 100000

section
variable {w : World} {wb pb ob fb xb ab : Nat} {nm : ByteArray} {who : Int} {ov : Bool} {st : Int} {x : Itm} {al : Value} {op mo lo le : Int}
set_option maxHeartbeats 4000000 in
theorem sshut_any {S : Nat → Prop} {sn : Int} (h : WkAt w wb pb ob fb nm who ov st x) (hp : PiAt w ob S none false sn) (hne : wb ≠ ob) :
    Calls Tryz.prog 238 #[.pointer (some ⟨wb, 0, none⟩)] w fun e w' => e = .returned (.tuple #[]) ∧ PiAt w' ob S none true sn ∧ Keeps (fun k => k = ob) w w' := by
  obtain ⟨c0, _, c3, _⟩ := h.c
  have HC := Lib.hid (pclose_any ob S sn w.drew (hp.keeps (T := fun _ => False) (Keeps.refl _ _).drew (fun _ _ => id)))
  have HS := Lib.hid (fun W => fslip_any pb W)
  clear h hp
  go_enter Tryz.func238, Tryz.ntmps238
  go_upto_region 0 with fail
  go_region_law (first | (go_simp; go_at_call 214; refine HC.out.mono ?_; rintro e w1 ⟨rfl, hp1, k1⟩; have d0 := k1.cell c0 hne; have d3 := k1.cell c3 hne; have KD := Lib.hid (And.intro hp1 k1); clear hp1 k1) | (go_simp; go_at_call 213; refine (HS.out _).mono ?_; rintro e w2 ⟨rfl, rfl⟩))
  all_goals (go_wp2_with fail; go_end0; exact ⟨rfl, KD.out.1, (Keeps.refl _ _).drew.trans KD.out.2⟩)
set_option maxHeartbeats 4000000 in
theorem ssend_any {S : Nat → Prop} {sn : Int} {y : Itm} (h : WkAt w wb pb ob fb nm who ov st x) (hp : PiAt w ob S none false sn) (hs : ¬ S wb) (h0 : 0 ≤ sn) (h1 : sn ≤ 1000000) :
    Calls Tryz.prog 239 #[.pointer (some ⟨wb, 0, none⟩), itV y] w fun e w' => e = .returned (.tuple #[]) ∧ PiAt w' ob (GrP S w w') (some (who, y)) false (sn + 1) ∧ Keeps S w w' := by
  obtain ⟨w1, hw1⟩ : ∃ W, w.alloc (.cells (itC y) 56) = W := ⟨_, rfl⟩
  have k1 : Keeps (fun _ => False) w w1 := by rw [← hw1]; exact (Keeps.refl _ _).alloc _
  have r1 : w1.heap[w.heap.size]? = some (.cells (itC y) 56 (0, 0)) := by rw [← hw1]; exact heap_alloc_new _ _
  have hk := k1.heap h id
  obtain ⟨c0, c2, c3, _⟩ := WkAt.c hk
  obtain ⟨r0, i1, i2, i3, i4, i5, i6⟩ := it_cells r1
  have HC := Lib.hid (send_any ob S who y sn w1.drew ((hp.keeps k1 (fun _ _ => id)).keeps (T := fun _ => False) (Keeps.refl _ _).drew (fun _ _ => id)) h0 h1)
  have HS := Lib.hid (fun W => fslip_any pb W)
  have HK := Lib.hid (And.intro k1 (And.intro c0 hs))
  have hw2 := hw1
  unfold itC at hw2
  have HW1 := Lib.hid hw2
  clear h hp k1 r1 hk hw1 hw2 hs
  unfold itV itC at HC ⊢
  go_enter Tryz.func239, Tryz.ntmps239
  go_upto_region 1 with fail
  rw [HW1.out]
  clear HW1
  go_region_law (first | (go_simp; go_at_call 215; refine HC.out.mono ?_; rintro e w2 ⟨rfl, hp2, k2⟩))
  all_goals
  have d0 := k2.cell (show w1.drew.cell? ⟨wb, 0, none⟩ = some (.pointer (some ⟨pb, 0, none⟩)) from HK.out.2.1) HK.out.2.2
  have HP := Lib.hid (And.intro (hp2.mono (T := GrP S w w2) (fun b hb => by
    rcases hb with hb | ⟨hb1, hb2⟩
    · exact Or.inl hb
    · have := HK.out.1.size
      have e : w1.drew.heap.size = w1.heap.size := rfl
      exact Or.inr ⟨by omega, hb2⟩)) ((HK.out.1.mono fun _ _ e => e.elim).trans ((Keeps.refl S w1).drew.trans k2)))
  clear hp2 k2 HC c0 c2 c3 r0 i1 i2 i3 i4 i5 i6
  go_wp2_with fail
  refine (HS.out _).mono ?_
  rintro e w3 ⟨rfl, rfl⟩
  go_wp2_with fail
  go_end0
  exact ⟨rfl, HP.out.1, HP.out.2⟩
end
end Go.Proofs.YtgobcnheemocnaaGreatDoor
end
section
namespace Go.Proofs.YtgobcnheemocnaaGreatDoor
open Go.RowKit
set_option linter.unusedVariables false
set_option linter.unusedSimpArgs false
set_option maxRecDepth 100000

section
variable {w : World} {wb pb ob fb xb ab : Nat} {nm : ByteArray} {who : Int} {ov : Bool} {st : Int} {x : Itm} {al : Value} {op mo lo le : Int}
theorem WkAt.item (h : WkAt w wb pb ob fb nm who ov st x) : w.cell? ⟨wb, 7, none⟩ = some (.int .i64 x.n) ∧ w.cell? ⟨wb, 8, none⟩ = some (.int .i64 x.bf) ∧ w.cell? ⟨wb, 9, none⟩ = some (.int .i64 x.rn) ∧ w.cell? ⟨wb, 10, none⟩ = some (.int .i64 x.ra) ∧ w.cell? ⟨wb, 11, none⟩ = some (.string x.s) ∧ w.cell? ⟨wb, 12, none⟩ = some (.slice x.ha x.hn x.hc) ∧ w.cell? ⟨wb, 13, none⟩ = some (.int .i64 x.e) := by
  refine ⟨?_, ?_, ?_, ?_, ?_, ?_, ?_⟩ <;> (rw [cell_block h]; rfl)
theorem run_storeIt (w : World) (g : Nat) (x : Itm) (cs : Array Value) (T : TypeId) (h : w.heap[g]? = some (.cells cs T (0, 0))) (hs : 14 ≤ cs.size) :
    (storeVar 56 ⟨g, 7, none⟩ (itV x)).run Tryz.prog w = .ok () (w.setCells g 7 (itC x).toList) := by
  have hi := it_size x
  cases hq : Tryz.prog.info? 56 with
  | none => simp [hq] at hi
  | some i =>
    have hs7 : i.size = 7 := by simpa [hq, itC] using hi
    have h7 : (itC x).toList.length = 7 := rfl
    have hst := run_storeCells_cells (P := Tryz.prog) g 7 (itC x).toList 0 w (fun j hj => (cells_at h _ (by omega)).1) (fun j hj => (cells_at h _ (by omega)).2) (by intro v hv; simpa using Array.all_eq_true'.1 (it_one x) v (by simpa using hv))
    simp only [Nat.add_zero] at hst
    simp [storeVar, Sem.run_bind, sizeOf, typeInfo, hq, hs7, itV]
    exact (if_pos rfl).trans hst
theorem WkAt.set (h : WkAt w wb pb ob fb nm who ov st x) (y : Itm) : WkAt (w.setCells wb 7 (itC y).toList) wb pb ob fb nm who ov st y := by
  have s1 := cellQ_set 7 (.int .i64 y.n) h
  have s2 := cellQ_set 8 (.int .i64 y.bf) s1
  have s3 := cellQ_set 9 (.int .i64 y.rn) s2
  have s4 := cellQ_set 10 (.int .i64 y.ra) s3
  have s5 := cellQ_set 11 (.string y.s) s4
  have s6 := cellQ_set 12 (.slice y.ha y.hn y.hc) s5
  have s7 := cellQ_set 13 (.int .i64 y.e) s6
  have e : ((((((((wkC pb ob fb nm who ov st x).setIfInBounds 7 (.int .i64 y.n)).setIfInBounds 8 (.int .i64 y.bf)).setIfInBounds 9 (.int .i64 y.rn)).setIfInBounds 10 (.int .i64 y.ra)).setIfInBounds 11 (.string y.s)).setIfInBounds 12 (.slice y.ha y.hn y.hc)).setIfInBounds 13 (.int .i64 y.e)) = wkC pb ob fb nm who ov st y := by simp [wkC]
  rw [e] at s7
  exact s7
theorem wpList_store_wk {ops : Array Oper} {rest : List Oper} {o : Oper} {a : Act} {Q : Exit → Act → World → Prop} (hgd : o.guard = none) (p y : Operand) (ho : o.op = .store 56 p y)
    (hx : a.eval p = .pointer (some ⟨wb, 7, none⟩)) (z : Itm) (hy : a.eval y = itV z) (h : WkAt w wb pb ob fb nm who ov st x)
    (hk : ∀ w', WkAt w' wb pb ob fb nm who ov st z → Keeps (fun k => k = wb) w w' → wpList Tryz.prog ops Q rest (a.put o.dst undef) w') : wpList Tryz.prog ops Q (o :: rest) a w := by
  refine wpList_plain hgd fun _ hK => ?_
  unfold Oper.wp execOp
  simp only [ho, hx, hy, Instr.storeAt, Instr.sureAddr, Sem.run_bind, Sem.run_pure, Result.andThen_ok, run_storeIt w wb z _ _ h (by simp [wkC])]
  exact hK _ _ (hk _ (WkAt.set h z) (setCells_keeps _ _ _))
set_option maxHeartbeats 4000000 in
theorem wsend_any {S : Nat → Prop} {sn : Int} (h : WkAt w wb pb ob fb nm who ov st x) (hp : PiAt w ob S none false sn) (hs : ¬ S wb) (h0 : 0 ≤ sn) (h1 : sn ≤ 1000000) :
    Calls Tryz.prog 230 #[.pointer (some ⟨wb, 0, none⟩)] w fun e w' => e = .returned (.tuple #[]) ∧ WkAt w' wb pb ob fb nm who ov 3 itZ ∧ PiAt w' ob (GrP S w w') (some (who, x)) false (sn + 1) ∧ Keeps (fun k => k = wb ∨ S k) w w' := by
  obtain ⟨_, _, _, _, _, c6, cf⟩ := h.c
  have f6 := cf 6
  obtain ⟨w1, hw1⟩ : ∃ W, w.setCell ⟨wb, 6, none⟩ (.int .i64 3) = W := ⟨_, rfl⟩
  have h2 : WkAt w1 wb pb ob fb nm who ov 3 x := by rw [← hw1]; exact cellQ_set 6 (.int .i64 3) h
  have k1 : Keeps (fun k => k = wb) w w1 := by rw [← hw1]; exact setQ _ _ _ _
  have hp1 := hp.keeps k1 (fun b hb e => hs (e ▸ hb))
  obtain ⟨i0, i1, i2, i3, i4, i5, i6⟩ := h2.item
  have HC := Lib.hid (ssend_any (w := w1.drew) (y := x) h2 (hp1.keeps (T := fun _ => False) (Keeps.refl _ _).drew (fun _ _ => id)) hs h0 h1)
  have hlt : wb < w.heap.size := (Array.getElem?_eq_some_iff.1 h).1
  have HB := Lib.hid (And.intro h2 (And.intro k1 hs))
  have HW1 := Lib.hid hw1
  clear h hp h2 k1 hp1 cf hw1 hs
  unfold itV itC at HC
  go_enter Tryz.func230, Tryz.ntmps230
  go_upto_region 1 with fail
  rw [HW1.out]
  clear HW1
  go_still_tail 7, (by kernel_rfl)
  change wpList _ _ _ _ _ w1.drew
  go_wp2_with fail
  refine HC.out.mono ?_
  rintro e w2 ⟨rfl, hp2, k2⟩
  have h3 : WkAt w2 wb pb ob fb nm who ov 3 x := k2.heap (show w1.drew.heap[wb]? = _ from HB.out.1) HB.out.2.2
  have hz : w.heap.size ≤ w1.drew.heap.size := HB.out.2.1.size
  have HP := Lib.hid (And.intro (hp2.mono (T := GrP S w w2) (fun b hb => by
    rcases hb with hb | ⟨hb1, hb2⟩
    · exact Or.inl hb
    · exact Or.inr ⟨by omega, hb2⟩)) (And.intro h3 ((HB.out.2.1.mono fun _ _ e => Or.inl e).trans ((Keeps.refl (fun k => k = wb ∨ S k) w1).drew.trans (k2.mono fun _ _ e => Or.inr e)))))
  have HWt := Lib.hid (swaits_any (w := w2) true h3 (fun W kW => waits_any who ob (GrP S w w2) (some (who, x)) false (sn + 1) W (HP.out.1.keeps kW (fun _ _ => id)) (fun p hp => by cases hp; rfl)))
  clear h3 hp2 k2 HC i0 i1 i2 i3 i4 i5 i6 c6 f6 hz
  go_wp2_with fail
  refine HWt.out.mono ?_
  rintro e w3 ⟨rfl, k3⟩
  have H3 := Lib.hid (And.intro (HP.out.1.keeps k3 (fun _ _ => id)) (And.intro (k3.heap HP.out.2.1 id) (HP.out.2.2.trans (k3.mono fun _ _ e => e.elim))))
  clear HP HWt
  go_wp2_with (refine wpList_store_wk (x := x) rfl (.tmp 24) (.tmp 22) rfl rfl itZ rfl (by exact H3.out.2.1) ?_)
  intro w4 h4 k4
  have hgw : ∀ b, GrP S w w2 b → b ≠ wb := fun b hb e => by
    subst e
    rcases hb with hb | ⟨hb1, hb2⟩
    · exact HB.out.2.2 hb
    · omega
  have hsz : w2.heap.size ≤ w4.heap.size := Nat.le_trans k3.size k4.size
  have H4 := Lib.hid (And.intro h4 (And.intro ((H3.out.1.keeps k4 hgw).mono (T := GrP S w w4) (fun b hb => hb.elim Or.inl (fun e => Or.inr ⟨e.1, by omega⟩))) (H3.out.2.2.trans (k4.mono fun _ _ e => Or.inl e))))
  clear h4 k4 hgw H3 hsz hlt
  go_wp2_with fail
  go_end0
  exact ⟨rfl, H4.out⟩
set_option maxHeartbeats 4000000 in
theorem wleave_any {S : Nat → Prop} {sn : Int} (h : WkAt w wb pb ob fb nm who ov st x) (hf : FmAt w fb pb xb ab al op mo lo 1) (hp : PiAt w ob S none false sn) (hs : ¬ S wb) (hs2 : ¬ S fb) (hn : wb ≠ fb) :
    Calls Tryz.prog 229 #[.pointer (some ⟨wb, 0, none⟩)] w fun e w' => e = .returned (.tuple #[]) ∧ WkAt w' wb pb ob fb nm who true 0 x ∧ FmAt w' fb pb xb ab al op mo lo 0 ∧ PiAt w' ob S none true sn ∧ Keeps (fun k => k = wb ∨ k = fb ∨ k = ob) w w' := by
  have hob := hp.sb
  have hne : wb ≠ ob := fun e => hs (e ▸ hob)
  have hne2 : fb ≠ ob := fun e => hs2 (e ▸ hob)
  have HWd := Lib.hid (swithdraw_any h (fun W k => withdraw_none who ob S false sn W (hp.keeps k (fun _ _ => id))))
  have H := Lib.hid (And.intro h (And.intro hf hp))
  clear h hf hp
  go_enter Tryz.func229, Tryz.ntmps229
  go_wp2_with fail
  refine HWd.out.mono ?_
  rintro e w1 ⟨rfl, k1⟩
  have h1 : WkAt w1 wb pb ob fb nm who ov st x := k1.heap H.out.1 id
  obtain ⟨_, _, _, _, _, c6, cf⟩ := WkAt.c h1
  have f6 := cf 6
  obtain ⟨w2, hw2⟩ : ∃ W, w1.setCell ⟨wb, 6, none⟩ (.int .i64 0) = W := ⟨_, rfl⟩
  have h2 : WkAt w2 wb pb ob fb nm who ov 0 x := by rw [← hw2]; exact cellQ_set 6 (.int .i64 0) h1
  have k2 : Keeps (fun k => k = wb) w1 w2 := by rw [← hw2]; exact setQ _ _ _ _
  have HL := Lib.hid (sleave_any h2)
  have H2 := Lib.hid (And.intro (show FmAt w2 fb pb xb ab al op mo lo 1 from k2.heap (k1.heap H.out.2.1 id) (fun e => hn e.symm)) (And.intro ((H.out.2.2.keeps k1 (fun _ _ => id)).keeps k2 (fun b hb e => hs (e ▸ hb))) ((k1.mono (T := fun k => k = wb ∨ k = fb ∨ k = ob) fun _ _ e => e.elim).trans (k2.mono fun _ _ e => Or.inl e))))
  have HW2 := Lib.hid hw2
  clear h1 cf k1 h2 k2 hw2 HWd H
  go_upto_region 2 with fail
  rw [HW2.out]
  clear HW2
  go_wp2_with fail
  refine HL.out.mono ?_
  rintro e w3 ⟨rfl, h3, k3⟩
  have g3 : FmAt w3 fb pb xb ab al op mo lo 1 := k3.heap H2.out.1 (fun e => hn e.symm)
  obtain ⟨_, _, _, _, d5, _⟩ := WkAt.c h3
  obtain ⟨_, _, _, _, _, _, q7, qf⟩ := FmAt.c g3
  have qf7 := qf 7
  obtain ⟨w4, hw4⟩ : ∃ W, w3.setCell ⟨fb, 7, none⟩ (.int .i64 0) = W := ⟨_, rfl⟩
  have k4 : Keeps (fun k => k = fb) w3 w4 := by rw [← hw4]; exact setQ _ _ _ _
  have g4 : FmAt w4 fb pb xb ab al op mo lo 0 := by rw [← hw4]; exact cellQ_set 7 (.int .i64 0) g3
  have h4 : WkAt w4 wb pb ob fb nm who true 0 x := k4.heap h3 hn
  obtain ⟨_, _, _, _, _, _, e7, _⟩ := FmAt.c g4
  obtain ⟨_, _, _, _, e5, _⟩ := WkAt.c h4
  have hp4 := (H2.out.2.1.keeps k3 (fun b hb e => hs (e ▸ hb))).keeps k4 (fun b hb e => hs2 (e ▸ hb))
  have HSh := Lib.hid (sshut_any h4 hp4 hne)
  have H4 := Lib.hid (And.intro h4 (And.intro g4 ((H2.out.2.2.trans (k3.mono fun _ _ e => Or.inl e)).trans (k4.mono fun _ _ e => Or.inr (Or.inl e)))))
  have HW4 := Lib.hid hw4
  clear h3 g3 qf k4 g4 h4 hp4 k3 hw4 H2 HL
  go_upto_region 4 with fail
  rw [HW4.out]
  clear HW4
  go_wp2_with fail
  refine HSh.out.mono ?_
  rintro e w5 ⟨rfl, hp5, k5⟩
  have H5 := Lib.hid (And.intro (show WkAt w5 wb pb ob fb nm who true 0 x from k5.heap H4.out.1 hne) (And.intro (show FmAt w5 fb pb xb ab al op mo lo 0 from k5.heap H4.out.2.1 hne2) (And.intro hp5 (H4.out.2.2.trans (k5.mono fun _ _ e => Or.inr (Or.inr e))))))
  clear hp5 k5 H4
  go_wp2_with fail
  go_end0
  exact ⟨rfl, H5.out⟩
end
end Go.Proofs.YtgobcnheemocnaaGreatDoor
end
section
namespace Go.Proofs.YtgobcnheemocnaaGreatDoor
open Go.RowKit
set_option linter.unusedVariables false
set_option linter.unusedSimpArgs false
set_option maxRecDepth 100000

section
variable {w : World} {wb pb ob fb xb ab : Nat} {nm : ByteArray} {who : Int} {ov : Bool} {st : Int} {x : Itm} {al : Value} {op mo lo le : Int}
set_option maxHeartbeats 4000000 in
theorem wtake_some {S : Nat → Prop} {q : Int} {y : Itm} {cl : Bool} {sn : Int} (h : WkAt w wb pb ob fb nm who ov st x) (hf : FmAt w fb pb xb ab al op mo lo le) (hp : PiAt w ab S (some (q, y)) cl sn) (hs : ¬ S wb) (hs2 : ¬ S fb) (hn : wb ≠ fb) :
    Calls Tryz.prog 231 #[.pointer (some ⟨wb, 0, none⟩)] w fun e w' => e = .returned (.tuple #[]) ∧ WkAt w' wb pb ob fb nm who ov 1 y ∧ PiAt w' ab S none cl sn ∧ Keeps (fun k => k = wb ∨ k = ab) w w' := by
  have hab := hp.sb
  have hne : wb ≠ ab := fun e => hs (e ▸ hab)
  have hne2 : fb ≠ ab := fun e => hs2 (e ▸ hab)
  obtain ⟨_, _, _, _, c5, _⟩ := h.c
  obtain ⟨d0, _, d2, _⟩ := hf.c
  have HT := Lib.hid (take_some ab _ q y cl sn w hp.low)
  have HS := Lib.hid (fun W => fslip_any pb W)
  have H := Lib.hid (And.intro h hf)
  have hlt : wb < w.heap.size := (Array.getElem?_eq_some_iff.1 h).1
  have HLT := Lib.hid hlt
  clear h hf hp hlt
  go_enter Tryz.func231, Tryz.ntmps231
  go_wp2_with fail
  refine HT.out.mono ?_
  rintro e w1 ⟨rfl, hp1, k1⟩
  obtain ⟨w2, hw2⟩ : ∃ W, w1.alloc (.cells (itC itZ) 56) = W := ⟨_, rfl⟩
  have k2 : Keeps (fun _ => False) w1 w2 := by rw [← hw2]; exact (Keeps.refl _ _).alloc _
  have r2 : w2.heap[w1.heap.size]? = some (.cells (itC itZ) 56 (0, 0)) := by rw [← hw2]; exact heap_alloc_new _ _
  have H2 := Lib.hid (And.intro r2 (And.intro k2 (And.intro hp1 k1)))
  have hw3 := hw2
  unfold itC itZ at hw3
  have HW2 := Lib.hid hw3
  clear hw2 hw3 k2 r2 hp1 k1 HT
  go_wp2_with ((try rw [HW2.out]); refine wpList_store_it rfl (.tmp 2) (.tmp 13) rfl w1.heap.size rfl y itZ rfl (by exact H2.out.1) ?_)
  intro w3 r3 k3
  obtain ⟨r2, k2, hp1, k1⟩ := H2.out
  have z1 := k1.size
  have k03 : Keeps (fun k => k = ab) w w3 := (k1.trans (k2.mono fun _ _ e => e.elim)).trans2 k3 (fun i hi e => by have e : i = w1.heap.size := e; omega)
  have h3 : WkAt w3 wb pb ob fb nm who ov st x := k03.heap H.out.1 hne
  have g3 : FmAt w3 fb pb xb ab al op mo lo le := k03.heap H.out.2 hne2
  have hp3 : PiAt w3 ab S none cl sn := ((hp1.keeps k2 (fun _ _ => id)).keeps k3 (fun b hb e => by have e : b = w1.heap.size := e; have := hb.2; omega)).mono (fun _ h => h.1)
  obtain ⟨_, _, _, _, c5, _⟩ := WkAt.c h3
  obtain ⟨d0, _, d2, _⟩ := FmAt.c g3
  have H3 := Lib.hid (And.intro h3 (And.intro hp3 (And.intro r3 k03)))
  clear h3 g3 hp3 k03 r3 k3 r2 k2 hp1 k1 H2 H HW2
  go_wp2_with fail
  refine (HS.out _).mono ?_
  rintro e w4 ⟨rfl, rfl⟩
  go_wp2_with (first | (refine wpList_load_it rfl (.tmp 2) rfl ⟨w1.heap.size, 0, none⟩ rfl y (by exact blk_it H3.out.2.2.1) ?_) | (refine wpList_store_wk (x := x) rfl (.tmp 32) (.tmp 30) rfl rfl y rfl (by exact H3.out.1) ?_))
  intro w5 h5 k5
  obtain ⟨_, _, _, _, _, c6, cf⟩ := WkAt.c h5
  have f6 := cf 6
  have H5 := Lib.hid (And.intro (show WkAt (w5.setCell ⟨wb, 6, none⟩ (.int .i64 1)) wb pb ob fb nm who ov 1 y from cellQ_set 6 (.int .i64 1) h5) (And.intro ((H3.out.2.1.keeps k5 (fun b hb e => hs (e ▸ hb))).keeps (setQ w5 wb 6 (.int .i64 1)) (fun b hb e => hs (e ▸ hb)))
    (((H3.out.2.2.2.mono (T := fun k => k = wb ∨ k = ab) fun _ _ e => Or.inr e).trans (k5.mono fun _ _ e => Or.inl e)).trans ((setQ w5 wb 6 (.int .i64 1)).mono fun _ _ e => Or.inl e))))
  clear h5 k5 cf H3
  go_wp2_with fail
  go_end0
  exact ⟨rfl, H5.out⟩
set_option maxHeartbeats 4000000 in
theorem wtake_over {Sa S : Nat → Prop} {sa sn : Int} (h : WkAt w wb pb ob fb nm who ov st x) (hf : FmAt w fb pb xb ab al op mo lo 1) (ha : PiAt w ab Sa none true sa) (hp : PiAt w ob S none false sn) (hs : ¬ S wb) (hs2 : ¬ S fb) (hn : wb ≠ fb) :
    Calls Tryz.prog 231 #[.pointer (some ⟨wb, 0, none⟩)] w fun e w' => e = .returned (.tuple #[]) ∧ WkAt w' wb pb ob fb nm who true 0 x ∧ FmAt w' fb pb xb ab al op mo lo 0 ∧ PiAt w' ob S none true sn ∧ Keeps (fun k => k = wb ∨ k = fb ∨ k = ob) w w' := by
  obtain ⟨_, _, _, _, c5, _⟩ := h.c
  obtain ⟨d0, _, d2, _⟩ := hf.c
  have HT := Lib.hid (take_over ab Sa sa w ha)
  have HL : Hid (∀ W, Keeps (fun _ => False) w W → Calls Tryz.prog 229 #[.pointer (some ⟨wb, 0, none⟩)] W fun e w' => e = .returned (.tuple #[]) ∧ WkAt w' wb pb ob fb nm who true 0 x ∧ FmAt w' fb pb xb ab al op mo lo 0 ∧ PiAt w' ob S none true sn ∧ Keeps (fun k => k = wb ∨ k = fb ∨ k = ob) W w') := Lib.hid (fun W k => wleave_any (k.heap h id) (k.heap hf id) (hp.keeps k (fun _ _ => id)) hs hs2 hn)
  clear h hf hp ha
  go_enter Tryz.func231, Tryz.ntmps231
  go_wp2_with fail
  refine HT.out.mono ?_
  rintro e w1 ⟨rfl, k1⟩
  obtain ⟨w2, hw2⟩ : ∃ W, w1.alloc (.cells (itC itZ) 56) = W := ⟨_, rfl⟩
  have k2 : Keeps (fun _ => False) w1 w2 := by rw [← hw2]; exact (Keeps.refl _ _).alloc _
  have r2 : w2.heap[w1.heap.size]? = some (.cells (itC itZ) 56 (0, 0)) := by rw [← hw2]; exact heap_alloc_new _ _
  have H2 := Lib.hid (And.intro r2 (k1.trans k2))
  have hw3 := hw2
  unfold itC itZ at hw3
  have HW2 := Lib.hid hw3
  have z1 := k1.size
  clear hw2 hw3 k2 r2 k1 HT
  go_wp2_with ((try rw [HW2.out]); refine wpList_store_it rfl (.tmp 2) (.tmp 13) rfl w1.heap.size rfl itZ itZ rfl (by exact H2.out.1) ?_)
  intro w3 r3 k3
  have k03 : Keeps (fun _ => False) w w3 := H2.out.2.trans2 k3 (fun i hi e => by have e : i = w1.heap.size := e; omega)
  have HL2 := Lib.hid (HL.out w3 k03)
  have HK := Lib.hid k03
  clear r3 k3 k03 HL H2 HW2
  go_wp2_with fail
  refine HL2.out.mono ?_
  rintro e w4 ⟨rfl, h4⟩
  go_wp2_with fail
  (try simp only [Exit.inBlock, Exit.then]); refine bodyPost_ret (results_none rfl _ _ _) rfl ?_
  exact ⟨rfl, h4.1, h4.2.1, h4.2.2.1, (HK.out.mono fun _ _ e => e.elim).trans h4.2.2.2⟩
/-- Whether a worker may take a step: by its state, and the pipes ahead of it and behind. -/
def wrdy (st : Int) (ina wt : Bool) : Bool := if st = 0 then ina else if st = 3 then !wt else true
theorem wready_any {Sp : Nat → Prop} (ina wt : Bool) (h : WkAt w wb pb ob fb nm who ov st x) (hf : FmAt w fb pb xb ab al op mo lo le) (hpl : PlF w pb Sp)
    (HA : ∀ W, Keeps (fun _ => False) w W → Calls Tryz.prog 198 #[.pointer (some ⟨ab, 0, none⟩)] W fun e w' => e = .returned (.bool ina) ∧ Keeps (fun _ => False) W w')
    (HW : ∀ W, Keeps (fun _ => False) w W → Calls Tryz.prog 211 #[.pointer (some ⟨ob, 0, none⟩), .int .i64 who] W fun e w' => e = .returned (.bool wt) ∧ Keeps (fun _ => False) W w') :
    Calls Tryz.prog 225 #[.pointer (some ⟨wb, 0, none⟩)] w fun e w' => e = .returned (.bool (wrdy st ina wt)) ∧ Keeps (fun _ => False) w w' := by
  obtain ⟨_, _, _, _, c5, c6, _⟩ := h.c
  obtain ⟨d0, _, d2, _⟩ := hf.c
  have HSt := Lib.hid (fstopped_any pb Sp w hpl)
  have HA2 := Lib.hid (HA w (Keeps.refl _ _))
  have HWt := Lib.hid (swaits_any wt h HW)
  clear h hf hpl HA HW
  by_cases h0 : st = 0
  · subst h0
    have e0 : wrdy 0 ina wt = ina := rfl
    rw [e0]
    clear e0
    go_enter Tryz.func225, Tryz.ntmps225
    go_wp2_with fail
    refine HSt.out.mono ?_
    rintro e w' ⟨rfl, rfl⟩
    go_wp2_with fail
    refine HA2.out.mono ?_
    rintro e w' ⟨rfl, k⟩
    go_wp2_with fail
    go_ret
    exact ⟨rfl, k⟩
  · have g0 : (st == 0) = false := by simpa using h0
    by_cases h3 : st = 3
    · have g3 : (st == 3) = true := by simpa using h3
      have e3 : wrdy st ina wt = !wt := by unfold wrdy; rw [if_neg h0, if_pos h3]
      rw [e3]
      clear e3 h0 h3
      go_enter Tryz.func225, Tryz.ntmps225
      go_wp2_with fail
      refine HSt.out.mono ?_
      rintro e w' ⟨rfl, rfl⟩
      go_wp2_with fail
      refine HWt.out.mono ?_
      rintro e w' ⟨rfl, k⟩
      go_wp2_with fail
      go_ret
      exact ⟨rfl, k⟩
    · have g3 : (st == 3) = false := by simpa using h3
      have e3 : wrdy st ina wt = true := by unfold wrdy; rw [if_neg h0, if_neg h3]
      rw [e3]
      clear e3 h0 h3
      go_enter Tryz.func225, Tryz.ntmps225
      go_wp2_with fail
      refine HSt.out.mono ?_
      rintro e w' ⟨rfl, rfl⟩
      go_wp2_with fail
      go_ret
      exact ⟨rfl, Keeps.refl _ _⟩
end
end Go.Proofs.YtgobcnheemocnaaGreatDoor
end
section
namespace Go.Proofs.YtgobcnheemocnaaGreatDoor
open Go.RowKit
set_option linter.unusedVariables false
set_option linter.unusedSimpArgs false
set_option maxRecDepth 100000

section
variable {w : World} {wb pb ob fb xb ab : Nat} {nm : ByteArray} {who : Int} {ov : Bool} {st : Int} {x : Itm} {al : Value} {op mo lo le : Int} {Sp : Nat → Prop}
theorem wstep_idle {R : Ending → World → Prop} (h : WkAt w wb pb ob fb nm who ov 0 x) (hf : FmAt w fb pb xb ab al op mo lo le) (hpl : PlF w pb Sp)
    (HT : Calls Tryz.prog 231 #[.pointer (some ⟨wb, 0, none⟩)] w fun e w' => e = .returned (.tuple #[]) ∧ R e w') :
    Calls Tryz.prog 226 #[.pointer (some ⟨wb, 0, none⟩)] w R := by
  obtain ⟨_, _, _, _, c5, c6, _⟩ := h.c
  obtain ⟨d0, _⟩ := hf.c
  have HSt := Lib.hid (fstopped_any pb Sp w hpl)
  have HC := Lib.hid HT
  clear h hf hpl HT
  go_enter Tryz.func226, Tryz.ntmps226
  go_wp2_with fail
  refine HSt.out.mono ?_
  rintro e w' ⟨rfl, rfl⟩
  go_wp2_with fail
  refine HC.out.mono ?_
  rintro e w' ⟨rfl, h⟩
  go_wp2_with fail
  go_end0
  exact h
theorem wstep_send (h : WkAt w wb pb ob fb nm who ov 3 x) (hf : FmAt w fb pb xb ab al op mo lo le) (hpl : PlF w pb Sp) :
    Calls Tryz.prog 226 #[.pointer (some ⟨wb, 0, none⟩)] w fun e w' => e = .returned (.tuple #[]) ∧ WkAt w' wb pb ob fb nm who ov 0 x ∧ Keeps (fun k => k = wb) w w' := by
  obtain ⟨_, _, _, _, c5, c6, cf⟩ := h.c
  obtain ⟨d0, _⟩ := hf.c
  have f6 := cf 6
  have HSt := Lib.hid (fstopped_any pb Sp w hpl)
  have H := Lib.hid (show WkAt (w.setCell ⟨wb, 6, none⟩ (.int .i64 0)) wb pb ob fb nm who ov 0 x from cellQ_set 6 (.int .i64 0) h)
  clear h hf hpl cf
  go_enter Tryz.func226, Tryz.ntmps226
  go_wp2_with fail
  refine HSt.out.mono ?_
  rintro e w' ⟨rfl, rfl⟩
  go_wp2_with fail
  go_end0
  exact ⟨rfl, H.out, setQ _ _ _ _⟩
set_option maxHeartbeats 4000000 in
theorem wstep_taken (h : WkAt w wb pb ob fb nm who ov 1 x) (hf : FmAt w fb pb xb ab al 0 mo lo le) (hpl : PlF w pb Sp) (hx : x.e = 0) (hm : mo = 0 ∨ mo = 1) (h0 : 0 ≤ lo) (h1 : lo ≤ 1000000) (hn : wb ≠ fb) :
    Calls Tryz.prog 226 #[.pointer (some ⟨wb, 0, none⟩)] w fun e w' => e = .returned (.tuple #[]) ∧ WkAt w' wb pb ob fb nm who ov 2 x ∧ FmAt w' fb pb xb ab al 1 1 (lo + 1) le ∧ Keeps (fun k => k = wb ∨ k = fb) w w' := by
  obtain ⟨_, _, _, _, c5, c6, cf⟩ := h.c
  obtain ⟨d0, _⟩ := hf.c
  have f6 := cf 6
  have c13 := h.item.2.2.2.2.2.2
  rw [hx] at c13
  have HSt := Lib.hid (fstopped_any pb Sp w hpl)
  have k1 : Keeps (fun k => k = wb) w (w.setCell ⟨wb, 6, none⟩ (.int .i64 2)) := setQ _ _ _ _
  have g1 : FmAt (w.setCell ⟨wb, 6, none⟩ (.int .i64 2)) fb pb xb ab al 0 mo lo le := k1.heap hf (fun e => hn e.symm)
  have h2 : WkAt (w.setCell ⟨wb, 6, none⟩ (.int .i64 2)) wb pb ob fb nm who ov 2 x := cellQ_set 6 (.int .i64 2) h
  generalize hw1 : w.setCell ⟨wb, 6, none⟩ (.int .i64 2) = w1 at k1 g1 h2
  obtain ⟨_, _, _, _, a5, _⟩ := WkAt.c h2
  obtain ⟨_, _, _, a4, _, _, _, af⟩ := FmAt.c g1
  have af4 := af 4
  have g2 : FmAt (w1.setCell ⟨fb, 4, none⟩ (.int .i64 1)) fb pb xb ab al 1 mo lo le := cellQ_set 4 (.int .i64 1) g1
  have h3 : WkAt (w1.setCell ⟨fb, 4, none⟩ (.int .i64 1)) wb pb ob fb nm who ov 2 x := (setQ w1 fb 4 (.int .i64 1)).heap h2 hn
  have k2 := (k1.mono (T := fun k => k = wb ∨ k = fb) fun _ _ e => Or.inl e).trans ((setQ w1 fb 4 (.int .i64 1)).mono fun _ _ e => Or.inr e)
  generalize hw2 : w1.setCell ⟨fb, 4, none⟩ (.int .i64 1) = w2 at g2 h3 k2
  obtain ⟨_, _, _, _, b5, _⟩ := WkAt.c h3
  obtain ⟨_, _, _, _, _, b6, _, bf⟩ := FmAt.c g2
  have bf6 := bf 6
  have g3 : FmAt (w2.setCell ⟨fb, 6, none⟩ (.int .i64 (lo + 1))) fb pb xb ab al 1 mo (lo + 1) le := cellQ_set 6 (.int .i64 (lo + 1)) g2
  have h4 : WkAt (w2.setCell ⟨fb, 6, none⟩ (.int .i64 (lo + 1))) wb pb ob fb nm who ov 2 x := (setQ w2 fb 6 (.int .i64 (lo + 1))).heap h3 hn
  have k3 := k2.trans ((setQ w2 fb 6 (.int .i64 (lo + 1))).mono (T := fun k => k = wb ∨ k = fb) fun _ _ e => Or.inr e)
  generalize hw3 : w2.setCell ⟨fb, 6, none⟩ (.int .i64 (lo + 1)) = w3 at g3 h4 k3
  obtain ⟨_, _, _, _, e5, _⟩ := WkAt.c h4
  obtain ⟨_, _, _, y4, y5, _, _, yf⟩ := FmAt.c g3
  have yf5 := yf 5
  have H := Lib.hid (And.intro h4 (And.intro g3 k3))
  have HW1 := Lib.hid hw1
  have HW2 := Lib.hid hw2
  have HW3 := Lib.hid hw3
  clear h hf hpl cf k1 g1 h2 af g2 h3 k2 bf g3 h4 k3 yf hw1 hw2 hw3 hx
  go_enter Tryz.func226, Tryz.ntmps226
  go_wp2_with fail
  refine HSt.out.mono ?_
  rintro e w' ⟨rfl, rfl⟩
  go_upto_region 16 with fail
  rw [HW1.out]
  go_upto_region 17 with fail
  rw [HW2.out]
  go_upto_region 18 with fail
  rw [HW3.out]
  have g5 : FmAt (w3.setCell ⟨fb, 5, none⟩ (.int .i64 1)) fb pb xb ab al 1 1 (lo + 1) le := cellQ_set 5 (.int .i64 1) H.out.2.1
  have HF := Lib.hid (And.intro ((setQ w3 fb 5 (.int .i64 1)).heap H.out.1 hn) (And.intro g5 (H.out.2.2.trans ((setQ w3 fb 5 (.int .i64 1)).mono (T := fun k => k = wb ∨ k = fb) fun _ _ e => Or.inr e))))
  clear g5 HW1 HW2 HW3 HSt
  rcases hm with rfl | rfl
  all_goals
    go_still_tail 21, (by kernel_rfl)
    change wpList _ _ _ _ _ w3.drew
    go_wp2_with fail
    go_end0
    exact ⟨rfl, HF.out.1, HF.out.2.1, HF.out.2.2.drew⟩
end
end Go.Proofs.YtgobcnheemocnaaGreatDoor
end
section
namespace Go.Proofs.YtgobcnheemocnaaGreatDoor
open Go.RowKit
set_option linter.unusedVariables false
set_option linter.unusedSimpArgs false
set_option maxRecDepth 100000

/-- A record by value. -/
def rcV (x : Itm) : Value := .agg #[.int .i64 x.rn, .int .i64 x.ra, .string x.s]
theorem looked_any (n : Int) (w : World) : Calls Tryz.prog 243 #[.agg jobA.toArray, .int .i64 n] w fun e w' => e = .returned (.bool true) ∧ Keeps (fun _ => False) w w' := by
  unfold jobA
  go_enter Tryz.func243, Tryz.ntmps243
  go_wp2_with fail
  go_ret
  exact ⟨rfl, (Keeps.refl _ _).alloc _⟩
section
variable {w : World} {wb pb ob fb xb ab : Nat} {nm : ByteArray} {who : Int} {ov : Bool} {st : Int} {x : Itm} {al : Value} {op mo lo le : Int} {Sp : Nat → Prop}
/-- The engine answers, whatever the text, up to thirty octets. -/
def Answers (w : World) (xb : Nat) : Prop := ∀ W (s : ByteArray), s.size ≤ 30 → Keeps (fun _ => False) w W → Calls Tryz.prog 244 #[.pointer (some ⟨xb, 0, none⟩), .string s] W fun e w' => (∃ a n c, e = .returned (.slice a n c)) ∧ Keeps (fun _ => False) W w'
set_option maxHeartbeats 4000000 in
theorem look_any (hf : FmAt w fb pb xb ab al op mo lo le) (hpl : PlF w pb Sp) (hx : 0 ≤ x.rn) (hs : x.s.size ≤ 30) (HA : Answers w xb) :
    Calls Tryz.prog 235 #[.pointer (some ⟨fb, 0, none⟩), rcV x] w fun e w' => (∃ a n c, e = .returned (.slice a n c)) ∧ Keeps (fun _ => False) w w' := by
  obtain ⟨w1, hw1⟩ : ∃ W, w.alloc (.cells #[.int .i64 x.rn, .int .i64 x.ra, .string x.s] 52) = W := ⟨_, rfl⟩
  have k1 : Keeps (fun _ => False) w w1 := by rw [← hw1]; exact (Keeps.refl _ _).alloc _
  have r1 : w1.heap[w.heap.size]? = some (.cells #[.int .i64 x.rn, .int .i64 x.ra, .string x.s] 52 (0, 0)) := by rw [← hw1]; exact heap_alloc_new _ _
  have i0 : w1.cell? ⟨w.heap.size, 0, none⟩ = some (.int .i64 x.rn) := by rw [cell_block r1]; rfl
  have g1 : FmAt w1 fb pb xb ab al op mo lo le := k1.heap hf id
  obtain ⟨d0, d1, _⟩ := FmAt.c g1
  have hpl1 := hpl.keeps k1 (fun _ _ => id)
  have j0 := hpl1.jb 0 _ rfl
  have j1 := hpl1.jb 1 _ rfl
  have j2 := hpl1.jb 2 _ rfl
  have j3 := hpl1.jb 3 _ rfl
  have j4 := hpl1.jb 4 _ rfl
  have j5 := hpl1.jb 5 _ rfl
  have j6 := hpl1.jb 6 _ rfl
  have j7 := hpl1.jb 7 _ rfl
  have j8 := hpl1.jb 8 _ rfl
  have j9 := hpl1.jb 9 _ rfl
  have j10 := hpl1.jb 10 _ rfl
  have j11 := hpl1.jb 11 _ rfl
  have j12 := hpl1.jb 12 _ rfl
  have j13 := hpl1.jb 13 _ rfl
  have j14 := hpl1.jb 14 _ rfl
  have j15 := hpl1.jb 15 _ rfl
  have j16 := hpl1.jb 16 _ rfl
  have HLk := Lib.hid (looked_any x.rn w1.drew)
  have H := Lib.hid (And.intro k1 (And.intro r1 (And.intro g1 (And.intro hpl1 HA))))
  have HW1 := Lib.hid hw1
  have HX := Lib.hid (And.intro hx hs)
  clear hf hpl hw1 k1 r1 g1 hpl1 HA hx hs
  unfold rcV
  unfold jobA at HLk
  go_enter Tryz.func235, Tryz.ntmps235
  go_upto_region 1 with fail
  rw [HW1.out]
  clear HW1
  go_still_tail 9, (by kernel_rfl)
  change wpList _ _ _ _ _ w1.drew
  go_wp2_with fail
  refine HLk.out.mono ?_
  rintro e w2 ⟨rfl, k2⟩
  have y0 := k2.cell (show w1.drew.cell? ⟨w.heap.size, 0, none⟩ = _ from i0) id
  have y7 := k2.cell (show w1.drew.cell? ⟨pb, 7, none⟩ = _ from j7) id
  have e0 := k2.cell (show w1.drew.cell? ⟨fb, 0, none⟩ = _ from d0) id
  have e1 := k2.cell (show w1.drew.cell? ⟨fb, 1, none⟩ = _ from d1) id
  have y2 : w2.cell? ⟨w.heap.size, 2, none⟩ = some (.string x.s) := k2.cell (show w1.drew.cell? ⟨w.heap.size, 2, none⟩ = some (.string x.s) by show w1.cell? _ = _; rw [cell_block H.out.2.1]; rfl) id
  have K2 := Lib.hid (H.out.1.trans ((Keeps.refl (fun _ => False) w1).drew.trans k2))
  have g9 : (x.rn == -1) = false := by have := HX.out.1; simp; omega
  clear i0 d0 d1 j0 j1 j2 j3 j4 j5 j6 j7 j8 j9 j10 j11 j12 j13 j14 j15 j16 HLk k2
  go_wp2_with fail
  go_quiet (fail)
  go_wp2_with fail
  obtain ⟨w3, h3⟩ : ∃ W, w2.drewN nq = W := ⟨_, rfl⟩
  rw [h3]
  have k3 : Keeps (fun _ => False) w2 w3 := by rw [← h3]; exact (Keeps.refl _ _).drawN _
  have e1 := k3.cell e1 id
  have y2 := k3.cell y2 id
  have HAl := Lib.hid (H.out.2.2.2.2 w3.drew x.s HX.out.2 ((K2.out.trans k3).drew))
  have K3 := Lib.hid (K2.out.trans k3)
  clear k3 h3
  go_still_tail 6, (by kernel_rfl)
  change wpList _ _ _ _ _ w3.drew
  go_wp2_with fail
  refine HAl.out.mono ?_
  rintro e w4 ⟨⟨a, n, c, rfl⟩, k4⟩
  go_wp2_with fail
  go_ret
  exact ⟨⟨_, _, _, rfl⟩, K3.out.drew.trans k4⟩
end
end Go.Proofs.YtgobcnheemocnaaGreatDoor
end
