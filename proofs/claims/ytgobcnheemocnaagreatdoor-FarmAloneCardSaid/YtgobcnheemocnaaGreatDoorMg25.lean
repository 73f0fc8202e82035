/-
  Several texts in one: The walk of (*crew).longest. Printed by mk_lon.py. Places in a slice; match.behind. (*crew).first.
-/
import Derived.Test.YtgobcnheemocnaaGreatDoorMg24
import Derived.Deep.RegionHeld3
import Derived.Handy
section
namespace Go.Proofs.YtgobcnheemocnaaGreatDoor
open Go.RowKit
set_option linter.unusedVariables false
set_option linter.unusedSimpArgs false
set_option maxRecDepth 100000

theorem pointP_none {tx : List UInt8} {p : Nat} (h : tx.length ≤ p) : pointP tx p = (0, 0) := by
  unfold pointP; rw [List.drop_eq_nil_of_le h]
theorem pointP_some {tx : List UInt8} {p : Nat} {c : UInt8} {t : List UInt8} (h : tx.drop p = c :: t) : pointP tx p = getP (c :: t) := by
  unfold pointP; rw [h]
theorem mpoint_at (tx : List UInt8) (p : Nat) (w : World) (h : p < tx.length) (hl : tx.length ≤ 100000) :
    Calls Tryz.prog 260 #[.string ⟨tx.toArray⟩, .int .i64 p] w fun e w' => e = .returned (.tuple #[.int .i64 (pointP tx p).1, .int .i64 ((pointP tx p).2 : Nat)]) ∧ Keeps (fun _ => False) w w' := by
  cases h1 : tx.drop p with
  | nil => have := congrArg List.length h1; simp at this; omega
  | cons c t => rw [pointP_some h1]; exact mpoint_any tx p c t w h1 hl
set_option maxHeartbeats 16000000 in
theorem longest_any (B c N : Nat) (pv : Value) (tx : List UInt8) (is : List Ins) (a0 b0 : TS) (p0 k0 : Nat) (res : Int) (w : World) (hC : Crew B w c pv tx is a0 b0) (hst : StartR is tx p0 k0 res)
    (hpt : p0 ≤ tx.length) (htx : tx.length ≤ 4000) (his : is.length ≤ 4000) (hN : N ≤ 1000000000000) (ha : a0.now + 1 + k0 ≤ N) (hb : b0.now + k0 < N) :
    Calls Tryz.prog 261 #[.pointer (some ⟨c, 0, none⟩), .int .i64 p0] w fun e w' => e = .returned (.int .i64 res) ∧ (∃ a' b', Crew B w' c pv tx is a' b' ∧ a'.now ≤ N ∧ b'.now ≤ N ∧ Foot w (inC c a0 b0) w' a' b') := by
  obtain ⟨s0, hp, hs0, hr⟩ := hst
  obtain ⟨F, hF0⟩ : ∃ F, F = inC c a0 b0 := ⟨_, rfl⟩
  have F0 : Hid (Foot w F w a0 b0) := Lib.hid (by rw [hF0]; exact Foot.start w c a0 b0)
  have hFc : F c := by rw [hF0]; exact Or.inl rfl
  rw [← hF0]
  clear hF0
  obtain ⟨c0, c1, c2, c3, f2, f3⟩ := hC.cells
  have HC := Lib.hid hC
  have HR := Lib.hid hr
  have HPt := Lib.hid (fun W (h : p0 < tx.length) => mpoint_at tx p0 W h (by omega))
  clear hC hr
  go_enter Tryz.func261, Tryz.ntmps261
  go_wp2_with fail
  refine (TS.clear HC.out.ta (by omega)).mono ?_
  rintro e w1 ⟨rfl, a1, hn1, hL1, hM1, hnow1⟩
  have hC1 := HC.out.nextA hn1
  have K1 := Lib.hid (F0.out.nextA hn1)
  clear c0 c1 c2 c3 f2 f3
  obtain ⟨c0, c1, c2, c3, f2, f3⟩ := hC1.cells
  have HC1 := Lib.hid hC1
  clear hn1 hC1
  go_wp2_with fail
  refine (TS.put (i := 0) (s' := s0) HC1.out.ta (by rw [hL1, hM1]; exact hp) p0 tx HC1.out.pg c0 c1 rfl rfl HC1.out.ca hs0 his (by omega) (by omega)).mono ?_
  rintro e w2 ⟨rfl, a2, hn2, hL2, hM2, hnow2⟩
  have hC2 := HC1.out.nextA hn2
  have K2 := Lib.hid (K1.out.nextA hn2)
  have HC2 := Lib.hid hC2
  clear hn2 hC2 c0 c1 c2 c3 f2 f3
  go_wp2_with fail
  go_loopw [1, 5] (fun av ev wr => LoR B c N F pv tx is res w av ev wr) (fun av _ _ => tx.length - (intOf av).toNat)
  case atStart => exact ⟨k0, p0, -1, a2, b0, rfl, hpt, rfl, ⟨by omega, by omega⟩, HC2.out, by omega, hb, by rw [hL2]; exact hs0, by rw [hL2]; exact HR.out, K2.out⟩
  case round =>
    clear HPt HR HC HC1 HC2 K1 K2 hL1 hM1 hL2 hM2 hnow1 hnow2 hp hs0
    obtain ⟨k, p, e, a, b, rfl, hpt, rfl, he, hC, hna, hnb, hal, hL, hk⟩ := hrel
    obtain ⟨fin, hF, hfl, hfin⟩ := hL.open
    have hpn := pointP_le hpt
    have HPt := Lib.hid (fun W (h : p < tx.length) => mpoint_at tx p W h (by omega))
    have HP0 := Lib.hid (fun (h : tx.length ≤ p) => pointP_none h)
    obtain ⟨pp, hpp⟩ : ∃ q, pointP tx p = q := ⟨_, rfl⟩
    rw [hpp] at hF hfin hpn
    have HPP := Lib.hid hpp
    obtain ⟨r, n⟩ := pp
    simp only at hF hfin hpn
    have HF := Lib.hid hF
    have HFin := Lib.hid hfin
    have HK := Lib.hid hk
    have hse := hF.range (by omega) he
    have hz0 := hF.zero
    have HZ0 := Lib.hid hz0
    clear hF hfin hk hpp hL hz0
    obtain ⟨c0, c1, c2, c3, f2, f3⟩ := hC.cells
    have HC := Lib.hid hC
    clear hC
    by_cases hpl : p < tx.length
    · have HPx := Lib.hid (fun W => HPt.out W hpl)
      rw [HPP.out] at HPx
      simp only at HPx
      clear HPt HP0
      go_wp2_with fail
      refine (HPx.out _).mono ?_
      rintro e9 w2 ⟨rfl, k2⟩
      have hC2 := HC.out.keeps k2 (fun _ => id)
      have KQ := Lib.hid (HK.out.keeps k2)
      clear c0 c1 c2 c3 f2 f3
      obtain ⟨c0, c1, c2, c3, f2, f3⟩ := hC2.cells
      have HCQ := Lib.hid hC2
      clear k2 hC2
      go_wp2_with fail
      refine (TS.clear HCQ.out.tb (by omega)).mono ?_
      rintro e9 w3 ⟨rfl, b1, hn1, hL1, hM1, hnow1⟩
      have hC3 := HCQ.out.nextB hn1
      have K3 := Lib.hid (KQ.out.nextB hn1)
      clear c0 c1 c2 c3 f2 f3
      obtain ⟨c0, c1, c2, c3, f2, f3⟩ := hC3.cells
      obtain ⟨la, lc, hla⟩ := ownsRow_slice (Thr.own hC3.ta)
      have t0 := TS.cell hC3.ta
      rw [hla] at t0
      have HC3 := Lib.hid hC3
      have HLA := Lib.hid hla
      clear hn1 hC3 hla
      go_wp2_with fail
      go_loopw [52, 5] (fun kv ev wr => InnR B c F pv tx is a b1 r n p fin w kv ev wr) (fun kv _ _ => a.L.length - (intOf kv).toNat)
      case atStart => exact ⟨0, e, b1, rfl, Nat.zero_le _, rfl, he, HC3.out, rfl, by rw [hL1, hM1]; exact HF.out, K3.out⟩
      case round =>
        clear c0 c1 c2 c3 f2 f3 t0
        obtain ⟨j, e2, b2, rfl, hj, rfl, he2, hC, hbn, hF, hk⟩ := hrel
        have HC := Lib.hid hC
        have K4 := Lib.hid hk
        obtain ⟨c0, c1, c2, c3, f2, f3⟩ := hC.cells
        by_cases hjl : j < a.L.length
        · obtain ⟨i, hi⟩ : ∃ i, a.L[j]? = some i := ⟨_, List.getElem?_eq_getElem hjl⟩
          have hdr : a.L.drop j = i :: a.L.drop (j + 1) := by
            obtain ⟨h1, h2⟩ := List.getElem?_eq_some_iff.1 hi
            rw [List.drop_eq_getElem_cons h1, h2]
          rw [hdr] at hF
          have hown := Thr.own hC.ta
          obtain ⟨g, gc, hgv, hg1, hg2⟩ := hown.form (by omega)
          rw [HLA.out] at hgv
          obtain ⟨rfl, _, rfl⟩ := Value.slice.inj hgv
          have hLc : wr.cell? ⟨g, j, none⟩ = some (.int .i64 (i : Int)) := by
            rw [HLA.out] at hown
            rw [hown.cellAt j (by omega), List.getElem?_map, hi]; rfl
          have hgl : g < wr.heap.size := hg2
          have HFx := Lib.hid hF
          clear hF hC hk hdr hi hown hgv
          obtain ⟨x, hx, hcases⟩ : ∃ x, is[i]? = some x ∧ ((x.op = 0 ∧ FoldR is r n p tx.length (a.L.drop (j + 1)) ((p : Int), (b2.L, b2.M)) fin) ∨ (x.op = 1 ∧ 0 < n ∧ has x.set r = true ∧ ∃ q, PtR is (decide (p + n = 0)) (decide (p + n = tx.length)) x.x (b2.L, b2.M) q ∧ FoldR is r n p tx.length (a.L.drop (j + 1)) (e2, q) fin) ∨ (x.op = 1 ∧ (n = 0 ∨ has x.set r = false) ∧ FoldR is r n p tx.length (a.L.drop (j + 1)) (e2, (b2.L, b2.M)) fin)) := by
            have h := HFx.out
            cases h with
            | mt hx ho h => exact ⟨_, hx, Or.inl ⟨ho, h⟩⟩
            | hit hx ho hn hh hp h => exact ⟨_, hx, Or.inr (Or.inl ⟨ho, hn, hh, _, hp, h⟩)⟩
            | miss hx ho hn h => exact ⟨_, hx, Or.inr (Or.inr ⟨ho, hn, h⟩)⟩
          have hil := (List.getElem?_eq_some_iff.1 hx).1
          obtain ⟨pb, off, cp, sa, sc, hpv, hb9, hset, _, _, z0, z1, z2, z3⟩ := HC.out.pg.at hx
          rw [hpv] at c0
          obtain ⟨op, set, xx, yy⟩ := x
          simp only at hcases z0 z1 z2 z3 hset
          have hcl : c < wr.heap.size := HC.out.ltc
          have HSet := Lib.hid hset
          clear hset HFx hx
          rcases hcases with ⟨rfl, hF2⟩ | ⟨rfl, hn0, hh, q, hq, hF2⟩ | ⟨rfl, hmis, hF2⟩
          · have HF2 := Lib.hid hF2
            have ka : Keeps (fun _ => False) wr (wr.alloc (.cells #[.int .i64 0, .slice sa set.length sc, .int .i64 xx, .int .i64 yy] 173)) := (Keeps.refl _ _).alloc _
            have HCa := Lib.hid (HC.out.keeps ka (fun _ => id))
            have KA := Lib.hid (K4.out.keeps ka)
            clear hF2 ka
            go_wp2_with fail
            go_roundw
            case rel => exact ⟨j + 1, p, b2, by go_num, by omega, rfl, ⟨by omega, by omega⟩, HCa.out, hbn, HF2.out, KA.out⟩
            case measure => simp [intOf]; omega
          · have HF2 := Lib.hid hF2
            have hql : q.1.length ≤ 4000 := Nat.le_trans hF2.len hfl
            have gn : decide ((0 : Int) < (n : Int)) = true := by simp; omega
            have ka : Keeps (fun _ => False) wr (wr.alloc (.cells #[.int .i64 1, .slice sa set.length sc, .int .i64 xx, .int .i64 yy] 173)) := (Keeps.refl _ _).alloc _
            have HCa := Lib.hid (HC.out.keeps ka (fun _ => id))
            have KA := Lib.hid (K4.out.keeps ka)
            have HHas := Lib.hid (has_any set _ r _ (HSet.out.keeps ka (fun _ _ => id)))
            rw [hh] at HHas
            have y2 : (wr.alloc (.cells #[.int .i64 1, .slice sa set.length sc, .int .i64 xx, .int .i64 yy] 173)).cell? ⟨wr.heap.size, 2, none⟩ = some (.int .i64 xx) := by simp [go_sem]
            have Y2 := Lib.hid y2
            have HQ := Lib.hid hq
            clear hF2 ka y2 hq
            go_wp2_with fail
            refine HHas.out.mono ?_
            rintro e9 w5 ⟨rfl, k5⟩
            have hC5 := HCa.out.keeps k5 (fun _ => id)
            have q2 := k5.cell Y2.out id
            clear c0 c1 c2 c3 f2 f3
            obtain ⟨c0, c1, c2, c3, f2, f3⟩ := hC5.cells
            have HC5 := Lib.hid hC5
            have K5 := Lib.hid (KA.out.keeps k5)
            have k5d : Keeps (fun _ => False) w5 w5.drew := (Keeps.refl _ _).drew
            have HPu := Lib.hid (TS.put (i := xx) (s' := q) (Thr.keeps HC5.out.tb k5d (fun _ _ => id)) HQ.out (p + n) tx (HC5.out.pg.keepsTo (Q := fun b => b < B) k5d (fun _ _ => id) (fun _ h => h)) (k5d.cell c0 id) (k5d.cell c1 id) rfl rfl HC5.out.cb hql his (by omega) (by omega))
            rw [Int.natCast_add] at HPu
            have hww : IntKind.i64.wrap ((p : Int) + (n : Int)) = (p : Int) + (n : Int) := IntWalk.i64_in _ (by omega)
            clear hC5 k5
            go_wp2_with fail
            have c3d : w5.drew.cell? ⟨c, 3, none⟩ = some (.pointer (some ⟨b2.tb, 0, none⟩)) := c3
            have q2d : w5.drew.cell? ⟨wr.heap.size, 2, none⟩ = some (.int .i64 xx) := q2
            have hfi : ¬ b2.inn wr.heap.size := fun h => by have := (Thr.inlt HC.out.tb h).1; omega
            go_region_held3 (fun w' => w'.cell? ⟨c, 3, none⟩ = some (.pointer (some ⟨b2.tb, 0, none⟩)) ∧ w'.cell? ⟨wr.heap.size, 2, none⟩ = some (.int .i64 xx)) (first | exact ⟨c3d, q2d⟩ | exact ⟨c3n, q2n⟩) (first | (go_at_call 264; refine HPu.out.mono ?_; rintro e9 w6 ⟨rfl, b3, hn3, hL3, hM3, hnow3⟩; have c3n := hn3.keep.cell c3d HC5.out.cb; have q2n := hn3.keep.cell q2d hfi))
            all_goals
              have hC6 := (HC5.out.keeps k5d (fun _ => id)).nextB hn3
              have HC6 := Lib.hid hC6
              have K6 := Lib.hid ((K5.out.keeps k5d).nextB hn3)
              clear hC6 hn3
              go_wp2_with fail
              go_roundw
              case rel => exact ⟨j + 1, e2, b3, by go_num, by omega, rfl, he2, HC6.out, by rw [hnow3]; exact hbn, by rw [hL3, hM3]; exact HF2.out, K6.out⟩
              case measure => simp [intOf]; omega
          · have HF2 := Lib.hid hF2
            have ka : Keeps (fun _ => False) wr (wr.alloc (.cells #[.int .i64 1, .slice sa set.length sc, .int .i64 xx, .int .i64 yy] 173)) := (Keeps.refl _ _).alloc _
            have HCa := Lib.hid (HC.out.keeps ka (fun _ => id))
            have KA := Lib.hid (K4.out.keeps ka)
            have HHas := Lib.hid (has_any set _ r _ (HSet.out.keeps ka (fun _ _ => id)))
            clear hF2 ka
            by_cases hn0 : n = 0
            · subst hn0
              clear HHas hmis
              go_wp2_with fail
              go_roundw
              case rel => exact ⟨j + 1, e2, b2, by go_num, by omega, rfl, he2, HCa.out, hbn, HF2.out, KA.out⟩
              case measure => simp [intOf]; omega
            · have hh : has set r = false := by rcases hmis with h | h; exact absurd h hn0; exact h
              rw [hh] at HHas
              have gn : decide ((0 : Int) < (n : Int)) = true := by simp; omega
              clear hmis hh
              go_wp2_with fail
              refine HHas.out.mono ?_
              rintro e9 w5 ⟨rfl, k5⟩
              have HC5 := Lib.hid (HCa.out.keeps k5 (fun _ => id))
              have K5 := Lib.hid (KA.out.keeps k5)
              clear k5
              go_wp2_with fail
              go_roundw
              case rel => exact ⟨j + 1, e2, b2, by go_num, by omega, rfl, he2, HC5.out, hbn, HF2.out, K5.out⟩
              case measure => simp [intOf]; omega
        · have hje : j = a.L.length := by omega
          subst hje
          rw [List.drop_length] at hF
          obtain rfl : fin = (e2, b2.L, b2.M) := by cases hF; rfl
          obtain ⟨lb, lbc, hlb⟩ := ownsRow_slice (Thr.own hC.tb)
          have t1 := TS.cell hC.tb
          rw [hlb] at t1
          clear hF hC hk hlb
          have KE := K4
          rcases HFin.out with ⟨h1, h2⟩ | ⟨h1, k', rfl, h3⟩
          · simp only at h1 h2
            rw [h1] at t1
            subst h2
            have HE : Hid (∃ a' b', Crew B wr c pv tx is a' b' ∧ a'.now ≤ N ∧ b'.now ≤ N ∧ Foot w F wr a' b') := Lib.hid ⟨a, b2, HC.out, by omega, by omega, KE.out⟩
            clear h1 HFin
            go_wp2_with fail
            go_ret
            exact ⟨rfl, HE.out⟩
          · simp only at h1 h3
            have gl : ((b2.L.length : Int) == 0) = false := beq_eq_false_iff_ne.2 (by have := List.length_pos_iff.2 h1; omega)
            have hn0 : 0 < n := by
              rcases Nat.eq_zero_or_pos n with h | h
              · have := HZ0.out h
                exact absurd (congrArg Prod.fst this) h1
              · exact h
            have HLo := Lib.hid h3
            obtain ⟨s1, s2⟩ := HC.out.swap
            have S1 := Lib.hid s1
            have S2 := Lib.hid s2
            have hcB := HC.out.cB
            have hab : a.tb ≠ c := fun e => HC.out.ca (Or.inl e.symm)
            clear h1 h3 HFin s1 s2
            go_wp2_with fail
            go_region
            all_goals
              go_wp2_with fail
              go_roundw
              case rel => exact ⟨k', p + n, e2, b2, a, by go_num, by omega, rfl, he2, by first | exact S1.out.keeps (Keeps.refl (fun _ => False) _).drew (fun _ => id) | exact S2.out.keeps (Keeps.refl (fun _ => False) _).drew (fun _ => id), by omega, by omega, hfl, HLo.out, by first | exact ⟨((KE.out.keep.set (p := ⟨c, 2, none⟩) hFc _).set (p := ⟨c, 3, none⟩) hFc _).drew, KE.out.inb, KE.out.ina⟩ | exact ⟨((KE.out.keep.set (p := ⟨c, 3, none⟩) hFc _).set (p := ⟨c, 2, none⟩) hFc _).drew, KE.out.inb, KE.out.ina⟩⟩
              case measure => simp [intOf]; omega
    · have h00 := HP0.out (by omega)
      have h01 := HPP.out
      rw [h00] at h01
      obtain ⟨rfl, rfl⟩ : r = 0 ∧ n = 0 := ⟨(congrArg Prod.fst h01).symm, (congrArg Prod.snd h01).symm⟩
      clear HPt HP0 h00 h01
      go_wp2_with fail
      refine (TS.clear HC.out.tb (by omega)).mono ?_
      rintro e9 w3 ⟨rfl, b1, hn1, hL1, hM1, hnow1⟩
      have hC3 := HC.out.nextB hn1
      have K3 := Lib.hid (HK.out.nextB hn1)
      clear c0 c1 c2 c3 f2 f3
      obtain ⟨c0, c1, c2, c3, f2, f3⟩ := hC3.cells
      obtain ⟨la, lc, hla⟩ := ownsRow_slice (Thr.own hC3.ta)
      have t0 := TS.cell hC3.ta
      rw [hla] at t0
      have HC3 := Lib.hid hC3
      have HLA := Lib.hid hla
      clear hn1 hC3 hla
      go_wp2_with fail
      go_loopw [52, 5] (fun kv ev wr => InnR B c F pv tx is a b1 0 0 p fin w kv ev wr) (fun kv _ _ => a.L.length - (intOf kv).toNat)
      case atStart => exact ⟨0, e, b1, rfl, Nat.zero_le _, rfl, he, HC3.out, rfl, by rw [hL1, hM1]; exact HF.out, K3.out⟩
      case round =>
        clear c0 c1 c2 c3 f2 f3 t0
        obtain ⟨j, e2, b2, rfl, hj, rfl, he2, hC, hbn, hF, hk⟩ := hrel
        have HC := Lib.hid hC
        have K4 := Lib.hid hk
        obtain ⟨c0, c1, c2, c3, f2, f3⟩ := hC.cells
        by_cases hjl : j < a.L.length
        · obtain ⟨i, hi⟩ : ∃ i, a.L[j]? = some i := ⟨_, List.getElem?_eq_getElem hjl⟩
          have hdr : a.L.drop j = i :: a.L.drop (j + 1) := by
            obtain ⟨h1, h2⟩ := List.getElem?_eq_some_iff.1 hi
            rw [List.drop_eq_getElem_cons h1, h2]
          rw [hdr] at hF
          have hown := Thr.own hC.ta
          obtain ⟨g, gc, hgv, hg1, hg2⟩ := hown.form (by omega)
          rw [HLA.out] at hgv
          obtain ⟨rfl, _, rfl⟩ := Value.slice.inj hgv
          have hLc : wr.cell? ⟨g, j, none⟩ = some (.int .i64 (i : Int)) := by
            rw [HLA.out] at hown
            rw [hown.cellAt j (by omega), List.getElem?_map, hi]; rfl
          have hgl : g < wr.heap.size := hg2
          have HFx := Lib.hid hF
          clear hF hC hk hdr hi hown hgv
          obtain ⟨x, hx, hcases⟩ : ∃ x, is[i]? = some x ∧ ((x.op = 0 ∧ FoldR is 0 0 p tx.length (a.L.drop (j + 1)) ((p : Int), (b2.L, b2.M)) fin) ∨ (x.op = 1 ∧ 0 < 0 ∧ has x.set 0 = true ∧ ∃ q, PtR is (decide (p + 0 = 0)) (decide (p + 0 = tx.length)) x.x (b2.L, b2.M) q ∧ FoldR is 0 0 p tx.length (a.L.drop (j + 1)) (e2, q) fin) ∨ (x.op = 1 ∧ (0 = 0 ∨ has x.set 0 = false) ∧ FoldR is 0 0 p tx.length (a.L.drop (j + 1)) (e2, (b2.L, b2.M)) fin)) := by
            have h := HFx.out
            cases h with
            | mt hx ho h => exact ⟨_, hx, Or.inl ⟨ho, h⟩⟩
            | hit hx ho hn hh hp h => exact ⟨_, hx, Or.inr (Or.inl ⟨ho, hn, hh, _, hp, h⟩)⟩
            | miss hx ho hn h => exact ⟨_, hx, Or.inr (Or.inr ⟨ho, hn, h⟩)⟩
          have hil := (List.getElem?_eq_some_iff.1 hx).1
          obtain ⟨pb, off, cp, sa, sc, hpv, hb9, hset, _, _, z0, z1, z2, z3⟩ := HC.out.pg.at hx
          rw [hpv] at c0
          obtain ⟨op, set, xx, yy⟩ := x
          simp only at hcases z0 z1 z2 z3 hset
          have hcl : c < wr.heap.size := HC.out.ltc
          have HSet := Lib.hid hset
          clear hset HFx hx
          rcases hcases with ⟨rfl, hF2⟩ | ⟨rfl, hn0, hh, q, hq, hF2⟩ | ⟨rfl, hmis, hF2⟩
          · have HF2 := Lib.hid hF2
            have ka : Keeps (fun _ => False) wr (wr.alloc (.cells #[.int .i64 0, .slice sa set.length sc, .int .i64 xx, .int .i64 yy] 173)) := (Keeps.refl _ _).alloc _
            have HCa := Lib.hid (HC.out.keeps ka (fun _ => id))
            have KA := Lib.hid (K4.out.keeps ka)
            clear hF2 ka
            go_wp2_with fail
            go_roundw
            case rel => exact ⟨j + 1, p, b2, by go_num, by omega, rfl, ⟨by omega, by omega⟩, HCa.out, hbn, HF2.out, KA.out⟩
            case measure => simp [intOf]; omega
          · exact absurd hn0 (by omega)
          · have HF2 := Lib.hid hF2
            have ka : Keeps (fun _ => False) wr (wr.alloc (.cells #[.int .i64 1, .slice sa set.length sc, .int .i64 xx, .int .i64 yy] 173)) := (Keeps.refl _ _).alloc _
            have HCa := Lib.hid (HC.out.keeps ka (fun _ => id))
            have KA := Lib.hid (K4.out.keeps ka)
            have HHas := Lib.hid (has_any set _ 0 _ (HSet.out.keeps ka (fun _ _ => id)))
            clear hF2 ka
            clear HHas hmis
            go_wp2_with fail
            go_roundw
            case rel => exact ⟨j + 1, e2, b2, by go_num, by omega, rfl, he2, HCa.out, hbn, HF2.out, KA.out⟩
            case measure => simp [intOf]; omega
        · have hje : j = a.L.length := by omega
          subst hje
          rw [List.drop_length] at hF
          obtain rfl : fin = (e2, b2.L, b2.M) := by cases hF; rfl
          obtain ⟨lb, lbc, hlb⟩ := ownsRow_slice (Thr.own hC.tb)
          have t1 := TS.cell hC.tb
          rw [hlb] at t1
          clear hF hC hk hlb
          have KE := K4
          rcases HFin.out with ⟨h1, h2⟩ | ⟨h1, k', rfl, h3⟩
          · simp only at h1 h2
            rw [h1] at t1
            subst h2
            have HE : Hid (∃ a' b', Crew B wr c pv tx is a' b' ∧ a'.now ≤ N ∧ b'.now ≤ N ∧ Foot w F wr a' b') := Lib.hid ⟨a, b2, HC.out, by omega, by omega, KE.out⟩
            clear h1 HFin
            go_wp2_with fail
            go_ret
            exact ⟨rfl, HE.out⟩
          · exact absurd (congrArg Prod.fst (HZ0.out (by trivial))) h1
end Go.Proofs.YtgobcnheemocnaaGreatDoor
end
section
namespace Go.Proofs.YtgobcnheemocnaaGreatDoor
open Go.RowKit
set_option linter.unusedVariables false
set_option linter.unusedSimpArgs false
set_option maxRecDepth 100000

/-- The places l lie in v, in the block X. -/
def NS (X : Nat) (w : World) (v : Value) (l : List Nat) : Prop :=
  ∃ a cap, v = .slice a l.length cap ∧ l.length ≤ cap ∧ (l ≠ [] → ∃ off, a = some ⟨X, off, none⟩ ∧ ∀ (i x : Nat), l[i]? = some x → w.cell? ⟨X, off + i, none⟩ = some (.int .i64 (x : Int)))
theorem NS.keeps {X : Nat} {S : Nat → Prop} {w w' : World} {v : Value} {l : List Nat} (h : NS X w v l) (K : Keeps S w w') (hX : ¬ S X) : NS X w' v l := by
  obtain ⟨a, cap, rfl, h1, h2⟩ := h
  exact ⟨a, cap, rfl, h1, fun h0 => by
    obtain ⟨off, rfl, h3⟩ := h2 h0
    exact ⟨off, rfl, fun i x hx => K.cell (h3 i x hx) hX⟩⟩
theorem NS.ofOwn {base : Nat} {w : World} {v : Value} {l : List Nat} (h : w.ownsRow base 3 1 v l.length (l.map fun n : Nat => Value.int .i64 (n : Int))) : ∃ X, NS X w v l ∧ (l ≠ [] → base ≤ X ∧ X < w.heap.size) := by
  rcases h.2 with ⟨rfl, h0⟩ | ⟨g, cap, cur, rfl, hg, hb, hn, _⟩
  · have : l = [] := List.length_eq_zero_iff.1 h0
    subst this
    exact ⟨0, ⟨none, 0, rfl, Nat.le_refl _, fun h => absurd rfl h⟩, fun h => absurd rfl h⟩
  · exact ⟨g, ⟨_, cap, rfl, hn, fun _ => ⟨0, rfl, fun i x hx => by
      have hil := (List.getElem?_eq_some_iff.1 hx).1
      rw [Nat.zero_add, h.cellAt i (by omega), List.getElem?_map, hx]; rfl⟩⟩, fun _ => ⟨hg, own_lt h g rfl⟩⟩
theorem NS.tail {X o' n cap off : Nat} {w : World} {x : Nat} {l : List Nat} (hn : n = l.length + 1) (hc : n ≤ cap) (h : ∀ (i y : Nat), (x :: l)[i]? = some y → w.cell? ⟨X, off + i, none⟩ = some (.int .i64 (y : Int))) (ho : 1 < cap → o' = off + 1) : NS X w (.slice (some ⟨X, o', none⟩) (n - 1) (cap - 1)) l := by
  refine ⟨_, cap - 1, by rw [hn]; rfl, by omega, fun h0 => ⟨o', rfl, fun i y hy => ?_⟩⟩
  have hl : 0 < l.length := List.length_pos_iff.2 h0
  rw [ho (by omega)]
  have := h (i + 1) y (by simpa using hy)
  rwa [show off + (i + 1) = off + 1 + i by omega] at this
def BeR (X : Nat) (l : List Nat) (from' : Nat) (w : World) (v : Value) (wr : World) : Prop := ∃ l', NS X w v l' ∧ l'.length ≤ l.length ∧ l'.dropWhile (fun p => decide (p < from')) = l.dropWhile (fun p => decide (p < from')) ∧ w = wr
set_option maxHeartbeats 2000000 in
theorem behind_any (X : Nat) (l : List Nat) (from' : Nat) (v : Value) (w : World) (h : NS X w v l) (hl : l.length ≤ 100000) :
    Calls Tryz.prog 256 #[v, .int .i64 from'] w fun e w' => (∃ v', e = .returned v' ∧ NS X w v' (l.dropWhile (fun p => decide (p < from')))) ∧ w = w' := by
  have H := Lib.hid h
  obtain ⟨a0, cap0, rfl, hcap0, hcc0⟩ := h
  clear hcc0
  go_enter Tryz.func256, Tryz.ntmps256
  go_wp2_with fail
  go_loopw [0] (fun v wr => BeR X l from' w v wr) (fun v _ => restLen v)
  case atStart => exact ⟨l, H.out, Nat.le_refl _, rfl, rfl⟩
  case round =>
    obtain ⟨l', hN, hl', hd, rfl⟩ := hrel
    have HN := Lib.hid hN
    have HD := Lib.hid hd
    obtain ⟨a, cap, rfl, hcap, hcell⟩ := hN
    clear hd
    cases l' with
    | nil =>
      clear hcell
      go_wp2_with fail
      go_ret
      exact ⟨⟨_, rfl, by rw [← HD.out]; exact HN.out⟩, rfl⟩
    | cons x t =>
      obtain ⟨off, rfl, hcc⟩ := hcell (by simp)
      have c0 : w.cell? ⟨X, off, none⟩ = some (.int .i64 (x : Int)) := hcc 0 x rfl
      have HC := Lib.hid hcc
      simp only [List.length_cons] at hcap hl'
      clear hcc hcell
      by_cases hx : x < from'
      · have g : decide ((x : Int) < (from' : Int)) = true := by simp; omega
        have HD2 : Hid (t.dropWhile (fun p => decide (p < from')) = l.dropWhile (fun p => decide (p < from'))) := Lib.hid (by rw [← HD.out, List.dropWhile_cons_of_pos (by simpa using hx)])
        by_cases hc1 : cap = 1
        · subst hc1
          obtain rfl : t = [] := List.length_eq_zero_iff.1 (by omega)
          go_wp2_with fail
          go_roundw
          case rel => exact ⟨[], ⟨_, _, rfl, Nat.le_refl _, fun h => absurd rfl h⟩, by simp, HD2.out, rfl⟩
          case measure => first | (simp [restLen]; done) | (simp [restLen]; omega)
        · have hc2 : 1 < cap := by omega
          go_wp2_with fail
          go_roundw
          case rel => exact ⟨t, by have := NS.tail (o' := off + 1) (off := off) (n := t.length + 1) (cap := cap) rfl hcap HC.out (fun h => rfl); simpa using this, by omega, HD2.out, rfl⟩
          case measure => first | (simp [restLen]; done) | (simp [restLen]; omega)
      · have g : decide ((x : Int) < (from' : Int)) = false := by simp; omega
        have HE : Hid (x :: t = l.dropWhile (fun p => decide (p < from'))) := Lib.hid (by rw [← HD.out, List.dropWhile_cons_of_neg (by simpa using hx)])
        go_wp2_with fail
        go_ret
        exact ⟨⟨_, rfl, by rw [← HE.out]; exact HN.out⟩, rfl⟩
end Go.Proofs.YtgobcnheemocnaaGreatDoor
end
section
namespace Go.Proofs.YtgobcnheemocnaaGreatDoor
open Go.RowKit
set_option linter.unusedVariables false
set_option linter.unusedSimpArgs false
set_option maxRecDepth 100000

/-- The first place from which there is a match: how many rounds, where, to where. -/
inductive FirstR (is : List Ins) (tx : List UInt8) : Nat → List Nat → Int × Int × Bool → Prop
  | none : FirstR is tx 0 [] (0, 0, false)
  | hit {p k : Nat} {l : List Nat} {e : Int} (hp : p ≤ tx.length) (h : StartR is tx p k e) (he : 0 ≤ e) : FirstR is tx (k + 1) (p :: l) (p, e, true)
  | miss {p k m : Nat} {l : List Nat} {e : Int} {r : Int × Int × Bool} (hp : p ≤ tx.length) (h : StartR is tx p k e) (he : e < 0) (hr : FirstR is tx m l r) : FirstR is tx (k + 1 + m) (p :: l) r
theorem Foot.trans {w0 w w' : World} {F : Nat → Prop} {c : Nat} {a b a' b' : TS} (h : Foot w0 F w a b) (hF : F c) (k : Foot w (inC c a b) w' a' b') : Foot w0 F w' a' b' := by
  have hin : ∀ x, x < w0.heap.size → inC c a b x → F x := fun x hx hi => by
    rcases hi with rfl | hi | hi
    · exact hF
    · exact h.ina x hx hi
    · exact h.inb x hx hi
  have hsz := h.keep.size
  exact ⟨h.keep.trans2 k.keep hin, fun x hx hi => hin x hx (k.ina x (by omega) hi), fun x hx hi => hin x hx (k.inb x (by omega) hi)⟩
theorem Foot.down {w w1 W : World} {F : Nat → Prop} {a b : TS} (h : Foot w1 F W a b) (K : Keeps (fun _ => False) w w1) : Foot w F W a b :=
  ⟨(K.mono (fun _ _ e => e.elim)).trans2 h.keep (fun _ _ e => e), fun x hx => h.ina x (by have := K.size; omega), fun x hx => h.inb x (by have := K.size; omega)⟩
theorem Crew.keepsS {S : Nat → Prop} {B c : Nat} {w w' : World} {pv : Value} {tx : List UInt8} {is : List Ins} {a b : TS} (h : Crew B w c pv tx is a b) (K : Keeps S w w') (hc : ¬ S c) (ha : ∀ x, a.inn x → ¬ S x) (hb : ∀ x, b.inn x → ¬ S x) (hB : ∀ x, x < B → ¬ S x) : Crew B w' c pv tx is a b :=
  ⟨by rw [K.block c h.ltc hc]; exact h.bk, Thr.keeps h.ta K ha, Thr.keeps h.tb K hb, h.dis, h.ca, h.cb, h.cB, h.pg.keepsTo K hB (fun _ h => h)⟩
theorem st2_facts (w : World) (h : Nat) {u0 v0 : Value} (r0 : w.cell? ⟨h, 0, none⟩ = some u0) (r1 : w.cell? ⟨h, 1, none⟩ = some v0) (u v : Value) :
    ((w.setCell ⟨h, 0, none⟩ u).setCell ⟨h, 1, none⟩ v).cell? ⟨h, 0, none⟩ = some u ∧ ((w.setCell ⟨h, 0, none⟩ u).setCell ⟨h, 1, none⟩ v).cell? ⟨h, 1, none⟩ = some v ∧ Keeps (fun b => b = h) w ((w.setCell ⟨h, 0, none⟩ u).setCell ⟨h, 1, none⟩ v) := by
  refine ⟨?_, ?_, ((Keeps.refl (fun b => b = h) w).set (p := ⟨h, 0, none⟩) rfl _).set (p := ⟨h, 1, none⟩) rfl _⟩
  · rw [cell_set_other (by simp)]; exact cell_set_same r0
  · exact cell_set_same (by rw [cell_set_other (by simp)]; exact r1)
/-- The result's block is laid. -/
theorem fi_end {w wA w3 wE : World} {B c n M h : Nat} {F : Nat → Prop} {pv : Value} {tx : List UInt8} {is : List Ins} {a b : TS} (KW : Keeps (fun _ => False) w wA) (hC : Crew B w3 c pv tx is a b) (ha : a.now ≤ n) (hb : b.now ≤ n) (hn : n ≤ M) (hF : Foot wA F w3 a b) (hh : h = w.heap.size) (hlw : h < wA.heap.size) (hFh : ¬ F h) (hch : c < h) (kE : Keeps (fun b => b = h) w3 wE) :
    ∃ a b, Crew B wE c pv tx is a b ∧ a.now ≤ M ∧ b.now ≤ M ∧ Foot w F wE a b := by
  have ia : ¬ a.inn h := fun e => hFh (hF.ina h hlw e)
  have ib : ¬ b.inn h := fun e => hFh (hF.inb h hlw e)
  have hcB := hC.cB
  exact ⟨a, b, hC.keepsS kE (by omega) (fun x hx e => ia (e ▸ hx)) (fun x hx e => ib (e ▸ hx)) (fun x hx e => by omega), by omega, by omega,
    ⟨((hF.down KW).keep).trans2 kE (fun x hx e => by omega), (hF.down KW).ina, (hF.down KW).inb⟩⟩
def FisR (B c M : Nat) (F : Nat → Prop) (pv : Value) (tx : List UInt8) (is : List Ins) (l : List Nat) (fin : Int × Int × Bool) (wA : World) (iv : Value) (wr : World) : Prop :=
  ∃ (i m n : Nat) (a b : TS), iv = .int .i64 i ∧ i ≤ l.length ∧ Crew B wr c pv tx is a b ∧ a.now ≤ n ∧ b.now ≤ n ∧ n + m ≤ M ∧ FirstR is tx m (l.drop i) fin ∧ Foot wA F wr a b
set_option maxHeartbeats 8000000 in
theorem first_any (B c N M X : Nat) (pv v : Value) (tx : List UInt8) (is : List Ins) (a0 b0 : TS) (l : List Nat) (fin : Int × Int × Bool) (w : World) (hC : Crew B w c pv tx is a0 b0) (ha : a0.now ≤ N) (hb : b0.now ≤ N) (hr : FirstR is tx M l fin)
    (htx : tx.length ≤ 4000) (his : is.length ≤ 4000) (hN : N + M ≤ 1000000000000) (hv : NS X w v l) (hX : X < w.heap.size) (hFX : ¬ inC c a0 b0 X) (hl : l.length ≤ 100000) :
    Calls Tryz.prog 255 #[.pointer (some ⟨c, 0, none⟩), v] w fun e w' => e = .returned (.tuple #[.agg #[.int .i64 fin.1, .int .i64 fin.2.1], .bool fin.2.2]) ∧ ∃ a b, Crew B w' c pv tx is a b ∧ a.now ≤ N + M ∧ b.now ≤ N + M ∧ Foot w (inC c a0 b0) w' a b := by
  obtain ⟨wA, hwA⟩ : ∃ W, W = w.alloc (.cells #[.int .i64 0, .int .i64 0] 118) := ⟨_, rfl⟩
  have kw : Keeps (fun _ => False) w wA := by rw [hwA]; exact (Keeps.refl _ _).alloc _
  have q0 : wA.cell? ⟨w.heap.size, 0, none⟩ = some (.int .i64 0) := by rw [hwA]; simp [go_sem]
  have q1 : wA.cell? ⟨w.heap.size, 1, none⟩ = some (.int .i64 0) := by rw [hwA]; simp [go_sem]
  have hq : wA.heap[w.heap.size]? = some (.cells #[.int .i64 0, .int .i64 0] 118 (0, 0)) := by rw [hwA]; exact heap_alloc_new w _
  have g0 : wA.frozen? ⟨w.heap.size, 0, none⟩ = false := Lib.frozen_of_heap hq 0
  have g1 : wA.frozen? ⟨w.heap.size, 1, none⟩ = false := Lib.frozen_of_heap hq 1
  have hlw : w.heap.size < wA.heap.size := lt_of_cell q0
  obtain ⟨F, hF0⟩ : ∃ F, F = inC c a0 b0 := ⟨_, rfl⟩
  have F0 : Foot wA F wA a0 b0 := by
    rw [hF0]; exact Foot.start wA c a0 b0
  have hFc : F c := by rw [hF0]; exact Or.inl rfl
  have hch : c < w.heap.size := hC.ltc
  have hFh : ¬ F w.heap.size := by
    rw [hF0]
    rintro (e | e | e)
    · have := hC.ltc; omega
    · have := (Thr.inlt hC.ta e).1; omega
    · have := (Thr.inlt hC.tb e).1; omega
  rw [← hF0] at hFX ⊢
  have HCA := Lib.hid (hC.keeps kw (fun _ => id))
  have HNS := Lib.hid (hv.keeps kw id)
  obtain ⟨av, cap0, rfl, hcap0, hcc0⟩ := hv
  have HR := Lib.hid hr
  have KW := Lib.hid kw
  have FF := Lib.hid F0
  clear hcc0 hr kw F0 hF0 hC
  go_enter Tryz.func255, Tryz.ntmps255
  go_wp2_with fail
  rw [← hwA]
  clear hwA
  go_loopw [11] (fun iv wr => FisR B c (N + M) F pv tx is l fin wA iv wr) (fun iv _ => l.length - (intOf iv).toNat)
  case atStart => exact ⟨0, M, N, a0, b0, rfl, Nat.zero_le _, HCA.out, ha, hb, Nat.le_refl _, HR.out, FF.out⟩
  case round =>
    obtain ⟨i, m, n, a, b, rfl, hi, hC, hna, hnb, hnm, hFr, hFt⟩ := hrel
    have HC := Lib.hid hC
    have HFt := Lib.hid hFt
    have HFr := Lib.hid hFr
    have r0 := hFt.keep.cell q0 hFh
    have r1 := hFt.keep.cell q1 hFh
    have e0 := hFt.keep.frozen g0 hlw hFh
    have e1 := hFt.keep.frozen g1 hlw hFh
    obtain ⟨av', cap', hve, _, hcc⟩ := HNS.out.keeps hFt.keep hFX
    obtain ⟨rfl, _, rfl⟩ := Value.slice.inj hve
    clear hFr hC hFt hve
    by_cases hil : i < l.length
    · obtain ⟨p, hpi⟩ : ∃ p, l[i]? = some p := ⟨_, List.getElem?_eq_getElem hil⟩
      obtain ⟨off, rfl, hc2⟩ := hcc (by intro h; rw [h] at hil; simp at hil)
      have cp := hc2 i p hpi
      have hXr : X < wr.heap.size := lt_of_cell cp
      have hdr : l.drop i = p :: l.drop (i + 1) := by
        obtain ⟨h1, h2⟩ := List.getElem?_eq_some_iff.1 hpi
        rw [List.drop_eq_getElem_cons h1, h2]
      obtain ⟨k, e, hpt, hLr, hcase⟩ : ∃ (k : Nat) (e : Int), p ≤ tx.length ∧ StartR is tx p k e ∧ ((0 ≤ e ∧ fin = ((p : Int), e, true) ∧ m = k + 1) ∨ (e < 0 ∧ ∃ m', m = k + 1 + m' ∧ FirstR is tx m' (l.drop (i + 1)) fin)) := by
        have h := HFr.out
        rw [hdr] at h
        cases h with
        | hit hp h he => exact ⟨_, _, hp, h, Or.inl ⟨he, rfl, rfl⟩⟩
        | miss hp h he hr => exact ⟨_, _, hp, h, Or.inr ⟨he, _, rfl, hr⟩⟩
      have HLo := Lib.hid (longest_any B c (n + k + 1) pv tx is a b p k e wr HC.out hLr hpt htx his (by rcases hcase with ⟨_, _, h⟩ | ⟨_, m', h, _⟩ <;> omega) (by omega) (by omega))
      clear hcc hc2 hdr hpi hLr HFr
      go_wp2_with fail
      refine HLo.out.mono ?_
      rintro e9 w3 ⟨rfl, a', b', hC3, hna3, hnb3, hFt3⟩
      have hF3 := HFt.out.trans hFc hFt3
      clear r0 r1 e0 e1
      have r0 := hF3.keep.cell q0 hFh
      have r1 := hF3.keep.cell q1 hFh
      have e0 := hF3.keep.frozen g0 hlw hFh
      have e1 := hF3.keep.frozen g1 hlw hFh
      have hl3 : w.heap.size < w3.heap.size := lt_of_cell r0
      have HC3 := Lib.hid hC3
      have HF3 := Lib.hid hF3
      clear hC3 hFt3 hF3
      rcases hcase with ⟨he, rfl, rfl⟩ | ⟨he, m', rfl, hrest⟩
      · have ge : decide ((0 : Int) ≤ e) = true := by simpa using he
        go_wp2_with fail
        obtain ⟨z0, z1, kE⟩ := st2_facts w3 w.heap.size r0 r1 (.int .i64 (p : Int)) (.int .i64 e)
        obtain ⟨wE, hWE⟩ : ∃ W, (w3.setCell ⟨w.heap.size, 0, none⟩ (.int .i64 (p : Int))).setCell ⟨w.heap.size, 1, none⟩ (.int .i64 e) = W := ⟨_, rfl⟩
        rw [hWE] at z0 z1 kE ⊢
        refine bodyPost_ret (by simp [results, Tryz.results255, go_sem, z0, z1]; try rfl) rfl ?_
        exact ⟨rfl, fi_end KW.out HC3.out hna3 hnb3 (by omega) HF3.out rfl hlw hFh hch kE⟩
      · have ge : decide ((0 : Int) ≤ e) = false := by simp; omega
        have HRest := Lib.hid hrest
        clear hrest
        go_wp2_with fail
        go_roundw
        case rel => exact ⟨i + 1, m', n + k + 1, a', b', by go_num, by omega, HC3.out, hna3, hnb3, by omega, HRest.out, HF3.out⟩
        case measure => simp [intOf]; omega
    · have hie : i = l.length := by omega
      subst hie
      obtain ⟨rfl, rfl⟩ : fin = (0, 0, false) ∧ m = 0 := by
        have h := HFr.out
        rw [List.drop_length] at h
        cases h; exact ⟨rfl, rfl⟩
      go_wp2_with fail
      obtain ⟨z0, z1, kE⟩ := st2_facts wr w.heap.size r0 r1 (.int .i64 0) (.int .i64 0)
      obtain ⟨wE, hWE⟩ : ∃ W, (wr.setCell ⟨w.heap.size, 0, none⟩ (.int .i64 0)).setCell ⟨w.heap.size, 1, none⟩ (.int .i64 0) = W := ⟨_, rfl⟩
      rw [hWE] at z0 z1 kE ⊢
      refine bodyPost_ret (by simp [results, Tryz.results255, go_sem, z0, z1]; try rfl) rfl ?_
      exact ⟨rfl, fi_end KW.out HC.out hna hnb (by omega) HFt.out rfl hlw hFh hch kE⟩
end Go.Proofs.YtgobcnheemocnaaGreatDoor
end
