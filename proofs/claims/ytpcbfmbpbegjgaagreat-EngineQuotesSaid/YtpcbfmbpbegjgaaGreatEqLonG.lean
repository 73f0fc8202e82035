/-
  The walk of (*crew).longest. Printed by mk_lon.py.
-/
import Derived.Test.YtpcbfmbpbegjgaaGreatMg15
import Derived.Deep.RegionHeld3
namespace Go.Proofs.YtpcbfmbpbegjgaaGreat
open Go.RowKit
set_option linter.unusedVariables false
set_option linter.unusedSimpArgs false
set_option maxRecDepth 100000

theorem pointP_none {tx : List UInt8} {p : Nat} (h : tx.length ≤ p) : pointP tx p = (0, 0) := by
  unfold pointP; rw [List.drop_eq_nil_of_le h]
theorem pointP_some {tx : List UInt8} {p : Nat} {c : UInt8} {t : List UInt8} (h : tx.drop p = c :: t) : pointP tx p = getP (c :: t) := by
  unfold pointP; rw [h]
theorem mpoint_at (tx : List UInt8) (p : Nat) (w : World) (h : p < tx.length) (hl : tx.length ≤ 100000) :
    Calls Tryz.prog 80 #[.string ⟨tx.toArray⟩, .int .i64 p] w fun e w' => e = .returned (.tuple #[.int .i64 (pointP tx p).1, .int .i64 ((pointP tx p).2 : Nat)]) ∧ Keeps (fun _ => False) w w' := by
  cases h1 : tx.drop p with
  | nil => have := congrArg List.length h1; simp at this; omega
  | cons c t => rw [pointP_some h1]; exact mpoint_any tx p c t w h1 hl
set_option maxHeartbeats 16000000 in
theorem longest_any (B c N : Nat) (pv : Value) (tx : List UInt8) (is : List Ins) (a0 b0 : TS) (p0 k0 : Nat) (res : Int) (s0 : List Nat × (Nat → Bool)) (w : World) (hC : Crew B w c pv tx is a0 b0) (hp : PtR is 0 ([], fun _ => false) s0) (hs0 : s0.1.length ≤ 1000) (hr : LongR is tx k0 s0.1 p0 (-1) res)
    (hpt : p0 ≤ tx.length) (htx : tx.length ≤ 1000) (his : is.length ≤ 1000) (hN : N ≤ 1000000) (ha : a0.now + 1 + k0 ≤ N) (hb : b0.now + k0 < N) :
    Calls Tryz.prog 79 #[.pointer (some ⟨c, 0, none⟩), .int .i64 p0] w fun e w' => e = .returned (.int .i64 res) ∧ (∃ a' b', Crew B w' c pv tx is a' b' ∧ a'.now ≤ N ∧ b'.now ≤ N ∧ Foot w (inC c a0 b0) w' a' b') := by
  obtain ⟨F, hF0⟩ : ∃ F, F = inC c a0 b0 := ⟨_, rfl⟩
  have F0 : Hid (Foot w F w a0 b0) := Lib.hid (by rw [hF0]; exact Foot.start w c a0 b0)
  have hFc : F c := by rw [hF0]; exact Or.inl rfl
  rw [← hF0]
  clear hF0
  obtain ⟨c0, c1, c2, c3, f2, f3⟩ := hC.cells
  have HC := Lib.hid hC
  have HR := Lib.hid hr
  have HPt := Lib.hid (fun W (h : p0 < tx.length) => mpoint_at tx p0 W h (by omega))
  clear hC hr
  go_enter Tryz.func79, Tryz.ntmps79
  go_wp2_with fail
  refine (TS.clear HC.out.ta (by omega)).mono ?_
  rintro e w1 ⟨rfl, a1, hn1, hL1, hM1, hnow1⟩
  have hC1 := HC.out.nextA hn1
  have K1 := Lib.hid (F0.out.nextA hn1)
  clear c0 c1 c2 c3 f2 f3
  obtain ⟨c0, c1, c2, c3, f2, f3⟩ := hC1.cells
  have HC1 := Lib.hid hC1
  clear hn1 hC1
  go_wp2_with fail
  refine (TS.put (i := 0) (s' := s0) HC1.out.ta (by rw [hL1, hM1]; exact hp) _ HC1.out.pg c0 HC1.out.ca hs0 his (by omega)).mono ?_
  rintro e w2 ⟨rfl, a2, hn2, hL2, hM2, hnow2⟩
  have hC2 := HC1.out.nextA hn2
  have K2 := Lib.hid (K1.out.nextA hn2)
  have HC2 := Lib.hid hC2
  clear hn2 hC2 c0 c1 c2 c3 f2 f3
  go_wp2_with fail
  go_loopw [1, 5] (fun av ev wr => LoR B c N F pv tx is res w av ev wr) (fun av _ _ => tx.length - (intOf av).toNat)
  case atStart => exact ⟨k0, p0, -1, a2, b0, rfl, hpt, rfl, ⟨by omega, by omega⟩, HC2.out, by omega, hb, by rw [hL2]; exact hs0, by rw [hL2]; exact HR.out, K2.out⟩
  case round =>
    clear HPt HR HC HC1 HC2 K1 K2 hL1 hM1 hL2 hM2 hnow1 hnow2 hp hs0
    obtain ⟨k, p, e, a, b, rfl, hpt, rfl, he, hC, hna, hnb, hal, hL, hk⟩ := hrel
    obtain ⟨fin, hF, hfl, hfin⟩ := hL.open
    have hpn := pointP_le hpt
    have HPt := Lib.hid (fun W (h : p < tx.length) => mpoint_at tx p W h (by omega))
    have HP0 := Lib.hid (fun (h : tx.length ≤ p) => pointP_none h)
    obtain ⟨pp, hpp⟩ : ∃ q, pointP tx p = q := ⟨_, rfl⟩
    rw [hpp] at hF hfin hpn
    have HPP := Lib.hid hpp
    obtain ⟨r, n⟩ := pp
    simp only at hF hfin hpn
    have HF := Lib.hid hF
    have HFin := Lib.hid hfin
    have HK := Lib.hid hk
    have hse := hF.range (by omega) he
    have hz0 := hF.zero
    have HZ0 := Lib.hid hz0
    clear hF hfin hk hpp hL hz0
    obtain ⟨c0, c1, c2, c3, f2, f3⟩ := hC.cells
    have HC := Lib.hid hC
    clear hC
    by_cases hpl : p < tx.length
    · have HPx := Lib.hid (fun W => HPt.out W hpl)
      rw [HPP.out] at HPx
      simp only at HPx
      clear HPt HP0
      go_wp2_with fail
      refine (HPx.out _).mono ?_
      rintro e9 w2 ⟨rfl, k2⟩
      have hC2 := HC.out.keeps k2 (fun _ => id)
      have KQ := Lib.hid (HK.out.keeps k2)
      clear c0 c1 c2 c3 f2 f3
      obtain ⟨c0, c1, c2, c3, f2, f3⟩ := hC2.cells
      have HCQ := Lib.hid hC2
      clear k2 hC2
      go_wp2_with fail
      refine (TS.clear HCQ.out.tb (by omega)).mono ?_
      rintro e9 w3 ⟨rfl, b1, hn1, hL1, hM1, hnow1⟩
      have hC3 := HCQ.out.nextB hn1
      have K3 := Lib.hid (KQ.out.nextB hn1)
      clear c0 c1 c2 c3 f2 f3
      obtain ⟨c0, c1, c2, c3, f2, f3⟩ := hC3.cells
      obtain ⟨la, lc, hla⟩ := ownsRow_slice (Thr.own hC3.ta)
      have t0 := TS.cell hC3.ta
      rw [hla] at t0
      have HC3 := Lib.hid hC3
      have HLA := Lib.hid hla
      clear hn1 hC3 hla
      go_wp2_with fail
      go_loopw [52, 5] (fun kv ev wr => InnR B c F pv tx is a b1 r n p fin w kv ev wr) (fun kv _ _ => a.L.length - (intOf kv).toNat)
      case atStart => exact ⟨0, e, b1, rfl, Nat.zero_le _, rfl, he, HC3.out, rfl, by rw [hL1, hM1]; exact HF.out, K3.out⟩
      case round =>
        clear c0 c1 c2 c3 f2 f3 t0
        obtain ⟨j, e2, b2, rfl, hj, rfl, he2, hC, hbn, hF, hk⟩ := hrel
        have HC := Lib.hid hC
        have K4 := Lib.hid hk
        obtain ⟨c0, c1, c2, c3, f2, f3⟩ := hC.cells
        by_cases hjl : j < a.L.length
        · obtain ⟨i, hi⟩ : ∃ i, a.L[j]? = some i := ⟨_, List.getElem?_eq_getElem hjl⟩
          have hdr : a.L.drop j = i :: a.L.drop (j + 1) := by
            obtain ⟨h1, h2⟩ := List.getElem?_eq_some_iff.1 hi
            rw [List.drop_eq_getElem_cons h1, h2]
          rw [hdr] at hF
          have hown := Thr.own hC.ta
          obtain ⟨g, gc, hgv, hg1, hg2⟩ := hown.form (by omega)
          rw [HLA.out] at hgv
          obtain ⟨rfl, _, rfl⟩ := Value.slice.inj hgv
          have hLc : wr.cell? ⟨g, j, none⟩ = some (.int .i64 (i : Int)) := by
            rw [HLA.out] at hown
            rw [hown.cellAt j (by omega), List.getElem?_map, hi]; rfl
          have hgl : g < wr.heap.size := hg2
          have HFx := Lib.hid hF
          clear hF hC hk hdr hi hown hgv
          obtain ⟨x, hx, hcases⟩ : ∃ x, is[i]? = some x ∧ ((x.op = 0 ∧ FoldR is r n p (a.L.drop (j + 1)) ((p : Int), (b2.L, b2.M)) fin) ∨ (x.op = 1 ∧ 0 < n ∧ has x.set r = true ∧ ∃ q, PtR is x.x (b2.L, b2.M) q ∧ FoldR is r n p (a.L.drop (j + 1)) (e2, q) fin) ∨ (x.op = 1 ∧ (n = 0 ∨ has x.set r = false) ∧ FoldR is r n p (a.L.drop (j + 1)) (e2, (b2.L, b2.M)) fin)) := by
            have h := HFx.out
            cases h with
            | mt hx ho h => exact ⟨_, hx, Or.inl ⟨ho, h⟩⟩
            | hit hx ho hn hh hp h => exact ⟨_, hx, Or.inr (Or.inl ⟨ho, hn, hh, _, hp, h⟩)⟩
            | miss hx ho hn h => exact ⟨_, hx, Or.inr (Or.inr ⟨ho, hn, h⟩)⟩
          have hil := (List.getElem?_eq_some_iff.1 hx).1
          obtain ⟨pb, off, cp, sa, sc, hpv, hb9, hset, _, _, z0, z1, z2, z3⟩ := HC.out.pg.at hx
          rw [hpv] at c0
          obtain ⟨op, set, xx, yy⟩ := x
          simp only at hcases z0 z1 z2 z3 hset
          have hcl : c < wr.heap.size := HC.out.ltc
          have HSet := Lib.hid hset
          clear hset HFx hx
          rcases hcases with ⟨rfl, hF2⟩ | ⟨rfl, hn0, hh, q, hq, hF2⟩ | ⟨rfl, hmis, hF2⟩
          · have HF2 := Lib.hid hF2
            have ka : Keeps (fun _ => False) wr (wr.alloc (.cells #[.int .i64 0, .slice sa set.length sc, .int .i64 xx, .int .i64 yy] 104)) := (Keeps.refl _ _).alloc _
            have HCa := Lib.hid (HC.out.keeps ka (fun _ => id))
            have KA := Lib.hid (K4.out.keeps ka)
            clear hF2 ka
            go_wp2_with fail
            go_roundw
            case rel => exact ⟨j + 1, p, b2, by go_num, by omega, rfl, ⟨by omega, by omega⟩, HCa.out, hbn, HF2.out, KA.out⟩
            case measure => simp [intOf]; omega
          · have HF2 := Lib.hid hF2
            have hql : q.1.length ≤ 1000 := Nat.le_trans hF2.len hfl
            have gn : decide ((0 : Int) < (n : Int)) = true := by simp; omega
            have ka : Keeps (fun _ => False) wr (wr.alloc (.cells #[.int .i64 1, .slice sa set.length sc, .int .i64 xx, .int .i64 yy] 104)) := (Keeps.refl _ _).alloc _
            have HCa := Lib.hid (HC.out.keeps ka (fun _ => id))
            have KA := Lib.hid (K4.out.keeps ka)
            have HHas := Lib.hid (has_any set _ r _ (HSet.out.keeps ka (fun _ _ => id)))
            rw [hh] at HHas
            have y2 : (wr.alloc (.cells #[.int .i64 1, .slice sa set.length sc, .int .i64 xx, .int .i64 yy] 104)).cell? ⟨wr.heap.size, 2, none⟩ = some (.int .i64 xx) := by simp [go_sem]
            have Y2 := Lib.hid y2
            have HQ := Lib.hid hq
            clear hF2 ka y2 hq
            go_wp2_with fail
            refine HHas.out.mono ?_
            rintro e9 w5 ⟨rfl, k5⟩
            have hC5 := HCa.out.keeps k5 (fun _ => id)
            have q2 := k5.cell Y2.out id
            clear c0 c1 c2 c3 f2 f3
            obtain ⟨c0, c1, c2, c3, f2, f3⟩ := hC5.cells
            have HC5 := Lib.hid hC5
            have K5 := Lib.hid (KA.out.keeps k5)
            have k5d : Keeps (fun _ => False) w5 w5.drew := (Keeps.refl _ _).drew
            have HPu := Lib.hid (fun z => TS.put (i := xx) (s' := q) (Thr.keeps HC5.out.tb k5d (fun _ _ => id)) HQ.out z (HC5.out.pg.keepsTo (Q := fun b => b < B) k5d (fun _ _ => id) (fun _ h => h)) (k5d.cell c0 id) HC5.out.cb hql his (by omega))
            clear hC5 k5
            go_wp2_with fail
            have c3d : w5.drew.cell? ⟨c, 3, none⟩ = some (.pointer (some ⟨b2.tb, 0, none⟩)) := c3
            have q2d : w5.drew.cell? ⟨wr.heap.size, 2, none⟩ = some (.int .i64 xx) := q2
            have hfi : ¬ b2.inn wr.heap.size := fun h => by have := (Thr.inlt HC.out.tb h).1; omega
            go_region_held3 (fun w' => w'.cell? ⟨c, 3, none⟩ = some (.pointer (some ⟨b2.tb, 0, none⟩)) ∧ w'.cell? ⟨wr.heap.size, 2, none⟩ = some (.int .i64 xx)) (first | exact ⟨c3d, q2d⟩ | exact ⟨c3n, q2n⟩) (first | (go_at_call 98; refine (HPu.out _).mono ?_; rintro e9 w6 ⟨rfl, b3, hn3, hL3, hM3, hnow3⟩; have c3n := hn3.keep.cell c3d HC5.out.cb; have q2n := hn3.keep.cell q2d hfi))
            all_goals
              have hC6 := (HC5.out.keeps k5d (fun _ => id)).nextB hn3
              have HC6 := Lib.hid hC6
              have K6 := Lib.hid ((K5.out.keeps k5d).nextB hn3)
              clear hC6 hn3
              go_wp2_with fail
              go_roundw
              case rel => exact ⟨j + 1, e2, b3, by go_num, by omega, rfl, he2, HC6.out, by rw [hnow3]; exact hbn, by rw [hL3, hM3]; exact HF2.out, K6.out⟩
              case measure => simp [intOf]; omega
          · have HF2 := Lib.hid hF2
            have ka : Keeps (fun _ => False) wr (wr.alloc (.cells #[.int .i64 1, .slice sa set.length sc, .int .i64 xx, .int .i64 yy] 104)) := (Keeps.refl _ _).alloc _
            have HCa := Lib.hid (HC.out.keeps ka (fun _ => id))
            have KA := Lib.hid (K4.out.keeps ka)
            have HHas := Lib.hid (has_any set _ r _ (HSet.out.keeps ka (fun _ _ => id)))
            clear hF2 ka
            by_cases hn0 : n = 0
            · subst hn0
              clear HHas hmis
              go_wp2_with fail
              go_roundw
              case rel => exact ⟨j + 1, e2, b2, by go_num, by omega, rfl, he2, HCa.out, hbn, HF2.out, KA.out⟩
              case measure => simp [intOf]; omega
            · have hh : has set r = false := by rcases hmis with h | h; exact absurd h hn0; exact h
              rw [hh] at HHas
              have gn : decide ((0 : Int) < (n : Int)) = true := by simp; omega
              clear hmis hh
              go_wp2_with fail
              refine HHas.out.mono ?_
              rintro e9 w5 ⟨rfl, k5⟩
              have HC5 := Lib.hid (HCa.out.keeps k5 (fun _ => id))
              have K5 := Lib.hid (KA.out.keeps k5)
              clear k5
              go_wp2_with fail
              go_roundw
              case rel => exact ⟨j + 1, e2, b2, by go_num, by omega, rfl, he2, HC5.out, hbn, HF2.out, K5.out⟩
              case measure => simp [intOf]; omega
        · have hje : j = a.L.length := by omega
          subst hje
          rw [List.drop_length] at hF
          obtain rfl : fin = (e2, b2.L, b2.M) := by cases hF; rfl
          obtain ⟨lb, lbc, hlb⟩ := ownsRow_slice (Thr.own hC.tb)
          have t1 := TS.cell hC.tb
          rw [hlb] at t1
          clear hF hC hk hlb
          have KE := K4
          rcases HFin.out with ⟨h1, h2⟩ | ⟨h1, k', rfl, h3⟩
          · simp only at h1 h2
            rw [h1] at t1
            subst h2
            have HE : Hid (∃ a' b', Crew B wr c pv tx is a' b' ∧ a'.now ≤ N ∧ b'.now ≤ N ∧ Foot w F wr a' b') := Lib.hid ⟨a, b2, HC.out, by omega, by omega, KE.out⟩
            clear h1 HFin
            go_wp2_with fail
            go_ret
            exact ⟨rfl, HE.out⟩
          · simp only at h1 h3
            have gl : ((b2.L.length : Int) == 0) = false := beq_eq_false_iff_ne.2 (by have := List.length_pos_iff.2 h1; omega)
            have hn0 : 0 < n := by
              rcases Nat.eq_zero_or_pos n with h | h
              · have := HZ0.out h
                exact absurd (congrArg Prod.fst this) h1
              · exact h
            have HLo := Lib.hid h3
            obtain ⟨s1, s2⟩ := HC.out.swap
            have S1 := Lib.hid s1
            have S2 := Lib.hid s2
            have hcB := HC.out.cB
            have hab : a.tb ≠ c := fun e => HC.out.ca (Or.inl e.symm)
            clear h1 h3 HFin s1 s2
            go_wp2_with fail
            go_region
            all_goals
              go_wp2_with fail
              go_roundw
              case rel => exact ⟨k', p + n, e2, b2, a, by go_num, by omega, rfl, he2, by first | exact S1.out.keeps (Keeps.refl (fun _ => False) _).drew (fun _ => id) | exact S2.out.keeps (Keeps.refl (fun _ => False) _).drew (fun _ => id), by omega, by omega, hfl, HLo.out, by first | exact ⟨((KE.out.keep.set (p := ⟨c, 2, none⟩) hFc _).set (p := ⟨c, 3, none⟩) hFc _).drew, KE.out.inb, KE.out.ina⟩ | exact ⟨((KE.out.keep.set (p := ⟨c, 3, none⟩) hFc _).set (p := ⟨c, 2, none⟩) hFc _).drew, KE.out.inb, KE.out.ina⟩⟩
              case measure => simp [intOf]; omega
    · have h00 := HP0.out (by omega)
      have h01 := HPP.out
      rw [h00] at h01
      obtain ⟨rfl, rfl⟩ : r = 0 ∧ n = 0 := ⟨(congrArg Prod.fst h01).symm, (congrArg Prod.snd h01).symm⟩
      clear HPt HP0 h00 h01
      go_wp2_with fail
      refine (TS.clear HC.out.tb (by omega)).mono ?_
      rintro e9 w3 ⟨rfl, b1, hn1, hL1, hM1, hnow1⟩
      have hC3 := HC.out.nextB hn1
      have K3 := Lib.hid (HK.out.nextB hn1)
      clear c0 c1 c2 c3 f2 f3
      obtain ⟨c0, c1, c2, c3, f2, f3⟩ := hC3.cells
      obtain ⟨la, lc, hla⟩ := ownsRow_slice (Thr.own hC3.ta)
      have t0 := TS.cell hC3.ta
      rw [hla] at t0
      have HC3 := Lib.hid hC3
      have HLA := Lib.hid hla
      clear hn1 hC3 hla
      go_wp2_with fail
      go_loopw [52, 5] (fun kv ev wr => InnR B c F pv tx is a b1 0 0 p fin w kv ev wr) (fun kv _ _ => a.L.length - (intOf kv).toNat)
      case atStart => exact ⟨0, e, b1, rfl, Nat.zero_le _, rfl, he, HC3.out, rfl, by rw [hL1, hM1]; exact HF.out, K3.out⟩
      case round =>
        clear c0 c1 c2 c3 f2 f3 t0
        obtain ⟨j, e2, b2, rfl, hj, rfl, he2, hC, hbn, hF, hk⟩ := hrel
        have HC := Lib.hid hC
        have K4 := Lib.hid hk
        obtain ⟨c0, c1, c2, c3, f2, f3⟩ := hC.cells
        by_cases hjl : j < a.L.length
        · obtain ⟨i, hi⟩ : ∃ i, a.L[j]? = some i := ⟨_, List.getElem?_eq_getElem hjl⟩
          have hdr : a.L.drop j = i :: a.L.drop (j + 1) := by
            obtain ⟨h1, h2⟩ := List.getElem?_eq_some_iff.1 hi
            rw [List.drop_eq_getElem_cons h1, h2]
          rw [hdr] at hF
          have hown := Thr.own hC.ta
          obtain ⟨g, gc, hgv, hg1, hg2⟩ := hown.form (by omega)
          rw [HLA.out] at hgv
          obtain ⟨rfl, _, rfl⟩ := Value.slice.inj hgv
          have hLc : wr.cell? ⟨g, j, none⟩ = some (.int .i64 (i : Int)) := by
            rw [HLA.out] at hown
            rw [hown.cellAt j (by omega), List.getElem?_map, hi]; rfl
          have hgl : g < wr.heap.size := hg2
          have HFx := Lib.hid hF
          clear hF hC hk hdr hi hown hgv
          obtain ⟨x, hx, hcases⟩ : ∃ x, is[i]? = some x ∧ ((x.op = 0 ∧ FoldR is 0 0 p (a.L.drop (j + 1)) ((p : Int), (b2.L, b2.M)) fin) ∨ (x.op = 1 ∧ 0 < 0 ∧ has x.set 0 = true ∧ ∃ q, PtR is x.x (b2.L, b2.M) q ∧ FoldR is 0 0 p (a.L.drop (j + 1)) (e2, q) fin) ∨ (x.op = 1 ∧ (0 = 0 ∨ has x.set 0 = false) ∧ FoldR is 0 0 p (a.L.drop (j + 1)) (e2, (b2.L, b2.M)) fin)) := by
            have h := HFx.out
            cases h with
            | mt hx ho h => exact ⟨_, hx, Or.inl ⟨ho, h⟩⟩
            | hit hx ho hn hh hp h => exact ⟨_, hx, Or.inr (Or.inl ⟨ho, hn, hh, _, hp, h⟩)⟩
            | miss hx ho hn h => exact ⟨_, hx, Or.inr (Or.inr ⟨ho, hn, h⟩)⟩
          have hil := (List.getElem?_eq_some_iff.1 hx).1
          obtain ⟨pb, off, cp, sa, sc, hpv, hb9, hset, _, _, z0, z1, z2, z3⟩ := HC.out.pg.at hx
          rw [hpv] at c0
          obtain ⟨op, set, xx, yy⟩ := x
          simp only at hcases z0 z1 z2 z3 hset
          have hcl : c < wr.heap.size := HC.out.ltc
          have HSet := Lib.hid hset
          clear hset HFx hx
          rcases hcases with ⟨rfl, hF2⟩ | ⟨rfl, hn0, hh, q, hq, hF2⟩ | ⟨rfl, hmis, hF2⟩
          · have HF2 := Lib.hid hF2
            have ka : Keeps (fun _ => False) wr (wr.alloc (.cells #[.int .i64 0, .slice sa set.length sc, .int .i64 xx, .int .i64 yy] 104)) := (Keeps.refl _ _).alloc _
            have HCa := Lib.hid (HC.out.keeps ka (fun _ => id))
            have KA := Lib.hid (K4.out.keeps ka)
            clear hF2 ka
            go_wp2_with fail
            go_roundw
            case rel => exact ⟨j + 1, p, b2, by go_num, by omega, rfl, ⟨by omega, by omega⟩, HCa.out, hbn, HF2.out, KA.out⟩
            case measure => simp [intOf]; omega
          · exact absurd hn0 (by omega)
          · have HF2 := Lib.hid hF2
            have ka : Keeps (fun _ => False) wr (wr.alloc (.cells #[.int .i64 1, .slice sa set.length sc, .int .i64 xx, .int .i64 yy] 104)) := (Keeps.refl _ _).alloc _
            have HCa := Lib.hid (HC.out.keeps ka (fun _ => id))
            have KA := Lib.hid (K4.out.keeps ka)
            have HHas := Lib.hid (has_any set _ 0 _ (HSet.out.keeps ka (fun _ _ => id)))
            clear hF2 ka
            clear HHas hmis
            go_wp2_with fail
            go_roundw
            case rel => exact ⟨j + 1, e2, b2, by go_num, by omega, rfl, he2, HCa.out, hbn, HF2.out, KA.out⟩
            case measure => simp [intOf]; omega
        · have hje : j = a.L.length := by omega
          subst hje
          rw [List.drop_length] at hF
          obtain rfl : fin = (e2, b2.L, b2.M) := by cases hF; rfl
          obtain ⟨lb, lbc, hlb⟩ := ownsRow_slice (Thr.own hC.tb)
          have t1 := TS.cell hC.tb
          rw [hlb] at t1
          clear hF hC hk hlb
          have KE := K4
          rcases HFin.out with ⟨h1, h2⟩ | ⟨h1, k', rfl, h3⟩
          · simp only at h1 h2
            rw [h1] at t1
            subst h2
            have HE : Hid (∃ a' b', Crew B wr c pv tx is a' b' ∧ a'.now ≤ N ∧ b'.now ≤ N ∧ Foot w F wr a' b') := Lib.hid ⟨a, b2, HC.out, by omega, by omega, KE.out⟩
            clear h1 HFin
            go_wp2_with fail
            go_ret
            exact ⟨rfl, HE.out⟩
          · exact absurd (congrArg Prod.fst (HZ0.out (by trivial))) h1
end Go.Proofs.YtpcbfmbpbegjgaaGreat
