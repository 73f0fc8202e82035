/-
  Several texts in one: The decoder's eight, units. The decoder's settle. strings.Builder's WriteString and Write in a block of the call's own.
-/
import Derived.Test.YtjahiihmoglpfaaGreatDoorMg23
import Derived.Deep.RegionHeld3
import Derived.Test.YtjahiihmoglpfaaGreatDoorMg19
import Derived.Test.YtjahiihmoglpfaaGreatDoorMg2
import Derived.Lib.Builder
import Derived.Lib.AppendStr
import Derived.Lib.FrozenHead
namespace Go.Proofs.YtjahiihmoglpfaaGreatDoor
open Go.RowKit
set_option linter.unusedVariables false
set_option linter.unusedSimpArgs false
set_option maxRecDepth 100000
theorem BS.keepsN {X : Nat} {w w' : World} {v : Value} {rest : List UInt8} {S : Nat → Prop} (h : BS X w v rest) (K : xaa S w w') (hX : rest ≠ [] → ¬ S X) : BS X w' v rest := by
 obtain ⟨a, cap, rfl, h1, h2⟩ := h
 refine ⟨a, cap, rfl, h1, fun hne => ?_⟩
 obtain ⟨off, rfl, h3⟩ := h2 hne
 exact ⟨off, rfl, fun i x hx => K.cell (h3 i x hx) (hX hne)⟩
theorem BS.lt {X : Nat} {w : World} {v : Value} {l : List UInt8} (h : BS X w v l) (h0 : l ≠ []) : X < w.heap.size := by
 obtain ⟨a, cap, rfl, h1, h2⟩ := h
 obtain ⟨off, rfl, h3⟩ := h2 h0
 cases l with
 | nil => exact absurd rfl h0
 | cons c t => exact xan (h3 0 c rfl)
structure xaS (w : World) (db : Nat) (v : Value) (X : Nat) (d : Dec) (cl : Bool) : Prop where
 bk : w.heap[db]? = some (.cells #[.int .i64 d.kind, .bool d.sure, v, .bool cl] 137 (0, 0))
 hs : BS X w v d.held
 ne : d.held ≠ [] → X ≠ db
 fm : v = .slice none 0 0 ∨ ∃ off n cap, v = .slice (some ⟨X, off, none⟩) n cap
theorem xaS.keeps {S : Nat → Prop} {w w' : World} {db : Nat} {v : Value} {X : Nat} {d : Dec} {cl : Bool} (h : xaS w db v X d cl) (K : xaa S w w') (h1 : ¬ S db) (h2 : d.held ≠ [] → ¬ S X) : xaS w' db v X d cl :=
 ⟨K.heap h.bk h1, h.hs.keepsN K h2, h.ne, h.fm⟩
theorem xaS.cells {w : World} {db : Nat} {v : Value} {X : Nat} {d : Dec} {cl : Bool} (h : xaS w db v X d cl) :
 w.cell? ⟨db, 0, none⟩ = some (.int .i64 d.kind) ∧ w.cell? ⟨db, 1, none⟩ = some (.bool d.sure) ∧ w.cell? ⟨db, 2, none⟩ = some v ∧ w.cell? ⟨db, 3, none⟩ = some (.bool cl) ∧ (∀ k, w.frozen? ⟨db, k, none⟩ = false) ∧ db < w.heap.size :=
 ⟨by rw [Lib.cell_of_heap h.bk]; rfl, by rw [Lib.cell_of_heap h.bk]; rfl, by rw [Lib.cell_of_heap h.bk]; rfl, by rw [Lib.cell_of_heap h.bk]; rfl, fun k => Lib.frozen_of_heap h.bk k, (Array.getElem?_eq_some_iff.1 h.bk).1⟩
theorem xif (h : List UInt8) : ((getP h).1.toNat : Int) = (getP h).1 := by
 cases h with
 | nil => rfl
 | cons c t =>
  rw [getP]
  by_cases h0 : lenP c.toNat = 0 ∨ t.length + 1 < lenP c.toNat
  · rw [if_pos h0]; rfl
  rw [if_neg h0]
  cases xa4 (xb6 c) (t.take (lenP c.toNat - 1)) with
  | none => rfl
  | some r =>
   show (((if sizP r = lenP c.toNat then ((r : Int), lenP c.toNat) else (65533, 1)).1.toNat : Nat) : Int) = (if sizP r = lenP c.toNat then ((r : Int), lenP c.toNat) else (65533, 1)).1
   by_cases hs : sizP r = lenP c.toNat
   · simp [hs]
   simp [hs]
def StE (p : Nat × Nat) (w : World) (e : Ending) (w' : World) : Prop := e = .returned (.tuple #[.int .i64 (p.1 : Int), .int .i64 (p.2 : Int)]) ∧ xaa (fun _ => False) w w'
set_option maxHeartbeats 4000000 in
theorem xkE (db X : Nat) (v : Value) (d : Dec) (cl all : Bool) (w : World) (H : xaS w db v X d cl) (h0 : d.held ≠ []) (hl : d.held.length ≤ 100000) :
 Calls Tryz.prog 116 #[.pointer (some ⟨db, 0, none⟩), .bool all] w (StE (xg3 all d.held) w) := by
 obtain ⟨c0, c1, c2, c3, fz, hlt⟩ := H.cells
 have HO := xmA (xlx H.hs hl)
 have hS : Hid (xg3 all d.held = if !all && xd d.held then (0, 0) else ((getP d.held).1.toNat, (getP d.held).2)) := xmA rfl
 have HG : Hid (∀ W, xaa (fun _ => False) w W → Calls Tryz.prog 100 #[v] W fun e w' => e = .returned (.tuple #[.int .i64 (getP d.held).1, .int .i64 ((getP d.held).2 : Int)]) ∧ W = w') := xmA (fun W K => by
  have hs := H.hs.keeps K id
  obtain ⟨a, cap, rfl, h1, h2⟩ := hs
  obtain ⟨off, rfl, hc⟩ := h2 h0
  cases hq : d.held with
  | nil => exact absurd hq h0
  | cons c t =>
   rw [hq] at h1 hc
   exact xcD X off cap _ c t W rfl h1 hc)
 have HN := xmA (xif d.held)
 clear fz H
 generalize xg3 all d.held = r at *
 generalize getP d.held = G at *
 generalize xd d.held = q at *
 obtain ⟨g1, g2⟩ := G
 simp only at HN
 cases all with
 | true =>
  have HR : Hid (r = (g1.toNat, g2)) := xmA (by rw [hS.out]; rfl)
  clear hS
  go_enter Tryz.func116, Tryz.ntmps116
  go_wp2_with fail
  refine (HG.out _ (xaa.refl _ _)).mono ?_
  rintro e w2 ⟨rfl, rfl⟩
  go_wp2_with fail
  go_ret2
  unfold StE
  rw [HR.out, HN.out]
  exact ⟨rfl, xaa.refl _ _⟩
 | false =>
  cases q with
  | true =>
   have HR : Hid (r = (0, 0)) := xmA (by rw [hS.out]; rfl)
   clear hS
   go_enter Tryz.func116, Tryz.ntmps116
   go_wp2_with fail
   refine HO.out.mono ?_
   rintro e w2 ⟨rfl, k2⟩
   have K2 := xmA k2
   clear k2
   go_wp2_with fail
   go_ret2
   unfold StE
   rw [HR.out]
   exact ⟨rfl, K2.out⟩
  | false =>
   have HR : Hid (r = (g1.toNat, g2)) := xmA (by rw [hS.out]; rfl)
   clear hS
   go_enter Tryz.func116, Tryz.ntmps116
   go_wp2_with fail
   refine HO.out.mono ?_
   rintro e w2 ⟨rfl, k2⟩
   have K2 := xmA k2
   have d2 := k2.cell c2 id
   clear k2
   go_wp2_with fail
   refine (HG.out _ K2.out).mono ?_
   rintro e w3 ⟨rfl, rfl⟩
   go_wp2_with fail
   go_ret2
   unfold StE
   rw [HR.out, HN.out]
   exact ⟨rfl, K2.out⟩
theorem BS.take {X : Nat} {w : World} {a : Option Addr} {n cap : Nat} {l : List UInt8} (h : BS X w (.slice a n cap) l) (k : Nat) (hk : k ≤ n) : BS X w (.slice a k cap) (l.take k) := by
 obtain ⟨a', c', e, h1, h2⟩ := h
 obtain ⟨rfl, rfl, rfl⟩ := Value.slice.inj e
 have hl : (l.take k).length = k := by rw [List.length_take]; omega
 refine ⟨a, cap, by rw [hl], by omega, fun h0 => ?_⟩
 obtain ⟨off, rfl, hc⟩ := h2 (fun e => h0 (by rw [e]; simp))
 refine ⟨off, rfl, fun i x hx => hc i x ?_⟩
 rw [List.getElem?_take] at hx
 split at hx
 · exact hx
 cases hx
theorem xd6 (k : Int) : ∀ (n : Nat) (l : List UInt8), l.length ≤ n → ∀ u ∈ xaC k l, u < 65536
 | 0, l, h, u, hu => by cases l with | nil => simp [xaC] at hu | cons _ _ => simp at h
 | n + 1, [], h, u, hu => by simp [xaC] at hu
 | n + 1, [a], h, u, hu => by simp [xaC] at hu
 | n + 1, a :: b :: t, h, u, hu => by
  rw [xdp, List.mem_cons] at hu
  rcases hu with rfl | hu
  · have := a.toNat_lt
    have := b.toNat_lt
    split <;> omega
  exact xd6 k n t (by simp at h; omega) u hu
theorem xi5 {w : World} {base : Nat} {e : TypeId} {v : Value} {us : List Nat} (h : w.ownsRow base e 1 v us.length (xcR us)) (h0 : us ≠ []) :
 ∃ g cap, v = .slice (some ⟨g, 0, none⟩) us.length cap ∧ us.length ≤ cap ∧ ∀ (i x : Nat), us[i]? = some x → w.cell? ⟨g, i, none⟩ = some (.int .i64 (x : Int)) := by
 rcases h.2 with ⟨rfl, hn⟩ | ⟨g, cap, cur, rfl, hg, hh, hn, _⟩
 · exact absurd (List.length_eq_zero_iff.1 hn) h0
 have hc := World.ownsRow.cellAt h
 refine ⟨g, cap, rfl, hn, fun i x hx => ?_⟩
 have := hc i (by have := (List.getElem?_eq_some_iff.1 hx).1; simpa using this)
 rw [this]
 unfold xcR
 rw [List.getElem?_map, hx]; rfl
set_option maxHeartbeats 8000000 in
theorem xjA (db X : Nat) (v : Value) (d : Dec) (cl all : Bool) (w : World) (H : xaS w db v X d cl) (hk : d.kind = 2 ∨ d.kind = 3) (h0 : d.held ≠ []) (hl : d.held.length ≤ 100000) :
 Calls Tryz.prog 115 #[.pointer (some ⟨db, 0, none⟩), .bool all] w (StE (xg1 d.kind all d.held) w) := by
 obtain ⟨c0, c1, c2, c3, fz, hlt⟩ := H.cells
 obtain ⟨a, cap, rfl, h1, _⟩ := H.hs.form
 have HU := xmA (fun W (K : xaa (fun _ => False) w W) (k : Nat) (hk4 : k = min d.held.length 4) => xjB d.kind hk ((H.hs.keeps K id).take k (by omega)) (by rw [List.length_take]; omega))
 have ht : d.held.take (min d.held.length 4) = d.held.take 4 := by
  by_cases h : d.held.length ≤ 4
  · rw [Nat.min_eq_left h, List.take_length, List.take_of_length_le h]
  rw [Nat.min_eq_right (by omega)]
 have hS : Hid (xg1 d.kind all d.held = match xaC d.kind (d.held.take 4) with
  | [] => if all then (65533, d.held.length) else (0, 0)
  | [u] => if (decide (55296 ≤ u) && decide (u < 56320)) && !all then (0, 0) else ((xa8 [u]).1, 2 * (xa8 [u]).2)
  | u :: v :: r => ((xa8 (u :: v :: r)).1, 2 * (xa8 (u :: v :: r)).2)) := xmA rfl
 have hlt4 := xmA (xd6 d.kind _ (d.held.take 4) (Nat.le_refl _))
 have hlen4 : 2 * (xaC d.kind (d.held.take 4)).length ≤ 4 := by
  have := xdq d.kind _ (d.held.take 4) (Nat.le_refl _)
  rw [List.length_take] at this; omega
 obtain ⟨k, hk4⟩ : ∃ k, min d.held.length 4 = k := ⟨_, rfl⟩
 have HU2 : Hid (∀ W, xaa (fun _ => False) w W → Calls Tryz.prog 154 #[.int .i64 d.kind, .slice a k cap] W fun e w' => ∃ u, e = .returned u ∧ w'.ownsRow W.heap.size 3 1 u (xaC d.kind (d.held.take 4)).length (xcR (xaC d.kind (d.held.take 4))) ∧ xaa (fun _ => False) W w') := xmA (fun W K => by
  have := HU.out W K k hk4.symm
  rw [← hk4, ht] at this
  rw [← hk4]; exact this)
 have hmin : ∀ W : World, (Builtin.min_ #[3, 3] 3 #[.int .i64 (d.held.length : Int), .int .i64 4]).run Tryz.prog W = .ok (.int .i64 (k : Int)) W := fun W => by
  rw [xgv, ← hk4]
  congr 2
  rw [Nat.min_def]
  split <;> split <;> omega
 have hkl : k ≤ d.held.length := by omega
 have hkl4 : k ≤ 4 := by omega
 have hh := List.length_pos_iff.2 h0
 have hn5 : d.held.length ≤ 100000 := hl
 clear fz H HU ht hk4 hk h0
 generalize xaC d.kind (d.held.take 4) = us at *
 generalize d.kind = kind at *
 generalize xg1 kind all d.held = r at *
 generalize d.held.length = n at *
 have hcap2 : k ≤ cap := by omega
 go_enter Tryz.func115, Tryz.ntmps115
 go_wp2_with fail
 have hk0 : xaa (fun _ => False) w w.drew := (xaa.refl _ _).drew
 have d0 : w.drew.cell? ⟨db, 0, none⟩ = some (.int .i64 kind) := c0
 have d2 : w.drew.cell? ⟨db, 2, none⟩ = some (.slice a n cap) := c2
 go_region_held3 (fun w' => w'.cell? ⟨db, 0, none⟩ = some (.int .i64 kind) ∧ w'.cell? ⟨db, 2, none⟩ = some (.slice a n cap) ∧ xaa (fun _ => False) w w') (first | exact ⟨d0, d2, hk0⟩ | exact ⟨xaa.cell (by assumption) c0 id, xaa.cell (by assumption) c2 id, by assumption⟩) (first | (go_at_call 154; refine (HU2.out _ ?_).mono ?_; exact (by assumption : _ ∧ _ ∧ _).2.2; rintro e w' ⟨u, rfl, hO, hk⟩; have hkw : xaa (fun _ => False) w w' := hk0.trans hk))
 have e2 := hkw.cell c2 id
 have HK := xmA hkw
 clear hkw hk hk0 d0 d2 HU2 hmin
 cases us with
 | nil =>
  obtain ⟨ua, uc, rfl⟩ := xad hO
  clear hO
  cases all with
  | true =>
   have HR : Hid (r = (65533, n)) := xmA (by rw [hS.out]; rfl)
   clear hS
   go_wp2_with fail
   go_quiet (fail)
   go_wp2_with fail
   go_ret2
   unfold StE
   rw [HR.out]
   exact ⟨rfl, HK.out.trans (KI.out)⟩
  | false =>
   have HR : Hid (r = (0, 0)) := xmA (by rw [hS.out]; rfl)
   clear hS
   go_wp2_with fail
   go_ret2
   unfold StE
   rw [HR.out]
   exact ⟨rfl, HK.out⟩
 | cons x t =>
  obtain ⟨g, uc, rfl, huc, hc⟩ := xi5 hO (by simp)
  have hx := hlt4.out x (by simp)
  obtain ⟨m, hm⟩ : ∃ m, (x :: t).length = m := ⟨_, rfl⟩
  have HJ := xmA (xko g uc m x t w' (xmA (by rw [← hm]; rfl)) (by omega) (by simp at hlen4; omega) hx (fun v hv => hlt4.out v (by simp [hv])) hc)
  have f0 : w'.cell? ⟨g, 0, none⟩ = some (.int .i64 (x : Int)) := hc 0 x rfl
  have hjl := xfy (x :: t)
  rw [hm] at hlen4 hjl
  have hm2 : m ≤ 4 := by omega
  rw [hm]
  have HM := xmA hm
  have gm0 : ((m : Int) == 0) = false := by rw [beq_eq_false_iff_ne]; simp at hm; omega
  have gm1 : (0 : Int) < (m : Int) := by simp at hm; omega
  have hS2 : Hid (r = if ((decide (55296 ≤ x) && decide (x < 56320)) && decide (m = 1)) && !all then (0, 0) else ((xa8 (x :: t)).1, 2 * (xa8 (x :: t)).2)) := xmA (by
   rw [hS.out]
   cases t with
   | nil => rw [show m = 1 from hm.symm]; simp
   | cons y t =>
    have : ¬ m = 1 := by rw [← hm]; simp
    simp [this])
  clear hS hO hc hm hlen4 hlt4 huc
  unfold JoE at HJ
  generalize xa8 (x :: t) = J at *
  obtain ⟨j1, j2⟩ := J
  simp only at HJ hS2 hjl
  have hw2 : IntKind.i64.wrap (2 * (j2 : Int)) = 2 * (j2 : Int) := IntWalk.i64_in _ (by omega)
  have HE2 : Hid (((2 * j2 : Nat) : Int) = 2 * (j2 : Int)) := xmA (by omega)
  by_cases h1 : 55296 ≤ x
  · have g1 : decide ((55296 : Int) ≤ (x : Int)) = true := by simp; omega
    by_cases h2 : x < 56320
    · have g2 : decide ((x : Int) < 56320) = true := by simp; omega
      by_cases h3 : m = 1
      · have g3 : ((m : Int) == 1) = true := by rw [h3]; rfl
        cases all with
        | true =>
         have HR : Hid (r = (j1, 2 * j2)) := xmA (by rw [hS2.out]; simp)
         clear hS2 h1 h2 h3
         go_wp2_with fail
         refine HJ.out.mono ?_
         rintro e w2 ⟨rfl, rfl⟩
         go_wp2_with fail
         go_ret2
         unfold StE
         rw [HR.out]
         exact ⟨by rw [HE2.out]; rfl, HK.out⟩
        | false =>
         have HR : Hid (r = (0, 0)) := xmA (by rw [hS2.out]; simp [h1, h2, h3])
         clear hS2 h1 h2 h3
         go_wp2_with fail
         refine HJ.out.mono ?_
         rintro e w2 ⟨rfl, rfl⟩
         go_wp2_with fail
         go_ret2
         unfold StE
         rw [HR.out]
         exact ⟨rfl, HK.out⟩
      have g3 : ((m : Int) == 1) = false := by rw [beq_eq_false_iff_ne]; omega
      have HR : Hid (r = (j1, 2 * j2)) := xmA (by rw [hS2.out]; simp [h3])
      clear hS2 h1 h2 h3
      go_wp2_with fail
      refine HJ.out.mono ?_
      rintro e w2 ⟨rfl, rfl⟩
      go_wp2_with fail
      go_ret2
      unfold StE
      rw [HR.out]
      exact ⟨by rw [HE2.out]; rfl, HK.out⟩
    have g2 : decide ((x : Int) < 56320) = false := by simp; omega
    have HR : Hid (r = (j1, 2 * j2)) := xmA (by rw [hS2.out]; simp [h2])
    clear hS2 h1 h2
    go_wp2_with fail
    refine HJ.out.mono ?_
    rintro e w2 ⟨rfl, rfl⟩
    go_wp2_with fail
    go_ret2
    unfold StE
    rw [HR.out]
    exact ⟨by rw [HE2.out]; rfl, HK.out⟩
  have g1 : decide ((55296 : Int) ≤ (x : Int)) = false := by simp; omega
  have HR : Hid (r = (j1, 2 * j2)) := xmA (by rw [hS2.out]; simp [h1])
  clear hS2 h1
  go_wp2_with fail
  refine HJ.out.mono ?_
  rintro e w2 ⟨rfl, rfl⟩
  go_wp2_with fail
  go_ret2
  unfold StE
  rw [HR.out]
  exact ⟨by rw [HE2.out]; rfl, HK.out⟩
theorem xcQ (a : List UInt8) : (xaE a).2 ≤ a.length := by
 rcases a with _ | ⟨x, _ | ⟨y, t⟩⟩
 · exact Nat.le_refl _
 · exact Nat.zero_le _
 simp only [xaE]
 by_cases g1 : x = 239 ∧ y = 187 ∧ t.head? = some 191
 · rw [if_pos g1]
   cases t with
   | nil => simp at g1
   | cons _ _ => simp
 rw [if_neg g1]
 by_cases g2 : x = 255 ∧ y = 254
 · rw [if_pos g2]; simp
 rw [if_neg g2]
 by_cases g3 : x = 254 ∧ y = 255
 · rw [if_pos g3]; simp
 rw [if_neg g3]; simp
theorem BS.drop {X : Nat} {w : World} {b off n cap : Nat} {l : List UInt8} (h : BS X w (.slice (some ⟨b, off, none⟩) n cap) l) (k o' : Nat) (hk : k ≤ n) (ho : k < cap → o' = off + k) : BS X w (.slice (some ⟨b, o', none⟩) (n - k) (cap - k)) (l.drop k) := by
 obtain ⟨a', c', e, h1, h2⟩ := h
 obtain ⟨rfl, rfl, rfl⟩ := Value.slice.inj e
 have hl : (l.drop k).length = l.length - k := List.length_drop
 refine ⟨_, _, by rw [hl], by omega, fun h0 => ?_⟩
 have hp := List.length_pos_iff.2 h0
 obtain ⟨o, ho2, hc⟩ := h2 (fun e => h0 (by rw [e]; simp))
 cases ho2
 refine ⟨off + k, by rw [ho (by omega)], fun i x hx => ?_⟩
 rw [List.getElem?_drop] at hx
 rw [Nat.add_assoc]; exact hc (k + i) x hx
def SetE (db X : Nat) (d : Dec) (cl : Bool) (w : World) (e : Ending) (w' : World) : Prop := e = .returned (.tuple #[]) ∧ ∃ v, xaS w' db v X d cl ∧ xaa (fun b => b = db) w w'
theorem dec_set {w : World} {db : Nat} {u0 u1 u2 u3 : Value} (h : w.heap[db]? = some (.cells #[u0, u1, u2, u3] 137 (0, 0))) (x y z : Value) :
 (((w.setCell ⟨db, 0, none⟩ x).setCell ⟨db, 1, none⟩ y).setCell ⟨db, 2, none⟩ z).heap[db]? = some (.cells #[x, y, z, u3] 137 (0, 0)) := by
 simp [World.setCell, Array.getElem?_modify, h]
theorem xcK {db X : Nat} {v : Value} {d : Dec} {cl : Bool} {w : World} (H : xaS w db v X d cl) (kind : Int) (k : Nat) (v' : Value) (hv : BS X w v' (d.held.drop k)) (hf : v' = .slice none 0 0 ∨ ∃ off n cap, v' = .slice (some ⟨X, off, none⟩) n cap) :
 xaS (((w.setCell ⟨db, 0, none⟩ (.int .i64 kind)).setCell ⟨db, 1, none⟩ (.bool true)).setCell ⟨db, 2, none⟩ v') db v' X ⟨kind, true, d.held.drop k⟩ cl ∧ xaa (fun b => b = db) w (((w.setCell ⟨db, 0, none⟩ (.int .i64 kind)).setCell ⟨db, 1, none⟩ (.bool true)).setCell ⟨db, 2, none⟩ v') := by
 have K : xaa (fun b => b = db) w (((w.setCell ⟨db, 0, none⟩ (.int .i64 kind)).setCell ⟨db, 1, none⟩ (.bool true)).setCell ⟨db, 2, none⟩ v') :=
  (((xaa.refl (fun b => b = db) w).set (p := ⟨db, 0, none⟩) rfl _).set (p := ⟨db, 1, none⟩) rfl _).set (p := ⟨db, 2, none⟩) rfl _
 have hd : d.held.drop k ≠ [] → d.held ≠ [] := fun h e => h (by rw [e]; simp)
 exact ⟨⟨dec_set H.bk _ _ _, hv.keepsN K (fun h => H.ne (hd h)), fun h => H.ne (hd h), hf⟩, K⟩
set_option maxHeartbeats 8000000 in
theorem xiF (db X : Nat) (d : Dec) (cl : Bool) (w : World) (H : xaS w db (.slice none 0 0) X d cl) (hs : d.sure = false) (hd : d.held = []) :
 Calls Tryz.prog 114 #[.pointer (some ⟨db, 0, none⟩), .bool true] w (SetE db X ⟨1, true, []⟩ cl w) := by
 obtain ⟨c0, c1, c2, c3, fz, hlt⟩ := H.cells
 rw [hs] at c1
 have HSu := xmA (xbP H.hs (fun h => H.hs.lt h))
 have HMk := xmA (fun W (K : xaa (fun _ => False) w W) => xbR (H.hs.keeps K id))
 have HD := xmA (fun W (K : xaa (fun _ => False) w W) => H.keeps K id (fun _ => id))
 clear fz hs
 rw [hd] at HMk
 go_enter Tryz.func114, Tryz.ntmps114
 go_wp2_with fail
 refine (HMk.out _ (xaa.refl _ _)).mono ?_
 rintro e w2 ⟨rfl, k2⟩
 have K2 := xmA (k2)
 have HD2 := xmA (HD.out w2 K2.out)
 obtain ⟨e0, e1, e2, e3, fz, _⟩ := HD2.out.cells
 have f0 := fz 0
 have f1 := fz 1
 have f2 := fz 2
 clear k2 fz
 go_wp2_with fail
 go_returns
 have h9 := xcK (HD.out w2 K2.out) 1 0 (.slice none 0 0) (by rw [hd]; exact ⟨none, 0, rfl, Nat.le_refl _, fun h => absurd rfl h⟩) (Or.inl rfl)
 rw [hd] at h9
 exact ⟨rfl, _, h9.1, (K2.out.mono (fun _ _ h => h.elim)).trans h9.2⟩
set_option maxHeartbeats 4000000 in
theorem xjN (db X off n cap : Nat) (mk : Int) (d : Dec) (cl : Bool) (w : World) (H : xaS w db (.slice (some ⟨X, off, none⟩) n cap) X d cl) (hs : d.sure = false)
 (hmk : Hid (xaE d.held = (mk, 0))) :
 Calls Tryz.prog 114 #[.pointer (some ⟨db, 0, none⟩), .bool true] w (SetE db X ⟨1, true, d.held.drop 0⟩ cl w) := by
 obtain ⟨c0, c1, c2, c3, fz, hlt⟩ := H.cells
 rw [hs] at c1
 have HSu := xmA (xbP H.hs (fun h => H.hs.lt h))
 have HMk := xmA (fun W (K : xaa (fun _ => False) w W) => xbR (H.hs.keeps K id))
 rw [hmk.out] at HMk
 have HD := xmA (fun W (K : xaa (fun _ => False) w W) => H.keeps K id (fun _ => id))
 have hml := xcQ d.held
 rw [hmk.out] at hml
 simp only at hml HMk
 obtain ⟨a', c', e', hcap, _⟩ := H.hs.form
 obtain ⟨rfl, rfl, rfl⟩ := Value.slice.inj e'
 have HS := xmA (fun W (K : xaa (fun _ => False) w W) => H.hs.keeps K id)
 clear fz hs H e'
 have hcz : ¬ cap = 0 ∨ cap = 0 := by omega
 go_enter Tryz.func114, Tryz.ntmps114
 go_wp2_with fail
 refine (HMk.out _ (xaa.refl _ _)).mono ?_
 rintro e w2 ⟨rfl, k2⟩
 have K2 := xmA (k2)
 have HD2 := xmA (HD.out w2 K2.out)
 obtain ⟨e0, e1, e2, e3, fz, _⟩ := HD2.out.cells
 have f0 := fz 0
 have f1 := fz 1
 have f2 := fz 2
 clear k2 fz
 go_wp2_with fail
 go_returns
 have h9 := xcK (HD.out w2 K2.out) 1 0 _ ((HS.out w2 K2.out).drop 0 off hml (fun _ => rfl)) (Or.inr ⟨_, _, _, rfl⟩)
 exact ⟨rfl, _, h9.1, (K2.out.mono (fun _ _ h => h.elim)).trans h9.2⟩
set_option maxHeartbeats 4000000 in
theorem xjM (db X off n cap : Nat) (mk : Int) (d : Dec) (cl : Bool) (w : World) (H : xaS w db (.slice (some ⟨X, off, none⟩) n cap) X d cl) (hs : d.sure = false)
 (hmk : Hid (xaE d.held = (mk, cap))) (h0 : 0 < cap) :
 Calls Tryz.prog 114 #[.pointer (some ⟨db, 0, none⟩), .bool true] w (SetE db X ⟨mk, true, d.held.drop cap⟩ cl w) := by
 obtain ⟨c0, c1, c2, c3, fz, hlt⟩ := H.cells
 rw [hs] at c1
 have HSu := xmA (xbP H.hs (fun h => H.hs.lt h))
 have HMk := xmA (fun W (K : xaa (fun _ => False) w W) => xbR (H.hs.keeps K id))
 rw [hmk.out] at HMk
 have HD := xmA (fun W (K : xaa (fun _ => False) w W) => H.keeps K id (fun _ => id))
 have hml := xcQ d.held
 rw [hmk.out] at hml
 simp only at hml HMk
 obtain ⟨a', c', e', hcap, _⟩ := H.hs.form
 obtain ⟨rfl, rfl, rfl⟩ := Value.slice.inj e'
 have HS := xmA (fun W (K : xaa (fun _ => False) w W) => H.hs.keeps K id)
 clear fz hs H e'
 have g0 : ((cap : Int) == 0) = false := by rw [beq_eq_false_iff_ne]; omega
 go_enter Tryz.func114, Tryz.ntmps114
 go_wp2_with fail
 refine (HMk.out _ (xaa.refl _ _)).mono ?_
 rintro e w2 ⟨rfl, k2⟩
 have K2 := xmA (k2)
 have HD2 := xmA (HD.out w2 K2.out)
 obtain ⟨e0, e1, e2, e3, fz, _⟩ := HD2.out.cells
 have f0 := fz 0
 have f1 := fz 1
 have f2 := fz 2
 clear k2 fz
 go_wp2_with fail
 go_returns
 have h9 := xcK (HD.out w2 K2.out) mk cap _ ((HS.out w2 K2.out).drop cap off hml (fun h => by omega)) (Or.inr ⟨_, _, _, rfl⟩)
 rw [show d.held.length - cap = 0 by omega, Nat.sub_self] at h9
 exact ⟨rfl, _, h9.1, (K2.out.mono (fun _ _ h => h.elim)).trans h9.2⟩
set_option maxHeartbeats 4000000 in
theorem xjL (db X off n cap mn : Nat) (mk : Int) (d : Dec) (cl : Bool) (w : World) (H : xaS w db (.slice (some ⟨X, off, none⟩) n cap) X d cl) (hs : d.sure = false)
 (hmk : Hid (xaE d.held = (mk, mn))) (h0 : 0 < mn) (hc : mn < cap) :
 Calls Tryz.prog 114 #[.pointer (some ⟨db, 0, none⟩), .bool true] w (SetE db X ⟨mk, true, d.held.drop mn⟩ cl w) := by
 obtain ⟨c0, c1, c2, c3, fz, hlt⟩ := H.cells
 rw [hs] at c1
 have HSu := xmA (xbP H.hs (fun h => H.hs.lt h))
 have HMk := xmA (fun W (K : xaa (fun _ => False) w W) => xbR (H.hs.keeps K id))
 rw [hmk.out] at HMk
 have HD := xmA (fun W (K : xaa (fun _ => False) w W) => H.keeps K id (fun _ => id))
 have hml := xcQ d.held
 rw [hmk.out] at hml
 simp only at hml HMk
 obtain ⟨a', c', e', hcap, _⟩ := H.hs.form
 obtain ⟨rfl, rfl, rfl⟩ := Value.slice.inj e'
 have HS := xmA (fun W (K : xaa (fun _ => False) w W) => H.hs.keeps K id)
 clear fz hs H e'
 have g0 : ((mn : Int) == 0) = false := by rw [beq_eq_false_iff_ne]; omega
 go_enter Tryz.func114, Tryz.ntmps114
 go_wp2_with fail
 refine (HMk.out _ (xaa.refl _ _)).mono ?_
 rintro e w2 ⟨rfl, k2⟩
 have K2 := xmA (k2)
 have HD2 := xmA (HD.out w2 K2.out)
 obtain ⟨e0, e1, e2, e3, fz, _⟩ := HD2.out.cells
 have f0 := fz 0
 have f1 := fz 1
 have f2 := fz 2
 clear k2 fz
 go_wp2_with fail
 go_returns
 have h9 := xcK (HD.out w2 K2.out) mk mn _ ((HS.out w2 K2.out).drop mn (off + mn) hml (fun _ => rfl)) (Or.inr ⟨_, _, _, rfl⟩)
 exact ⟨rfl, _, h9.1, (K2.out.mono (fun _ _ h => h.elim)).trans h9.2⟩
set_option maxHeartbeats 4000000 in
theorem xjJ (db X off n cap : Nat) (mk : Int) (d : Dec) (cl : Bool) (w : World) (H : xaS w db (.slice (some ⟨X, off, none⟩) n cap) X d cl) (hs : d.sure = false) (ha : Hid (xb9 d.held = true))
 (hmk : Hid (xaE d.held = (mk, 0))) :
 Calls Tryz.prog 114 #[.pointer (some ⟨db, 0, none⟩), .bool false] w (SetE db X ⟨1, true, d.held.drop 0⟩ cl w) := by
 obtain ⟨c0, c1, c2, c3, fz, hlt⟩ := H.cells
 rw [hs] at c1
 have HSu := xmA (xbP H.hs (fun h => H.hs.lt h))
 have HMk := xmA (fun W (K : xaa (fun _ => False) w W) => xbR (H.hs.keeps K id))
 rw [hmk.out] at HMk
 have HD := xmA (fun W (K : xaa (fun _ => False) w W) => H.keeps K id (fun _ => id))
 have hml := xcQ d.held
 rw [hmk.out] at hml
 simp only at hml HMk
 obtain ⟨a', c', e', hcap, _⟩ := H.hs.form
 obtain ⟨rfl, rfl, rfl⟩ := Value.slice.inj e'
 have HS := xmA (fun W (K : xaa (fun _ => False) w W) => H.hs.keeps K id)
 clear fz hs H e'
 rw [ha.out] at HSu
 have hcz : ¬ cap = 0 ∨ cap = 0 := by omega
 go_enter Tryz.func114, Tryz.ntmps114
 go_wp2_with fail
 refine HSu.out.mono ?_
 rintro e w1 ⟨rfl, k1⟩
 have K1 := xmA k1
 have d2 := k1.cell c2 id
 clear k1
 go_wp2_with fail
 refine (HMk.out _ K1.out).mono ?_
 rintro e w2 ⟨rfl, k2⟩
 have K2 := xmA (K1.out.trans k2)
 have HD2 := xmA (HD.out w2 K2.out)
 obtain ⟨e0, e1, e2, e3, fz, _⟩ := HD2.out.cells
 have f0 := fz 0
 have f1 := fz 1
 have f2 := fz 2
 clear k2 fz
 go_wp2_with fail
 go_returns
 have h9 := xcK (HD.out w2 K2.out) 1 0 _ ((HS.out w2 K2.out).drop 0 off hml (fun _ => rfl)) (Or.inr ⟨_, _, _, rfl⟩)
 exact ⟨rfl, _, h9.1, (K2.out.mono (fun _ _ h => h.elim)).trans h9.2⟩
set_option maxHeartbeats 4000000 in
theorem xjI (db X off n cap : Nat) (mk : Int) (d : Dec) (cl : Bool) (w : World) (H : xaS w db (.slice (some ⟨X, off, none⟩) n cap) X d cl) (hs : d.sure = false) (ha : Hid (xb9 d.held = true))
 (hmk : Hid (xaE d.held = (mk, cap))) (h0 : 0 < cap) :
 Calls Tryz.prog 114 #[.pointer (some ⟨db, 0, none⟩), .bool false] w (SetE db X ⟨mk, true, d.held.drop cap⟩ cl w) := by
 obtain ⟨c0, c1, c2, c3, fz, hlt⟩ := H.cells
 rw [hs] at c1
 have HSu := xmA (xbP H.hs (fun h => H.hs.lt h))
 have HMk := xmA (fun W (K : xaa (fun _ => False) w W) => xbR (H.hs.keeps K id))
 rw [hmk.out] at HMk
 have HD := xmA (fun W (K : xaa (fun _ => False) w W) => H.keeps K id (fun _ => id))
 have hml := xcQ d.held
 rw [hmk.out] at hml
 simp only at hml HMk
 obtain ⟨a', c', e', hcap, _⟩ := H.hs.form
 obtain ⟨rfl, rfl, rfl⟩ := Value.slice.inj e'
 have HS := xmA (fun W (K : xaa (fun _ => False) w W) => H.hs.keeps K id)
 clear fz hs H e'
 have g0 : ((cap : Int) == 0) = false := by rw [beq_eq_false_iff_ne]; omega
 rw [ha.out] at HSu
 go_enter Tryz.func114, Tryz.ntmps114
 go_wp2_with fail
 refine HSu.out.mono ?_
 rintro e w1 ⟨rfl, k1⟩
 have K1 := xmA k1
 have d2 := k1.cell c2 id
 clear k1
 go_wp2_with fail
 refine (HMk.out _ K1.out).mono ?_
 rintro e w2 ⟨rfl, k2⟩
 have K2 := xmA (K1.out.trans k2)
 have HD2 := xmA (HD.out w2 K2.out)
 obtain ⟨e0, e1, e2, e3, fz, _⟩ := HD2.out.cells
 have f0 := fz 0
 have f1 := fz 1
 have f2 := fz 2
 clear k2 fz
 go_wp2_with fail
 go_returns
 have h9 := xcK (HD.out w2 K2.out) mk cap _ ((HS.out w2 K2.out).drop cap off hml (fun h => by omega)) (Or.inr ⟨_, _, _, rfl⟩)
 rw [show d.held.length - cap = 0 by omega, Nat.sub_self] at h9
 exact ⟨rfl, _, h9.1, (K2.out.mono (fun _ _ h => h.elim)).trans h9.2⟩
set_option maxHeartbeats 4000000 in
theorem xjH (db X off n cap mn : Nat) (mk : Int) (d : Dec) (cl : Bool) (w : World) (H : xaS w db (.slice (some ⟨X, off, none⟩) n cap) X d cl) (hs : d.sure = false) (ha : Hid (xb9 d.held = true))
 (hmk : Hid (xaE d.held = (mk, mn))) (h0 : 0 < mn) (hc : mn < cap) :
 Calls Tryz.prog 114 #[.pointer (some ⟨db, 0, none⟩), .bool false] w (SetE db X ⟨mk, true, d.held.drop mn⟩ cl w) := by
 obtain ⟨c0, c1, c2, c3, fz, hlt⟩ := H.cells
 rw [hs] at c1
 have HSu := xmA (xbP H.hs (fun h => H.hs.lt h))
 have HMk := xmA (fun W (K : xaa (fun _ => False) w W) => xbR (H.hs.keeps K id))
 rw [hmk.out] at HMk
 have HD := xmA (fun W (K : xaa (fun _ => False) w W) => H.keeps K id (fun _ => id))
 have hml := xcQ d.held
 rw [hmk.out] at hml
 simp only at hml HMk
 obtain ⟨a', c', e', hcap, _⟩ := H.hs.form
 obtain ⟨rfl, rfl, rfl⟩ := Value.slice.inj e'
 have HS := xmA (fun W (K : xaa (fun _ => False) w W) => H.hs.keeps K id)
 clear fz hs H e'
 have g0 : ((mn : Int) == 0) = false := by rw [beq_eq_false_iff_ne]; omega
 rw [ha.out] at HSu
 go_enter Tryz.func114, Tryz.ntmps114
 go_wp2_with fail
 refine HSu.out.mono ?_
 rintro e w1 ⟨rfl, k1⟩
 have K1 := xmA k1
 have d2 := k1.cell c2 id
 clear k1
 go_wp2_with fail
 refine (HMk.out _ K1.out).mono ?_
 rintro e w2 ⟨rfl, k2⟩
 have K2 := xmA (K1.out.trans k2)
 have HD2 := xmA (HD.out w2 K2.out)
 obtain ⟨e0, e1, e2, e3, fz, _⟩ := HD2.out.cells
 have f0 := fz 0
 have f1 := fz 1
 have f2 := fz 2
 clear k2 fz
 go_wp2_with fail
 go_returns
 have h9 := xcK (HD.out w2 K2.out) mk mn _ ((HS.out w2 K2.out).drop mn (off + mn) hml (fun _ => rfl)) (Or.inr ⟨_, _, _, rfl⟩)
 exact ⟨rfl, _, h9.1, (K2.out.mono (fun _ _ h => h.elim)).trans h9.2⟩
theorem xjK {db X : Nat} {d : Dec} {cl : Bool} {all : Bool} {w : World} (hs : d.sure = false) (ha : all = true ∨ xb9 d.held = true) : xal all d = ⟨if (xaE d.held).2 = 0 then 1 else (xaE d.held).1, true, d.held.drop (xaE d.held).2⟩ := by
 unfold xal
 rw [hs]
 rcases ha with rfl | ha
 · simp
 simp [ha]
set_option maxHeartbeats 4000000 in
theorem xg5 (db X : Nat) (v : Value) (d : Dec) (cl all : Bool) (w : World) (H : xaS w db v X d cl) (hs : d.sure = true) :
 Calls Tryz.prog 114 #[.pointer (some ⟨db, 0, none⟩), .bool all] w (SetE db X d cl w) := by
 obtain ⟨c0, c1, c2, c3, fz, hlt⟩ := H.cells
 rw [hs] at c1
 have HD := xmA H
 clear fz H hs
 go_enter Tryz.func114, Tryz.ntmps114
 go_wp2_with fail
 go_returns
 exact ⟨rfl, _, HD.out, xaa.refl _ _⟩
set_option maxHeartbeats 4000000 in
theorem xiE (db X : Nat) (v : Value) (d : Dec) (cl : Bool) (w : World) (H : xaS w db v X d cl) (hs : d.sure = false) (ha : xb9 d.held = false) :
 Calls Tryz.prog 114 #[.pointer (some ⟨db, 0, none⟩), .bool false] w (SetE db X d cl w) := by
 obtain ⟨c0, c1, c2, c3, fz, hlt⟩ := H.cells
 rw [hs] at c1
 have HSu := xmA (xbP H.hs (fun h => H.hs.lt h))
 rw [ha] at HSu
 have HD := xmA (fun W (K : xaa (fun _ => False) w W) => H.keeps K id (fun _ => id))
 clear fz H hs ha
 go_enter Tryz.func114, Tryz.ntmps114
 go_wp2_with fail
 refine HSu.out.mono ?_
 rintro e w1 ⟨rfl, k1⟩
 have K1 := xmA k1
 clear k1
 go_wp2_with fail
 go_returns
 exact ⟨rfl, _, HD.out _ K1.out, K1.out.mono (fun _ _ h => h.elim)⟩
theorem xdx (db X : Nat) (v : Value) (d : Dec) (cl all : Bool) (w : World) (H : xaS w db v X d cl) :
 Calls Tryz.prog 114 #[.pointer (some ⟨db, 0, none⟩), .bool all] w (SetE db X (xal all d) cl w) := by
 cases hs : d.sure with
 | true =>
  have : xal all d = d := by unfold xal; rw [hs]; rfl
  rw [this]; exact xg5 db X v d cl all w H hs
 | false =>
  by_cases ha : all = true ∨ xb9 d.held = true
  · rw [xjK (db := 0) (X := 0) (cl := cl) (w := w) hs ha]
    rcases H.fm with rfl | ⟨off, n, cap, rfl⟩
    · obtain ⟨a', c', e', hcap, _⟩ := H.hs.form
      have hd : d.held = [] := by
       have := (Value.slice.inj e').2.1
       exact List.length_eq_zero_iff.1 this.symm
      rcases ha with rfl | ha
      · have := xiF db X d cl w H hs hd
        rw [hd]; exact this
      rw [hd] at ha; exact absurd ha (by decide)
    obtain ⟨a', c', e', hcap, _⟩ := H.hs.form
    obtain ⟨_, hn, hcc⟩ := Value.slice.inj e'
    have hml := xcQ d.held
    cases all with
    | true =>
     by_cases h0 : (xaE d.held).2 = 0
     · have hm : xaE d.held = ((xaE d.held).1, 0) := by rw [← h0]
       rw [if_pos h0, h0]
       exact xjN db X off n cap _ d cl w H hs (xmA hm)
     rw [if_neg h0]
     by_cases hc : cap = (xaE d.held).2
     · rw [← hc]
       exact xjM db X off n cap _ d cl w H hs (xmA (by rw [hc])) (by omega)
     exact xjL db X off n cap _ _ d cl w H hs (xmA rfl) (by omega) (by omega)
    | false =>
     have ha : xb9 d.held = true := by simpa using ha
     by_cases h0 : (xaE d.held).2 = 0
     · have hm : xaE d.held = ((xaE d.held).1, 0) := by rw [← h0]
       rw [if_pos h0, h0]
       exact xjJ db X off n cap _ d cl w H hs (xmA ha) (xmA hm)
     rw [if_neg h0]
     by_cases hc : cap = (xaE d.held).2
     · rw [← hc]
       exact xjI db X off n cap _ d cl w H hs (xmA ha) (xmA (by rw [hc])) (by omega)
     exact xjH db X off n cap _ _ d cl w H hs (xmA ha) (xmA rfl) (by omega) (by omega)
  have hal : all = false := by
   cases all with
   | true => exact absurd (Or.inl rfl) ha
   | false => rfl
  subst hal
  have ha : xb9 d.held = false := by simpa using ha
  have : xal false d = d := by unfold xal; rw [hs, ha]; rfl
  rw [this]; exact xiE db X v d cl w H hs ha
set_option maxHeartbeats 2000000 in
theorem xfS (base b : Nat) (bs : List Value) (X off n cap : Nat) (l : List UInt8) (w : World) (h : Bld base b bs w) (hn : n = l.length) (hlen : bs.length + l.length ≤ 140737488355328) (hBw : base ≤ w.heap.size) (hX : X ≠ b)
 (hc : ∀ i x, l[i]? = some x → w.cell? ⟨X, off + i, none⟩ = some (.int .u8 (x.toNat : Int))) :
 Calls Tryz.prog 117 #[.pointer (some ⟨b, 0, none⟩), .slice (some ⟨X, off, none⟩) n cap] w fun e w' => e = .returned (.tuple #[.int .i64 n, .nilIface]) ∧ Bld base b (bs ++ Lib.byteCells l) w' ∧ xaa (fun k => k = b ∨ base ≤ k) w w' := by
 obtain ⟨i0, hi, hz0, hz1, hz2⟩ := info_parts xkq
 have hlt := h.lt
 go_enter Tryz.func117, Tryz.ntmps117
 go_wp2_with fail
 refine (xfL base b bs _ h).mono ?_
 rintro e w1 ⟨rfl, h1, hk1⟩
 obtain ⟨v, hbk, hown, hne⟩ := h1
 have c0 : w1.cell? ⟨b, 0, none⟩ = some (.pointer (some ⟨b, 0, none⟩)) := by rw [Lib.cell_of_heap hbk]; rfl
 have c1 : w1.cell? ⟨b, 1, none⟩ = some v := by rw [Lib.cell_of_heap hbk]; rfl
 have hs1 := hk1.size
 have hcw : ∀ (j : Nat) (u : Value), (Lib.byteCells l)[j]? = some u → w1.cell? ⟨X, off + j, none⟩ = some u := by
  intro j u hu
  unfold Lib.byteCells at hu
  rw [List.getElem?_map, Option.map_eq_some_iff] at hu
  obtain ⟨x, hx, rfl⟩ := hu
  exact hk1.cell (hc j x hx) hX
 have hcw2 : ∀ (j : Nat) (u : Value), (Lib.byteCells l)[j]? = some u → w1.cell? ((⟨X, off, none⟩ : Addr).add j) = some u := by
  intro j u hu
  have := hcw j u hu
  rcases j with _ | j
  · simpa [Addr.add] using this
  simpa [Addr.add] using this
 obtain ⟨va, vc, rfl⟩ := xad hown
 subst hn
 go_wp2_with (at_builtin; refine wpList_append_own _ rfl (.tmp 12) (.tmp 13) 22 rfl base 5 i0 (.int .u8 0) 1 1 Tryz.underlying22 hi hz0 hz1 hz2 rfl (by decide) _ _ _ rfl hown ⟨X, off, none⟩ l.length cap (Lib.byteCells l) rfl (by rw [Lib.byteCells_length]; omega) hcw2 (by intro u hu; unfold Lib.byteCells at hu; obtain ⟨x, _, rfl⟩ := List.mem_map.1 hu; rfl) ?c3 ?c4 ?c5 ?_)
 case c3 => unfold maxLen; omega
 case c4 => omega
 case c5 => omega
 intro v' w2 hown' hgrow _
 have hlt1 : b < w1.heap.size := by omega
 have hb2 : w2.heap[b]? = some (.cells #[.pointer (some ⟨b, 0, none⟩), .slice va bs.length vc] 181 (0, 0)) := by
  rw [hgrow.block b (by omega) (fun e => hne e.symm)]
  exact hbk
 have d0 : w2.cell? ⟨b, 0, none⟩ = some (.pointer (some ⟨b, 0, none⟩)) := by rw [Lib.cell_of_heap hb2]; rfl
 have d1 : w2.cell? ⟨b, 1, none⟩ = some (.slice va bs.length vc) := by rw [Lib.cell_of_heap hb2]; rfl
 have f1 : w2.frozen? ⟨b, 1, none⟩ = false := Lib.frozen_of_heap hb2 1
 have K2 : xaa (fun k => k = b ∨ base ≤ k) w w2 := ((hk1.mono (fun _ _ e => Or.inl e))).grown hgrow (fun k hk => Or.inl (Or.inr (xab hown k hk)))
 obtain ⟨va', vc', rfl⟩ := xad hown'
 go_wp2
 go_ret2
 exact ⟨rfl, (BldU.put rfl hb2 (by simpa [Lib.byteCells_length] using hown')).bld, K2.set (p := ⟨b, 1, none⟩) (Or.inl rfl) _⟩
theorem xkR {base b : Nat} {bs : List Value} {w : World} (h : Bld base b bs w) (B : Nat) (hB : B ≤ base) (hb : B ≤ b) : Lib.IsBuilderF 181 5 B b bs w := by
 obtain ⟨p, v, hp, h1, h2, h3⟩ := h
 have : w.ownsRow B 5 1 v bs.length bs := by
  obtain ⟨q1, q2⟩ := h2
  refine ⟨q1, ?_⟩
  rcases q2 with q2 | ⟨g, cap, cur, rfl, hg, hc⟩
  · exact Or.inl q2
  exact Or.inr ⟨g, cap, cur, rfl, Nat.le_trans hB hg, hc⟩
 have hF := World.ownsRowF_of this
 rcases hp with rfl | rfl
 · exact Or.inl ⟨hb, v, h1, hF, h3⟩
 exact Or.inr ⟨hb, v, h1, hF, h3⟩
end Go.Proofs.YtjahiihmoglpfaaGreatDoor
