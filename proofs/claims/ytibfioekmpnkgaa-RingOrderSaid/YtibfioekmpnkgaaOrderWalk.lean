/-
  The walk of the statement RingOrder.
-/
import Derived.Test.YtibfioekmpnkgaaRingOrder
import Derived.Deep.LoopGhost
namespace Go.Proofs.Ytibfioekmpnkgaa
open Go.RowKit
set_option linter.unusedVariables false
set_option linter.unusedSimpArgs false
set_option maxRecDepth 100000

/-- The part behind the guard. -/
theorem order_main (n : Int) (a0 : Option Addr) (len cap : Nat) (ps : Nat → Int) (w : World) (hl : len ≤ 100)
    (hc : 0 < len → ∃ b off, a0 = some ⟨b, off, none⟩ ∧ ∀ i < len, w.cell? ⟨b, off + i, none⟩ = some (.int .u8 (ps i))) (hp : ∀ i < len, 0 ≤ ps i ∧ ps i ≤ 255) :
    Calls Try.prog 3 #[.int .i64 n, .slice a0 len cap] w fun e w' => e = .returned (.bool true) ∧ Keeps (fun _ => False) w w' := by
  have Hc := Lib.hid hc
  have Hp := Lib.hid hp
  clear hc hp
  have hl1 : decide ((100 : Int) < (len : Int)) = false := by simp; omega
  obtain ⟨i0, hi, hz0, hz1, hz2⟩ := info_parts (P := Try.prog) (e := 4) (z := .bool false) (size := 1) (bytes := 1) (by kernel_rfl)
  have ht1 : -64 < n.tmod 64 := Int.lt_tmod_of_pos n (by decide)
  have ht2 : n.tmod 64 < 64 := Int.tmod_lt_of_pos n (by decide)
  go_enter Try.func3, Try.ntmps3
  go_wp2_with fail
  refine (awake_any _).mono ?_
  rintro e w1 ⟨rfl, hk1⟩
  go_wp2_with fail
  obtain ⟨k, hk0, hk64, hk⟩ : ∃ k : Nat, 1 ≤ k ∧ k ≤ 64 ∧ 1 + n.tmod 64 % 64 = (k : Int) := ⟨(1 + n.tmod 64 % 64).toNat, by omega, by omega, by omega⟩
  rw [hk]
  have Hk := Lib.hid hk
  clear hk
  refine (new_ok k _ hk0 hk64).mono ?_
  rintro e w2 ⟨rb, pb, rfl, hR, hrb, hpb, hk2⟩
  go_wp2_with (at_make; refine wpList_make_full _ rfl _ _ 28 rfl w2.heap.size 4 i0 _ 1 Try.underlying28 hi hz0 hz1 .i64 .i64 _ _ (200 + k) rfl rfl ?k1 ?k2 ?k3 ?k4 ?k5 ?_)
  case k1 => omega
  case k2 => omega
  case k3 => rw [hz2]; omega
  case k4 => unfold maxLen; omega
  case k5 => exact Nat.le_refl _
  intro w3 hown hg3
  have hlt : w2.heap.size < w3.heap.size := by
    rcases hown.2 with ⟨h, _⟩ | ⟨g, cap, cur, h, _, hh, _⟩
    · simp at h
    · simp at h; obtain ⟨⟨rfl, _⟩, _⟩ := h; exact (Array.getElem?_eq_some_iff.1 hh).1
  have hk3 : Keeps (fun _ => False) w2 w3 := (Keeps.refl _ _).grown hg3 (by simp)
  have hO : Ord w3 rb pb w2.heap.size k 0 [] (fun _ j => emptyPlc j) := by
    refine ⟨hR.keeps hk3 id id, ?_, by simp, by simp, List.nodup_nil, ?_, hown.frozenAt, hlt, Nat.ne_of_gt hR.lr, Nat.ne_of_gt hR.lp⟩
    · intro t _ _; simp [emptyPlc, plc]
    · intro t ht
      rw [hown.cellAt t (by omega), toList_madeCells_one]
      simp [ht]
  have hkw : Keeps (fun _ => False) w w3 := (hk1.trans hk2).trans hk3
  have hs2 : w.heap.size ≤ w2.heap.size := Nat.le_trans hk1.size hk2.size
  have hrb' : w.heap.size ≤ rb := Nat.le_trans hk1.size hrb
  have hpb' : w.heap.size ≤ pb := Nat.le_trans hk1.size hpb
  clear hR hown hg3 hk3 hk2 hk1 hlt hrb hpb
  generalize hqb : w2.heap.size = qb at *
  clear hqb
  go_wp2_with fail
  go_loopw [8, 10] (fun gv iv wr => ∃ (i given : Nat) (L : List Nat) (g : Nat → Nat → Value), gv = .int .i64 given ∧ iv = .int .i64 i ∧ i ≤ len ∧ given + L.length ≤ i ∧ given ∉ L ∧ Ord wr rb pb qb k given L g ∧ Keeps (fun _ => False) w wr)
    (fun _ iv _ => len - (intOf iv).toNat)
  case atStart => exact ⟨0, 0, [], _, rfl, rfl, Nat.zero_le _, by simp, by simp, hO, hkw⟩
  case round =>
    obtain ⟨i, given, L, g, rfl, rfl, hi1, hgl, hgn, hO, hkw⟩ := hrel
    by_cases hil : i < len
    · obtain ⟨b, off, rfl, hcc⟩ := Hc.out (by omega)
      have hci := hkw.cell (hcc i hil) id
      clear hcc
      have hpi := Hp.out i hil
      obtain ⟨hp0, hp1⟩ := hpi
      obtain ⟨d, hd⟩ : ∃ d : Nat, ps i % (k : Int) = (d : Int) := ⟨(ps i % (k : Int)).toNat, by have := Int.emod_nonneg (ps i) (b := (k : Int)) (by omega); omega⟩
      have hdk : d < k := by have := Int.emod_lt_of_pos (ps i) (b := (k : Int)) (by omega); omega
      go_wp2_with fail
      refine (hO.callPut hdk (by omega)).mono ?_
      rintro e w' ⟨ev, pt, L1, g1, rfl, hev, hcq, hfq, hO1, hL1, hk1⟩
      have hkw1 : Keeps (fun _ => False) w (w'.setCell ⟨qb, given + d, none⟩ (.bool true)) := (hkw.trans2 hk1 (fun i hi h => by omega)).setNew (by simpa using hs2) _
      clear hO hkw hk1 hci hgn
      rcases hev with ⟨rfl, rfl⟩ | ⟨rfl, rfl⟩
      all_goals
        go_wp2_with fail
        generalize w'.setCell ⟨qb, given + d, none⟩ (.bool true) = w4 at *
        clear hcq hfq
        go_loopg [8] L1.length (fun m gv wq => ∃ (gn : Nat) (L : List Nat) (g : Nat → Nat → Value), gv = .int .i64 gn ∧ m = L.length ∧ Ord wq rb pb qb k gn L g ∧ gn + L.length ≤ i + 1 ∧ Keeps (fun _ => False) w wq)
        case atStart => exact ⟨given, L1, g1, rfl, rfl, hO1, by omega, hkw1⟩
        case round =>
          obtain ⟨gn, L, g, rfl, rfl, hO, hgl2, hkw⟩ := hrel
          have hmg : ((gn : Int) % (k : Int)).toNat = gn % k := toNat_mod _ _
          have hus := hO.used gn (Nat.le_refl _) (by omega)
          go_wp2_with fail
          refine (ready_any rb pb k gn g _ _ _ hO.ring hmg hus).mono ?_
          rintro e w5 ⟨rfl, m5, rfl⟩
          by_cases hin : gn ∈ L
          · have hdin : decide (gn ∈ L) = true := by simp [hin]
            rw [hdin]
            rw [hdin] at hus
            obtain ⟨e0, e1, e2, e3, e4, e5, e6⟩ := hO.item gn hin
            have HO := Lib.hid (And.intro hO hkw)
            go_wp2_with fail
            refine (next_yes rb pb k gn g _ _ gn (gn + 7 : Nat) 0 0 ⟨#[]⟩ none 0 0 0 (hO.ring.drawN _) hmg (by omega) e0 e1 e2 e3 e4 e5 e6 hus).mono ?_
            rintro e w6 ⟨rfl, hR6, hk6⟩
            have hO6 := (hO.keeps (S := fun _ => False) ((Keeps.refl _ _).drawN m5) id id id).given hin rfl hR6 hk6
            have hkw6 : Keeps (fun _ => False) w w6 := (hkw.drawN m5).trans2 hk6 (fun i hi h => by omega)
            have hpq : ∀ o, (w6.alloc o).cell? ⟨qb, gn, none⟩ = some (.bool true) := by
              intro o
              refine alloc_cell ?_ o
              rw [hO6.put gn (by omega)]; simp
            have hlen : (L.erase gn).length = L.length - 1 := List.length_erase_of_mem hin
            have hlp : 0 < L.length := List.length_pos_of_mem hin
            clear hO hO1 e0 e1 e2 e3 e4 e5 e6 hus hR6 hkw hk6
            go_wp2_with fail
            go_roundg (L.length - 1)
            case measure => omega
            case rel => exact ⟨gn + 1, L.erase gn, _, by go_num, hlen.symm, hO6.keeps (S := fun _ => False) ((Keeps.refl _ _).alloc _) id id id, by omega, hkw6.alloc _⟩
          · have hdin : decide (gn ∈ L) = false := by simp [hin]
            rw [hdin]
            have hpq : wr.cell? ⟨qb, gn, none⟩ = some (.bool false) := by
              rw [hO.put gn (by omega)]; simp [hin]
            go_wp2_with fail
            refine (ticket_any rb pb k gn g _ (hO.ring.drawN _)).mono ?_
            rintro e w7 ⟨rfl, rfl⟩
            go_wp2_with fail
            go_roundw
            case rel => exact ⟨i + 1, gn, L, g, rfl, by go_num, by omega, hgl2, hin, hO.keeps (S := fun _ => False) ((Keeps.refl _ _).drawN _) id id id, hkw.drawN _⟩
            case measure => simp [intOf]; omega
    · go_wp2
      go_ret
      exact ⟨rfl, hkw⟩
end Go.Proofs.Ytibfioekmpnkgaa
