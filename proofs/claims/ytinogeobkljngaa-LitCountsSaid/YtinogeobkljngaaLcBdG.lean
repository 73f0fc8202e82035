/-
  lit's borders.
-/
import Derived.Test.YtinogeobkljngaaMg6
import Derived.Test.YtinogeobkljngaaProg
import Derived.BigQuiet
import Derived.Deep.QuietTactic
import Derived.IntWalk
import Derived.Handy
namespace Go.Proofs.Ytinogeobkljngaa
open Go.RowKit
set_option linter.unusedVariables false
set_option linter.unusedSimpArgs false
set_option maxRecDepth 100000

theorem idxC {l : List UInt8} {i : Nat} {c : UInt8} (hc : l[i]? = some c) : ∀ (h : i < (⟨l.toArray⟩ : ByteArray).size), (⟨l.toArray⟩ : ByteArray)[i]'h = c := fun h => by
  have := (List.getElem?_eq_some_iff.1 hc).2
  simpa [ByteArray.getElem_eq_getElem_data] using this
def atB (l : List UInt8) (x : Nat) : UInt8 := l.getD x 0
theorem atB_some {l : List UInt8} {i : Nat} {c : UInt8} (hc : l[i]? = some c) : atB l i = c := by unfold atB; rw [List.getD_eq_getElem?_getD, hc]; rfl
/-- The numbers of the borders lie there. -/
structure BdAt (W : World) (g n : Nat) (b : Nat → Nat) : Prop where
  cell : ∀ j, j ≤ n → W.cell? ⟨g, j, none⟩ = some (.int .i64 (b j))
  frz : ∀ x, W.frozen? ⟨g, x, none⟩ = false
theorem BdAt.lt {W : World} {g n : Nat} {b : Nat → Nat} (h : BdAt W g n b) : g < W.heap.size := lt_of_cell (h.cell 0 (by omega))
theorem BdAt.keep {W W' : World} {g n : Nat} {b : Nat → Nat} (h : BdAt W g n b) (K : Keeps (fun _ => False) W W') : BdAt W' g n b :=
  ⟨fun j hj => K.cell (h.cell j hj) id, fun x => K.frozen (h.frz x) h.lt id⟩
theorem BdAt.set {W : World} {g n : Nat} {b : Nat → Nat} (h : BdAt W g n b) {j k : Nat} (hj : j ≤ n) : BdAt (W.setCell ⟨g, j, none⟩ (.int .i64 k)) g n (fun x => if x = j then k else b x) := by
  refine ⟨fun x hx => ?_, fun x => by rw [frozen_set]; exact h.frz x⟩
  by_cases hxj : x = j
  · subst hxj; simp only [if_pos]; exact cell_set_same (h.cell x hx)
  · rw [if_neg hxj, cell_set_other (by intro e; injection e with _ e; exact hxj e.symm)]; exact h.cell x hx
theorem info_intC : (Try.prog.info? 3).map (fun i => (i.zero, i.size, i.bytes)) = some (some (.int .i64 0), 1, 8) := by kernel_rfl
/-- At the outer loop's head: up to i. -/
def BdR (p : List UInt8) (w : World) (g : Nat) (kv iv : Value) (wr : World) : Prop :=
  ∃ (k i : Nat) (b : Nat → Nat), kv = .int .i64 k ∧ iv = .int .i64 i ∧ 1 ≤ i ∧ i ≤ p.length ∧ BdAt wr g p.length b ∧ (∀ j, 1 ≤ j → j ≤ i → Lgst p.length (atB p) (atB p) 1 j (b j)) ∧ b i = k ∧ (∀ j, i < j → b j = 0) ∧ Keeps (fun b => b = g) w wr
/-- Within. -/
def BdI (p : List UInt8) (wr : World) (i : Nat) (kv : Value) (wk : World) : Prop :=
  ∃ k : Nat, kv = .int .i64 k ∧ Inn p.length (atB p) (atB p) 1 i k ∧ Keeps (fun _ => False) wr wk
def BdE (p : List UInt8) (w : World) (e : Ending) (w' : World) : Prop :=
  ∃ g b, e = .returned (.slice (some ⟨g, 0, none⟩) (p.length + 1) (p.length + 1)) ∧ w.heap.size ≤ g ∧ BdAt w' g p.length b ∧ (∀ j, 1 ≤ j → j ≤ p.length → Lgst p.length (atB p) (atB p) 1 j (b j)) ∧ Keeps (fun _ => False) w w'
theorem bd_next {p : List UInt8} {w3 wk : World} {g i k' : Nat} {b : Nat → Nat} {kv iv : Value} (hB : BdAt wk g p.length b) (hL : ∀ j, 1 ≤ j → j ≤ i → Lgst p.length (atB p) (atB p) 1 j (b j))
    (hN : Lgst p.length (atB p) (atB p) 1 (i + 1) k') (h0 : ∀ j, i < j → b j = 0) (hK : Keeps (fun b => b = g) w3 wk) (hi : i < p.length) (hk : kv = .int .i64 k') (hiv : iv = .int .i64 ((i + 1 : Nat) : Int)) :
    BdR p w3 g kv iv (wk.setCell ⟨g, i + 1, none⟩ (.int .i64 k')) := by
  refine ⟨k', i + 1, _, hk, hiv, by omega, by omega, hB.set (by omega), fun j h1 h2 => ?_, by simp, fun j hj => ?_, hK.set (p := ⟨g, i + 1, none⟩) rfl _⟩
  · by_cases hj : j = i + 1
    · subst hj; simpa using hN
    · rw [if_neg hj]; exact hL j h1 (by omega)
  · rw [if_neg (by omega)]; exact h0 j (by omega)
set_option maxHeartbeats 4000000 in
theorem borders_any (p : List UInt8) (w : World) (h0 : 0 < p.length) (hp : p.length ≤ 1000) : Calls Try.prog 21 #[.string ⟨p.toArray⟩] w fun e w' => BdE p w e w' := by
  obtain ⟨i0, hi, hz0, hz1, hz2⟩ := info_parts info_intC
  go_enter Try.func21, Try.ntmps21
  go_wp2_with (at_make; refine wpList_make_full _ rfl _ _ 38 rfl w.heap.size 3 i0 _ 1 Try.underlying38 hi hz0 hz1 .i64 .i64 _ _ (p.length + 1) rfl rfl ?k1 ?k2 ?k3 ?k4 ?k5 ?_)
  case k1 => first | rfl | omega | (simp; done)
  case k2 => first | rfl | omega | (simp; done)
  case k3 => rw [hz2]; omega
  case k4 => unfold maxLen; omega
  case k5 => exact Nat.le_refl _
  intro w3 hown hg3
  have hk3 : Keeps (fun _ => False) w w3 := (Keeps.refl _ _).grown hg3 (by simp)
  have hB : BdAt w3 w.heap.size p.length (fun _ => 0) := by
    refine ⟨fun j hj => ?_, hown.frozenAt⟩
    rw [hown.cellAt j (by omega), toList_madeCells_one]
    simp [List.getElem?_replicate]; omega
  have HB := Lib.hid hB
  have HK := Lib.hid hk3
  clear hB hk3 hown hg3
  obtain ⟨g, hg⟩ : ∃ g, w.heap.size = g := ⟨_, rfl⟩
  have Hg := Lib.hid hg
  rw [hg] at HB ⊢
  clear hg
  go_wp2_with fail
  go_loopw [4, 5] (fun kv iv wr => BdR p w3 g kv iv wr) (fun _ iv _ => p.length + 1 - (intOf iv).toNat)
  case atStart => 
    refine ⟨0, 1, fun _ => 0, rfl, rfl, by omega, by omega, HB.out, ?_, rfl, fun _ _ => rfl, Keeps.refl _ _⟩
    intro j h1 h2
    obtain rfl : 1 = j := by omega
    exact Lgst.start _ _ _ _
  case round =>
    obtain ⟨k, i, b, rfl, rfl, hi1, hi2, hB, hL, hbi, hb0, hK⟩ := hrel
    by_cases hil : i < p.length
    · have hLi := hL i hi1 (Nat.le_refl _)
      rw [hbi] at hLi
      have hki := hLi.suf.1
      have HLi := Lib.hid hLi.inn
      have HB1 := Lib.hid hB
      have HL := Lib.hid hL
      have Hb0 := Lib.hid hb0
      have HK1 := Lib.hid hK
      obtain ⟨d, hd⟩ : ∃ d, p[i]? = some d := ⟨_, List.getElem?_eq_getElem hil⟩
      have hdi := idxC hd
      have Hd := Lib.hid (atB_some hd)
      have hid : decide ((i : Int) < (p.length : Int)) = true := by simpa using hil
      have hid0 : (i : Int) < (p.length : Int) := by omega
      obtain ⟨wR, hwR⟩ : ∃ W, W = wr := ⟨wr, rfl⟩
      subst hwR
      clear hd hLi hbi hB hL hb0 hK
      go_wp2_with fail
      go_loopw [4] (fun kv wk => BdI p wR i kv wk) (fun kv _ => (intOf kv).toNat)
      case atStart => exact ⟨k, rfl, HLi.out, Keeps.refl _ _⟩
      case round =>
        obtain ⟨k2, rfl, hI, hk2⟩ := hrel
        have hk2i := hI.suf.1
        have hk2l : k2 < p.length := by omega
        obtain ⟨c, hc⟩ : ∃ c, p[k2]? = some c := ⟨_, List.getElem?_eq_getElem hk2l⟩
        have hci := idxC hc
        have Hc := Lib.hid (atB_some hc)
        have HI := Lib.hid hI
        have HBk := Lib.hid (HB1.out.keep hk2)
        have HK2 := Lib.hid hk2
        have h1 : (k2 : Int) < (p.length : Int) := by omega
        clear hc hI hk2
        have hfr := HBk.out.frz
        have hcn := HBk.out.cell (i + 1) (by omega)
        have hix : (i : Int) + 1 < (p.length : Int) + 1 := by omega
        by_cases hcd : c = d
        · subst hcd
          have HN := Lib.hid (HI.out.hit hk2l (by rw [Hc.out, Hd.out]))
          by_cases hz : k2 = 0
          · subst hz
            go_wp2_with fail
            go_quiet (fail)
            go_wp2_with fail
            go_quiet (fail)
            go_wp2_with fail
            go_roundw
            case rel => exact bd_next (k' := 0 + 1) (HBk.out.keep ((Keeps.refl _ _).drawN _)) HL.out HN.out Hb0.out ((HK1.out.trans (HK2.out.mono (fun _ _ e => e.elim))).drawN _) hil (by go_num) (by go_num)
            case measure => simp [intOf]; omega
          · have hz0 : decide (0 < k2) = true := by simp; omega
            go_wp2_with fail
            go_quiet (fail)
            go_wp2_with fail
            go_quiet (fail)
            go_wp2_with fail
            go_roundw
            case rel => exact bd_next (k' := k2 + 1) (HBk.out.keep ((Keeps.refl _ _).drawN _)) HL.out HN.out Hb0.out ((HK1.out.trans (HK2.out.mono (fun _ _ e => e.elim))).drawN _) hil (by go_num) (by go_num)
            case measure => simp [intOf]; omega
        · have hne : ((c.toNat : Int) != (d.toNat : Int)) = true := by
            simp; intro e; exact hcd (UInt8.toNat_inj.1 (by omega))
          have hne2 : ((c.toNat : Int) == (d.toNat : Int)) = false := by
            simp; intro e; exact hcd (UInt8.toNat_inj.1 (by omega))
          by_cases hz : k2 = 0
          · subst hz
            have HN := Lib.hid (HI.out.miss (by rw [Hc.out, Hd.out]; exact hcd))
            go_wp2_with fail
            go_quiet (fail)
            go_wp2_with fail
            go_quiet (fail)
            go_wp2_with fail
            go_roundw
            case rel => exact bd_next (k' := 0) (HBk.out.keep ((Keeps.refl _ _).drawN _)) HL.out HN.out Hb0.out ((HK1.out.trans (HK2.out.mono (fun _ _ e => e.elim))).drawN _) hil (by go_num) (by go_num)
            case measure => simp [intOf]; omega
          · have hz0 : decide (0 < k2) = true := by simp; omega
            have hLk := HL.out k2 (by omega) (by omega)
            have hbk := hLk.suf.1
            have HS := Lib.hid (HI.out.step (by omega) (Or.inr (by rw [Hc.out, Hd.out]; exact hcd)) hLk)
            have hck := HBk.out.cell k2 (by omega)
            have hix2 : (k2 : Int) < (p.length : Int) + 1 := by omega
            clear hLk
            go_wp2_with fail
            go_quiet (fail)
            go_wp2_with fail
            go_roundw
            case rel => exact ⟨b k2, by go_num, HS.out, HK2.out.drawN _⟩
            case measure => simp [intOf]; omega
    · obtain rfl : i = p.length := by omega
      have hdn : decide ((p.length : Int) < (p.length : Int)) = false := by simp
      have HL := Lib.hid hL
      have HB1 := Lib.hid hB
      have HK1 := Lib.hid hK
      clear hL hB hK hb0 hbi
      go_wp2_with fail
      go_ret
      exact ⟨g, b, rfl, by rw [← Hg.out]; exact Nat.le_refl _, HB1.out, HL.out, HK.out.trans2 HK1.out (fun b hb e => by have := Hg.out; omega)⟩
end Go.Proofs.Ytinogeobkljngaa
