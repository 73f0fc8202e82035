/-
  reference 05's Texts: are two lists of texts the same?
-/
import Derived.Test.YtcgieejgmcgicaaGreatDoorStrL
import Derived.Test.YtcgieejgmcgicaaGreatDoorSetEnds
import Derived.BigQuiet
import Derived.Deep.QuietTactic
import Derived.Handy
namespace Go.Proofs.YtcgieejgmcgicaaGreatDoor
open Go.RowKit
set_option linter.unusedVariables false
set_option linter.unusedSimpArgs false
set_option maxRecDepth 100000

def encS (s : List UInt8) (j : Nat) : Value := strL s
def StrsAt (w : World) (v : Value) (l : List (List UInt8)) : Prop := SlOf 1 encS w v l
theorem encS_cells (l : List (List UInt8)) : cellsOf 1 encS l = l.map strL := by
  unfold cellsOf
  induction l with
  | nil => rfl
  | cons c t ih => rw [List.flatMap_cons, ih]; rfl
theorem StrsAt.ofOwn {w : World} {base : Nat} {e : TypeId} {v : Value} {l : List (List UInt8)} (h : w.ownsRow base e 1 v l.length (l.map strL)) (hl : l.length ≤ 4611686018427387904) : StrsAt w v l :=
  SlOf.ofOwn (by rw [encS_cells]; exact h) hl
theorem ba_eq {x y : List UInt8} : (⟨x.toArray⟩ : ByteArray) = ⟨y.toArray⟩ ↔ x = y := by
  constructor
  · intro h
    have := congrArg ByteArray.data h
    simpa using this
  · rintro rfl; rfl
theorem baNe {t s : ByteArray} (h : ¬ t = s) : (t.toList == s.toList) = false := by
  rw [ByteArray.toList_eq, ByteArray.toList_eq, beq_eq_false_iff_ne]
  intro e
  apply h
  obtain ⟨⟨a⟩⟩ := t
  obtain ⟨⟨b⟩⟩ := s
  simp at e; rw [e]
set_option maxHeartbeats 4000000 in
theorem texts_any (l m : List (List UInt8)) (a b : Value) (w : World) (ha : StrsAt w a l) (hb : StrsAt w b m) (hl : l.length ≤ 1000000000) :
    Calls Tryz.prog 40 #[a, b] w fun e w' => e = .returned (.bool (decide (l = m))) ∧ Keeps (fun _ => False) w w' := by
  obtain ⟨a, ac, rfl, ⟨a1, a2⟩, a3, a4⟩ := ha
  obtain ⟨b, bc, rfl, ⟨b1, b2⟩, b3, b4⟩ := hb
  have HA := Lib.hid a4
  have HB := Lib.hid b4
  clear a4 b4 a2 b2 a1 b1
  obtain ⟨q, hq⟩ : ∃ q, decide (l = m) = q := ⟨_, rfl⟩
  rw [hq]
  have HQ := Lib.hid hq
  clear hq
  by_cases hlm : l.length = m.length
  · have HL := Lib.hid hlm
    have g0 : ((l.length : Int) != (m.length : Int)) = false := by simp [hlm]
    clear hlm
    go_enter Tryz.func40, Tryz.ntmps40
    go_wp2_with fail
    go_loopw [5] (fun iv wr => ∃ i : Nat, iv = .int .i64 i ∧ i ≤ l.length ∧ l.take i = m.take i ∧ Keeps (fun _ => False) w wr) (fun iv _ => l.length - (intOf iv).toNat)
    case atStart => exact ⟨0, rfl, Nat.zero_le _, by simp, Keeps.refl _ _⟩
    case round =>
      obtain ⟨i, rfl, hi, he, hk⟩ := hrel
      have HE := Lib.hid he
      have HK := Lib.hid hk
      clear he
      by_cases hil : i < l.length
      · have him : i < m.length := by rw [← HL.out]; exact hil
        obtain ⟨x, hx⟩ : ∃ x, l[i]? = some x := ⟨_, List.getElem?_eq_getElem hil⟩
        obtain ⟨y, hy⟩ : ∃ y, m[i]? = some y := ⟨_, List.getElem?_eq_getElem him⟩
        obtain ⟨pb, po, rfl, hcc⟩ := HA.out (by omega)
        obtain ⟨qb, qo, rfl, hdd⟩ := HB.out (by omega)
        have c0 := hk.cell (hcc i x hx 0 (by omega)) id
        have c1 := hk.cell (hdd i y hy 0 (by omega)) id
        simp only [Nat.add_zero, Nat.mul_one, encS, strL] at c0 c1
        have H1 : Hid (l.take (i + 1) = l.take i ++ [x]) := Lib.hid (by rw [List.take_add_one, hx]; rfl)
        have H2 : Hid (m.take (i + 1) = m.take i ++ [y]) := Lib.hid (by rw [List.take_add_one, hy]; rfl)
        have HX := Lib.hid (And.intro hx hy)
        clear hcc hdd hx hy hk
        by_cases hxy : x = y
        · subst hxy
          have g1 : ((⟨x.toArray⟩ : ByteArray).toList == (⟨x.toArray⟩ : ByteArray).toList) = true := by simp
          go_wp2_with fail
          go_region
          go_wp2_with fail
          go_roundw
          case rel => exact ⟨i + 1, by go_num, by omega, by rw [H1.out, H2.out, HE.out], HK.out.drew⟩
          case measure => simp [intOf]; omega
        · have g1 : ((⟨x.toArray⟩ : ByteArray).toList == (⟨y.toArray⟩ : ByteArray).toList) = false := baNe (fun h => hxy (ba_eq.1 h))
          have g2 : ((⟨x.toArray⟩ : ByteArray).toList != (⟨y.toArray⟩ : ByteArray).toList) = true := by rw [bne, g1]; rfl
          have g4 : (x.toArray != y.toArray) = true := by rw [bne_iff_ne]; exact fun h => hxy (by simpa using h)
          have g5 : (x != y) = true := by rw [bne_iff_ne]; exact hxy
          have g6 : (x == y) = false := by rw [beq_eq_false_iff_ne]; exact hxy
          obtain rfl : false = q := by
            rw [← HQ.out]
            refine (decide_eq_false fun h => ?_).symm
            have h1 := HX.out.1
            rw [h, HX.out.2] at h1
            exact hxy (Option.some.inj h1).symm
          go_wp2_with fail
          go_region
          go_wp2_with fail
          go_ret
          exact ⟨rfl, HK.out.drew⟩
      · obtain rfl : i = l.length := by omega
        obtain rfl : true = q := by
          rw [← HQ.out]
          refine (decide_eq_true ?_).symm
          have h := HE.out
          rw [List.take_length, HL.out, List.take_length] at h
          exact h
        go_wp2_with fail
        go_ret
        exact ⟨rfl, HK.out⟩
  · have g0 : ((l.length : Int) != (m.length : Int)) = true := by simp; omega
    obtain rfl : false = q := by
      rw [← HQ.out]
      exact (decide_eq_false fun h => hlm (by rw [h])).symm
    go_enter Tryz.func40, Tryz.ntmps40
    go_wp2_with fail
    go_ret
    exact ⟨rfl, by (repeat' (with_reducible first | exact Keeps.refl _ _ | assumption | refine Keeps.drawN ?_ _ | refine Keeps.drew ?_ | refine Keeps.setCell ?_ ?_ _ | refine Keeps.alloc ?_ _)) <;> (first | exact Or.inr (Nat.le_refl _) | exact Or.inl rfl | exact Or.inl (Or.inl rfl) | exact Or.inl (Or.inr rfl) | (right; simp; done) | (right; simp; omega))⟩
end Go.Proofs.YtcgieejgmcgicaaGreatDoor
