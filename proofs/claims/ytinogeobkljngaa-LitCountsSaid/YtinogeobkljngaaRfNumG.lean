/-
  The document's number.
-/
import Derived.Test.YtinogeobkljngaaPaSimMG
import Derived.Handy
namespace Go.Proofs.Ytinogeobkljngaa
open Go.RowKit
set_option linter.unusedVariables false
set_option linter.unusedSimpArgs false
set_option maxRecDepth 100000

/-- A slice of numbers that is read. -/
def ISl (w : World) (v : Value) (l : List Int) : Prop := SlOf 1 encI w v l ∧ ∀ r ∈ l, 0 ≤ r ∧ r ≤ 1114111
theorem ISl.keep {w w' : World} {v : Value} {l : List Int} (h : ISl w v l) (K : Keeps (fun _ => False) w w') : ISl w' v l := ⟨h.1.keep K, h.2⟩
theorem ISl.cells {w : World} {v : Value} {l : List Int} (h : ISl w v l) : ∃ a cap, v = .slice a l.length cap ∧ l.length ≤ cap ∧ (0 < l.length → ∃ b off, a = some ⟨b, off, none⟩ ∧ ∀ i r, l[i]? = some r → w.cell? ⟨b, off + i, none⟩ = some (.int .i64 r) ∧ 0 ≤ r ∧ r ≤ 1114111) := by
  obtain ⟨⟨a, cap, rfl, ⟨h1, _⟩, h2, h3⟩, h4⟩ := h
  refine ⟨a, cap, rfl, h1, fun h0 => ?_⟩
  obtain ⟨b, off, rfl, hc⟩ := h3 h0
  exact ⟨b, off, rfl, fun i r hr => ⟨by simpa [encI] using hc i r hr 0 (by omega), h4 r (List.mem_of_getElem? hr)⟩⟩
def RNumR (l : List Int) (w : World) (nv kv : Value) (wr : World) : Prop :=
  w = wr ∧ ((nv = .int .i64 0 ∧ kv = .int .i64 0) ∨ (∃ a t, l = a :: t ∧ dig a = true ∧ nv = .int .i64 (a - 48) ∧ kv = .int .i64 1) ∨ (∃ a b t, l = a :: b :: t ∧ dig a = true ∧ dig b = true ∧ nv = .int .i64 ((a - 48) * 10 + b - 48) ∧ kv = .int .i64 2))
theorem num0_two {a b : Int} {t : List Int} (h : dig a = true) : num0 (a :: b :: t) = if dig b then ((a - 48) * 10 + b - 48, 2) else (a - 48, 1) := by rw [num0_cons, if_pos h]
theorem dig_iff (a : Int) : dig a = true ↔ 48 ≤ a ∧ a ≤ 57 := by unfold dig; simp
set_option maxHeartbeats 4000000 in
theorem rnumber_any (l : List Int) (v : Value) (w : World) (h : ISl w v l) : Calls Try.prog 37 #[v] w fun e w' => e = .returned (.tuple #[.int .i64 (numP l).1, .int .i64 (numP l).2]) ∧ w = w' := by
  obtain ⟨a, cap, rfl, hcap, hc⟩ := h.cells
  clear h
  have HN : Hid (numP l = if 50 < (num0 l).1 then (0, 0) else num0 l) := Lib.hid rfl
  generalize numP l = q at *
  go_enter Try.func37, Try.ntmps37
  go_wp2_with fail
  go_loopw [4, 5] (fun nv kv wr => RNumR l w nv kv wr) (fun _ kv _ => 3 - (intOf kv).toNat)
  case atStart => exact ⟨rfl, Or.inl ⟨rfl, rfl⟩⟩
  case round =>
    obtain ⟨rfl, hrel⟩ := hrel
    rcases hrel with ⟨rfl, rfl⟩ | ⟨a0, t, rfl, hd, rfl, rfl⟩ | ⟨a0, b0, t, rfl, hd, he, rfl, rfl⟩
    · rcases l with _ | ⟨r0, l⟩
      · have E : Hid (q = (0, 0)) := Lib.hid HN.out
        clear HN hc
        go_wp2_with fail
        go_ret2
        exact ⟨by rw [E.out]; rfl, rfl⟩
      · obtain ⟨b, off, rfl, hcc⟩ := hc (by simp)
        obtain ⟨c0, c1, c2⟩ := hcc 0 r0 rfl
        simp only [Nat.add_zero] at c0
        simp only [List.length_cons] at *
        have g0 : decide ((0 : Int) < ((l.length + 1 : Nat) : Int)) = true := by simp <;> omega
        cases hd : dig r0
        · have E : Hid (q = (0, 0)) := Lib.hid (by rw [HN.out, num0_cons, hd]; rfl)
          have hd' : ¬ (48 ≤ r0 ∧ r0 ≤ 57) := fun h => by rw [(dig_iff r0).2 h] at hd; cases hd
          clear HN hc hcc hd
          by_cases h1 : 48 ≤ r0
          · have g1 : decide (48 ≤ r0) = true := by simpa using h1
            have g2 : decide (r0 ≤ 57) = false := by simp; omega
            go_wp2_with fail
            go_ret2
            exact ⟨by rw [E.out]; rfl, rfl⟩
          · have g1 : decide (48 ≤ r0) = false := by simpa using h1
            go_wp2_with fail
            go_ret2
            exact ⟨by rw [E.out]; rfl, rfl⟩
        · obtain ⟨h1, h2⟩ := (dig_iff r0).1 hd
          have g1 : decide (48 ≤ r0) = true := by simpa using h1
          have g2 : decide (r0 ≤ 57) = true := by simpa using h2
          clear hc hcc
          go_wp2_with fail
          go_roundw
          case rel => exact ⟨by trivial, Or.inr (Or.inl ⟨r0, l, rfl, hd, by go_num, rfl⟩)⟩
          case measure => simp [intOf]
    · obtain ⟨h1, h2⟩ := (dig_iff a0).1 hd
      rcases t with _ | ⟨r1, t⟩
      · have E : Hid (q = (a0 - 48, 1)) := Lib.hid (by rw [HN.out, num0_cons, hd]; show (if 50 < a0 - 48 then _ else _) = _; rw [if_neg (by omega)]; rfl)
        have g5 : decide (50 < a0 - 48) = false := by simp; omega
        clear HN hc
        go_wp2_with fail
        go_ret2
        exact ⟨by rw [E.out]; rfl, rfl⟩
      · obtain ⟨b, off, rfl, hcc⟩ := hc (by simp)
        obtain ⟨c0, c1, c2⟩ := hcc 1 r1 rfl
        simp only [List.length_cons] at *
        have g0 : decide ((1 : Int) < ((t.length + 1 + 1 : Nat) : Int)) = true := by simp <;> omega
        cases he : dig r1
        · have E : Hid (q = (a0 - 48, 1)) := Lib.hid (by rw [HN.out, num0_two hd, he]; show (if 50 < a0 - 48 then _ else _) = _; rw [if_neg (by omega)]; rfl)
          have g5 : decide (50 < a0 - 48) = false := by simp; omega
          have hd' : ¬ (48 ≤ r1 ∧ r1 ≤ 57) := fun h => by rw [(dig_iff r1).2 h] at he; cases he
          clear HN hc hcc he
          by_cases h3 : 48 ≤ r1
          · have g1 : decide (48 ≤ r1) = true := by simpa using h3
            have g2 : decide (r1 ≤ 57) = false := by simp; omega
            go_wp2_with fail
            go_ret2
            exact ⟨by rw [E.out]; rfl, rfl⟩
          · have g1 : decide (48 ≤ r1) = false := by simpa using h3
            go_wp2_with fail
            go_ret2
            exact ⟨by rw [E.out]; rfl, rfl⟩
        · obtain ⟨h3, h4⟩ := (dig_iff r1).1 he
          have g1 : decide (48 ≤ r1) = true := by simpa using h3
          have g2 : decide (r1 ≤ 57) = true := by simpa using h4
          clear hc hcc
          go_wp2_with fail
          go_roundw
          case rel => exact ⟨by trivial, Or.inr (Or.inr ⟨a0, r1, t, rfl, hd, he, by go_num, rfl⟩)⟩
          case measure => simp [intOf]
    · obtain ⟨h1, h2⟩ := (dig_iff a0).1 hd
      obtain ⟨h3, h4⟩ := (dig_iff b0).1 he
      have HN2 : Hid (q = if 50 < (a0 - 48) * 10 + b0 - 48 then (0, 0) else ((a0 - 48) * 10 + b0 - 48, 2)) := Lib.hid (by rw [HN.out, num0_two hd, he]; rfl)
      clear HN hc
      generalize (a0 - 48) * 10 + b0 - 48 = n at *
      by_cases h5 : 50 < n
      · have g5 : decide (50 < n) = true := by simpa using h5
        have E : Hid (q = (0, 0)) := Lib.hid (by rw [HN2.out, if_pos h5])
        clear HN2
        go_wp2_with fail
        go_ret2
        exact ⟨by rw [E.out]; rfl, rfl⟩
      · have g5 : decide (50 < n) = false := by simpa using h5
        have E : Hid (q = (n, 2)) := Lib.hid (by rw [HN2.out, if_neg h5])
        clear HN2
        go_wp2_with fail
        go_ret2
        exact ⟨by rw [E.out]; rfl, rfl⟩
end Go.Proofs.Ytinogeobkljngaa
