/-
  GaugeDraws: the walk of gauge.Draw. No condition.
-/
import Derived.Test.YtcgieejgmcgicaaGreatDoorGdD
namespace Go.Proofs.YtcgieejgmcgicaaGreatDoor
open Go.RowKit
set_option linter.unusedVariables false
set_option linter.unusedSimpArgs false
set_option maxRecDepth 100000

theorem own_monoG {w : World} {base base' : Nat} {e : TypeId} {size : Nat} {v : Value} {n : Nat} {xs : List Value} (h : w.ownsRow base e size v n xs) (hb : base' ≤ base) : w.ownsRow base' e size v n xs := by
  refine ⟨h.1, ?_⟩
  rcases h.2 with h | ⟨g, cap, cur, h1, h2, h3⟩
  · exact Or.inl h
  · exact Or.inr ⟨g, cap, cur, h1, by omega, h3⟩
/-- The numbers within their ends, as far as i. -/
def clN (l : List Int) (i : Nat) : List Value := (List.range i).map fun j => Value.int .i64 (clAt l j : Int)
theorem clN_len (l : List Int) (i : Nat) : (clN l i).length = i := by simp [clN]
theorem clN_succ (l : List Int) (i : Nat) : clN l (i + 1) = clN l i ++ [Value.int .i64 (clAt l i : Int)] := by simp [clN, List.range_succ]
theorem clN_all (l : List Int) : clN l l.length = cellsOf 1 (fun (x : Int) (_ : Nat) => (Value.int .i64 x)) (clL l) := by
  refine List.ext_getElem? fun i => ?_
  have e : ∀ (m : List Int), cellsOf 1 (fun (x : Int) (_ : Nat) => (Value.int .i64 x)) m = m.map (Value.int .i64) := by
    intro m
    induction m with
    | nil => rfl
    | cons x m ih => simp [cellsOf, List.range_succ] at ih ⊢; exact ih
  rw [e]
  unfold clN clL clAt
  simp only [List.getElem?_map, List.getElem?_range]
  by_cases h : i < l.length
  · simp [h, List.getD, List.getElem?_eq_getElem h]
  · simp [h, List.getElem?_eq_none (Nat.le_of_not_lt h)]
def DrawE (l : List Int) (w : World) (e : Ending) (w' : World) : Prop :=
  ∃ u, e = .returned u ∧ w'.ownsRow w.heap.size 9 1 u l.length (linesN l (scaleN l l.length) l.length) ∧ Keeps (fun _ => False) w w'
set_option maxHeartbeats 4000000 in
theorem draw_any (l : List Int) (v : Value) (w : World) (h : ISl w v l) (hl : l.length ≤ 1000) (hin : ∀ x ∈ l, in64 x) (ht : TabW w) :
    Calls Tryz.prog 39 #[v] w (DrawE l w) := by
  obtain ⟨a, cap, rfl, hl2, hc⟩ := ISl.cells h
  have Hc := Lib.hid hc
  have HT := Lib.hid ht
  have HX := Lib.hid hin
  have HD : Hid (∀ wr v, wr.ownsRow w.heap.size 3 1 v l.length (clN l l.length) → Keeps (fun _ => False) w wr → Calls Tryz.prog 70 #[v] wr (DrawE l w)) := Lib.hid (by
    intro wr v hown hk
    have hs : ISl wr v (clL l) := SlOf.ofOwn (by rw [clL_len, ← clN_all]; exact hown) (by rw [clL_len]; omega)
    refine (drawn_any l v wr hs hl (ht.keeps hk)).mono ?_
    rintro e w' ⟨u, rfl, ho, k⟩
    exact ⟨u, rfl, own_monoG ho hk.size, hk.trans k⟩)
  unfold DrawE at HD ⊢
  generalize linesN l (scaleN l l.length) l.length = R at *
  clear hc h ht hin
  go_enter Tryz.func39, Tryz.ntmps39
  go_wp2_with fail
  go_loopw [3, 8] (fun ov i wr => ∃ m : Nat, m ≤ l.length ∧ i = .int .i64 m ∧ wr.ownsRow w.heap.size 3 1 ov m (clN l m) ∧ Keeps (fun _ => False) w wr) (fun _ i _ => l.length - (intOf i).toNat)
  case atStart => exact ⟨0, Nat.zero_le _, rfl, World.ownsRow_nil _ _ _ _, Keeps.refl _ _⟩
  case round =>
    obtain ⟨m, hm, rfl, hown, hk⟩ := hrel
    have HO := Lib.hid hown
    have HK := Lib.hid hk
    by_cases hlt : m < l.length
    · obtain ⟨b, off, rfl, hb, hcc⟩ := Hc.out (by omega)
      have c0 := hk.cell (hcc m hlt) id
      have hx : in64 (l.getD m 0) := HX.out _ (by rw [List.getD, List.getElem?_eq_getElem hlt]; exact List.getElem_mem hlt)
      unfold in64 at hx
      have HC : Hid (clAt l m = cl (l.getD m 0)) := Lib.hid rfl
      have HL := Lib.hid (clN_succ l m)
      have hll := clN_len l m
      generalize l.getD m 0 = x at *
      have HE : Hid (((clAt l m : Nat) : Int) = min (max x 0) 1099511627776) := Lib.hid (by rw [HC.out, cl_int])
      generalize clAt l m = C at *
      clear hcc hk hown
      go_wp2_with (at_builtin; refine wpList_one_int rfl _ _ rfl w _ _ _ rfl (by rw [hll]; exact HO.out) rfl (by omega) HK.out ?_)
      all_goals
        intro v' w3 hown' hk3
        go_wp2_with fail
        go_roundw
        case rel =>
          refine ⟨m + 1, by omega, by go_num, ?_, hk3⟩
          rw [HL.out]
          first
            | (rw [HE.out]; simpa [hll] using hown')
            | (rw [show ((C : Nat) : Int) = 0 by have := HE.out; omega]; simpa [hll] using hown')
            | (rw [show ((C : Nat) : Int) = 1099511627776 by have := HE.out; omega]; simpa [hll] using hown')
            | (rw [show ((C : Nat) : Int) = x by have := HE.out; omega]; simpa [hll] using hown')
        case measure => (simp [intOf] <;> omega)
    · have : m = l.length := by omega
      subst this
      go_wp2_with fail
      refine (HD.out _ _ HO.out HK.out).mono ?_
      rintro e w' ⟨u, rfl, ho, k⟩
      go_wp2_with fail
      go_ret
      exact ⟨_, rfl, ho, k⟩
end Go.Proofs.YtcgieejgmcgicaaGreatDoor
