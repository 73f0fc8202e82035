/-
  TraceRows: the walk of trace.Share: a map that tells of each name how many marks it has. No condition.
-/
import Derived.Test.YtcgieejgmcgicaaGreatDoorTrC
import Derived.Maps.Own
import Derived.Maps.Views
import Derived.SliceStrings
namespace Go.Proofs.YtcgieejgmcgicaaGreatDoor
open Go.RowKit Go.WideMaps Go.Maps
set_option linter.unusedVariables false
set_option linter.unusedSimpArgs false
set_option maxRecDepth 100000

theorem keyLaw : Keyed Tryz.prog 9 := string_keyed Tryz.underlying9
theorem zeroInt (w : World) : (zeroValue 3).run Tryz.prog w = .ok (.int .i64 0) w := by kernel_rfl
/-- A map that tells of each name how many of the first k marks have it. -/
def Tells (l : List Mk) (D : DataW Unit) (k : Nat) : Prop := IsMap D ∧ ∀ s : ByteArray, D.atKey (.string s.data.toList) (.lit (.int .i64 0)) = .lit (.int .i64 (cnt (isAt l s) k))
theorem tells_zero (l : List Mk) : Tells l (.map []) 0 := ⟨⟨[], rfl⟩, fun s => rfl⟩
theorem tells_step {l : List Mk} {D : DataW Unit} {k : Nat} (h : Tells l D k) {c : Int} (hc : c = cnt (isAt l (whoAt l k)) k) :
    Tells l (D.put (.string (whoAt l k).data.toList) (.lit (.int .i64 (c + 1)))) (k + 1) := by
  refine ⟨?_, fun s => ?_⟩
  · obtain ⟨es, rfl⟩ := h.1
    exact ⟨_, rfl⟩
  · simp only [cnt]
    by_cases hs : s = whoAt l k
    · have hq : isAt l s k = true := by rw [hs]; simp [isAt]
      rw [hq, if_pos rfl, hs, atKey_put_same h.1 (by simp [WideAt.IsKeyLit]), hc]
      simp
    · have hq : isAt l s k = false := by
        simp only [isAt, beq_eq_false_iff_ne, ne_eq]
        intro e
        rw [ByteArray.toList_eq, ByteArray.toList_eq] at e
        exact hs (Go.WideShapes.bytes_inj e).symm
      rw [hq, atKey_put_other (by simp only [ne_eq, Lit.string.injEq]; intro e; exact hs (Go.WideShapes.bytes_inj e)), h.2 s]
      simp

set_option maxHeartbeats 2000000 in
theorem share_any (l : List Mk) (v : Value) (w : World) (h : MSl w v l) (hsz : ∀ m ∈ l, m.who.size ≤ maxLen) :
    Calls Tryz.prog 29 #[v] w fun e w' => ∃ D : DataW Unit, e = .returned (.map (some w.heap.size)) ∧ w'.ownsMap Tryz.prog 9 (plainElem Tryz.prog 3) w.heap.size l.length D ∧ Tells l D l.length ∧ Keeps (fun _ => False) w w' := by
  obtain ⟨a, cap, rfl, hl, hc⟩ := MSl.cells h
  have Hc := Lib.hid hc
  have hkeys : ∀ k, k < l.length → (whoAt l k).size ≤ maxLen := fun k hk => by
    have h1 : l[k]? = some l[k] := List.getElem?_eq_getElem hk
    have h2 : whoAt l k = l[k].who := by unfold whoAt; simp [List.getD, h1]
    rw [h2]; exact hsz _ (List.getElem_mem hk)
  have Hkeys := Lib.hid hkeys
  clear hc h hsz hkeys
  have hmm := @run_makeMap Tryz.prog
  go_enter Tryz.func29, Tryz.ntmps29
  go_wp2_with fail
  go_loopw [9] (fun i wr => ∃ (k : Nat) (D : DataW Unit), k ≤ l.length ∧ i = .int .i64 k ∧ wr.ownsMap Tryz.prog 9 (plainElem Tryz.prog 3) w.heap.size k D ∧ Tells l D k ∧ Keeps (fun _ => False) w wr) (fun i _ => l.length - (intOf i).toNat)
  case atStart => exact ⟨0, _, Nat.zero_le _, rfl, World.ownsMap_made _ _ _ _, tells_zero l, by (repeat' (with_reducible first | exact Keeps.refl _ _ | assumption | refine Keeps.drawN ?_ _ | refine Keeps.drew ?_ | refine Keeps.setCell ?_ ?_ _ | refine Keeps.alloc ?_ _)) <;> (first | exact Or.inr (Nat.le_refl _) | exact Or.inl rfl | exact Or.inl (Or.inl rfl) | exact Or.inl (Or.inr rfl) | (right; simp; done) | (right; simp; omega))⟩
  case round =>
    obtain ⟨k, D, hk, rfl, hown, hT, hkp⟩ := hrel
    by_cases hlt : k < l.length
    · obtain ⟨b, off, rfl, hb, hcc⟩ := Hc.out (by omega)
      obtain ⟨c0, ⟨n, c1⟩, c2⟩ := hcc k hlt
      clear hcc
      have d0 := hkp.cell c0 id
      have d1 := hkp.cell c1 id
      have d2 := hkp.cell c2 id
      clear c0 c1 c2
      have hkey : keyOf Tryz.prog 9 (.string (whoAt l k)) = some (.string (whoAt l k).data.toList) := keyOf_string_mk Tryz.underlying9 (Hkeys.out k hlt)
      have hown' := hown.alloc (.cells #[.string (whoAt l k), .int .i64 n, .int .i64 (causeAt l k)] 119)
      obtain ⟨c, hrun, hat, _⟩ := hown'.lookup_int keyLaw Tryz.underlying69 Tryz.underlying3 (zeroInt _) hkey
      have hcc : c = cnt (isAt l (whoAt l k)) k := by
        have := hT.2 (whoAt l k)
        rw [hat] at this
        simpa using this
      have hcl := cnt_le (isAt l (whoAt l k)) k
      have hT' := Lib.hid (tells_step hT hcc)
      have Hkp := Lib.hid hkp
      have hc0 : 0 ≤ c := by omega
      have hc1 : c ≤ l.length := by omega
      have Hown := Lib.hid hown'
      clear hat hT hcc hcl hown hown'
      go_wp2_with (first
        | (at_mapUpdate; refine wpList_mapUpdate_own _ rfl _ _ _ 69 rfl 9 3 keyLaw Tryz.underlying69 _ w.heap.size k _ rfl Hown.out (by unfold maxLen; omega) _ _ _ rfl rfl hkey _ [] (plainElem_int Tryz.underlying3 (WalkArith.wf_i64 (by omega))) ?_))
      intro w1 hown1 hgrow1
      have R2 : Keeps (fun _ => False) w w1 := (Hkp.out.alloc _).grown hgrow1 (fun j hj => by cases hj; exact Or.inr (Nat.le_refl _))
      clear hgrow1 hrun
      go_wp2_with fail
      go_roundw
      case rel => exact ⟨k + 1, _, by omega, by go_num, hown1, hT'.out, R2⟩
      case measure => (simp [intOf] <;> omega)
    · have : k = l.length := by omega
      subst this
      go_wp2_with fail
      go_ret
      exact ⟨D, rfl, hown, hT, hkp⟩
end Go.Proofs.YtcgieejgmcgicaaGreatDoor
