/-
  The parser's char, join.
-/
import Derived.Test.YtinogeobkljngaaDoorPaTr
import Derived.BigRegion
import Derived.Handy
namespace Go.Proofs.YtinogeobkljngaaDoor
open Go.RowKit
set_option linter.unusedVariables false
set_option linter.unusedSimpArgs false
set_option maxRecDepth 100000

theorem zero64 : in64 0 := by unfold in64; decide
theorem info_node : (Tryd.prog.info? 26).map (fun i => (i.zero, i.size, i.bytes)) = some (some (.agg #[.int .i64 0, .slice none 0 0, .int .i64 0, .int .i64 0, .slice none 0 0]), 5, 72) := by kernel_rfl
theorem char_any (a : Option Addr) (n cap : Nat) (w : World) : Calls Tryd.prog 52 #[.slice a n cap] w fun e w' => e = .returned (NV.val ⟨1, .slice a n cap, 0, 0, .slice none 0 0⟩) ∧ Keeps (fun _ => False) w w' := by
  go_enter Tryd.func52, Tryd.ntmps52
  go_wp2_with fail
  go_returns
  exact ⟨rfl, by (repeat' (with_reducible first | exact Keeps.refl _ _ | assumption | refine Keeps.drawN ?_ _ | refine Keeps.drew ?_ | refine Keeps.setCell ?_ ?_ _ | refine Keeps.alloc ?_ _)) <;> (first | exact Or.inr (Nat.le_refl _) | exact Or.inl rfl | exact Or.inl (Or.inl rfl) | exact Or.inl (Or.inr rfl) | (right; simp; done) | (right; simp; omega))⟩
def zeroT : T := ⟨0, [], 0, 0, .nil⟩
def charT (s : List (Int × Int)) : T := ⟨1, s, 0, 0, .nil⟩
def joinT (op : Int) (l : List T) : T :=
  match l with
  | [] => zeroT
  | [t] => t
  | l => ⟨op, [], 0, 0, F.ofL l⟩
theorem TAt.zero (w : World) (P : Nat → Prop) : TAt w P ⟨0, .slice none 0 0, 0, 0, .slice none 0 0⟩ zeroT :=
  ⟨rfl, rfl, rfl, by unfold in64; decide, by unfold in64; decide, ⟨SlOf.nil _ _ _, fun p hp => by cases hp⟩, fun b hb => by simp [Value.ownBlock] at hb, ⟨[], SlOf.nil _ _ _, rfl⟩, fun b hb => by simp [Value.ownBlock] at hb⟩
theorem RSl.form {w : World} {v : Value} {l : List (Int × Int)} (h : RSl w v l) : ∃ a cap, v = .slice a l.length cap := by
  obtain ⟨⟨a, cap, rfl, _⟩, _⟩ := h; exact ⟨a, cap, rfl⟩
theorem SlOf.form {α : Type} {k : Nat} {enc : α → Nat → Value} {w : World} {v : Value} {l : List α} (h : SlOf k enc w v l) : ∃ a cap, v = .slice a l.length cap := by
  obtain ⟨a, cap, rfl, _⟩ := h; exact ⟨a, cap, rfl⟩
set_option maxHeartbeats 1000000 in
theorem join_any (op : Int) (kv : Value) (vs : List NV) (l : List T) (P : Nat → Prop) (w : World) (hk : SlOf 5 encN w kv vs) (hf : FAt w P (F.ofL l) vs) (hb : ∀ b, kv.ownBlock = some b → P b) :
    Calls Tryd.prog 31 #[.int .i64 op, kv] w fun e w' => ∃ v : NV, e = .returned v.val ∧ TAt w' P v (joinT op l) ∧ Keeps (fun _ => False) w w' := by
  have hlen := hf.len
  obtain ⟨a, cap, rfl⟩ := hk.form
  rcases l with _ | ⟨t, _ | ⟨t2, l⟩⟩
  · obtain rfl : vs = [] := List.length_eq_zero_iff.1 hlen
    go_enter Tryd.func31, Tryd.ntmps31
    go_wp2_with fail
    go_returns
    exact ⟨⟨0, .slice none 0 0, 0, 0, .slice none 0 0⟩, rfl, TAt.zero _ _, by (repeat' (with_reducible first | exact Keeps.refl _ _ | assumption | refine Keeps.drawN ?_ _ | refine Keeps.drew ?_ | refine Keeps.setCell ?_ ?_ _ | refine Keeps.alloc ?_ _)) <;> (first | exact Or.inr (Nat.le_refl _) | exact Or.inl rfl | exact Or.inl (Or.inl rfl) | exact Or.inl (Or.inr rfl) | (right; simp; done) | (right; simp; omega))⟩
  · obtain ⟨v, rfl⟩ : ∃ v, vs = [v] := List.length_eq_one_iff.1 hlen
    obtain ⟨v', vs', he, ht, _⟩ := FAt.cons_iff.1 hf
    obtain ⟨rfl, rfl⟩ := List.cons.inj he
    obtain ⟨b, off, rfl, hc⟩ := (by obtain ⟨a', cap', he, _, _, hc⟩ := hk; obtain ⟨rfl, _, rfl⟩ := Value.slice.inj he; exact hc (by simp) : ∃ b off, a = some ⟨b, off, none⟩ ∧ ∀ i x, [v][i]? = some x → ∀ j, j < 5 → w.cell? ⟨b, off + i * 5 + j, none⟩ = some (encN x j))
    have x0 : w.cell? ⟨b, off, none⟩ = some (.int .i64 v.op) := by simpa [encN] using hc 0 v rfl 0 (by omega)
    have x1 : w.cell? ⟨b, off + 1, none⟩ = some v.sv := by simpa [encN] using hc 0 v rfl 1 (by omega)
    have x2 : w.cell? ⟨b, off + 2, none⟩ = some (.int .i64 v.mn) := by simpa [encN] using hc 0 v rfl 2 (by omega)
    have x3 : w.cell? ⟨b, off + 3, none⟩ = some (.int .i64 v.mx) := by simpa [encN] using hc 0 v rfl 3 (by omega)
    have x4 : w.cell? ⟨b, off + 4, none⟩ = some v.kv := by simpa [encN] using hc 0 v rfl 4 (by omega)
    clear hc
    have hlt : b < w.heap.size := lt_of_cell x0
    obtain ⟨vo, vsv, vm, vx, vk⟩ := v
    obtain ⟨a1, c1, e1⟩ := ht.set.form
    obtain ⟨ks, hks, _⟩ := ht.kids
    obtain ⟨a2, c2, e2⟩ := hks.form
    obtain rfl := e1
    obtain rfl := e2
    generalize ks.length = n2 at *
    generalize t.set.length = n1 at *
    have HT := Lib.hid ht
    clear ht hf hk hb hks
    go_enter Tryd.func31, Tryd.ntmps31
    go_wp2_with fail
    go_returns
    have K : Keeps (fun _ => False) w (w.alloc (.cells #[.int .i64 vo, .slice a1 n1 c1, .int .i64 vm, .int .i64 vx, .slice a2 n2 c2] 26)) := by (repeat' (with_reducible first | exact Keeps.refl _ _ | assumption | refine Keeps.drawN ?_ _ | refine Keeps.drew ?_ | refine Keeps.setCell ?_ ?_ _ | refine Keeps.alloc ?_ _)) <;> (first | exact Or.inr (Nat.le_refl _) | exact Or.inl rfl | exact Or.inl (Or.inl rfl) | exact Or.inl (Or.inr rfl) | (right; simp; done) | (right; simp; omega))
    exact ⟨_, rfl, HT.out.keepsTo K (fun _ _ => id) (fun _ h => h), K⟩
  · have hl2 : 2 ≤ vs.length := by rw [hlen]; simp
    have HK := Lib.hid hk
    have HF := Lib.hid hf
    have HB := Lib.hid hb
    have g1 : ((vs.length : Int) == 0) = false := beq_eq_false_iff_ne.2 (by omega)
    have g2 : ((vs.length : Int) == 1) = false := beq_eq_false_iff_ne.2 (by omega)
    clear hk hf hb hlen hl2
    generalize vs.length = N at *
    go_enter Tryd.func31, Tryd.ntmps31
    go_wp2_with fail
    go_returns
    have K : Keeps (fun _ => False) w (w.alloc (.cells #[.int .i64 op, .slice none 0 0, .int .i64 0, .int .i64 0, .slice a N cap] 26)) := by (repeat' (with_reducible first | exact Keeps.refl _ _ | assumption | refine Keeps.drawN ?_ _ | refine Keeps.drew ?_ | refine Keeps.setCell ?_ ?_ _ | refine Keeps.alloc ?_ _)) <;> (first | exact Or.inr (Nat.le_refl _) | exact Or.inl rfl | exact Or.inl (Or.inl rfl) | exact Or.inl (Or.inr rfl) | (right; simp; done) | (right; simp; omega))
    exact ⟨⟨op, .slice none 0 0, 0, 0, _⟩, rfl, ⟨rfl, rfl, rfl, zero64, zero64, ⟨SlOf.nil _ _ _, fun p hp => by cases hp⟩, fun b hb => by simp [Value.ownBlock] at hb, ⟨_, HK.out.keep K, HF.out.keepsTo K (fun _ _ => id) (fun _ h => h)⟩, HB.out⟩, K⟩
end Go.Proofs.YtinogeobkljngaaDoor
