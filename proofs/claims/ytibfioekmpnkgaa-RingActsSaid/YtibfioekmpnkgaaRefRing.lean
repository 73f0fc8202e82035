/-
  The reference's ring: a list of items in a block of its own.
-/
import Derived.Test.YtibfioekmpnkgaaRingSpec
import Derived.Test.YtibfioekmpnkgaaSetRef
import Derived.RegionTactic
namespace Go.Proofs.Ytibfioekmpnkgaa
open Go.RowKit
set_option linter.unusedVariables false
set_option linter.unusedSimpArgs false
set_option maxRecDepth 100000

/-- The reference at block wb: items ws, k places, the next ticket nx; A: the blocks of others. -/
structure RefAt (A : Nat → Prop) (w : World) (wb k nx : Nat) (ws : List ItemV) : Prop where
  ex : ∃ L, w.cell? ⟨wb, 0, none⟩ = some L ∧ SlOf 7 ItemV.cell w L ws ∧ ∀ b, L.ownBlock = some b → b ≠ wb ∧ ¬ A b
  c1 : w.cell? ⟨wb, 1, none⟩ = some (.int .i64 k)
  c2 : w.cell? ⟨wb, 2, none⟩ = some (.int .i64 nx)
  lt : wb < w.heap.size
  fr : ∀ o, w.frozen? ⟨wb, o, none⟩ = false
  wa : ¬ A wb
  old : ∀ b, A b → b < w.heap.size
theorem RefAt.keeps {A S : Nat → Prop} {w w' : World} {wb k nx : Nat} {ws : List ItemV} (h : RefAt A w wb k nx ws) (K : Keeps S w w') (hS : ∀ b, S b → A b) : RefAt A w' wb k nx ws := by
  obtain ⟨L, hL, hs, hb⟩ := h.ex
  exact ⟨⟨L, K.cell hL (fun e => h.wa (hS _ e)), hs.keeps K (fun b hb' hS' => (hb b hb').2 (hS b hS')), hb⟩, K.cell h.c1 (fun e => h.wa (hS _ e)), K.cell h.c2 (fun e => h.wa (hS _ e)),
    Nat.lt_of_lt_of_le h.lt K.size, fun o => K.frozen (h.fr o) h.lt (fun e => h.wa (hS _ e)), h.wa, fun b hb => Nat.lt_of_lt_of_le (h.old b hb) K.size⟩

/-- An item's cells, one by one. -/
theorem itm_cells {w : World} {L : Value} {ws : List ItemV} (h : SlOf 7 ItemV.cell w L ws) : ∃ a cap, L = .slice a ws.length cap ∧ ws.length ≤ cap ∧ (0 < ws.length → ∃ b off, a = some ⟨b, off, none⟩ ∧ ∀ i (x : ItemV), ws[i]? = some x → ∀ j, j < 7 → w.cell? ⟨b, off + i * 7 + j, none⟩ = some (x.cell j)) := by
  obtain ⟨a, cap, rfl, ⟨hl, hn⟩, hl2, hc⟩ := h
  exact ⟨a, cap, rfl, hl, fun h0 => hc h0⟩

def RoomR (ws : List ItemV) (n : Int) (w0 : World) (iv : Value) (wr : World) : Prop := ∃ i : Nat, iv = .int .i64 i ∧ i ≤ ws.length ∧ (ws.take i).any (fun y => decide (y.N = n)) = false ∧ wr = w0
theorem take_snoc_of' {α : Type} {l : List α} {i : Nat} {x : α} (h : l[i]? = some x) : l.take (i + 1) = l.take i ++ [x] := by rw [List.take_add_one, h]; rfl

theorem refRoom_any (A : Nat → Prop) (w : World) (wb k nx : Nat) (ws : List ItemV) (n : Int) (h : RefAt A w wb k nx ws) (hk : k ≤ 64) (hnx : nx ≤ 1000000) (hn : n ≤ 9223372036854775807) (hws : ws.length ≤ 1000) :
    Calls Try.prog 22 #[.pointer (some ⟨wb, 0, none⟩), .int .i64 n] w fun e w' => e = .returned (.bool (decide ((nx : Int) ≤ n ∧ n < nx + k) && !ws.any (fun y => decide (y.N = n)))) ∧ ∃ m, w' = w.drewN m := by
  obtain ⟨L, hL, hs, _⟩ := h.ex
  obtain ⟨a, cap, rfl, hlc, hc⟩ := itm_cells hs
  have c1 := h.c1
  have c2 := h.c2
  have Hc := Lib.hid hc
  clear hc hs h
  by_cases h1 : n < nx
  · have HV := Lib.hid (show (decide ((nx : Int) ≤ n ∧ n < nx + k) && !ws.any (fun y => decide (y.N = n))) = false by simp; omega)
    go_enter Try.func22, Try.ntmps22
    go_wp2_with fail
    go_quiet (fail)
    go_wp2_with fail
    go_ret
    exact ⟨by rw [HV.out]; rfl, _, rfl⟩
  have hw : IntKind.i64.wrap (n - nx) = n - nx := IntWalk.i64_in _ (by omega)
  have hw' : wrap64 (n - nx) = n - nx := by unfold wrap64; omega
  have h1' : decide (n < (nx : Int)) = false := by simp; omega
  by_cases h2 : (k : Int) ≤ n - nx
  · have HV := Lib.hid (show (decide ((nx : Int) ≤ n ∧ n < nx + k) && !ws.any (fun y => decide (y.N = n))) = false by simp; omega)
    go_enter Try.func22, Try.ntmps22
    go_wp2_with fail
    go_quiet (fail)
    go_wp2_with fail
    go_ret
    exact ⟨by rw [HV.out]; rfl, _, rfl⟩
  have h2' : decide ((k : Int) ≤ n - nx) = false := by simp; omega
  have HV := Lib.hid (show (decide ((nx : Int) ≤ n ∧ n < nx + k) && !ws.any (fun y => decide (y.N = n))) = !ws.any (fun y => decide (y.N = n)) by
    rw [show decide ((nx : Int) ≤ n ∧ n < nx + k) = true by simp; omega]; simp)
  go_enter Try.func22, Try.ntmps22
  go_wp2_with fail
  go_quiet (fail)
  go_wp2_with fail
  go_loopw [5] (fun iv wr => RoomR ws n (w.drewN nq) iv wr) (fun iv _ => ws.length - (intOf iv).toNat)
  case atStart => exact ⟨0, rfl, Nat.zero_le _, rfl, rfl⟩
  case round =>
    obtain ⟨i, rfl, hi, hno, rfl⟩ := hrel
    have Hno := Lib.hid hno
    clear hno
    by_cases hil : i < ws.length
    · obtain ⟨b, off, rfl, hcc⟩ := Hc.out (by omega)
      obtain ⟨y, hy⟩ : ∃ y, ws[i]? = some y := ⟨_, List.getElem?_eq_getElem hil⟩
      have d0 : w.cell? ⟨b, off + i * 7, none⟩ = some (.int .i64 y.N) := hcc i y hy 0 (by omega)
      have hsn := take_snoc_of' hy
      have Hy := Lib.hid hy
      have Hsn := Lib.hid hsn
      clear hcc hy hsn
      by_cases he : y.N = n
      · have hd : (y.N == n) = true := by simpa using he
        have HW := Lib.hid (show ws.any (fun y => decide (y.N = n)) = true from List.any_eq_true.2 ⟨y, List.mem_of_getElem? Hy.out, by simpa using he⟩)
        go_wp2_with fail
        go_ret
        exact ⟨by rw [HV.out, HW.out]; rfl, _, rfl⟩
      · have hd : (y.N == n) = false := by simpa using he
        go_wp2_with fail
        go_roundw
        case rel => exact ⟨i + 1, by go_num, by omega, by rw [Hsn.out, List.any_append, Hno.out]; simpa using he, rfl⟩
        case measure => simp [intOf]; omega
    · have ht : ws.take i = ws := List.take_of_length_le (by omega)
      go_wp2_with fail
      go_ret
      exact ⟨by rw [HV.out]; rw [← ht, Hno.out]; rfl, _, rfl⟩
end Go.Proofs.Ytibfioekmpnkgaa
