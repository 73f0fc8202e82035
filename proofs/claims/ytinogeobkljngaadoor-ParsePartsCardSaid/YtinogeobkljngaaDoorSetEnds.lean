/-
  The walk of reedbedref08.Ends: some numbers, all within the set's bounds.
-/
import Derived.Test.YtinogeobkljngaaDoorSetRef
import Derived.Deep.LoopGhost
import Derived.RegionTactic
namespace Go.Proofs.YtinogeobkljngaaDoor
open Go.RowKit
set_option linter.unusedVariables false
set_option linter.unusedSimpArgs false
set_option maxRecDepth 100000

theorem info_int : (Tryd.prog.info? 3).map (fun i => (i.zero, i.size, i.bytes)) = some (some (.int .i64 0), 1, 8) := by kernel_rfl

/-- An owned row of three or more is not the block of two. -/
theorem own_ne {w : World} {base : Nat} {e : TypeId} {v : Value} {n : Nat} {xs : List Value} (h : w.ownsRow base e 1 v n xs) (h3 : 3 ≤ n) {b : Nat} {cs : Array Value} {T : TypeId} (hb : w.heap[b]? = some (.cells cs T (0, 0))) (hcs : cs.size = 2) : ∀ g, v.ownBlock = some g → g ≠ b := by
  rintro g hg rfl
  rcases h.2 with ⟨rfl, _⟩ | ⟨g', cap, cur, rfl, _, hh, hn, _, hsz, _⟩
  · simp [Value.ownBlock] at hg
  · simp [Value.ownBlock] at hg
    subst hg
    rw [hb] at hh
    simp at hh
    obtain ⟨⟨rfl, _⟩, _⟩ := hh
    omega

def OutR (w0 wr : World) (u : Value) (es : List Int) (bound : Nat) : Prop :=
  wr.ownsRow w0.heap.size 3 1 u es.length (es.map (Value.int .i64)) ∧ es.length ≤ bound ∧ 2 ≤ es.length ∧ (∀ x ∈ es, 0 ≤ x ∧ x ≤ 1114111) ∧ Keeps (fun _ => False) w0 wr

theorem own_lt {w : World} {base : Nat} {e : TypeId} {size : Nat} {v : Value} {n : Nat} {xs : List Value} (h : w.ownsRow base e size v n xs) : ∀ g, v.ownBlock = some g → g < w.heap.size := by
  rintro g hg
  rcases h.2 with ⟨rfl, _⟩ | ⟨g', cap, cur, rfl, _, hh, _⟩
  · simp [Value.ownBlock] at hg
  · simp [Value.ownBlock] at hg; subst hg; exact (Array.getElem?_eq_some_iff.1 hh).1

/-- At the middle loop's head. -/
def MidR (w : World) (i : Nat) (p : Int × Int) (lb : Nat) (u kv : Value) (wk : World) : Prop :=
  ∃ (k : Nat) (es : List Int), kv = .int .i64 k ∧ k ≤ 2 ∧ OutR w wk u es (2 + 6 * i + 3 * k) ∧ wk.heap[lb]? = some (.cells #[.int .i64 p.1, .int .i64 p.2] 3 (0, 0)) ∧ ∀ g, u.ownBlock = some g → g ≠ lb
/-- At the inner loop's head. -/
def InR (w : World) (i k : Nat) (p : Int × Int) (lb : Nat) (u dv : Value) (wk : World) : Prop :=
  ∃ (d : Nat) (es : List Int), dv = .int .i64 ((d : Int) - 1) ∧ d ≤ 3 ∧ OutR w wk u es (2 + 6 * i + 3 * k + d) ∧ wk.heap[lb]? = some (.cells #[.int .i64 p.1, .int .i64 p.2] 3 (0, 0)) ∧ ∀ g, u.ownBlock = some g → g ≠ lb

end Go.Proofs.YtinogeobkljngaaDoor
