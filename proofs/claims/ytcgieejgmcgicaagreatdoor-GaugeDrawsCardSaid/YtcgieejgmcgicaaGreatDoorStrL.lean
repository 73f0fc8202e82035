/-
  Texts as values; an octet made a text; how long digits are.
-/
import Derived.Test.YtcgieejgmcgicaaGreatDoorSl
import Derived.Test.YtcgieejgmcgicaaGreatDoorProg
import Derived.Lib.ItoaNum
import Derived.Lib.ConvBytes
import Derived.IntWalk
namespace Go.Proofs.YtcgieejgmcgicaaGreatDoor
open Go.RowKit
set_option linter.unusedVariables false
set_option linter.unusedSimpArgs false
set_option maxRecDepth 100000

def strL (l : List UInt8) : Value := .string ⟨l.toArray⟩
theorem back1 (w : World) (c : UInt8) : (convert 26 9 (.slice (some ⟨w.heap.size, 0, none⟩) 1 1)).run Tryz.prog (w.alloc (.cells #[.int .u8 (c.toNat : Int)] 5)) = .ok (.string ⟨#[c]⟩) (w.alloc (.cells #[.int .u8 (c.toNat : Int)] 5)) := by
  have := run_convert_bytes_back (P := Tryz.prog) (w.alloc (.cells #[.int .u8 (c.toNat : Int)] 5)) 26 9 5 ⟨w.heap.size, 0, none⟩ 1 [c] Tryz.underlying26 Tryz.underlying5 Tryz.underlying9 (fun j hj => by
    obtain rfl : j = 0 := by simp at hj; omega
    exact cells_new w [.int .u8 (c.toNat : Int)] 5 0 _ rfl)
  exact this
theorem str_app (a b : List UInt8) : (⟨a.toArray⟩ : ByteArray) ++ ⟨b.toArray⟩ = ⟨(a ++ b).toArray⟩ := by
  apply ByteArray.ext
  simp [ByteArray.data_append]
theorem decDigits_len : ∀ m, (Lib.decDigits m).length ≤ m + 1 := by
  intro m
  induction m using Nat.strongRecOn with
  | _ m ih =>
    rw [Lib.decDigits]
    split
    · simp
    · have := ih (m / 10) (by omega)
      simp; omega
theorem decDigits_short (m k : Nat) (h : m < 10 ^ (k + 1)) : (Lib.decDigits m).length ≤ k + 1 := by
  induction k generalizing m with
  | zero => rw [Lib.decDigits, dif_pos (by omega)]; simp
  | succ k ih =>
    rw [Lib.decDigits]
    split
    · simp
    · have := ih (m / 10) (by rw [Nat.pow_succ] at h; omega)
      simp; omega
end Go.Proofs.YtcgieejgmcgicaaGreatDoor
