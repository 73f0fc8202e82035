/-
  text.deed: the fields of a deed.
-/
import Derived.Test.YtibfioekmpnkgaaDoorLib
import Derived.Test.YtibfioekmpnkgaaDoorProg
import Derived.StillTailTactics
namespace Go.Proofs.YtibfioekmpnkgaaDoor
open Go.RowKit
set_option linter.unusedVariables false
set_option linter.unusedSimpArgs false
set_option maxRecDepth 100000

/-- The operations of a region of a function's text. -/
def findReg (id : Nat) : Code → Option (Array Oper)
  | .region i ops _ => if i = id then some ops else none
  | .seq a b => (findReg id a).orElse fun _ => findReg id b
  | _ => none
noncomputable def deedOps : Array Oper := (Tryd.f22.body.bind (findReg 2)).getD #[]
/-- The first k are listed. -/
def listedAt (n k : Nat) : Array Bool := (List.range n).toArray.map fun j => decide (j < k)
theorem listedAt_zero (n : Nat) : listedAt n 0 = Array.replicate n false := by
  apply Array.ext
  · simp [listedAt]
  · intro i h1 h2; simp [listedAt]
theorem listedAt_succ (n k : Nat) : (listedAt n k).setIfInBounds k true = listedAt n (k + 1) := by
  apply Array.ext
  · simp [listedAt]
  · intro i h1 h2
    simp only [listedAt, List.map_toArray, List.size_toArray, List.length_map, List.length_range] at h2
    rw [Array.getElem_setIfInBounds]
    · simp only [listedAt, List.map_toArray, List.getElem_toArray, List.getElem_map, List.getElem_range]
      by_cases e : k = i
      · subst e; simp
      · rw [if_neg e]; simp only [decide_eq_decide]; omega
    · simpa [listedAt] using h2
theorem lexHead_of (md : Region.Mode) (ops : Array Oper) (g n : Nat) (h : ∀ k, k < n → ((Region.ready md ops (listedAt ops.size k)).contains k && Region.free md ops (listedAt ops.size k) k) = true) (hs : Region.seqB md ops g n (listedAt ops.size n) = true) :
    ∀ f k, k + f = n → Region.lexHead md ops g f k (listedAt ops.size k) = true := by
  intro f
  induction f with
  | zero =>
    intro k hk
    have e : k = n := by omega
    subst e
    rw [Region.lexHead]
    exact hs
  | succ f ih =>
    intro k hk
    have h1 := h k (by omega)
    rw [Region.lexHead, listedAt_succ, ih (k + 1) (by omega), h1]; rfl
def lexAt (ops : Array Oper) (k : Nat) : Bool := (Region.ready .any ops (listedAt ops.size k)).contains k && Region.free .any ops (listedAt ops.size k) k
def lexSome (ops : Array Oper) (a m : Nat) : Bool := (List.range m).all fun t => lexAt ops (a + t)
theorem deed_lex0 : lexSome deedOps 0 6 = true := by kernel_rfl
theorem deed_lex6 : lexSome deedOps 6 6 = true := by kernel_rfl
theorem deed_lex12 : lexSome deedOps 12 6 = true := by kernel_rfl
theorem deed_lex18 : lexSome deedOps 18 6 = true := by kernel_rfl
theorem deed_lex24 : lexSome deedOps 24 6 = true := by kernel_rfl
theorem deed_lex30 : lexSome deedOps 30 6 = true := by kernel_rfl
theorem deed_lex36 : lexSome deedOps 36 6 = true := by kernel_rfl
theorem deed_lex42 : lexSome deedOps 42 6 = true := by kernel_rfl
theorem deed_lex48 : lexSome deedOps 48 6 = true := by kernel_rfl
theorem deed_lex54 : lexSome deedOps 54 6 = true := by kernel_rfl
theorem deed_lex60 : lexSome deedOps 60 6 = true := by kernel_rfl
theorem deed_lex66 : lexSome deedOps 66 6 = true := by kernel_rfl
theorem deed_lex72 : lexSome deedOps 72 6 = true := by kernel_rfl
theorem deed_lex78 : lexSome deedOps 78 6 = true := by kernel_rfl
theorem deed_lex84 : lexSome deedOps 84 6 = true := by kernel_rfl
theorem deed_lex90 : lexSome deedOps 90 6 = true := by kernel_rfl
theorem deed_lex96 : lexSome deedOps 96 6 = true := by kernel_rfl
theorem deed_lex102 : lexSome deedOps 102 6 = true := by kernel_rfl
theorem deed_lex108 : lexSome deedOps 108 6 = true := by kernel_rfl
theorem deed_lex114 : lexSome deedOps 114 6 = true := by kernel_rfl
theorem deed_lex120 : lexSome deedOps 120 6 = true := by kernel_rfl
theorem lexSome_at {ops : Array Oper} {a m k : Nat} (h : lexSome ops a m = true) (h1 : a ≤ k) (h2 : k < a + m) : lexAt ops k = true := by
  have := List.all_eq_true.1 h (k - a) (List.mem_range.2 (by omega))
  rwa [show a + (k - a) = k by omega] at this
theorem deed_size : deedOps.size = 128 := by kernel_rfl
theorem deed_noSelect : Region.noSelect deedOps = true := by kernel_rfl
theorem deed_sink : Region.sinkB .any deedOps 126 = true := by kernel_rfl
theorem deed_chain : Region.chainB .any deedOps 126 = true := by kernel_rfl
theorem deed_seq : Region.seqB .any deedOps 2 126 (listedAt deedOps.size 126) = true := by kernel_rfl
theorem deed_all (k : Nat) (hk : k < 126) : lexAt deedOps k = true := by
  by_cases h0 : k < 6
  · exact lexSome_at deed_lex0 (by omega) (by omega)
  by_cases h6 : k < 12
  · exact lexSome_at deed_lex6 (by omega) (by omega)
  by_cases h12 : k < 18
  · exact lexSome_at deed_lex12 (by omega) (by omega)
  by_cases h18 : k < 24
  · exact lexSome_at deed_lex18 (by omega) (by omega)
  by_cases h24 : k < 30
  · exact lexSome_at deed_lex24 (by omega) (by omega)
  by_cases h30 : k < 36
  · exact lexSome_at deed_lex30 (by omega) (by omega)
  by_cases h36 : k < 42
  · exact lexSome_at deed_lex36 (by omega) (by omega)
  by_cases h42 : k < 48
  · exact lexSome_at deed_lex42 (by omega) (by omega)
  by_cases h48 : k < 54
  · exact lexSome_at deed_lex48 (by omega) (by omega)
  by_cases h54 : k < 60
  · exact lexSome_at deed_lex54 (by omega) (by omega)
  by_cases h60 : k < 66
  · exact lexSome_at deed_lex60 (by omega) (by omega)
  by_cases h66 : k < 72
  · exact lexSome_at deed_lex66 (by omega) (by omega)
  by_cases h72 : k < 78
  · exact lexSome_at deed_lex72 (by omega) (by omega)
  by_cases h78 : k < 84
  · exact lexSome_at deed_lex78 (by omega) (by omega)
  by_cases h84 : k < 90
  · exact lexSome_at deed_lex84 (by omega) (by omega)
  by_cases h90 : k < 96
  · exact lexSome_at deed_lex90 (by omega) (by omega)
  by_cases h96 : k < 102
  · exact lexSome_at deed_lex96 (by omega) (by omega)
  by_cases h102 : k < 108
  · exact lexSome_at deed_lex102 (by omega) (by omega)
  by_cases h108 : k < 114
  · exact lexSome_at deed_lex108 (by omega) (by omega)
  by_cases h114 : k < 120
  · exact lexSome_at deed_lex114 (by omega) (by omega)
  by_cases h120 : k < 126
  · exact lexSome_at deed_lex120 (by omega) (by omega)
  omega
theorem deed_head : Region.lexHead .any deedOps 2 126 0 (listedAt deedOps.size 0) = true := lexHead_of .any deedOps 2 126 deed_all deed_seq 126 0 (by omega)
theorem lexTail_of {ops : Array Oper} {n g m : Nat} (hm : ops.size = m) (hg : m - n = g) (hn : n < m) (h1 : Region.noSelect ops = true) (h2 : Region.sinkB .any ops n = true) (h3 : Region.chainB .any ops n = true) (h4 : Region.lexHead .any ops g n 0 (listedAt ops.size 0) = true) : Region.lexTailB .any ops n = true := by
  subst hm
  subst hg
  rw [listedAt_zero] at h4
  simp only [Region.lexTailB, Bool.and_eq_true, decide_eq_true_eq]
  exact ⟨⟨⟨⟨h1, hn⟩, h2⟩, h3⟩, h4⟩
theorem deed_lex : Region.lexTailB .any deedOps 126 = true := lexTail_of deed_size rfl (by omega) deed_noSelect deed_sink deed_chain deed_head
end Go.Proofs.YtibfioekmpnkgaaDoor
