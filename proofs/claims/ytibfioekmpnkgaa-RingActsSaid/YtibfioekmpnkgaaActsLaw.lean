/-
  RingActs: what each kind of act leaves, in plain words.
-/
import Derived.Test.YtibfioekmpnkgaaActsWalk
namespace Go.Proofs.Ytibfioekmpnkgaa
open Go.RowKit
set_option linter.unusedVariables false
set_option linter.unusedSimpArgs false
set_option maxRecDepth 100000

def Bth (pb wb : Nat) : Nat → Prop := fun b => b = pb ∨ b = wb
/-- Behind the switch. -/
def ActsC (w : World) (rb pb wb k i : Nat) (v : Value) (wr : World) : Prop :=
  v = .bool true ∧ ∃ (nx : Nat) (hd : Nat → Bool) (it : Nat → ItemV), nx ≤ i ∧ Both w wr rb pb wb k nx hd it

section
variable {w w1 : World} {rb pb wb k nx : Nat} {hd : Nat → Bool} {it : Nat → ItemV}
theorem Both.wr' (h : Both w w1 rb pb wb k nx hd it) : wb ≠ rb ∧ wb ≠ pb := ⟨fun e => h.ref.wa (Or.inl e), fun e => h.ref.wa (Or.inr e)⟩

def hdP (nx k : Nat) (hd : Nat → Bool) (x : ItemV) : Nat → Bool := if putAns nx k hd x.N = 0 then fun t => if t = x.N.toNat then true else hd t else hd
def itP (nx k : Nat) (hd : Nat → Bool) (it : Nat → ItemV) (x : ItemV) : Nat → ItemV := if putAns nx k hd x.N = 0 then fun t => if t = x.N.toNat then x else it t else it

theorem kp (h : Both w w1 rb pb wb k nx hd it) (x : ItemV) (hN : x.N ≤ 9223372036854775807) (W : World) (K : Keeps (fun b => b = wb) w1 W) :
    Calls Try.prog 14 #[.pointer (some ⟨rb, 0, none⟩), x.val] W fun e w' => e = .returned (.int .i64 (putAns nx k hd x.N)) ∧ RingHas w' rb pb k nx (hdP nx k hd x) (itP nx k hd it x) ∧ Keeps (fun b => b = pb) W w' ∧ Keeps (Bth pb wb) w1 w' := by
  have hne := h.wr'
  refine (spec_put (h.ring.keeps K (fun e => hne.1 e.symm) (fun e => hne.2 e.symm)) x hN).mono ?_
  rintro e w' ⟨rfl, K2, hR⟩
  exact ⟨rfl, hR, K2, (K.mono (fun _ _ e => Or.inr e)).trans (K2.mono (fun _ _ e => Or.inl e))⟩

theorem kr (h : Both w w1 rb pb wb k nx hd it) (hk : k ≤ 64) (hnx : nx ≤ 1000000) (x : ItemV) (hN : x.N ≤ 9223372036854775807) (W : World) (K : Keeps (fun b => b = pb) w1 W) :
    Calls Try.prog 18 #[.pointer (some ⟨wb, 0, none⟩), x.val] W fun e w' => e = .returned (.int .i64 (putAns nx k hd x.N)) ∧ RefAt (Ab rb pb) w' wb k nx (putL nx k (items nx k hd it) x) ∧ Keeps (fun b => b = wb) W w' ∧ Keeps (Bth pb wb) w1 w' := by
  refine (refPut_any (Ab rb pb) W wb k nx _ x (h.ref.keeps K (fun _ e => Or.inr e)) hk hnx hN (by have := items_length nx k hd it; omega)).mono ?_
  rintro e w' ⟨rfl, hR, K2⟩
  exact ⟨by rw [put_same h.nam], hR, K2, (K.mono (fun _ _ e => Or.inl e)).trans (K2.mono (fun _ _ e => Or.inr e))⟩

theorem both_put (h : Both w w1 rb pb wb k nx hd it) (x : ItemV) (hx : HasHits w x) {w3 : World} (h1 : RingHas w3 rb pb k nx (hdP nx k hd x) (itP nx k hd it x))
    (h2 : RefAt (Ab rb pb) w3 wb k nx (putL nx k (items nx k hd it) x)) (K : Keeps (Bth pb wb) w1 w3) : Both w w3 rb pb wb k nx (hdP nx k hd x) (itP nx k hd it x) := by
  have hkk : Keeps (fun _ => False) w w3 := h.keep.trans2 K (fun i hi hb => by rcases hb with rfl | rfl; have := h.np; omega; have := h.nw; omega)
  by_cases h0 : putAns nx k hd x.N = 0
  · obtain ⟨e1, e2⟩ := put_list (it := it) h.nam x h0
    rw [e1] at h2
    have ea : hdP nx k hd x = fun t => if t = x.N.toNat then true else hd t := if_pos h0
    have eb : itP nx k hd it x = fun t => if t = x.N.toNat then x else it t := if_pos h0
    rw [ea, eb] at h1 ⊢
    refine ⟨h1, h2, e2, fun t ht htt => ?_, hkk, h.nr, h.np, h.nw⟩
    by_cases e : t = x.N.toNat
    · subst e; simpa using hx
    · simp only [e, if_false] at htt ⊢
      exact h.hits t ht htt
  · have ea : hdP nx k hd x = hd := if_neg h0
    have eb : itP nx k hd it x = it := if_neg h0
    rw [ea, eb] at h1 ⊢
    have hp : putL nx k (items nx k hd it) x = items nx k hd it := by
      unfold putL; rw [if_neg]; rw [put_same h.nam]; exact h0
    rw [hp] at h2
    exact ⟨h1, h2, h.nam, h.hits, hkk, h.nr, h.np, h.nw⟩

theorem fin_a (h : Both w w1 rb pb wb k nx hd it) {i : Nat} (hi : nx ≤ i) (x : ItemV) (hx : HasHits w x) {w2 w3 : World} (h1 : RingHas w2 rb pb k nx (hdP nx k hd x) (itP nx k hd it x)) (K2 : Keeps (fun b => b = wb) w2 w3)
    (h2 : RefAt (Ab rb pb) w3 wb k nx (putL nx k (items nx k hd it) x)) (K : Keeps (Bth pb wb) w1 w3) (v : Value) (hv : v = .bool true) : ActsC w rb pb wb k i v w3 := by
  have hne := h.wr'
  exact ⟨hv, nx, _, _, hi, both_put h x hx (h1.keeps K2 (fun e => hne.1 e.symm) (fun e => hne.2 e.symm)) h2 K⟩
theorem fin_b (h : Both w w1 rb pb wb k nx hd it) {i : Nat} (hi : nx ≤ i) (x : ItemV) (hx : HasHits w x) {w2 w3 : World} (h2 : RefAt (Ab rb pb) w2 wb k nx (putL nx k (items nx k hd it) x)) (K2 : Keeps (fun b => b = pb) w2 w3)
    (h1 : RingHas w3 rb pb k nx (hdP nx k hd x) (itP nx k hd it x)) (K : Keeps (Bth pb wb) w1 w3) (v : Value) (hv : v = .bool true) : ActsC w rb pb wb k i v w3 :=
  ⟨hv, nx, _, _, hi, both_put h x hx h1 (h2.keeps K2 (fun _ e => Or.inr e)) K⟩

theorem both_next {w4 : World} (h : Both w w1 rb pb wb k nx hd it) (hk1 : 1 ≤ k) (hh : hd nx = true) (h1 : RingHas w4 rb pb k (nx + 1) hd it) (h2 : RefAt (Ab rb pb) w4 wb k (nx + 1) (items (nx + 1) k hd it)) (K : Keeps (fun b => b = pb ∨ b = rb ∨ b = wb) w1 w4) :
    Both w w4 rb pb wb k (nx + 1) hd it :=
  ⟨h1, h2, fun t ht => h.nam t (by omega), fun t ht => h.hits t (by omega), h.keep.trans2 K (fun i hi hb => by have := h.np; have := h.nr; have := h.nw; omega), h.nr, h.np, h.nw⟩
end
end Go.Proofs.Ytibfioekmpnkgaa
