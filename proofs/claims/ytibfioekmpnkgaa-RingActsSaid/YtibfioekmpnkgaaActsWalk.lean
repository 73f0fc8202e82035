/-
  The walk of RingActs: up to the loop.
-/
import Derived.Test.YtibfioekmpnkgaaActsOpen
import Derived.Deep.Cut
import Derived.Deep.CutRange
namespace Go.Proofs.Ytibfioekmpnkgaa
open Go.RowKit
set_option linter.unusedVariables false
set_option linter.unusedSimpArgs false
set_option maxRecDepth 100000

def Ab (rb pb : Nat) : Nat → Prop := fun b => b = rb ∨ b = pb
/-- At the loop's head: the ring and the reference have the same items. -/
structure Both (w wr : World) (rb pb wb k nx : Nat) (hd : Nat → Bool) (it : Nat → ItemV) : Prop where
  ring : RingHas wr rb pb k nx hd it
  ref : RefAt (Ab rb pb) wr wb k nx (items nx k hd it)
  nam : Named hd it nx
  hits : ∀ t, nx ≤ t → hd t = true → HasHits w (it t)
  keep : Keeps (fun _ => False) w wr
  nr : w.heap.size ≤ rb
  np : w.heap.size ≤ pb
  nw : w.heap.size ≤ wb
theorem Both.keeps {w wr w' : World} {rb pb wb k nx : Nat} {hd : Nat → Bool} {it : Nat → ItemV} (h : Both w wr rb pb wb k nx hd it) (K : Keeps (fun _ => False) wr w') : Both w w' rb pb wb k nx hd it :=
  ⟨h.ring.keeps K id id, h.ref.keeps K (fun _ h => h.elim), h.nam, h.hits, h.keep.trans K, h.nr, h.np, h.nw⟩
theorem ticket_q {w : World} {rb pb k nx : Nat} {hd : Nat → Bool} {it : Nat → ItemV} (h : RingHas w rb pb k nx hd it) (n : Nat) :
    Calls Try.prog 17 #[.pointer (some ⟨rb, 0, none⟩)] (w.drewN n) fun e w' => e = .returned (.int .i64 nx) ∧ w' = w.drewN n :=
  (spec_ticket (h.keeps ((Keeps.refl (fun _ => False) _).drawN n) id id)).mono fun e w' ⟨a, b⟩ => ⟨a, b.symm⟩
theorem ready_q {w : World} {rb pb k nx : Nat} {hd : Nat → Bool} {it : Nat → ItemV} (h : RingHas w rb pb k nx hd it) (b : Bool) (hb : hd nx = b) (n : Nat) :
    Calls Try.prog 15 #[.pointer (some ⟨rb, 0, none⟩)] (w.drewN n) fun e w' => e = .returned (.bool b) ∧ ∃ m, w' = (w.drewN n).drewN m := by
  subst hb; exact spec_ready (h.keeps ((Keeps.refl (fun _ => False) _).drawN n) id id)
theorem room_q {w : World} {rb pb k nx : Nat} {hd : Nat → Bool} {it : Nat → ItemV} (h : RingHas w rb pb k nx hd it) (t : Int) (ht : t ≤ 9223372036854775807) (b : Bool) (hb : (decide ((nx : Int) ≤ t ∧ t < nx + k) && !hd t.toNat) = b) (n : Nat) :
    Calls Try.prog 21 #[.pointer (some ⟨rb, 0, none⟩), .int .i64 t] (w.drewN n) fun e w' => e = .returned (.bool b) ∧ ∃ m, w' = (w.drewN n).drewN m := by
  subst hb; exact spec_room (h.keeps ((Keeps.refl (fun _ => False) _).drawN n) id id) t ht
theorem refRoom_q {A : Nat → Prop} {w : World} {wb k nx : Nat} {hd : Nat → Bool} {it : Nat → ItemV} (h : RefAt A w wb k nx (items nx k hd it)) (hn : Named hd it nx) (hk : k ≤ 64) (hnx : nx ≤ 1000000) (t : Int) (ht : t ≤ 9223372036854775807) (b : Bool) (hb : (decide ((nx : Int) ≤ t ∧ t < nx + k) && !hd t.toNat) = b) (n : Nat) :
    Calls Try.prog 22 #[.pointer (some ⟨wb, 0, none⟩), .int .i64 t] (w.drewN n) fun e w' => e = .returned (.bool b) ∧ ∃ m, w' = (w.drewN n).drewN m := by
  subst hb
  rw [← room_same hn]
  exact refRoom_any A _ wb k nx _ t (h.keeps ((Keeps.refl (fun _ => False) _).drawN n) (fun _ h => h.elim)) hk hnx ht (by have := items_length nx k hd it; omega)
def ActsR (w : World) (rb pb wb k len : Nat) (iv : Value) (wr : World) : Prop :=
  ∃ (i nx : Nat) (hd : Nat → Bool) (it : Nat → ItemV), iv = .int .i64 i ∧ i ≤ len ∧ nx ≤ i ∧ Both w wr rb pb wb k nx hd it

def InnR (w0 : World) (n : Nat) (iv : Value) (wr : World) : Prop := ∃ j : Nat, iv = .int .i64 j ∧ j ≤ n ∧ Keeps (fun _ => False) w0 wr
theorem refPut_any (A : Nat → Prop) (w : World) (wb k nx : Nat) (ws : List ItemV) (x : ItemV) (h : RefAt A w wb k nx ws) (hk : k ≤ 64) (hnx : nx ≤ 1000000) (hx : x.N ≤ 9223372036854775807) (hws : ws.length ≤ 1000) :
    Calls Try.prog 18 #[.pointer (some ⟨wb, 0, none⟩), x.val] w fun e w' => e = .returned (.int .i64 (putR nx k ws x.N)) ∧ RefAt A w' wb k nx (putL nx k ws x) ∧ Keeps (fun b => b = wb) w w' := by
  by_cases he : x.N < nx ∨ (k : Int) ≤ x.N - nx
  · refine (refPut_early A w wb k nx ws x h hk hnx hx he).mono ?_
    rintro e w' ⟨rfl, K⟩
    have hp : putL nx k ws x = ws := by
      unfold putL
      rw [if_neg]
      unfold putR
      rcases he with h1 | h2
      · rw [if_pos h1]; omega
      · by_cases h1 : x.N < nx
        · rw [if_pos h1]; omega
        · rw [if_neg h1, if_pos h2]; omega
    exact ⟨rfl, by rw [hp]; exact h.keeps K (fun _ h => h.elim), K.mono (fun _ _ h => h.elim)⟩
  · exact refPut_late A w wb k nx ws x h hk hnx hx (fun h1 => he (Or.inl h1)) (fun h2 => he (Or.inr h2)) hws

/-- A block that is new: the reference's ring at its beginning. -/
theorem ref_new (w : World) (rb pb k : Nat) (hr : rb < w.heap.size) (hp : pb < w.heap.size) : RefAt (Ab rb pb) (w.alloc (.cells #[.slice none 0 0, .int .i64 k, .int .i64 0] 43)) w.heap.size k 0 [] := by
  refine ⟨⟨.slice none 0 0, ?_, SlOf.nil _ _ _, fun b hb => by cases hb⟩, ?_, ?_, by simp, fun o => ?_, ?_, ?_⟩
  · rw [cell_new]; rfl
  · rw [cell_new]; rfl
  · rw [cell_new]; rfl
  · exact frozen_block (cs := #[.slice none 0 0, .int .i64 k, .int .i64 0]) (T := 43) (by show (w.heap.push _)[_]? = _; simp) o none
  · rintro (h | h) <;> omega
  · rintro b (rfl | rfl) <;> simp <;> omega
end Go.Proofs.Ytibfioekmpnkgaa
