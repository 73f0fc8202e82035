/-
  Several texts in one: The document's xfD, Made. The document's xfD.
-/
import Derived.Test.YtbifklibdkjbeaaGreatDoorMg23
namespace Go.Proofs.YtbifklibdkjbeaaGreatDoor
open Go.RowKit
set_option linter.unusedVariables false
set_option linter.unusedSimpArgs false
set_option maxRecDepth 100000
set_option maxHeartbeats 4000000
def MdR (w w1 : World) (es : List Int) (lv iv : Value) (wr : World) : Prop :=
 ∃ (i : Nat) (l : List Int), iv = .int .i64 i ∧ i ≤ es.length ∧ Srt l ∧ (∀ y, y ∈ l ↔ y ∈ es.take i) ∧ l.length ≤ i ∧ wr.ownsRow w.heap.size 3 1 lv l.length (cellsOf 1 encI l) ∧ xa (fun _ => False) w1 wr ∧ (l = [] → lv = .slice none 0 0)
structure MdW (w w1 wr : World) (es : List Int) (i : Nat) (l : List Int) : Prop where
 hi : i < es.length
 srt : Srt l
 mem : ∀ y, y ∈ l ↔ y ∈ es.take i
 len : l.length ≤ i
 base : w.heap.size ≤ wr.heap.size
 keep : xa (fun _ => False) w1 wr
def MdN (w w1 : World) (es : List Int) (i : Nat) (v : Value) (wr : World) : Prop :=
 ∃ l : List Int, i + 1 ≤ es.length ∧ Srt l ∧ (∀ y, y ∈ l ↔ y ∈ es.take (i + 1)) ∧ l.length ≤ i + 1 ∧ wr.ownsRow w.heap.size 3 1 v l.length (cellsOf 1 encI l) ∧ xa (fun _ => False) w1 wr ∧ (l = [] → v = .slice none 0 0)
theorem xdp {w w1 wr wq w4 : World} {es l : List Int} {i k : Nat} {x : Int} {v : Value} (H : MdW w w1 wr es i l) (hq : xa (fun _ => False) wr wq) (h4 : xa (fun _ => False) wq w4) (hx : es[i]? = some x)
 (hp : Srt (l.take k ++ [x] ++ l.drop k) ∧ k ≤ l.length) {m : Nat} (hm : m = l.length + 1) {xs : List Value} (hxs : xs = cellsOf 1 encI (l.take k ++ [x]) ++ cellsOf 1 encI (l.drop k)) (ho : w4.ownsRow wq.heap.size 3 1 v m xs) : MdN w w1 es i v w4 := by
 have hl : (l.take k ++ [x] ++ l.drop k).length = l.length + 1 := by simp; omega
 have hb := H.base
 have hb2 := hq.size
 refine ⟨l.take k ++ [x] ++ l.drop k, H.hi, hp.1, fun y => ?_, ?_, xdh (base := wq.heap.size) ?_ (by omega), (H.keep.trans hq).trans h4, fun e => by simp at e⟩
 · rw [mem_put, H.mem, List.take_add_one, hx]; simp
 · have := H.len; omega
 rw [hl, xag]
 rw [hm, hxs] at ho
 exact ho
theorem xdo {w w1 wr : World} {es : List Int} {i : Nat} {v iv : Value} (H : MdN w w1 es i v wr) (h : iv = .int .i64 ((i + 1 : Nat) : Int)) : MdR w w1 es v iv wr := by
 obtain ⟨l, h1, h2, h3, h4, h5, h6, h7⟩ := H
 exact ⟨i + 1, l, h, h1, h2, h3, h4, h5, h6, h7⟩
theorem xlv {w w1 wr wq : World} {es l : List Int} {i : Nat} {x : Int} {v : Value} (H : MdW w w1 wr es i l) (hq : xa (fun _ => False) wr wq) (hx : es[i]? = some x) (hm : x ∈ l) (ho : wq.ownsRow w.heap.size 3 1 v l.length (cellsOf 1 encI l)) : MdN w w1 es i v wq := by
 refine ⟨l, H.hi, H.srt, fun y => ?_, by have := H.len; omega, ho, H.keep.trans hq, fun e => by rw [e] at hm; cases hm⟩
 rw [List.take_add_one, hx, H.mem]
 simp
 rintro rfl
 exact (H.mem y).1 hm
def xd3 (l : List Int) (i : Nat) : Int := if i = 0 then -1 else l.getD (i - 1) 0
def ScR (rs : List (Int × Int)) (nt : Bool) (l : List Int) (wS : World) (ov iv : Value) (wr : World) : Prop :=
 ∃ (i : Nat) (out : List (Int × Int)), iv = .int .i64 i ∧ i ≤ l.length ∧ Scn rs nt (xd3 l i) out ∧ wr.ownsRow wS.heap.size 287 2 ov out.length (cellsOf 2 encR out) ∧ xa (fun _ => False) wS wr ∧ out.length ≤ i
theorem xb6 {l : List Int} {j : Nat} {b : Int} (h : l[j]? = some b) : xd3 l (j + 1) = b := by
 unfold xd3
 rw [if_neg (by omega), Nat.add_sub_cancel, List.getD_eq_getElem?_getD, h]; rfl
theorem nb_at {rs : List (Int × Int)} {nt : Bool} {l : List Int} {j : Nat} {b : Int} (h : Ends rs l) (hb : l[j]? = some b) : Nb rs nt (xd3 l j) b := by
 cases j with
 | zero => rw [xk h hb]; exact Nb.first rs nt
 | succ j =>
  have hj : j < l.length := by have := (List.getElem?_eq_some_iff.1 hb).1; omega
  have ha : l[j]? = some l[j] := List.getElem?_eq_getElem hj
  rw [xb6 ha]
  exact ends_nb h ha hb
theorem scn_end {rs : List (Int × Int)} {nt : Bool} {l : List Int} {out : List (Int × Int)} (h : Ends rs l) (hs : Scn rs nt (xd3 l l.length) out) : out = if nt = true then notL rs else ofL rs := by
 have h0 : 0 < l.length := List.length_pos_of_mem (h.2.2 0 (by omega) (by omega) (Or.inl rfl))
 have ha : l[l.length - 1]? = some l[l.length - 1] := List.getElem?_eq_getElem (by omega)
 have e := xb6 ha
 rw [Nat.sub_add_cancel h0] at e
 rw [e, xm h ha] at hs
 exact hs.all
theorem scn_nil {rs : List (Int × Int)} {nt : Bool} {l : List Int} {j : Nat} (h : Ends rs l) (hj : j < l.length) (hs : Scn rs nt (xd3 l j) []) : xd3 l j = -1 ∨ qOf rs nt (xd3 l j) = false := by
 cases j with
 | zero => exact Or.inl rfl
 | succ j =>
  have ha : l[j]? = some l[j] := List.getElem?_eq_getElem (by omega)
  rw [xb6 ha] at hs ⊢
  have hb := h.2.1 _ (List.mem_of_getElem? ha)
  cases hq : qOf rs nt l[j]
  · exact Or.inr rfl
  obtain ⟨o, lo, e⟩ := xiq hs hb.1 hb.2 hq
  cases o <;> cases e
def MkR (wr : World) (l : List Int) (x : Int) (lv kv : Value) (wk : World) : Prop :=
 ∃ k : Nat, kv = .int .i64 k ∧ k ≤ l.length ∧ (∀ y ∈ l.take k, y < x) ∧ xa (fun _ => False) wr wk
theorem xj4 (rs : List (Int × Int)) (v : Value) (a b : Int) (nt : Bool) (w : World) (h : RSl w v rs) (ha : 0 ≤ a) (ha2 : a ≤ 1114111) (hj : b = a + 1 ∨ qOf rs nt (a + 1) = true) :
 Calls Tryz.prog 216 #[v, .int .i64 a, .int .i64 b, .bool nt] w fun e w' => e = .returned (.bool true) ∧ w' = w := by
 have HH := xoo (xfo rs v (a + 1) w h)
 clear h
 by_cases hb : b = a + 1
 · have g1 : (b == a + 1) = true := by simpa using hb
   clear HH hj
   go_enter Tryz.func216, Tryz.ntmps216
   go_wp2_with fail
   go_ret
   exact ⟨rfl, rfl⟩
 have g1 : (b == a + 1) = false := by simpa using hb
 have hq : qOf rs nt (a + 1) = true := by rcases hj with h | h; exact absurd h hb; exact h
 have g2 : (has rs (a + 1) == nt) = false := by unfold qOf at hq; cases hh : has rs (a + 1) <;> cases nt <;> simp_all
 clear hj hb hq
 generalize has rs (a + 1) = q at *
 go_enter Tryz.func216, Tryz.ntmps216
 go_wp2_with fail
 refine HH.out.mono ?_
 rintro e w2 ⟨rfl, rfl⟩
 go_wp2_with fail
 go_ret
 exact ⟨rfl, rfl⟩
end Go.Proofs.YtbifklibdkjbeaaGreatDoor
