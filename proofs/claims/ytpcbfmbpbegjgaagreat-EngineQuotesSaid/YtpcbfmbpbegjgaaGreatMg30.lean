/-
  Several texts in one: The document's joined, Made. The document's joined.
-/
import Derived.Test.YtpcbfmbpbegjgaaGreatMg28
import Derived.Test.YtpcbfmbpbegjgaaGreatRfBrG
section
namespace Go.Proofs.YtpcbfmbpbegjgaaGreat
open Go.RowKit
set_option linter.unusedVariables false
set_option linter.unusedSimpArgs false
set_option maxRecDepth 100000

theorem cellsOf_encI (l : List Int) : cellsOf 1 encI l = l.map (Value.int .i64) := by
  induction l with
  | nil => rfl
  | cons x l ih => simp [cellsOf, List.range_succ, encI] at ih ⊢; exact ih
theorem encI_one (l : List Int) : ∀ u ∈ cellsOf 1 encI l, u.oneCell' = true := by
  intro u hu
  rw [cellsOf_encI, List.mem_map] at hu
  obtain ⟨x, _, rfl⟩ := hu
  rfl
theorem wpList_append_int {w : World} {ops : Array Oper} {rest : List Oper} {o : Oper} {a : Act} {Q : Exit → Act → World → Prop} (hgd : o.guard = none) (s x : Operand)
    (ho : o.op = .call { callee := .builtin .append, args := #[s, x], argTypes := #[58, 58] })
    (base : Nat) (v : Value) (n : Nat) (xs : List Value) (hs : a.eval s = v) (hown : w.ownsRow base 3 1 v n xs)
    (xv : Value) (l : List Int) (hx : a.eval x = xv) (hr : SlOf 1 encI w xv l) (h63 : n + l.length ≤ 1000000) (hbase : base ≤ w.heap.size)
    (h : ∀ v' w', w'.ownsRow base 3 1 v' (n + l.length) (xs ++ cellsOf 1 encI l) → w.grownBy w' v.ownBlock → wpList Tryz.prog ops Q rest (a.put o.dst v') w') : wpList Tryz.prog ops Q (o :: rest) a w := by
  obtain ⟨i0, hi, hz0, hz1, hz2⟩ := info_parts info_int
  rcases hr.news (by omega) with ⟨rfl, rfl⟩ | ⟨ad, c, rfl, hnews⟩
  · refine wpList_append_own_none hgd s x 58 ho base 3 i0 1 Tryz.underlying58 hi v n xs hs hown hx (hs ▸ h v w ?_ ?_)
    · simpa [cellsOf] using hown
    · exact ⟨rfl, rfl, rfl, Nat.le_refl _, fun _ _ _ => rfl⟩
  · exact wpList_append_own _ hgd s x 58 ho base 3 i0 _ 1 8 Tryz.underlying58 hi hz0 hz1 hz2 rfl (by decide) v n xs hs hown ad _ c _ hx (cellsOf_length _ _ _) hnews (encI_one _) (by unfold maxLen; omega) (by omega) hbase
      (fun v' w' h1 h2 _ => h v' w' h1 h2)
theorem SlOf.takeI {w : World} {a : Option Addr} {n cap : Nat} {l : List Int} (h : SlOf 1 encI w (.slice a n cap) l) (k : Nat) (hk : k ≤ n) : SlOf 1 encI w (.slice a k cap) (l.take k) := by
  obtain ⟨a', c, e, ⟨hl, hn⟩, hl2, hcc⟩ := h
  injection e with e1 e2 e3
  subst e1 e2 e3
  refine ⟨_, _, by rw [List.length_take, Nat.min_eq_left hk], ⟨by rw [List.length_take]; omega, hn⟩, by rw [List.length_take]; omega, fun h0 => ?_⟩
  rw [List.length_take] at h0
  obtain ⟨b, off, e, hc⟩ := hcc (by omega)
  refine ⟨b, off, e, fun i x hx j hj => hc i x ?_ j hj⟩
  rw [List.getElem?_take] at hx
  split at hx
  · exact hx
  · cases hx
theorem SlOf.dropI1 {w : World} {b off n cap : Nat} {l : List Int} (h : SlOf 1 encI w (.slice (some ⟨b, off, none⟩) n cap) l) (i : Nat) (hi : i ≤ n) (hc : ¬ cap = i) :
    SlOf 1 encI w (.slice (some ⟨b, off + i, none⟩) (n - i) (cap - i)) (l.drop i) := by
  obtain ⟨a, c, e, ⟨hl, hn⟩, hl2, hcc⟩ := h
  injection e with e1 e2 e3
  subst e1 e2 e3
  refine ⟨_, _, by rw [List.length_drop], ⟨by rw [List.length_drop]; omega, (fun h => by cases h)⟩, by rw [List.length_drop]; omega, fun h0 => ⟨b, off + i, rfl, fun j x hx q hq => ?_⟩⟩
  rw [List.length_drop] at h0
  obtain ⟨b', off', e', hx'⟩ := hcc (by omega)
  injection e' with e'
  injection e' with e1 e2 _
  subst e1 e2
  rw [List.getElem?_drop] at hx
  have := hx' (i + j) x hx q hq
  rw [← this]
  congr 2
  omega
/-- At the first loop's head. -/
def MdR (w w1 : World) (es : List Int) (lv iv : Value) (wr : World) : Prop :=
  ∃ (i : Nat) (l : List Int), iv = .int .i64 i ∧ i ≤ es.length ∧ Srt l ∧ (∀ y, y ∈ l ↔ y ∈ es.take i) ∧ l.length ≤ i ∧ wr.ownsRow w.heap.size 3 1 lv l.length (cellsOf 1 encI l) ∧ Keeps (fun _ => False) w1 wr ∧ (l = [] → lv = .slice none 0 0)
/-- What a round knows. -/
structure MdW (w w1 wr : World) (es : List Int) (i : Nat) (l : List Int) : Prop where
  hi : i < es.length
  srt : Srt l
  mem : ∀ y, y ∈ l ↔ y ∈ es.take i
  len : l.length ≤ i
  base : w.heap.size ≤ wr.heap.size
  keep : Keeps (fun _ => False) w1 wr
theorem own_mono {w : World} {base base' : Nat} {e : TypeId} {size : Nat} {v : Value} {n : Nat} {xs : List Value} (h : w.ownsRow base e size v n xs) (hb : base' ≤ base) : w.ownsRow base' e size v n xs := by
  refine ⟨h.1, ?_⟩
  rcases h.2 with h | ⟨g, cap, cur, h1, h2, h3⟩
  · exact Or.inl h
  · exact Or.inr ⟨g, cap, cur, h1, by omega, h3⟩
/-- One number more. -/
def MdN (w w1 : World) (es : List Int) (i : Nat) (v : Value) (wr : World) : Prop :=
  ∃ l : List Int, i + 1 ≤ es.length ∧ Srt l ∧ (∀ y, y ∈ l ↔ y ∈ es.take (i + 1)) ∧ l.length ≤ i + 1 ∧ wr.ownsRow w.heap.size 3 1 v l.length (cellsOf 1 encI l) ∧ Keeps (fun _ => False) w1 wr ∧ (l = [] → v = .slice none 0 0)
theorem made_next {w w1 wr wq w4 : World} {es l : List Int} {i k : Nat} {x : Int} {v : Value} (H : MdW w w1 wr es i l) (hq : Keeps (fun _ => False) wr wq) (h4 : Keeps (fun _ => False) wq w4) (hx : es[i]? = some x)
    (hp : Srt (l.take k ++ [x] ++ l.drop k) ∧ k ≤ l.length) {m : Nat} (hm : m = l.length + 1) {xs : List Value} (hxs : xs = cellsOf 1 encI (l.take k ++ [x]) ++ cellsOf 1 encI (l.drop k)) (ho : w4.ownsRow wq.heap.size 3 1 v m xs) : MdN w w1 es i v w4 := by
  have hl : (l.take k ++ [x] ++ l.drop k).length = l.length + 1 := by simp; omega
  have hb := H.base
  have hb2 := hq.size
  refine ⟨l.take k ++ [x] ++ l.drop k, H.hi, hp.1, fun y => ?_, ?_, own_mono (base := wq.heap.size) ?_ (by omega), (H.keep.trans hq).trans h4, fun e => by simp at e⟩
  · rw [mem_put, H.mem, List.take_add_one, hx]; simp
  · have := H.len; omega
  · rw [hl, cellsOf_append]
    rw [hm, hxs] at ho
    exact ho
theorem made_rel {w w1 wr : World} {es : List Int} {i : Nat} {v iv : Value} (H : MdN w w1 es i v wr) (h : iv = .int .i64 ((i + 1 : Nat) : Int)) : MdR w w1 es v iv wr := by
  obtain ⟨l, h1, h2, h3, h4, h5, h6, h7⟩ := H
  exact ⟨i + 1, l, h, h1, h2, h3, h4, h5, h6, h7⟩
theorem made_same {w w1 wr wq : World} {es l : List Int} {i : Nat} {x : Int} {v : Value} (H : MdW w w1 wr es i l) (hq : Keeps (fun _ => False) wr wq) (hx : es[i]? = some x) (hm : x ∈ l) (ho : wq.ownsRow w.heap.size 3 1 v l.length (cellsOf 1 encI l)) : MdN w w1 es i v wq := by
  refine ⟨l, H.hi, H.srt, fun y => ?_, by have := H.len; omega, ho, H.keep.trans hq, fun e => by rw [e] at hm; cases hm⟩
  rw [List.take_add_one, hx, H.mem]
  simp
  rintro rfl
  exact (H.mem y).1 hm
/-- At the last loop's head. -/
def prevI (l : List Int) (i : Nat) : Int := if i = 0 then -1 else l.getD (i - 1) 0
def ScR (rs : List (Int × Int)) (nt : Bool) (l : List Int) (wS : World) (ov iv : Value) (wr : World) : Prop :=
  ∃ (i : Nat) (out : List (Int × Int)), iv = .int .i64 i ∧ i ≤ l.length ∧ Scn rs nt (prevI l i) out ∧ wr.ownsRow wS.heap.size 87 2 ov out.length (cellsOf 2 encR out) ∧ Keeps (fun _ => False) wS wr ∧ out.length ≤ i
theorem prevI_next {l : List Int} {j : Nat} {b : Int} (h : l[j]? = some b) : prevI l (j + 1) = b := by
  unfold prevI
  rw [if_neg (by omega), Nat.add_sub_cancel, List.getD_eq_getElem?_getD, h]; rfl
theorem nb_at {rs : List (Int × Int)} {nt : Bool} {l : List Int} {j : Nat} {b : Int} (h : Ends rs l) (hb : l[j]? = some b) : Nb rs nt (prevI l j) b := by
  cases j with
  | zero => rw [ends_first h hb]; exact Nb.first rs nt
  | succ j =>
    have hj : j < l.length := by have := (List.getElem?_eq_some_iff.1 hb).1; omega
    have ha : l[j]? = some l[j] := List.getElem?_eq_getElem hj
    rw [prevI_next ha]
    exact ends_nb h ha hb
theorem scn_end {rs : List (Int × Int)} {nt : Bool} {l : List Int} {out : List (Int × Int)} (h : Ends rs l) (hs : Scn rs nt (prevI l l.length) out) : out = if nt = true then notL rs else ofL rs := by
  have h0 : 0 < l.length := List.length_pos_of_mem (h.2.2 0 (by omega) (by omega) (Or.inl rfl))
  have ha : l[l.length - 1]? = some l[l.length - 1] := List.getElem?_eq_getElem (by omega)
  have e := prevI_next ha
  rw [Nat.sub_add_cancel h0] at e
  rw [e, ends_last h ha] at hs
  exact hs.all
theorem scn_nil {rs : List (Int × Int)} {nt : Bool} {l : List Int} {j : Nat} (h : Ends rs l) (hj : j < l.length) (hs : Scn rs nt (prevI l j) []) : prevI l j = -1 ∨ qOf rs nt (prevI l j) = false := by
  cases j with
  | zero => exact Or.inl rfl
  | succ j =>
    have ha : l[j]? = some l[j] := List.getElem?_eq_getElem (by omega)
    rw [prevI_next ha] at hs ⊢
    have hb := h.2.1 _ (List.mem_of_getElem? ha)
    cases hq : qOf rs nt l[j]
    · exact Or.inr rfl
    · obtain ⟨o, lo, e⟩ := scn_last hs hb.1 hb.2 hq
      cases o <;> cases e
/-- At the inner loop's head. -/
def MkR (wr : World) (l : List Int) (x : Int) (lv kv : Value) (wk : World) : Prop :=
  ∃ k : Nat, kv = .int .i64 k ∧ k ≤ l.length ∧ (∀ y ∈ l.take k, y < x) ∧ Keeps (fun _ => False) wr wk
end Go.Proofs.YtpcbfmbpbegjgaaGreat
end
section
namespace Go.Proofs.YtpcbfmbpbegjgaaGreat
open Go.RowKit
set_option linter.unusedVariables false
set_option linter.unusedSimpArgs false
set_option maxRecDepth 100000

set_option maxHeartbeats 4000000 in
theorem joined_any (rs : List (Int × Int)) (v : Value) (a b : Int) (nt : Bool) (w : World) (h : RSl w v rs) (ha : 0 ≤ a) (ha2 : a ≤ 1114111) (hj : b = a + 1 ∨ qOf rs nt (a + 1) = true) :
    Calls Tryz.prog 84 #[v, .int .i64 a, .int .i64 b, .bool nt] w fun e w' => e = .returned (.bool true) ∧ w' = w := by
  have HH := Lib.hid (refHas_any rs v (a + 1) w h)
  clear h
  by_cases hb : b = a + 1
  · have g1 : (b == a + 1) = true := by simpa using hb
    clear HH hj
    go_enter Tryz.func84, Tryz.ntmps84
    go_wp2_with fail
    go_ret
    exact ⟨rfl, rfl⟩
  · have g1 : (b == a + 1) = false := by simpa using hb
    have hq : qOf rs nt (a + 1) = true := by rcases hj with h | h; exact absurd h hb; exact h
    have g2 : (has rs (a + 1) == nt) = false := by unfold qOf at hq; cases hh : has rs (a + 1) <;> cases nt <;> simp_all
    clear hj hb hq
    generalize has rs (a + 1) = q at *
    go_enter Tryz.func84, Tryz.ntmps84
    go_wp2_with fail
    refine HH.out.mono ?_
    rintro e w2 ⟨rfl, rfl⟩
    go_wp2_with fail
    go_ret
    exact ⟨rfl, rfl⟩
end Go.Proofs.YtpcbfmbpbegjgaaGreat
end
