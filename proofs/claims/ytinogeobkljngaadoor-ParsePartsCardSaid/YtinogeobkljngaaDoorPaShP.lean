/-
  How trees are shown, as plain words.
-/
import Derived.Test.YtinogeobkljngaaDoorPaSz
import Derived.Test.YtinogeobkljngaaDoorPaDg
import Derived.Lib.Join
namespace Go.Proofs.YtinogeobkljngaaDoor
open Go.RowKit
set_option linter.unusedVariables false
set_option linter.unusedSimpArgs false
set_option maxRecDepth 100000

def rangeS (p : Int × Int) : List UInt8 := if p.2 = p.1 then Lib.itoa p.1 else Lib.itoa p.1 ++ 45 :: Lib.itoa p.2
def rangesS (l : List (Int × Int)) : List UInt8 := 123 :: (Lib.join (l.map rangeS) [32] ++ [125])
def shownS (ks : List (List UInt8)) : List UInt8 := 40 :: (Lib.join ks [44] ++ [41])
def nodeS (op : Int) (set : List (Int × Int)) (mn mx : Int) (ks : List (List UInt8)) : List UInt8 :=
  if op = 0 then [101, 109, 112, 116, 121] else if op = 1 then [99, 104, 97, 114] ++ rangesS set else if op = 2 then [98, 101, 103, 105, 110] else if op = 3 then [101, 110, 100]
  else if op = 4 then [99, 97, 116] ++ shownS ks else if op = 5 then [97, 108, 116] ++ shownS ks
  else if op = 6 then [114, 101, 112, 123] ++ Lib.itoa mn ++ [32] ++ Lib.itoa mx ++ [125] ++ shownS ks else [63]
def showF : F → List (List UInt8)
  | .nil => []
  | .cons op set mn mx k r => nodeS op set mn mx (showF k) :: showF r
def showT (t : T) : List UInt8 := nodeS t.op t.set t.mn t.mx (showF t.kids)
theorem showF_of (l : List T) : showF (F.ofL l) = l.map showT := by
  induction l with
  | nil => rfl
  | cons t l ih => simp only [F.ofL, showF, ih, List.map_cons]; rfl
theorem showF_to (f : F) : showF f = f.toL.map showT := by rw [← showF_of, F.of_to]

theorem join_snoc (l : List (List UInt8)) (x sep : List UInt8) : Lib.join (l ++ [x]) sep = if l = [] then x else Lib.join l sep ++ sep ++ x := by
  cases l with
  | nil => simp [Lib.join_one]
  | cons y l =>
    rw [List.cons_append, Lib.join_cons, Lib.join_cons, if_neg (by simp)]
    simp [Lib.joinTail]
theorem join_take_le (l : List (List UInt8)) (sep : List UInt8) (i : Nat) : (Lib.join (l.take i) sep).length ≤ (Lib.join l sep).length := by
  cases l with
  | nil => simp
  | cons y l =>
    cases i with
    | zero => simp [Lib.join_nil]
    | succ i =>
      rw [List.take_succ_cons, Lib.join_cons, Lib.join_cons]
      have := Lib.joinTail_take_le sep l i
      simp only [List.length_append]; omega
theorem join_count (l : List (List UInt8)) (sep : List UInt8) (h1 : 1 ≤ sep.length) : l.length ≤ (Lib.join l sep).length + 1 := by
  cases l with
  | nil => simp
  | cons y l =>
    rw [Lib.join_length]
    have : l.length ≤ sep.length * l.length := Nat.le_mul_of_pos_left _ h1
    simp only [List.length_cons]; omega
theorem mem_lens : ∀ (l : List (List UInt8)) (x : List UInt8), x ∈ l → x.length ≤ Lib.lens l := by
  intro l
  induction l with
  | nil => intro x hx; simp at hx
  | cons z l ih =>
    intro x hx
    have e : Lib.lens (z :: l) = z.length + Lib.lens l := by simp [Lib.lens]
    rw [e]
    rcases List.mem_cons.1 hx with rfl | hx
    · omega
    · have := ih x hx; omega
theorem join_item (l : List (List UInt8)) (sep : List UInt8) (x : List UInt8) (hx : x ∈ l) : x.length ≤ (Lib.join l sep).length := by
  cases l with
  | nil => simp at hx
  | cons y l =>
    rw [Lib.join_cons]
    simp only [List.length_append]
    rcases List.mem_cons.1 hx with rfl | hx
    · omega
    · have h1 := mem_lens l x hx
      rw [Lib.joinTail_length]
      omega
theorem rangeS_len (p : Int × Int) (h1 : in64 p.1) (h2 : in64 p.2) : (rangeS p).length ≤ 41 ∧ 1 ≤ (rangeS p).length := by
  have a := itoa_len p.1 h1
  have b := itoa_len p.2 h2
  unfold rangeS
  split
  · omega
  · simp; omega
/-- A node that shows its kids. -/
def showsKids (op : Int) : Prop := op = 4 ∨ op = 5 ∨ op = 6
theorem nodeS_shown {op : Int} {set : List (Int × Int)} {mn mx : Int} {ks : List (List UInt8)} (h : showsKids op) : (Lib.join ks [44]).length + 2 ≤ (nodeS op set mn mx ks).length := by
  unfold nodeS shownS
  rcases h with rfl | rfl | rfl <;> simp <;> omega
theorem kid_len {t : T} (h : showsKids t.op) {i : Nat} {k : T} (hk : t.kids.toL[i]? = some k) : (showT k).length ≤ (showT t).length := by
  have h1 := nodeS_shown (set := t.set) (mn := t.mn) (mx := t.mx) (ks := showF t.kids) h
  have h2 := join_item (showF t.kids) [44] (showT k) (by rw [showF_to]; exact List.mem_map_of_mem (List.mem_of_getElem? hk))
  have h3 : showT t = nodeS t.op t.set t.mn t.mx (showF t.kids) := rfl
  rw [h3]; omega
end Go.Proofs.YtinogeobkljngaaDoor
