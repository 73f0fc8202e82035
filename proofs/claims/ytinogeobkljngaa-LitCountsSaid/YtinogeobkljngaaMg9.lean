/-
  Several texts in one: lit's Index and Count. The parser's take, want, number. The parser's count. set.Not in plain words. The walk of set.Not. The walks of slices.Grow, slices.Concat (of two), set.Or, set.And. For the laws on sets: the law's own awake, ranges that are new, ranges that came in. The named sets: plain words and the walk of the document's own 'Named'. The walk of set.Named. parse.among, parse.one.
-/
import Derived.Test.YtinogeobkljngaaLcFindG
import Derived.Test.YtinogeobkljngaaMg2
import Derived.Test.YtinogeobkljngaaMg4
import Derived.Test.YtinogeobkljngaaMg5
import Derived.Laws.AppendOwnNone
import Derived.Deep.SlicePairs
import Derived.ChangeArms
import Derived.Deep.RegionHeld3
import Derived.Deep.Cut
import Derived.Deep.CutRange
import Derived.Test.YtinogeobkljngaaShelf
import Derived.Lib.Bytealg
section
namespace Go.Proofs.Ytinogeobkljngaa
open Go.RowKit
set_option linter.unusedVariables false
set_option linter.unusedSimpArgs false
set_option maxRecDepth 100000

def NiR (t : List UInt8) (f : Nat) (w : World) (iv : Value) (wr : World) : Prop := iv = .int .i64 f ∧ w = wr
set_option maxHeartbeats 4000000 in
theorem find_idx0 (t : List UInt8) (f c : Nat) (w : World) (ht : t.length ≤ 1000) (hf : f ≤ 1000000) (hC : CellIs w c (-1)) :
    Calls Try.prog 9 #[.string ⟨t.toArray⟩, .string ⟨([] : List UInt8).toArray⟩, .int .i64 f, .func (.func 10) #[] #[.pointer (some ⟨c, 0, none⟩)]] w fun e w' => FiE [] t f c w e w' := by
  have HC := Lib.hid hC
  clear hC
  by_cases hft : f ≤ t.length
  · have hd : decide ((f : Int) ≤ (t.length : Int)) = true := by simp; omega
    have HE : Hid (IdxAt (mtL [] t) t.length f f) := Lib.hid (Or.inr ⟨f, rfl, Nat.le_refl _, hft, by rw [mtL_nil]; simpa using hft, fun b h1 h2 => by omega⟩)
    go_enter Try.func9, Try.ntmps9
    go_wp2_with fail
    go_loopw [8] (fun iv wr => NiR t f w iv wr) (fun _ _ => 0)
    case atStart => exact ⟨rfl, rfl⟩
    case round =>
      obtain ⟨rfl, rfl⟩ := hrel
      go_wp2_with fail
      refine (each_idx _ (-1) c _ HC.out.cell HC.out.frz).mono ?_
      rintro e w9 ⟨rfl, rfl⟩
      go_wp2_with fail
      go_end0
      exact ⟨_, rfl, HC.out.set _, HE.out, Keeps.set (S := fun b => b = c) (Keeps.refl _ _) (p := ⟨c, 0, none⟩) rfl _⟩
  · have hd : decide ((f : Int) ≤ (t.length : Int)) = false := by simp; omega
    have HE : Hid (IdxAt (mtL [] t) t.length f (-1)) := Lib.hid (Or.inl ⟨rfl, fun a h1 h2 => by omega⟩)
    go_enter Try.func9, Try.ntmps9
    go_wp2_with fail
    go_loopw [8] (fun iv wr => NiR t f w iv wr) (fun _ _ => 0)
    case atStart => exact ⟨rfl, rfl⟩
    case round =>
      obtain ⟨rfl, rfl⟩ := hrel
      go_wp2_with fail
      go_end0
      exact ⟨_, rfl, HC.out, HE.out, Keeps.refl _ _⟩
def NcR (t : List UInt8) (c : Nat) (w : World) (iv : Value) (wr : World) : Prop := ∃ i : Nat, iv = .int .i64 i ∧ i ≤ t.length + 1 ∧ CellIs wr c (i : Nat) ∧ Keeps (fun b => b = c) w wr
set_option maxHeartbeats 4000000 in
theorem find_cnt0 (t : List UInt8) (c : Nat) (w : World) (ht : t.length ≤ 1000) (hC : CellIs w c 0) :
    Calls Try.prog 9 #[.string ⟨t.toArray⟩, .string ⟨([] : List UInt8).toArray⟩, .int .i64 0, .func (.func 11) #[] #[.pointer (some ⟨c, 0, none⟩)]] w fun e w' => FcE [] t c w e w' := by
  have HC := Lib.hid hC
  clear hC
  have HE : Hid (cntM (mtL [] t) (t.length + 1) = t.length + 1) := Lib.hid (cntM_all fun a ha => by rw [mtL_nil]; simp; omega)
  go_enter Try.func9, Try.ntmps9
  go_wp2_with fail
  go_loopw [8] (fun iv wr => NcR t c w iv wr) (fun iv _ => t.length + 2 - (intOf iv).toNat)
  case atStart => exact ⟨0, rfl, by omega, HC.out, Keeps.refl _ _⟩
  case round =>
    obtain ⟨i, rfl, hi, hC, hK⟩ := hrel
    have HC1 := Lib.hid hC
    have HK := Lib.hid hK
    clear hC hK
    by_cases hil : i ≤ t.length
    · have hd : decide ((i : Int) ≤ (t.length : Int)) = true := by simp; omega
      go_wp2_with fail
      refine (each_cnt _ _ c _ HC1.out.cell HC1.out.frz (by omega)).mono ?_
      rintro e w9 ⟨rfl, rfl⟩
      go_wp2_with fail
      go_roundw
      case rel => exact ⟨i + 1, by go_num, by omega, HC1.out.set _, Keeps.set (S := fun b => b = c) HK.out (p := ⟨c, 0, none⟩) rfl _⟩
      case measure => simp [intOf]; omega
    · obtain rfl : i = t.length + 1 := by omega
      have hd : decide (((t.length : Int) + 1) ≤ (t.length : Int)) = false := by simp; omega
      go_wp2_with fail
      go_end0
      exact ⟨rfl, by rw [HE.out]; exact HC1.out, HK.out⟩
theorem find_idxs (p t : List UInt8) (f c : Nat) (w : World) (hp : p.length ≤ 1000) (ht : t.length ≤ 1000) (hf : f ≤ 1000000) (hC : CellIs w c (-1)) :
    Calls Try.prog 9 #[.string ⟨t.toArray⟩, .string ⟨p.toArray⟩, .int .i64 f, .func (.func 10) #[] #[.pointer (some ⟨c, 0, none⟩)]] w fun e w' => FiE p t f c w e w' := by
  rcases p with _ | ⟨x, p⟩
  · exact find_idx0 t f c w ht hf hC
  · exact find_idx (x :: p) t f c w (by simp) hp ht hf hC
theorem find_cnts (p t : List UInt8) (c : Nat) (w : World) (hp : p.length ≤ 1000) (ht : t.length ≤ 1000) (hC : CellIs w c 0) :
    Calls Try.prog 9 #[.string ⟨t.toArray⟩, .string ⟨p.toArray⟩, .int .i64 0, .func (.func 11) #[] #[.pointer (some ⟨c, 0, none⟩)]] w fun e w' => FcE p t c w e w' := by
  rcases p with _ | ⟨x, p⟩
  · exact find_cnt0 t c w ht hC
  · exact find_cnt (x :: p) t c w (by simp) hp ht hC
theorem CellIs.new (w : World) (z : Int) : CellIs (w.alloc (.cells #[.int .i64 z] 3)) w.heap.size z := ⟨by simp [go_sem], by simp [go_sem]⟩
def IxE (p t : List UInt8) (f : Nat) (w : World) (e : Ending) (w' : World) : Prop := ∃ z : Int, e = .returned (.int .i64 z) ∧ IdxAt (mtL p t) t.length f z ∧ Keeps (fun _ => False) w w'
theorem new_keeps {w w' : World} {o : Obj} (h : Keeps (fun b => b = w.heap.size) (w.alloc o) w') : Keeps (fun _ => False) w w' := ((Keeps.refl (fun _ => False) w).alloc o).trans2 h (fun b hb e => by omega)
set_option maxHeartbeats 2000000 in
theorem index_any (p t : List UInt8) (f : Nat) (w : World) (hp : p.length ≤ 1000) (ht : t.length ≤ 1000) (hf : f ≤ 1000000) : Calls Try.prog 5 #[.string ⟨t.toArray⟩, .string ⟨p.toArray⟩, .int .i64 f] w fun e w' => IxE p t f w e w' := by
  have HF := Lib.hid (find_idxs p t f w.heap.size _ hp ht hf (CellIs.new w (-1)))
  go_enter Try.func5, Try.ntmps5
  go_wp2_with fail
  refine HF.out.mono ?_
  rintro e w3 ⟨z, rfl, hC, hI, hK⟩
  have hc := hC.cell
  have HI := Lib.hid hI
  have HK := Lib.hid (new_keeps hK)
  clear hC hI hK
  go_wp2_with fail
  go_ret
  exact ⟨z, rfl, HI.out, HK.out⟩
set_option maxHeartbeats 2000000 in
theorem count_any (p t : List UInt8) (w : World) (hp : p.length ≤ 1000) (ht : t.length ≤ 1000) : Calls Try.prog 6 #[.string ⟨t.toArray⟩, .string ⟨p.toArray⟩] w fun e w' => e = .returned (.int .i64 (cntM (mtL p t) (t.length + 1) : Nat)) ∧ Keeps (fun _ => False) w w' := by
  have HF := Lib.hid (find_cnts p t w.heap.size _ hp ht (CellIs.new w 0))
  go_enter Try.func6, Try.ntmps6
  go_wp2_with fail
  refine HF.out.mono ?_
  rintro e w3 ⟨rfl, hC, hK⟩
  have hc := hC.cell
  have HK := Lib.hid (new_keeps hK)
  clear hC hK
  go_wp2_with fail
  go_ret
  exact ⟨rfl, HK.out⟩
end Go.Proofs.Ytinogeobkljngaa
end
section
namespace Go.Proofs.Ytinogeobkljngaa
open Go.RowKit
set_option linter.unusedVariables false
set_option linter.unusedSimpArgs false
set_option maxRecDepth 100000

def dig (r : Int) : Bool := decide (48 ≤ r) && decide (r ≤ 57)
/-- A number of one or two digits. -/
def numN (rs : List Int) (s : PS) : Int :=
  if dig (pk rs s) then (if dig (pk rs ⟨s.pos + 1, s.deep, s.bad⟩) then (pk rs s - 48) * 10 + pk rs ⟨s.pos + 1, s.deep, s.bad⟩ - 48 else pk rs s - 48) else 0
def numS (rs : List Int) (s : PS) : PS :=
  if dig (pk rs s) then (if dig (pk rs ⟨s.pos + 1, s.deep, s.bad⟩) then ⟨s.pos + 2, s.deep, s.bad || decide (50 < numN rs s)⟩ else ⟨s.pos + 1, s.deep, s.bad⟩) else ⟨s.pos, s.deep, true⟩

def NumR (pb : Nat) (rv : Value) (rs : List Int) (s : PS) (w : World) (nv iv : Value) (wr : World) : Prop :=
  ∃ (i : Nat) (n : Int) (s' : PS), iv = .int .i64 i ∧ nv = .int .i64 n ∧ PaAt wr pb rv rs s' ∧ Keeps (OnlyP pb) w wr ∧ 0 ≤ n ∧ n ≤ 99 ∧
    ((i = 0 ∧ n = 0 ∧ s' = s) ∨ (i = 1 ∧ dig (pk rs s) = true ∧ n = pk rs s - 48 ∧ n ≤ 9 ∧ s' = ⟨s.pos + 1, s.deep, s.bad⟩) ∨
     (i = 2 ∧ dig (pk rs s) = true ∧ dig (pk rs ⟨s.pos + 1, s.deep, s.bad⟩) = true ∧ n = numN rs s ∧ s' = ⟨s.pos + 2, s.deep, s.bad⟩))

end Go.Proofs.Ytinogeobkljngaa
end
section
namespace Go.Proofs.Ytinogeobkljngaa
open Go.RowKit
set_option linter.unusedVariables false
set_option linter.unusedSimpArgs false
set_option maxRecDepth 100000

/-- Behind an opened brace. -/
def brA (rs : List Int) (s : PS) : Int := numN rs s
def br3 (rs : List Int) (s : PS) : PS := ⟨(numS rs s).pos + 1, (numS rs s).deep, (numS rs s).bad⟩
def brB (rs : List Int) (s : PS) : Int := if pk rs (numS rs s) = 44 then (if pk rs (br3 rs s) = 125 then -1 else numN rs (br3 rs s)) else numN rs s
def brS (rs : List Int) (s : PS) : PS :=
  if pk rs (numS rs s) = 44 then
    (if pk rs (br3 rs s) = 125 then wt rs 125 (br3 rs s)
     else wt rs 125 ⟨(numS rs (br3 rs s)).pos, (numS rs (br3 rs s)).deep, (numS rs (br3 rs s)).bad || decide (numN rs (br3 rs s) < numN rs s)⟩)
  else wt rs 125 (numS rs s)
/-- A count: least, most, is there one; and the state behind it. -/
def cntV (rs : List Int) (s : PS) : Int × Int × Bool :=
  if pk rs s = 63 then (0, 1, true) else if pk rs s = 43 then (1, -1, true) else if pk rs s = 42 then (0, -1, true)
  else if pk rs s = 123 then (brA rs ⟨s.pos + 1, s.deep, s.bad⟩, brB rs ⟨s.pos + 1, s.deep, s.bad⟩, true) else (0, 0, false)
def cntS (rs : List Int) (s : PS) : PS :=
  if pk rs s = 63 ∨ pk rs s = 43 ∨ pk rs s = 42 then ⟨s.pos + 1, s.deep, s.bad⟩ else if pk rs s = 123 then brS rs ⟨s.pos + 1, s.deep, s.bad⟩ else s

theorem numS_pos (rs : List Int) (s : PS) : s.pos ≤ (numS rs s).pos ∧ (numS rs s).pos ≤ s.pos + 2 := by
  unfold numS
  split
  · split
    · exact ⟨by show s.pos ≤ s.pos + 2; omega, Nat.le_refl _⟩
    · exact ⟨by show s.pos ≤ s.pos + 1; omega, by show s.pos + 1 ≤ s.pos + 2; omega⟩
  · exact ⟨Nat.le_refl _, by show s.pos ≤ s.pos + 2; omega⟩

theorem numN_le (rs : List Int) (s : PS) (h : ∀ r ∈ rs, 0 ≤ r ∧ r ≤ 1114111) : numN rs s ≤ 1000000000 ∧ -1000000000 ≤ numN rs s := by
  unfold numN
  split
  · rename_i h1
    split
    · rename_i h2
      simp [dig] at h1 h2
      omega
    · simp [dig] at h1
      omega
  · omega
end Go.Proofs.Ytinogeobkljngaa
end
section
namespace Go.Proofs.Ytinogeobkljngaa
set_option linter.unusedVariables false
set_option linter.unusedSimpArgs false

structure NotInv (l : List (Int × Int)) (i : Nat) (next : Int) (ns : List (Int × Int)) : Prop where
  nrm : Norm ns
  n0 : 0 ≤ next
  n1 : next ≤ 1114112
  gap : ∀ q ∈ ns, q.2 + 2 ≤ next
  has : ∀ r, mem ns r = (decide (0 ≤ r) && decide (r < next) && !mem (l.take i) r)
  rest : ∀ p ∈ l.drop i, next ≤ p.1
  done : ∀ r, mem (l.take i) r = true → r < next
  len : ns.length ≤ i

theorem NotInv.start (l : List (Int × Int)) (h : Norm l) : NotInv l 0 0 [] :=
  ⟨trivial, by omega, by omega, by simp, fun r => by
    rw [mem_nil]; symm
    have : (decide (0 ≤ r) && decide (r < 0)) = false := by
      rw [Bool.and_eq_false_iff, decide_eq_false_iff_not, decide_eq_false_iff_not]; omega
    rw [this]; rfl,
   fun p hp => (h.rng p (by simpa using hp)).1, fun r hr => by simp [mem] at hr, Nat.le_refl _⟩

theorem norm_drop (l : List (Int × Int)) (h : Norm l) (i : Nat) (p : Int × Int) (hp : l[i]? = some p) : ∀ q ∈ l.drop (i + 1), p.2 + 2 ≤ q.1 := by
  induction l generalizing i with
  | nil => simp at hp
  | cons x l ih =>
    cases i with
    | zero => simp at hp; subst hp; simpa using h.2.2.2.1
    | succ j => simpa using ih h.tail j (by simpa using hp)

theorem NotInv.step {l : List (Int × Int)} {i : Nat} {next : Int} {ns : List (Int × Int)} {p : Int × Int} (h : NotInv l i next ns) (hl : Norm l) (hp : l[i]? = some p) :
    (next < p.1 → NotInv l (i + 1) (p.2 + 1) (ns ++ [(next, p.1 - 1)])) ∧ (¬ next < p.1 → NotInv l (i + 1) (p.2 + 1) ns) := by
  have hr := hl.rng p (List.mem_of_getElem? hp)
  have n0 := h.n0
  have hd : l.drop i = p :: l.drop (i + 1) := by
    have hi := (List.getElem?_eq_some_iff.1 hp)
    obtain ⟨hi, e⟩ := hi
    rw [List.drop_eq_getElem_cons hi, e]
  have hle := h.rest p (by rw [hd]; simp)
  have hsn : l.take (i + 1) = l.take i ++ [p] := by rw [List.take_add_one, hp]; rfl
  have hrest : ∀ q ∈ l.drop (i + 1), p.2 + 1 ≤ q.1 := fun q hq => by have := norm_drop l hl i p hp q hq; omega
  have hdone : ∀ r, mem (l.take (i + 1)) r = true → r < p.2 + 1 := by
    intro r hr'
    rw [hsn, mem_append, mem_one, Bool.or_eq_true, Bool.and_eq_true, decide_eq_true_eq, decide_eq_true_eq] at hr'
    rcases hr' with h1 | h1
    · have := h.done r h1; omega
    · omega
  have hm : ∀ r, next ≤ r → mem (l.take i) r = false := by
    intro r hn
    cases hq : mem (l.take i) r
    · rfl
    · have := h.done r hq; omega
  constructor
  · intro hlt
    refine ⟨norm_append ns _ h.nrm h.n0 (by simp only; omega) (by simp only; omega) h.gap, by omega, by omega, ?_, ?_, hrest, hdone, by simp; exact h.len⟩
    · intro q hq
      rcases List.mem_append.1 hq with hq | hq
      · have := h.gap q hq; omega
      · simp at hq; subst hq; simp only; omega
    · intro r
      rw [mem_append, h.has, hsn, mem_append, mem_one, mem_one]
      by_cases a : r < next
      · have e1 : decide (next ≤ r) = false := by simp; omega
        have e2 : decide (p.1 ≤ r) = false := by simp; omega
        have e3 : decide (r < p.2 + 1) = decide (r < next) := by rw [decide_eq_decide]; omega
        rw [e1, e2, e3]; simp
      · have e0 := hm r (by omega)
        have e1 : decide (r < next) = false := by simp; omega
        rw [e0, e1]
        rw [Bool.eq_iff_iff]
        simp only [Bool.and_false, Bool.false_and, Bool.false_or, Bool.and_eq_true, decide_eq_true_eq, Bool.not_eq_true', Bool.and_eq_false_iff, decide_eq_false_iff_not]
        omega
  · intro hge
    have he : next = p.1 := by omega
    refine ⟨h.nrm, by omega, by omega, fun q hq => by have := h.gap q hq; omega, ?_, hrest, hdone, by have := h.len; omega⟩
    intro r
    rw [h.has, hsn, mem_append, mem_one]
    by_cases a : r < next
    · have e2 : decide (p.1 ≤ r) = false := by simp; omega
      have e3 : decide (r < p.2 + 1) = decide (r < next) := by rw [decide_eq_decide]; omega
      rw [e2, e3]; simp
    · have e0 := hm r (by omega)
      have e1 : decide (r < next) = false := by simp; omega
      rw [e0, e1]
      rw [Bool.eq_iff_iff]
      simp only [Bool.and_false, Bool.false_and, Bool.false_or, Bool.and_eq_true, decide_eq_true_eq, Bool.not_eq_true', Bool.and_eq_false_iff, decide_eq_false_iff_not]
      constructor
      · intro h; cases h
      · intro h; omega

/-- What is not in the ranges rs: a set. -/
def IsNot (rs out : List (Int × Int)) : Prop := Norm out ∧ ∀ r, mem out r = (inAll r && !has rs r)

theorem NotInv.fin {rs l : List (Int × Int)} {next : Int} {ns : List (Int × Int)} (h : NotInv l l.length next ns) (hl : IsOf rs l) :
    (next ≤ 1114111 → IsNot rs (ns ++ [(next, 1114111)])) ∧ (¬ next ≤ 1114111 → IsNot rs ns) := by
  have ht : l.take l.length = l := List.take_length
  have hh := h.has
  have hd := h.done
  rw [ht] at hd
  simp only [ht] at hh
  have hm : ∀ r, next ≤ r → mem l r = false := by
    intro r hn
    cases hq : mem l r
    · rfl
    · have := hd r hq; omega
  constructor
  · intro hle
    refine ⟨norm_append ns _ h.nrm h.n0 (by simp only; omega) (by simp only; omega) h.gap, fun r => ?_⟩
    rw [mem_append, hh, mem_one, ← hl.2]
    unfold inAll
    have n0 := h.n0
    by_cases a : r < next
    · have e1 : decide (next ≤ r) = false := by simp; omega
      have e2 : decide (r ≤ 1114111) = true := by simp; omega
      have e3 : decide (r < next) = true := by simp; omega
      rw [e1, e2, e3]; simp
    · have e0 := hm r (by omega)
      have e1 : decide (r < next) = false := by simp; omega
      have e2 : decide (next ≤ r) = true := by simp; omega
      have e3 : decide (0 ≤ r) = true := by simp; omega
      rw [e0, e1, e2, e3]; simp
  · intro hgt
    refine ⟨h.nrm, fun r => ?_⟩
    rw [hh, ← hl.2]
    unfold inAll
    have n1 := h.n1
    have : decide (r < next) = decide (r ≤ 1114111) := by rw [decide_eq_decide]; omega
    rw [this]
end Go.Proofs.Ytinogeobkljngaa
end
section
namespace Go.Proofs.Ytinogeobkljngaa
open Go.RowKit
set_option linter.unusedVariables false
set_option linter.unusedSimpArgs false
set_option maxRecDepth 100000

/-- At the loop's head: the row, the next number, the counter. -/
def NotR (w1 : World) (out : List (Int × Int)) (v nx i : Value) (wr : World) : Prop :=
  ∃ (k : Nat) (next : Int) (ns : List (Int × Int)), i = .int .i64 k ∧ nx = .int .i64 next ∧ k ≤ out.length ∧ NotInv out k next ns ∧ ROwn w1 wr v ns

end Go.Proofs.Ytinogeobkljngaa
end
section
namespace Go.Proofs.Ytinogeobkljngaa
open Go.RowKit
set_option linter.unusedVariables false
set_option linter.unusedSimpArgs false
set_option maxRecDepth 100000

theorem cell_new (w : World) (cs : Array Value) (T : TypeId) (o : Nat) : (w.alloc (.cells cs T)).cell? ⟨w.heap.size, o, none⟩ = cs[o]? :=
  cell_block (cs := cs) (T := T) (fz := (0, 0)) (by show (w.heap.push _)[_]? = _; simp) o
def cat2 (xs ys : List (Int × Int)) (k : Nat) : List (Int × Int) := (if 1 ≤ k then xs else []) ++ (if 2 ≤ k then ys else [])
theorem cat2_0 (xs ys : List (Int × Int)) : cat2 xs ys 0 = [] := rfl
theorem cat2_1 (xs ys : List (Int × Int)) : cat2 xs ys 1 = xs := by simp [cat2]
theorem cat2_2 (xs ys : List (Int × Int)) : cat2 xs ys 2 = xs ++ ys := by simp [cat2]
theorem encR_one (l : List (Int × Int)) : ∀ u ∈ cellsOf 2 encR l, u.oneCell' = true := by
  intro u hu
  unfold cellsOf at hu
  rw [List.mem_flatMap] at hu
  obtain ⟨x, _, hx⟩ := hu
  rw [encR_cells] at hx
  simp at hx
  rcases hx with rfl | rfl <;> rfl

def Cat1 (xs ys : List (Int × Int)) (sv kv : Value) : Prop := ∃ k : Nat, kv = .int .i64 k ∧ k ≤ 2 ∧ sv = .int .i64 (cat2 xs ys k).length
def Cat2 (w : World) (xs ys : List (Int × Int)) (u kv : Value) (wr : World) : Prop := ∃ k : Nat, kv = .int .i64 k ∧ k ≤ 2 ∧ ROwn w wr u (cat2 xs ys k)

/-- The two together: a set. -/
def IsOr (xs ys out : List (Int × Int)) : Prop := Norm out ∧ ∀ r, mem out r = (has xs r || has ys r)
def IsAnd (xs ys out : List (Int × Int)) : Prop := Norm out ∧ ∀ r, mem out r = (has xs r && has ys r)
theorem in64_append {xs ys : List (Int × Int)} (hx : ∀ p ∈ xs, in64 p.1 ∧ in64 p.2) (hy : ∀ p ∈ ys, in64 p.1 ∧ in64 p.2) : ∀ p ∈ xs ++ ys, in64 p.1 ∧ in64 p.2 := by
  intro p hp
  rcases List.mem_append.1 hp with h | h
  · exact hx p h
  · exact hy p h

end Go.Proofs.Ytinogeobkljngaa
end
section
namespace Go.Proofs.Ytinogeobkljngaa
open Go.RowKit
set_option linter.unusedVariables false
set_option linter.unusedSimpArgs false
set_option maxRecDepth 100000

theorem rsl_new (w : World) (l : List (Int × Int)) (n : Nat) (hn : l.length = n) (T : TypeId) (hl : l.length ≤ 1000) (h : ∀ p ∈ l, in64 p.1 ∧ in64 p.2) : RSl (w.alloc (.cells (cellsOf 2 encR l).toArray T)) (.slice (some ⟨w.heap.size, 0, none⟩) n n) l := by
  subst hn
  refine ⟨⟨_, _, rfl, ⟨Nat.le_refl _, (fun h => by cases h)⟩, by omega, fun h0 => ⟨_, 0, rfl, fun i x hx j hj => ?_⟩⟩, h⟩
  rw [cell_new]
  have := cellsOf_get 2 encR l i x hx j hj
  simpa using this

theorem wpList_append_rsl {w : World} {ops : Array Oper} {rest : List Oper} {o : Oper} {a : Act} {Q : Exit → Act → World → Prop} (hgd : o.guard = none) (s x : Operand)
    (ho : o.op = .call { callee := .builtin .append, args := #[s, x], argTypes := #[28, 28] })
    (base : Nat) (v : Value) (n : Nat) (xs : List Value) (hs : a.eval s = v) (hown : w.ownsRow base 57 2 v n xs)
    (xv : Value) (l : List (Int × Int)) (hx : a.eval x = xv) (hr : RSl w xv l) (h63 : n + l.length ≤ 1000000) (hbase : base ≤ w.heap.size)
    (h : ∀ v' w', w'.ownsRow base 57 2 v' (n + l.length) (xs ++ cellsOf 2 encR l) → w.grownBy w' v.ownBlock → wpList Try.prog ops Q rest (a.put o.dst v') w') : wpList Try.prog ops Q (o :: rest) a w := by
  obtain ⟨i0, hi, hz0, hz1, hz2⟩ := info_parts info_range
  rcases hr.1.news (by omega) with ⟨rfl, rfl⟩ | ⟨ad, c, rfl, hnews⟩
  · refine wpList_append_own_none hgd s x 28 ho base 57 i0 2 Try.underlying28 hi v n xs hs hown hx (hs ▸ h v w ?_ ?_)
    · simpa [cellsOf] using hown
    · exact ⟨rfl, rfl, rfl, Nat.le_refl _, fun _ _ _ => rfl⟩
  · exact wpList_append_own _ hgd s x 28 ho base 57 i0 _ 2 16 Try.underlying28 hi hz0 hz1 hz2 rfl (by decide) v n xs hs hown ad _ c _ hx (cellsOf_length _ _ _) hnews (encR_one _) (by unfold maxLen; omega) (by omega) hbase
      (fun v' w' h1 h2 _ => h v' w' h1 h2)

theorem rsl_open {H : Type} {enc : TypeId × Value → H} {w : World} {base : Nat} {spare : Nat → Bool} {held : Bool} {a : Option Addr} {len cap : Nat} {x : DataW H × List MemPlace} (hl : len ≤ 100)
    (h : ∃ fuel, DataW.trod enc Try.prog w base spare held fuel 28 (Value.slice a len cap).cells.toList = some x) : ∃ l : List (Int × Int), l.length = len ∧ RSl w (.slice a len cap) l := by
  obtain ⟨fuel, hf⟩ := h
  rcases Deep.open_slice_pairs Try.underlying28 Try.underlying57 (by kernel_rfl) rfl rfl (by kernel_rfl) (by kernel_rfl) hf with ⟨hcs, _⟩ | ⟨a', len', cap', m, n, V0, V1, D0, D1, P0, P1, hcs, _, hlc, hcm, hm, _, hx⟩
  · simp [Value.cells] at hcs
    obtain ⟨rfl, rfl, rfl⟩ := hcs
    exact ⟨[], rfl, SlOf.nil _ _ _, by simp⟩
  · simp [Value.cells] at hcs
    obtain ⟨rfl, rfl, rfl⟩ := hcs
    have hlm : len ≤ m := by rw [hm]; split <;> omega
    have hv : ∀ i, i < len → ∃ x y : Int, V0 i = .int .i64 x ∧ V1 i = .int .i64 y ∧ in64 x ∧ in64 y := by
      intro i hi
      obtain ⟨_, _, h0, h1⟩ := hx i (by omega)
      obtain ⟨x, e0, _, w0⟩ := DataW.trod_int Try.underlying3 h0
      obtain ⟨y, e1, _, w1⟩ := DataW.trod_int Try.underlying3 h1
      simp [Lit.wf, IntKind.min, IntKind.max, IntKind.signed, IntKind.bits] at w0 w1
      simp at e0 e1
      exact ⟨x, y, e0, e1, by unfold in64; omega, by unfold in64; omega⟩
    have hsp : len ≠ 0 → a'.spot = none := by
      intro hne
      have h1 := (hx 0 (by omega)).1
      simpa [Addr.add] using World.cell?_spot h1
    refine ⟨(List.range len).map fun i => (intOf (V0 i), intOf (V1 i)), by simp, ⟨some a', cap, by simp, ⟨by simpa using hlc, (fun h => by cases h)⟩, by simp; omega, fun h0 => ?_⟩, ?_⟩
    · obtain ⟨b, off, spot⟩ := a'
      simp at h0
      have := hsp (by omega)
      simp at this
      subst this
      refine ⟨b, off, rfl, fun i p hp j hj => ?_⟩
      have hi : i < len := by
        rcases Nat.lt_or_ge i len with h | h
        · exact h
        · rw [List.getElem?_eq_none (by simpa using h)] at hp; cases hp
      simp [hi] at hp
      subst hp
      obtain ⟨x, y, e0, e1, _, _⟩ := hv i hi
      obtain ⟨c0, c1, _, _⟩ := hx i (by omega)
      have hadd : ∀ k, (⟨b, off, none⟩ : Addr).add k = ⟨b, off + k, none⟩ := by intro k; unfold Addr.add; split <;> simp_all
      rw [hadd] at c0 c1
      have : j = 0 ∨ j = 1 := by omega
      rcases this with rfl | rfl
      · rw [Nat.add_zero, c0, e0]; rfl
      · rw [Nat.add_assoc, c1, e1]; rfl
    · intro p hp
      obtain ⟨i, hi, rfl⟩ := List.mem_map.1 hp
      obtain ⟨x, y, e0, e1, a0, a1⟩ := hv i (by simpa using hi)
      simp only [e0, e1]
      exact ⟨a0, a1⟩
end Go.Proofs.Ytinogeobkljngaa
end
section
namespace Go.Proofs.Ytinogeobkljngaa
open Go.RowKit
set_option linter.unusedVariables false
set_option linter.unusedSimpArgs false
set_option maxRecDepth 100000

def digB (r : Int) : Bool := decide (48 ≤ r) && decide (r ≤ 57)
def wrdB (r : Int) : Bool := digB r || (decide (65 ≤ r) && decide (r ≤ 90)) || (decide (97 ≤ r) && decide (r ≤ 122)) || decide (r = 95)
def spcB (r : Int) : Bool := decide (r = 32) || (decide (9 ≤ r) && decide (r ≤ 13))
/-- What a name says of a number, and whether it is a name. -/
def namB (c r : Int) : Bool :=
  if c = 100 then digB r else if c = 119 then wrdB r else if c = 115 then spcB r else if c = 68 then !digB r else if c = 87 then !wrdB r else if c = 83 then !spcB r else false
def okN (c : Int) : Bool := decide (c = 100) || decide (c = 119) || decide (c = 115) || decide (c = 68) || decide (c = 87) || decide (c = 83)

structure FinN (r : Int) (d w s : Bool) : Prop where
  a1 : namB 100 r = d ∧ okN 100 = true
  a2 : namB 119 r = w ∧ okN 119 = true
  a3 : namB 115 r = s ∧ okN 115 = true
  a4 : namB 68 r = !d ∧ okN 68 = true
  a5 : namB 87 r = !w ∧ okN 87 = true
  a6 : namB 83 r = !s ∧ okN 83 = true
  a7 : ∀ c : Int, c ≠ 100 → c ≠ 119 → c ≠ 115 → c ≠ 68 → c ≠ 87 → c ≠ 83 → namB c r = false ∧ okN c = false
theorem fin_named (r : Int) {d w s : Bool} (hd : digB r = d) (hw : wrdB r = w) (hs : spcB r = s) : FinN r d w s := by
  subst hd hw hs
  exact ⟨⟨rfl, rfl⟩, ⟨rfl, rfl⟩, ⟨rfl, rfl⟩, ⟨rfl, rfl⟩, ⟨rfl, rfl⟩, ⟨rfl, rfl⟩, fun c h1 h2 h3 h4 h5 h6 => ⟨by simp [namB, h1, h2, h3, h4, h5, h6], by simp [okN, h1, h2, h3, h4, h5, h6]⟩⟩
end Go.Proofs.Ytinogeobkljngaa
end
section
namespace Go.Proofs.Ytinogeobkljngaa
open Go.RowKit
set_option linter.unusedVariables false
set_option linter.unusedSimpArgs false
set_option maxRecDepth 100000

theorem bits_other : ∀ c : Fin 256, okN (c.val : Int) = false → (bits BinOp.or IntKind.u8 (c.val : Int) 32 == 119) = false ∧ (bits BinOp.or IntKind.u8 (c.val : Int) 32 == 100) = false ∧ (bits BinOp.or IntKind.u8 (c.val : Int) 32 == 115) = false := of_decide_eq_true (by kernel_rfl)
end Go.Proofs.Ytinogeobkljngaa
end
section
namespace Go.Proofs.Ytinogeobkljngaa
open Go.RowKit
set_option linter.unusedVariables false
set_option linter.unusedSimpArgs false
set_option maxRecDepth 100000

/-- Is a code point one of an alphabet? -/
def amg (al : List UInt8) (r : Int) : Bool := decide (0 ≤ r) && decide (r < 128) && decide (0 ≤ Lib.indexByte al r.toNat.toUInt8)

end Go.Proofs.Ytinogeobkljngaa
end
