/-
  text.told: what it computes.
-/
import Derived.Test.YtibfioekmpnkgaaDoorTextT
namespace Go.Proofs.YtibfioekmpnkgaaDoor
open Go.RowKit
set_option linter.unusedVariables false
set_option linter.unusedSimpArgs false
set_option maxRecDepth 100000

theorem take_snoc_of {α : Type} {l : List α} {i : Nat} {x : α} (h : l[i]? = some x) : l.take (i + 1) = l.take i ++ [x] := by rw [List.take_add_one, h]; rfl
theorem cell_new' (w : World) (cs : Array Value) (T : TypeId) (o : Nat) : (w.alloc (.cells cs T)).cell? ⟨w.heap.size, o, none⟩ = cs[o]? :=
  cell_block (cs := cs) (T := T) (fz := (0, 0)) (by show (w.heap.push _)[_]? = _; simp) o
theorem line_eq (nm out : List UInt8) : (⟨nm.toArray⟩ : ByteArray) ++ ⟨#[58]⟩ ++ ⟨out.toArray⟩ = ⟨(nm ++ [58] ++ out).toArray⟩ := by
  apply ByteArray.ext
  simp [ByteArray.data_append]
structure Fld where
  nm : List UInt8
  T : Nat
  a : Addr
  out : List UInt8
/-- What a field prints in w. -/
def Prt (w : World) (f : Fld) : Prop :=
  (f.T = 50 ∧ ((w.cell? f.a = some (.int .i64 0) ∧ f.out = []) ∨ ∃ n : Nat, 0 < n ∧ n < 100 ∧ w.cell? f.a = some (.int .i64 n) ∧ f.out = Lib.decDigits n)) ∨
  (f.T = 57 ∧ ∃ l : List UInt8, l.length ≤ 1000 ∧ w.cell? f.a = some (.string ⟨l.toArray⟩) ∧ f.out = wordL l) ∨
  ((f.T = 81 ∨ f.T = 84) ∧ w.cell? f.a = some (.slice none 0 0) ∧ f.out = [])
theorem Prt.keep {w w' : World} {f : Fld} (h : Prt w f) (K : Keeps (fun _ => False) w w') : Prt w' f := by
  rcases h with ⟨h1, h2⟩ | ⟨h1, l, h2, h3, h4⟩ | ⟨h1, h2, h3⟩
  · refine Or.inl ⟨h1, ?_⟩
    rcases h2 with ⟨h2, h3⟩ | ⟨n, a, b, c, d⟩
    · exact Or.inl ⟨K.cell h2 id, h3⟩
    · exact Or.inr ⟨n, a, b, K.cell c id, d⟩
  · exact Or.inr (Or.inl ⟨h1, l, h2, K.cell h3 id, h4⟩)
  · exact Or.inr (Or.inr ⟨h1, K.cell h2 id, h3⟩)
def fldLine (f : Fld) : List UInt8 := f.nm ++ [58] ++ f.out
def toldL (fs : List Fld) : List ByteArray := fs.filterMap fun f => if f.out = [] then none else some ⟨(fldLine f).toArray⟩
theorem toldL_snoc (fs : List Fld) (f : Fld) : toldL (fs ++ [f]) = toldL fs ++ (if f.out = [] then [] else [⟨(fldLine f).toArray⟩]) := by
  unfold toldL
  rw [List.filterMap_append]
  by_cases h : f.out = [] <;> simp [h]
theorem info_str : (Tryd.prog.info? 9).map (fun i => (i.zero, i.size, i.bytes)) = some (some (.string ⟨#[]⟩), 1, 16) := by kernel_rfl
theorem told_le (fs : List Fld) (i : Nat) (hl : fs.length ≤ 100) : (toldL (fs.take i)).length ≤ 1000 := by
  have h1 : (toldL (fs.take i)).length ≤ (fs.take i).length := List.length_filterMap_le _ _
  have h2 := List.length_take_le' i fs
  omega
theorem fin_keep {w wr w3 : World} (h : Keeps (fun _ => False) w wr) (k : Keeps (fun b => w.heap.size ≤ b) wr w3) : Keeps (fun _ => False) w w3 :=
  h.trans2 k (fun i hi e => by omega)
def ToldR (fs : List Fld) (w : World) (v iv : Value) (wr : World) : Prop :=
  ∃ i : Nat, iv = .int .i64 i ∧ i ≤ fs.length ∧ wr.ownsRow w.heap.size 9 1 v (toldL (fs.take i)).length ((toldL (fs.take i)).map Value.string) ∧ Keeps (fun _ => False) w wr

theorem meth_number (a : Addr) (w : World) : (method 219 50 (.agg #[.pointer (some a)]) "reedbed/text.print").run Tryd.prog w = .ok (48, .agg #[.pointer (some a)]) w := by kernel_rfl
theorem meth_words (a : Addr) (w : World) : (method 219 57 (.agg #[.pointer (some a)]) "reedbed/text.print").run Tryd.prog w = .ok (63, .agg #[.pointer (some a)]) w := by kernel_rfl
theorem meth_numbers (a : Addr) (w : World) : (method 219 81 (.agg #[.pointer (some a)]) "reedbed/text.print").run Tryd.prog w = .ok (65, .agg #[.pointer (some a)]) w := by kernel_rfl
theorem meth_octets (a : Addr) (w : World) : (method 219 84 (.agg #[.pointer (some a)]) "reedbed/text.print").run Tryd.prog w = .ok (67, .agg #[.pointer (some a)]) w := by kernel_rfl
set_option maxHeartbeats 4000000 in
theorem told_any (fs : List Fld) (fb c : Nat) (w : World) (hl : fs.length ≤ 100) (hcap : fs.length ≤ c)
    (hc : ∀ (i : Nat) (f : Fld), fs[i]? = some f → w.cell? ⟨fb, i * 2, none⟩ = some (.string ⟨f.nm.toArray⟩) ∧ w.cell? ⟨fb, i * 2 + 1, none⟩ = some (.iface f.T (.agg #[.pointer (some f.a)])) ∧ Prt w f ∧ f.nm.length ≤ 100) :
    Calls Tryd.prog 13 #[.slice (some ⟨fb, 0, none⟩) fs.length c] w fun e w' => ∃ v, e = .returned v ∧ w'.ownsRow w.heap.size 9 1 v (toldL fs).length ((toldL fs).map Value.string) ∧ Keeps (fun _ => False) w w' := by
  obtain ⟨i0, hi0, hz0, hz1, hz2⟩ := info_parts info_str
  have HC := Lib.hid hc
  clear hc
  go_enter Tryd.func13, Tryd.ntmps13
  go_wp2_with fail
  go_loopw [3, 9] (fun v iv wr => ToldR fs w v iv wr) (fun _ iv _ => fs.length - (intOf iv).toNat)
  case atStart => exact ⟨0, rfl, Nat.zero_le _, World.ownsRow_nil _ _ _ _, Keeps.refl _ _⟩
  case round =>
    obtain ⟨i, rfl, hi, hown, hk⟩ := hrel
    by_cases hil : i < fs.length
    · obtain ⟨f, hf⟩ : ∃ f, fs[i]? = some f := ⟨_, List.getElem?_eq_getElem hil⟩
      obtain ⟨q1, q2, q3, q4⟩ := HC.out i f hf
      have e1 := hk.cell q1 id
      have e2 := hk.cell q2 id
      have q5 := q3.keep hk
      have Htk : Hid (fs.take (i + 1) = fs.take i ++ [f]) := Lib.hid (take_snoc_of hf)
      clear q1 q2 q3 hf
      obtain ⟨nm, T, a, out⟩ := f
      simp only at *
      have m1 := meth_number a
      have m2 := meth_words a
      have m3 := meth_numbers a
      have m4 := meth_octets a
      have ka := (Keeps.refl (fun _ => False) wr).alloc (.cells #[.string ⟨nm.toArray⟩, .iface T (.agg #[.pointer (some a)])] 54)
      rcases q5 with ⟨rfl, q5⟩ | ⟨rfl, l, h2, h3, rfl⟩ | ⟨h1, h2, rfl⟩
      · rcases q5 with ⟨q5, rfl⟩ | ⟨n, n0, n1, q5, rfl⟩
        · go_wp2_with fail
          refine (number_zero a _ (ka.cell q5 id)).mono ?_
          rintro e w2 ⟨rfl, hk2⟩
          have hkk := ka.trans hk2
          go_wp2_with fail
          go_roundw
          case rel => exact ⟨i + 1, by go_num, by omega, by rw [Htk.out, toldL_snoc]; simpa using ownsRow_keeps hown hkk (fun _ _ => id), hk.trans hkk⟩
          case measure => simp [intOf]; omega
        · go_wp2_with fail
          refine (number_small a n _ (ka.cell q5 id) n0 n1).mono ?_
          rintro e w2 ⟨rfl, hk2⟩
          have hkk := ka.trans hk2
          have x0 : w2.cell? ⟨wr.heap.size, 0, none⟩ = some (.string ⟨nm.toArray⟩) := hk2.cell (by rw [cell_new']; rfl) id
          have hne : Lib.decDigits n ≠ [] := by
            by_cases h10 : n < 10
            · rw [Lib.decDigits_one h10]; simp
            · rw [Lib.decDigits_two h10 n1]; simp
          have hnl : (Lib.decDigits n).length ≤ 2 := by
            by_cases h10 : n < 10
            · rw [Lib.decDigits_one h10]; simp
            · rw [Lib.decDigits_two h10 n1]; simp
          generalize Lib.decDigits n = out at *
          have Hlen : (toldL (fs.take i)).length ≤ 1000 := told_le fs i hl
          have hne' : (!out.isEmpty) = true := by cases out with | nil => exact absurd rfl hne | cons _ _ => rfl
          have hne'' : out.isEmpty = false := by cases out with | nil => exact absurd rfl hne | cons _ _ => rfl
          go_wp2_with (at_builtin; refine wpList_append_own _ rfl (.tmp 18) (.tmp 24) 46 rfl w.heap.size 9 i0 (.string ⟨#[]⟩) 1 16 Tryd.underlying46 hi0 hz0 hz1 hz2 rfl (by decide) _ _ _ rfl ((ownsRow_keeps hown hkk (fun _ _ => id)).alloc _) ⟨w2.heap.size, 0, none⟩ 1 1 [.string (⟨nm.toArray⟩ ++ ⟨#[58]⟩ ++ ⟨out.toArray⟩)] rfl rfl (by exact cells_new _ [_] _) (by intro u hu; simp at hu; subst hu; rfl) ?d3 ?d4 ?d5 ?_)
          case d3 => unfold maxLen; have := Hlen; omega
          case d4 => have := Hlen; omega
          case d5 => have := hkk.size; have := hk.size; simp; omega
          intro v' w3 hown' hgrow _
          have hk3 : Keeps (fun b => w.heap.size ≤ b) wr w3 := ((hkk.mono (fun _ _ e => e.elim)).alloc (.cells #[.string (⟨nm.toArray⟩ ++ ⟨#[58]⟩ ++ ⟨out.toArray⟩)] 9)).grown hgrow (fun b hb => Or.inl (ownBlock_base hown b hb))
          go_wp2_with fail
          go_roundw
          case rel => exact ⟨i + 1, by go_num, by omega, by rw [Htk.out, toldL_snoc, if_neg hne]; rw [line_eq] at hown'; simpa [fldLine] using hown', fin_keep hk hk3⟩
          case measure => simp [intOf]; omega
      · have hwl := wordL_le l
        by_cases hwe : wordL l = []
        · have Hwe := Lib.hid hwe
          clear hwe
          go_wp2_with fail
          refine (words_any a l _ (ka.cell h3 id) (by omega)).mono ?_
          rintro e w2 ⟨rfl, hk2⟩
          have hkk := ka.trans hk2
          rw [Hwe.out]
          go_wp2_with fail
          go_roundw
          case rel => exact ⟨i + 1, by go_num, by omega, by rw [Htk.out, toldL_snoc, Hwe.out]; simpa using ownsRow_keeps hown hkk (fun _ _ => id), hk.trans hkk⟩
          case measure => simp [intOf]; omega
        · have Hwe := Lib.hid hwe
          clear hwe
          go_wp2_with fail
          refine (words_any a l _ (ka.cell h3 id) (by omega)).mono ?_
          rintro e w2 ⟨rfl, hk2⟩
          have hkk := ka.trans hk2
          have x0 : w2.cell? ⟨wr.heap.size, 0, none⟩ = some (.string ⟨nm.toArray⟩) := hk2.cell (by rw [cell_new']; rfl) id
          have hne : wordL l ≠ [] := Hwe.out
          have hnl : (wordL l).length ≤ 3000 := by omega
          clear Hwe
          generalize wordL l = out at *
          have Hlen : (toldL (fs.take i)).length ≤ 1000 := told_le fs i hl
          have hne' : (!out.isEmpty) = true := by cases out with | nil => exact absurd rfl hne | cons _ _ => rfl
          have hne'' : out.isEmpty = false := by cases out with | nil => exact absurd rfl hne | cons _ _ => rfl
          go_wp2_with (at_builtin; refine wpList_append_own _ rfl (.tmp 18) (.tmp 24) 46 rfl w.heap.size 9 i0 (.string ⟨#[]⟩) 1 16 Tryd.underlying46 hi0 hz0 hz1 hz2 rfl (by decide) _ _ _ rfl ((ownsRow_keeps hown hkk (fun _ _ => id)).alloc _) ⟨w2.heap.size, 0, none⟩ 1 1 [.string (⟨nm.toArray⟩ ++ ⟨#[58]⟩ ++ ⟨out.toArray⟩)] rfl rfl (by exact cells_new _ [_] _) (by intro u hu; simp at hu; subst hu; rfl) ?d3 ?d4 ?d5 ?_)
          case d3 => unfold maxLen; have := Hlen; omega
          case d4 => have := Hlen; omega
          case d5 => have := hkk.size; have := hk.size; simp; omega
          intro v' w3 hown' hgrow _
          have hk3 : Keeps (fun b => w.heap.size ≤ b) wr w3 := ((hkk.mono (fun _ _ e => e.elim)).alloc (.cells #[.string (⟨nm.toArray⟩ ++ ⟨#[58]⟩ ++ ⟨out.toArray⟩)] 9)).grown hgrow (fun b hb => Or.inl (ownBlock_base hown b hb))
          go_wp2_with fail
          go_roundw
          case rel => exact ⟨i + 1, by go_num, by omega, by rw [Htk.out, toldL_snoc, if_neg hne]; rw [line_eq] at hown'; simpa [fldLine] using hown', fin_keep hk hk3⟩
          case measure => simp [intOf]; omega
      · rcases h1 with rfl | rfl
        · go_wp2_with fail
          refine (numbers_none a _ (ka.cell h2 id)).mono ?_
          rintro e w2 ⟨rfl, hk2⟩
          have hkk := ka.trans hk2
          go_wp2_with fail
          go_roundw
          case rel => exact ⟨i + 1, by go_num, by omega, by rw [Htk.out, toldL_snoc]; simpa using ownsRow_keeps hown hkk (fun _ _ => id), hk.trans hkk⟩
          case measure => simp [intOf]; omega
        · go_wp2_with fail
          refine (octets_none a _ (ka.cell h2 id)).mono ?_
          rintro e w2 ⟨rfl, hk2⟩
          have hkk := ka.trans hk2
          go_wp2_with fail
          go_roundw
          case rel => exact ⟨i + 1, by go_num, by omega, by rw [Htk.out, toldL_snoc]; simpa using ownsRow_keeps hown hkk (fun _ _ => id), hk.trans hkk⟩
          case measure => simp [intOf]; omega
    · obtain rfl : i = fs.length := by omega
      have Ht : Hid (fs.take fs.length = fs) := Lib.hid (List.take_length)
      rw [Ht.out] at hown
      go_wp2_with fail
      go_ret
      exact ⟨_, rfl, hown, hk⟩
end Go.Proofs.YtibfioekmpnkgaaDoor
