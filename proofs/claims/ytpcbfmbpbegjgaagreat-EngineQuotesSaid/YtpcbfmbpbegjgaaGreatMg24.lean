/-
  Several texts in one: Plain laws of a quoted text's program: one instruction after the other. engine's Is, All. engine.Compile at a quoted text; what its engine answers. strings.Builder in a block of the call's own: what its methods do, with what else stays as it was.
-/
import Derived.Test.YtpcbfmbpbegjgaaGreatMg17
import Derived.Test.YtpcbfmbpbegjgaaGreatMg23
import Derived.Deep.RegionHeld3
import Derived.Test.YtpcbfmbpbegjgaaGreatMg1
import Derived.Test.YtpcbfmbpbegjgaaGreatProg
import Derived.Lib.Builder
import Derived.Lib.AppendStr
import Derived.Lib.UnsafeStr
import Derived.Laws.Externs
import Derived.Laws.IdiomCopy
section
namespace Go.Proofs.YtpcbfmbpbegjgaaGreat
open Go.RowKit
set_option linter.unusedVariables false
set_option linter.unusedSimpArgs false
set_option maxRecDepth 100000

def chn : Nat → List Int → List Ins
  | _, [] => [mI]
  | k, r :: rs => ⟨1, [(r, r)], k + 1, 0⟩ :: chn (k + 1) rs
theorem chn_len : ∀ (rs : List Int) (k : Nat), (chn k rs).length = rs.length + 1
  | [], _ => rfl
  | r :: rs, k => by simp [chn, chn_len rs (k + 1)]
theorem chn_at : ∀ (rs : List Int) (k i : Nat) (r : Int), rs[i]? = some r → (chn k rs)[i]? = some ⟨1, [(r, r)], k + i + 1, 0⟩
  | [], _, _, _, h => by simp at h
  | r :: rs, k, 0, q, h => by
    obtain rfl : r = q := by simpa using h
    rfl
  | r :: rs, k, i + 1, q, h => by
    rw [chn, List.getElem?_cons_succ, chn_at rs (k + 1) i q (by simpa using h)]
    congr 2; omega
theorem chn_end : ∀ (rs : List Int) (k : Nat), (chn k rs)[rs.length]? = some mI
  | [], _ => rfl
  | r :: rs, k => by rw [chn, List.length_cons, List.getElem?_cons_succ, chn_end rs (k + 1)]
theorem chn_fold : ∀ (rs : List Int) (is : List Ins), (rs.map fun r => fun is : List Ins => is ++ [chI [(r, r)] is.length]).foldl (fun a f => f a) is ++ [mI] = is ++ chn is.length rs
  | [], is => rfl
  | r :: rs, is => by
    rw [List.map_cons, List.foldl_cons, chn_fold rs]
    simp [chn, chI]
theorem chn_ok (rs : List Int) (k : Nat) (i : Ins) (h : (chn 0 rs)[k]? = some i) : okI (chn 0 rs).length i := by
  have hl := (List.getElem?_eq_some_iff.1 h).1
  rw [chn_len] at hl ⊢
  rcases Nat.lt_or_ge k rs.length with h1 | h1
  · obtain ⟨r, hr⟩ : ∃ r, rs[k]? = some r := ⟨_, List.getElem?_eq_getElem h1⟩
    rw [chn_at rs 0 k r hr] at h
    obtain rfl := Option.some.inj h
    exact Or.inr (Or.inl ⟨rfl, by simp; omega⟩)
  · obtain rfl : k = rs.length := by omega
    rw [chn_end] at h
    obtain rfl := Option.some.inj h
    exact Or.inl rfl
theorem put_chn (rs : List Int) (i : Nat) (h : i ≤ rs.length) : PtR (chn 0 rs) i ([], fun _ => false) ([i], updM (fun _ => false) i) := by
  rcases Nat.lt_or_ge i rs.length with h1 | h1
  · obtain ⟨r, hr⟩ : ∃ r, rs[i]? = some r := ⟨_, List.getElem?_eq_getElem h1⟩
    exact PtR.leaf rfl (chn_at rs 0 i r hr) (Or.inr rfl)
  · obtain rfl : i = rs.length := by omega
    exact PtR.leaf rfl (chn_end rs 0) (Or.inl rfl)
theorem has_one {r : Int} (h : isB r = true) : has [(r, r)] r = true := by
  have := isB_nat h
  unfold has mem inAll
  simp
  omega
theorem chn_stop (rs : List Int) (tx : List UInt8) (i p : Nat) (e : Int) (h : i < rs.length) (hp : tx.length ≤ p) : LongR (chn 0 rs) tx 0 [i] p e e := by
  obtain ⟨r, hr⟩ : ∃ r, rs[i]? = some r := ⟨_, List.getElem?_eq_getElem h⟩
  refine LongR.stop (M := fun _ => false) ?_
  rw [pointP_none hp]
  exact FoldR.miss (chn_at rs 0 i r hr) rfl (Or.inl rfl) (FoldR.nil _)
theorem chn_full (rs : List Int) (tx : List UInt8) (p : Nat) (e : Int) : LongR (chn 0 rs) tx 0 [rs.length] p e p :=
  LongR.stop (M := fun _ => false) (FoldR.mt (chn_end rs 0) rfl (FoldR.nil _))
theorem chn_long (rs : List Int) (hb : ∀ r ∈ rs, isB r = true) (tx : List UInt8) : ∀ (q : List Int) (i p : Nat) (e : Int), i ≤ rs.length → p ≤ tx.length → rs.drop i = q → pts (tx.drop p) = some q → LongR (chn 0 rs) tx q.length [i] p e tx.length := by
  intro q
  induction q with
  | nil =>
    intro i p e hi hp hd ht
    obtain rfl : i = rs.length := by
      have := congrArg List.length hd; simp at this; omega
    have hpl : p = tx.length := by
      have h1 := (pts_isB _ _ _ (Nat.le_refl _) ht).2
      have := congrArg List.length h1; simp at this; omega
    subst hpl
    exact chn_full rs tx _ e
  | cons r q ih =>
    intro i p e hi hp hd ht
    have hil : i < rs.length := by
      rcases Nat.lt_or_ge i rs.length with h | h
      · exact h
      · rw [List.drop_eq_nil_of_le h] at hd; cases hd
    have hr : rs[i]? = some r := by
      have := congrArg List.head? hd
      rw [List.head?_drop] at this; exact this
    have hd2 : rs.drop (i + 1) = q := by
      have := congrArg List.tail hd
      rw [List.tail_drop] at this; exact this
    have hx := chn_at rs 0 i r hr
    cases h1 : tx.drop p with
    | nil =>
      rw [h1] at ht
      cases ht
    | cons c t =>
      rw [h1, pts_cons] at ht
      by_cases hs : sizP (getP (c :: t)).1 = ((getP (c :: t)).2 : Int)
      · rw [if_pos hs, Option.map_eq_some_iff] at ht
        obtain ⟨q2, h2, h3⟩ := ht
        obtain ⟨hr1, rfl⟩ := List.cons.inj h3
        have hpos := (getP_pos c t).1
        have hle := getP_le c t
        have hl1 := congrArg List.length h1
        simp only [List.length_drop, List.length_cons] at hl1
        have h4 : pts (tx.drop (p + (getP (c :: t)).2)) = some q2 := by rw [← List.drop_drop, h1]; exact h2
        have IH := ih (i + 1) (p + (getP (c :: t)).2) e (by omega) (by omega) hd2 h4
        refine LongR.go (L' := [i + 1]) (M := updM (fun _ => false) (i + 1)) (e' := e) ?_ (by simp) (by simp) ?_
        · rw [pointP_some h1, hr1]
          refine FoldR.hit hx rfl hpos (has_one (hb r (List.mem_of_getElem? hr))) ?_ (FoldR.nil _)
          have := put_chn rs (i + 1) (by omega)
          rwa [show 0 + i + 1 = i + 1 by omega]
        · rw [pointP_some h1]
          exact IH
      · rw [if_neg hs] at ht; cases ht
/-- The places that are not below the end. -/
theorem plc_end : ∀ (f : Nat) (l : List UInt8) (a : Nat), l.length ≤ f → (plcP f l a).dropWhile (fun p => decide (p < a + l.length)) = if l = [] then [] else [a + l.length] := by
  intro f
  induction f with
  | zero =>
    intro l a h
    obtain rfl : l = [] := List.length_eq_zero_iff.1 (by omega)
    rfl
  | succ f ih =>
    intro l a h
    cases l with
    | nil => rfl
    | cons c t =>
      rw [if_neg (by simp)]
      have hpos := (getP_pos c t).1
      have hle := getP_le c t
      simp only [List.length_cons] at h
      have IH := ih ((c :: t).drop (getP (c :: t)).2) (a + (getP (c :: t)).2) (by rw [List.length_drop]; simp only [List.length_cons]; omega)
      have e : a + (getP (c :: t)).2 + ((c :: t).drop (getP (c :: t)).2).length = a + (c :: t).length := by
        rw [List.length_drop]; simp only [List.length_cons]; omega
      rw [e] at IH
      show ((a + (getP (c :: t)).2) :: plcP f ((c :: t).drop (getP (c :: t)).2) (a + (getP (c :: t)).2)).dropWhile _ = _
      by_cases h2 : (getP (c :: t)).2 = (c :: t).length
      · rw [h2, List.drop_length]
        have : plcP f [] (a + (c :: t).length) = [] := by cases f <;> rfl
        rw [this, List.dropWhile_cons_of_neg (by simp)]
      · simp only [List.length_cons] at h2
        rw [List.dropWhile_cons_of_pos (by simp; omega), IH, if_neg (by intro h3; have := congrArg List.length h3; simp at this; omega)]
theorem places_end {l : List UInt8} (h : l ≠ []) : (places l).dropWhile (fun p => decide (p < l.length)) = [l.length] := by
  have := plc_end l.length l 0 (Nat.le_refl _)
  rw [if_neg h] at this
  have h0 := List.length_pos_iff.2 h
  unfold places
  rw [List.dropWhile_cons_of_pos (by simpa using h0)]
  simpa using this
theorem dropWhile_zero (l : List Nat) : l.dropWhile (fun p => decide (p < 0)) = l := by
  cases l with
  | nil => rfl
  | cons a t => exact List.dropWhile_cons_of_neg (by simp)
theorem first_whole (rs : List Int) (tx : List UInt8) (h : pts tx = some rs) (l : List Nat) : FirstR (chn 0 rs) tx [0] (rs.length + 1) (0 :: l) (0, tx.length, true) :=
  FirstR.hit (Nat.zero_le _) (chn_long rs (pts_isB _ _ _ (Nat.le_refl _) h).1 tx rs 0 0 (-1) (Nat.zero_le _) (Nat.zero_le _) rfl h) (by omega)
theorem first_end (rs : List Int) (tx : List UInt8) (h : rs ≠ []) : FirstR (chn 0 rs) tx [0] 1 [tx.length] (0, 0, false) :=
  FirstR.miss (k := 0) (m := 0) (Nat.le_refl _) (chn_stop rs tx 0 tx.length (-1) (List.length_pos_iff.2 h) (Nat.le_refl _)) (by omega) FirstR.none
end Go.Proofs.YtpcbfmbpbegjgaaGreat
end
section
namespace Go.Proofs.YtpcbfmbpbegjgaaGreat
open Go.RowKit
set_option linter.unusedVariables false
set_option linter.unusedSimpArgs false
set_option maxRecDepth 100000

/-- It's plain that a text has no match. -/
def HopeL (pre tx : List UInt8) : Prop := pre ≠ [] ∧ (∀ a, a ≤ tx.length → mtL pre tx a = false) ∧ (pts tx).isSome = true
def NotHopeL (pre tx : List UInt8) : Prop := pre = [] ∨ (∃ a, a ≤ tx.length ∧ mtL pre tx a = true) ∨ (pts tx).isSome = false
theorem hope_yes {pre tx : List UInt8} (h : HopeL pre tx) {z : Int} (hz : pre ≠ [] → IdxAt (mtL pre tx) tx.length 0 z) : (!pre.isEmpty && (decide (z < 0) && (pts tx).isSome)) = true := by
  obtain ⟨h1, h2, h3⟩ := h
  have hz1 : z < 0 := by
    rcases Int.lt_or_le z 0 with h | h
    · exact h
    · obtain ⟨a, _, _, ha, hm, _⟩ := idx_some (hz h1) h
      rw [h2 a ha] at hm; cases hm
  have : pre.isEmpty = false := by cases pre <;> simp_all
  simp [this, h3, hz1]
theorem hope_no {pre tx : List UInt8} (h : NotHopeL pre tx) {z : Int} (hz : pre ≠ [] → IdxAt (mtL pre tx) tx.length 0 z) : (!pre.isEmpty && (decide (z < 0) && (pts tx).isSome)) = false := by
  by_cases h0 : pre = []
  · simp [h0]
  · rcases h with h | ⟨a, ha, hm⟩ | h
    · exact absurd h h0
    · have hz1 : ¬ z < 0 := by
        intro h
        have := idx_none (hz h0) h a (Nat.zero_le _) ha
        rw [this] at hm; cases hm
      simp [hz1]
    · simp [h]
set_option maxHeartbeats 4000000 in
theorem eis_no (eb : Nat) (P : Nat → Prop) (pv : Value) (is : List Ins) (r : List UInt8 × Bool) (tx : List UInt8) (w : World) (h : EngAt w P eb pv is r) (hr : r.1.length ≤ 1000) (htx : tx.length ≤ 1000) (hh : HopeL r.1 tx) :
    Calls Tryz.prog 9 #[.pointer (some ⟨eb, 0, none⟩), .string ⟨tx.toArray⟩] w fun e w' => e = .returned (.bool false) ∧ Keeps (fun _ => False) w w' := by
  have HH := Lib.hid (hopeless_any eb P pv is r tx w h hr htx)
  have HY := Lib.hid (fun z => hope_yes hh (z := z))
  clear h hh
  go_enter Tryz.func9, Tryz.ntmps9
  go_wp2_with fail
  refine HH.out.mono ?_
  rintro e w2 ⟨⟨z, hz, rfl⟩, k2⟩
  rw [HY.out z hz]
  have K2 := Lib.hid k2
  clear k2 hz
  go_wp2_with fail
  go_ret
  exact ⟨rfl, K2.out⟩
set_option maxHeartbeats 4000000 in
theorem eis_match (eb : Nat) (pv : Value) (is : List Ins) (r : List UInt8 × Bool) (tx : List UInt8) (w : World) (M : Nat) (fin : Int × Int × Bool) (s0 : List Nat × (Nat → Bool)) (h : EngAt w (fun b => b < w.heap.size) eb pv is r) (hr : r.1.length ≤ 1000) (htx : tx.length ≤ 1000) (hh : NotHopeL r.1 tx)
    (hok : ∀ (k : Nat) (i : Ins), is[k]? = some i → okI is.length i) (h0 : 0 < is.length) (his : is.length ≤ 1000) (hp : PtR is 0 ([], fun _ => false) s0) (hs0 : s0.1.length ≤ 1000) (hf : FirstR is tx s0.1 M (places tx) fin) (hM : M ≤ 900000) (hpl : (places tx).length ≤ 100000) :
    Calls Tryz.prog 9 #[.pointer (some ⟨eb, 0, none⟩), .string ⟨tx.toArray⟩] w fun e w' => e = .returned (.bool fin.2.2) ∧ Keeps (fun _ => False) w w' := by
  have HH := Lib.hid (hopeless_any eb _ pv is r tx w h hr htx)
  have HY := Lib.hid (fun z => hope_no hh (z := z))
  have HF := Lib.hid (fun W (K : Keeps (fun _ => False) w W) => mfirst_any is pv tx 0 M fin s0 W (h.pg.keepsTo (Q := fun b => b < W.heap.size) K (fun _ _ => id) (fun b hb => by have := K.size; omega)) hok h0 his htx hp hs0 (by rw [dropWhile_zero]; exact hf) hM hpl)
  obtain ⟨c0, c1, c2⟩ := h.cells
  obtain ⟨pa, pc, rfl⟩ := h.pg.form
  clear h hh hf hok
  go_enter Tryz.func9, Tryz.ntmps9
  go_wp2_with fail
  refine HH.out.mono ?_
  rintro e w2 ⟨⟨z, hz, rfl⟩, k2⟩
  rw [HY.out z hz]
  have d0 := k2.cell c0 id
  have K2 := Lib.hid k2
  clear k2 hz c0 c1 c2
  go_wp2_with fail
  refine (HF.out _ K2.out).mono ?_
  rintro e w3 ⟨rfl, k3⟩
  have K3 := Lib.hid (K2.out.trans k3)
  obtain ⟨f1, f2, ok⟩ := fin
  clear k3
  go_wp2_with fail
  go_ret
  exact ⟨rfl, Keeps.trans K3.out (by (repeat' (with_reducible first | exact Keeps.refl _ _ | assumption | refine Keeps.drawN ?_ _ | refine Keeps.drew ?_ | refine Keeps.setCell ?_ ?_ _ | refine Keeps.alloc ?_ _)) <;> (first | exact Or.inr (Nat.le_refl _) | exact Or.inl rfl | exact Or.inl (Or.inl rfl) | exact Or.inl (Or.inr rfl) | (right; simp; done) | (right; simp; omega)))⟩
/-- All hits by the texts alone. -/
inductive LitR (pre tx : List UInt8) : Nat → List (Int × Int) → Prop
  | none {f : Nat} (h : ∀ a, f ≤ a → a ≤ tx.length → mtL pre tx a = false) : LitR pre tx f []
  | some {f a : Nat} {r : List (Int × Int)} (h1 : f ≤ a) (ha : a ≤ tx.length) (h2 : mtL pre tx a = true) (h3 : ∀ b, f ≤ b → b < a → mtL pre tx b = false) (hr : LitR pre tx (a + pre.length) r) : LitR pre tx f (((a : Int), ((a + pre.length : Nat) : Int)) :: r)
theorem LitR.none' {pre tx : List UInt8} {f : Nat} {r : List (Int × Int)} {z : Int} (h : LitR pre tx f r) (hz : IdxAt (mtL pre tx) tx.length f z) (h0 : z < 0) : r = [] := by
  cases h with
  | none => rfl
  | some h1 ha h2 => have := idx_none hz h0 _ h1 ha; rw [this] at h2; cases h2
theorem LitR.some' {pre tx : List UInt8} {f : Nat} {r : List (Int × Int)} {z : Int} (h : LitR pre tx f r) (hz : IdxAt (mtL pre tx) tx.length f z) (h0 : 0 ≤ z) : ∃ (a : Nat) (r' : List (Int × Int)), z = a ∧ f ≤ a ∧ a + pre.length ≤ tx.length ∧ r = ((a : Int), ((a + pre.length : Nat) : Int)) :: r' ∧ LitR pre tx (a + pre.length) r' := by
  obtain ⟨a, rfl, ha1, ha2, ha3, ha4⟩ := idx_some hz h0
  have hb := (mtB_iff.1 ha3).1
  cases h with
  | none h => rw [h a ha1 ha2] at ha3; cases ha3
  | @some _ b r' h1 hb' h2 h3 hr =>
    have : a = b := by
      rcases Nat.lt_trichotomy a b with h | h | h
      · rw [h3 a ha1 h] at ha3; cases ha3
      · exact h
      · rw [ha4 b h1 h] at h2; cases h2
    subst this
    exact ⟨a, r', rfl, ha1, hb, rfl, hr⟩
def LiR (pre tx : List UInt8) (all : List (Int × Int)) (OB : Nat) (w0 : World) (ov av : Value) (wr : World) : Prop :=
  ∃ (f : Nat) (z : Int) (acc rest : List (Int × Int)), av = .int .i64 z ∧ f ≤ 100000 ∧ IdxAt (mtL pre tx) tx.length f z ∧ LitR pre tx f rest ∧ all = acc ++ rest ∧ wr.ownsRow OB 38 2 ov acc.length (cellsOf 2 encR acc) ∧ Keeps (fun _ => False) w0 wr
def msZ (v : Value) (n : Nat) : Nat := if intOf v < 0 then 0 else n + 1 - (intOf v).toNat
theorem msZ_lt {a n : Nat} {z : Int} (hz : z < 0 ∨ (a : Int) < z ∧ z ≤ n) (ha : a ≤ n) : msZ (.int .i64 z) n < msZ (.int .i64 (a : Int)) n := by
  show (if z < 0 then 0 else n + 1 - z.toNat) < (if (a : Int) < 0 then 0 else n + 1 - (a : Int).toNat)
  rw [if_neg (show ¬ (a : Int) < 0 by omega)]
  split <;> omega
set_option maxHeartbeats 8000000 in
theorem eall_lit (eb : Nat) (P : Nat → Prop) (pv : Value) (is : List Ins) (pre tx : List UInt8) (all : List (Int × Int)) (w : World) (h : EngAt w P eb pv is (pre, true)) (hr : pre.length ≤ 1000) (htx : tx.length ≤ 1000) (hh : NotHopeL pre tx) (h0 : pre ≠ []) (hpl : plainL tx = true) (hl : LitR pre tx 0 all) (hal : all.length ≤ 100000) :
    Calls Tryz.prog 10 #[.pointer (some ⟨eb, 0, none⟩), .string ⟨tx.toArray⟩] w fun e w' => ∃ v, e = .returned v ∧ w'.ownsRow w.heap.size 38 2 v all.length (cellsOf 2 encR all) ∧ Keeps (fun _ => False) w w' := by
  obtain ⟨i0, hi, hz0, hz1, hz2⟩ := info_parts info_hit
  have HH := Lib.hid (hopeless_any eb _ pv is (pre, true) tx w h hr htx)
  have HY := Lib.hid (fun z => hope_no hh (z := z))
  have HI := Lib.hid (fun f W (hf : f ≤ 1000000) => index_any pre tx f W hr htx hf)
  have HP := Lib.hid (fun W => eplain_any tx W (by omega))
  rw [hpl] at HP
  obtain ⟨c0, c1, c2⟩ := h.cells
  obtain ⟨pa, pc, rfl⟩ := h.pg.form
  have HL := Lib.hid hl
  have hne : pre.isEmpty = false := by cases pre <;> simp_all
  have hp0 := List.length_pos_iff.2 h0
  clear h hh hl h0 hpl
  go_enter Tryz.func10, Tryz.ntmps10
  go_wp2_with fail
  refine HH.out.mono ?_
  rintro e w2 ⟨⟨z, hz, rfl⟩, k2⟩
  rw [HY.out z hz]
  have d0 := k2.cell c0 id
  have d1 := k2.cell c1 id
  have d2 := k2.cell c2 id
  have K2 := Lib.hid k2
  clear k2 hz c0 c1 c2
  go_wp2_with fail
  refine (HP.out _).mono ?_
  rintro e w3 ⟨rfl, rfl⟩
  go_wp2_with fail
  refine (HI.out 0 _ (by omega)).mono ?_
  rintro e w4 ⟨z0, rfl, hz0', k4⟩
  have HZ := Lib.hid hz0'
  have K4 := Lib.hid (K2.out.trans k4)
  have e1 := k4.cell d1 id
  clear k4 hz0' d0 d1 d2 HP HH
  go_wp2_with fail
  go_loopw [5, 6] (fun ov av wr => LiR pre tx all w4.heap.size w4 ov av wr) (fun _ av _ => msZ av tx.length)
  case atStart => exact ⟨0, z0, [], all, rfl, by omega, HZ.out, HL.out, rfl, ⟨rfl, Or.inl ⟨rfl, rfl⟩⟩, Keeps.refl _ _⟩
  case round =>
    clear HZ HL
    obtain ⟨f, y, acc, rest, rfl, hf, hy, hR, rfl, hO, hk⟩ := hrel
    have HO := Lib.hid hO
    have HK := Lib.hid hk
    obtain ⟨oa, oc, rfl⟩ := ownsRow_slice hO
    have r1 := hk.cell e1 id
    have hwr := hk.size
    have hw4 := K4.out.size
    clear hO hk
    by_cases hy0 : y < 0
    · obtain rfl := hR.none' hy hy0
      have g1 : decide ((0 : Int) ≤ y) = false := by simp; omega
      clear hy hR
      go_wp2_with fail
      go_ret
      exact ⟨_, rfl, by simpa using ownsRow_base HO.out hw4, K4.out.trans HK.out⟩
    · obtain ⟨a, r', rfl, hfa, hat, rfl, hR'⟩ := hR.some' hy (by omega)
      have g1 : decide ((0 : Int) ≤ (a : Int)) = true := by simp
      have HR' := Lib.hid hR'
      have HIa := Lib.hid (fun W => HI.out (a + pre.length) W (by omega))
      rw [Int.natCast_add] at HIa
      clear hy hR hR' hy0
      go_wp2_with (at_builtin; refine wpList_append_lies _ rfl (.tmp 54) (.tmp 64) 35 rfl w4.heap.size 38 i0 _ 2 16 Tryz.underlying35 hi hz0 hz1 hz2 rfl (by decide) _ acc.length (cellsOf 2 encR acc) rfl (ownsRow_alloc HO.out _) ⟨wr.heap.size, 0, none⟩ 1 1 [.int .i64 (a : Int), .int .i64 ((a : Int) + (pre.length : Int))] rfl rfl (by exact cells_new _ [_, _] _) (by simp [Value.oneCell']) (by decide) (by have := hal; simp at this; unfold maxLen; omega) (by have := hal; simp at this; omega) (by simp; omega) _ rfl ?_)
      intro g cap9 w9 hown9 hgrow9 hat9 hlt9
      have HO9 : Hid (w9.ownsRow w4.heap.size 38 2 (.slice (some ⟨g, 0, none⟩) (acc.length + 1) cap9) (acc ++ [((a : Int), ((a + pre.length : Nat) : Int))]).length (cellsOf 2 encR (acc ++ [((a : Int), ((a + pre.length : Nat) : Int))]))) := Lib.hid (by
        have e1 : cellsOf 2 encR (acc ++ [((a : Int), ((a + pre.length : Nat) : Int))]) = cellsOf 2 encR acc ++ [.int .i64 (a : Int), .int .i64 ((a : Int) + (pre.length : Int))] := by rw [cellsOf_append]; rfl
        rw [e1]; simpa using hown9)
      have kg : Keeps (fun b => w4.heap.size ≤ b) wr w9 := ((Keeps.refl (fun b => w4.heap.size ≤ b) wr).alloc _).grown hgrow9 (fun b hb => Or.inl (ownBlock_base HO.out b hb))
      have k9 : Keeps (fun _ => False) w4 w9 := HK.out.trans2 kg (fun i hi e => by omega)
      have q1 := k9.cell e1 id
      have hk0 : Keeps (fun _ => False) w9 w9.drew := (Keeps.refl _ _).drew
      have q1d : w9.drew.cell? ⟨eb, 1, none⟩ = some (.string ⟨pre.toArray⟩) := q1
      have HI2 := Lib.hid (fun W (K : Keeps (fun _ => False) w9 W) => (HIa.out W).mono (fun e w' h => (⟨h.choose, h.choose_spec.1, h.choose_spec.2.1, K.trans h.choose_spec.2.2⟩ : ∃ z : Int, e = .returned (.int .i64 z) ∧ IdxAt (mtL pre tx) tx.length (a + pre.length) z ∧ Keeps (fun _ => False) w9 w')))
      have K9 := Lib.hid k9
      clear hown9 hgrow9 hat9 kg k9 HIa
      have hww : IntKind.i64.wrap ((a : Int) + (pre.length : Int)) = (a : Int) + (pre.length : Int) := IntWalk.i64_in _ (by omega)
      go_wp2_with fail
      go_region_held3 (fun w' => w'.cell? ⟨eb, 1, none⟩ = some (.string ⟨pre.toArray⟩) ∧ Keeps (fun _ => False) w9 w') (first | exact ⟨q1d, hk0⟩ | exact ⟨Keeps.cell (by assumption) q1 id, by assumption⟩) (first | (go_at_call 31; refine (HI2.out _ ?_).mono ?_; exact (by assumption : _ ∧ _).2; rintro e w' ⟨z9, rfl, hz9, hkn⟩))
      all_goals
        have HZ9 := Lib.hid hz9
        have HK9 := Lib.hid (K9.out.trans hkn)
        have HO10 := Lib.hid (ownsRow_keeps HO9.out hkn (fun _ _ => id))
        have hzl : z9 < 0 ∨ (a : Int) < z9 ∧ z9 ≤ tx.length := by
          rcases Int.lt_or_le z9 0 with h | h
          · exact Or.inl h
          · obtain ⟨b9, rfl, hb1, hb2, _, _⟩ := idx_some hz9 h
            exact Or.inr ⟨by omega, by omega⟩
        clear hz9 hkn
        go_wp2_with fail
        go_roundw
        case rel => exact ⟨a + pre.length, z9, acc ++ [((a : Int), ((a + pre.length : Nat) : Int))], r', rfl, by omega, HZ9.out, HR'.out, by simp, HO10.out, HK9.out⟩
        case measure => exact msZ_lt hzl (by omega)
set_option maxHeartbeats 8000000 in
theorem eall_match (eb : Nat) (pv : Value) (is : List Ins) (r : List UInt8 × Bool) (tx : List UInt8) (w : World) (M : Nat) (all : List (Int × Int)) (s0 : List Nat × (Nat → Bool)) (h : EngAt w (fun b => b < w.heap.size) eb pv is r) (hr : r.1.length ≤ 1000) (htx : tx.length ≤ 1000) (hh : NotHopeL r.1 tx) (hm : r.2 = false ∨ r.1 = [] ∨ plainL tx = false)
    (hok : ∀ (k : Nat) (i : Ins), is[k]? = some i → okI is.length i) (h0 : 0 < is.length) (his : is.length ≤ 1000) (hp : PtR is 0 ([], fun _ => false) s0) (hs0 : s0.1.length ≤ 1000) (hf : AllR is tx s0.1 M (places tx) (-1) all) (hM : M ≤ 900000) (hal : all.length ≤ 100000) (hpl : (places tx).length ≤ 100000) :
    Calls Tryz.prog 10 #[.pointer (some ⟨eb, 0, none⟩), .string ⟨tx.toArray⟩] w fun e w' => ∃ v, e = .returned v ∧ w'.ownsRow w.heap.size 38 2 v all.length (cellsOf 2 encR all) ∧ Keeps (fun _ => False) w w' := by
  have HH := Lib.hid (hopeless_any eb _ pv is r tx w h hr htx)
  have HY := Lib.hid (fun z => hope_no hh (z := z))
  have HF := Lib.hid (fun W (K : Keeps (fun _ => False) w W) => mall_any is pv tx M all s0 W (h.pg.keepsTo (Q := fun b => b < W.heap.size) K (fun _ _ => id) (fun b hb => by have := K.size; omega)) hok h0 his htx hp hs0 hf hM hal hpl)
  have HP := Lib.hid (fun W => eplain_any tx W (by omega))
  obtain ⟨c0, c1, c2⟩ := h.cells
  obtain ⟨pa, pc, rfl⟩ := h.pg.form
  have Hm := Lib.hid hm
  clear h hh hf hok hm
  obtain ⟨pre, wh⟩ := r
  simp only at c1 c2 Hm HH HY
  go_enter Tryz.func10, Tryz.ntmps10
  go_wp2_with fail
  refine HH.out.mono ?_
  rintro e w2 ⟨⟨z, hz, rfl⟩, k2⟩
  rw [HY.out z hz]
  have d0 := k2.cell c0 id
  have d1 := k2.cell c1 id
  have d2 := k2.cell c2 id
  have K2 := Lib.hid k2
  clear k2 hz c0 c1 c2 HH HY
  cases wh with
  | false =>
    go_wp2_with fail
    refine (HF.out _ K2.out).mono ?_
    rintro e w3 ⟨v, rfl, hO, k3⟩
    have HO := Lib.hid (ownsRow_base hO K2.out.size)
    have K3 := Lib.hid (K2.out.trans k3)
    clear hO k3
    go_wp2_with fail
    go_ret
    exact ⟨_, rfl, HO.out, K3.out⟩
  | true =>
    by_cases h9 : pre = []
    · subst h9
      go_wp2_with fail
      refine (HF.out _ K2.out).mono ?_
      rintro e w3 ⟨v, rfl, hO, k3⟩
      have HO := Lib.hid (ownsRow_base hO K2.out.size)
      have K3 := Lib.hid (K2.out.trans k3)
      clear hO k3
      go_wp2_with fail
      go_ret
      exact ⟨_, rfl, HO.out, K3.out⟩
    · have hne : pre.isEmpty = false := by cases pre <;> simp_all
      have h10 : plainL tx = false := by
        rcases Hm.out with h | h | h
        · cases h
        · exact absurd h h9
        · exact h
      rw [h10] at HP
      clear h9 h10 Hm
      go_wp2_with fail
      refine (HP.out _).mono ?_
      rintro e w3 ⟨rfl, rfl⟩
      go_wp2_with fail
      refine (HF.out _ K2.out).mono ?_
      rintro e w3 ⟨v, rfl, hO, k3⟩
      have HO := Lib.hid (ownsRow_base hO K2.out.size)
      have K3 := Lib.hid (K2.out.trans k3)
      clear hO k3
      go_wp2_with fail
      go_ret
      exact ⟨_, rfl, HO.out, K3.out⟩
end Go.Proofs.YtpcbfmbpbegjgaaGreat
end
section
namespace Go.Proofs.YtpcbfmbpbegjgaaGreat
open Go.RowKit
set_option linter.unusedVariables false
set_option linter.unusedSimpArgs false
set_option maxRecDepth 100000

theorem isB_ex {r : Int} (h : isB r = true) : ∃ x : Nat, r = (x : Int) ∧ isB (x : Int) = true := ⟨r.toNat, by have := isB_nat h; omega, by rw [show ((r.toNat : Nat) : Int) = r by have := isB_nat h; omega]; exact h⟩
theorem catP_chars : ∀ (rs : List Int) (all : List UInt8), (all ++ rs.flatMap fun r => putP r.toNat).length ≤ 200 → catP (rs.map fun r => (putP r.toNat, true)) all = (all ++ rs.flatMap fun r => putP r.toNat, true)
  | [], all, _ => by simp [catP]
  | r :: rs, all, h => by
    have h2 : (all ++ putP r.toNat ++ rs.flatMap fun r => putP r.toNat).length ≤ 200 := by simpa using h
    have h1 : ¬ (200 < (all ++ putP r.toNat).length) := by
      rw [List.length_append] at h2; omega
    rw [List.map_cons, catP, if_neg (by simp only [Bool.true_eq_false, false_or]; exact h1), catP_chars rs _ h2]
    simp
theorem rs_len : ∀ (rs : List Int), rs.length ≤ (rs.flatMap fun r => putP r.toNat).length
  | [] => Nat.zero_le _
  | r :: rs => by
    have := rs_len rs
    have := putP_ne r.toNat
    simp only [List.length_cons, List.flatMap_cons, List.length_append]; omega
theorem putP_mem (x : Int) : ∀ (rs : List Int), x ∈ rs → (putP x.toNat).length ≤ (rs.flatMap fun r => putP r.toNat).length
  | [], h => by cases h
  | r :: rs, h => by
    rw [List.flatMap_cons, List.length_append]
    rcases List.mem_cons.1 h with rfl | h
    · omega
    · have := putP_mem x rs h
      omega
theorem pre_one {r : Int} (h : isB r = true) : PreC (charT [(r, r)]) (putP r.toNat, true) := by
  obtain ⟨x, rfl, hx⟩ := isB_ex h
  exact pre_char x hx
theorem qcompile (s : List UInt8) (rs : List Int) (h : pts s = some rs) (h0 : rs ≠ []) (hl : s.length ≤ 90) (w : World) :
    Calls Tryz.prog 8 #[.string ⟨(rs.flatMap qB).toArray⟩] w fun e w' => EComE w (chn 0 rs) (s, true) e w' := by
  obtain ⟨hb, hs⟩ := pts_isB _ _ _ (Nat.le_refl _) h
  have hpar := parse_quote h (by omega)
  have hrl := rs_len rs
  rw [← hs] at hrl
  have hql := flat_len rs
  rw [← hs] at hql
  rcases rs with _ | ⟨r, rs⟩
  · exact absurd rfl h0
  · rcases rs with _ | ⟨r2, rs⟩
    · have hr := hb r (by simp)
      have e : s = putP r.toNat := by simpa using hs
      rw [e]
      exact ecompile_any _ _ 1 [chI [(r, r)] 0] _ hpar (len_char _) (by omega) (nodeE_char _ (by simp) (by simp)) (by simp) (pre_one hr) w (by omega)
    · have hL : (List.map (fun r => charT [(r, r)]) (r :: r2 :: rs)).length = (r :: r2 :: rs).length := by simp
      have he : qTree (r :: r2 :: rs) = ⟨4, [], 0, 0, F.ofL ((r :: r2 :: rs).map fun r => charT [(r, r)])⟩ := rfl
      rw [he] at hpar
      generalize hq : (r :: r2 :: rs) = q at *
      have hfold := chn_fold q []
      have hlen2 : (((q.map fun r => fun is : List Ins => is ++ [chI [(r, r)] is.length]).foldl (fun a f => f a) [])).length = q.length := by
        have := congrArg List.length hfold
        rw [List.length_append, List.length_append, chn_len] at this
        simp at this ⊢
        omega
      have := ecompile_any _ _ q.length ((q.map fun r => fun is : List Ins => is ++ [chI [(r, r)] is.length]).foldl (fun a f => f a) []) (catP (q.map fun r => (putP r.toNat, true)) []) hpar
        (by
          have := len_cat (q.map fun r => charT [(r, r)]) (by rw [List.length_map]; omega) (fun i k hk => by
            rw [List.getElem?_map, Option.map_eq_some_iff] at hk
            obtain ⟨x, _, rfl⟩ := hk
            exact len_char _)
          rwa [List.length_map] at this) (by omega)
        (fun P v w0 w mb ht k0 h1 hl h2 => (node_cat (q.map fun r => charT [(r, r)]) (q.map fun r => fun is : List Ins => is ++ [chI [(r, r)] is.length]) (by simp) (by rw [List.length_map]; omega) (fun i k f hk hf => by
          rw [List.getElem?_map, Option.map_eq_some_iff] at hk hf
          obtain ⟨x, hx, rfl⟩ := hk
          obtain ⟨y, hy, rfl⟩ := hf
          rw [hx] at hy
          obtain rfl := Option.some.inj hy
          exact ⟨node_char _ (by simp) (by simp), fun a => by simp⟩) P v w0 w mb (mb + 1) [] ht k0 h1 (by omega) (by omega) (by simp) (MkAt.empty h2)).mono fun e w' ⟨a, b, c⟩ => ⟨a, b, c⟩) (by rw [hlen2]; omega)
        (pre_cat (q.map fun r => charT [(r, r)]) (q.map fun r => (putP r.toNat, true)) (by simp) (fun i k p hk hp => by
          rw [List.getElem?_map, Option.map_eq_some_iff] at hk hp
          obtain ⟨x, hx, rfl⟩ := hk
          obtain ⟨y, hy, rfl⟩ := hp
          rw [hx] at hy
          obtain rfl := Option.some.inj hy
          exact ⟨pre_one (hb x (List.mem_of_getElem? hx)), by
            have := putP_mem x q (List.mem_of_getElem? hx)
            rw [← hs] at this
            simp only; omega⟩)) w (by omega)
      rw [hfold, catP_chars q [] (by rw [List.nil_append, ← hs]; omega), List.nil_append, List.nil_append, ← hs] at this
      exact this
theorem mtL_self (s : List UInt8) : mtL s s 0 = true := mtB_iff.2 ⟨by omega, fun x _ => by rw [Nat.zero_add]⟩
theorem mtL_other {s t : List UInt8} (hl : t.length = s.length) (hne : t ≠ s) (a : Nat) (ha : a ≤ t.length) : mtL s t a = false := by
  cases h : mtL s t a with
  | false => rfl
  | true =>
    obtain ⟨h1, h2⟩ := mtB_iff.1 h
    obtain rfl : a = 0 := by omega
    exact absurd (List.ext_getElem hl fun i hi hj => by
      have := h2 i hj
      unfold atB at this
      rw [List.getD_eq_getElem?_getD, List.getD_eq_getElem?_getD, List.getElem?_eq_getElem hj, Nat.zero_add, List.getElem?_eq_getElem hi] at this
      simpa using this.symm) hne
theorem plcP_len : ∀ (f : Nat) (l : List UInt8) (a : Nat), (plcP f l a).length ≤ f
  | 0, _, _ => Nat.le_refl _
  | f + 1, [], _ => Nat.zero_le _
  | f + 1, c :: t, a => by
    have := plcP_len f ((c :: t).drop (getP (c :: t)).2) (a + (getP (c :: t)).2)
    simp only [plcP, List.length_cons]; omega
theorem places_len (l : List UInt8) : (places l).length ≤ l.length + 1 := by
  have := plcP_len l.length l 0
  unfold places
  simp only [List.length_cons]; omega
theorem lit_self {s : List UInt8} (h0 : s ≠ []) : LitR s s 0 [((0 : Nat), ((0 + s.length : Nat) : Int))] := by
  have hl := List.length_pos_iff.2 h0
  refine LitR.some (Nat.le_refl _) (Nat.zero_le _) (mtL_self s) (fun b h1 h2 => by omega) (LitR.none fun a h1 h2 => ?_)
  cases h : mtL s s a with
  | false => rfl
  | true => have := (mtB_iff.1 h).1; omega
theorem all_self {s : List UInt8} {rs : List Int} (h : pts s = some rs) (h0 : rs ≠ []) (hs0 : s ≠ []) : AllR (chn 0 rs) s [0] (rs.length + 1 + 1) (places s) (-1) [((0 : Nat), (s.length : Int))] := by
  have hl := List.length_pos_iff.2 hs0
  have hd := places_end hs0
  refine AllR.far (p := 0) (e := s.length) (by unfold places; simp) (first_whole rs s h _) hl ?_ ?_
  · rw [hd]
    obtain ⟨c, t, rfl⟩ : ∃ c t, s = c :: t := by
      cases s with
      | nil => exact absurd rfl hs0
      | cons c t => exact ⟨c, t, rfl⟩
    unfold places
    simp [plcP]
  · rw [hd]
    exact AllR.stop (by simp) (first_end rs s h0)
theorem qall (s : List UInt8) (rs : List Int) (h : pts s = some rs) (h0 : rs ≠ []) (hs0 : s ≠ []) (hl : s.length ≤ 90) (eb : Nat) (pv : Value) (w : World) (hE : EngAt w (fun b => b < w.heap.size) eb pv (chn 0 rs) (s, true)) :
    Calls Tryz.prog 10 #[.pointer (some ⟨eb, 0, none⟩), .string ⟨s.toArray⟩] w fun e w' => (∃ v, e = .returned v ∧ w'.ownsRow w.heap.size 38 2 v 1 [.int .i64 0, .int .i64 s.length]) ∧ Keeps (fun _ => False) w w' := by
  have hrl := rs_len rs
  rw [← (pts_isB _ _ _ (Nat.le_refl _) h).2] at hrl
  have hpl := places_len s
  have hn : NotHopeL s s := Or.inr (Or.inl ⟨0, Nat.zero_le _, mtL_self s⟩)
  by_cases hp : plainL s = true
  · refine (eall_lit eb _ pv (chn 0 rs) s s _ w hE (by omega) (by omega) hn hs0 hp (lit_self hs0) (by simp)).mono ?_
    rintro e w' ⟨v, rfl, hO, k⟩
    exact ⟨⟨v, rfl, by simpa [cellsOf, encR, List.range_succ] using hO⟩, k⟩
  · refine (eall_match eb pv (chn 0 rs) (s, true) s w _ _ ([0], updM (fun _ => false) 0) hE (by simp only; omega) (by omega) hn (Or.inr (Or.inr (by simpa using hp))) (chn_ok rs) (by rw [chn_len]; omega) (by rw [chn_len]; omega) (put_chn rs 0 (Nat.zero_le _)) (by simp) (all_self h h0 hs0) (by omega) (by simp) (by omega)).mono ?_
    rintro e w' ⟨v, rfl, hO, k⟩
    exact ⟨⟨v, rfl, by simpa [cellsOf, encR, List.range_succ] using hO⟩, k⟩
theorem qis (s o : List UInt8) (rs ro : List Int) (h : pts s = some rs) (ho : pts o = some ro) (h0 : rs ≠ []) (hs0 : s ≠ []) (hl : s.length ≤ 90) (hol : o.length = s.length) (eb : Nat) (pv : Value) (w : World) (hE : EngAt w (fun b => b < w.heap.size) eb pv (chn 0 rs) (s, true)) :
    Calls Tryz.prog 9 #[.pointer (some ⟨eb, 0, none⟩), .string ⟨o.toArray⟩] w fun e w' => e = .returned (.bool (decide (o = s))) ∧ Keeps (fun _ => False) w w' := by
  have hrl := rs_len rs
  rw [← (pts_isB _ _ _ (Nat.le_refl _) h).2] at hrl
  have hpl := places_len s
  by_cases he : o = s
  · subst he
    rw [decide_eq_true rfl]
    exact eis_match eb pv (chn 0 rs) (o, true) o w _ (0, o.length, true) ([0], updM (fun _ => false) 0) hE (by simp only; omega) (by omega) (Or.inr (Or.inl ⟨0, Nat.zero_le _, mtL_self o⟩)) (chn_ok rs) (by rw [chn_len]; omega) (by rw [chn_len]; omega) (put_chn rs 0 (Nat.zero_le _)) (by simp) (first_whole rs o h _) (by omega) (by omega)
  · rw [decide_eq_false he]
    exact eis_no eb _ pv (chn 0 rs) (s, true) o w hE (by simp only; omega) (by omega) ⟨hs0, fun a ha => mtL_other hol he a ha, by rw [ho]; rfl⟩
end Go.Proofs.YtpcbfmbpbegjgaaGreat
end
section
namespace Go.Proofs.YtpcbfmbpbegjgaaGreat
open Go.RowKit
set_option linter.unusedVariables false
set_option linter.unusedSimpArgs false
set_option maxRecDepth 100000

/-- A builder at block b holds the cells bs; its row lies from base on, in another block. -/
def Bld (base b : Nat) (bs : List Value) (w : World) : Prop :=
  ∃ p v, (p = .pointer none ∨ p = .pointer (some ⟨b, 0, none⟩)) ∧ w.heap[b]? = some (.cells #[p, v] 44 (0, 0)) ∧ w.ownsRow base 5 1 v bs.length bs ∧ v.ownBlock ≠ some b

theorem sizeBuilder : (Tryz.prog.info? 44).map (·.size) = some 2 := by kernel_rfl
theorem liesBuilder : liesAt Tryz.prog Tryz.prog.depth 44 (2 / Tryz.prog.cellsOf 44) 0 44 1 = true := by kernel_rfl
theorem info_u8 : (Tryz.prog.info? 5).map (fun i => (i.zero, i.size, i.bytes)) = some (some (.int .u8 0), 1, 1) := by kernel_rfl
set_option maxHeartbeats 1000000 in
theorem copyCheck_used (b : Nat) (w : World) (h0 : w.cell? ⟨b, 0, none⟩ = some (.pointer (some ⟨b, 0, none⟩))) :
    Calls Tryz.prog 34 #[.pointer (some ⟨b, 0, none⟩)] w fun e w' => e = .returned (.tuple #[]) ∧ w' = w := by
  obtain ⟨j, hj, _⟩ := Option.map_eq_some_iff.1 sizeBuilder
  go_enter Tryz.func34, Tryz.ntmps34
  go_wp2
  rw [Lib.run_neq_ptr_same w _ Tryz.underlying41 hj]
  go_wp2
  go_end0
  exact ⟨rfl, rfl⟩

set_option maxHeartbeats 1000000 in
theorem copyCheck_fresh (b : Nat) (w : World) (h0 : w.cell? ⟨b, 0, none⟩ = some (.pointer none)) (hsh : w.shape? b = some (44, 2)) (hfz : w.frozen? ⟨b, 0, none⟩ = false) :
    Calls Tryz.prog 34 #[.pointer (some ⟨b, 0, none⟩)] w fun e w' => e = .returned (.tuple #[]) ∧ w' = w.setCell ⟨b, 0, none⟩ (.pointer (some ⟨b, 0, none⟩)) := by
  obtain ⟨j, hj, hjs⟩ := Option.map_eq_some_iff.1 sizeBuilder
  go_enter Tryz.func34, Tryz.ntmps34
  go_wp2
  rw [Lib.run_to_unsafe w ⟨b, 0, none⟩ Tryz.underlying41 Tryz.underlying116 hj (by rw [hjs]; decide) hsh (Nat.zero_lt_succ 1)]
  simp only [Result.andThen]
  rw [Oper.upon_value]
  go_wp2
  rw [run_callFunc_extern Tryz.func61 (by kernel_rfl) (by kernel_rfl) (by kernel_rfl) (e := Extern.AbiNoEscape.same) (by kernel_rfl)]
  rw [Lib.run_noEscape]
  simp only [Result.andThen]
  rw [Oper.upon_value]
  go_wp2
  rw [Lib.run_from_unsafe w ⟨b, 0, none⟩ Tryz.underlying116 Tryz.underlying41 hj hsh liesBuilder]
  simp only [Result.andThen]
  rw [Oper.upon_value]
  go_wp2
  go_end0
  exact ⟨rfl, rfl⟩

theorem Bld.lt {base b : Nat} {bs : List Value} {w : World} (h : Bld base b bs w) : b < w.heap.size := by
  obtain ⟨p, v, _, hb, _⟩ := h
  exact (Array.getElem?_eq_some_iff.1 hb).1
/-- The builder is used: it has its own address. -/
def BldU (base b : Nat) (bs : List Value) (w : World) : Prop :=
  ∃ v, w.heap[b]? = some (.cells #[.pointer (some ⟨b, 0, none⟩), v] 44 (0, 0)) ∧ w.ownsRow base 5 1 v bs.length bs ∧ v.ownBlock ≠ some b
theorem BldU.bld {base b : Nat} {bs : List Value} {w : World} (h : BldU base b bs w) : Bld base b bs w := by
  obtain ⟨v, a, b, c⟩ := h; exact ⟨_, v, Or.inr rfl, a, b, c⟩
theorem bOwnsRow_keeps {base : Nat} {e : TypeId} {size n : Nat} {v : Value} {xs : List Value} {S : Nat → Prop} {w w' : World} (h : w.ownsRow base e size v n xs) (K : Keeps S w w') (hs : ∀ k, v.ownBlock = some k → ¬ S k) : w'.ownsRow base e size v n xs := by
  obtain ⟨h1, h2⟩ := h
  refine ⟨h1, ?_⟩
  rcases h2 with h2 | ⟨g, cap, cur, rfl, hg, hh, hc⟩
  · exact Or.inl h2
  · exact Or.inr ⟨g, cap, cur, rfl, hg, K.heap hh (hs g rfl), hc⟩
theorem Bld.keeps {base b : Nat} {bs : List Value} {S : Nat → Prop} {w w' : World} (h : Bld base b bs w) (K : Keeps S w w') (hb : ¬ S b) (hs : ∀ k, base ≤ k → ¬ S k) : Bld base b bs w' := by
  obtain ⟨p, v, hp, h1, h2, h3⟩ := h
  exact ⟨p, v, hp, K.heap h1 hb, bOwnsRow_keeps h2 K (fun k hk => hs k (ownBlock_base h2 k hk)), h3⟩
theorem Bld.keepsF {base b : Nat} {bs : List Value} {w w' : World} (h : Bld base b bs w) (K : Keeps (fun _ => False) w w') : Bld base b bs w' := h.keeps K id (fun _ _ => id)
theorem Bld.fresh {w w' : World} {b base : Nat} (h : w.heap[b]? = some (.cells #[.pointer none, .slice none 0 0] 44 (0, 0))) : Bld base b [] w :=
  ⟨_, _, Or.inl rfl, h, World.ownsRow_nil _ _ _ _, by simp [Value.ownBlock]⟩

theorem copyCheck_any (base b : Nat) (bs : List Value) (w : World) (h : Bld base b bs w) :
    Calls Tryz.prog 34 #[.pointer (some ⟨b, 0, none⟩)] w fun e w' => e = .returned (.tuple #[]) ∧ BldU base b bs w' ∧ Keeps (fun k => k = b) w w' := by
  have hlt := h.lt
  obtain ⟨p, v, hp, hb, ho, hn⟩ := h
  rcases hp with rfl | rfl
  · refine (copyCheck_fresh b w (by rw [Lib.cell_of_heap hb]; rfl) (by simp [World.shape?, hb]) (by simp [World.frozen?, hb])).mono ?_
    rintro e w' ⟨rfl, rfl⟩
    have K : Keeps (fun k => k = b) w (w.setCell ⟨b, 0, none⟩ (.pointer (some ⟨b, 0, none⟩))) := (Keeps.refl (fun k => k = b) _).set (p := ⟨b, 0, none⟩) rfl _
    refine ⟨rfl, ⟨v, ?_, bOwnsRow_keeps ho K (fun k hk e => hn (by rw [hk, e])), hn⟩, K⟩
    simp [World.setCell, Array.getElem?_modify, hb]
  · refine (copyCheck_used b w (by rw [Lib.cell_of_heap hb]; rfl)).mono ?_
    rintro e w' ⟨rfl, rfl⟩
    exact ⟨rfl, ⟨v, hb, ho, hn⟩, Keeps.refl _ _⟩

theorem BldU.put {base b : Nat} {p v v' : Value} {bs : List Value} {w : World} (hp : p = .pointer (some ⟨b, 0, none⟩)) (hb : w.heap[b]? = some (.cells #[p, v] 44 (0, 0))) (hown : w.ownsRow base 5 1 v' bs.length bs) :
    BldU base b bs (w.setCell ⟨b, 1, none⟩ v') := by
  subst hp
  have hne := Lib.ownBlock_ne hown hb (by decide)
  refine ⟨v', ?_, ?_, hne⟩
  · simp [World.setCell, Array.getElem?_modify, hb]
  · exact bOwnsRow_keeps hown ((Keeps.refl (fun k => k = b) _).set (p := ⟨b, 1, none⟩) rfl _) (fun k hk e => hne (by rw [hk, e]))

set_option maxHeartbeats 2000000 in
theorem writeByte_any (base b : Nat) (bs : List Value) (c : Int) (w : World) (h : Bld base b bs w) (hlen : bs.length + 1 ≤ 140737488355328) (hBw : base ≤ w.heap.size) :
    Calls Tryz.prog 16 #[.pointer (some ⟨b, 0, none⟩), .int .u8 c] w fun e w' => e = .returned .nilIface ∧ Bld base b (bs ++ [.int .u8 c]) w' ∧ Keeps (fun k => k = b ∨ base ≤ k) w w' := by
  obtain ⟨i0, hi, hz0, hz1, hz2⟩ := info_parts info_u8
  have hlt := h.lt
  go_enter Tryz.func16, Tryz.ntmps16
  go_wp2_with fail
  refine (copyCheck_any base b bs _ h).mono ?_
  rintro e w1 ⟨rfl, h1, hk1⟩
  obtain ⟨v, hbk, hown, hne⟩ := h1
  have c0 : w1.cell? ⟨b, 0, none⟩ = some (.pointer (some ⟨b, 0, none⟩)) := by rw [Lib.cell_of_heap hbk]; rfl
  have c1 : w1.cell? ⟨b, 1, none⟩ = some v := by rw [Lib.cell_of_heap hbk]; rfl
  have hs1 := hk1.size
  obtain ⟨va, vc, rfl⟩ := ownsRow_slice hown
  go_wp2_with (at_builtin; refine wpList_append_own _ rfl _ _ 42 rfl base 5 i0 (.int .u8 0) 1 1 Tryz.underlying42 hi hz0 hz1 hz2 rfl (by decide) _ _ _ rfl (hown.alloc _) ⟨w1.heap.size, 0, none⟩ 1 1 [.int .u8 c] rfl rfl ?c1 ?c2 ?c3 ?c4 ?c5 ?_)
  case c1 =>
    intro j u hj
    match j, hj with
    | 0, hj => simp at hj; subst hj; simp [Addr.add]
  case c2 => intro u hu; simp at hu; subst hu; rfl
  case c3 => unfold maxLen; omega
  case c4 => omega
  case c5 => simp; omega
  intro v' w2 hown' hgrow _
  have hlt1 : b < w1.heap.size := by omega
  have hb2 : w2.heap[b]? = some (.cells #[.pointer (some ⟨b, 0, none⟩), .slice va bs.length vc] 44 (0, 0)) := by
    rw [hgrow.block b (by simp; omega) (fun e => hne e.symm), Below.heap_alloc _ _ _ hlt1]
    exact hbk
  have d0 : w2.cell? ⟨b, 0, none⟩ = some (.pointer (some ⟨b, 0, none⟩)) := by rw [Lib.cell_of_heap hb2]; rfl
  have d1 : w2.cell? ⟨b, 1, none⟩ = some (.slice va bs.length vc) := by rw [Lib.cell_of_heap hb2]; rfl
  have f1 : w2.frozen? ⟨b, 1, none⟩ = false := Lib.frozen_of_heap hb2 1
  have K2 : Keeps (fun k => k = b ∨ base ≤ k) w w2 := ((hk1.mono (fun _ _ e => Or.inl e)).alloc _).grown hgrow (fun k hk => Or.inl (Or.inr (ownBlock_base hown k hk)))
  obtain ⟨va', vc', rfl⟩ := ownsRow_slice hown'
  go_wp2
  go_ret
  exact ⟨rfl, (BldU.put rfl hb2 (by simpa using hown')).bld, K2.set (p := ⟨b, 1, none⟩) (Or.inl rfl) _⟩
end Go.Proofs.YtpcbfmbpbegjgaaGreat
end
