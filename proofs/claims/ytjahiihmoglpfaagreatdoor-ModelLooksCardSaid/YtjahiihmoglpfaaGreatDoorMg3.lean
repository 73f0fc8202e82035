/-
  Several texts in one: What a beginning of the data comes to is a beginning: decode and split, in plain words. DERIVED: THE SHELF's CONTRACTS AT THIS DUMP, IN PLAIN WORDS (tools/lay-plain.mjs out of 'TryzShelfB.lean', which tools/lay-shelf.mjs wrote): THE SAME DECLARATIONS UNDER THE SAME NAMES: 'import', 'namespace', 'open', 'def', 'theorem' AND NOTHING ELSE: no command of the shelf's: FOR A HAND-IN. Each laying: the table of numbers ('.._ren') and one theorem, a field a fact of the dump's own or the kernel's comparison; each contract: ONE APPLICATION. Sets of numbers as lists of ranges: the plain laws. No program in sight. The walks of the document's own words on sets (reedbedref08): Has, Same, Right, Ends.
-/
import Derived.Test.YtjahiihmoglpfaaGreatDoorMg2
import Derived.Shelf.Strings.Builder1
import Derived.Shelf.Strings.Builder2
import Derived.Shelf.Small.Bits
import Derived.Shelf.Small.Strs
import Derived.Shelf.Strings.BuilderF
import Derived.Shelf.Strings.BuilderK
import Derived.Shelf.Strings.Builder2Cap
import Derived.Shelf.Strconv.Itoa0
import Derived.Shelf.Strconv.Itoa1
import Derived.Shelf.LaysM
import Derived.Shelf.Strconv.Itoa2
import Derived.Shelf.Strconv.Itoa3
import Derived.Shelf.Strings.Search1
import Derived.Shelf.Strings.Search2
import Derived.Shelf.Strings.Cut
import Derived.Shelf.Strings.Shaped
import Derived.Shelf.Strings.Prefix
import Derived.Shelf.Bits.Mul64
import Derived.Shelf.Strings.BuilderCap
import Derived.Shelf.Bytes.SlSmallAll
import Derived.Shelf.Bytes.Small
import Derived.Test.YtjahiihmoglpfaaGreatDoorProg
import Derived.Lib.Hide
import Derived.Test.YtjahiihmoglpfaaGreatDoorMg1
import Derived.Test.YtjahiihmoglpfaaGreatDoorRows
import Derived.Deep.QuietTactic
import Derived.BigQuiet
import Derived.Deep.RegionWith
namespace Go.Proofs.YtjahiihmoglpfaaGreatDoor
open Go.RowKit
set_option linter.unusedVariables false
set_option linter.unusedSimpArgs false
set_option maxRecDepth 100000
theorem xf0 : ∀ (a b : List UInt8) (r : Nat), xa4 r (a ++ b) = (xa4 r a).bind fun q => xa4 q b
 | [], b, r => rfl
 | c :: a, b, r => by
  rw [List.cons_append, xa4, xa4]
  split
  · exact xf0 a b _
  rfl
theorem xd8 (x : UInt8) (hx : x.toNat / 64 = 2) : ∀ (m r : Nat), xa4 r (List.replicate m x) = some (r * 64 ^ m + (x.toNat % 64) * ((64 ^ m - 1) / 63))
 | 0, r => by simp [xa4]
 | m + 1, r => by
  rw [List.replicate_succ, xa4, if_pos hx, xd8 x hx m]
  have h1 : 63 * ((64 ^ m - 1) / 63) = 64 ^ m - 1 := by
   have : ∀ m, (64 ^ m) % 63 = 1 := by
    intro m
    induction m with
    | zero => rfl
    | succ m ih => rw [Nat.pow_succ]; omega
   have h2 := this m
   have h3 : 0 < 64 ^ m := Nat.pow_pos (by omega)
   omega
  have h3 : 0 < 64 ^ m := Nat.pow_pos (by omega)
  have h2 : (64 ^ (m + 1) - 1) / 63 = 64 ^ m + (64 ^ m - 1) / 63 := by
   rw [Nat.pow_succ]; omega
  rw [h2, Nat.pow_succ]
  congr 1
  rw [Nat.add_mul, Nat.mul_add, Nat.mul_assoc, Nat.mul_comm 64, Nat.add_assoc]
theorem xcJ : ∀ (l : List UInt8) (r q : Nat), xa4 r l = some q → ∃ s, q = r * 64 ^ l.length + s ∧ s < 64 ^ l.length
 | [], r, q, h => by
  rw [xa4] at h
  exact ⟨0, by simpa using (Option.some.inj h).symm, by simp⟩
 | c :: l, r, q, h => by
  rw [xa4] at h
  split at h
  · obtain ⟨s, h1, h2⟩ := xcJ l _ _ h
    refine ⟨c.toNat % 64 * 64 ^ l.length + s, ?_, ?_⟩
    · rw [h1, List.length_cons, Nat.pow_succ, Nat.add_mul, Nat.mul_assoc, Nat.mul_comm 64, Nat.add_assoc]
    have : c.toNat % 64 * 64 ^ l.length ≤ 63 * 64 ^ l.length := Nat.mul_le_mul_right _ (by omega)
    rw [List.length_cons, Nat.pow_succ]; omega
  cases h
def okS (n : Nat) (r : Nat) : Prop := sizP (r : Int) = (n : Int)
theorem xbV (r : Nat) : isB (r : Int) = true ↔ r ≤ 1114111 ∧ (r < 55296 ∨ 57344 ≤ r) := by
 unfold isB
 rw [Bool.and_eq_true, Bool.and_eq_true, Bool.or_eq_true, decide_eq_true_eq, decide_eq_true_eq, decide_eq_true_eq, decide_eq_true_eq]
 omega
theorem xfm (r : Nat) : sizP (r : Int) = if r ≤ 1114111 ∧ (r < 55296 ∨ 57344 ≤ r) then (if r < 128 then 1 else if r < 2048 then 2 else if r < 65536 then 3 else 4) else 0 := by
 unfold sizP
 have e1 : ((r : Int) < 128) ↔ r < 128 := by omega
 have e2 : ((r : Int) < 2048) ↔ r < 2048 := by omega
 have e3 : ((r : Int) < 65536) ↔ r < 65536 := by omega
 simp only [xbV, e1, e2, e3]
theorem okS_2 (r : Nat) : okS 2 r ↔ 128 ≤ r ∧ r < 2048 := by
 unfold okS
 rw [xfm]
 split
 · split
   · omega
   split
   · omega
   split <;> omega
 omega
theorem okS_3 (r : Nat) : okS 3 r ↔ 2048 ≤ r ∧ r < 65536 ∧ (r < 55296 ∨ 57344 ≤ r) := by
 unfold okS
 rw [xfm]
 split
 · split
   · omega
   split
   · omega
   split <;> omega
 omega
theorem okS_4 (r : Nat) : okS 4 r ↔ 65536 ≤ r ∧ r ≤ 1114111 := by
 unfold okS
 rw [xfm]
 split
 · split
   · omega
   split
   · omega
   split <;> omega
 omega
theorem xgP (n m M q s : Nat) (hM : m = 1 ∧ M = 64 ∨ m = 2 ∧ M = 4096 ∨ m = 3 ∧ M = 262144) (hn : n = 2 ∨ n = 3 ∨ n = 4) (hmn : m < n)
 (h2 : n = 2 → 2 ≤ q ∧ q < 32) (h3 : n = 3 → m = 2 → q < 16) (h4 : n = 4 → m = 3 → q < 5) (hs : s < M)
 (h0 : ¬ okS n (q * M)) (h1 : ¬ okS n (q * M + (M - 1))) : ¬ okS n (q * M + s) := by
 rcases hn with rfl | rfl | rfl
 · have g0 := mt (okS_2 _).2 h0
   have g1 := mt (okS_2 _).2 h1
   intro g2
   have g2 := (okS_2 _).1 g2
   clear h0 h1 h3 h4
   have h2 := h2 rfl
   rcases hM with ⟨rfl, rfl⟩ | ⟨rfl, rfl⟩ | ⟨rfl, rfl⟩ <;> omega
 · have g0 := mt (okS_3 _).2 h0
   have g1 := mt (okS_3 _).2 h1
   intro g2
   have g2 := (okS_3 _).1 g2
   clear h0 h1 h2 h4
   have h3 := h3 rfl
   rcases hM with ⟨rfl, rfl⟩ | ⟨rfl, rfl⟩ | ⟨rfl, rfl⟩ <;> omega
 have g0 := mt (okS_4 _).2 h0
 have g1 := mt (okS_4 _).2 h1
 intro g2
 have g2 := (okS_4 _).1 g2
 clear h0 h1 h2 h3
 have h4 := h4 rfl
 rcases hM with ⟨rfl, rfl⟩ | ⟨rfl, rfl⟩ | ⟨rfl, rfl⟩ <;> omega
theorem xlW (c : UInt8) : (lenP c.toNat = 2 → 2 ≤ xb6 c ∧ xb6 c < 32) ∧ (lenP c.toNat = 3 → xb6 c < 16) ∧ (lenP c.toNat = 4 → xb6 c < 5) := by
 unfold xb6 lenP
 have := c.toNat_lt
 split
 · refine ⟨?_, ?_, ?_⟩ <;> intro h <;> omega
 split
 · refine ⟨fun _ => ?_, ?_, ?_⟩
   · rw [if_pos (by omega), show (2 : Nat) ^ (7 - 2) = 32 from rfl]; omega
   · intro h; omega
   intro h; omega
 split
 · refine ⟨?_, fun _ => ?_, ?_⟩
   · intro h; omega
   · rw [if_pos (by omega), show (2 : Nat) ^ (7 - 3) = 16 from rfl]; omega
   intro h; omega
 split
 · refine ⟨?_, ?_, fun _ => ?_⟩
   · intro h; omega
   · intro h; omega
   rw [if_pos (by omega), show (2 : Nat) ^ (7 - 4) = 8 from rfl]; omega
 refine ⟨?_, ?_, ?_⟩ <;> intro h <;> omega
theorem xkn (c : Nat) : lenP c ≤ 4 := by unfold lenP; split <;> (try split) <;> (try split) <;> (try split) <;> omega
theorem xes (c : UInt8) (t : List UInt8) (h : lenP c.toNat ≤ t.length + 1) : getP (c :: t) = if lenP c.toNat = 0 then ((65533 : Int), 1) else
 match xa4 (xb6 c) (t.take (lenP c.toNat - 1)) with
 | none => (65533, 1)
 | some r => if sizP r = lenP c.toNat then ((r : Int), lenP c.toNat) else (65533, 1) := by
 rw [getP]
 by_cases h0 : lenP c.toNat = 0
 · rw [if_pos (Or.inl h0), if_pos h0]
 rw [if_neg (by omega), if_neg h0]; rfl
theorem xig (c : UInt8) (t x : List UInt8) (h : lenP c.toNat ≤ t.length + 1) : getP (c :: (t ++ x)) = getP (c :: t) := by
 rw [xes _ _ h, xes _ _ (by simp; omega), List.take_append_of_le_length (by omega)]
theorem xfE (c : UInt8) (t : List UInt8) (h : lenP c.toNat = t.length + 1) (h2 : 2 ≤ lenP c.toNat) : (getP (c :: t)).2 = lenP c.toNat ↔ ∃ r, xa4 (xb6 c) t = some r ∧ okS (lenP c.toNat) r := by
 rw [xes _ _ (by omega), if_neg (by omega), List.take_of_length_le (by omega)]
 cases hq : xa4 (xb6 c) t with
 | none => simp; omega
 | some r =>
  show (if sizP r = lenP c.toNat then ((r : Int), lenP c.toNat) else (65533, 1)).2 = _ ↔ _
  by_cases hs : sizP r = lenP c.toNat
  · rw [if_pos hs]; exact ⟨fun _ => ⟨r, rfl, hs⟩, fun _ => rfl⟩
  rw [if_neg hs]
  constructor
  · intro e; simp at e; omega
  rintro ⟨q, e, ho⟩; cases e; exact absurd ho hs
theorem xcO (c : UInt8) (t : List UInt8) (hlt : t.length + 1 < lenP c.toNat) (ho : xd (c :: t) = false) (y : List UInt8) (hy : t.length + 1 + y.length = lenP c.toNat) : (getP (c :: (t ++ y))).2 ≠ lenP c.toNat := by
 have h4 := xkn c.toNat
 obtain ⟨b2, b3, b4⟩ := xlW c
 rw [xd, if_neg (by omega), Bool.or_eq_false_iff] at ho
 obtain ⟨o1, o2⟩ := ho
 have o1 := of_decide_eq_false (by simpa using o1 : decide (_ = _) = false)
 have o2 := of_decide_eq_false (by simpa using o2 : decide (_ = _) = false)
 have hm : ∃ m, lenP c.toNat - (t.length + 1) = m := ⟨_, rfl⟩
 obtain ⟨m, hm⟩ := hm
 rw [hm] at o1 o2
 have e1 := xfE c (t ++ List.replicate m 128) (by simp; omega) (by omega)
 have e2 := xfE c (t ++ List.replicate m 191) (by simp; omega) (by omega)
 have e3 := xfE c (t ++ y) (by simp; omega) (by omega)
 rw [Ne, e3]
 rw [e1] at o1
 rw [e2] at o2
 rintro ⟨r, hr, hok⟩
 rw [xf0] at hr o1 o2
 cases hq : xa4 (xb6 c) t with
 | none => rw [hq] at hr; cases hr
 | some q =>
  rw [hq] at hr o1 o2
  simp only [Option.bind_some] at hr o1 o2
  rw [xd8 128 (by decide)] at o1
  rw [xd8 191 (by decide)] at o2
  obtain ⟨s, rfl, hs⟩ := xcJ _ _ _ hr
  have hyl : y.length = m := by omega
  rw [hyl] at hs hok
  obtain ⟨s', hq1, hs'⟩ := xcJ _ _ _ hq
  have p63 : 63 * ((64 ^ m - 1) / 63) = 64 ^ m - 1 := by
   have : m = 1 ∨ m = 2 ∨ m = 3 := by omega
   rcases this with rfl | rfl | rfl <;> rfl
  have hM : m = 1 ∧ 64 ^ m = 64 ∨ m = 2 ∧ 64 ^ m = 4096 ∨ m = 3 ∧ 64 ^ m = 262144 := by
   have : m = 1 ∨ m = 2 ∨ m = 3 := by omega
   rcases this with rfl | rfl | rfl <;> decide
  have n1 : ¬ okS (lenP c.toNat) (q * 64 ^ m) := fun h => o1 ⟨_, rfl, by simpa using h⟩
  have n2 : ¬ okS (lenP c.toNat) (q * 64 ^ m + (64 ^ m - 1)) := fun h => o2 ⟨_, rfl, by rw [show (191 : UInt8).toNat % 64 = 63 from rfl, p63]; exact h⟩
  refine xgP (lenP c.toNat) m (64 ^ m) q s hM (by omega) (by omega) (fun e => ?_) (fun e e' => ?_) (fun e e' => ?_) hs n1 n2 hok
  · have ht : t.length = 0 := by omega
    rw [ht] at hq1 hs'
    have := b2 (by omega)
    simp at hq1 hs'
    omega
  · have ht : t.length = 0 := by omega
    rw [ht] at hq1 hs'
    have := b3 (by omega)
    simp at hq1 hs'
    omega
  have ht : t.length = 0 := by omega
  rw [ht] at hq1 hs'
  have := b4 (by omega)
  simp at hq1 hs'
  omega
theorem xe4 (c : UInt8) (t : List UInt8) (h : lenP c.toNat ≤ t.length + 1) : xd (c :: t) = false := by rw [xd, if_pos h]
theorem xiX (c : UInt8) (t x : List UInt8) (ho : xd (c :: t) = false) : xd (c :: (t ++ x)) = false ∧ getP (c :: (t ++ x)) = getP (c :: t) := by
 by_cases h : lenP c.toNat ≤ t.length + 1
 · exact ⟨xe4 _ _ (by simp; omega), xig _ _ _ h⟩
 have hlt : t.length + 1 < lenP c.toNat := by omega
 have g1 : getP (c :: t) = (65533, 1) := by rw [getP, if_pos (Or.inr hlt)]
 have g2 : ∀ z : List UInt8, (getP (c :: z)).2 ≠ lenP c.toNat → getP (c :: z) = (65533, 1) := by
  intro z hz
  rw [getP] at hz ⊢
  by_cases h0 : lenP c.toNat = 0 ∨ z.length + 1 < lenP c.toNat
  · rw [if_pos h0]
  rw [if_neg h0] at hz ⊢
  cases hq : xa4 (xb6 c) (z.take (lenP c.toNat - 1)) with
  | none => rfl
  | some r =>
   rw [hq] at hz
   show (if sizP r = lenP c.toNat then ((r : Int), lenP c.toNat) else (65533, 1)) = _
   by_cases hs : sizP r = lenP c.toNat
   · simp [hs] at hz
   rw [if_neg hs]
 by_cases h5 : lenP c.toNat ≤ (t ++ x).length + 1
 · refine ⟨xe4 _ _ h5, ?_⟩
   rw [g1]
   refine g2 _ ?_
   have hx : lenP c.toNat - (t.length + 1) ≤ x.length := by simp at h5; omega
   have h6 := xcO c t hlt ho (x.take (lenP c.toNat - (t.length + 1))) (by rw [List.length_take]; omega)
   have h7 := xig c (t ++ x.take (lenP c.toNat - (t.length + 1))) (x.drop (lenP c.toNat - (t.length + 1))) (by simp; omega)
   rw [List.append_assoc, List.take_append_drop] at h7
   rw [h7]; exact h6
 have hx : (t ++ x).length + 1 < lenP c.toNat := by omega
 have hl : (t ++ x).length = t.length + x.length := by simp
 refine ⟨?_, by rw [g1, getP, if_pos (Or.inr hx)]⟩
 rw [xd, if_neg (by omega), Bool.or_eq_false_iff]
 refine ⟨?_, ?_⟩
 · have h6 := xcO c t hlt ho (x ++ List.replicate (lenP c.toNat - ((t ++ x).length + 1)) 128) (by simp; omega)
   rw [← List.append_assoc] at h6
   simpa using h6
 have h6 := xcO c t hlt ho (x ++ List.replicate (lenP c.toNat - ((t ++ x).length + 1)) 191) (by simp; omega)
 rw [← List.append_assoc] at h6
 simpa using h6
theorem xdp (k : Int) (a b : UInt8) (t : List UInt8) : xaC k (a :: b :: t) = (if k = 2 then b.toNat * 256 + a.toNat else a.toNat * 256 + b.toNat) :: xaC k t := rfl
theorem xg2 (k : Int) (h x : List UInt8) (h0 : h ≠ []) (hs : (xaG k false h).2 ≠ 0) : xaG k false (h ++ x) = xaG k false h := by
 unfold xaG at hs ⊢
 by_cases hk : k = 1
 · rw [if_pos hk] at hs ⊢
   rw [if_pos hk]
   cases h with
   | nil => exact absurd rfl h0
   | cons c t =>
    unfold xg3 at hs ⊢
    by_cases ho : xd (c :: t) = true
    · simp [ho] at hs
    obtain ⟨h1, h2⟩ := xiX c t x (by simpa using ho)
    rw [List.cons_append, h1, h2]
    simp [ho]
 rw [if_neg hk] at hs ⊢
 rw [if_neg hk]
 unfold xg1 at hs ⊢
 rcases h with _ | ⟨a, _ | ⟨b, _ | ⟨c, _ | ⟨d, t⟩⟩⟩⟩
 · exact absurd rfl h0
 · simp [xaC] at hs
 · rw [show xaC k (([a, b] : List UInt8).take 4) = [if k = 2 then b.toNat * 256 + a.toNat else a.toNat * 256 + b.toNat] from rfl] at hs ⊢
   have e : ∃ y, xaC k ((([a, b] : List UInt8) ++ x).take 4) = (if k = 2 then b.toNat * 256 + a.toNat else a.toNat * 256 + b.toNat) :: y := ⟨_, rfl⟩
   obtain ⟨y, e⟩ := e
   rw [e]
   generalize (if k = 2 then b.toNat * 256 + a.toNat else a.toNat * 256 + b.toNat) = u at *
   by_cases hg : 55296 ≤ u ∧ u < 56320
   · simp [hg] at hs
   cases y with
   | nil => rfl
   | cons v y =>
    have hg' : (decide (55296 ≤ u) && decide (u < 56320)) = false := by simp; omega
    simp only [hg', Bool.false_and, Bool.false_eq_true, if_false, xa8]
    by_cases g1 : 56320 ≤ u ∧ u < 57344
    · rw [if_pos g1, if_pos (by omega)]
    rw [if_neg g1, if_neg hg, if_neg (by omega)]
 · rw [show xaC k (([a, b, c] : List UInt8).take 4) = [if k = 2 then b.toNat * 256 + a.toNat else a.toNat * 256 + b.toNat] from rfl] at hs ⊢
   have e : ∃ y, xaC k ((([a, b, c] : List UInt8) ++ x).take 4) = (if k = 2 then b.toNat * 256 + a.toNat else a.toNat * 256 + b.toNat) :: y := ⟨_, rfl⟩
   obtain ⟨y, e⟩ := e
   rw [e]
   generalize (if k = 2 then b.toNat * 256 + a.toNat else a.toNat * 256 + b.toNat) = u at *
   by_cases hg : 55296 ≤ u ∧ u < 56320
   · simp [hg] at hs
   cases y with
   | nil => rfl
   | cons v y =>
    have hg' : (decide (55296 ≤ u) && decide (u < 56320)) = false := by simp; omega
    simp only [hg', Bool.false_and, Bool.false_eq_true, if_false, xa8]
    by_cases g1 : 56320 ≤ u ∧ u < 57344
    · rw [if_pos g1, if_pos (by omega)]
    rw [if_neg g1, if_neg hg, if_neg (by omega)]
 rfl
theorem xkw (c : UInt8) (t : List UInt8) : 1 ≤ (getP (c :: t)).2 ∧ (getP (c :: t)).2 ≤ t.length + 1 := by
 rw [getP]
 by_cases h0 : lenP c.toNat = 0 ∨ t.length + 1 < lenP c.toNat
 · rw [if_pos h0]; exact ⟨Nat.le_refl _, by omega⟩
 rw [if_neg h0]
 cases xa4 (xb6 c) (t.take (lenP c.toNat - 1)) with
 | none => exact ⟨Nat.le_refl _, by simp⟩
 | some r =>
  show 1 ≤ (if sizP r = lenP c.toNat then ((r : Int), lenP c.toNat) else (65533, 1)).2 ∧ _
  by_cases hs : sizP r = lenP c.toNat
  · simp only [hs, if_true]; omega
  simp only [hs, if_false]; omega
theorem xfy (us : List Nat) : (xa8 us).2 ≤ us.length := by
 rcases us with _ | ⟨u, _ | ⟨v, r⟩⟩
 · exact Nat.le_refl _
 · simp only [xa8]
   by_cases g : 55296 ≤ u ∧ u < 57344
   · rw [if_pos g]; simp
   rw [if_neg g]; simp
 simp only [xa8]
 by_cases g : 56320 ≤ u ∧ u < 57344
 · rw [if_pos g]; simp
 rw [if_neg g]
 by_cases g2 : 55296 ≤ u ∧ u < 56320
 · rw [if_pos g2]
   by_cases g3 : v < 56320 ∨ 57344 ≤ v
   · rw [if_pos g3]; simp
   rw [if_neg g3]; simp
 rw [if_neg g2]; simp
theorem xdq (k : Int) : ∀ (n : Nat) (l : List UInt8), l.length ≤ n → 2 * (xaC k l).length ≤ l.length
 | 0, l, h => by cases l with | nil => simp [xaC] | cons _ _ => simp at h
 | n + 1, [], h => by simp [xaC]
 | n + 1, [a], h => by simp [xaC]
 | n + 1, a :: b :: t, h => by
  have := xdq k n t (by simp at h; omega)
  rw [xdp]
  simp only [List.length_cons]
  omega
theorem xc3 (k : Int) (all : Bool) (h : List UInt8) : (xaG k all h).2 ≤ h.length := by
 unfold xaG
 split
 · unfold xg3
   split
   · exact Nat.zero_le _
   cases h with
   | nil => exact Nat.le_refl _
   | cons c t => exact (xkw c t).2
 unfold xg1
 have h1 := xdq k _ (h.take 4) (Nat.le_refl _)
 rw [List.length_take] at h1
 split
 · split
   · exact Nat.le_refl _
   exact Nat.zero_le _
 · rename_i u e
   rw [e] at h1
   have := xfy [u]
   simp at h1 this
   split
   · exact Nat.zero_le _
   show 2 * _ ≤ _; omega
 rename_i u v r e
 rw [e] at h1
 have := xfy (u :: v :: r)
 simp at h1 this
 show 2 * _ ≤ _; omega
theorem xeO (k : Int) (all : Bool) : ∀ (n m : Nat) (h : List UInt8), h.length ≤ n → h.length ≤ m → xbp k all n h = xbp k all m h
 | 0, m, h, h1, h2 => by
  obtain rfl : h = [] := List.length_eq_zero_iff.1 (by omega)
  cases m <;> simp [xbp]
 | n + 1, 0, h, h1, h2 => by
  obtain rfl : h = [] := List.length_eq_zero_iff.1 (by omega)
  simp [xbp]
 | n + 1, m + 1, h, h1, h2 => by
  rw [xbp, xbp]
  by_cases h0 : h = []
  · rw [if_pos h0, if_pos h0]
  rw [if_neg h0, if_neg h0]
  by_cases h3 : (xaG k all h).2 = 0
  · rw [if_pos h3, if_pos h3]
  rw [if_neg h3, if_neg h3, xeO k all n m _ (by rw [List.length_drop]; omega) (by rw [List.length_drop]; omega)]
def xbi (k : Int) (all : Bool) (h : List UInt8) : List UInt8 × List UInt8 := xbp k all h.length h
theorem xcw (k : Int) (all : Bool) (h : List UInt8) (h0 : h ≠ []) (h3 : (xaG k all h).2 ≠ 0) :
 xbi k all h = (putP (xaG k all h).1 ++ (xbi k all (h.drop (xaG k all h).2)).1, (xbi k all (h.drop (xaG k all h).2)).2) := by
 unfold xbi
 have hl : 0 < h.length := List.length_pos_iff.2 h0
 obtain ⟨n, hn⟩ : ∃ n, h.length = n + 1 := ⟨h.length - 1, by omega⟩
 rw [hn, xbp, if_neg h0, if_neg h3, xeO k all n (h.drop (xaG k all h).2).length _ (by rw [List.length_drop]; omega) (Nat.le_refl _)]
theorem xdt (k : Int) (all : Bool) (h : List UInt8) (h0 : h ≠ []) (h3 : (xaG k all h).2 = 0) : xbi k all h = ([], h) := by
 unfold xbi
 have hl : 0 < h.length := List.length_pos_iff.2 h0
 obtain ⟨n, hn⟩ : ∃ n, h.length = n + 1 := ⟨h.length - 1, by omega⟩
 rw [hn, xbp, if_neg h0, if_pos h3]
theorem xc0 (k : Int) (all : Bool) : xbi k all [] = ([], []) := rfl
theorem xd7 (k : Int) : ∀ (n : Nat) (h x : List UInt8), h.length ≤ n → xbi k false (h ++ x) = ((xbi k false h).1 ++ (xbi k false ((xbi k false h).2 ++ x)).1, (xbi k false ((xbi k false h).2 ++ x)).2)
 | 0, h, x, h1 => by
  obtain rfl : h = [] := List.length_eq_zero_iff.1 (by omega)
  rw [xc0]; rfl
 | n + 1, h, x, h1 => by
  by_cases h0 : h = []
  · subst h0; rw [xc0]; rfl
  by_cases h3 : (xaG k false h).2 = 0
  · rw [xdt k false h h0 h3]; rfl
  have e := xg2 k h x h0 h3
  have hle := xc3 k false h
  rw [xcw k false (h ++ x) (by simp [h0]) (by rw [e]; exact h3), e, List.drop_append_of_le_length hle, xcw k false h h0 h3,
   xd7 k n (h.drop (xaG k false h).2) x (by rw [List.length_drop]; omega)]
  simp
theorem xi8 (l : List UInt8) (h : xcd l = false) (x : List UInt8) : xaE (l ++ x) = xaE l ∧ xcd (l ++ x) = false := by
 rcases l with _ | ⟨a, _ | ⟨b, _ | ⟨c, t⟩⟩⟩
 · simp [xcd] at h
 · simp [xcd] at h
   refine ⟨?_, ?_⟩
   · cases x with
     | nil => rfl
     | cons y x => simp [xaE, h]
   cases x with
   | nil => simp [xcd, h]
   | cons y x => simp [xcd, h]
 · simp [xcd] at h
   refine ⟨?_, ?_⟩
   · by_cases h2 : a = 239 ∧ b = 187
     · exact absurd h2.2 (h h2.1)
     have h3 : ∀ z : Prop, ¬ (a = 239 ∧ b = 187 ∧ z) := fun z e => h2 ⟨e.1, e.2.1⟩
     simp only [List.cons_append, List.nil_append, xaE]
     rw [if_neg (h3 _), if_neg (h3 _)]
   simp only [List.cons_append, List.nil_append, xcd]
   cases x <;> simp <;> exact h
 refine ⟨rfl, by simp [xcd]⟩
theorem xix (l x : List UInt8) (h : xb9 l = true) : xb9 (l ++ x) = true ∧ xaE (l ++ x) = xaE l := by
 by_cases hh : xcd l = false
 · obtain ⟨h1, h2⟩ := xi8 l hh x
   exact ⟨by unfold xb9; rw [h2]; simp, h1⟩
 have hh : xcd l = true := by simpa using hh
 unfold xb9 at h
 rw [hh] at h
 simp at h
 unfold xcd at hh
 simp at hh
 rcases hh with (((rfl | rfl) | rfl) | rfl) | rfl
 · simp [xaE] at h
 · simp [xaE] at h
 · simp [xaE] at h
 · simp [xaE] at h
 simp [xaE] at h
theorem xjf (k : Int) (hk : k = 0 ∨ k = 1 ∨ k = 2 ∨ k = 3) (a b : List UInt8) : ∃ y, (decW (decN k) (a ++ b)).1 = (decW (decN k) a).1 ++ y := by
 unfold decW decN xbk
 simp only [List.nil_append]
 by_cases h0 : k = 0
 · subst h0
   by_cases hs : xb9 a = true
   · obtain ⟨h1, h2⟩ := xix a b hs
     have e : ∀ l, xb9 l = true → xal false ⟨0, (0 : Int) != 0, l⟩ = ⟨if (xaE l).2 = 0 then 1 else (xaE l).1, true, l.drop (xaE l).2⟩ := by
      intro l hl
      unfold xal
      simp [hl]
     rw [e a hs, e (a ++ b) h1, h2]
     simp only [if_true]
     have hm : (xaE a).2 ≤ a.length := by
      rcases a with _ | ⟨x, _ | ⟨y, t⟩⟩
      · exact Nat.le_refl _
      · exact Nat.zero_le _
      simp only [xaE]
      by_cases g1 : x = 239 ∧ y = 187 ∧ t.head? = some 191
      · rw [if_pos g1]
        cases t with
        | nil => simp at g1
        | cons _ _ => simp
      rw [if_neg g1]
      by_cases g2 : x = 255 ∧ y = 254
      · rw [if_pos g2]; simp
      rw [if_neg g2]
      by_cases g3 : x = 254 ∧ y = 255
      · rw [if_pos g3]; simp
      rw [if_neg g3]; simp
     rw [List.drop_append_of_le_length hm]
     exact ⟨_, congrArg Prod.fst (xd7 _ _ (a.drop (xaE a).2) b (Nat.le_refl _))⟩
   have e : xal false ⟨0, (0 : Int) != 0, a⟩ = ⟨0, false, a⟩ := by
    unfold xal
    simp [hs]
   rw [e]
   exact ⟨_, (List.nil_append _).symm⟩
 have hb : (k != 0) = true := by simpa using h0
 have e : ∀ l, xal false ⟨k, k != 0, l⟩ = ⟨k, true, l⟩ := by
  intro l
  unfold xal
  simp [hb]
 rw [e, e]
 simp only [if_true]
 exact ⟨_, congrArg Prod.fst (xd7 k _ a b (Nat.le_refl _))⟩
theorem xkc : ∀ l, nlP l ≤ l.length
 | [] => Nat.le_refl _
 | c :: t => by
  rw [nlP]; split
  · exact Nat.zero_le _
  have := xkc t; simp only [List.length_cons]; omega
theorem xhn : ∀ (a b : List UInt8), nlP a < a.length → nlP (a ++ b) = nlP a
 | [], b, h => by simp at h
 | c :: t, b, h => by
  rw [List.cons_append, nlP, nlP]
  split
  · rfl
  rename_i hc
  rw [nlP, if_neg hc] at h
  rw [xhn t b (by simpa using h)]
theorem xi : ∀ (a b : List UInt8), nlP a = a.length → nlP (a ++ b) = a.length + nlP b
 | [], b, h => by simp
 | c :: t, b, h => by
  rw [nlP] at h
  split at h
  · simp at h
  rename_i hc
  rw [List.cons_append, nlP, if_neg hc, xi t b (by simpa using h)]
  simp only [List.length_cons]; omega
theorem xkb (l : List UInt8) : noCr l = if l.getLast? = some 13 then l.take (l.length - 1) else l := by
 unfold noCr Lib.trimSuffix Lib.hasSuffix
 have : ([13].isSuffixOf l = true) ↔ l.getLast? = some 13 := by
  rw [List.isSuffixOf_iff_suffix]
  constructor
  · rintro ⟨t, rfl⟩; simp
  intro h
  obtain ⟨t, ht⟩ := List.getLast?_eq_some_iff.1 h
  exact ⟨t, ht.symm⟩
 by_cases h : l.getLast? = some 13
 · rw [if_pos (this.2 h), if_pos h]; rfl
 rw [if_neg (fun e => h (this.1 e)), if_neg h]
theorem xhm (l : List UInt8) : (noCr l).length ≤ l.length ∧ l.length ≤ (noCr l).length + 1 := by
 rw [xkb]
 split
 · rw [List.length_take]; omega
 omega
theorem xf6 (most : Nat) : ∀ (f g : Nat) (h : List UInt8) (n p : Nat), h.length < f → h.length < g → splW most f h n p = splW most g h n p
 | 0, g, h, n, p, h1, h2 => by omega
 | f + 1, 0, h, n, p, h1, h2 => by omega
 | f + 1, g + 1, h, n, p, h1, h2 => by
  rw [splW, splW]
  by_cases g1 : nlP h < h.length
  · rw [if_pos g1, if_pos g1]
    by_cases g2 : most < (noCr (h.take (nlP h))).length
    · rw [if_pos g2, if_pos g2]
    rw [if_neg g2, if_neg g2, xf6 most f g _ _ _ (by rw [List.length_drop]; omega) (by rw [List.length_drop]; omega)]
  rw [if_neg g1, if_neg g1]
def splA (most : Nat) (h : List UInt8) (n p : Nat) : List Rc × Int × List UInt8 × Nat × Nat := splW most (h.length + 1) h n p
theorem xci (most : Nat) (h : List UInt8) (n p : Nat) (g1 : nlP h < h.length) : splA most h n p = if most < (noCr (h.take (nlP h))).length then ([], 10, [], n, p) else
 (⟨n, p, noCr (h.take (nlP h))⟩ :: (splA most (h.drop (nlP h + 1)) (n + 1) (p + (nlP h + 1))).1, (splA most (h.drop (nlP h + 1)) (n + 1) (p + (nlP h + 1))).2) := by
 unfold splA
 rw [splW, if_pos g1, xf6 most h.length ((h.drop (nlP h + 1)).length + 1) _ _ _ (by rw [List.length_drop]; omega) (by omega)]
theorem xbZ (most : Nat) (h : List UInt8) (n p : Nat) (g1 : ¬ nlP h < h.length) : splA most h n p = if most + 1 < h.length ∨ h.length = most + 1 ∧ h[h.length - 1]? ≠ some 13 then ([], 10, [], n, p) else ([], 0, h, n, p) := by
 unfold splA
 rw [splW, if_neg g1]
theorem xld (most : Nat) : ∀ (k : Nat) (a b : List UInt8) (n p : Nat), a.length ≤ k →
 ((splA most a n p).2.1 = 10 → splA most (a ++ b) n p = splA most a n p) ∧
 ((splA most a n p).2.1 ≠ 10 → ∃ h' n' p', (splA most a n p).2 = (0, h', n', p') ∧ (splA most (a ++ b) n p) = ((splA most a n p).1 ++ (splA most (h' ++ b) n' p').1, (splA most (h' ++ b) n' p').2)) := by
 intro k
 induction k with
 | zero =>
  intro a b n p hk
  obtain rfl : a = [] := List.length_eq_zero_iff.1 (by omega)
  have e : splA most [] n p = ([], 0, [], n, p) := by
   rw [xbZ _ _ _ _ (by simp), if_neg (by simp)]
  rw [e]
  refine ⟨fun h => by simp at h, fun _ => ⟨[], n, p, rfl, by simp⟩⟩
 | succ k ih =>
  intro a b n p hk
  by_cases g1 : nlP a < a.length
  · have g1' : nlP (a ++ b) < (a ++ b).length := by rw [xhn a b g1]; simp; omega
    rw [xci most a n p g1, xci most (a ++ b) n p g1', xhn a b g1, List.take_append_of_le_length (by omega), List.drop_append_of_le_length (by omega)]
    by_cases g2 : most < (noCr (a.take (nlP a))).length
    · rw [if_pos g2, if_pos g2]
      exact ⟨fun _ => rfl, fun h => absurd rfl h⟩
    rw [if_neg g2, if_neg g2]
    obtain ⟨h1, h2⟩ := ih (a.drop (nlP a + 1)) b (n + 1) (p + (nlP a + 1)) (by rw [List.length_drop]; omega)
    refine ⟨fun h => by rw [h1 h], fun h => ?_⟩
    obtain ⟨h', n', p', e1, e2⟩ := h2 h
    exact ⟨h', n', p', e1, by rw [e2]; rfl⟩
  have ha : nlP a = a.length := by have := xkc a; omega
  rw [xbZ most a n p g1]
  by_cases g2 : most + 1 < a.length ∨ a.length = most + 1 ∧ a[a.length - 1]? ≠ some 13
  · rw [if_pos g2]
    refine ⟨fun _ => ?_, fun h => absurd rfl h⟩
    have hb := xi a b ha
    by_cases g3 : nlP (a ++ b) < (a ++ b).length
    · rw [xci most (a ++ b) n p g3, if_pos]
      rw [hb, show a.length + nlP b = a.length + nlP b from rfl, List.take_length_add_append]
      have hl := (xhm (a ++ b.take (nlP b))).2
      rw [List.length_append, List.length_take] at hl
      have hnb := xkc b
      rcases g2 with g2 | ⟨g2, g4⟩
      · omega
      by_cases hz : nlP b = 0
      · rw [hz, List.take_zero, List.append_nil, xkb, if_neg]
        · omega
        rw [List.getLast?_eq_getElem?]; exact g4
      omega
    rw [xbZ most (a ++ b) n p g3, if_pos]
    rcases g2 with g2 | ⟨g2, g4⟩
    · left; simp; omega
    cases b with
    | nil => right; simpa using ⟨g2, g4⟩
    | cons x b => left; simp; omega
  rw [if_neg g2]
  refine ⟨fun h => by simp at h, fun _ => ⟨a, n, p, rfl, by simp⟩⟩
end Go.Proofs.YtjahiihmoglpfaaGreatDoor
section
namespace Go.Proofs
open Go.Shelf
open Go.RowKit Go.Lib in
open Go.RowKit Go.Lib in
open Go.RowKit Go.Lib in
def Tryz.lays102_ren : Go.Shelf.Ren := ⟨fun | 102 => 73 | 209 => 113 | 207 => 151 | n => n, fun | 9 => 9 | 4 => 4 | 3 => 3 | n => n, fun | n => n⟩
theorem Tryz.lays102 : Go.Proofs.Lays.n102 Tryz.prog Tryz.lays102_ren := {
 mixed := by kernel_rfl
 f102 := Tryz.func73.trans (congrArg some (by kernel_rfl))
 f207 := Tryz.func151.trans (congrArg some (by kernel_rfl))
 f209 := Tryz.func113.trans (congrArg some (by kernel_rfl))
 t3 := Tryz.underlying3
 a3 := Tryz.isAgg3
 z3 := Tryz.sizeOf3
 v3 := Tryz.zeroValue3
 t4 := Tryz.underlying4
 a4 := Tryz.isAgg4
 z4 := Tryz.sizeOf4
 v4 := Tryz.zeroValue4
 t9 := Tryz.underlying9
 a9 := Tryz.isAgg9
 z9 := Tryz.sizeOf9
 v9 := Tryz.zeroValue9 }
open Go.RowKit Go.Lib in
theorem Tryz.strings_TrimSuffix (s p : ByteArray) (w : World) (hs : s.size ≤ 9223372036854775807) :
 Calls Tryz.prog 73 #[.string s, .string p] w fun e w' => e = .returned (.string ⟨(Lib.trimSuffix s.data.toList p.data.toList).toArray⟩) ∧ w' = w := Any.strings_TrimSuffix Tryz.lays102 s p w hs
def Tryz.laysnb116_ren : Go.Shelf.Ren := ⟨fun | 116 => 182 | 115 => 218 | n => n, fun | 37 => 22 | 4 => 4 | 3 => 3 | 9 => 9 | 5 => 5 | n => n, fun | n => n⟩
theorem Tryz.laysnb116 : Go.Proofs.Lays.nb116 Tryz.prog Tryz.laysnb116_ren := {
 mixed := by kernel_rfl
 f115 := Tryz.func218.trans (congrArg some (by kernel_rfl))
 f116 := Tryz.func182.trans (congrArg some (by kernel_rfl))
 t3 := Tryz.underlying3
 a3 := Tryz.isAgg3
 z3 := Tryz.sizeOf3
 v3 := Tryz.zeroValue3
 t4 := Tryz.underlying4
 a4 := Tryz.isAgg4
 z4 := Tryz.sizeOf4
 v4 := Tryz.zeroValue4
 t9 := Tryz.underlying9
 a9 := Tryz.isAgg9
 z9 := Tryz.sizeOf9
 v9 := Tryz.zeroValue9
 t37 := Tryz.underlying22
 a37 := Tryz.isAgg22
 z37 := Tryz.sizeOf22
 v37 := Tryz.zeroValue22
 t5 := Tryz.underlying5
 a5 := Tryz.isAgg5
 z5 := Tryz.sizeOf5
 v5 := Tryz.zeroValue5 }
theorem Tryz.bytes_HasPrefix_all (p1 p2 : Option Addr) (n c m d : Nat) (xs ys : List Int) (w : World) (hx : xs.length = n) (hy : ys.length = m) (hnc : n ≤ c) (h1 : Lib.BytesIn w p1 n xs) (h2 : Lib.BytesIn w p2 m ys) :
 Calls Tryz.prog 182 #[.slice p1 n c, .slice p2 m d] w fun e w' => e = .returned (.bool (Lib.hasPrefix (Lib.bytesOf xs) (Lib.bytesOf ys))) ∧ w' = w := Any.bytes_HasPrefix_all Tryz.laysnb116 p1 p2 n c m d xs ys w hx hy hnc h1 h2
end Go.Proofs
end
namespace Go.Proofs.YtjahiihmoglpfaaGreatDoor
open Go.RowKit
set_option maxRecDepth 100000
def mem (l : List (Int × Int)) (r : Int) : Bool := l.any fun p => decide (p.1 ≤ r) && decide (r ≤ p.2)
theorem mem_iff (l : List (Int × Int)) (r : Int) : mem l r = true ↔ ∃ p ∈ l, p.1 ≤ r ∧ r ≤ p.2 := by simp [mem]
theorem xfv (r : Int) : mem [] r = false := rfl
theorem mem_append (a b : List (Int × Int)) (r : Int) : mem (a ++ b) r = (mem a r || mem b r) := by simp [mem]
theorem xby (p : Int × Int) (r : Int) : mem [p] r = (decide (p.1 ≤ r) && decide (r ≤ p.2)) := by simp [mem]
theorem mem_cons (p : Int × Int) (l : List (Int × Int)) (r : Int) : mem (p :: l) r = ((decide (p.1 ≤ r) && decide (r ≤ p.2)) || mem l r) := by simp [mem]
def xbH (r : Int) : Bool := decide (0 ≤ r) && decide (r ≤ 1114111)
def has (l : List (Int × Int)) (r : Int) : Bool := mem l r && xbH r
def Norm : List (Int × Int) → Prop
 | [] => True
 | p :: l => 0 ≤ p.1 ∧ p.1 ≤ p.2 ∧ p.2 ≤ 1114111 ∧ (∀ q ∈ l, p.2 + 2 ≤ q.1) ∧ Norm l
theorem Norm.tail {p : Int × Int} {l : List (Int × Int)} (h : Norm (p :: l)) : Norm l := h.2.2.2.2
theorem Norm.rng {l : List (Int × Int)} (h : Norm l) : ∀ p ∈ l, 0 ≤ p.1 ∧ p.1 ≤ p.2 ∧ p.2 ≤ 1114111 := by
 induction l with
 | nil => simp
 | cons q l ih =>
  intro p hp
  rcases List.mem_cons.1 hp with rfl | hp
  · exact ⟨h.1, h.2.1, h.2.2.1⟩
  exact ih h.tail p hp
theorem Norm.mem_all {l : List (Int × Int)} (h : Norm l) (r : Int) (hr : mem l r = true) : 0 ≤ r ∧ r ≤ 1114111 := by
 obtain ⟨p, hp, h1, h2⟩ := (mem_iff l r).1 hr
 have := h.rng p hp
 omega
theorem Norm.has {l : List (Int × Int)} (h : Norm l) (r : Int) : has l r = mem l r := by
 unfold Go.Proofs.YtjahiihmoglpfaaGreatDoor.has
 cases hm : mem l r
 · rfl
 have := h.mem_all r hm
 simp [xbH, this.1, this.2]
theorem xb4 (l : List (Int × Int)) (q : Int × Int) (h : Norm l) (h1 : 0 ≤ q.1) (h2 : q.1 ≤ q.2) (h3 : q.2 ≤ 1114111) (hq : ∀ p ∈ l, p.2 + 2 ≤ q.1) : Norm (l ++ [q]) := by
 induction l with
 | nil => exact ⟨h1, h2, h3, by simp, trivial⟩
 | cons p l ih =>
  refine ⟨h.1, h.2.1, h.2.2.1, fun x hx => ?_, ih h.tail (fun p hp => hq p (List.mem_cons_of_mem _ hp))⟩
  rcases List.mem_append.1 hx with hx | hx
  · exact h.2.2.2.1 x hx
  simp at hx; subst hx; exact hq p List.mem_cons_self
theorem xgo (l : List (Int × Int)) (p : Int × Int) (h : Norm (l ++ [p])) : Norm l ∧ 0 ≤ p.1 ∧ p.1 ≤ p.2 ∧ p.2 ≤ 1114111 ∧ ∀ q ∈ l, q.2 + 2 ≤ p.1 := by
 induction l with
 | nil => exact ⟨trivial, h.1, h.2.1, h.2.2.1, by simp⟩
 | cons q l ih =>
  obtain ⟨a, b, c, d, e⟩ := ih h.tail
  refine ⟨⟨h.1, h.2.1, h.2.2.1, fun x hx => h.2.2.2.1 x (List.mem_append_left _ hx), a⟩, b, c, d, fun x hx => ?_⟩
  rcases List.mem_cons.1 hx with rfl | hx
  · exact h.2.2.2.1 p (by simp)
  exact e x hx
theorem xa1 : ∀ (a b : List (Int × Int)), Norm a → Norm b → (∀ r, mem a r = mem b r) → a = b := by
 intro a
 induction a with
 | nil =>
  intro b _ hb h
  cases b with
  | nil => rfl
  | cons q b =>
   have := h q.1
   rw [xfv, mem_cons] at this
   have h2 := hb.2.1
   simp [h2] at this
 | cons p a ih =>
  intro b ha hb h
  cases b with
  | nil =>
   have := h p.1
   rw [xfv, mem_cons] at this
   have h2 := ha.2.1
   simp [h2] at this
  | cons q b =>
   have hlow : ∀ (p : Int × Int) (l : List (Int × Int)), Norm (p :: l) → ∀ r, mem (p :: l) r = true → p.1 ≤ r := by
    intro p l hn r hr
    obtain ⟨x, hx, h1, h2⟩ := (mem_iff _ r).1 hr
    rcases List.mem_cons.1 hx with rfl | hx
    · exact h1
    have := hn.2.2.2.1 x hx; have := hn.2.1; omega
   have hfst : ∀ (p : Int × Int) (l : List (Int × Int)), Norm (p :: l) → ∀ r, p.1 ≤ r → r ≤ p.2 → mem (p :: l) r = true := by
    intro p l hn r h1 h2; rw [mem_cons]; simp [h1, h2]
   have hgap : ∀ (p : Int × Int) (l : List (Int × Int)), Norm (p :: l) → mem (p :: l) (p.2 + 1) = false := by
    intro p l hn
    cases hm : mem (p :: l) (p.2 + 1)
    · rfl
    obtain ⟨x, hx, h1, h2⟩ := (mem_iff _ _).1 hm
    rcases List.mem_cons.1 hx with rfl | hx
    · omega
    have := hn.2.2.2.1 x hx; omega
   have ha2 := ha.2.1
   have hb2 := hb.2.1
   have e1 : p.1 = q.1 := by
    have h1 := hlow q b hb p.1 (by rw [← h]; exact hfst p a ha p.1 (by omega) (by omega))
    have h2 := hlow p a ha q.1 (by rw [h]; exact hfst q b hb q.1 (by omega) (by omega))
    omega
   have e2 : p.2 = q.2 := by
    rcases Int.lt_trichotomy p.2 q.2 with hlt | he | hlt
    · have h1 := hgap p a ha
      rw [h, hfst q b hb (p.2 + 1) (by omega) (by omega)] at h1
      cases h1
    · exact he
    have h1 := hgap q b hb
    rw [← h, hfst p a ha (q.2 + 1) (by omega) (by omega)] at h1
    cases h1
   have e : p = q := Prod.ext e1 e2
   subst e
   congr 1
   refine ih b ha.tail hb.tail fun r => ?_
   have hr := h r
   rw [mem_cons, mem_cons] at hr
   by_cases hin : p.1 ≤ r ∧ r ≤ p.2
   · have hz : ∀ l, Norm (p :: l) → mem l r = false := by
      intro l hn
      cases hm : mem l r
      · rfl
      obtain ⟨x, hx, h1, h2⟩ := (mem_iff _ _).1 hm
      have := hn.2.2.2.1 x hx; omega
     rw [hz a ha, hz b hb]
   have : (decide (p.1 ≤ r) && decide (r ≤ p.2)) = false := by simp; omega
   simpa [this] using hr
def sumR (l : List (Int × Int)) : Int := (l.map fun p => p.2 - p.1 + 1).sum
theorem xlb : sumR [] = 0 := rfl
theorem xf1 (p : Int × Int) (l : List (Int × Int)) : sumR (p :: l) = p.2 - p.1 + 1 + sumR l := by simp [sumR]
def cnt (f : Int → Bool) : Nat → Int
 | 0 => 0
 | n + 1 => cnt f n + if f n then 1 else 0
theorem xgN (f g : Int → Bool) (n : Nat) (h : ∀ r : Int, 0 ≤ r → r < n → f r = g r) : cnt f n = cnt g n := by
 induction n with
 | zero => rfl
 | succ n ih => simp only [cnt]; rw [ih (fun r h1 h2 => h r h1 (by omega)), h n (by omega) (by omega)]
theorem xji (f g : Int → Bool) (n : Nat) : cnt (fun r => f r || g r) n + cnt (fun r => f r && g r) n = cnt f n + cnt g n := by
 induction n with
 | zero => rfl
 | succ n ih =>
  simp only [cnt]
  by_cases hf : f n = true <;> by_cases hg : g n = true <;> simp [hf, hg] <;> omega
theorem xgM (n : Nat) : cnt (fun _ => false) n = 0 := by
 induction n with
 | zero => rfl
 | succ n ih => simp [cnt, ih]
theorem xkI (a b : Int) (n : Nat) (ha : 0 ≤ a) (hab : a ≤ b + 1) (hb : b < n) : cnt (fun r => decide (a ≤ r) && decide (r ≤ b)) n = b - a + 1 := by
 have key : ∀ m : Nat, cnt (fun r => decide (a ≤ r) && decide (r ≤ b)) m = if (m : Int) ≤ a then 0 else if (m : Int) ≤ b + 1 then (m : Int) - a else b - a + 1 := by
  intro m
  induction m with
  | zero => simp [cnt]; omega
  | succ m ih =>
   simp only [cnt, ih]
   by_cases h1 : a ≤ (m : Int) <;> by_cases h2 : (m : Int) ≤ b <;> simp [h1, h2] <;> (repeat' split) <;> omega
 rw [key]
 split
 · omega
 split <;> omega
theorem xlB (l : List (Int × Int)) (h : Norm l) : cnt (mem l) 1114112 = sumR l := by
 induction l with
 | nil => exact xgM _
 | cons p l ih =>
  rw [xf1, ← ih h.tail, ← xkI p.1 p.2 1114112 h.1 (by have := h.2.1; omega) (by have := h.2.2.1; omega)]
  rw [← xji]
  have : cnt (fun r => (decide (p.1 ≤ r) && decide (r ≤ p.2)) && mem l r) 1114112 = 0 := by
   rw [← xgM 1114112]
   refine xgN _ _ _ fun r _ _ => ?_
   by_cases hin : p.1 ≤ r ∧ r ≤ p.2
   · cases hm : mem l r
     · simp
     obtain ⟨x, hx, h1, h2⟩ := (mem_iff _ _).1 hm
     have := h.2.2.2.1 x hx; omega
   have : (decide (p.1 ≤ r) && decide (r ≤ p.2)) = false := by simp; omega
   simp [this]
  rw [this, Int.add_zero]
  exact xgN _ _ _ fun r _ _ => mem_cons p l r
theorem xg0 (l : List (Int × Int)) (h : Norm l) : 0 ≤ sumR l ∧ sumR l ≤ 1114112 := by
 rw [← xlB l h]
 have key : ∀ (f : Int → Bool) (n : Nat), 0 ≤ cnt f n ∧ cnt f n ≤ n := by
  intro f n
  induction n with
  | zero => simp [cnt]
  | succ n ih => simp only [cnt]; split <;> omega
 exact key _ _
def IsOf (rs out : List (Int × Int)) : Prop := Norm out ∧ ∀ r, mem out r = has rs r
theorem IsOf.unique {rs a b : List (Int × Int)} (ha : IsOf rs a) (hb : IsOf rs b) : a = b := xa1 a b ha.1 hb.1 fun r => by rw [ha.2, hb.2]
theorem IsOf.self {a : List (Int × Int)} (ha : Norm a) : IsOf a a := ⟨ha, fun r => (ha.has r).symm⟩
def encR (p : Int × Int) (j : Nat) : Value := if j = 0 then .int .i64 p.1 else .int .i64 p.2
def RSl (w : World) (v : Value) (l : List (Int × Int)) : Prop := SlOf 2 encR w v l ∧ ∀ p ∈ l, in64 p.1 ∧ in64 p.2
theorem RSl.cells {w : World} {v : Value} {l : List (Int × Int)} (h : RSl w v l) : ∃ a cap, v = .slice a l.length cap ∧ l.length ≤ 4611686018427387904 ∧
 (0 < l.length → ∃ b off, a = some ⟨b, off, none⟩ ∧ ∀ i (p : Int × Int), l[i]? = some p → w.cell? ⟨b, off + i * 2, none⟩ = some (.int .i64 p.1) ∧ w.cell? ⟨b, off + i * 2 + 1, none⟩ = some (.int .i64 p.2) ∧ in64 p.1 ∧ in64 p.2) := by
 obtain ⟨⟨a, cap, rfl, ⟨hl, hln⟩, hl2, hc⟩, hr⟩ := h
 refine ⟨a, cap, rfl, hl2, fun h0 => ?_⟩
 obtain ⟨b, off, rfl, hcc⟩ := hc h0
 exact ⟨b, off, rfl, fun i p hp => ⟨hcc i p hp 0 (by omega), hcc i p hp 1 (by omega), hr p (List.mem_of_getElem? hp)⟩⟩
theorem xeW (l : List (Int × Int)) (v : Value) (r : Int) (w : World) (h : RSl w v l) :
 Calls Tryz.prog 164 #[v, .int .i64 r] w fun e w' => e = .returned (.bool (has l r)) ∧ w = w' := by
 obtain ⟨a, cap, rfl, hl, hc⟩ := h.cells
 have Hc := xmA hc
 clear hc h
 go_enter Tryz.func164, Tryz.ntmps164
 go_wp2_with fail
 go_loop [5] (fun iv => ∃ i : Nat, iv = .int .i64 i ∧ i ≤ l.length ∧ has (l.take i) r = false) (fun iv => l.length - (intOf iv).toNat)
 case atStart => exact ⟨0, rfl, Nat.zero_le _, rfl⟩
 case round =>
  obtain ⟨i, rfl, hi, hno⟩ := hrel
  have Hno := xmA hno
  clear hno
  by_cases hil : i < l.length
  · obtain ⟨b, off, rfl, hcc⟩ := Hc.out (by omega)
    obtain ⟨p, hp⟩ : ∃ p, l[i]? = some p := ⟨_, List.getElem?_eq_getElem hil⟩
    obtain ⟨c0, c1, _, _⟩ := hcc i p hp
    clear hcc
    have hsn : l.take (i + 1) = l.take i ++ [p] := by rw [List.take_add_one, hp]; rfl
    have Hp := xmA hp
    have Hsn := xmA hsn
    clear hp hsn
    by_cases h1 : p.1 ≤ r ∧ r ≤ p.2 ∧ 0 ≤ r ∧ r ≤ 1114111
    · obtain ⟨a1, a2, a3, a4⟩ := h1
      go_wp2_with fail
      go_ret
      refine ⟨?_, rfl⟩
      have : has l r = true := by
       unfold has; rw [Bool.and_eq_true, mem_iff]
       exact ⟨⟨p, List.mem_of_getElem? Hp.out, a1, a2⟩, by simp [xbH, a3, a4]⟩
      rw [this]; rfl
    have hgo : has (l.take (i + 1)) r = false := by
     rw [Hsn.out]; unfold has; rw [mem_append, xby]
     have h0 := Hno.out
     unfold has at h0
     by_cases hin : p.1 ≤ r ∧ r ≤ p.2
     · have : xbH r = false := by simp [xbH]; omega
       simp [this]
     have : (decide (p.1 ≤ r) && decide (r ≤ p.2)) = false := by simp; omega
     rw [this, Bool.or_false]; exact h0
    by_cases g1 : p.1 ≤ r
    · by_cases g2 : r ≤ p.2
      · by_cases g3 : 0 ≤ r
        · have g4 : 1114111 < r := by omega
          go_wp2_with fail
          go_round
          case rel => exact ⟨i + 1, by go_num, by omega, hgo⟩
          case measure => simp [intOf]; omega
        go_wp2_with fail
        go_round
        case rel => exact ⟨i + 1, by go_num, by omega, hgo⟩
        case measure => simp [intOf]; omega
      go_wp2_with fail
      go_round
      case rel => exact ⟨i + 1, by go_num, by omega, hgo⟩
      case measure => simp [intOf]; omega
    go_wp2_with fail
    go_round
    case rel => exact ⟨i + 1, by go_num, by omega, hgo⟩
    case measure => simp [intOf]; omega
  go_wp2_with fail
  go_ret
  have h0 := Hno.out
  rw [List.take_of_length_le (by omega)] at h0
  exact ⟨by rw [h0]; rfl, rfl⟩
theorem xch {α : Type} {l : List α} {i : Nat} {x : α} (h : l[i]? = some x) : l.take (i + 1) = l.take i ++ [x] := by rw [List.take_add_one, h]; rfl
end Go.Proofs.YtjahiihmoglpfaaGreatDoor
