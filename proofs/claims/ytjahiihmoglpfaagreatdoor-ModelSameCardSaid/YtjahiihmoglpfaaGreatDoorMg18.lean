/-
  Several texts in one: lit.alike, alt at any texts. (*maker).alt. (*maker).alt, walked. (*maker).rep.
-/
import Derived.Test.YtjahiihmoglpfaaGreatDoorMg17
import Derived.Test.YtjahiihmoglpfaaGreatDoorMg16
import Derived.Deep.QuietTactic
import Derived.BigQuiet
import Derived.Test.YtjahiihmoglpfaaGreatDoorMg9
import Derived.Test.YtjahiihmoglpfaaGreatDoorMg12
import Derived.BigRegion
import Derived.Deep.AppendLies
namespace Go.Proofs.YtjahiihmoglpfaaGreatDoor
open Go.RowKit
set_option linter.unusedVariables false
set_option linter.unusedSimpArgs false
set_option maxRecDepth 100000
def xbD : List UInt8 → List UInt8 → List UInt8
 | x :: a, y :: b => if x = y then x :: xbD a b else []
 | _, _ => []
theorem xdI : ∀ (a b : List UInt8), (xbD a b).length ≤ a.length
 | [], _ => Nat.le_refl _
 | x :: a, [] => Nat.zero_le _
 | x :: a, y :: b => by
  have := xdI a b
  rw [xbD]; split <;> simp only [List.length_cons, List.length_nil] <;> omega
def LikR (a b : List UInt8) (w : World) (nv : Value) (wr : World) : Prop :=
 ∃ n : Nat, nv = .int .i64 n ∧ n ≤ a.length ∧ n ≤ b.length ∧ xbD a b = a.take n ++ xbD (a.drop n) (b.drop n) ∧ xaa (fun _ => False) w wr
set_option maxHeartbeats 4000000 in
theorem xk1 (a b : List UInt8) (w : World) (ha : a.length ≤ 100000) (hb : b.length ≤ 100000) : Calls Tryz.prog 110 #[strL a, strL b] w fun e w' => e = .returned (strL (xbD a b)) ∧ xaa (fun _ => False) w w' := by
 unfold strL
 go_enter Tryz.func110, Tryz.ntmps110
 go_wp2_with fail
 go_loopw [5] (fun nv wr => LikR a b w nv wr) (fun nv _ => a.length - (intOf nv).toNat)
 case atStart => exact ⟨0, rfl, Nat.zero_le _, Nat.zero_le _, by simp, xaa.refl _ _⟩
 case round =>
  obtain ⟨n, rfl, hna, hnb, hl, hk⟩ := hrel
  have K := xmA hk
  have HL := xmA hl
  clear hk hl
  by_cases h1 : n < a.length
  · by_cases h2 : n < b.length
    · obtain ⟨x, hx⟩ : ∃ x, a[n]? = some x := ⟨_, List.getElem?_eq_getElem h1⟩
      obtain ⟨y, hy⟩ : ∃ y, b[n]? = some y := ⟨_, List.getElem?_eq_getElem h2⟩
      have ix := idxC hx
      have iy := idxC hy
      have da : a.drop n = x :: a.drop (n + 1) := by
       obtain ⟨p1, p2⟩ := List.getElem?_eq_some_iff.1 hx
       rw [List.drop_eq_getElem_cons p1, p2]
      have db : b.drop n = y :: b.drop (n + 1) := by
       obtain ⟨p1, p2⟩ := List.getElem?_eq_some_iff.1 hy
       rw [List.drop_eq_getElem_cons p1, p2]
      by_cases hxy : x = y
      · subst hxy
        have HS : Hid (xbD a b = a.take (n + 1) ++ xbD (a.drop (n + 1)) (b.drop (n + 1))) := xmA (by
         rw [HL.out, da, db, xbD, if_pos rfl, List.take_add_one, hx]
         simp)
        clear da db hx hy
        go_wp2_with fail
        go_quiet (fail)
        go_wp2_with fail
        go_roundw
        case rel => exact ⟨n + 1, by go_num, by omega, by omega, HS.out, K.out.drawN _⟩
        case measure => simp [intOf]; omega
      have gxy : ((x.toNat : Int) == (y.toNat : Int)) = false := beq_eq_false_iff_ne.2 (fun e => hxy (UInt8.toNat_inj.1 (by omega)))
      have HS : Hid (xbD a b = a.take n) := xmA (by rw [HL.out, da, db, xbD, if_neg hxy, List.append_nil])
      have hex : (⟨a.toArray⟩ : ByteArray).extract 0 n = ⟨(a.take n).toArray⟩ := by
       apply ByteArray.ext
       simp [ByteArray.data_extract, List.extract_eq_take_drop]
      clear da db hx hy
      go_wp2_with fail
      go_quiet (fail)
      go_wp2_with fail
      go_ret
      exact ⟨by rw [HS.out, ← hex]; rfl, K.out.drawN _⟩
    have hbn : n = b.length := by omega
    have HS : Hid (xbD a b = a.take n) := xmA (by
     rw [HL.out, show b.drop n = [] from List.drop_eq_nil_of_le (by omega)]
     cases a.drop n <;> simp [xbD])
    have hex : (⟨a.toArray⟩ : ByteArray).extract 0 n = ⟨(a.take n).toArray⟩ := by
     apply ByteArray.ext
     simp [ByteArray.data_extract, List.extract_eq_take_drop]
    clear hbn
    go_wp2_with fail
    go_quiet (fail)
    go_wp2_with fail
    go_ret
    exact ⟨by rw [HS.out, ← hex]; rfl, K.out.drawN _⟩
  have HS : Hid (xbD a b = a.take n) := xmA (by
   rw [HL.out, show a.drop n = [] from List.drop_eq_nil_of_le (by omega)]
   simp [xbD])
  have hex : (⟨a.toArray⟩ : ByteArray).extract 0 n = ⟨(a.take n).toArray⟩ := by
   apply ByteArray.ext
   simp [ByteArray.data_extract, List.extract_eq_take_drop]
  go_wp2_with fail
  go_quiet (fail)
  go_wp2_with fail
  go_ret
  exact ⟨by rw [HS.out, ← hex]; rfl, K.out.drawN _⟩
def xa9 (r t : List UInt8 × Bool) : List UInt8 × Bool := (xbD r.1 t.1, r.2 && (t.2 && (r.1 == t.1)))
def LaR (n : Nat) (rest : List (List UInt8 × Bool)) (R : List UInt8 × Bool) (w : World) (iv sv bv : Value) (wr : World) : Prop :=
 ∃ (i : Nat) (r : List UInt8 × Bool), iv = .int .i64 i ∧ i ≤ n ∧ sv = strL r.1 ∧ bv = .bool r.2 ∧ (rest.drop i).foldl xa9 r = R ∧ r.1.length ≤ 1000 ∧ xaa (fun _ => False) w wr
theorem xl5 {q : List (List UInt8 × Bool)} {i : Nat} {p : List UInt8 × Bool} (h : q[i]? = some p) : q.drop i = p :: q.drop (i + 1) := by
 obtain ⟨h1, h2⟩ := List.getElem?_eq_some_iff.1 h
 rw [List.drop_eq_getElem_cons h1, h2]
set_option maxHeartbeats 8000000 in
theorem alt_any (P : Nat → Prop) (k0 : T) (L : List T) (r0 : List UInt8 × Bool) (rest : List (List UInt8 × Bool)) (a : Option Addr) (c : Nat) (w : World) (ha : KRow w P a (k0 :: L)) (hL : L.length ≤ 4000) (hn : rest.length = L.length) (hc : L.length + 1 ≤ c)
 (h0 : PreC k0 r0 ∧ r0.1.length ≤ 1000) (ih : ∀ (i : Nat) (k : T) (r : List UInt8 × Bool), L[i]? = some k → rest[i]? = some r → PreC k r ∧ r.1.length ≤ 1000) :
 Calls Tryz.prog 69 #[.slice a (L.length + 1) c] w fun e w' => PreE (rest.foldl xa9 r0) w e w' := by
 obtain ⟨b, off, uo, d1, f1, g1, um, ux, d2, f2, g2, rfl, hu, hlt, x0, x1, x2, x3, x4⟩ := ha.at (i := 0) rfl
 simp only [Nat.zero_mul, Nat.add_zero] at x0 x1 x2 x3 x4
 have HS : Hid (∀ W, xaa (fun _ => False) w W → Calls Tryz.prog 35 #[.agg #[.int .i64 uo, .slice d1 f1 g1, .int .i64 um, .int .i64 ux, .slice d2 f2 g2]] W fun e w' => PreE r0 W e w') := xmA (fun W kW =>
  h0.1 P ⟨uo, .slice d1 f1 g1, um, ux, .slice d2 f2 g2⟩ W (hu.keepsTo kW (fun _ _ => id) (fun _ h => h)))
 have HA := xmA ha
 have IH := xmA ih
 have HN := xmA hn
 obtain ⟨R, hR⟩ : ∃ R, rest.foldl xa9 r0 = R := ⟨_, rfl⟩
 have HR := xmA hR
 rw [hR]
 have hr0 := h0.2
 clear ha hu ih hn hR h0
 go_enter Tryz.func69, Tryz.ntmps69
 go_wp2_with fail
 refine (HS.out _ (KI.out)).mono ?_
 rintro e w2 ⟨rfl, k2⟩
 have K2 := xmA k2
 clear k2 x0 x1 x2 x3 x4 HS
 unfold strL
 have hend : ∀ (i : Nat) (r : List UInt8 × Bool), i = L.length → (rest.drop i).foldl xa9 r = R → r = R := fun i r hi h => by
  rw [List.drop_eq_nil_of_le (by rw [HN.out]; omega)] at h; exact h
 have HEnd := xmA hend
 clear hend
 by_cases hc1 : c = 1
 · subst hc1
   have hL0 : L.length = 0 := by omega
   rw [hL0]
   go_wp2_with fail
   go_loopw [20, 4, 5] (fun iv sv bv wr => LaR 0 rest R w iv sv bv wr) (fun iv _ _ _ => 0 - (intOf iv).toNat)
   case atStart => exact ⟨0, r0, rfl, Nat.zero_le _, rfl, rfl, HR.out, hr0, K2.out⟩
   case round =>
    obtain ⟨i, r, rfl, hi, rfl, rfl, hf, hrl, hk⟩ := hrel
    obtain rfl : i = 0 := by omega
    have HE := xmA (HEnd.out 0 r (by omega) hf)
    have K := xmA hk
    clear hf hk
    unfold strL
    go_wp2_with fail
    go_ret2
    exact ⟨by rw [← HE.out]; rfl, K.out⟩
 have hc2 : 1 < c := by omega
 go_wp2_with fail
 go_loopw [20, 4, 5] (fun iv sv bv wr => LaR L.length rest R w iv sv bv wr) (fun iv _ _ _ => L.length - (intOf iv).toNat)
 case atStart => exact ⟨0, r0, rfl, Nat.zero_le _, rfl, rfl, HR.out, hr0, K2.out⟩
 case round =>
  clear HR K2 hr0
  obtain ⟨i, r, rfl, hi, rfl, rfl, hf, hrl, hk⟩ := hrel
  have HF := xmA hf
  have K := xmA hk
  clear hf hk
  by_cases hil : i < L.length
  · obtain ⟨k, hki⟩ : ∃ k, L[i]? = some k := ⟨_, List.getElem?_eq_getElem hil⟩
    obtain ⟨t, hti⟩ : ∃ t, rest[i]? = some t := ⟨_, List.getElem?_eq_getElem (by rw [HN.out]; exact hil)⟩
    obtain ⟨b', off', uo', d1', f1', g1', um', ux', d2', f2', g2', hbb, hu', hlt', y0, y1, y2, y3, y4⟩ := HA.out.at (i := i + 1) (by simpa using hki)
    cases hbb
    obtain ⟨hp, htl⟩ := IH.out i k t hki hti
    have HS' : Hid (∀ W, xaa (fun _ => False) w W → Calls Tryz.prog 35 #[.agg #[.int .i64 uo', .slice d1' f1' g1', .int .i64 um', .int .i64 ux', .slice d2' f2' g2']] W fun e w' => PreE t W e w') := xmA (fun W kW =>
     hp P ⟨uo', .slice d1' f1' g1', um', ux', .slice d2' f2' g2'⟩ W (hu'.keepsTo kW (fun _ _ => id) (fun _ h => h)))
    have HF2 : Hid ((rest.drop (i + 1)).foldl xa9 (xa9 r t) = R) := xmA (by have h := HF.out; rw [xl5 hti] at h; exact h)
    have z0 := K.out.cell y0 id
    have z1 := K.out.cell y1 id
    have z2 := K.out.cell y2 id
    have z3 := K.out.cell y3 id
    have z4 := K.out.cell y4 id
    have e5 : off + (i + 1) * 5 = off + 5 + i * 5 := by omega
    rw [e5] at z0 z1 z2 z3 z4
    have hl2 : b < wr.heap.size := xan z0
    have hal := xdI r.1 t.1
    have HAl := xmA (fun W => xk1 r.1 t.1 W (by omega) (by omega))
    clear y0 y1 y2 y3 y4 hki hti hu' hp e5 HF
    obtain ⟨s, wh⟩ := r
    obtain ⟨t1, too⟩ := t
    simp only at hal hrl htl HAl
    unfold strL at HAl ⊢
    go_wp2_with fail
    refine (HS'.out _ (K.out.trans (KI.out))).mono ?_
    rintro e w3 ⟨rfl, k3⟩
    have K3 : Hid (xaa (fun _ => False) w w3) := xmA (xaa.trans (K.out.trans (KI.out)) k3)
    clear k3 z0 z1 z2 z3 z4
    unfold strL
    cases wh with
    | false =>
     go_wp2_with fail
     refine (HAl.out _).mono ?_
     rintro e w4 ⟨rfl, k4⟩
     have K4 := xmA (K3.out.trans k4)
     clear k4
     go_wp2_with fail
     go_roundw
     case rel => exact ⟨i + 1, xa9 (s, false) (t1, too), by go_num, by omega, rfl, rfl, HF2.out, by simp only [xa9]; omega, K4.out⟩
     case measure => simp [intOf]; omega
    | true =>
     cases too with
     | false =>
      go_wp2_with fail
      refine (HAl.out _).mono ?_
      rintro e w4 ⟨rfl, k4⟩
      have K4 := xmA (K3.out.trans k4)
      clear k4
      go_wp2_with fail
      go_roundw
      case rel => exact ⟨i + 1, xa9 (s, true) (t1, false), by go_num, by omega, rfl, rfl, HF2.out, by simp only [xa9]; omega, K4.out⟩
      case measure => simp [intOf]; omega
     | true =>
      obtain ⟨q, hq⟩ : ∃ q, (s == t1) = q := ⟨_, rfl⟩
      have HQ := xmA hq
      go_wp2_with fail
      refine (HAl.out _).mono ?_
      rintro e w4 ⟨rfl, k4⟩
      have K4 := xmA (K3.out.trans k4)
      clear k4
      go_wp2_with fail
      go_roundw
      case rel => exact ⟨i + 1, xa9 (s, true) (t1, true), by go_num, by omega, rfl, by simp [xa9, HQ.out], HF2.out, by simp only [xa9]; omega, K4.out⟩
      case measure => simp [intOf]; omega
  obtain rfl : i = L.length := by omega
  have HE := xmA (HEnd.out _ r rfl HF.out)
  clear HF
  unfold strL
  go_wp2_with fail
  go_ret2
  exact ⟨by rw [← HE.out]; rfl, K.out⟩
def altC : List Cd → Nat → Nat → List Ins
 | [], _, _ => []
 | [p], b, _ => p.1 b
 | p :: p2 :: r, b, E => ⟨2, [], b + 1, b + p.2 + 2⟩ :: (p.1 (b + 1) ++ ⟨2, [], E, E⟩ :: altC (p2 :: r) (b + p.2 + 2) E)
def altN : List Cd → Nat
 | [] => 0
 | [p] => p.2
 | p :: p2 :: r => p.2 + 2 + altN (p2 :: r)
theorem xir : ∀ (q : List Cd), (∀ p ∈ q, ∀ b, (p.1 b).length = p.2) → ∀ b E, (altC q b E).length = altN q
 | [], _, _, _ => rfl
 | [p], h, b, _ => h p (by simp) b
 | p :: p2 :: r, h, b, E => by
  simp only [altC, altN, List.length_cons, List.length_append, h p (by simp), xir (p2 :: r) (fun x hx => h x (by simp [hx]))]
  omega
theorem xkZ : ∀ (q : List Cd), (∀ p ∈ q, ∀ (b k : Nat) (i : Ins), (p.1 b)[k]? = some i → okG b (b + p.2) i) → (∀ p ∈ q, ∀ b, (p.1 b).length = p.2) → ∀ (b E k : Nat) (i : Ins), b + altN q ≤ E → (altC q b E)[k]? = some i → okG b E i
 | [], _, _, _, _, _, _, _, h => by simp [altC] at h
 | [p], hq, _, b, E, k, i, hE, h => (hq p (by simp) b k i h).mono (Nat.le_refl _) hE
 | p :: p2 :: r, hq, hl, b, E, k, i, hE, h => by
  simp only [altN] at hE
  rw [altC] at h
  rcases k with _ | k
  · obtain rfl : (⟨2, [], b + 1, b + p.2 + 2⟩ : Ins) = i := by simpa using h
    exact Or.inr ⟨rfl, ⟨by simp, by simp; omega⟩, by simp; omega, by simp; omega⟩
  rw [List.getElem?_cons_succ] at h
  rcases xcU h with h | ⟨_, h⟩
  · exact (hq p (by simp) (b + 1) k i h).mono (by omega) (by omega)
  generalize k - (p.1 (b + 1)).length = k' at h
  rcases k' with _ | k'
  · obtain rfl : (⟨2, [], E, E⟩ : Ins) = i := by simpa using h
    exact Or.inr ⟨rfl, ⟨by simp; omega, by simp⟩, by simp; omega, by simp⟩
  rw [List.getElem?_cons_succ] at h
  exact (xkZ (p2 :: r) (fun x hx => hq x (by simp [hx])) (fun x hx => hl x (by simp [hx])) (b + p.2 + 2) E k' i (by omega) h).mono (by omega) (Nat.le_refl _)
def xck (es : List Nat) (E : Nat) (l : List Ins) : List Ins := es.foldl (fun l e => l.set e ⟨2, [], E, E⟩) l
theorem xeh : ∀ (es : List Nat) (E : Nat) (l : List Ins), (xck es E l).length = l.length
 | [], _, _ => rfl
 | e :: es, E, l => by
  show (xck es E (l.set e _)).length = _
  rw [xeh es E, List.length_set]
theorem xei : ∀ (es : List Nat) (E : Nat) (l m : List Ins), (∀ e ∈ es, e < l.length) → xck es E (l ++ m) = xck es E l ++ m
 | [], _, _, _, _ => rfl
 | e :: es, E, l, m, h => by
  show xck es E ((l ++ m).set e _) = xck es E (l.set e _) ++ m
  rw [List.set_append_left _ _ (h e (by simp)), xei es E _ m (fun x hx => by rw [List.length_set]; exact h x (by simp [hx]))]
theorem xiV (es : List Nat) (e E : Nat) (l : List Ins) : xck (es ++ [e]) E l = (xck es E l).set e ⟨2, [], E, E⟩ := by
 unfold xck; rw [List.foldl_append]; rfl
theorem xiU (es : List Nat) (E : Nat) (l c : List Ins) (y : Nat) (h : ∀ e ∈ es, e < l.length) : xck (es ++ [l.length + 1 + c.length]) E (l ++ ⟨2, [], l.length + 1, y⟩ :: (c ++ [⟨2, [], 0, 0⟩])) = xck es E l ++ ⟨2, [], l.length + 1, y⟩ :: (c ++ [⟨2, [], E, E⟩]) := by
 rw [xiV, xei es E l _ h, List.set_append_right _ _ (by rw [xeh]; omega), xeh, show l.length + 1 + c.length - l.length = c.length + 1 by omega, List.set_cons_succ, List.set_append_right _ _ (Nat.le_refl _), Nat.sub_self]
 rfl
def ownN (w : World) (v : Value) (l : List Nat) : Prop := w.ownsRow 0 3 1 v l.length (l.map fun n : Nat => Value.int .i64 (n : Int))
structure MkE (B : Nat → Prop) (w : World) (mb : Nat) (is : List Ins) (ev : Value) (es : List Nat) : Prop where
 mkr : MkAt (fun b => B b ∧ ev.ownBlock ≠ some b) w mb is
 row : ownN w ev es
 eB : ∀ b, ev.ownBlock = some b → B b
theorem MkE.keepsF {B : Nat → Prop} {w w' : World} {mb : Nat} {is : List Ins} {ev : Value} {es : List Nat} (h : MkE B w mb is ev es) (K : xaa (fun _ => False) w w') : MkE B w' mb is ev es :=
 ⟨h.mkr.keepsF K, xae h.row K (fun _ _ => id), h.eB⟩
theorem MkE.next {B : Nat → Prop} {w w' : World} {mb : Nat} {is is' : List Ins} {ev : Value} {es : List Nat} (h : MkE B w mb is ev es) (hmb : ¬ B mb) (hM : MkAt (fun b => B b ∧ ev.ownBlock ≠ some b) w' mb is') (K : xaa (fun b => b = mb ∨ (B b ∧ ev.ownBlock ≠ some b)) w w') : MkE B w' mb is' ev es :=
 ⟨hM, xae h.row K (fun b e x => by
  rcases x with x | x
  · exact hmb (x ▸ h.eB b e)
  exact x.2 e), h.eB⟩
theorem MkE.push {B : Nat → Prop} {w wA w1 : World} {mb g cap : Nat} {is : List Ins} {ev : Value} {es : List Nat} {e : Nat} (h : MkE B w mb is ev es) (hmb : ¬ B mb) (hb : ∀ b, w.heap.size ≤ b → B b) (KA : xaa (fun _ => False) w wA)
 (hown : w1.ownsRow 0 3 1 (.slice (some ⟨g, 0, none⟩) (es.length + 1) cap) (es.length + 1) ((es.map fun n : Nat => Value.int .i64 (n : Int)) ++ [.int .i64 (e : Int)])) (hg : wA.grownBy w1 ev.ownBlock) (hat : ev.ownBlock = some g ∨ g = wA.heap.size) :
 MkE B w1 mb is (.slice (some ⟨g, 0, none⟩) (es.length + 1) cap) (es ++ [e]) ∧ xaa (fun b => b = mb ∨ B b) w w1 := by
 have k1 : xaa (fun b => ev.ownBlock = some b) wA w1 := (xaa.refl _ _).grown hg (fun b hb => Or.inl hb)
 have hs := KA.size
 have hM1 := (h.mkr.keepsF KA).keepsS k1 (fun e => hmb (h.eB _ e)) (fun b hb e => hb.2 e)
 have hgB : B g := by
  rcases hat with x | x
  · exact h.eB g x
  exact hb g (by omega)
 refine ⟨⟨?_, ?_, fun b e => by have h9 : g = b := Option.some.inj e; rw [← h9]; exact hgB⟩, (KA.mono (fun _ _ e => e.elim)).trans2 k1 (fun b hb e => Or.inr (h.eB b e))⟩
 · rcases hat with x | x
   · exact hM1.mono (fun b hb => ⟨hb.1, fun e => hb.2 (by have h9 : g = b := Option.some.inj e; rw [← h9]; exact x)⟩)
   have hA := (h.mkr.keepsF KA).but (fun b => g = b) (fun b e => by omega)
   refine (hA.keepsS k1 (fun e => hmb (h.eB _ e)) (fun b hb e => hb.1.2 e)).mono (fun b hb => ⟨hb.1.1, fun e => hb.2 (Option.some.inj e)⟩)
 unfold ownN
 simpa using hown
def AlsR (B : Nat → Prop) (n mb : Nat) (q : List Cd) (is : List Ins) (w : World) (iv ev : Value) (wr : World) : Prop :=
 ∃ (i : Nat) (is' : List Ins) (es : List Nat), iv = .int .i64 i ∧ i < n ∧ es.length ≤ i ∧ MkE B wr mb is' ev es ∧ is'.length + altN (q.drop i) = is.length + altN q ∧ (∀ e ∈ es, e < is'.length ∧ ∃ x y, is'[e]? = some ⟨2, [], x, y⟩) ∧ (∀ E, xck es E is' ++ altC (q.drop i) is'.length E = is ++ altC q is.length E) ∧ xaa (fun b => b = mb ∨ B b) w wr
def EndR (B : Nat → Prop) (mb E : Nat) (es : List Nat) (R : List Ins) (ev : Value) (w : World) (iv : Value) (wr : World) : Prop :=
 ∃ (j : Nat) (is' : List Ins), iv = .int .i64 j ∧ j ≤ es.length ∧ MkE B wr mb is' ev es ∧ is'.length = E ∧ (∀ e ∈ es.drop j, e < E ∧ ∃ x y, is'[e]? = some ⟨2, [], x, y⟩) ∧ xck (es.drop j) E is' = R ∧ xaa (fun b => b = mb ∨ B b) w wr
theorem xkY : ∀ (q : List Cd), 2 * (q.length - 1) ≤ altN q
 | [] => by simp
 | [p] => by simp
 | p :: p2 :: r => by
  have := xkY (p2 :: r)
  simp only [altN, List.length_cons] at this ⊢; omega
theorem MkE.stored {B : Nat → Prop} {w w' : World} {mb g n cap : Nat} {is is' : List Ins} {ivs : List IV} {ev : Value} {es : List Nat} (h : MkE B w mb is ev es) (hO : MkO (fun b => B b ∧ ev.ownBlock ≠ some b) w' mb is' g n cap ivs) (K : xaa (fun b => b = g) w w') : MkE B w' mb is' ev es ∧ xaa (fun b => b = mb ∨ B b) w w' :=
 ⟨⟨hO.at, xae h.row K (fun b e x => hO.gB.2 (by rw [← x]; exact e)), h.eB⟩, K.mono (fun b _ e => Or.inr (by rw [e]; exact hO.gB.1))⟩
set_option maxHeartbeats 16000000 in
theorem xlL (L : List T) (q : List Cd) (hq : q.length = L.length) (h0 : 0 < L.length) (ih : ∀ (i : Nat) (k : T) (p : Cd), L[i]? = some k → q[i]? = some p → xbX k p.1 p.2) (P B : Nat → Prop) (a : Option Addr) (c mb : Nat) (w0 w : World) (is : List Ins) (ha : KRow w0 P a L) (k0 : xaa (fun _ => False) w0 w) (hmb1 : w0.heap.size ≤ mb)
 (hmb : ¬ B mb) (hb : ∀ b, w.heap.size ≤ b → B b) (hB : ∀ b, B b → w0.heap.size ≤ b) (hn : is.length + altN q ≤ 2500) (hM : MkAt B w mb is) :
 Calls Tryz.prog 106 #[.pointer (some ⟨mb, 0, none⟩), .slice a L.length c] w fun e w' => NdE B mb (is ++ altC q is.length (is.length + altN q)) w e w' := by
 obtain ⟨i0, hi0, hz0, hz1, hz2⟩ := info_parts xbM
 have hqn := xkY q
 rw [hq] at hqn
 have HM := xmA hM
 have HA := xmA ha
 have IH := xmA ih
 have K0 := xmA k0
 have HN := xmA hq
 have HB := xmA hB
 have Hb := xmA hb
 obtain ⟨R, hR⟩ : ∃ R : Nat → List Ins, ∀ E, is ++ altC q is.length E = R E := ⟨fun E => is ++ altC q is.length E, fun _ => rfl⟩
 obtain ⟨EE, hEE⟩ : ∃ E, is.length + altN q = E := ⟨_, rfl⟩
 have HR := xmA hR
 have hw0 := k0.size
 have HEE := xmA hEE
 rw [hR, hEE]
 clear ha k0 hM ih hR hq hB hb hEE
 go_enter Tryz.func106, Tryz.ntmps106
 go_wp2_with fail
 go_loopw [4, 12] (fun ev iv wr => AlsR B L.length mb q is w iv ev wr) (fun _ iv _ => L.length - (intOf iv).toNat)
 case atStart => exact ⟨0, is, [], rfl, h0, Nat.le_refl _, ⟨HM.out.mono (fun b hb => ⟨hb, by simp [Value.ownBlock]⟩), ⟨rfl, Or.inl ⟨rfl, rfl⟩⟩, fun b e => by simp [Value.ownBlock] at e⟩, rfl, fun e he => by simp at he, fun E => rfl, xaa.refl _ _⟩
 case round =>
  obtain ⟨i, is', es, rfl, hi, hesl, hE, hlen, hes, hpat, hk⟩ := hrel
  have HE := xmA hE
  have HPat := xmA hpat
  have HKr := xmA hk
  have HEs := xmA hes
  obtain ⟨ea, ec, rfl⟩ := xad hE.row
  have hsw := hk.size
  have K0r : Hid (xaa (fun _ => False) w0 wr) := xmA (K0.out.trans2 hk (fun b hb e => by
   rcases e with e | e
   · omega
   have := HB.out b e; omega))
  clear hE hpat hk hes
  obtain ⟨k, hki⟩ : ∃ k, L[i]? = some k := ⟨_, List.getElem?_eq_getElem hi⟩
  obtain ⟨p, hpi⟩ : ∃ p, q[i]? = some p := ⟨_, List.getElem?_eq_getElem (by rw [HN.out]; exact hi)⟩
  obtain ⟨b, off, uo, d1, f1, g1, um, ux, d2, f2, g2, rfl, hu, hlt0, x0, x1, x2, x3, x4⟩ := HA.out.kid K0r.out hki
  have hlt : b < wr.heap.size := xan x0
  have HNG := xmA (IH.out i k p hki hpi)
  have Hu := xmA hu
  obtain ⟨B2, hB2⟩ : ∃ B2 : Nat → Prop, B2 = fun b => (B b ∧ (Value.slice ea es.length ec).ownBlock ≠ some b) ∧ ¬ b = wr.heap.size := ⟨_, rfl⟩
  have b2a : ¬ B2 mb := by rw [hB2]; exact fun h => hmb h.1.1
  have b2b : ∀ b, wr.heap.size < b → B2 b := fun b h => by rw [hB2]; exact ⟨⟨Hb.out b (by omega), fun e => by have := xax HE.out.row b e; omega⟩, by omega⟩
  have b2c : ∀ b, B2 b → w0.heap.size ≤ b := fun b h => by rw [hB2] at h; exact HB.out b h.1.1
  have b2d : ¬ B2 wr.heap.size := by rw [hB2]; exact fun h => h.2 rfl
  have b2e : ∀ b, B2 b → B b ∧ (Value.slice ea es.length ec).ownBlock ≠ some b := fun b h => by rw [hB2] at h; exact h.1
  have hmw : mb < wr.heap.size := HE.out.mkr.lt
  have M0 : Hid (MkAt B2 (wr.alloc (.cells #[.int .i64 uo, .slice d1 f1 g1, .int .i64 um, .int .i64 ux, .slice d2 f2 g2] 52)) mb is') := xmA (by
   rw [hB2]
   exact (HE.out.mkr.but (fun b => b = wr.heap.size) (fun b e => by omega)).keepsF ((xaa.refl _ _).alloc _))
  clear hB2 hu
  have ka : xaa (fun _ => False) wr (wr.alloc (.cells #[.int .i64 uo, .slice d1 f1 g1, .int .i64 um, .int .i64 ux, .slice d2 f2 g2] 52)) := (xaa.refl _ _).alloc _
  have KA := xmA ka
  have hsa : (wr.alloc (.cells #[.int .i64 uo, .slice d1 f1 g1, .int .i64 um, .int .i64 ux, .slice d2 f2 g2] 52)).heap.size = wr.heap.size + 1 := by simp
  have K0a := xmA (K0r.out.trans ka)
  have hdi := xex hpi
  clear ka
  by_cases hl : i + 1 = L.length
  · have g3 : ((i : Int) == (L.length : Int) - 1) = true := beq_iff_eq.2 (by omega)
    have hd1 : q.drop i = [p] := by rw [hdi, List.drop_eq_nil_of_le (by rw [HN.out]; omega)]
    rw [hd1] at hlen
    simp only [altN] at hlen
    have HP2 : Hid (∀ E, xck es E is' ++ p.1 is'.length = R E) := xmA (fun E => by have h := HPat.out E; rw [hd1] at h; rw [← HR.out E]; exact h)
    have HL := xmA (HNG.out.len is'.length)
    have HS := xmA (HNG.out.run P B2 ⟨uo, .slice d1 f1 g1, um, ux, .slice d2 f2 g2⟩ w0 _ mb is' Hu.out K0a.out hmb1 b2a (fun b h => b2b b (by omega)) b2c (by omega) M0.out)
    unfold NV.val at HS
    clear hki hpi hdi hd1 HPat
    go_wp2_with fail
    refine HS.out.mono ?_
    rintro e w2 ⟨rfl, h2, k2⟩
    have hE2 : MkE B w2 mb (is' ++ p.1 is'.length) (.slice ea es.length ec) es := (HE.out.keepsF KA.out).next hmb (h2.mono b2e) (k2.mono (fun b _ e => e.imp id (b2e b)))
    have K2 : Hid (xaa (fun b => b = mb ∨ B b) w w2) := xmA ((HKr.out.trans2 KA.out (fun _ _ e => e.elim)).trans2 k2 (fun b _ e => e.imp id (fun h => (b2e b h).1)))
    have HE2 := xmA hE2
    have HR2 : Hid (xck es EE (is' ++ p.1 is'.length) = R EE) := xmA (by rw [xei es EE is' _ (fun e he => (HEs.out e he).1)]; exact HP2.out EE)
    have HL2 : Hid ((is' ++ p.1 is'.length).length = EE) := xmA (by rw [List.length_append, HL.out, ← HEE.out]; omega)
    have HEs2 : Hid (∀ e ∈ es, e < EE ∧ ∃ x y, (is' ++ p.1 is'.length)[e]? = some ⟨2, [], x, y⟩) := xmA (fun e he => by
     obtain ⟨h1, x, y, h2⟩ := HEs.out e he
     exact ⟨by rw [← HL2.out, List.length_append]; omega, x, y, by rw [List.getElem?_append_left h1]; exact h2⟩)
    clear h2 k2 hE2 HS x0 x1 x2 x3 x4
    go_wp2_with fail
    go_loopw [50] (fun iv wr => EndR B mb EE es (R EE) (.slice ea es.length ec) w iv wr) (fun iv _ => es.length - (intOf iv).toNat)
    case atStart => exact ⟨0, _, rfl, Nat.zero_le _, HE2.out, HL2.out, by rw [List.drop_zero]; exact HEs2.out, HR2.out, K2.out⟩
    case round =>
     clear HE2 HL2 HEs2 HR2 K2
     obtain ⟨j, is2, rfl, hj, hE, hL2, hes2, hp2, hk⟩ := hrel
     have HE3 := xmA hE
     have HK3 := xmA hk
     have HP3 := xmA hp2
     have HS3 := xmA hes2
     clear hE hk hp2 hes2
     by_cases hjl : j < es.length
     · obtain ⟨e, he⟩ : ∃ e, es[j]? = some e := ⟨_, List.getElem?_eq_getElem hjl⟩
       have hdr : es.drop j = e :: es.drop (j + 1) := by
        obtain ⟨h1, h2⟩ := List.getElem?_eq_some_iff.1 he
        rw [List.drop_eq_getElem_cons h1, h2]
       obtain ⟨hel, x, y, hex⟩ := HS3.out e (by rw [hdr]; simp)
       obtain ⟨ge, gcap, hgv, _, _⟩ := (HE3.out.row).form (by omega)
       obtain ⟨rfl, _, rfl⟩ := Value.slice.inj hgv
       have ce : wr.cell? ⟨ge, j, none⟩ = some (.int .i64 (e : Int)) := by
        have hr := HE3.out.row
        unfold ownN at hr
        rw [hr.cellAt j (by omega), List.getElem?_map, he]; rfl
       obtain ⟨g, cap, ivs, hO⟩ := HE3.out.mkr.mko (by omega)
       rw [hL2] at hO
       obtain ⟨iv, hiv⟩ := hO.last (k := e) hel
       have c0 : wr.cell? ⟨mb, 0, none⟩ = some (.slice (some ⟨g, 0, none⟩) EE cap) := by rw [Lib.cell_of_heap hO.bk]; rfl
       have y2 := hO.cell hiv (j := 2) (by omega)
       have y3 := hO.cell hiv (j := 3) (by omega)
       have z2 := hO.own.frozenAt (e * 4 + 2)
       have z3 := hO.own.frozenAt (e * 4 + 3)
       have hgm : g ≠ mb := fun h => hmb (h ▸ hO.gB.1)
       have hmg : mb ≠ g := fun h => hgm h.symm
       have hgg : g ≠ ge := fun h => hO.gB.2 (by rw [h]; rfl)
       have hXY := (hO.setXY (fun h => hmb h.1) hiv hex EE EE).1
       have HXY := xmA hXY
       have u2 : encP iv 2 = .int .i64 iv.x := rfl
       have u3 : encP iv 3 = .int .i64 iv.y := rfl
       rw [u2] at y2
       rw [u3] at y3
       have hEp : xck (es.drop (j + 1)) EE (is2.set e ⟨2, [], EE, EE⟩) = R EE := by rw [← HP3.out, hdr]; rfl
       have HEp := xmA hEp
       have HS4 : Hid (∀ e' ∈ es.drop (j + 1), e' < EE ∧ ∃ x y, (is2.set e ⟨2, [], EE, EE⟩)[e']? = some ⟨2, [], x, y⟩) := xmA (fun e' he' => by
        obtain ⟨h1, x', y', h2⟩ := HS3.out e' (by rw [hdr]; simp [he'])
        refine ⟨h1, ?_⟩
        rw [List.getElem?_set]
        by_cases h : e = e'
        · subst h
          rw [if_pos rfl, if_pos (by rw [hL2]; exact h1)]
          exact ⟨_, _, rfl⟩
        rw [if_neg h]; exact ⟨x', y', h2⟩)
       have KG : Hid (xaa (fun b => b = g) wr ((wr.setCell ⟨g, e * 4 + 2, none⟩ (.int .i64 (EE : Int))).setCell ⟨g, e * 4 + 3, none⟩ (.int .i64 (EE : Int)))) := xmA (((xaa.refl (fun b => b = g) wr).set (p := ⟨g, e * 4 + 2, none⟩) rfl _).set (p := ⟨g, e * 4 + 3, none⟩) rfl _)
       clear hXY hO hiv hex he hdr hEp u2 u3 hgv HP3 HS3
       go_wp2_with fail
       go_region
       all_goals
        go_wp2_with fail
        go_roundw
        case rel =>
         obtain ⟨ivs', hM⟩ := HXY.out
         obtain ⟨q1, q2⟩ := HE3.out.stored hM KG.out
         exact ⟨j + 1, is2.set e ⟨2, [], EE, EE⟩, by go_num, by omega, q1.keepsF (xaa.refl (fun _ => False) _).drew, by rw [List.length_set]; exact hL2, HS4.out, HEp.out, (HK3.out.trans q2).drew⟩
        case measure => simp [intOf]; omega
     obtain rfl : j = es.length := by omega
     have HF : Hid (is2 = R EE) := xmA (by have h := HP3.out; rw [List.drop_length] at h; exact h)
     have HM3 := xmA (HE3.out.mkr.mono (C := B) (fun b h => h.1))
     go_wp2_with fail
     go_end0
     exact ⟨rfl, by rw [← HF.out]; exact HM3.out, HK3.out⟩
  have g3 : ((i : Int) == (L.length : Int) - 1) = false := beq_eq_false_iff_ne.2 (by omega)
  obtain ⟨p2, hp2⟩ : ∃ p2, q[i + 1]? = some p2 := ⟨_, List.getElem?_eq_getElem (by rw [HN.out]; omega)⟩
  have hd2 : q.drop i = p :: p2 :: q.drop (i + 1 + 1) := by rw [hdi, xex hp2]
  have hd3 : q.drop (i + 1) = p2 :: q.drop (i + 1 + 1) := xex hp2
  rw [hd2] at hlen
  simp only [altN] at hlen
  have HL := xmA (fun b => HNG.out.len b)
  have HSp := xmA (xcB B2 mb is' _ M0.out b2a (fun b h => b2b b (by omega)) (by omega))
  have z0 : (wr.alloc (.cells #[.int .i64 uo, .slice d1 f1 g1, .int .i64 um, .int .i64 ux, .slice d2 f2 g2] 52)).cell? ⟨wr.heap.size, 0, none⟩ = some (.int .i64 uo) := by simp [go_sem]
  have z1 : (wr.alloc (.cells #[.int .i64 uo, .slice d1 f1 g1, .int .i64 um, .int .i64 ux, .slice d2 f2 g2] 52)).cell? ⟨wr.heap.size, 1, none⟩ = some (.slice d1 f1 g1) := by simp [go_sem]
  have z2 : (wr.alloc (.cells #[.int .i64 uo, .slice d1 f1 g1, .int .i64 um, .int .i64 ux, .slice d2 f2 g2] 52)).cell? ⟨wr.heap.size, 2, none⟩ = some (.int .i64 um) := by simp [go_sem]
  have z3 : (wr.alloc (.cells #[.int .i64 uo, .slice d1 f1 g1, .int .i64 um, .int .i64 ux, .slice d2 f2 g2] 52)).cell? ⟨wr.heap.size, 3, none⟩ = some (.int .i64 ux) := by simp [go_sem]
  have z4 : (wr.alloc (.cells #[.int .i64 uo, .slice d1 f1 g1, .int .i64 um, .int .i64 ux, .slice d2 f2 g2] 52)).cell? ⟨wr.heap.size, 4, none⟩ = some (.slice d2 f2 g2) := by simp [go_sem]
  have Z0 := xmA z0
  have Z1 := xmA z1
  have Z2 := xmA z2
  have Z3 := xmA z3
  have Z4 := xmA z4
  have hfar : ¬ (wr.heap.size = mb ∨ B2 wr.heap.size) := fun h => by
   rcases h with h | h
   · omega
   exact b2d h
  have hfal : ¬ (fun b => b = mb ∨ B2 b) wr.heap.size := hfar
  clear z0 z1 z2 z3 z4 hki hpi hdi hp2 M0
  go_wp2_with fail
  refine HSp.out.mono ?_
  rintro e w2 ⟨rfl, h2, k2⟩
  have hs2 := k2.size
  rw [hsa] at hs2
  have z0 := k2.cell Z0.out hfal
  have z1 := k2.cell Z1.out hfal
  have z2 := k2.cell Z2.out hfal
  have z3 := k2.cell Z3.out hfal
  have z4 := k2.cell Z4.out hfal
  have K02 : xaa (fun _ => False) w0 w2 := K0a.out.trans2 k2 (fun b hb e => by
   rcases e with e | e
   · omega
   have := b2c b e; omega)
  have hLs : (is' ++ [(⟨2, [], is'.length + 1, 0⟩ : Ins)]).length = is'.length + 1 := by simp
  have hrun := HNG.out.run P B2 ⟨uo, .slice d1 f1 g1, um, ux, .slice d2 f2 g2⟩ w0 w2 mb _ Hu.out K02 hmb1 b2a (fun b h => b2b b (by omega)) b2c (by rw [hLs]; omega) h2
  rw [hLs] at hrun
  have HS := xmA hrun
  unfold NV.val at HS
  have K2 := xmA k2
  clear h2 k2 K02 hrun HSp
  go_wp2_with fail
  refine HS.out.mono ?_
  rintro e w3 ⟨rfl, h3, k3⟩
  have hs3 := k3.size
  have K3 := xmA (K2.out.trans k3)
  obtain ⟨cc, hcc⟩ : ∃ cc, p.1 (is'.length + 1) = cc := ⟨_, rfl⟩
  have hccl : cc.length = p.2 := by rw [← hcc]; exact HL.out _
  rw [hcc] at h3
  have HCC := xmA hcc
  have hL3 : (is' ++ [(⟨2, [], is'.length + 1, 0⟩ : Ins)] ++ cc).length = is'.length + 1 + cc.length := by simp; omega
  have hJ := xgu B2 mb 0 _ w3 h3 b2a (fun b h => b2b b (by omega)) (by rw [hL3]; omega) (by omega)
  rw [hL3] at hJ
  have HJ := xmA hJ
  clear h3 k3 hJ hcc HS z0 z1 z2 z3 z4 K2
  go_wp2_with fail
  refine HJ.out.mono ?_
  rintro e w4 ⟨rfl, h4, k4⟩
  have k24 := K3.out.trans k4
  have hE4 : MkE B w4 mb (is' ++ [(⟨2, [], is'.length + 1, 0⟩ : Ins)] ++ cc ++ [⟨2, [], 0, 0⟩]) (.slice ea es.length ec) es := (HE.out.keepsF KA.out).next hmb (h4.mono b2e) (k24.mono (fun b _ e => e.imp id (b2e b)))
  have HE4 := xmA hE4
  have K4 : Hid (xaa (fun b => b = mb ∨ B b) w w4) := xmA ((HKr.out.trans2 KA.out (fun _ _ e => e.elim)).trans2 k24 (fun b _ e => e.imp id (fun h => (b2e b h).1)))
  have hs4 := k4.size
  clear h4 k4 k24 hE4 HJ K3
  go_wp2_with (at_builtin; refine wpList_append_lies _ rfl (.tmp 30) (.tmp 33) 23 rfl 0 3 i0 (.int .i64 0) 1 8 Tryz.underlying23 hi0 hz0 hz1 hz2 rfl (by decide) _ es.length _ rfl (xac HE4.out.row _) ⟨w4.heap.size, 0, none⟩ 1 1 [.int .i64 ((is'.length : Int) + 1 + (p.2 : Int))] rfl rfl (by exact xak _ [_] _) (by simp [Value.oneCell']) (by decide) (by unfold maxLen; omega) (by omega) (Nat.zero_le _) _ rfl ?_)
  intro ge gcap w5 hown5 hgrow5 hat5 hlt5
  rw [show ((is'.length : Int) + 1 + (p.2 : Int)) = ((is'.length + 1 + p.2 : Nat) : Int) by omega] at hown5
  obtain ⟨hE5, k5⟩ := HE4.out.push hmb (fun b h => Hb.out b (by have := K4.out.size; omega)) ((xaa.refl (fun _ => False) w4).alloc _) hown5 hgrow5 (hat5.imp id (fun h => by rw [h]; simp))
  obtain ⟨is5, his5⟩ : ∃ l, l = is' ++ [(⟨2, [], is'.length + 1, 0⟩ : Ins)] ++ cc ++ [⟨2, [], 0, 0⟩] := ⟨_, rfl⟩
  rw [← his5] at hE5
  have hl5 : is5.length = is'.length + p.2 + 2 := by rw [his5]; simp; omega
  have hx5 : is5[is'.length]? = some ⟨2, [], is'.length + 1, 0⟩ := by rw [his5]; simp
  have hset : is5.set is'.length ⟨2, [], is'.length + 1, is5.length⟩ = is' ++ ⟨2, [], is'.length + 1, is5.length⟩ :: (cc ++ [⟨2, [], 0, 0⟩]) := by
   rw [hl5, his5]
   simp [List.set_append_right]
  obtain ⟨g, cap, ivs, hO⟩ := hE5.mkr.mko (by omega)
  obtain ⟨iv, hiv⟩ := hO.last (k := is'.length) (by omega)
  have c0 : w5.cell? ⟨mb, 0, none⟩ = some (.slice (some ⟨g, 0, none⟩) is5.length cap) := by rw [Lib.cell_of_heap hO.bk]; rfl
  have y3 := hO.cell hiv (j := 3) (by omega)
  have f3 := hO.own.frozenAt (is'.length * 4 + 3)
  have hgm : g ≠ mb := fun h => hmb (h ▸ hO.gB.1)
  have hmg : mb ≠ g := fun h => hgm h.symm
  have hXY := (hO.setXY (fun h => hmb h.1) hiv hx5 0 is5.length).2.2
  simp only [hset] at hXY
  have HXY := xmA hXY
  have e3 : encP iv 3 = .int .i64 iv.y := rfl
  rw [e3] at y3
  have KG : Hid (xaa (fun b => b = g) w5 (w5.setCell ⟨g, is'.length * 4 + 3, none⟩ (.int .i64 (is5.length : Int)))) := xmA ((xaa.refl (fun b => b = g) w5).set (p := ⟨g, is'.length * 4 + 3, none⟩) rfl _)
  have HE5 := xmA hE5
  have K5 := xmA (K4.out.trans k5)
  have HPs : Hid (∀ E, xck (es ++ [is'.length + 1 + p.2]) E (is' ++ ⟨2, [], is'.length + 1, is5.length⟩ :: (cc ++ [⟨2, [], 0, 0⟩])) ++ altC (q.drop (i + 1)) (is' ++ (⟨2, [], is'.length + 1, is5.length⟩ : Ins) :: (cc ++ [⟨2, [], 0, 0⟩])).length E = is ++ altC q is.length E) := xmA (fun E => by
   rw [show is'.length + 1 + p.2 = is'.length + 1 + cc.length by omega, xiU es E is' cc is5.length (fun e he => (HEs.out e he).1), ← HPat.out E, hd2, hd3, altC, HCC.out]
   have : (is' ++ (⟨2, [], is'.length + 1, is5.length⟩ : Ins) :: (cc ++ [⟨2, [], 0, 0⟩])).length = is'.length + p.2 + 2 := by simp; omega
   rw [this, hl5]
   simp)
  have HEs5 : Hid (∀ e ∈ es ++ [is'.length + 1 + p.2], e < (is' ++ (⟨2, [], is'.length + 1, is5.length⟩ : Ins) :: (cc ++ [⟨2, [], 0, 0⟩])).length ∧ ∃ x y, (is' ++ (⟨2, [], is'.length + 1, is5.length⟩ : Ins) :: (cc ++ [⟨2, [], 0, 0⟩]))[e]? = some ⟨2, [], x, y⟩) := xmA (fun e he => by
   rcases List.mem_append.1 he with he | he
   · obtain ⟨h1, x, y, h2⟩ := HEs.out e he
     exact ⟨by rw [List.length_append]; omega, x, y, by rw [List.getElem?_append_left h1]; exact h2⟩
   obtain rfl : e = is'.length + 1 + p.2 := by simpa using he
   refine ⟨by simp; omega, 0, 0, ?_⟩
   rw [List.getElem?_append_right (by omega), show is'.length + 1 + p.2 - is'.length = cc.length + 1 by omega, List.getElem?_cons_succ, List.getElem?_append_right (Nat.le_refl _), Nat.sub_self]
   rfl)
  have HLn : Hid ((is' ++ (⟨2, [], is'.length + 1, is5.length⟩ : Ins) :: (cc ++ [⟨2, [], 0, 0⟩])).length + altN (q.drop (i + 1)) = is.length + altN q) := xmA (by rw [hd3]; simp; omega)
  have hl5a : is'.length < is5.length := by omega
  have hl5b : is5.length ≤ 2500 := by omega
  clear hl5
  clear hown5 hgrow5 hat5 hE5 k5 his5 hx5 hset hO hiv hXY e3 HPat HEs hd2 hd3 HE4
  go_wp2_with fail
  go_region
  all_goals
   go_wp2_with fail
   go_roundw
   case rel =>
    obtain ⟨ivs', hM⟩ := HXY.out
    obtain ⟨q1, q2⟩ := HE5.out.stored hM KG.out
    exact ⟨i + 1, _, es ++ [is'.length + 1 + p.2], by go_num, by omega, by simp; omega, by have := q1.keepsF (xaa.refl (fun _ => False) _).drew; simpa using this, HLn.out, HEs5.out, HPs.out, (K5.out.trans q2).drew⟩
   case measure => simp [intOf]; omega
def optC (p : Cd) : Nat → Nat → Nat → List Ins
 | 0, _, _ => []
 | k + 1, b, E => ⟨2, [], b + 1, E⟩ :: (p.1 (b + 1) ++ optC p k (b + 1 + p.2) E)
def optN (p : Cd) : Nat → Nat
 | 0 => 0
 | k + 1 => p.2 + 1 + optN p k
def xcg (p : Cd) : Nat → Nat → List Ins
 | 0, _ => []
 | k + 1, b => p.1 b ++ xcg p k (b + p.2)
def xbc (p : Cd) : Nat → Nat
 | 0 => 0
 | k + 1 => p.2 + xbc p k
def xiR (p : Cd) (b : Nat) : List Ins := ⟨2, [], b + 1, b + p.2 + 2⟩ :: (p.1 (b + 1) ++ [⟨2, [], b, b⟩])
def repC (p : Cd) (a : Nat) (mx : Int) (b : Nat) : List Ins :=
 xcg p a b ++ if mx < 0 then xiR p (b + xbc p a) else optC p (mx.toNat - a) (b + xbc p a) (b + xbc p a + optN p (mx.toNat - a))
def repN (p : Cd) (a : Nat) (mx : Int) : Nat := xbc p a + if mx < 0 then p.2 + 2 else optN p (mx.toNat - a)
theorem xds {p : Cd} (h : ∀ b, (p.1 b).length = p.2) : ∀ k b, (xcg p k b).length = xbc p k
 | 0, _ => rfl
 | k + 1, b => by rw [xcg, List.length_append, h, xds h k, xbc]
theorem xh6 {p : Cd} (h : ∀ b, (p.1 b).length = p.2) : ∀ k b E, (optC p k b E).length = optN p k
 | 0, _, _ => rfl
 | k + 1, b, E => by rw [optC, List.length_cons, List.length_append, h, xh6 h k, optN]; omega
theorem xlk {p : Cd} (h : ∀ b, (p.1 b).length = p.2) (a : Nat) (mx : Int) (b : Nat) : (repC p a mx b).length = repN p a mx := by
 unfold repC repN
 rw [List.length_append, xds h]
 split
 · simp [xiR, h]
 rw [xh6 h]
theorem xfU {p : Cd} (h : ∀ (b k : Nat) (i : Ins), (p.1 b)[k]? = some i → okG b (b + p.2) i) : ∀ (n b k : Nat) (i : Ins), (xcg p n b)[k]? = some i → okG b (b + xbc p n) i
 | 0, _, _, _, hi => by simp [xcg] at hi
 | n + 1, b, k, i, hi => by
  rw [xcg] at hi
  rcases xcU hi with hi | ⟨_, hi⟩
  · exact (h b k i hi).mono (Nat.le_refl _) (by simp only [xbc]; omega)
  exact (xfU h n (b + p.2) _ i hi).mono (by omega) (by simp only [xbc]; omega)
theorem xj5 {p : Cd} (h : ∀ (b k : Nat) (i : Ins), (p.1 b)[k]? = some i → okG b (b + p.2) i) : ∀ (n b E k : Nat) (i : Ins), b + optN p n ≤ E → (optC p n b E)[k]? = some i → okG b E i
 | 0, _, _, _, _, _, hi => by simp [optC] at hi
 | n + 1, b, E, k, i, hE, hi => by
  simp only [optN] at hE
  rw [optC] at hi
  rcases k with _ | k
  · obtain rfl : (⟨2, [], b + 1, E⟩ : Ins) = i := by simpa using hi
    exact Or.inr ⟨rfl, ⟨by simp, by simp; omega⟩, by simp; omega, by simp⟩
  rw [List.getElem?_cons_succ] at hi
  rcases xcU hi with hi | ⟨_, hi⟩
  · exact (h (b + 1) k i hi).mono (by omega) (by omega)
  exact (xj5 h n (b + 1 + p.2) E _ i (by omega) hi).mono (by omega) (Nat.le_refl _)
theorem repC_ok {p : Cd} (h : ∀ (b k : Nat) (i : Ins), (p.1 b)[k]? = some i → okG b (b + p.2) i) (a : Nat) (mx : Int) (b k : Nat) (i : Ins) (hi : (repC p a mx b)[k]? = some i) : okG b (b + repN p a mx) i := by
 unfold repC at hi
 unfold repN
 rcases xcU hi with hi | ⟨_, hi⟩
 · exact (xfU h a b k i hi).mono (Nat.le_refl _) (by omega)
 split at hi
 · rename_i hm
   rw [if_pos hm]
   generalize k - (xcg p a b).length = k' at hi
   unfold xiR at hi
   rcases k' with _ | k'
   · obtain rfl : (⟨2, [], b + xbc p a + 1, b + xbc p a + p.2 + 2⟩ : Ins) = i := by simpa using hi
     exact Or.inr ⟨rfl, ⟨by (first | (simp; done) | (simp; omega)), by (first | (simp; done) | (simp; omega))⟩, by (first | (simp; done) | (simp; omega)), by (first | (simp; done) | (simp; omega))⟩
   rw [List.getElem?_cons_succ] at hi
   rcases xcU hi with hi | ⟨_, hi⟩
   · exact (h _ _ i hi).mono (by omega) (by omega)
   generalize k' - (p.1 (b + xbc p a + 1)).length = k2 at hi
   rcases k2 with _ | k2
   · obtain rfl : (⟨2, [], b + xbc p a, b + xbc p a⟩ : Ins) = i := by simpa using hi
     exact Or.inr ⟨rfl, ⟨by (first | (simp; done) | (simp; omega)), by (first | (simp; done) | (simp; omega))⟩, by (first | (simp; done) | (simp; omega)), by (first | (simp; done) | (simp; omega))⟩
   simp at hi
 rename_i hm
 rw [if_neg hm]
 exact (xj5 h _ _ _ _ i (Nat.le_refl _) hi).mono (by omega) (by omega)
def xbB (es : List Nat) (E : Nat) (l : List Ins) : List Ins := es.foldl (fun l e => l.set e ⟨2, [], e + 1, E⟩) l
theorem xdB : ∀ (es : List Nat) (E : Nat) (l : List Ins), (xbB es E l).length = l.length
 | [], _, _ => rfl
 | e :: es, E, l => by
  show (xbB es E (l.set e _)).length = _
  rw [xdB es E, List.length_set]
theorem xe1 : ∀ (es : List Nat) (E : Nat) (l m : List Ins), (∀ e ∈ es, e < l.length) → xbB es E (l ++ m) = xbB es E l ++ m
 | [], _, _, _, _ => rfl
 | e :: es, E, l, m, h => by
  show xbB es E ((l ++ m).set e _) = xbB es E (l.set e _) ++ m
  rw [List.set_append_left _ _ (h e (by simp)), xe1 es E _ m (fun x hx => by rw [List.length_set]; exact h x (by simp [hx]))]
theorem xhh (es : List Nat) (E : Nat) (l c : List Ins) (h : ∀ e ∈ es, e < l.length) : xbB (es ++ [l.length]) E (l ++ ⟨2, [], l.length + 1, 0⟩ :: c) = xbB es E l ++ ⟨2, [], l.length + 1, E⟩ :: c := by
 have : xbB (es ++ [l.length]) E (l ++ ⟨2, [], l.length + 1, 0⟩ :: c) = (xbB es E (l ++ ⟨2, [], l.length + 1, 0⟩ :: c)).set l.length ⟨2, [], l.length + 1, E⟩ := by
  unfold xbB; rw [List.foldl_append]; rfl
 rw [this, xe1 es E l _ h, List.set_append_right _ _ (by rw [xdB]; omega), xdB, Nat.sub_self]
 rfl
def Rp1 (p : Cd) (a : Nat) (R : List Ins) (lim : Nat) (B : Nat → Prop) (mb : Nat) (w : World) (iv : Value) (wr : World) : Prop :=
 ∃ (i r : Nat) (is' : List Ins), iv = .int .i64 i ∧ i + r = a ∧ MkAt B wr mb is' ∧ is'.length + xbc p r = lim ∧ is' ++ xcg p r is'.length = R ∧ xaa (fun b => b = mb ∨ B b) w wr
def Rp2 (p : Cd) (n : Nat) (R : Nat → List Ins) (lim : Nat) (B : Nat → Prop) (mb : Nat) (w : World) (sv iv : Value) (wr : World) : Prop :=
 ∃ (i r : Nat) (is' : List Ins) (es : List Nat), iv = .int .i64 i ∧ i + r = n ∧ es.length = i ∧ MkE B wr mb is' sv es ∧ is'.length + optN p r = lim ∧ (∀ e ∈ es, e < is'.length ∧ ∃ y, is'[e]? = some ⟨2, [], e + 1, y⟩) ∧ (∀ E, xbB es E is' ++ optC p r is'.length E = R E) ∧ xaa (fun b => b = mb ∨ B b) w wr
def Rp3 (B : Nat → Prop) (mb E : Nat) (es : List Nat) (R : List Ins) (ev : Value) (w : World) (iv : Value) (wr : World) : Prop :=
 ∃ (j : Nat) (is' : List Ins), iv = .int .i64 j ∧ j ≤ es.length ∧ MkE B wr mb is' ev es ∧ is'.length = E ∧ (∀ e ∈ es.drop j, e < E ∧ ∃ y, is'[e]? = some ⟨2, [], e + 1, y⟩) ∧ xbB (es.drop j) E is' = R ∧ xaa (fun b => b = mb ∨ B b) w wr
end Go.Proofs.YtjahiihmoglpfaaGreatDoor
