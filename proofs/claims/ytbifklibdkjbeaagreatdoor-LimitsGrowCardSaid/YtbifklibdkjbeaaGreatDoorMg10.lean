/-
  Several texts in one: (*maker).node, rep: chars, cats, and a char once or more often. The parser's functions on trees as plain words (atom, counted, pieces, alternatives), and where they end. The parser at texts of one piece: plain Lean.
-/
import Derived.Test.YtbifklibdkjbeaaGreatDoorMg9
import Derived.Test.YtbifklibdkjbeaaGreatDoorPaClsG
import Derived.Test.YtbifklibdkjbeaaGreatDoorMg5
import Derived.Test.YtbifklibdkjbeaaGreatDoorMg3
namespace Go.Proofs.YtbifklibdkjbeaaGreatDoor
open Go.RowKit
set_option linter.unusedVariables false
set_option linter.unusedSimpArgs false
set_option maxRecDepth 100000
set_option maxHeartbeats 4000000
def okG (lo hi : Nat) (i : Ins) : Prop := ((i.op = 1 ∨ i.op = 3 ∨ i.op = 4) ∧ lo ≤ i.x ∧ i.x ≤ hi) ∨ (i.op = 2 ∧ (lo ≤ i.x ∧ i.x ≤ hi) ∧ lo ≤ i.y ∧ i.y ≤ hi)
theorem okG.mono {lo hi lo' hi' : Nat} {i : Ins} (h : okG lo hi i) (h1 : lo' ≤ lo) (h2 : hi ≤ hi') : okG lo' hi' i := by
 rcases h with ⟨a, b, c⟩ | ⟨a, ⟨b, c⟩, d, e⟩
 · exact Or.inl ⟨a, by omega, by omega⟩
 exact Or.inr ⟨a, ⟨by omega, by omega⟩, by omega, by omega⟩
def NdE (B : Nat → Prop) (mb : Nat) (is : List Ins) (w : World) (e : Ending) (w' : World) : Prop := e = .returned (.tuple #[]) ∧ MkAt B w' mb is ∧ xa (fun b => b = mb ∨ B b) w w'
structure xbU (t : T) (c : Nat → List Ins) (n : Nat) : Prop where
 len : ∀ b, (c b).length = n
 ok : ∀ (b k : Nat) (i : Ins), (c b)[k]? = some i → okG b (b + n) i
 run : ∀ (P B : Nat → Prop) (v : NV) (w0 w : World) (mb : Nat) (is : List Ins), TAt w0 P v t → xa (fun _ => False) w0 w → w0.heap.size ≤ mb → ¬ B mb → (∀ b, w.heap.size ≤ b → B b) → (∀ b, B b → w0.heap.size ≤ b) → is.length + n ≤ 2500 → MkAt B w mb is →
  Calls Tryz.prog 130 #[.pointer (some ⟨mb, 0, none⟩), v.val] w fun e w' => NdE B mb (is ++ c is.length) w e w'
theorem xll (t : T) (h : t.op = 0) : xbU t (fun _ => []) 0 := by
 refine ⟨fun _ => rfl, fun b k i h => by simp at h, fun P B v w0 w mb is ht k0 hmb1 hmb hb hB hn hM => ?_⟩
 obtain ⟨a1, n1, c1, a2, c2, e1, e2, hl, hc⟩ := ht.krow
 have o1 : v.op = 0 := ht.op.trans h
 obtain ⟨vo, vsv, vm, vx, vk⟩ := v
 obtain rfl := e1
 obtain rfl := e2
 obtain rfl := o1
 have HM := xoo hM
 clear hl hc ht k0 hM
 generalize t.kids.toL.length = KL at *
 show Calls Tryz.prog 130 #[.pointer (some ⟨mb, 0, none⟩), .agg #[.int .i64 0, .slice a1 n1 c1, .int .i64 vm, .int .i64 vx, .slice a2 KL c2]] w _
 go_enter Tryz.func130, Tryz.ntmps130
 go_wp2_with fail
 go_end0
 exact ⟨rfl, by simpa using HM.out.keepsF ((xa.refl _ _).alloc _), (xa.refl _ _).alloc _⟩
theorem xlm (t : T) (h : t.op = 1) (hsl : t.set.length ≤ 4000) : xbU t (fun b => [⟨1, t.set, b + 1, 0⟩]) 1 := by
 refine ⟨fun _ => rfl, fun b k i hk => ?_, fun P B v w0 w mb is ht k0 hmb1 hmb hb hB hn hM => ?_⟩
 · rcases k with _ | k
   · obtain rfl : (⟨1, t.set, b + 1, 0⟩ : Ins) = i := by simpa using hk
     exact Or.inl ⟨by simp, by simp, by simp⟩
   simp at hk
 have hst := ht.set.keeps k0 (fun _ _ => id)
 obtain ⟨a1, n1, c1, a2, c2, e1, e2, hl, hc⟩ := ht.krow
 have o1 : v.op = 1 := ht.op.trans h
 obtain ⟨vo, vsv, vm, vx, vk⟩ := v
 obtain rfl := e1
 obtain rfl := e2
 obtain rfl := o1
 have kB : xa (fun _ => False) w (w.alloc (.cells #[.int .i64 1, .slice a1 n1 c1, .int .i64 vm, .int .i64 vx, .slice a2 t.kids.toL.length c2] 154)) := (xa.refl _ _).alloc _
 have HP := xoo (xd8 B mb 1 t.set _ is _ (hM.keepsF kB) (hst.keeps kB (fun _ _ => id)) hsl hmb (fun b h => hb b (by simp at h; omega)) (by omega))
 have KB := xoo kB
 clear hl hc ht hst k0 hM kB
 generalize t.kids.toL.length = KL at *
 show Calls Tryz.prog 130 #[.pointer (some ⟨mb, 0, none⟩), .agg #[.int .i64 1, .slice a1 n1 c1, .int .i64 vm, .int .i64 vx, .slice a2 KL c2]] w _
 go_enter Tryz.func130, Tryz.ntmps130
 go_wp2_with fail
 refine HP.out.mono ?_
 rintro e w2 ⟨rfl, h2, k2⟩
 have H2 := xoo h2
 have K2 : Hid (xa (fun b => b = mb ∨ B b) w w2) := xoo ((KB.out.mono (fun _ _ e => e.elim)).trans2 k2 (fun _ _ e => e))
 clear h2 k2
 go_wp2_with fail
 go_end0
 exact ⟨rfl, H2.out, K2.out⟩
theorem xjS (t : T) (h : t.op = 2) : xbU t (fun b => [⟨3, [], b + 1, 0⟩]) 1 := by
 refine ⟨fun _ => rfl, fun b k i hk => ?_, fun P B v w0 w mb is ht k0 hmb1 hmb hb hB hn hM => ?_⟩
 · rcases k with _ | k
   · obtain rfl : (⟨3, [], b + 1, 0⟩ : Ins) = i := by simpa using hk
     exact Or.inl ⟨by simp, by simp, by simp⟩
   simp at hk
 have hst := ht.set.keeps k0 (fun _ _ => id)
 obtain ⟨a1, n1, c1, a2, c2, e1, e2, hl, hc⟩ := ht.krow
 have o1 : v.op = 2 := ht.op.trans h
 obtain ⟨vo, vsv, vm, vx, vk⟩ := v
 obtain rfl := e1
 obtain rfl := e2
 obtain rfl := o1
 have kB : xa (fun _ => False) w (w.alloc (.cells #[.int .i64 2, .slice a1 n1 c1, .int .i64 vm, .int .i64 vx, .slice a2 t.kids.toL.length c2] 154)) := (xa.refl _ _).alloc _
 have HP := xoo (xd8 B mb 3 [] _ is _ (hM.keepsF kB) (xeo _) (by simp) hmb (fun b h => hb b (by simp at h; omega)) (by omega))
 have KB := xoo kB
 clear hl hc ht hst k0 hM kB
 generalize t.kids.toL.length = KL at *
 show Calls Tryz.prog 130 #[.pointer (some ⟨mb, 0, none⟩), .agg #[.int .i64 2, .slice a1 n1 c1, .int .i64 vm, .int .i64 vx, .slice a2 KL c2]] w _
 go_enter Tryz.func130, Tryz.ntmps130
 go_wp2_with fail
 refine HP.out.mono ?_
 rintro e w2 ⟨rfl, h2, k2⟩
 have H2 := xoo h2
 have K2 : Hid (xa (fun b => b = mb ∨ B b) w w2) := xoo ((KB.out.mono (fun _ _ e => e.elim)).trans2 k2 (fun _ _ e => e))
 clear h2 k2
 go_wp2_with fail
 go_end0
 exact ⟨rfl, H2.out, K2.out⟩
theorem xne (t : T) (h : t.op = 3) : xbU t (fun b => [⟨4, [], b + 1, 0⟩]) 1 := by
 refine ⟨fun _ => rfl, fun b k i hk => ?_, fun P B v w0 w mb is ht k0 hmb1 hmb hb hB hn hM => ?_⟩
 · rcases k with _ | k
   · obtain rfl : (⟨4, [], b + 1, 0⟩ : Ins) = i := by simpa using hk
     exact Or.inl ⟨by simp, by simp, by simp⟩
   simp at hk
 have hst := ht.set.keeps k0 (fun _ _ => id)
 obtain ⟨a1, n1, c1, a2, c2, e1, e2, hl, hc⟩ := ht.krow
 have o1 : v.op = 3 := ht.op.trans h
 obtain ⟨vo, vsv, vm, vx, vk⟩ := v
 obtain rfl := e1
 obtain rfl := e2
 obtain rfl := o1
 have kB : xa (fun _ => False) w (w.alloc (.cells #[.int .i64 3, .slice a1 n1 c1, .int .i64 vm, .int .i64 vx, .slice a2 t.kids.toL.length c2] 154)) := (xa.refl _ _).alloc _
 have HP := xoo (xd8 B mb 4 [] _ is _ (hM.keepsF kB) (xeo _) (by simp) hmb (fun b h => hb b (by simp at h; omega)) (by omega))
 have KB := xoo kB
 clear hl hc ht hst k0 hM kB
 generalize t.kids.toL.length = KL at *
 show Calls Tryz.prog 130 #[.pointer (some ⟨mb, 0, none⟩), .agg #[.int .i64 3, .slice a1 n1 c1, .int .i64 vm, .int .i64 vx, .slice a2 KL c2]] w _
 go_enter Tryz.func130, Tryz.ntmps130
 go_wp2_with fail
 refine HP.out.mono ?_
 rintro e w2 ⟨rfl, h2, k2⟩
 have H2 := xoo h2
 have K2 : Hid (xa (fun b => b = mb ∨ B b) w w2) := xoo ((KB.out.mono (fun _ _ e => e.elim)).trans2 k2 (fun _ _ e => e))
 clear h2 k2
 go_wp2_with fail
 go_end0
 exact ⟨rfl, H2.out, K2.out⟩
abbrev Cd := (Nat → List Ins) × Nat
def sumN : List Cd → Nat
 | [] => 0
 | p :: r => p.2 + sumN r
def catC : List Cd → Nat → List Ins
 | [], _ => []
 | p :: r, b => p.1 b ++ catC r (b + p.2)
theorem xi9 : ∀ (q : List Cd), (∀ p ∈ q, ∀ b, (p.1 b).length = p.2) → ∀ b, (catC q b).length = sumN q
 | [], _, _ => rfl
 | p :: r, h, b => by rw [catC, List.length_append, h p (by simp), xi9 r (fun x hx => h x (by simp [hx])), sumN]
theorem xdP {l m : List Ins} {k : Nat} {i : Ins} (h : (l ++ m)[k]? = some i) : l[k]? = some i ∨ (l.length ≤ k ∧ m[k - l.length]? = some i) := by
 by_cases hk : k < l.length
 · rw [List.getElem?_append_left hk] at h; exact Or.inl h
 rw [List.getElem?_append_right (by omega)] at h; exact Or.inr ⟨by omega, h⟩
theorem xmo : ∀ (q : List Cd), (∀ p ∈ q, ∀ (b k : Nat) (i : Ins), (p.1 b)[k]? = some i → okG b (b + p.2) i) → ∀ (b k : Nat) (i : Ins), (catC q b)[k]? = some i → okG b (b + sumN q) i
 | [], _, _, _, _, h => by simp [catC] at h
 | p :: r, hq, b, k, i, h => by
  rw [catC] at h
  rcases xdP h with h | ⟨_, h⟩
  · exact (hq p (by simp) b k i h).mono (Nat.le_refl _) (by simp only [sumN]; omega)
  exact (xmo r (fun x hx => hq x (by simp [hx])) (b + p.2) _ i h).mono (by omega) (by simp only [sumN]; omega)
theorem xi7 {L : List T} {q : List Cd} (hq : q.length = L.length) (h : ∀ (i : Nat) (k : T) (p : Cd), L[i]? = some k → q[i]? = some p → xbU k p.1 p.2) {p : Cd} (hp : p ∈ q) : ∃ k, xbU k p.1 p.2 := by
 obtain ⟨i, hi, rfl⟩ := List.mem_iff_getElem.1 hp
 exact ⟨L[i]'(by omega), h i _ _ (List.getElem?_eq_getElem (by omega)) (List.getElem?_eq_getElem hi)⟩
theorem xeP {q : List Cd} {i : Nat} {p : Cd} (h : q[i]? = some p) : q.drop i = p :: q.drop (i + 1) := by
 obtain ⟨h1, h2⟩ := List.getElem?_eq_some_iff.1 h
 rw [List.drop_eq_getElem_cons h1, h2]
def NdR (n : Nat) (q : List Cd) (R : List Ins) (B : Nat → Prop) (mb : Nat) (w : World) (iv : Value) (wr : World) : Prop :=
 ∃ (i : Nat) (is' : List Ins), iv = .int .i64 i ∧ i ≤ n ∧ MkAt B wr mb is' ∧ is'.length + sumN (q.drop i) ≤ 2500 ∧ is' ++ catC (q.drop i) is'.length = R ∧ xa (fun b => b = mb ∨ B b) w wr
theorem KRow.kid {w0 wr : World} {P : Nat → Prop} {a : Option Addr} {L : List T} (h : KRow w0 P a L) (K : xa (fun _ => False) w0 wr) {i : Nat} {k : T} (hi : L[i]? = some k) : ∃ b off uo d1 f1 g1 um ux d2 f2 g2, a = some ⟨b, off, none⟩ ∧ TAt w0 P ⟨uo, .slice d1 f1 g1, um, ux, .slice d2 f2 g2⟩ k ∧ b < w0.heap.size ∧
 wr.cell? ⟨b, off + i * 5, none⟩ = some (.int .i64 uo) ∧ wr.cell? ⟨b, off + i * 5 + 1, none⟩ = some (.slice d1 f1 g1) ∧ wr.cell? ⟨b, off + i * 5 + 2, none⟩ = some (.int .i64 um) ∧ wr.cell? ⟨b, off + i * 5 + 3, none⟩ = some (.int .i64 ux) ∧ wr.cell? ⟨b, off + i * 5 + 4, none⟩ = some (.slice d2 f2 g2) := by
 obtain ⟨b, off, uo, d1, f1, g1, um, ux, d2, f2, g2, e, hu, hlt, x0, x1, x2, x3, x4⟩ := h.at hi
 exact ⟨b, off, uo, d1, f1, g1, um, ux, d2, f2, g2, e, hu, hlt, K.cell x0 id, K.cell x1 id, K.cell x2 id, K.cell x3 id, K.cell x4 id⟩
theorem xnf (t : T) (q : List Cd) (h : t.op = 4) (hq : q.length = t.kids.toL.length) (ih : ∀ (i : Nat) (k : T) (p : Cd), t.kids.toL[i]? = some k → q[i]? = some p → xbU k p.1 p.2) : xbU t (catC q) (sumN q) := by
 refine ⟨xi9 q (fun p hp => (xi7 hq ih hp).choose_spec.len), xmo q (fun p hp => (xi7 hq ih hp).choose_spec.ok), fun P B v w0 w mb is ht k0 hmb1 hmb hb hB hn hM => ?_⟩
 obtain ⟨a1, n1, c1, a2, c2, e1, e2, hl, hc⟩ := ht.krow
 generalize t.kids.toL = L at *
 have o1 : v.op = 4 := ht.op.trans h
 obtain ⟨vo, vsv, vm, vx, vk⟩ := v
 obtain rfl := e1
 obtain rfl := e2
 obtain rfl := o1
 obtain ⟨R, hR⟩ : ∃ R, is ++ catC q is.length = R := ⟨_, rfl⟩
 have kB0 : xa (fun _ => False) w (w.alloc (.cells #[.int .i64 4, .slice a1 n1 c1, .int .i64 vm, .int .i64 vx, .slice a2 L.length c2] 154)) := (xa.refl _ _).alloc _
 have HM := xoo (hM.keepsF kB0)
 have KB : Hid (xa (fun b => b = mb ∨ B b) w (w.alloc (.cells #[.int .i64 4, .slice a1 n1 c1, .int .i64 vm, .int .i64 vx, .slice a2 L.length c2] 154))) := xoo ((xa.refl _ _).alloc _)
 have HC := xoo hc
 have IH := xoo ih
 have K0 := xoo k0
 have HR := xoo hR
 have HN := xoo hq
 have HB := xoo hB
 have Hb := xoo hb
 rw [hR]
 have hw0 := k0.size
 clear hc ht k0 hM kB0 ih hR hq hB hb
 show Calls Tryz.prog 130 #[.pointer (some ⟨mb, 0, none⟩), .agg #[.int .i64 4, .slice a1 n1 c1, .int .i64 vm, .int .i64 vx, .slice a2 L.length c2]] w _
 go_enter Tryz.func130, Tryz.ntmps130
 go_wp2_with fail
 go_loopw [27] (fun iv wr => NdR L.length q R B mb w iv wr) (fun iv _ => L.length - (intOf iv).toNat)
 case atStart => exact ⟨0, is, rfl, Nat.zero_le _, HM.out, hn, HR.out, KB.out⟩
 case round =>
  obtain ⟨i, is', rfl, hi, hM, hlen, hf, hk⟩ := hrel
  have HMr := xoo hM
  have HF := xoo hf
  have HKr := xoo hk
  have hsw := hk.size
  have K0r : Hid (xa (fun _ => False) w0 wr) := xoo (K0.out.trans2 hk (fun b hb e => by
   rcases e with e | e
   · omega
   have := HB.out b e; omega))
  clear hM hf hk
  by_cases hil : i < L.length
  · obtain ⟨k, hki⟩ : ∃ k, L[i]? = some k := ⟨_, List.getElem?_eq_getElem hil⟩
    obtain ⟨p, hpi⟩ : ∃ p, q[i]? = some p := ⟨_, List.getElem?_eq_getElem (by rw [HN.out]; exact hil)⟩
    obtain ⟨b, off, uo, d1, f1, g1, um, ux, d2, f2, g2, rfl, hu, hlt0, x0, x1, x2, x3, x4⟩ := HC.out.kid K0r.out hki
    have hlt : b < wr.heap.size := xay x0
    have hnc := IH.out i k p hki hpi
    rw [xeP hpi] at hlen
    have HF2 : Hid (is' ++ (p.1 is'.length ++ catC (q.drop (i + 1)) (is'.length + p.2)) = R) := xoo (by have h := HF.out; rw [xeP hpi] at h; exact h)
    simp only [sumN] at hlen
    have kBr : xa (fun _ => False) wr (wr.alloc (.cells #[.int .i64 uo, .slice d1 f1 g1, .int .i64 um, .int .i64 ux, .slice d2 f2 g2] 154)) := (xa.refl _ _).alloc _
    have HS := xoo (hnc.run P B ⟨uo, .slice d1 f1 g1, um, ux, .slice d2 f2 g2⟩ w0 _ mb is' hu (K0r.out.trans kBr) hmb1 hmb (fun b h => Hb.out b (by simp at h; omega)) HB.out (by omega) (HMr.out.keepsF kBr))
    have HL := xoo (hnc.len is'.length)
    have KBr := xoo kBr
    clear hki hpi hu hnc kBr
    unfold NV.val at HS
    go_wp2_with fail
    refine HS.out.mono ?_
    rintro e w2 ⟨rfl, h2, k2⟩
    have H2 := xoo h2
    have K2 : Hid (xa (fun b => b = mb ∨ B b) w w2) := xoo ((HKr.out.trans2 KBr.out (fun _ _ e => e.elim)).trans2 k2 (fun _ _ e => e))
    clear h2 k2
    go_wp2_with fail
    go_roundw
    case rel => exact ⟨i + 1, is' ++ p.1 is'.length, by go_num, by omega, H2.out, by rw [List.length_append, HL.out]; omega, by rw [List.length_append, HL.out, List.append_assoc]; exact HF2.out, K2.out⟩
    case measure => simp [intOf]; omega
  have he : i = L.length := by omega
  subst he
  have E : Hid (is' = R) := xoo (by have h := HF.out; rw [List.drop_eq_nil_of_le (by rw [HN.out]; omega)] at h; simpa [catC] using h)
  go_wp2_with fail
  go_end0
  exact ⟨rfl, by rw [← E.out]; exact HMr.out, HKr.out⟩
noncomputable def xav (alts : PS → T × PS) (rs : List Int) (s : PS) : T × PS :=
 if pk rs s = 40 then
  ((alts ⟨s.pos + 1, s.deep + 1, (nx rs s).bad || decide (10 < s.deep + 1)⟩).1,
    ⟨(wt rs 41 (alts ⟨s.pos + 1, s.deep + 1, (nx rs s).bad || decide (10 < s.deep + 1)⟩).2).pos, (wt rs 41 (alts ⟨s.pos + 1, s.deep + 1, (nx rs s).bad || decide (10 < s.deep + 1)⟩).2).deep - 1, (wt rs 41 (alts ⟨s.pos + 1, s.deep + 1, (nx rs s).bad || decide (10 < s.deep + 1)⟩).2).bad⟩)
 else if pk rs s = 94 then (⟨2, [], 0, 0, .nil⟩, nx rs s)
 else if pk rs s = 36 then (⟨3, [], 0, 0, .nil⟩, nx rs s)
 else if pk rs s = 46 then (xbx [(0, 9), (11, 1114111)], nx rs s)
 else if pk rs s = 91 then (xbx (clsL rs (nx rs s)), (clsR rs (nx rs s)).2)
 else if pk rs s = 92 then (xbx (escL rs (nx rs s)), escS rs (nx rs s))
 else (xbx [(pk rs s, pk rs s)], ⟨s.pos + 1, s.deep, (nx rs s).bad || amg sgL (pk rs s)⟩)
noncomputable def xak (alts : PS → T × PS) (rs : List Int) (s : PS) : T × PS :=
 if (cntV rs (xav alts rs s).2).2.2 then
  (⟨6, [], (cntV rs (xav alts rs s).2).1, (cntV rs (xav alts rs s).2).2.1, F.ofL [(xav alts rs s).1]⟩,
    ⟨(cntS rs (xav alts rs s).2).pos, (cntS rs (xav alts rs s).2).deep, (cntS rs (xav alts rs s).2).bad || (decide (pk rs s = 94) || decide (pk rs s = 36))⟩)
 else ((xav alts rs s).1, cntS rs (xav alts rs s).2)
def isPc (r : Int) : Bool := decide (0 ≤ r) && (!decide (r = 124) && !decide (r = 41))
noncomputable def xbp (alts : PS → T × PS) (rs : List Int) : Nat → PS → List T → List T × PS
 | 0, s, l => (l, s)
 | n + 1, s, l => if isPc (pk rs s) then xbp alts rs n (xak alts rs s).2 (l ++ [(xak alts rs s).1]) else (l, s)
noncomputable def pcsR (alts : PS → T × PS) (rs : List Int) (s : PS) : List T × PS := xbp alts rs (rs.length + 9) s []
noncomputable def xao (alts : PS → T × PS) (rs : List Int) (s : PS) : T × PS := (xa6 4 (pcsR alts rs s).1, (pcsR alts rs s).2)
noncomputable def xbq (alts : PS → T × PS) (rs : List Int) : Nat → PS → List T → List T × PS
 | 0, s, l => (l, s)
 | n + 1, s, l => if pk rs s = 124 then xbq alts rs n (xao alts rs (tk rs 124 s)).2 (l ++ [(xao alts rs (tk rs 124 s)).1]) else (l, s)
noncomputable def altR (alts : PS → T × PS) (rs : List Int) (s : PS) : List T × PS := xbq alts rs (rs.length + 9) (xao alts rs s).2 [(xao alts rs s).1]
noncomputable def xd (alts : PS → T × PS) (rs : List Int) (s : PS) : T × PS := (xa6 5 (altR alts rs s).1, (altR alts rs s).2)
noncomputable def alts (rs : List Int) : Nat → PS → T × PS
 | 0 => xd (fun s => (xa3, s)) rs
 | n + 1 => xd (alts rs n) rs
structure Inv (rs : List Int) (s : PS) : Prop where
 a : s.pos ≤ rs.length + 20
 b : s.bad = false → s.pos ≤ rs.length
structure Go1 (rs : List Int) (s s' : PS) : Prop where
 pos : s.pos ≤ s'.pos
 deep : s'.deep = s.deep
 bad : s.bad = true → s'.bad = true
 inv : Inv rs s → Inv rs s'
theorem Go1.refl (rs : List Int) (s : PS) : Go1 rs s s := ⟨Nat.le_refl _, rfl, id, id⟩
theorem Go1.trans {rs : List Int} {a b c : PS} (h : Go1 rs a b) (k : Go1 rs b c) : Go1 rs a c := ⟨Nat.le_trans h.pos k.pos, k.deep.trans h.deep, fun x => k.bad (h.bad x), fun x => k.inv (h.inv x)⟩
theorem xhv (rs : List Int) (r : Int) (s : PS) (hr : 0 ≤ r) : Go1 rs s (tk rs r s) := by
 unfold tk
 split
 · rename_i h
   have := xaJ (rs := rs) (s := s) (by omega)
   exact ⟨by simp, rfl, fun h => h, fun hi => ⟨by simp; omega, fun _ => by simp; omega⟩⟩
 exact Go1.refl _ _
theorem xgu (rs : List Int) (r : Int) (s : PS) (hr : 0 ≤ r) : Go1 rs s (wt rs r s) := by
 unfold wt
 split
 · rename_i h
   have := xaJ (rs := rs) (s := s) (by omega)
   exact ⟨by simp, rfl, fun h => h, fun hi => ⟨by simp; omega, fun _ => by simp; omega⟩⟩
 exact ⟨Nat.le_refl _, rfl, fun _ => rfl, fun hi => ⟨hi.a, fun h => by cases h⟩⟩
theorem xlg (rs : List Int) (s : PS) : Go1 rs s (numS rs s) := by
 unfold numS
 split
 · rename_i h
   have h0 : 0 ≤ pk rs s := by simp [dig] at h; omega
   have := xaJ h0
   split
   · rename_i h2
     have h3 : 0 ≤ pk rs ⟨s.pos + 1, s.deep, s.bad⟩ := by simp [dig] at h2; omega
     have h4 := (xaJ h3).1
     simp only at h4
     exact ⟨by simp, rfl, fun h => by simp [h], fun hi => ⟨by simp; omega, fun _ => by simp; omega⟩⟩
   exact ⟨by simp, rfl, fun h => h, fun hi => ⟨by simp; omega, fun _ => by simp; omega⟩⟩
 exact ⟨Nat.le_refl _, rfl, fun _ => rfl, fun hi => ⟨hi.a, fun h => by cases h⟩⟩
theorem or_go (rs : List Int) (s : PS) (x : Bool) : Go1 rs s ⟨s.pos, s.deep, s.bad || x⟩ :=
 ⟨Nat.le_refl _, rfl, fun h => by simp [h], fun hi => ⟨hi.a, fun h => by simp at h; exact hi.b h.1⟩⟩
theorem xld {rs : List Int} {s : PS} (h0 : 0 ≤ pk rs s) : Go1 rs s ⟨s.pos + 1, s.deep, s.bad⟩ := by
 have := xaJ h0
 exact ⟨by simp, rfl, fun h => h, fun hi => ⟨by simp; omega, fun _ => by simp; omega⟩⟩
theorem xoi (rs : List Int) (s : PS) : Go1 rs s (brS rs s) := by
 unfold brS
 have h1 := xlg rs s
 split
 · rename_i h
   have h2 : Go1 rs (numS rs s) (br3 rs s) := xld (by omega)
   split
   · exact (h1.trans h2).trans (xgu _ _ _ (by omega))
   have h3 := xlg rs (br3 rs s)
   exact (((h1.trans h2).trans h3).trans (or_go _ _ _)).trans (xgu _ _ _ (by omega))
 exact h1.trans (xgu _ _ _ (by omega))
theorem xeS (rs : List Int) (s : PS) : Go1 rs s (cntS rs s) := by
 unfold cntS
 split
 · rename_i h; exact xld (by omega)
 split
 · rename_i h; exact (xld (by omega)).trans (xoi _ _)
 exact Go1.refl _ _
theorem xjR {rs : List Int} {s : PS} (h : 0 ≤ pk rs s) : nx rs s = ⟨s.pos + 1, s.deep, s.bad⟩ := by
 unfold nx
 rw [show decide (pk rs s < 0) = false by simp; omega]
 simp
theorem xnJ (rs : List Int) : ∀ n f s l, (f = true → s.bad = false) → Inv rs s → s.pos ≤ (xb3 rs n f s l).2.pos ∧ (xb3 rs n f s l).2.deep = s.deep ∧ Inv rs (xb3 rs n f s l).2 := by
 intro n
 induction n with
 | zero => intro f s l _ hi; exact ⟨Nat.le_refl _, rfl, hi⟩
 | succ n ih =>
  intro f s l hf hi
  unfold xb3
  split
  · have := xhv rs 93 s (by omega)
    exact ⟨this.pos, this.deep, this.inv hi⟩
  rename_i hc
  have hb : s.bad = false := by
   cases f with
   | true => exact hf rfl
   | false =>
    cases hs : s.bad with
    | false => rfl
    | true => exact absurd ⟨rfl, Or.inl hs⟩ hc
  have h1 := xa4 rs s
  have h2 := hi.b hb
  have h3 := ih false (parS rs s) (l ++ parL rs s) (fun h => by cases h) ⟨by omega, fun hb => (xiz hb).1⟩
  exact ⟨by omega, h3.2.1.trans h1.2.2, h3.2.2⟩
theorem clsR_go {rs : List Int} {s : PS} (hb : s.bad = false) (hi : Inv rs s) : s.pos ≤ (clsR rs s).2.pos ∧ (clsR rs s).2.deep = s.deep ∧ Inv rs (clsR rs s).2 := by
 unfold clsR
 have h1 := xhv rs 94 s (by omega)
 have h2 := xnJ rs (rs.length + 9) true (tk rs 94 s) [] (fun _ => by rw [(xff rs 94 s (by omega)).2.2.1]; exact hb) (h1.inv hi)
 exact ⟨Nat.le_trans h1.pos h2.1, h2.2.1.trans h1.deep, h2.2.2⟩
theorem xja {alts : PS → T × PS} {rs : List Int} (ha : ∀ s, Go1 rs s (alts s).2) {s : PS} (h : 0 ≤ pk rs s) : s.pos + 1 ≤ (xav alts rs s).2.pos ∧ (xav alts rs s).2.deep = s.deep ∧ Inv rs (xav alts rs s).2 := by
 have hr := xaJ h
 have hn := xjR h
 have hi : Inv rs (nx rs s) := by rw [hn]; exact ⟨by simp; omega, fun _ => by simp; omega⟩
 have hnb : (nx rs s).bad = false := by rw [hn]; exact hr.2
 have hnp : (nx rs s).pos = s.pos + 1 := by rw [hn]
 have hnd : (nx rs s).deep = s.deep := by rw [hn]
 unfold xav
 split
 · have h1 := ha ⟨s.pos + 1, s.deep + 1, (nx rs s).bad || decide (10 < s.deep + 1)⟩
   have h2 := xgu rs 41 (alts ⟨s.pos + 1, s.deep + 1, (nx rs s).bad || decide (10 < s.deep + 1)⟩).2 (by omega)
   have h3 := h1.trans h2
   have h4 : Inv rs ⟨s.pos + 1, s.deep + 1, (nx rs s).bad || decide (10 < s.deep + 1)⟩ := ⟨by simp; omega, fun _ => by simp; omega⟩
   have h5 := h3.inv h4
   exact ⟨h3.pos, by simp only; rw [h3.deep]; simp, h5.a, h5.b⟩
 split
 · exact ⟨by rw [hnp]; exact Nat.le_refl _, hnd, hi⟩
 split
 · exact ⟨by rw [hnp]; exact Nat.le_refl _, hnd, hi⟩
 split
 · exact ⟨by rw [hnp]; exact Nat.le_refl _, hnd, hi⟩
 split
 · have := clsR_go hnb hi
   exact ⟨by rw [hnp] at this; exact this.1, this.2.1.trans hnd, this.2.2⟩
 split
 · have := xea rs (nx rs s)
   refine ⟨by simp only; rw [this.1, hnp]; omega, this.2.trans hnd, by simp only; rw [this.1, hnp]; omega, fun hb => ?_⟩
   have hb := xiG (xi2 hb)
   simp only; rw [this.1]; exact hb.1
 exact ⟨by simp, rfl, by simp; omega, fun _ => by simp; omega⟩
theorem xc7 {alts : PS → T × PS} {rs : List Int} (ha : ∀ s, Go1 rs s (alts s).2) {s : PS} (h : 0 ≤ pk rs s) : s.pos + 1 ≤ (xak alts rs s).2.pos ∧ (xak alts rs s).2.deep = s.deep ∧ Inv rs (xak alts rs s).2 := by
 have h1 := xja ha h
 have h2 := xeS rs (xav alts rs s).2
 unfold xak
 split
 · have h3 := h2.trans (or_go rs _ (decide (pk rs s = 94) || decide (pk rs s = 36)))
   exact ⟨Nat.le_trans h1.1 h3.pos, h3.deep.trans h1.2.1, h3.inv h1.2.2⟩
 exact ⟨Nat.le_trans h1.1 h2.pos, h2.deep.trans h1.2.1, h2.inv h1.2.2⟩
theorem xeQ {alts : PS → T × PS} {rs : List Int} (ha : ∀ s, Go1 rs s (alts s).2) {s : PS} (h : 0 ≤ pk rs s) : Go1 rs s (xak alts rs s).2 := by
 have h1 := xc7 ha h
 exact ⟨by omega, h1.2.1, fun hb => (by rw [(xaJ h).2] at hb; cases hb), fun _ => h1.2.2⟩
theorem xf8 {r : Int} (h : isPc r = true) : 0 ≤ r := by simp [isPc] at h; exact h.1
theorem xiy {alts : PS → T × PS} {rs : List Int} (ha : ∀ s, Go1 rs s (alts s).2) : ∀ n s l, Go1 rs s (xbp alts rs n s l).2 := by
 intro n
 induction n with
 | zero => intro s l; exact Go1.refl _ _
 | succ n ih =>
  intro s l
  unfold xbp
  split
  · rename_i h
    exact (xeQ ha (xf8 h)).trans (ih _ _)
  exact Go1.refl _ _
theorem xcM {alts : PS → T × PS} {rs : List Int} (ha : ∀ s, Go1 rs s (alts s).2) (s : PS) : Go1 rs s (xao alts rs s).2 := xiy ha _ _ _
theorem xgr {alts : PS → T × PS} {rs : List Int} (ha : ∀ s, Go1 rs s (alts s).2) : ∀ n s l, Go1 rs s (xbq alts rs n s l).2 := by
 intro n
 induction n with
 | zero => intro s l; exact Go1.refl _ _
 | succ n ih =>
  intro s l
  unfold xbq
  split
  · exact ((xhv rs 124 s (by omega)).trans (xcM ha _)).trans (ih _ _)
  exact Go1.refl _ _
theorem xeg {alts : PS → T × PS} {rs : List Int} (ha : ∀ s, Go1 rs s (alts s).2) (s : PS) : Go1 rs s (xd alts rs s).2 := (xcM ha s).trans (xgr ha _ _ _)
theorem xgp (rs : List Int) : ∀ n s, Go1 rs s (alts rs n s).2 := by
 intro n
 induction n with
 | zero => exact fun s => xeg (fun s => Go1.refl _ _) s
 | succ n ih => exact fun s => xeg ih s
theorem xj7 (c : UInt8) (l : List UInt8) (h : c.toNat < 128) : getP (c :: l) = ((c.toNat : Int), 1) := by
 have h1 : lenP c.toNat = 1 := by unfold lenP; rw [if_pos h]
 rw [xcx, h1]
 have h2 : xbR c = c.toNat := by unfold xbR; rw [h1]; simp
 have h3 : sizP (c.toNat : Int) = 1 := by
  have : isB (c.toNat : Int) = true := by simp [isB]; omega
  unfold sizP; rw [this]; simp; omega
 simp [xbm, h2, h3]
noncomputable def xcS (rs : List Int) : T × Int :=
 if (alts rs 11 ⟨0, 0, false⟩).2.bad = true ∨ (alts rs 11 ⟨0, 0, false⟩).2.pos ≠ rs.length then (xa3, 15) else ((alts rs 11 ⟨0, 0, false⟩).1, 0)
noncomputable def xaZ (l : List UInt8) : T × Int :=
 if 200 < l.length then (xa3, 16) else match pts l with | none => (xa3, 15) | some rs => xcS rs
theorem xfr {f : PS → T × PS} {rs : List Int} {s : PS} (n : Nat) (l : List T) (h : isPc (pk rs s) = false) : xbp f rs n s l = (l, s) := by
 cases n with
 | zero => rfl
 | succ n => unfold xbp; rw [h]; rfl
theorem xjJ {f : PS → T × PS} {rs : List Int} {s : PS} (n : Nat) (l : List T) (h : isPc (pk rs s) = true) : xbp f rs (n + 1) s l = xbp f rs n (xak f rs s).2 (l ++ [(xak f rs s).1]) := by
 conv => lhs; unfold xbp
 rw [h]; rfl
theorem xdQ {f : PS → T × PS} {rs : List Int} {s : PS} (n : Nat) (l : List T) (h : ¬ pk rs s = 124) : xbq f rs n s l = (l, s) := by
 cases n with
 | zero => rfl
 | succ n => unfold xbq; rw [if_neg h]
theorem xko {f : PS → T × PS} {rs : List Int} {s : PS} (n : Nat) (l : List T) (h : pk rs s = 124) : xbq f rs (n + 1) s l = xbq f rs n (xao f rs (tk rs 124 s)).2 (l ++ [(xao f rs (tk rs 124 s)).1]) := by
 conv => lhs; unfold xbq
 rw [if_pos h]
theorem xiW : isPc (-1) = false := by decide
theorem wt_no {rs : List Int} {s : PS} {r : Int} (h : ¬ pk rs s = r) : (wt rs r s).bad = true := by unfold wt; rw [if_neg h]
theorem xnG {rs : List Int} {s : PS} (h : pk rs s ≠ 63 ∧ pk rs s ≠ 43 ∧ pk rs s ≠ 42 ∧ pk rs s ≠ 123) : cntV rs s = (0, 0, false) ∧ cntS rs s = s := by
 unfold cntV cntS
 rw [if_neg h.1, if_neg h.2.1, if_neg h.2.2.1, if_neg h.2.2.2, if_neg (by omega), if_neg h.2.2.2]
 exact ⟨rfl, rfl⟩
theorem xbf {f : PS → T × PS} {rs : List Int} {s : PS} (h : (xav f rs s).2.bad = true) : (xak f rs s).2.bad = true := by
 have h2 := (xeS rs (xav f rs s).2).bad h
 unfold xak
 split
 · simp [h2]
 exact h2
end Go.Proofs.YtbifklibdkjbeaaGreatDoor
