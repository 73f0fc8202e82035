/-
  Several texts in one: (*maker).node, rep: chars, cats, and a char once or more often. prog.Length. Printed by mk_eql.py. prog.Compile. prog.Right. match's threads: clear, put. The document's Is, Size, Put, value: they come back (some answer, within bounds).
-/
import Derived.Test.YtjahiihmoglpfaaGreatDoorMg8
import Derived.BigRegion
import Derived.Deep.QuietTactic
import Derived.BigQuiet
import Derived.Test.YtjahiihmoglpfaaGreatDoorMg2
namespace Go.Proofs.YtjahiihmoglpfaaGreatDoor
open Go.RowKit
set_option linter.unusedVariables false
set_option linter.unusedSimpArgs false
set_option maxRecDepth 100000
def okG (lo hi : Nat) (i : Ins) : Prop := ((i.op = 1 ∨ i.op = 3 ∨ i.op = 4) ∧ lo ≤ i.x ∧ i.x ≤ hi) ∨ (i.op = 2 ∧ (lo ≤ i.x ∧ i.x ≤ hi) ∧ lo ≤ i.y ∧ i.y ≤ hi)
theorem okG.mono {lo hi lo' hi' : Nat} {i : Ins} (h : okG lo hi i) (h1 : lo' ≤ lo) (h2 : hi ≤ hi') : okG lo' hi' i := by
 rcases h with ⟨a, b, c⟩ | ⟨a, ⟨b, c⟩, d, e⟩
 · exact Or.inl ⟨a, by omega, by omega⟩
 exact Or.inr ⟨a, ⟨by omega, by omega⟩, by omega, by omega⟩
def NdE (B : Nat → Prop) (mb : Nat) (is : List Ins) (w : World) (e : Ending) (w' : World) : Prop := e = .returned (.tuple #[]) ∧ MkAt B w' mb is ∧ xaa (fun b => b = mb ∨ B b) w w'
structure xbX (t : T) (c : Nat → List Ins) (n : Nat) : Prop where
 len : ∀ b, (c b).length = n
 ok : ∀ (b k : Nat) (i : Ins), (c b)[k]? = some i → okG b (b + n) i
 run : ∀ (P B : Nat → Prop) (v : NV) (w0 w : World) (mb : Nat) (is : List Ins), TAt w0 P v t → xaa (fun _ => False) w0 w → w0.heap.size ≤ mb → ¬ B mb → (∀ b, w.heap.size ≤ b → B b) → (∀ b, B b → w0.heap.size ≤ b) → is.length + n ≤ 2500 → MkAt B w mb is →
  Calls Tryz.prog 64 #[.pointer (some ⟨mb, 0, none⟩), v.val] w fun e w' => NdE B mb (is ++ c is.length) w e w'
set_option maxHeartbeats 2000000 in
theorem xka (t : T) (h : t.op = 0) : xbX t (fun _ => []) 0 := by
 refine ⟨fun _ => rfl, fun b k i h => by simp at h, fun P B v w0 w mb is ht k0 hmb1 hmb hb hB hn hM => ?_⟩
 obtain ⟨a1, n1, c1, a2, c2, e1, e2, hl, hc⟩ := ht.krow
 have o1 : v.op = 0 := ht.op.trans h
 obtain ⟨vo, vsv, vm, vx, vk⟩ := v
 obtain rfl := e1
 obtain rfl := e2
 obtain rfl := o1
 have HM := xmA hM
 clear hl hc ht k0 hM
 generalize t.kids.toL.length = KL at *
 show Calls Tryz.prog 64 #[.pointer (some ⟨mb, 0, none⟩), .agg #[.int .i64 0, .slice a1 n1 c1, .int .i64 vm, .int .i64 vx, .slice a2 KL c2]] w _
 go_enter Tryz.func64, Tryz.ntmps64
 go_wp2_with fail
 go_end0
 exact ⟨rfl, by simpa using HM.out.keepsF ((xaa.refl _ _).alloc _), (xaa.refl _ _).alloc _⟩
set_option maxHeartbeats 2000000 in
theorem xgr (t : T) (h : t.op = 1) (hsl : t.set.length ≤ 4000) : xbX t (fun b => [⟨1, t.set, b + 1, 0⟩]) 1 := by
 refine ⟨fun _ => rfl, fun b k i hk => ?_, fun P B v w0 w mb is ht k0 hmb1 hmb hb hB hn hM => ?_⟩
 · rcases k with _ | k
   · obtain rfl : (⟨1, t.set, b + 1, 0⟩ : Ins) = i := by simpa using hk
     exact Or.inl ⟨by simp, by simp, by simp⟩
   simp at hk
 have hst := ht.set.keeps k0 (fun _ _ => id)
 obtain ⟨a1, n1, c1, a2, c2, e1, e2, hl, hc⟩ := ht.krow
 have o1 : v.op = 1 := ht.op.trans h
 obtain ⟨vo, vsv, vm, vx, vk⟩ := v
 obtain rfl := e1
 obtain rfl := e2
 obtain rfl := o1
 have kB : xaa (fun _ => False) w (w.alloc (.cells #[.int .i64 1, .slice a1 n1 c1, .int .i64 vm, .int .i64 vx, .slice a2 t.kids.toL.length c2] 52)) := (xaa.refl _ _).alloc _
 have HP := xmA (xdV B mb 1 t.set _ is _ (hM.keepsF kB) (hst.keeps kB (fun _ _ => id)) hsl hmb (fun b h => hb b (by simp at h; omega)) (by omega))
 have KB := xmA kB
 clear hl hc ht hst k0 hM kB
 generalize t.kids.toL.length = KL at *
 show Calls Tryz.prog 64 #[.pointer (some ⟨mb, 0, none⟩), .agg #[.int .i64 1, .slice a1 n1 c1, .int .i64 vm, .int .i64 vx, .slice a2 KL c2]] w _
 go_enter Tryz.func64, Tryz.ntmps64
 go_wp2_with fail
 refine HP.out.mono ?_
 rintro e w2 ⟨rfl, h2, k2⟩
 have H2 := xmA h2
 have K2 : Hid (xaa (fun b => b = mb ∨ B b) w w2) := xmA ((KB.out.mono (fun _ _ e => e.elim)).trans2 k2 (fun _ _ e => e))
 clear h2 k2
 go_wp2_with fail
 go_end0
 exact ⟨rfl, H2.out, K2.out⟩
set_option maxHeartbeats 2000000 in
theorem xiY (t : T) (h : t.op = 2) : xbX t (fun b => [⟨3, [], b + 1, 0⟩]) 1 := by
 refine ⟨fun _ => rfl, fun b k i hk => ?_, fun P B v w0 w mb is ht k0 hmb1 hmb hb hB hn hM => ?_⟩
 · rcases k with _ | k
   · obtain rfl : (⟨3, [], b + 1, 0⟩ : Ins) = i := by simpa using hk
     exact Or.inl ⟨by simp, by simp, by simp⟩
   simp at hk
 have hst := ht.set.keeps k0 (fun _ _ => id)
 obtain ⟨a1, n1, c1, a2, c2, e1, e2, hl, hc⟩ := ht.krow
 have o1 : v.op = 2 := ht.op.trans h
 obtain ⟨vo, vsv, vm, vx, vk⟩ := v
 obtain rfl := e1
 obtain rfl := e2
 obtain rfl := o1
 have kB : xaa (fun _ => False) w (w.alloc (.cells #[.int .i64 2, .slice a1 n1 c1, .int .i64 vm, .int .i64 vx, .slice a2 t.kids.toL.length c2] 52)) := (xaa.refl _ _).alloc _
 have HP := xmA (xdV B mb 3 [] _ is _ (hM.keepsF kB) (xed _) (by simp) hmb (fun b h => hb b (by simp at h; omega)) (by omega))
 have KB := xmA kB
 clear hl hc ht hst k0 hM kB
 generalize t.kids.toL.length = KL at *
 show Calls Tryz.prog 64 #[.pointer (some ⟨mb, 0, none⟩), .agg #[.int .i64 2, .slice a1 n1 c1, .int .i64 vm, .int .i64 vx, .slice a2 KL c2]] w _
 go_enter Tryz.func64, Tryz.ntmps64
 go_wp2_with fail
 refine HP.out.mono ?_
 rintro e w2 ⟨rfl, h2, k2⟩
 have H2 := xmA h2
 have K2 : Hid (xaa (fun b => b = mb ∨ B b) w w2) := xmA ((KB.out.mono (fun _ _ e => e.elim)).trans2 k2 (fun _ _ e => e))
 clear h2 k2
 go_wp2_with fail
 go_end0
 exact ⟨rfl, H2.out, K2.out⟩
set_option maxHeartbeats 2000000 in
theorem xlD (t : T) (h : t.op = 3) : xbX t (fun b => [⟨4, [], b + 1, 0⟩]) 1 := by
 refine ⟨fun _ => rfl, fun b k i hk => ?_, fun P B v w0 w mb is ht k0 hmb1 hmb hb hB hn hM => ?_⟩
 · rcases k with _ | k
   · obtain rfl : (⟨4, [], b + 1, 0⟩ : Ins) = i := by simpa using hk
     exact Or.inl ⟨by simp, by simp, by simp⟩
   simp at hk
 have hst := ht.set.keeps k0 (fun _ _ => id)
 obtain ⟨a1, n1, c1, a2, c2, e1, e2, hl, hc⟩ := ht.krow
 have o1 : v.op = 3 := ht.op.trans h
 obtain ⟨vo, vsv, vm, vx, vk⟩ := v
 obtain rfl := e1
 obtain rfl := e2
 obtain rfl := o1
 have kB : xaa (fun _ => False) w (w.alloc (.cells #[.int .i64 3, .slice a1 n1 c1, .int .i64 vm, .int .i64 vx, .slice a2 t.kids.toL.length c2] 52)) := (xaa.refl _ _).alloc _
 have HP := xmA (xdV B mb 4 [] _ is _ (hM.keepsF kB) (xed _) (by simp) hmb (fun b h => hb b (by simp at h; omega)) (by omega))
 have KB := xmA kB
 clear hl hc ht hst k0 hM kB
 generalize t.kids.toL.length = KL at *
 show Calls Tryz.prog 64 #[.pointer (some ⟨mb, 0, none⟩), .agg #[.int .i64 3, .slice a1 n1 c1, .int .i64 vm, .int .i64 vx, .slice a2 KL c2]] w _
 go_enter Tryz.func64, Tryz.ntmps64
 go_wp2_with fail
 refine HP.out.mono ?_
 rintro e w2 ⟨rfl, h2, k2⟩
 have H2 := xmA h2
 have K2 : Hid (xaa (fun b => b = mb ∨ B b) w w2) := xmA ((KB.out.mono (fun _ _ e => e.elim)).trans2 k2 (fun _ _ e => e))
 clear h2 k2
 go_wp2_with fail
 go_end0
 exact ⟨rfl, H2.out, K2.out⟩
abbrev Cd := (Nat → List Ins) × Nat
def sumN : List Cd → Nat
 | [] => 0
 | p :: r => p.2 + sumN r
def catC : List Cd → Nat → List Ins
 | [], _ => []
 | p :: r, b => p.1 b ++ catC r (b + p.2)
theorem xin : ∀ (q : List Cd), (∀ p ∈ q, ∀ b, (p.1 b).length = p.2) → ∀ b, (catC q b).length = sumN q
 | [], _, _ => rfl
 | p :: r, h, b => by rw [catC, List.length_append, h p (by simp), xin r (fun x hx => h x (by simp [hx])), sumN]
theorem xcU {l m : List Ins} {k : Nat} {i : Ins} (h : (l ++ m)[k]? = some i) : l[k]? = some i ∨ (l.length ≤ k ∧ m[k - l.length]? = some i) := by
 by_cases hk : k < l.length
 · rw [List.getElem?_append_left hk] at h; exact Or.inl h
 rw [List.getElem?_append_right (by omega)] at h; exact Or.inr ⟨by omega, h⟩
theorem xkQ : ∀ (q : List Cd), (∀ p ∈ q, ∀ (b k : Nat) (i : Ins), (p.1 b)[k]? = some i → okG b (b + p.2) i) → ∀ (b k : Nat) (i : Ins), (catC q b)[k]? = some i → okG b (b + sumN q) i
 | [], _, _, _, _, h => by simp [catC] at h
 | p :: r, hq, b, k, i, h => by
  rw [catC] at h
  rcases xcU h with h | ⟨_, h⟩
  · exact (hq p (by simp) b k i h).mono (Nat.le_refl _) (by simp only [sumN]; omega)
  exact (xkQ r (fun x hx => hq x (by simp [hx])) (b + p.2) _ i h).mono (by omega) (by simp only [sumN]; omega)
theorem xil {L : List T} {q : List Cd} (hq : q.length = L.length) (h : ∀ (i : Nat) (k : T) (p : Cd), L[i]? = some k → q[i]? = some p → xbX k p.1 p.2) {p : Cd} (hp : p ∈ q) : ∃ k, xbX k p.1 p.2 := by
 obtain ⟨i, hi, rfl⟩ := List.mem_iff_getElem.1 hp
 exact ⟨L[i]'(by omega), h i _ _ (List.getElem?_eq_getElem (by omega)) (List.getElem?_eq_getElem hi)⟩
theorem xex {q : List Cd} {i : Nat} {p : Cd} (h : q[i]? = some p) : q.drop i = p :: q.drop (i + 1) := by
 obtain ⟨h1, h2⟩ := List.getElem?_eq_some_iff.1 h
 rw [List.drop_eq_getElem_cons h1, h2]
def NdR (n : Nat) (q : List Cd) (R : List Ins) (B : Nat → Prop) (mb : Nat) (w : World) (iv : Value) (wr : World) : Prop :=
 ∃ (i : Nat) (is' : List Ins), iv = .int .i64 i ∧ i ≤ n ∧ MkAt B wr mb is' ∧ is'.length + sumN (q.drop i) ≤ 2500 ∧ is' ++ catC (q.drop i) is'.length = R ∧ xaa (fun b => b = mb ∨ B b) w wr
theorem KRow.kid {w0 wr : World} {P : Nat → Prop} {a : Option Addr} {L : List T} (h : KRow w0 P a L) (K : xaa (fun _ => False) w0 wr) {i : Nat} {k : T} (hi : L[i]? = some k) : ∃ b off uo d1 f1 g1 um ux d2 f2 g2, a = some ⟨b, off, none⟩ ∧ TAt w0 P ⟨uo, .slice d1 f1 g1, um, ux, .slice d2 f2 g2⟩ k ∧ b < w0.heap.size ∧
 wr.cell? ⟨b, off + i * 5, none⟩ = some (.int .i64 uo) ∧ wr.cell? ⟨b, off + i * 5 + 1, none⟩ = some (.slice d1 f1 g1) ∧ wr.cell? ⟨b, off + i * 5 + 2, none⟩ = some (.int .i64 um) ∧ wr.cell? ⟨b, off + i * 5 + 3, none⟩ = some (.int .i64 ux) ∧ wr.cell? ⟨b, off + i * 5 + 4, none⟩ = some (.slice d2 f2 g2) := by
 obtain ⟨b, off, uo, d1, f1, g1, um, ux, d2, f2, g2, e, hu, hlt, x0, x1, x2, x3, x4⟩ := h.at hi
 exact ⟨b, off, uo, d1, f1, g1, um, ux, d2, f2, g2, e, hu, hlt, K.cell x0 id, K.cell x1 id, K.cell x2 id, K.cell x3 id, K.cell x4 id⟩
set_option maxHeartbeats 4000000 in
theorem xlE (t : T) (q : List Cd) (h : t.op = 4) (hq : q.length = t.kids.toL.length) (ih : ∀ (i : Nat) (k : T) (p : Cd), t.kids.toL[i]? = some k → q[i]? = some p → xbX k p.1 p.2) : xbX t (catC q) (sumN q) := by
 refine ⟨xin q (fun p hp => (xil hq ih hp).choose_spec.len), xkQ q (fun p hp => (xil hq ih hp).choose_spec.ok), fun P B v w0 w mb is ht k0 hmb1 hmb hb hB hn hM => ?_⟩
 obtain ⟨a1, n1, c1, a2, c2, e1, e2, hl, hc⟩ := ht.krow
 generalize t.kids.toL = L at *
 have o1 : v.op = 4 := ht.op.trans h
 obtain ⟨vo, vsv, vm, vx, vk⟩ := v
 obtain rfl := e1
 obtain rfl := e2
 obtain rfl := o1
 obtain ⟨R, hR⟩ : ∃ R, is ++ catC q is.length = R := ⟨_, rfl⟩
 have kB0 : xaa (fun _ => False) w (w.alloc (.cells #[.int .i64 4, .slice a1 n1 c1, .int .i64 vm, .int .i64 vx, .slice a2 L.length c2] 52)) := (xaa.refl _ _).alloc _
 have HM := xmA (hM.keepsF kB0)
 have KB : Hid (xaa (fun b => b = mb ∨ B b) w (w.alloc (.cells #[.int .i64 4, .slice a1 n1 c1, .int .i64 vm, .int .i64 vx, .slice a2 L.length c2] 52))) := xmA ((xaa.refl _ _).alloc _)
 have HC := xmA hc
 have IH := xmA ih
 have K0 := xmA k0
 have HR := xmA hR
 have HN := xmA hq
 have HB := xmA hB
 have Hb := xmA hb
 rw [hR]
 have hw0 := k0.size
 clear hc ht k0 hM kB0 ih hR hq hB hb
 show Calls Tryz.prog 64 #[.pointer (some ⟨mb, 0, none⟩), .agg #[.int .i64 4, .slice a1 n1 c1, .int .i64 vm, .int .i64 vx, .slice a2 L.length c2]] w _
 go_enter Tryz.func64, Tryz.ntmps64
 go_wp2_with fail
 go_loopw [27] (fun iv wr => NdR L.length q R B mb w iv wr) (fun iv _ => L.length - (intOf iv).toNat)
 case atStart => exact ⟨0, is, rfl, Nat.zero_le _, HM.out, hn, HR.out, KB.out⟩
 case round =>
  obtain ⟨i, is', rfl, hi, hM, hlen, hf, hk⟩ := hrel
  have HMr := xmA hM
  have HF := xmA hf
  have HKr := xmA hk
  have hsw := hk.size
  have K0r : Hid (xaa (fun _ => False) w0 wr) := xmA (K0.out.trans2 hk (fun b hb e => by
   rcases e with e | e
   · omega
   have := HB.out b e; omega))
  clear hM hf hk
  by_cases hil : i < L.length
  · obtain ⟨k, hki⟩ : ∃ k, L[i]? = some k := ⟨_, List.getElem?_eq_getElem hil⟩
    obtain ⟨p, hpi⟩ : ∃ p, q[i]? = some p := ⟨_, List.getElem?_eq_getElem (by rw [HN.out]; exact hil)⟩
    obtain ⟨b, off, uo, d1, f1, g1, um, ux, d2, f2, g2, rfl, hu, hlt0, x0, x1, x2, x3, x4⟩ := HC.out.kid K0r.out hki
    have hlt : b < wr.heap.size := xan x0
    have hnc := IH.out i k p hki hpi
    rw [xex hpi] at hlen
    have HF2 : Hid (is' ++ (p.1 is'.length ++ catC (q.drop (i + 1)) (is'.length + p.2)) = R) := xmA (by have h := HF.out; rw [xex hpi] at h; exact h)
    simp only [sumN] at hlen
    have kBr : xaa (fun _ => False) wr (wr.alloc (.cells #[.int .i64 uo, .slice d1 f1 g1, .int .i64 um, .int .i64 ux, .slice d2 f2 g2] 52)) := (xaa.refl _ _).alloc _
    have HS := xmA (hnc.run P B ⟨uo, .slice d1 f1 g1, um, ux, .slice d2 f2 g2⟩ w0 _ mb is' hu (K0r.out.trans kBr) hmb1 hmb (fun b h => Hb.out b (by simp at h; omega)) HB.out (by omega) (HMr.out.keepsF kBr))
    have HL := xmA (hnc.len is'.length)
    have KBr := xmA kBr
    clear hki hpi hu hnc kBr
    unfold NV.val at HS
    go_wp2_with fail
    refine HS.out.mono ?_
    rintro e w2 ⟨rfl, h2, k2⟩
    have H2 := xmA h2
    have K2 : Hid (xaa (fun b => b = mb ∨ B b) w w2) := xmA ((HKr.out.trans2 KBr.out (fun _ _ e => e.elim)).trans2 k2 (fun _ _ e => e))
    clear h2 k2
    go_wp2_with fail
    go_roundw
    case rel => exact ⟨i + 1, is' ++ p.1 is'.length, by go_num, by omega, H2.out, by rw [List.length_append, HL.out]; omega, by rw [List.length_append, HL.out, List.append_assoc]; exact HF2.out, K2.out⟩
    case measure => simp [intOf]; omega
  have he : i = L.length := by omega
  subst he
  have E : Hid (is' = R) := xmA (by have h := HF.out; rw [List.drop_eq_nil_of_le (by rw [HN.out]; omega)] at h; simpa [catC] using h)
  go_wp2_with fail
  go_end0
  exact ⟨rfl, by rw [← E.out]; exact HMr.out, HKr.out⟩
def LenC (t : T) (n : Nat) : Prop := ∀ (P : Nat → Prop) (v : NV) (w : World), TAt w P v t → Calls Tryz.prog 63 #[v.val] w fun e w' => e = .returned (.int .i64 (n : Int)) ∧ xaa (fun _ => False) w w'
theorem xgv (W : World) (x y : Int) : (Builtin.min_ #[3, 3] 3 #[.int .i64 x, .int .i64 y]).run Tryz.prog W = .ok (.int .i64 (if y < x then y else x)) W := by
 simp [Builtin.min_, Builtin.min2]
theorem MkAt.empty {mb : Nat} {B : Nat → Prop} {w : World} (h : w.heap[mb]? = some (.cells #[.slice none 0 0] 127 (0, 0))) : MkAt B w mb [] :=
 ⟨_, [], h, ⟨World.ownsRow_nil _ _ _ _, fun b e => by simp [Value.ownBlock] at e⟩, rfl, fun k iv i a b => by simp at a⟩
structure PgAt (w : World) (P : Nat → Prop) (v : Value) (is : List Ins) : Prop where
 row : ∃ ivs, SlOf 4 encP w v ivs ∧ ivs.length = is.length ∧ ∀ (k : Nat) (iv : IV) (i : Ins), ivs[k]? = some iv → is[k]? = some i → InAt w P iv i
 blk : ∀ b, v.ownBlock = some b → P b
theorem PgAt.keepsTo {S P Q : Nat → Prop} {w w' : World} {v : Value} {is : List Ins} (h : PgAt w P v is) (K : xaa S w w') (hs : ∀ b, P b → ¬ S b) (hq : ∀ b, P b → Q b) : PgAt w' Q v is := by
 obtain ⟨⟨ivs, h1, h2, h3⟩, h4⟩ := h
 exact ⟨⟨ivs, h1.keeps K (fun b hb => hs b (h4 b hb)), h2, fun k iv i a b => (h3 k iv i a b).keepsTo K hs hq⟩, fun b hb => hq b (h4 b hb)⟩
theorem MkAt.pg {B : Nat → Prop} {mb : Nat} {w : World} {is : List Ins} {v : Value} (h : MkAt B w mb is) (hc : w.cell? ⟨mb, 0, none⟩ = some v) (hn : is.length ≤ 4000) : PgAt w (fun b => B b ∧ b < w.heap.size) v is := by
 obtain ⟨v', ivs, h1, ⟨h2, h5⟩, h3, h4⟩ := h
 have e : v' = v := by
  rw [Lib.cell_of_heap h1] at hc
  simpa using hc
 subst e
 exact ⟨⟨ivs, SlOf.ofOwn (by rw [h3]; exact h2) (by omega), h3, fun k iv i a b => (h4 k iv i a b).keepsTo (xaa.refl (fun _ => False) _) (fun _ _ => id) (fun b hb => ⟨hb.1, hb.2.1⟩)⟩, fun b hb => ⟨h5 b hb, xax h2 b hb⟩⟩
def NodeE (t : T) (is : List Ins) : Prop := ∀ (P : Nat → Prop) (v : NV) (w0 w : World) (mb : Nat), TAt w0 P v t → xaa (fun _ => False) w0 w → w0.heap.size ≤ mb → mb < w.heap.size → w.heap[mb]? = some (.cells #[.slice none 0 0] 127 (0, 0)) →
 Calls Tryz.prog 64 #[.pointer (some ⟨mb, 0, none⟩), v.val] w fun e w' => e = .returned (.tuple #[]) ∧ MkAt (fun b => mb < b) w' mb is ∧ xaa (fun b => b = mb ∨ mb < b) w w'
theorem xbX.empty {t : T} {c : Nat → List Ins} {n : Nat} (h : xbX t c n) (hn : n ≤ 2500) : NodeE t (c 0) := fun P v w0 w mb ht k0 h1 h2 h3 => by
 have := h.run P (fun b => mb < b) v w0 w mb [] ht k0 h1 (by omega) (fun b hb => by omega) (fun b hb => by omega) (by simpa using hn) (MkAt.empty h3)
 simpa [NdE] using this
def mI : Ins := ⟨0, [], 0, 0⟩
def CoE (w : World) (is : List Ins) (e : Ending) (w' : World) : Prop := ∃ v, e = .returned (.tuple #[v, .int .i64 0]) ∧ PgAt w' (fun b => w.heap.size ≤ b ∧ b < w'.heap.size) v is ∧ xaa (fun _ => False) w w'
set_option maxHeartbeats 4000000 in
theorem xhF (t : T) (n : Nat) (is : List Ins) (hl : LenC t n) (hn : n < 2000) (hN : NodeE t is) (his : is.length ≤ 2500) (P : Nat → Prop) (v : NV) (w : World) (ht : TAt w P v t) :
 Calls Tryz.prog 34 #[v.val] w fun e w' => CoE w (is ++ [mI]) e w' := by
 obtain ⟨i0, hi0, hz0, hz1, hz2⟩ := info_parts xgC
 obtain ⟨a1, n1, c1, a2, c2, e1, e2, _, _⟩ := ht.krow
 have HL := xmA (fun W (K : xaa (fun _ => False) w W) => hl P v W (ht.keepsTo K (fun _ _ => id) (fun _ h => h)))
 have HN := xmA (fun W mb (K : xaa (fun _ => False) w W) h1 h2 h3 => hN P v w W mb ht K h1 h2 h3)
 obtain ⟨vo, vsv, vm, vx, vk⟩ := v
 obtain rfl := e1
 obtain rfl := e2
 have g0 : decide ((2000 : Int) ≤ (n : Int)) = false := by simp; omega
 unfold NV.val at HL HN
 clear ht hl hN
 generalize t.kids.toL.length = KL at *
 show Calls Tryz.prog 34 #[.agg #[.int .i64 vo, .slice a1 n1 c1, .int .i64 vm, .int .i64 vx, .slice a2 KL c2]] w _
 go_enter Tryz.func34, Tryz.ntmps34
 go_wp2_with fail
 refine (HL.out _ (KI.out)).mono ?_
 rintro e w2 ⟨rfl, k2⟩
 have z0 : w2.cell? ⟨w.heap.size, 0, none⟩ = some (.int .i64 vo) := k2.cell (by simp [go_sem]) id
 have z1 : w2.cell? ⟨w.heap.size, 1, none⟩ = some (.slice a1 n1 c1) := k2.cell (by simp [go_sem]) id
 have z2 : w2.cell? ⟨w.heap.size, 2, none⟩ = some (.int .i64 vm) := k2.cell (by simp [go_sem]) id
 have z3 : w2.cell? ⟨w.heap.size, 3, none⟩ = some (.int .i64 vx) := k2.cell (by simp [go_sem]) id
 have z4 : w2.cell? ⟨w.heap.size, 4, none⟩ = some (.slice a2 KL c2) := k2.cell (by simp [go_sem]) id
 have K2 : Hid (xaa (fun _ => False) w w2) := xmA (xaa.trans (KI.out) k2)
 have hs2 : w.heap.size < w2.heap.size := xan z0
 have z0 := xaj z0 (.cells #[.slice none 0 0] 127)
 have z1 := xaj z1 (.cells #[.slice none 0 0] 127)
 have z2 := xaj z2 (.cells #[.slice none 0 0] 127)
 have z3 := xaj z3 (.cells #[.slice none 0 0] 127)
 have z4 := xaj z4 (.cells #[.slice none 0 0] 127)
 have Hs2 := xmA hs2
 clear k2 hs2
 go_wp2_with fail
 refine (HN.out _ w2.heap.size (K2.out.alloc _) (by have := Hs2.out; omega) (by simp) (heap_alloc_new w2 _)).mono ?_
 rintro e w3 ⟨rfl, hM, k3⟩
 obtain ⟨u, ivs, hbk, ⟨hown, hvB⟩, hlen, hin⟩ := hM
 obtain ⟨va, vc, rfl⟩ := xad hown
 have c0 : w3.cell? ⟨w2.heap.size, 0, none⟩ = some (.slice va is.length vc) := by rw [Lib.cell_of_heap hbk]; rfl
 have f0 : w3.frozen? ⟨w2.heap.size, 0, none⟩ = false := Lib.frozen_of_heap hbk 0
 have hs3 := k3.size
 simp at hs3
 have hvm : (Value.slice va is.length vc).ownBlock ≠ some w2.heap.size := fun e => by have := hvB _ e; omega
 have KW3 : Hid (xaa (fun _ => False) w w3) := xmA ((K2.out.alloc _).trans2 k3 (fun b hb e => by have := Hs2.out; omega))
 have HO := xmA hown
 have HVB := xmA hvB
 have HBK := xmA hbk
 have HIN := xmA hin
 have c0a := xaj c0 (.cells #[.int .i64 0, .slice none 0 0, .int .i64 0, .int .i64 0] 130)
 have hs3' : w2.heap.size < w3.heap.size := by omega
 clear hbk hown hin hvB k3 z0 z1 z2 z3 z4 HN
 go_wp2_with (at_builtin; refine wpList_append_lies _ rfl (.tmp 17) (.tmp 19) 75 rfl 0 130 i0 _ 4 48 Tryz.underlying75 hi0 hz0 hz1 hz2 rfl (by decide) _ is.length (cellsOf 4 encP ivs) rfl (xac HO.out _) ⟨w3.heap.size, 0, none⟩ 1 1 [.int .i64 0, .slice none 0 0, .int .i64 0, .int .i64 0] rfl rfl (by exact xak w3 [_, _, _, _] _) (by simp [Value.oneCell']) (by decide) (by unfold maxLen; omega) (by omega) (Nat.zero_le _) _ rfl ?_)
 intro g cap w4 hown4 hgrow4 hat4 hlt4
 have c4 : w4.cell? ⟨w2.heap.size, 0, none⟩ = some (.slice va is.length vc) := (hgrow4.cell_far ⟨w2.heap.size, 0, none⟩ (by simp; omega) (fun e => hvm e.symm)).trans c0a
 have f4 : w4.frozen? ⟨w2.heap.size, 0, none⟩ = false := (hgrow4.frozen_far ⟨w2.heap.size, 0, none⟩ (by simp; omega) (fun e => hvm e.symm)).trans (((xaa.refl (fun _ => False) w3).alloc _).frozen f0 (by show w2.heap.size < w3.heap.size; omega) id)
 have hP := MkAt.push (wA := w3.alloc (.cells #[.int .i64 0, .slice none 0 0, .int .i64 0, .int .i64 0] 130)) (i := mI) (iv := ⟨0, .slice none 0 0, 0, 0⟩) HBK.out HO.out HVB.out hlen HIN.out (Nat.lt_irrefl _) hs3' (fun b hb => by omega) (xaa.refl _ _) ((xaa.refl _ _).alloc _) ⟨rfl, rfl, rfl, xed _, fun b hb => by simp [Value.ownBlock] at hb⟩ hown4 hgrow4 hat4 (by simp)
 have HP := xmA hP
 have hcc : (w4.setCell ⟨w2.heap.size, 0, none⟩ (.slice (some ⟨g, 0, none⟩) (is.length + 1) cap)).cell? ⟨w2.heap.size, 0, none⟩ = some (.slice (some ⟨g, 0, none⟩) (is.length + 1) cap) := xas c4
 have HPG := xmA (hP.1.pg hcc (by simp; omega))
 have KE : Hid (xaa (fun _ => False) w (w4.setCell ⟨w2.heap.size, 0, none⟩ (.slice (some ⟨g, 0, none⟩) (is.length + 1) cap))) := xmA (KW3.out.trans2 hP.2 (fun b hb e => by have := Hs2.out; omega))
 clear hP hown4 hgrow4 hat4 c0a c0 f0
 go_wp2_with fail
 go_ret2
 exact ⟨_, rfl, HPG.out.keepsTo (xaa.refl (fun _ => False) _) (fun _ _ => id) (fun b hb => ⟨by have := hb.1; have := Hs2.out; omega, hb.2⟩), KE.out⟩
def okI (n : Nat) (i : Ins) : Prop := i.op = 0 ∨ ((i.op = 1 ∨ i.op = 3 ∨ i.op = 4) ∧ i.x < n) ∨ (i.op = 2 ∧ i.x < n ∧ i.y < n)
theorem xfV (x n : Nat) (a : Option Addr) (c b : Nat) (w : World) (hb : w.cell? ⟨b, 0, none⟩ = some (.slice a n c)) (hx : x < n) (hn : n ≤ 1000000) :
 Calls Tryz.prog 119 #[.int .i64 x, .pointer (some ⟨b, 0, none⟩)] w fun e w' => e = .returned (.bool true) ∧ w = w' := by
 have g : decide ((x : Int) < (n : Int)) = true := by simp; omega
 go_enter Tryz.func119, Tryz.ntmps119
 go_wp2_with fail
 go_ret
 exact ⟨rfl, rfl⟩
theorem PgAt.at {w : World} {P : Nat → Prop} {v : Value} {is : List Ins} (h : PgAt w P v is) {k : Nat} {i : Ins} (hk : is[k]? = some i) : ∃ b off c sa sc, v = .slice (some ⟨b, off, none⟩) is.length c ∧ b < w.heap.size ∧ RSl w (.slice sa i.set.length sc) i.set ∧ (∀ b', (Value.slice sa i.set.length sc).ownBlock = some b' → P b') ∧ P b ∧
 w.cell? ⟨b, off + k * 4, none⟩ = some (.int .i64 i.op) ∧ w.cell? ⟨b, off + k * 4 + 1, none⟩ = some (.slice sa i.set.length sc) ∧ w.cell? ⟨b, off + k * 4 + 2, none⟩ = some (.int .i64 (i.x : Int)) ∧ w.cell? ⟨b, off + k * 4 + 3, none⟩ = some (.int .i64 (i.y : Int)) := by
 obtain ⟨⟨ivs, ⟨a, c, e1, hcap, hl2, hcc⟩, hlen, hin⟩, hblk⟩ := h
 have hkl := (List.getElem?_eq_some_iff.1 hk).1
 obtain ⟨b, off, rfl, hc⟩ := hcc (by omega)
 obtain ⟨iv, hiv⟩ : ∃ iv, ivs[k]? = some iv := ⟨_, List.getElem?_eq_getElem (by omega)⟩
 have hI := hin k iv i hiv hk
 have z0 := hc k iv hiv 0 (by omega)
 have z1 := hc k iv hiv 1 (by omega)
 have z2 := hc k iv hiv 2 (by omega)
 have z3 := hc k iv hiv 3 (by omega)
 have e0 : encP iv 0 = .int .i64 iv.op := rfl
 have e1' : encP iv 1 = iv.sv := rfl
 have e2 : encP iv 2 = .int .i64 iv.x := rfl
 have e3 : encP iv 3 = .int .i64 iv.y := rfl
 rw [e0, hI.op] at z0
 rw [e1'] at z1
 rw [e2, hI.x] at z2
 rw [e3, hI.y] at z3
 obtain ⟨sa, sc, e9, _⟩ := hI.set.cells
 have h1 := hI.set
 have h2 := hI.sb
 rw [e9] at h1 h2 z1
 exact ⟨b, off, c, sa, sc, by rw [e1, hlen], xan z0, h1, h2, hblk b (by rw [e1]; rfl), z0, z1, z2, z3⟩
theorem PgAt.form {w : World} {P : Nat → Prop} {v : Value} {is : List Ins} (h : PgAt w P v is) : ∃ a c, v = .slice a is.length c := by
 obtain ⟨⟨ivs, ⟨a, c, e1, _⟩, hlen, _⟩, _⟩ := h
 exact ⟨a, c, by rw [e1, hlen]⟩
set_option maxHeartbeats 4000000 in
theorem xiP (is : List Ins) (P : Nat → Prop) (v : Value) (w : World) (h : PgAt w P v is) (hok : ∀ (k : Nat) (i : Ins), is[k]? = some i → okI is.length i) (h0 : 0 < is.length) (hn : is.length ≤ 4000) :
 Calls Tryz.prog 77 #[v] w fun e w' => e = .returned (.bool true) ∧ xaa (fun _ => False) w w' := by
 obtain ⟨a, c, rfl⟩ := h.form
 have HPg := xmA h
 have HOk := xmA hok
 obtain ⟨wb, hwb⟩ : ∃ W, W = w.alloc (.cells #[.slice a is.length c] 75) := ⟨_, rfl⟩
 have kb : xaa (fun _ => False) w wb := by rw [hwb]; exact (xaa.refl _ _).alloc _
 have b0 : wb.cell? ⟨w.heap.size, 0, none⟩ = some (.slice a is.length c) := by rw [hwb]; simp [go_sem]
 have KB := xmA kb
 have B0 := xmA b0
 clear h hok kb
 go_enter Tryz.func77, Tryz.ntmps77
 go_wp2_with fail
 rw [← hwb]
 clear hwb b0
 go_loopw [9] (fun iv wr => ∃ i : Nat, iv = .int .i64 i ∧ i ≤ is.length ∧ xaa (fun _ => False) wb wr) (fun iv _ => is.length - (intOf iv).toNat)
 case atStart => exact ⟨0, rfl, Nat.zero_le _, xaa.refl _ _⟩
 case round =>
  obtain ⟨i, rfl, hi, hk⟩ := hrel
  have K := xmA hk
  clear hk
  have b0 := K.out.cell B0.out id
  by_cases hil : i < is.length
  · obtain ⟨x, hx⟩ : ∃ x, is[i]? = some x := ⟨_, List.getElem?_eq_getElem hil⟩
    obtain ⟨b, off, c', sa, sc, e1, hb, hs, _, _, z0, z1, z2, z3⟩ := HPg.out.at hx
    obtain ⟨rfl, _, rfl⟩ := Value.slice.inj e1
    have ho := HOk.out i x hx
    have y0 := K.out.cell (KB.out.cell z0 id) id
    have y1 := K.out.cell (KB.out.cell z1 id) id
    have y2 := K.out.cell (KB.out.cell z2 id) id
    have y3 := K.out.cell (KB.out.cell z3 id) id
    have hbr : b < wr.heap.size := xan y0
    clear hx hs z0 z1 z2 z3 e1
    obtain ⟨op, set, xx, yy⟩ := x
    simp only [okI] at ho y0 y1 y2 y3
    have ba := xaj b0 (.cells #[.int .i64 op, .slice sa set.length sc, .int .i64 xx, .int .i64 yy] 130)
    have HTx := xmA (fun hx => xfV xx is.length (some ⟨b, off, none⟩) c w.heap.size _ ba hx (by omega))
    have HTy := xmA (fun hx => xfV yy is.length (some ⟨b, off, none⟩) c w.heap.size _ ba hx (by omega))
    have HK2 : Hid (xaa (fun _ => False) wb (wr.alloc (.cells #[.int .i64 op, .slice sa set.length sc, .int .i64 xx, .int .i64 yy] 130))) := xmA (K.out.alloc _)
    clear ba
    rcases ho with rfl | ⟨rfl | rfl | rfl, h1⟩ | ⟨rfl, h1, h2⟩
    · go_wp2_with fail
      go_roundw
      case rel => exact ⟨i + 1, by go_num, by omega, HK2.out⟩
      case measure => simp [intOf]; omega
    · go_wp2_with fail
      refine (HTx.out h1).mono ?_
      rintro e w3 ⟨rfl, rfl⟩
      go_wp2_with fail
      go_roundw
      case rel => exact ⟨i + 1, by go_num, by omega, HK2.out⟩
      case measure => simp [intOf]; omega
    · go_wp2_with fail
      refine (HTx.out h1).mono ?_
      rintro e w3 ⟨rfl, rfl⟩
      go_wp2_with fail
      go_roundw
      case rel => exact ⟨i + 1, by go_num, by omega, HK2.out⟩
      case measure => simp [intOf]; omega
    · go_wp2_with fail
      refine (HTx.out h1).mono ?_
      rintro e w3 ⟨rfl, rfl⟩
      go_wp2_with fail
      go_roundw
      case rel => exact ⟨i + 1, by go_num, by omega, HK2.out⟩
      case measure => simp [intOf]; omega
    go_wp2_with fail
    refine (HTy.out h2).mono ?_
    rintro e w3 ⟨rfl, rfl⟩
    go_wp2_with fail
    refine (HTx.out h1).mono ?_
    rintro e w3 ⟨rfl, rfl⟩
    go_wp2_with fail
    go_roundw
    case rel => exact ⟨i + 1, by go_num, by omega, HK2.out⟩
    case measure => simp [intOf]; omega
  have hd : decide ((0 : Int) < (is.length : Int)) = true := by simp; omega
  have KE := xmA (KB.out.trans K.out)
  go_wp2_with fail
  go_ret
  exact ⟨rfl, KE.out⟩
def natV (k : Nat) : Value := .int .i64 (k : Int)
structure Thr (B : Nat) (w : World) (tb mb n : Nat) (lv : Value) (L : List Nat) (M : Nat → Bool) (now : Nat) : Prop where
 bk : w.heap[tb]? = some (.cells #[lv, .slice (some ⟨mb, 0, none⟩) n n, .int .i64 now] 190 (0, 0))
 own : w.ownsRow B 3 1 lv L.length (L.map natV)
 mks : ∃ m : Nat → Nat, ∀ i, i < n → w.cell? ⟨mb, i, none⟩ = some (.int .i64 (m i)) ∧ w.frozen? ⟨mb, i, none⟩ = false ∧ m i ≤ now ∧ (M i = true ↔ m i = now)
 htb : B ≤ tb
 hmb : B ≤ mb
 lmb : mb < w.heap.size
 ne1 : tb ≠ mb
 ne2 : lv.ownBlock ≠ some tb
 ne3 : lv.ownBlock ≠ some mb
def inT (tb mb : Nat) (lv : Value) (b : Nat) : Prop := b = tb ∨ b = mb ∨ lv.ownBlock = some b
theorem Thr.ltb {B tb mb n now : Nat} {w : World} {lv : Value} {L : List Nat} {M : Nat → Bool} (h : Thr B w tb mb n lv L M now) : tb < w.heap.size := by
 rcases Nat.lt_or_ge tb w.heap.size with h1 | h1
 · exact h1
 have := h.bk; rw [Array.getElem?_eq_none h1] at this; cases this
theorem Thr.inlt {B tb mb n now : Nat} {w : World} {lv : Value} {L : List Nat} {M : Nat → Bool} (h : Thr B w tb mb n lv L M now) {b : Nat} (hb : inT tb mb lv b) : b < w.heap.size ∧ B ≤ b := by
 rcases hb with rfl | rfl | hb
 · exact ⟨h.ltb, h.htb⟩
 · exact ⟨h.lmb, h.hmb⟩
 exact ⟨xax h.own b hb, xab h.own b hb⟩
theorem Thr.keeps {S : Nat → Prop} {B tb mb n now : Nat} {w w' : World} {lv : Value} {L : List Nat} {M : Nat → Bool} (h : Thr B w tb mb n lv L M now) (K : xaa S w w') (hs : ∀ b, inT tb mb lv b → ¬ S b) : Thr B w' tb mb n lv L M now := by
 obtain ⟨m, hm⟩ := h.mks
 have hsz := K.size
 exact ⟨by rw [K.block tb h.ltb (hs tb (Or.inl rfl))]; exact h.bk, xae h.own K (fun b hb => hs b (Or.inr (Or.inr hb))), ⟨m, fun i hi => by
  obtain ⟨a, b, c, d⟩ := hm i hi
  exact ⟨K.cell a (hs mb (Or.inr (Or.inl rfl))), K.frozen b h.lmb (hs mb (Or.inr (Or.inl rfl))), c, d⟩⟩, h.htb, h.hmb, by have := h.lmb; omega, h.ne1, h.ne2, h.ne3⟩
def updM (M : Nat → Bool) (i : Nat) : Nat → Bool := fun j => if j = i then true else M j
inductive PtR (is : List Ins) (bg en : Bool) : Nat → List Nat × (Nat → Bool) → List Nat × (Nat → Bool) → Prop
 | seen {i : Nat} {L : List Nat} {M : Nat → Bool} (hi : i < is.length) (h : M i = true) : PtR is bg en i (L, M) (L, M)
 | leaf {i : Nat} {L : List Nat} {M : Nat → Bool} {x : Ins} (h : M i = false) (hx : is[i]? = some x) (ho : x.op = 0 ∨ x.op = 1) : PtR is bg en i (L, M) (L ++ [i], updM M i)
 | split {i : Nat} {L : List Nat} {M : Nat → Bool} {x : Ins} {s1 s2 : List Nat × (Nat → Bool)} (h : M i = false) (hx : is[i]? = some x) (ho : x.op = 2) (h1 : PtR is bg en x.x (L, updM M i) s1) (h2 : PtR is bg en x.y s1 s2) : PtR is bg en i (L, M) s2
 | skip {i : Nat} {L : List Nat} {M : Nat → Bool} {x : Ins} (h : M i = false) (hx : is[i]? = some x) (ho : x.op = 3 ∧ bg = false ∨ x.op = 4 ∧ en = false) : PtR is bg en i (L, M) (L, updM M i)
 | pass {i : Nat} {L : List Nat} {M : Nat → Bool} {x : Ins} {s1 : List Nat × (Nat → Bool)} (h : M i = false) (hx : is[i]? = some x) (ho : x.op = 3 ∧ bg = true ∨ x.op = 4 ∧ en = true) (h1 : PtR is bg en x.x (L, updM M i) s1) : PtR is bg en i (L, M) s1
theorem Thr.mark {B tb mb n now i : Nat} {w : World} {lv : Value} {L : List Nat} {M : Nat → Bool} (h : Thr B w tb mb n lv L M now) (hi : i < n) : Thr B (w.setCell ⟨mb, i, none⟩ (.int .i64 now)) tb mb n lv L (updM M i) now := by
 obtain ⟨m, hm⟩ := h.mks
 have kS : xaa (fun b => b = mb) w (w.setCell ⟨mb, i, none⟩ (.int .i64 now)) := (xaa.refl (fun b => b = mb) w).set (p := ⟨mb, i, none⟩) rfl _
 have hsz := kS.size
 refine ⟨by rw [kS.block tb h.ltb h.ne1]; exact h.bk, xae h.own kS (fun b hb e => h.ne3 (by rw [← e]; exact hb)), ⟨fun j => if j = i then now else m j, fun j hj => ?_⟩, h.htb, h.hmb, by have := h.lmb; omega, h.ne1, h.ne2, h.ne3⟩
 obtain ⟨a, b, c, d⟩ := hm j hj
 obtain ⟨ai, bi, ci, di⟩ := hm i hi
 have hf : (w.setCell ⟨mb, i, none⟩ (.int .i64 now)).frozen? ⟨mb, j, none⟩ = false := by rw [xbI]; exact b
 by_cases hji : j = i
 · subst hji
   exact ⟨(xas a).trans (by simp), hf, by simp, by simp [updM]⟩
 exact ⟨((xaf (fun e => by have := (Addr.mk.inj e).2.1; omega)).trans a).trans (by simp [hji]), hf, by simp [hji]; exact c, by simp [updM, hji]; exact d⟩
theorem Thr.push {B tb mb n now i g cap H : Nat} {w wA w1 : World} {lv : Value} {L : List Nat} {M : Nat → Bool} (h : Thr B w tb mb n lv L M now) (KA : xaa (fun _ => False) w wA)
 (hown1 : w1.ownsRow B 3 1 (.slice (some ⟨g, 0, none⟩) (L.length + 1) cap) (L.length + 1) (L.map natV ++ [natV i])) (hg : wA.grownBy w1 lv.ownBlock) (hat : lv.ownBlock = some g ∨ g = H) (hH : wA.heap.size = H) :
 Thr B (w1.setCell ⟨tb, 0, none⟩ (.slice (some ⟨g, 0, none⟩) (L.length + 1) cap)) tb mb n (.slice (some ⟨g, 0, none⟩) (L.length + 1) cap) (L ++ [i]) M now ∧
 xaa (inT tb mb lv) w (w1.setCell ⟨tb, 0, none⟩ (.slice (some ⟨g, 0, none⟩) (L.length + 1) cap)) := by
 have hsA := KA.size
 have k1 : xaa (fun b => lv.ownBlock = some b) wA w1 := (xaa.refl _ _).grown hg (fun b hb => Or.inl hb)
 have hs1 := k1.size
 have kS : xaa (fun b => b = tb) w1 (w1.setCell ⟨tb, 0, none⟩ (.slice (some ⟨g, 0, none⟩) (L.length + 1) cap)) := (xaa.refl (fun b => b = tb) w1).set (p := ⟨tb, 0, none⟩) rfl _
 have hsS := kS.size
 have hltb := h.ltb
 have hlmb := h.lmb
 have hgt : g ≠ tb := by
  rcases hat with e | e
  · intro x; exact h.ne2 (x ▸ e)
  omega
 have hgm : g ≠ mb := by
  rcases hat with e | e
  · intro x; exact h.ne3 (x ▸ e)
  omega
 have hbk1 : w1.heap[tb]? = some (.cells #[lv, .slice (some ⟨mb, 0, none⟩) n n, .int .i64 now] 190 (0, 0)) := by
  rw [k1.block tb (by omega) h.ne2, KA.block tb hltb id]; exact h.bk
 obtain ⟨m, hm⟩ := h.mks
 refine ⟨⟨?_, ?_, ⟨m, fun j hj => ?_⟩, h.htb, h.hmb, by omega, h.ne1, fun e => hgt (Option.some.inj e), fun e => hgm (Option.some.inj e)⟩, ?_⟩
 · simp [World.setCell, Array.getElem?_modify, hbk1]
 · rw [List.length_append, List.map_append]
   exact xae hown1 kS (fun b e1 e2 => by have h9 : g = b := Option.some.inj e1; omega)
 · obtain ⟨a, b, c, d⟩ := hm j hj
   exact ⟨kS.cell (k1.cell (KA.cell a id) h.ne3) (fun e => h.ne1 e.symm), kS.frozen (k1.frozen (KA.frozen b hlmb id) (by show mb < wA.heap.size; omega) h.ne3) (by show mb < w1.heap.size; omega) (fun e => h.ne1 e.symm), c, d⟩
 exact ((KA.mono (T := inT tb mb lv) (fun _ _ e => e.elim)).trans2 k1 (fun b hb e => Or.inr (Or.inr e))).trans2 kS (fun b hb e => Or.inl e)
theorem Thr.clr {B tb mb n now : Nat} {w : World} {a : Option Addr} {k c : Nat} {L : List Nat} {M : Nat → Bool} (h : Thr B w tb mb n (.slice a k c) L M now) :
 Thr B ((w.setCell ⟨tb, 0, none⟩ (.slice a 0 c)).setCell ⟨tb, 2, none⟩ (.int .i64 ((now + 1 : Nat) : Int))) tb mb n (.slice a 0 c) [] (fun _ => false) (now + 1) ∧
 xaa (fun b => b = tb) w ((w.setCell ⟨tb, 0, none⟩ (.slice a 0 c)).setCell ⟨tb, 2, none⟩ (.int .i64 ((now + 1 : Nat) : Int))) := by
 have kS : xaa (fun b => b = tb) w ((w.setCell ⟨tb, 0, none⟩ (.slice a 0 c)).setCell ⟨tb, 2, none⟩ (.int .i64 ((now + 1 : Nat) : Int))) := ((xaa.refl (fun b => b = tb) w).set (p := ⟨tb, 0, none⟩) rfl _).set (p := ⟨tb, 2, none⟩) rfl _
 have hsS := kS.size
 have hltb := h.ltb
 have hlmb := h.lmb
 have hbk := h.bk
 have hne2 := h.ne2
 have hne3 := h.ne3
 obtain ⟨m, hm⟩ := h.mks
 have hown0 : w.ownsRow B 3 1 (.slice a 0 c) 0 [] := by
  refine ⟨rfl, ?_⟩
  rcases h.own.2 with ⟨e, _⟩ | ⟨g, cap, cur, e, h1, h2, h3, h4, h5, h6⟩
  · left; cases e; exact ⟨rfl, rfl⟩
  right; cases e; exact ⟨g, c, cur, rfl, h1, h2, Nat.zero_le _, h4, h5, by simp⟩
 have hob : (Value.slice a 0 c).ownBlock = (Value.slice a k c).ownBlock := by cases a <;> rfl
 refine ⟨⟨?_, ?_, ⟨m, fun j hj => ?_⟩, h.htb, h.hmb, by omega, h.ne1, by rw [hob]; exact hne2, by rw [hob]; exact hne3⟩, kS⟩
 · simp [World.setCell, Array.getElem?_modify, hbk]
 · exact xae hown0 kS (fun b e1 e2 => hne2 (by rw [← e2, ← hob]; exact e1))
 obtain ⟨a', b', c', d'⟩ := hm j hj
 exact ⟨kS.cell a' (fun e => h.ne1 e.symm), kS.frozen b' hlmb (fun e => h.ne1 e.symm), by omega, by simp; omega⟩
set_option maxHeartbeats 2000000 in
theorem xkL (B tb mb n now : Nat) (w : World) (lv : Value) (L : List Nat) (M : Nat → Bool) (h : Thr B w tb mb n lv L M now) (hn : now ≤ 1000000000000) :
 Calls Tryz.prog 158 #[.pointer (some ⟨tb, 0, none⟩)] w fun e w' => e = .returned (.tuple #[]) ∧ (∃ lv', Thr B w' tb mb n lv' [] (fun _ => false) (now + 1) ∧ lv'.ownBlock = lv.ownBlock) ∧ xaa (fun b => b = tb) w w' := by
 obtain ⟨a, c, rfl⟩ := xad h.own
 have c0 : w.cell? ⟨tb, 0, none⟩ = some (.slice a L.length c) := by rw [Lib.cell_of_heap h.bk]; rfl
 have c2 : w.cell? ⟨tb, 2, none⟩ = some (.int .i64 now) := by rw [Lib.cell_of_heap h.bk]; rfl
 have f0 : w.frozen? ⟨tb, 0, none⟩ = false := Lib.frozen_of_heap h.bk 0
 have f2 : w.frozen? ⟨tb, 2, none⟩ = false := Lib.frozen_of_heap h.bk 2
 have HC := xmA h.clr
 have hob : (Value.slice a 0 c).ownBlock = (Value.slice a L.length c).ownBlock := by cases a <;> rfl
 have HO := xmA hob
 have hl0 : L.length ≤ c ∨ a = none := by
  rcases h.own.2 with ⟨e, _⟩ | ⟨g, cap, cur, e, h1, h2, h3, _⟩
  · right; exact (Value.slice.inj e).1
  left; obtain ⟨_, _, rfl⟩ := Value.slice.inj e; exact h3
 clear h hob
 rcases a with _ | ad
 · go_enter Tryz.func158, Tryz.ntmps158
   go_wp2_with fail
   go_end0
   exact ⟨rfl, ⟨_, HC.out.1, HO.out⟩, HC.out.2⟩
 go_enter Tryz.func158, Tryz.ntmps158
 go_wp2_with fail
 go_end0
 exact ⟨rfl, ⟨_, HC.out.1, HO.out⟩, HC.out.2⟩
def Rt (P : Value → World → Prop) (w : World) (e : Ending) (w' : World) : Prop := ∃ v, e = .returned v ∧ P v w' ∧ xaa (fun _ => False) w w'
def IsBo (v : Value) (_ : World) : Prop := ∃ b, v = .bool b
def IsSt (v : Value) (_ : World) : Prop := ∃ l : List UInt8, v = .string ⟨l.toArray⟩
def IsSz (v : Value) (_ : World) : Prop := ∃ n : Nat, n ≤ 4 ∧ v = .int .i64 n
def IsNu (v : Value) (_ : World) : Prop := ∃ r : Int, v = .int .i64 r
theorem Rt.bo {w w' : World} {b : Bool} (K : xaa (fun _ => False) w w') : Rt IsBo w (.returned (.bool b)) w' := ⟨_, rfl, ⟨b, rfl⟩, K⟩
theorem Rt.nu {w w' : World} {r : Int} (K : xaa (fun _ => False) w w') : Rt IsNu w (.returned (.int .i64 r)) w' := ⟨_, rfl, ⟨r, rfl⟩, K⟩
theorem Rt.st {w w' : World} {s : ByteArray} (K : xaa (fun _ => False) w w') : Rt IsSt w (.returned (.string s)) w' := ⟨_, rfl, ⟨s.data.toList, rfl⟩, K⟩
set_option maxHeartbeats 4000000 in
theorem xjP (r : Int) (w : World) : Calls Tryz.prog 126 #[.int .i64 r] w (Rt IsBo w) := by
 go_enter Tryz.func126, Tryz.ntmps126
 go_wp2_with fail
 all_goals go_ret
 all_goals exact Rt.bo (xaa.refl _ _)
set_option maxHeartbeats 4000000 in
theorem xjO (r : Int) (w : World) : Calls Tryz.prog 127 #[.int .i64 r] w (Rt IsSz w) := by
 go_enter Tryz.func127, Tryz.ntmps127
 go_wp2_with fail
 refine (xjP r w).mono ?_
 rintro e w1 ⟨_, rfl, ⟨b, rfl⟩, k⟩
 cases b
 all_goals go_wp2_with fail
 all_goals go_ret
 · exact ⟨_, rfl, ⟨0, by omega, rfl⟩, k⟩
 · exact ⟨_, rfl, ⟨1, by omega, rfl⟩, k⟩
 · exact ⟨_, rfl, ⟨2, by omega, rfl⟩, k⟩
 · exact ⟨_, rfl, ⟨3, by omega, rfl⟩, k⟩
 exact ⟨_, rfl, ⟨4, by omega, rfl⟩, k⟩
theorem idxS {l : List UInt8} {i : Nat} {c : UInt8} (hc : l[i]? = some c) : ∀ (h : i < (⟨l.toArray⟩ : ByteArray).size), (⟨l.toArray⟩ : ByteArray)[i]'h = c := fun h => by
 have := (List.getElem?_eq_some_iff.1 hc).2
 simpa [ByteArray.getElem_eq_getElem_data] using this
set_option maxHeartbeats 4000000 in
theorem xiI (l : List UInt8) (w : World) (h0 : 0 < l.length) (hl : l.length ≤ 4) : Calls Tryz.prog 125 #[.string ⟨l.toArray⟩] w (Rt IsNu w) := by
 have h1 : (0 : Int) < (l.length : Int) := by omega
 obtain ⟨c, hc⟩ : ∃ c, l[0]? = some c := ⟨_, List.getElem?_eq_getElem h0⟩
 have hx := idxS hc
 clear hc
 go_enter Tryz.func125, Tryz.ntmps125
 go_wp2_with fail
 all_goals (
  go_loopw [4, 5] (fun rv iv wr => (∃ r : Int, rv = .int .i64 r) ∧ (∃ i : Nat, iv = .int .i64 i ∧ i ≤ 4) ∧ w = wr) (fun _ iv _ => 5 - (intOf iv).toNat)
  case atStart => exact ⟨⟨_, rfl⟩, ⟨1, rfl, by omega⟩, rfl⟩
  case round =>
   obtain ⟨⟨r, rfl⟩, ⟨i, rfl, hi⟩, rfl⟩ := hrel
   clear hx
   by_cases hil : i < l.length
   · obtain ⟨b, hb⟩ : ∃ b, l[i]? = some b := ⟨_, List.getElem?_eq_getElem hil⟩
     have hy := idxS hb
     clear hb
     go_wp2_with fail
     go_roundw
     case rel => exact ⟨⟨_, rfl⟩, ⟨i + 1, by go_num, by omega⟩, by trivial⟩
     case measure => simp [intOf]; omega
   go_wp2_with fail
   go_ret
   exact Rt.nu (xaa.refl _ _))
theorem xjr (w : World) (z : Int) : ∃ c : UInt8, (convert 22 9 (.slice (some ⟨w.heap.size, 0, none⟩) 1 1)).run Tryz.prog (w.alloc (.cells #[.int .u8 (z % 256)] 5)) = .ok (.string ⟨#[c]⟩) (w.alloc (.cells #[.int .u8 (z % 256)] 5)) := ⟨UInt8.ofNat (z % 256).toNat, by
 have h := back1 w (UInt8.ofNat (z % 256).toNat)
 rwa [UInt8.toNat_ofNat_of_lt' (by show _ < 256; omega), show (((z % 256).toNat : Nat) : Int) = z % 256 by omega] at h⟩
set_option maxHeartbeats 4000000 in
theorem xhU (r : Int) (w : World) : Calls Tryz.prog 91 #[.int .i64 r] w (Rt IsSt w) := by
 go_enter Tryz.func91, Tryz.ntmps91
 go_wp2_with fail
 refine (xjP r w).mono ?_
 rintro e w1 ⟨_, rfl, ⟨b, rfl⟩, k⟩
 cases b
 all_goals (
  go_wp2_with fail
  refine (xjO _ w1).mono ?_
  rintro e w2 ⟨_, rfl, ⟨n, hn, rfl⟩, k2⟩
  have K2 := xmA (k.trans k2)
  clear k k2
  by_cases h1 : n = 1
  · subst h1
    obtain ⟨c1, hb1⟩ := xjr w2 r
    obtain ⟨c2, hb2⟩ := xjr w2 253
    rw [show (253 : Int) % 256 = 253 from rfl] at hb2
    go_wp2_with fail
    go_ret
    exact Rt.st (K2.out.alloc _)
  have g1 : ((n : Int) == 1) = false := beq_eq_false_iff_ne.2 (by omega)
  go_wp2_with fail
  go_loopw [0, 4, 5] (fun rv sv iv wr => (∃ r : Int, rv = .int .i64 r) ∧ (∃ (l : List UInt8) (i : Nat), sv = .string ⟨l.toArray⟩ ∧ iv = .int .i64 i ∧ l.length < i ∧ i ≤ 5) ∧ xaa (fun _ => False) w wr) (fun _ _ iv _ => 6 - (intOf iv).toNat)
  case atStart => exact ⟨⟨_, rfl⟩, ⟨[], 1, rfl, rfl, by simp, by omega⟩, K2.out⟩
  case round =>
   obtain ⟨⟨r, rfl⟩, ⟨l, i, rfl, rfl, hl, hi⟩, hk⟩ := hrel
   have K := xmA hk
   obtain ⟨c1, hb1⟩ := xjr wr (wrap64 (128 + r.tmod 64))
   obtain ⟨c2, hb2⟩ := xjr wr (wrap64 (192 + r))
   obtain ⟨c3, hb3⟩ := xjr wr (wrap64 (224 + r))
   obtain ⟨c4, hb4⟩ := xjr wr (wrap64 (240 + r))
   clear hk K2
   by_cases hil : i < n
   · go_wp2_with fail
     go_roundw
     case rel => exact ⟨⟨_, rfl⟩, ⟨c1 :: l, i + 1, by first | rfl | (refine congrArg Value.string ?_; apply ByteArray.ext; simp [ByteArray.data_append]), by go_num, by simp; omega, by omega⟩, K.out.alloc _⟩
     case measure => simp [intOf]; omega
   go_wp2_with fail
   all_goals go_ret
   all_goals exact Rt.st (K.out.alloc _))
end Go.Proofs.YtjahiihmoglpfaaGreatDoor
