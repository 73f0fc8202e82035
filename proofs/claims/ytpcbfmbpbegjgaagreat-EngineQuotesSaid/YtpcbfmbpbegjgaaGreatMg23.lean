/-
  Several texts in one: What a tree begins with: lit.Prefix at chars, cats. engine.Compile. A quoted text, in plain Lean: what it is, what it parses to. engine's sound, plain, hopeless.
-/
import Derived.Test.YtpcbfmbpbegjgaaGreatMg21
import Derived.Test.YtpcbfmbpbegjgaaGreatMg4
import Derived.Test.YtpcbfmbpbegjgaaGreatMg9
import Derived.Test.YtpcbfmbpbegjgaaGreatMg22
import Derived.Test.YtpcbfmbpbegjgaaGreatMg17
import Derived.Test.YtpcbfmbpbegjgaaGreatMg20
import Derived.Test.YtpcbfmbpbegjgaaGreatPaSimMG
import Derived.Lib.ConvBytes
section
namespace Go.Proofs.YtpcbfmbpbegjgaaGreat
open Go.RowKit
set_option linter.unusedVariables false
set_option linter.unusedSimpArgs false
set_option maxRecDepth 100000

/-- What Prefix answers. -/
def PreE (r : List UInt8 × Bool) (w : World) (e : Ending) (w' : World) : Prop := e = .returned (.tuple #[strL r.1, .bool r.2]) ∧ Keeps (fun _ => False) w w'
def PreC (t : T) (r : List UInt8 × Bool) : Prop := ∀ (P : Nat → Prop) (v : NV) (w : World), TAt w P v t → Calls Tryz.prog 26 #[v.val] w fun e w' => PreE r w e w'
theorem norm_one (x : Int) (h0 : 0 ≤ x) (h1 : x ≤ 1114111) : Norm [(x, x)] := by
  simp [Norm]; omega
set_option maxHeartbeats 2000000 in
theorem pre_char (x : Nat) (hb : isB (x : Int) = true) : PreC (charT [((x : Int), (x : Int))]) (putP x, true) := by
  intro P v w ht
  have hx : x ≤ 1114111 := by simp [isB] at hb; omega
  have HSt := Lib.hid ht.set
  obtain ⟨a1, n1, c1, a2, c2, e1, e2, hl, hc⟩ := ht.krow
  have o1 : v.op = 1 := ht.op
  obtain ⟨vo, vsv, vm, vx, vk⟩ := v
  obtain rfl := e1
  obtain rfl := e2
  obtain rfl := o1
  have HI := Lib.hid (fun W => is_any (x : Int) W)
  have HP := Lib.hid (fun W => put_any x W hb)
  rw [hb] at HI
  clear hl hc ht hb
  generalize (charT [((x : Int), (x : Int))]).kids.toL.length = KL at *
  generalize putP x = R at *
  show Calls Tryz.prog 26 #[.agg #[.int .i64 1, .slice a1 n1 c1, .int .i64 vm, .int .i64 vx, .slice a2 KL c2]] w _
  go_enter Tryz.func26, Tryz.ntmps26
  go_wp2_with fail
  refine (only_any [((x : Int), (x : Int))] _ _ (HSt.out.keeps (S := fun _ => False) (by (repeat' (with_reducible first | exact Keeps.refl _ _ | assumption | refine Keeps.drawN ?_ _ | refine Keeps.drew ?_ | refine Keeps.setCell ?_ ?_ _ | refine Keeps.alloc ?_ _)) <;> (first | exact Or.inr (Nat.le_refl _) | exact Or.inl rfl | exact Or.inl (Or.inl rfl) | exact Or.inl (Or.inr rfl) | (right; simp; done) | (right; simp; omega))) (fun _ _ => id)) (by simp)).mono ?_
  rintro e w2 ⟨out, y, ok, rfl, hof, hyes, hno, k2⟩
  have hout : out = [((x : Int), (x : Int))] := hof.unique (IsOf.self (norm_one _ (by omega) (by omega)))
  cases ok
  · exact absurd hout ((hno rfl).2 _)
  obtain rfl : y = x := by
    have := hyes rfl
    rw [hout] at this
    simpa using this.symm
  have K2 : Hid (Keeps (fun _ => False) w w2) := Lib.hid (Keeps.trans (by (repeat' (with_reducible first | exact Keeps.refl _ _ | assumption | refine Keeps.drawN ?_ _ | refine Keeps.drew ?_ | refine Keeps.setCell ?_ ?_ _ | refine Keeps.alloc ?_ _)) <;> (first | exact Or.inr (Nat.le_refl _) | exact Or.inl rfl | exact Or.inl (Or.inl rfl) | exact Or.inl (Or.inr rfl) | (right; simp; done) | (right; simp; omega))) k2)
  clear hof hyes hno hout k2
  go_wp2_with fail
  refine (HI.out _).mono ?_
  rintro e w3 ⟨rfl, rfl⟩
  go_wp2_with fail
  refine (HP.out _).mono ?_
  rintro e w4 ⟨v4, rfl, hO, k4⟩
  have hcv := ownB_text hO
  have K4 := Lib.hid (K2.out.trans k4)
  clear k4 hO
  unfold strL at hcv
  go_wp2_with fail
  go_ret2
  exact ⟨rfl, K4.out⟩
set_option maxHeartbeats 2000000 in
theorem pre_chars (s out0 : List (Int × Int)) (hof0 : IsOf s out0) (h1 : ∀ y, out0 ≠ [(y, y)]) (hs : s.length ≤ 100000) : PreC (charT s) ([], false) := by
  intro P v w ht
  have HSt := Lib.hid ht.set
  obtain ⟨a1, n1, c1, a2, c2, e1, e2, hl, hc⟩ := ht.krow
  have o1 : v.op = 1 := ht.op
  obtain ⟨vo, vsv, vm, vx, vk⟩ := v
  obtain rfl := e1
  obtain rfl := e2
  obtain rfl := o1
  clear hl hc ht
  simp only [charT] at HSt
  generalize (charT s).kids.toL.length = KL at *
  show Calls Tryz.prog 26 #[.agg #[.int .i64 1, .slice a1 n1 c1, .int .i64 vm, .int .i64 vx, .slice a2 KL c2]] w _
  go_enter Tryz.func26, Tryz.ntmps26
  go_wp2_with fail
  refine (only_any s _ _ (HSt.out.keeps (S := fun _ => False) (by (repeat' (with_reducible first | exact Keeps.refl _ _ | assumption | refine Keeps.drawN ?_ _ | refine Keeps.drew ?_ | refine Keeps.setCell ?_ ?_ _ | refine Keeps.alloc ?_ _)) <;> (first | exact Or.inr (Nat.le_refl _) | exact Or.inl rfl | exact Or.inl (Or.inl rfl) | exact Or.inl (Or.inr rfl) | (right; simp; done) | (right; simp; omega))) (fun _ _ => id)) hs).mono ?_
  rintro e w2 ⟨out, y, ok, rfl, hof, hyes, hno, k2⟩
  have hout : out = out0 := hof.unique hof0
  cases ok
  case true => exact absurd (hout ▸ hyes rfl) (h1 y)
  have K2 : Hid (Keeps (fun _ => False) w w2) := Lib.hid (Keeps.trans (by (repeat' (with_reducible first | exact Keeps.refl _ _ | assumption | refine Keeps.drawN ?_ _ | refine Keeps.drew ?_ | refine Keeps.setCell ?_ ?_ _ | refine Keeps.alloc ?_ _)) <;> (first | exact Or.inr (Nat.le_refl _) | exact Or.inl rfl | exact Or.inl (Or.inl rfl) | exact Or.inl (Or.inr rfl) | (right; simp; done) | (right; simp; omega))) k2)
  clear hof hyes hno hout k2 hof0 h1
  go_wp2_with fail
  go_ret2
  exact ⟨rfl, K2.out⟩

/-! ### One behind the other -/
theorem cut_any (s : List UInt8) (b : Bool) (w : World) : Calls Tryz.prog 75 #[strL s, .bool b] w fun e w' => PreE (if 200 < s.length then (s.take 200, false) else (s, b)) w e w' := by
  unfold strL
  by_cases h : 200 < s.length
  · have g : decide ((200 : Int) < (s.length : Int)) = true := by simp; omega
    rw [if_pos h]
    go_enter Tryz.func75, Tryz.ntmps75
    go_wp2_with fail
    go_ret2
    refine ⟨?_, Keeps.refl _ _⟩
    simp [strL]
    exact extr_take s 200
  · have g : decide ((200 : Int) < (s.length : Int)) = false := by simp; omega
    rw [if_neg h]
    go_enter Tryz.func75, Tryz.ntmps75
    go_wp2_with fail
    go_ret2
    exact ⟨rfl, Keeps.refl _ _⟩
def catP : List (List UInt8 × Bool) → List UInt8 → List UInt8 × Bool
  | [], all => (all, true)
  | (s, b) :: r, all => if b = false ∨ 200 < (all ++ s).length then (if 200 < (all ++ s).length then ((all ++ s).take 200, false) else (all ++ s, false)) else catP r (all ++ s)
theorem catP_step {res : List (List UInt8 × Bool)} {i : Nat} {s : List UInt8} {b : Bool} (all : List UInt8) (h : res[i]? = some (s, b)) : catP (res.drop i) all = if b = false ∨ 200 < (all ++ s).length then (if 200 < (all ++ s).length then ((all ++ s).take 200, false) else (all ++ s, false)) else catP (res.drop (i + 1)) (all ++ s) := by
  obtain ⟨h1, h2⟩ := List.getElem?_eq_some_iff.1 h
  rw [List.drop_eq_getElem_cons h1, h2]; rfl
def CatR (n : Nat) (res : List (List UInt8 × Bool)) (w : World) (iv av : Value) (wr : World) : Prop :=
  ∃ (i : Nat) (all : List UInt8), iv = .int .i64 i ∧ i ≤ n ∧ av = strL all ∧ all.length ≤ 200 ∧ catP (res.drop i) all = catP res [] ∧ Keeps (fun _ => False) w wr
set_option maxHeartbeats 2000000 in
theorem cat_any (P : Nat → Prop) (L : List T) (res : List (List UInt8 × Bool)) (a : Option Addr) (c : Nat) (w : World) (ha : KRow w P a L) (hl : L.length ≤ 4611686018427387904) (hn : res.length = L.length)
    (ih : ∀ (i : Nat) (k : T) (r : List UInt8 × Bool), L[i]? = some k → res[i]? = some r → PreC k r ∧ r.1.length ≤ 1000) :
    Calls Tryz.prog 50 #[.slice a L.length c] w fun e w' => PreE (catP res []) w e w' := by
  have IH := Lib.hid ih
  have HA := Lib.hid ha
  have HN := Lib.hid hn
  have HC := Lib.hid (fun s b W => cut_any s b W)
  obtain ⟨RR, hRR⟩ : ∃ R, catP res [] = R := ⟨_, rfl⟩
  rw [hRR]
  have HR := Lib.hid hRR
  clear ih ha hn hRR
  go_enter Tryz.func50, Tryz.ntmps50
  go_wp2_with fail
  go_loopw [11, 4] (fun iv av wr => CatR L.length res w iv av wr) (fun iv _ _ => L.length - (intOf iv).toNat)
  case atStart => exact ⟨0, [], rfl, Nat.zero_le _, rfl, by simp, rfl, Keeps.refl _ _⟩
  case round =>
    obtain ⟨i, all, rfl, hi, rfl, hal, hct, hk⟩ := hrel
    have K := Lib.hid hk
    have CT := Lib.hid hct
    clear hk hct
    by_cases hil : i < L.length
    · obtain ⟨k, hki⟩ : ∃ k, L[i]? = some k := ⟨_, List.getElem?_eq_getElem hil⟩
      obtain ⟨⟨s, bw⟩, hri⟩ : ∃ r, res[i]? = some r := ⟨_, List.getElem?_eq_getElem (by rw [HN.out]; exact hil)⟩
      obtain ⟨b, off, uo, d1, f1, g1, um, ux, d2, f2, g2, rfl, hu, hlt, x0, x1, x2, x3, x4⟩ := (HA.out.keep K.out).at hki
      have hih := IH.out i k (s, bw) hki hri
      have hsl : s.length ≤ 1000 := hih.2
      have HS : Hid (∀ W, Keeps (fun _ => False) wr W → Calls Tryz.prog 26 #[.agg #[.int .i64 uo, .slice d1 f1 g1, .int .i64 um, .int .i64 ux, .slice d2 f2 g2]] W fun e w' => PreE (s, bw) W e w') := Lib.hid (fun W kW =>
        hih.1 P ⟨uo, .slice d1 f1 g1, um, ux, .slice d2 f2 g2⟩ W (hu.keepsTo kW (fun _ _ => id) (fun _ h => h)))
      have CS := Lib.hid (catP_step all hri)
      clear hki hri hu hih
      have hap := str_app all s
      unfold strL
      go_wp2_with fail
      refine (HS.out _ (by (repeat' (with_reducible first | exact Keeps.refl _ _ | assumption | refine Keeps.drawN ?_ _ | refine Keeps.drew ?_ | refine Keeps.setCell ?_ ?_ _ | refine Keeps.alloc ?_ _)) <;> (first | exact Or.inr (Nat.le_refl _) | exact Or.inl rfl | exact Or.inl (Or.inl rfl) | exact Or.inl (Or.inr rfl) | (right; simp; done) | (right; simp; omega)))).mono ?_
      rintro e w2 ⟨rfl, k2⟩
      have K2 : Hid (Keeps (fun _ => False) w w2) := Lib.hid (K.out.trans (Keeps.trans (by (repeat' (with_reducible first | exact Keeps.refl _ _ | assumption | refine Keeps.drawN ?_ _ | refine Keeps.drew ?_ | refine Keeps.setCell ?_ ?_ _ | refine Keeps.alloc ?_ _)) <;> (first | exact Or.inr (Nat.le_refl _) | exact Or.inl rfl | exact Or.inl (Or.inl rfl) | exact Or.inl (Or.inr rfl) | (right; simp; done) | (right; simp; omega))) k2))
      clear k2
      unfold strL
      by_cases hgt : 200 < (all ++ s).length
      · have g : decide ((200 : Int) < ((all.length : Int) + (s.length : Int))) = true := by simp at hgt ⊢; omega
        have E : Hid (RR = ((all ++ s).take 200, false)) := Lib.hid (by rw [← HR.out, ← CT.out, CS.out, if_pos (Or.inr hgt), if_pos hgt])
        have HCC := Lib.hid (fun W => HC.out (all ++ s) false W)
        rw [if_pos hgt] at HCC
        unfold strL at HCC
        clear hgt
        cases bw
        all_goals
          go_wp2_with fail
          refine (HCC.out _).mono ?_
          rintro e w3 ⟨rfl, k3⟩
          have K3 := Lib.hid (K2.out.trans k3)
          clear k3
          unfold strL
          go_wp2_with fail
          go_ret2
          exact ⟨by rw [E.out]; rfl, K3.out⟩
      · have g : decide ((200 : Int) < ((all.length : Int) + (s.length : Int))) = false := by simp at hgt ⊢; omega
        cases bw
        · have E : Hid (RR = (all ++ s, false)) := Lib.hid (by rw [← HR.out, ← CT.out, CS.out, if_pos (Or.inl rfl), if_neg hgt])
          have HCC := Lib.hid (fun W => HC.out (all ++ s) false W)
          rw [if_neg hgt] at HCC
          unfold strL at HCC
          clear hgt
          go_wp2_with fail
          refine (HCC.out _).mono ?_
          rintro e w3 ⟨rfl, k3⟩
          have K3 := Lib.hid (K2.out.trans k3)
          clear k3
          unfold strL
          go_wp2_with fail
          go_ret2
          exact ⟨by rw [E.out]; rfl, K3.out⟩
        · have E : Hid (catP (res.drop (i + 1)) (all ++ s) = RR) := Lib.hid (by rw [← HR.out, ← CT.out, CS.out, if_neg (by simp at hgt ⊢; omega)])
          have hal2 : (all ++ s).length ≤ 200 := by omega
          clear hgt
          go_wp2_with fail
          go_roundw
          case rel => exact ⟨i + 1, all ++ s, by go_num, by omega, rfl, hal2, by rw [E.out, HR.out], K2.out⟩
          case measure => simp [intOf]; omega
    · have he : i = L.length := by omega
      subst he
      have E : Hid (RR = (all, true)) := Lib.hid (by rw [← HR.out, ← CT.out, List.drop_eq_nil_of_le (by rw [HN.out]; omega)]; rfl)
      unfold strL
      go_wp2_with fail
      go_ret2
      exact ⟨by rw [E.out]; rfl, K.out⟩
set_option maxHeartbeats 2000000 in
theorem pre_cat (L : List T) (res : List (List UInt8 × Bool)) (hn : res.length = L.length) (ih : ∀ (i : Nat) (k : T) (r : List UInt8 × Bool), L[i]? = some k → res[i]? = some r → PreC k r ∧ r.1.length ≤ 1000) :
    PreC ⟨4, [], 0, 0, F.ofL L⟩ (catP res []) := by
  intro P v w ht
  obtain ⟨a1, n1, c1, a2, c2, e1, e2, hl, hc⟩ := ht.krow
  simp only [F.to_of] at e2 hl hc
  have HK := Lib.hid (fun W (K : Keeps (fun _ => False) w W) => cat_any P L res a2 c2 W (hc.keep K) hl hn ih)
  have o1 : v.op = 4 := ht.op
  obtain ⟨vo, vsv, vm, vx, vk⟩ := v
  obtain rfl := e1
  obtain rfl := e2
  obtain rfl := o1
  clear hl hc ht ih hn
  generalize catP res [] = R at *
  show Calls Tryz.prog 26 #[.agg #[.int .i64 4, .slice a1 n1 c1, .int .i64 vm, .int .i64 vx, .slice a2 L.length c2]] w _
  go_enter Tryz.func26, Tryz.ntmps26
  go_wp2_with fail
  refine (HK.out _ (by (repeat' (with_reducible first | exact Keeps.refl _ _ | assumption | refine Keeps.drawN ?_ _ | refine Keeps.drew ?_ | refine Keeps.setCell ?_ ?_ _ | refine Keeps.alloc ?_ _)) <;> (first | exact Or.inr (Nat.le_refl _) | exact Or.inl rfl | exact Or.inl (Or.inl rfl) | exact Or.inl (Or.inr rfl) | (right; simp; done) | (right; simp; omega)))).mono ?_
  rintro e w2 ⟨rfl, k2⟩
  have K2 : Hid (Keeps (fun _ => False) w w2) := Lib.hid (Keeps.trans (by (repeat' (with_reducible first | exact Keeps.refl _ _ | assumption | refine Keeps.drawN ?_ _ | refine Keeps.drew ?_ | refine Keeps.setCell ?_ ?_ _ | refine Keeps.alloc ?_ _)) <;> (first | exact Or.inr (Nat.le_refl _) | exact Or.inl rfl | exact Or.inl (Or.inl rfl) | exact Or.inl (Or.inr rfl) | (right; simp; done) | (right; simp; omega))) k2)
  clear k2
  unfold strL
  go_wp2_with fail
  go_ret2
  exact ⟨rfl, K2.out⟩
end Go.Proofs.YtpcbfmbpbegjgaaGreat
end
section
namespace Go.Proofs.YtpcbfmbpbegjgaaGreat
open Go.RowKit
set_option linter.unusedVariables false
set_option linter.unusedSimpArgs false
set_option maxRecDepth 100000

/-- An engine at eb. -/
structure EngAt (w : World) (P : Nat → Prop) (eb : Nat) (pv : Value) (is : List Ins) (r : List UInt8 × Bool) : Prop where
  bk : w.heap[eb]? = some (.cells #[pv, .string ⟨r.1.toArray⟩, .bool r.2] 74 (0, 0))
  pg : PgAt w P pv is
theorem EngAt.keepsTo {S P Q : Nat → Prop} {w w' : World} {eb : Nat} {pv : Value} {is : List Ins} {r : List UInt8 × Bool} (h : EngAt w P eb pv is r) (K : Keeps S w w') (hs : ∀ b, P b → ¬ S b) (hq : ∀ b, P b → Q b) (he : ¬ S eb) : EngAt w' Q eb pv is r :=
  ⟨K.heap h.bk he, h.pg.keepsTo K hs hq⟩
theorem EngAt.lt {w : World} {P : Nat → Prop} {eb : Nat} {pv : Value} {is : List Ins} {r : List UInt8 × Bool} (h : EngAt w P eb pv is r) : eb < w.heap.size := (Array.getElem?_eq_some_iff.1 h.bk).1
theorem EngAt.cells {w : World} {P : Nat → Prop} {eb : Nat} {pv : Value} {is : List Ins} {r : List UInt8 × Bool} (h : EngAt w P eb pv is r) : w.cell? ⟨eb, 0, none⟩ = some pv ∧ w.cell? ⟨eb, 1, none⟩ = some (.string ⟨r.1.toArray⟩) ∧ w.cell? ⟨eb, 2, none⟩ = some (.bool r.2) :=
  ⟨by rw [Lib.cell_of_heap h.bk]; rfl, by rw [Lib.cell_of_heap h.bk]; rfl, by rw [Lib.cell_of_heap h.bk]; rfl⟩
def EComE (w : World) (is : List Ins) (r : List UInt8 × Bool) (e : Ending) (w' : World) : Prop :=
  ∃ eb pv, e = .returned (.tuple #[.pointer (some ⟨eb, 0, none⟩), .int .i64 0]) ∧ EngAt w' (fun b => b < w'.heap.size) eb pv is r ∧ Keeps (fun _ => False) w w'
theorem eng_set (w : World) (eb : Nat) (pv u v : Value) (h : w.heap[eb]? = some (.cells #[pv, .string ⟨#[]⟩, .bool false] 74 (0, 0))) : ((w.setCell ⟨eb, 1, none⟩ u).setCell ⟨eb, 2, none⟩ v).heap[eb]? = some (.cells #[pv, u, v] 74 (0, 0)) := by
  simp [World.setCell, Array.getElem?_modify, h]
set_option maxHeartbeats 4000000 in
theorem ecompile_any (l : List UInt8) (t : T) (n : Nat) (is : List Ins) (r : List UInt8 × Bool) (hpar : parseP l = (t, 0)) (hlen : LenC t n) (hn : n < 2000) (hN : NodeE t is) (his : is.length ≤ 500) (hpre : PreC t r) (w : World) (hm : l.length ≤ 9223372036854775807) :
    Calls Tryz.prog 8 #[.string ⟨l.toArray⟩] w fun e w' => EComE w (is ++ [mI]) r e w' := by
  have HP := Lib.hid (fun W => parse_any l W hm)
  rw [hpar] at HP
  have HC0 := Lib.hid (fun P v W ht => compile_any t n is hlen hn hN his P v W ht)
  generalize is ++ [mI] = js at HC0 ⊢
  clear hN hlen
  go_enter Tryz.func8, Tryz.ntmps8
  go_wp2_with fail
  refine (HP.out _).mono ?_
  rintro e w2 ⟨v, rfl, hv, k2⟩
  obtain ⟨o, a1, n1, c1, m, x, a2, n2, cc2, rfl⟩ := NV.form hv
  have HC := Lib.hid (fun W (K : Keeps (fun _ => False) w2 W) => HC0.out (fun _ => True) _ W (hv.keepsTo K (fun _ _ => id) (fun _ _ => trivial)))
  have HR := Lib.hid (fun W (K : Keeps (fun _ => False) w2 W) => hpre (fun _ => True) _ W (hv.keepsTo K (fun _ _ => id) (fun _ _ => trivial)))
  have K2 := Lib.hid k2
  clear hv k2 HP
  unfold NV.val at HC HR ⊢
  go_wp2_with fail
  refine (HC.out _ (by (repeat' (with_reducible first | exact Keeps.refl _ _ | assumption | refine Keeps.drawN ?_ _ | refine Keeps.drew ?_ | refine Keeps.setCell ?_ ?_ _ | refine Keeps.alloc ?_ _)) <;> (first | exact Or.inr (Nat.le_refl _) | exact Or.inl rfl | exact Or.inl (Or.inl rfl) | exact Or.inl (Or.inr rfl) | (right; simp; done) | (right; simp; omega)))).mono ?_
  rintro e w3 ⟨pv, rfl, hpg, k3⟩
  have z0 : w3.cell? ⟨w2.heap.size, 0, none⟩ = some (.int .i64 o) := k3.cell (by simp [go_sem]) id
  have z1 : w3.cell? ⟨w2.heap.size, 1, none⟩ = some (.slice a1 n1 c1) := k3.cell (by simp [go_sem]) id
  have z2 : w3.cell? ⟨w2.heap.size, 2, none⟩ = some (.int .i64 m) := k3.cell (by simp [go_sem]) id
  have z3 : w3.cell? ⟨w2.heap.size, 3, none⟩ = some (.int .i64 x) := k3.cell (by simp [go_sem]) id
  have z4 : w3.cell? ⟨w2.heap.size, 4, none⟩ = some (.slice a2 n2 cc2) := k3.cell (by simp [go_sem]) id
  have K23 : Hid (Keeps (fun _ => False) w2 w3) := Lib.hid (Keeps.trans (by (repeat' (with_reducible first | exact Keeps.refl _ _ | assumption | refine Keeps.drawN ?_ _ | refine Keeps.drew ?_ | refine Keeps.setCell ?_ ?_ _ | refine Keeps.alloc ?_ _)) <;> (first | exact Or.inr (Nat.le_refl _) | exact Or.inl rfl | exact Or.inl (Or.inl rfl) | exact Or.inl (Or.inr rfl) | (right; simp; done) | (right; simp; omega))) k3)
  have HPg := Lib.hid hpg
  obtain ⟨pa, pc, rfl⟩ := hpg.form
  have y0 := alloc_cell z0 (.cells #[.slice pa js.length pc, .string ⟨#[]⟩, .bool false] 74)
  have y1 := alloc_cell z1 (.cells #[.slice pa js.length pc, .string ⟨#[]⟩, .bool false] 74)
  have y2 := alloc_cell z2 (.cells #[.slice pa js.length pc, .string ⟨#[]⟩, .bool false] 74)
  have y3 := alloc_cell z3 (.cells #[.slice pa js.length pc, .string ⟨#[]⟩, .bool false] 74)
  have y4 := alloc_cell z4 (.cells #[.slice pa js.length pc, .string ⟨#[]⟩, .bool false] 74)
  clear k3 hpg HC
  go_wp2_with fail
  refine (HR.out _ (K23.out.trans (by (repeat' (with_reducible first | exact Keeps.refl _ _ | assumption | refine Keeps.drawN ?_ _ | refine Keeps.drew ?_ | refine Keeps.setCell ?_ ?_ _ | refine Keeps.alloc ?_ _)) <;> (first | exact Or.inr (Nat.le_refl _) | exact Or.inl rfl | exact Or.inl (Or.inl rfl) | exact Or.inl (Or.inr rfl) | (right; simp; done) | (right; simp; omega))))).mono ?_
  rintro e w4 ⟨rfl, k4⟩
  have hb4 : w4.heap[w3.heap.size]? = some (.cells #[.slice pa js.length pc, .string ⟨#[]⟩, .bool false] 74 (0, 0)) := by
    rw [k4.block _ (by simp) id]; exact heap_alloc_new w3 _
  have c1' : w4.cell? ⟨w3.heap.size, 1, none⟩ = some (.string ⟨#[]⟩) := by rw [Lib.cell_of_heap hb4]; rfl
  have c2' : w4.cell? ⟨w3.heap.size, 2, none⟩ = some (.bool false) := by rw [Lib.cell_of_heap hb4]; rfl
  have f1 : w4.frozen? ⟨w3.heap.size, 1, none⟩ = false := Lib.frozen_of_heap hb4 1
  have f2 : w4.frozen? ⟨w3.heap.size, 2, none⟩ = false := Lib.frozen_of_heap hb4 2
  have hE := eng_set w4 w3.heap.size _ (.string ⟨r.1.toArray⟩) (.bool r.2) hb4
  have k34 : Keeps (fun _ => False) w3 w4 := Keeps.trans (by (repeat' (with_reducible first | exact Keeps.refl _ _ | assumption | refine Keeps.drawN ?_ _ | refine Keeps.drew ?_ | refine Keeps.setCell ?_ ?_ _ | refine Keeps.alloc ?_ _)) <;> (first | exact Or.inr (Nat.le_refl _) | exact Or.inl rfl | exact Or.inl (Or.inl rfl) | exact Or.inl (Or.inr rfl) | (right; simp; done) | (right; simp; omega))) k4
  have KS : Keeps (fun b => b = w3.heap.size) w4 ((w4.setCell ⟨w3.heap.size, 1, none⟩ (.string ⟨r.1.toArray⟩)).setCell ⟨w3.heap.size, 2, none⟩ (.bool r.2)) := ((Keeps.refl (fun b => b = w3.heap.size) w4).set (p := ⟨w3.heap.size, 1, none⟩) rfl _).set (p := ⟨w3.heap.size, 2, none⟩) rfl _
  have HE := Lib.hid hE
  have KE := Lib.hid (((K2.out.trans K23.out).trans k34).trans2 KS (fun b hb e => by have := (K2.out.trans K23.out).size; omega))
  have KS' := Lib.hid (k34.trans2 KS (fun b hb e => by omega))
  clear k4 hb4 hE k34 KS
  unfold strL
  go_wp2_with fail
  go_ret2
  refine ⟨_, _, rfl, ⟨HE.out, HPg.out.keepsTo KS'.out (fun _ _ => id) (fun b hb => Nat.lt_of_lt_of_le hb.2 KS'.out.size)⟩, KE.out⟩
end Go.Proofs.YtpcbfmbpbegjgaaGreat
end
section
namespace Go.Proofs.YtpcbfmbpbegjgaaGreat
open Go.RowKit
set_option linter.unusedVariables false
set_option linter.unusedSimpArgs false
set_option maxRecDepth 100000

def isQ (r : Int) : Bool := amg sgL r || decide (r = 45)
/-- A code point, quoted: code points, octets. -/
def qq (r : Int) : List Int := if r = 10 then [92, 110] else if r = 13 then [92, 114] else if r = 9 then [92, 116] else if isQ r then [92, r] else [r]
def qB (r : Int) : List UInt8 := if r = 10 then [92, 110] else if r = 13 then [92, 114] else if r = 9 then [92, 116] else if isQ r then [92, UInt8.ofNat r.toNat] else putP r.toNat
def quoteL (l : List UInt8) : Option (List UInt8) := (pts l).map (·.flatMap qB)
theorem isQ_lt {r : Int} (h : isQ r = true) : 0 ≤ r ∧ r < 128 := by
  unfold isQ at h
  rw [Bool.or_eq_true] at h
  rcases h with h | h
  · by_cases h1 : 0 ≤ r ∧ r < 128
    · exact h1
    · rw [amg_out sgL r h1] at h; cases h
  · simp at h; omega
theorem putP_ne (n : Nat) : 1 ≤ (putP n).length := by
  unfold putP; split <;> (try split) <;> (try split) <;> simp
theorem sizP_put {r : Nat} (hb : isB (r : Int) = true) : sizP (r : Int) = ((putP r).length : Nat) := by
  rw [sizP_of hb]
  unfold putP
  split
  · simp
  · split
    · simp [lowB_len]
    · split <;> simp [lowB_len]
theorem isB_nat {r : Int} (h : isB r = true) : 0 ≤ r ∧ r ≤ 1114111 := by
  simp [isB] at h; omega
theorem get_of {c : UInt8} {t : List UInt8} {r : Nat} (hb : isB (r : Int) = true) (h : putP r = c :: t) (m : List UInt8) : getP (c :: (t ++ m)) = ((r : Int), (putP r).length) := by
  refine get_put hb _ ?_ ?_
  · rw [h]; simp
  · rw [h, List.length_cons, List.take_succ_cons, List.take_left']; rfl
theorem pts_put {r : Nat} (hb : isB (r : Int) = true) : pts (putP r) = some [(r : Int)] := by
  obtain ⟨c, t, h⟩ : ∃ c t, putP r = c :: t := by
    have := putP_ne r
    cases h : putP r with
    | nil => rw [h] at this; simp at this
    | cons c t => exact ⟨c, t, rfl⟩
  have hg := get_of hb h []
  rw [List.append_nil] at hg
  have hs := sizP_put hb
  rw [h] at hg hs ⊢
  rw [pts_cons, hg]
  simp only
  rw [if_pos hs, List.drop_length]
  rfl
theorem pts_qB {r : Int} (hb : isB r = true) : pts (qB r) = some (qq r) := by
  have h0 := isB_nat hb
  unfold qB qq
  by_cases h1 : r = 10
  · rw [if_pos h1, if_pos h1]; exact pts_ascii (by decide)
  rw [if_neg h1, if_neg h1]
  by_cases h2 : r = 13
  · rw [if_pos h2, if_pos h2]; exact pts_ascii (by decide)
  rw [if_neg h2, if_neg h2]
  by_cases h3 : r = 9
  · rw [if_pos h3, if_pos h3]; exact pts_ascii (by decide)
  rw [if_neg h3, if_neg h3]
  by_cases h4 : isQ r = true
  · rw [if_pos h4, if_pos h4]
    have h5 := isQ_lt h4
    have e : (UInt8.ofNat r.toNat).toNat = r.toNat := u8n (by omega)
    have hr : ((r.toNat : Nat) : Int) = r := by omega
    have h6 := pts_one (c := UInt8.ofNat r.toNat) (by rw [e]; omega)
    rw [e, hr] at h6
    exact pts_cons_ascii (c := 92) (by decide) h6
  · rw [if_neg h4, if_neg h4]
    have := pts_put (r := r.toNat) (by rw [show ((r.toNat : Nat) : Int) = r by omega]; exact hb)
    rw [show ((r.toNat : Nat) : Int) = r by omega] at this
    exact this
theorem pts_isB : ∀ (n : Nat) (l : List UInt8) (rs : List Int), l.length ≤ n → pts l = some rs → (∀ r ∈ rs, isB r = true) ∧ l = rs.flatMap fun r => putP r.toNat := by
  intro n
  induction n with
  | zero =>
    intro l rs hn h
    obtain rfl : l = [] := List.length_eq_zero_iff.1 (by omega)
    obtain rfl : [] = rs := by simpa [pts, ptsP] using h
    simp
  | succ n ih =>
    intro l rs hn h
    rcases l with _ | ⟨c, l⟩
    · obtain rfl : [] = rs := by simpa [pts, ptsP] using h
      simp
    · rw [pts_cons] at h
      by_cases hs : sizP (getP (c :: l)).1 = ((getP (c :: l)).2 : Int)
      · rw [if_pos hs, Option.map_eq_some_iff] at h
        obtain ⟨r2, h1, rfl⟩ := h
        obtain ⟨g1, g2, g3, g4, g5⟩ := put_get hs
        have hd := ih _ r2 (by rw [List.length_drop]; simp only [List.length_cons] at hn ⊢; omega) h1
        unfold getQ at g4
        simp only [Bool.and_eq_true, decide_eq_true_eq] at g4
        obtain ⟨q1, q2⟩ := g4
        rw [g5] at q1
        refine ⟨fun r hr => ?_, ?_⟩
        · rcases List.mem_cons.1 hr with rfl | hr
          · exact q1
          · exact hd.1 r hr
        · rw [List.flatMap_cons, ← g5, Int.toNat_natCast, q2, ← hd.2, List.take_append_drop]
      · rw [if_neg hs] at h; cases h
theorem pts_flat : ∀ (rs : List Int), (∀ r ∈ rs, isB r = true) → pts (rs.flatMap qB) = some (rs.flatMap qq) := by
  intro rs
  induction rs with
  | nil => intro _; rfl
  | cons r rs ih =>
    intro h
    rw [List.flatMap_cons, List.flatMap_cons, pts_app _ _ _ _ (Nat.le_refl _) (pts_qB (h r (by simp))), ih (fun x hx => h x (by simp [hx]))]
    rfl
theorem qB_len {r : Int} : 1 ≤ (qB r).length ∧ (qB r).length ≤ 2 * (putP r.toNat).length := by
  have := putP_ne r.toNat
  unfold qB
  repeat' split
  all_goals first | omega | (simp only [List.length_cons, List.length_nil]; omega)
theorem flat_len : ∀ (rs : List Int), (rs.flatMap qB).length ≤ 2 * (rs.flatMap fun r => putP r.toNat).length := by
  intro rs
  induction rs with
  | nil => simp
  | cons r rs ih =>
    have := (qB_len (r := r)).2
    rw [List.flatMap_cons, List.flatMap_cons, List.length_append, List.length_append]
    omega
theorem tok_qq {r : Int} (hb : isB r = true) (l : List Int) : toks (qq r ++ l) = (toks l).map (.pt [(r, r)] :: ·) := by
  unfold qq
  by_cases h1 : r = 10
  · rw [if_pos h1, h1]
    exact toks_some (l := 92 :: 110 :: l) (k := 2) (by rw [tokP_cons]; simp [escP, isNam, escBad, escR])
  rw [if_neg h1]
  by_cases h2 : r = 13
  · rw [if_pos h2, h2]
    exact toks_some (l := 92 :: 114 :: l) (k := 2) (by rw [tokP_cons]; simp [escP, isNam, escBad, escR])
  rw [if_neg h2]
  by_cases h3 : r = 9
  · rw [if_pos h3, h3]
    exact toks_some (l := 92 :: 116 :: l) (k := 2) (by rw [tokP_cons]; simp [escP, isNam, escBad, escR])
  rw [if_neg h3]
  by_cases h4 : isQ r = true
  · rw [if_pos h4]
    have h5 : escP r = some ([(r, r)], true) := by
      unfold isQ at h4
      rw [Bool.or_eq_true, amg_sg, decide_eq_true_eq, decide_eq_true_eq] at h4
      unfold isSg at h4
      have n1 : ¬ isNam r := by unfold isNam; omega
      have n2 : escBad r = false := by
        unfold escBad
        rw [amg_sg]
        rcases h4 with h4 | h4
        · have : decide (isSg r) = true := by rw [decide_eq_true_eq]; exact h4
          rw [this]; simp
        · simp [h4]
      have n3 : escR r = r := by unfold escR; rw [if_neg (by omega), if_neg (by omega), if_neg (by omega)]
      unfold escP
      rw [if_neg n1, n2, n3]
      rfl
    exact toks_some (l := 92 :: r :: l) (k := 2) (by rw [tokP_cons]; simp [h5])
  · rw [if_neg h4]
    have h5 : ¬ isSg r := by
      intro h; apply h4; unfold isQ; rw [amg_sg, decide_eq_true h]; rfl
    unfold isSg at h5
    exact toks_some (l := r :: l) (k := 1) (by rw [tokP_cons, if_neg (by omega), if_neg (by omega), if_neg (by omega), if_neg (by omega), if_neg (by omega), if_neg (by omega), if_neg (by omega), if_neg (by omega), if_neg (by omega)])
theorem toks_flat : ∀ (rs : List Int), (∀ r ∈ rs, isB r = true) → toks (rs.flatMap qq) = some (rs.map fun r => .pt [(r, r)]) := by
  intro rs
  induction rs with
  | nil => intro _; rfl
  | cons r rs ih =>
    intro h
    rw [List.flatMap_cons, tok_qq (h r (by simp)), ih (fun x hx => h x (by simp [hx]))]
    rfl
theorem treeM_pts (d : Int) : ∀ (rs : List Int) (n : Nat) (ps : List T) (lo : Bool), rs.length < n → treeM n d (rs.map fun r => .pt [(r, r)]) [] ps lo = some (endT [] (ps ++ rs.map fun r => charT [(r, r)])) := by
  intro rs
  induction rs with
  | nil =>
    intro n ps lo hn
    obtain ⟨n, rfl⟩ : ∃ k, n = k + 1 := ⟨n - 1, by simp at hn; omega⟩
    rw [List.map_nil, List.map_nil, List.append_nil]; rfl
  | cons r rs ih =>
    intro n ps lo hn
    obtain ⟨n, rfl⟩ : ∃ k, n = k + 1 := ⟨n - 1, by simp at hn; omega⟩
    rw [List.map_cons]
    show treeM n d _ [] (ps ++ [charT [(r, r)]]) true = _
    rw [ih n _ true (by simp at hn; omega), List.append_assoc]
    rfl
/-- The tree of a quoted text. -/
def qTree (rs : List Int) : T := joinT 4 (rs.map fun r => charT [(r, r)])
theorem parse_quote {l : List UInt8} {rs : List Int} (h : pts l = some rs) (hl : l.length ≤ 100) : parseP (rs.flatMap qB) = (qTree rs, 0) := by
  obtain ⟨h1, h2⟩ := pts_isB _ l rs (Nat.le_refl _) h
  have h3 := flat_len rs
  rw [← h2] at h3
  rw [parse_of (by omega) (pts_flat rs h1) (toks_flat rs h1)]
  have h4 := treeM_pts 0 rs ((rs.map fun r => Tok.pt [(r, r)]).length + 1) [] false (by simp)
  unfold treeF
  rw [h4]
  rfl
theorem quoteL_cons {c : UInt8} {l : List UInt8} : quoteL (c :: l) = if sizP (getP (c :: l)).1 = ((getP (c :: l)).2 : Int) then (quoteL ((c :: l).drop (getP (c :: l)).2)).map (qB (getP (c :: l)).1 ++ ·) else none := by
  unfold quoteL
  rw [pts_cons]
  split
  · rw [Option.map_map, Option.map_map]; rfl
  · rfl
end Go.Proofs.YtpcbfmbpbegjgaaGreat
end
section
namespace Go.Proofs.YtpcbfmbpbegjgaaGreat
open Go.RowKit
set_option linter.unusedVariables false
set_option linter.unusedSimpArgs false
set_option maxRecDepth 100000

/-- Of octets: are all code points'? -/
def SoR (l : List UInt8) (X : Nat) (w1 : World) (bv : Value) (wr : World) : Prop := ∃ rest, BS X wr bv rest ∧ rest.length ≤ l.length ∧ (pts rest).isSome = (pts l).isSome ∧ w1 = wr
set_option maxHeartbeats 4000000 in
theorem sound_any (l : List UInt8) (w : World) (hl : l.length ≤ 100000) :
    Calls Tryz.prog 53 #[.string ⟨l.toArray⟩] w fun e w' => e = .returned (.bool (pts l).isSome) ∧ Keeps (fun _ => False) w w' := by
  have Hs : Hid ((⟨l.toArray⟩ : ByteArray).data.toList = l) := rfl
  have Hz : Hid ((⟨l.toArray⟩ : ByteArray).size = l.length) := by show l.toArray.size = _; simp
  generalize (⟨l.toArray⟩ : ByteArray) = s at *
  go_enter Tryz.func53, Tryz.ntmps53
  have hconv := fun W => Lib.run_convert_string_bytes (P := Tryz.prog) W 9 42 5 s Tryz.underlying9 Tryz.underlying42 Tryz.underlying5
  go_wp2_with fail
  clear hconv
  have hW0 : Keeps (fun _ => False) w (Lib.bytesWorld w 5 s) := ⟨rfl, rfl, rfl, by rw [Lib.bytesWorld_size]; omega, fun k hk _ => Lib.bytesWorld_at_old w 5 s k hk⟩
  have hX0 : ∀ j x, l[j]? = some x → (Lib.bytesWorld w 5 s).cell? ⟨w.heap.size, 0 + j, none⟩ = some (.int .u8 (x.toNat : Int)) := fun j x hx => by
    have hj : j < l.length := (List.getElem?_eq_some_iff.1 hx).1
    have := Lib.bytesWorld_cell w 5 s j (by rw [Hz.out]; exact hj)
    rw [Hs.out, List.getD_eq_getElem?_getD, hx] at this
    rw [Nat.zero_add]; exact this
  have hcp := grownCap_ge w s.size 0 5
  have hcp2 := grownCap_le_maxLen w s.size 0 5 (by rw [Hz.out]; unfold maxLen; omega)
  generalize grownCap w s.size 0 5 = cp at *
  generalize Lib.bytesWorld w 5 s = w1 at *
  unfold maxLen at hcp2
  rw [Hz.out] at hcp ⊢
  have hB0 : BS w.heap.size w1 (.slice (some ⟨w.heap.size, 0, none⟩) l.length cp) l := ⟨_, cp, rfl, hcp, fun _ => ⟨0, rfl, hX0⟩⟩
  have KW := Lib.hid hW0
  clear hX0 Hs Hz hW0
  go_loopw [3] (fun bv wr => SoR l w.heap.size w1 bv wr) (fun bv _ => restLen bv)
  case atStart => exact ⟨l, hB0, Nat.le_refl _, rfl, rfl⟩
  case round =>
    clear hB0
    obtain ⟨rest, hB, hlen, hp, rfl⟩ := hrel
    have HB := Lib.hid hB
    obtain ⟨a, cap, rfl, hcap, hcell⟩ := hB
    have Hp := Lib.hid hp
    clear hp
    cases rest with
    | nil =>
      have E : Hid (true = (pts l).isSome) := Lib.hid (by rw [← Hp.out]; rfl)
      clear hcell Hp
      go_wp2_with fail
      go_ret
      exact ⟨by rw [← E.out]; rfl, KW.out⟩
    | cons c t =>
      obtain ⟨off, rfl, hcc⟩ := hcell (by simp)
      have HC := Lib.hid hcc
      have hp1 := (getP_pos c t).1
      have hp2 := getP_le c t
      have E : Hid ((pts l).isSome = (if sizP (getP (c :: t)).1 = ((getP (c :: t)).2 : Int) then (pts ((c :: t).drop (getP (c :: t)).2)).map ((getP (c :: t)).1 :: ·) else none).isSome) := Lib.hid (by rw [← Hp.out, pts_cons])
      have HG := Lib.hid (get_some w.heap.size off cap (t.length + 1) c t w1 rfl (by simpa using hcap) hcc)
      clear hcc hcell Hp
      generalize getP (c :: t) = G at *
      obtain ⟨r, n⟩ := G
      simp only at hp1 hp2 E HG
      have HS := Lib.hid (fun W => size_any r W)
      have hlc : (c :: t).length = t.length + 1 := rfl
      simp only [List.length_cons] at hcap hlen hlc
      by_cases hs : sizP r = n
      · have E2 : Hid ((pts ((c :: t).drop n)).isSome = (pts l).isSome) := Lib.hid (by rw [E.out, if_pos hs, Option.isSome_map])
        rw [hs] at HS
        have hdl : ((c :: t).drop n).length = t.length + 1 - n := by simp
        have hdc : ∀ i x, ((c :: t).drop n)[i]? = some x → w1.cell? ⟨w.heap.size, off + n + i, none⟩ = some (.int .u8 (x.toNat : Int)) := fun i x hx => by
          rw [List.getElem?_drop] at hx
          rw [Nat.add_assoc]; exact HC.out (n + i) x hx
        have Hdl := Lib.hid hdl
        have Hdc := Lib.hid hdc
        clear hs E hdl hdc
        generalize (c :: t).drop n = rest' at *
        have hgo : ∀ (o' : Nat), (n < cap → o' = off + n) → SoR l w.heap.size w1 (.slice (some ⟨w.heap.size, o', none⟩) (t.length + 1 - n) (cap - n)) w1 := by
          intro o' h4
          refine ⟨rest', ⟨some ⟨w.heap.size, o', none⟩, cap - n, by rw [Hdl.out], by rw [Hdl.out]; omega, fun hne => ?_⟩, by rw [Hdl.out]; omega, E2.out, rfl⟩
          have h5 : 0 < rest'.length := List.length_pos_iff.2 hne
          rw [Hdl.out] at h5
          refine ⟨o', rfl, fun i x hx => ?_⟩
          rw [h4 (by omega)]
          exact Hdc.out i x hx
        have HGo := Lib.hid hgo
        clear hgo
        by_cases hcn : cap = n
        · subst hcn
          go_wp2_with fail
          refine HG.out.mono ?_
          rintro e w2 ⟨rfl, rfl⟩
          go_wp2_with fail
          refine (HS.out _).mono ?_
          rintro e w2 ⟨rfl, rfl⟩
          go_wp2_with fail
          go_roundw
          case rel => first | exact HGo.out _ (fun h => by first | rfl | omega) | (have h9 := HGo.out off (fun h => by omega); rw [show t.length + 1 - cap = 0 by omega, Nat.sub_self] at h9; exact h9)
          case measure => first | (simp [restLen]; done) | (simp [restLen]; omega)
        · have hcn2 : n < cap := by omega
          go_wp2_with fail
          refine HG.out.mono ?_
          rintro e w2 ⟨rfl, rfl⟩
          go_wp2_with fail
          refine (HS.out _).mono ?_
          rintro e w2 ⟨rfl, rfl⟩
          go_wp2_with fail
          go_roundw
          case rel => first | exact HGo.out _ (fun h => by first | rfl | omega) | (have h9 := HGo.out off (fun h => by omega); rw [show t.length + 1 - cap = 0 by omega, Nat.sub_self] at h9; exact h9)
          case measure => first | (simp [restLen]; done) | (simp [restLen]; omega)
      · have E2 : Hid (false = (pts l).isSome) := Lib.hid (by rw [E.out, if_neg hs]; rfl)
        have g1 : (sizP r != (n : Int)) = true := by simp only [bne_iff_ne, ne_eq]; exact hs
        clear hs E
        generalize sizP r = sz at *
        go_wp2_with fail
        refine HG.out.mono ?_
        rintro e w2 ⟨rfl, rfl⟩
        go_wp2_with fail
        refine (HS.out _).mono ?_
        rintro e w2 ⟨rfl, rfl⟩
        go_wp2_with fail
        go_ret
        exact ⟨by rw [← E2.out]; rfl, KW.out⟩
def plainL (l : List UInt8) : Bool := l.all fun c => decide (c.toNat < 128)
def PlnR (l : List UInt8) (w : World) (iv : Value) (wr : World) : Prop := ∃ i : Nat, iv = .int .i64 i ∧ i ≤ l.length ∧ plainL (l.drop i) = plainL l ∧ w = wr
set_option maxHeartbeats 4000000 in
theorem eplain_any (l : List UInt8) (w : World) (hl : l.length ≤ 100000) :
    Calls Tryz.prog 29 #[.string ⟨l.toArray⟩] w fun e w' => e = .returned (.bool (plainL l)) ∧ w = w' := by
  go_enter Tryz.func29, Tryz.ntmps29
  go_wp2_with fail
  go_loopw [6] (fun iv wr => PlnR l w iv wr) (fun iv _ => l.length - (intOf iv).toNat)
  case atStart => exact ⟨0, rfl, Nat.zero_le _, rfl, rfl⟩
  case round =>
    obtain ⟨i, rfl, hi, hp, rfl⟩ := hrel
    have Hp := Lib.hid hp
    clear hp
    by_cases hil : i < l.length
    · obtain ⟨c, hc⟩ : ∃ c, l[i]? = some c := ⟨_, List.getElem?_eq_getElem hil⟩
      have hx := idxC hc
      have hdr : l.drop i = c :: l.drop (i + 1) := by
        obtain ⟨h1, h2⟩ := List.getElem?_eq_some_iff.1 hc
        rw [List.drop_eq_getElem_cons h1, h2]
      have E : Hid (plainL l = (decide (c.toNat < 128) && plainL (l.drop (i + 1)))) := Lib.hid (by rw [← Hp.out, hdr]; rfl)
      have hc1 := c.toNat_lt
      clear hdr hc
      by_cases hcl : c.toNat < 128
      · have g1 : decide ((128 : Int) ≤ (c.toNat : Int)) = false := by simp; omega
        have E2 : Hid (plainL (l.drop (i + 1)) = plainL l) := Lib.hid (by rw [E.out]; simp [hcl])
        go_wp2_with fail
        go_roundw
        case rel => exact ⟨i + 1, by go_num, by omega, E2.out, rfl⟩
        case measure => simp [intOf]; omega
      · have g1 : decide ((128 : Int) ≤ (c.toNat : Int)) = true := by simp; omega
        have E2 : Hid (false = plainL l) := Lib.hid (by rw [E.out]; simp [hcl])
        go_wp2_with fail
        go_ret
        exact ⟨by rw [← E2.out]; rfl, rfl⟩
    · obtain rfl : i = l.length := by omega
      have E2 : Hid (true = plainL l) := Lib.hid (by rw [← Hp.out, List.drop_length]; rfl)
      go_wp2_with fail
      go_ret
      exact ⟨by rw [← E2.out]; rfl, rfl⟩
def HopE (pre tx : List UInt8) (w : World) (e : Ending) (w' : World) : Prop := (∃ z : Int, (pre ≠ [] → IdxAt (mtL pre tx) tx.length 0 z) ∧ e = .returned (.bool (!pre.isEmpty && (decide (z < 0) && (pts tx).isSome)))) ∧ Keeps (fun _ => False) w w'
set_option maxHeartbeats 4000000 in
theorem hopeless_any (eb : Nat) (P : Nat → Prop) (pv : Value) (is : List Ins) (r : List UInt8 × Bool) (tx : List UInt8) (w : World) (h : EngAt w P eb pv is r) (hr : r.1.length ≤ 1000) (htx : tx.length ≤ 1000) :
    Calls Tryz.prog 27 #[.pointer (some ⟨eb, 0, none⟩), .string ⟨tx.toArray⟩] w fun e w' => HopE r.1 tx w e w' := by
  obtain ⟨c0, c1, c2⟩ := h.cells
  have HI := Lib.hid (fun W => index_any r.1 tx 0 W hr htx (by omega))
  have HS := Lib.hid (fun W => sound_any tx W (by omega))
  clear h
  obtain ⟨pre, wh⟩ := r
  simp only at c0 c1 c2 HI ⊢
  by_cases h0 : pre = []
  · subst h0
    clear HI HS
    go_enter Tryz.func27, Tryz.ntmps27
    go_wp2_with fail
    go_ret
    exact ⟨⟨0, fun h => absurd rfl h, rfl⟩, Keeps.refl _ _⟩
  · have hne : pre.isEmpty = false := by cases pre <;> simp_all
    have Hne := Lib.hid hne
    have H0 := Lib.hid h0
    clear h0
    go_enter Tryz.func27, Tryz.ntmps27
    go_wp2_with fail
    refine (HI.out _).mono ?_
    rintro e w2 ⟨z, rfl, hz, k2⟩
    have HZ := Lib.hid hz
    have K2 := Lib.hid k2
    clear hz k2
    by_cases hz0 : z < 0
    · have g1 : decide (z < 0) = true := by simpa using hz0
      go_wp2_with fail
      refine (HS.out _).mono ?_
      rintro e w3 ⟨rfl, k3⟩
      have K3 := Lib.hid (K2.out.trans k3)
      clear k3
      go_wp2_with fail
      go_ret
      exact ⟨⟨z, fun _ => HZ.out, by simp [Hne.out, g1]⟩, K3.out⟩
    · have g1 : decide (z < 0) = false := by simpa using hz0
      go_wp2_with fail
      go_ret
      exact ⟨⟨z, fun _ => HZ.out, by simp [g1]⟩, K2.out⟩
end Go.Proofs.YtpcbfmbpbegjgaaGreat
end
