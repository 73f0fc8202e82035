/-
  Several texts in one: What a tree begins with: lit.Prefix at chars, cats. strings.Repeat at one octet, twice. What "b" twice begins with: lit.Prefix at a Rep.
-/
import Derived.Test.YtinogeobkljngaaMg3
import Derived.Test.YtinogeobkljngaaMg5
import Derived.Test.YtinogeobkljngaaMg6
import Derived.Test.YtinogeobkljngaaMg9
import Derived.Test.YtinogeobkljngaaMg13
import Derived.Test.YtinogeobkljngaaMg1
import Derived.Test.YtinogeobkljngaaShelf
import Derived.Shelf.Strings.BuilderF
import Derived.Deep.RegionHeld3
import Derived.BigRegion
section
namespace Go.Proofs.Ytinogeobkljngaa
open Go.RowKit
set_option linter.unusedVariables false
set_option linter.unusedSimpArgs false
set_option maxRecDepth 100000

/-- What Prefix answers. -/
def PreE (r : List UInt8 × Bool) (w : World) (e : Ending) (w' : World) : Prop := e = .returned (.tuple #[strL r.1, .bool r.2]) ∧ Keeps (fun _ => False) w w'
def PreC (t : T) (r : List UInt8 × Bool) : Prop := ∀ (P : Nat → Prop) (v : NV) (w : World), TAt w P v t → Calls Try.prog 8 #[v.val] w fun e w' => PreE r w e w'
theorem norm_one (x : Int) (h0 : 0 ≤ x) (h1 : x ≤ 1114111) : Norm [(x, x)] := by
  simp [Norm]; omega
set_option maxHeartbeats 2000000 in
theorem pre_char (x : Nat) (hb : isB (x : Int) = true) : PreC (charT [((x : Int), (x : Int))]) (putP x, true) := by
  intro P v w ht
  have hx : x ≤ 1114111 := by simp [isB] at hb; omega
  have HSt := Lib.hid ht.set
  obtain ⟨a1, n1, c1, a2, c2, e1, e2, hl, hc⟩ := ht.krow
  have o1 : v.op = 1 := ht.op
  obtain ⟨vo, vsv, vm, vx, vk⟩ := v
  obtain rfl := e1
  obtain rfl := e2
  obtain rfl := o1
  have HI := Lib.hid (fun W => is_any (x : Int) W)
  have HP := Lib.hid (fun W => put_any x W hb)
  rw [hb] at HI
  clear hl hc ht hb
  generalize (charT [((x : Int), (x : Int))]).kids.toL.length = KL at *
  generalize putP x = R at *
  show Calls Try.prog 8 #[.agg #[.int .i64 1, .slice a1 n1 c1, .int .i64 vm, .int .i64 vx, .slice a2 KL c2]] w _
  go_enter Try.func8, Try.ntmps8
  go_wp2_with fail
  refine (only_any [((x : Int), (x : Int))] _ _ (HSt.out.keeps (S := fun _ => False) (by (repeat' (with_reducible first | exact Keeps.refl _ _ | assumption | refine Keeps.drawN ?_ _ | refine Keeps.drew ?_ | refine Keeps.setCell ?_ ?_ _ | refine Keeps.alloc ?_ _)) <;> (first | exact Or.inr (Nat.le_refl _) | exact Or.inl rfl | exact Or.inl (Or.inl rfl) | exact Or.inl (Or.inr rfl) | (right; simp; done) | (right; simp; omega))) (fun _ _ => id)) (by simp)).mono ?_
  rintro e w2 ⟨out, y, ok, rfl, hof, hyes, hno, k2⟩
  have hout : out = [((x : Int), (x : Int))] := hof.unique (IsOf.self (norm_one _ (by omega) (by omega)))
  cases ok
  · exact absurd hout ((hno rfl).2 _)
  obtain rfl : y = x := by
    have := hyes rfl
    rw [hout] at this
    simpa using this.symm
  have K2 : Hid (Keeps (fun _ => False) w w2) := Lib.hid (Keeps.trans (by (repeat' (with_reducible first | exact Keeps.refl _ _ | assumption | refine Keeps.drawN ?_ _ | refine Keeps.drew ?_ | refine Keeps.setCell ?_ ?_ _ | refine Keeps.alloc ?_ _)) <;> (first | exact Or.inr (Nat.le_refl _) | exact Or.inl rfl | exact Or.inl (Or.inl rfl) | exact Or.inl (Or.inr rfl) | (right; simp; done) | (right; simp; omega))) k2)
  clear hof hyes hno hout k2
  go_wp2_with fail
  refine (HI.out _).mono ?_
  rintro e w3 ⟨rfl, rfl⟩
  go_wp2_with fail
  refine (HP.out _).mono ?_
  rintro e w4 ⟨v4, rfl, hO, k4⟩
  have hcv := ownB_text hO
  have K4 := Lib.hid (K2.out.trans k4)
  clear k4 hO
  unfold strL at hcv
  go_wp2_with fail
  go_ret2
  exact ⟨rfl, K4.out⟩
set_option maxHeartbeats 2000000 in
theorem pre_chars (s out0 : List (Int × Int)) (hof0 : IsOf s out0) (h1 : ∀ y, out0 ≠ [(y, y)]) (hs : s.length ≤ 100000) : PreC (charT s) ([], false) := by
  intro P v w ht
  have HSt := Lib.hid ht.set
  obtain ⟨a1, n1, c1, a2, c2, e1, e2, hl, hc⟩ := ht.krow
  have o1 : v.op = 1 := ht.op
  obtain ⟨vo, vsv, vm, vx, vk⟩ := v
  obtain rfl := e1
  obtain rfl := e2
  obtain rfl := o1
  clear hl hc ht
  simp only [charT] at HSt
  generalize (charT s).kids.toL.length = KL at *
  show Calls Try.prog 8 #[.agg #[.int .i64 1, .slice a1 n1 c1, .int .i64 vm, .int .i64 vx, .slice a2 KL c2]] w _
  go_enter Try.func8, Try.ntmps8
  go_wp2_with fail
  refine (only_any s _ _ (HSt.out.keeps (S := fun _ => False) (by (repeat' (with_reducible first | exact Keeps.refl _ _ | assumption | refine Keeps.drawN ?_ _ | refine Keeps.drew ?_ | refine Keeps.setCell ?_ ?_ _ | refine Keeps.alloc ?_ _)) <;> (first | exact Or.inr (Nat.le_refl _) | exact Or.inl rfl | exact Or.inl (Or.inl rfl) | exact Or.inl (Or.inr rfl) | (right; simp; done) | (right; simp; omega))) (fun _ _ => id)) hs).mono ?_
  rintro e w2 ⟨out, y, ok, rfl, hof, hyes, hno, k2⟩
  have hout : out = out0 := hof.unique hof0
  cases ok
  case true => exact absurd (hout ▸ hyes rfl) (h1 y)
  have K2 : Hid (Keeps (fun _ => False) w w2) := Lib.hid (Keeps.trans (by (repeat' (with_reducible first | exact Keeps.refl _ _ | assumption | refine Keeps.drawN ?_ _ | refine Keeps.drew ?_ | refine Keeps.setCell ?_ ?_ _ | refine Keeps.alloc ?_ _)) <;> (first | exact Or.inr (Nat.le_refl _) | exact Or.inl rfl | exact Or.inl (Or.inl rfl) | exact Or.inl (Or.inr rfl) | (right; simp; done) | (right; simp; omega))) k2)
  clear hof hyes hno hout k2 hof0 h1
  go_wp2_with fail
  go_ret2
  exact ⟨rfl, K2.out⟩

/-! ### One behind the other -/
theorem cut_any (s : List UInt8) (b : Bool) (w : World) : Calls Try.prog 31 #[strL s, .bool b] w fun e w' => PreE (if 200 < s.length then (s.take 200, false) else (s, b)) w e w' := by
  unfold strL
  by_cases h : 200 < s.length
  · have g : decide ((200 : Int) < (s.length : Int)) = true := by simp; omega
    rw [if_pos h]
    go_enter Try.func31, Try.ntmps31
    go_wp2_with fail
    go_ret2
    refine ⟨?_, Keeps.refl _ _⟩
    simp [strL]
    exact extr_take s 200
  · have g : decide ((200 : Int) < (s.length : Int)) = false := by simp; omega
    rw [if_neg h]
    go_enter Try.func31, Try.ntmps31
    go_wp2_with fail
    go_ret2
    exact ⟨rfl, Keeps.refl _ _⟩
def catP : List (List UInt8 × Bool) → List UInt8 → List UInt8 × Bool
  | [], all => (all, true)
  | (s, b) :: r, all => if b = false ∨ 200 < (all ++ s).length then (if 200 < (all ++ s).length then ((all ++ s).take 200, false) else (all ++ s, false)) else catP r (all ++ s)
theorem catP_step {res : List (List UInt8 × Bool)} {i : Nat} {s : List UInt8} {b : Bool} (all : List UInt8) (h : res[i]? = some (s, b)) : catP (res.drop i) all = if b = false ∨ 200 < (all ++ s).length then (if 200 < (all ++ s).length then ((all ++ s).take 200, false) else (all ++ s, false)) else catP (res.drop (i + 1)) (all ++ s) := by
  obtain ⟨h1, h2⟩ := List.getElem?_eq_some_iff.1 h
  rw [List.drop_eq_getElem_cons h1, h2]; rfl
def CatR (n : Nat) (res : List (List UInt8 × Bool)) (w : World) (iv av : Value) (wr : World) : Prop :=
  ∃ (i : Nat) (all : List UInt8), iv = .int .i64 i ∧ i ≤ n ∧ av = strL all ∧ all.length ≤ 200 ∧ catP (res.drop i) all = catP res [] ∧ Keeps (fun _ => False) w wr
set_option maxHeartbeats 2000000 in
theorem cat_any (P : Nat → Prop) (L : List T) (res : List (List UInt8 × Bool)) (a : Option Addr) (c : Nat) (w : World) (ha : KRow w P a L) (hl : L.length ≤ 4611686018427387904) (hn : res.length = L.length)
    (ih : ∀ (i : Nat) (k : T) (r : List UInt8 × Bool), L[i]? = some k → res[i]? = some r → PreC k r ∧ r.1.length ≤ 1000) :
    Calls Try.prog 18 #[.slice a L.length c] w fun e w' => PreE (catP res []) w e w' := by
  have IH := Lib.hid ih
  have HA := Lib.hid ha
  have HN := Lib.hid hn
  have HC := Lib.hid (fun s b W => cut_any s b W)
  obtain ⟨RR, hRR⟩ : ∃ R, catP res [] = R := ⟨_, rfl⟩
  rw [hRR]
  have HR := Lib.hid hRR
  clear ih ha hn hRR
  go_enter Try.func18, Try.ntmps18
  go_wp2_with fail
  go_loopw [11, 4] (fun iv av wr => CatR L.length res w iv av wr) (fun iv _ _ => L.length - (intOf iv).toNat)
  case atStart => exact ⟨0, [], rfl, Nat.zero_le _, rfl, by simp, rfl, Keeps.refl _ _⟩
  case round =>
    obtain ⟨i, all, rfl, hi, rfl, hal, hct, hk⟩ := hrel
    have K := Lib.hid hk
    have CT := Lib.hid hct
    clear hk hct
    by_cases hil : i < L.length
    · obtain ⟨k, hki⟩ : ∃ k, L[i]? = some k := ⟨_, List.getElem?_eq_getElem hil⟩
      obtain ⟨⟨s, bw⟩, hri⟩ : ∃ r, res[i]? = some r := ⟨_, List.getElem?_eq_getElem (by rw [HN.out]; exact hil)⟩
      obtain ⟨b, off, uo, d1, f1, g1, um, ux, d2, f2, g2, rfl, hu, hlt, x0, x1, x2, x3, x4⟩ := (HA.out.keep K.out).at hki
      have hih := IH.out i k (s, bw) hki hri
      have hsl : s.length ≤ 1000 := hih.2
      have HS : Hid (∀ W, Keeps (fun _ => False) wr W → Calls Try.prog 8 #[.agg #[.int .i64 uo, .slice d1 f1 g1, .int .i64 um, .int .i64 ux, .slice d2 f2 g2]] W fun e w' => PreE (s, bw) W e w') := Lib.hid (fun W kW =>
        hih.1 P ⟨uo, .slice d1 f1 g1, um, ux, .slice d2 f2 g2⟩ W (hu.keepsTo kW (fun _ _ => id) (fun _ h => h)))
      have CS := Lib.hid (catP_step all hri)
      clear hki hri hu hih
      have hap := str_app all s
      unfold strL
      go_wp2_with fail
      refine (HS.out _ (by (repeat' (with_reducible first | exact Keeps.refl _ _ | assumption | refine Keeps.drawN ?_ _ | refine Keeps.drew ?_ | refine Keeps.setCell ?_ ?_ _ | refine Keeps.alloc ?_ _)) <;> (first | exact Or.inr (Nat.le_refl _) | exact Or.inl rfl | exact Or.inl (Or.inl rfl) | exact Or.inl (Or.inr rfl) | (right; simp; done) | (right; simp; omega)))).mono ?_
      rintro e w2 ⟨rfl, k2⟩
      have K2 : Hid (Keeps (fun _ => False) w w2) := Lib.hid (K.out.trans (Keeps.trans (by (repeat' (with_reducible first | exact Keeps.refl _ _ | assumption | refine Keeps.drawN ?_ _ | refine Keeps.drew ?_ | refine Keeps.setCell ?_ ?_ _ | refine Keeps.alloc ?_ _)) <;> (first | exact Or.inr (Nat.le_refl _) | exact Or.inl rfl | exact Or.inl (Or.inl rfl) | exact Or.inl (Or.inr rfl) | (right; simp; done) | (right; simp; omega))) k2))
      clear k2
      unfold strL
      by_cases hgt : 200 < (all ++ s).length
      · have g : decide ((200 : Int) < ((all.length : Int) + (s.length : Int))) = true := by simp at hgt ⊢; omega
        have E : Hid (RR = ((all ++ s).take 200, false)) := Lib.hid (by rw [← HR.out, ← CT.out, CS.out, if_pos (Or.inr hgt), if_pos hgt])
        have HCC := Lib.hid (fun W => HC.out (all ++ s) false W)
        rw [if_pos hgt] at HCC
        unfold strL at HCC
        clear hgt
        cases bw
        all_goals
          go_wp2_with fail
          refine (HCC.out _).mono ?_
          rintro e w3 ⟨rfl, k3⟩
          have K3 := Lib.hid (K2.out.trans k3)
          clear k3
          unfold strL
          go_wp2_with fail
          go_ret2
          exact ⟨by rw [E.out]; rfl, K3.out⟩
      · have g : decide ((200 : Int) < ((all.length : Int) + (s.length : Int))) = false := by simp at hgt ⊢; omega
        cases bw
        · have E : Hid (RR = (all ++ s, false)) := Lib.hid (by rw [← HR.out, ← CT.out, CS.out, if_pos (Or.inl rfl), if_neg hgt])
          have HCC := Lib.hid (fun W => HC.out (all ++ s) false W)
          rw [if_neg hgt] at HCC
          unfold strL at HCC
          clear hgt
          go_wp2_with fail
          refine (HCC.out _).mono ?_
          rintro e w3 ⟨rfl, k3⟩
          have K3 := Lib.hid (K2.out.trans k3)
          clear k3
          unfold strL
          go_wp2_with fail
          go_ret2
          exact ⟨by rw [E.out]; rfl, K3.out⟩
        · have E : Hid (catP (res.drop (i + 1)) (all ++ s) = RR) := Lib.hid (by rw [← HR.out, ← CT.out, CS.out, if_neg (by simp at hgt ⊢; omega)])
          have hal2 : (all ++ s).length ≤ 200 := by omega
          clear hgt
          go_wp2_with fail
          go_roundw
          case rel => exact ⟨i + 1, all ++ s, by go_num, by omega, rfl, hal2, by rw [E.out, HR.out], K2.out⟩
          case measure => simp [intOf]; omega
    · have he : i = L.length := by omega
      subst he
      have E : Hid (RR = (all, true)) := Lib.hid (by rw [← HR.out, ← CT.out, List.drop_eq_nil_of_le (by rw [HN.out]; omega)]; rfl)
      unfold strL
      go_wp2_with fail
      go_ret2
      exact ⟨by rw [E.out]; rfl, K.out⟩
set_option maxHeartbeats 2000000 in
theorem pre_cat (L : List T) (res : List (List UInt8 × Bool)) (hn : res.length = L.length) (ih : ∀ (i : Nat) (k : T) (r : List UInt8 × Bool), L[i]? = some k → res[i]? = some r → PreC k r ∧ r.1.length ≤ 1000) :
    PreC ⟨4, [], 0, 0, F.ofL L⟩ (catP res []) := by
  intro P v w ht
  obtain ⟨a1, n1, c1, a2, c2, e1, e2, hl, hc⟩ := ht.krow
  simp only [F.to_of] at e2 hl hc
  have HK := Lib.hid (fun W (K : Keeps (fun _ => False) w W) => cat_any P L res a2 c2 W (hc.keep K) hl hn ih)
  have o1 : v.op = 4 := ht.op
  obtain ⟨vo, vsv, vm, vx, vk⟩ := v
  obtain rfl := e1
  obtain rfl := e2
  obtain rfl := o1
  clear hl hc ht ih hn
  generalize catP res [] = R at *
  show Calls Try.prog 8 #[.agg #[.int .i64 4, .slice a1 n1 c1, .int .i64 vm, .int .i64 vx, .slice a2 L.length c2]] w _
  go_enter Try.func8, Try.ntmps8
  go_wp2_with fail
  refine (HK.out _ (by (repeat' (with_reducible first | exact Keeps.refl _ _ | assumption | refine Keeps.drawN ?_ _ | refine Keeps.drew ?_ | refine Keeps.setCell ?_ ?_ _ | refine Keeps.alloc ?_ _)) <;> (first | exact Or.inr (Nat.le_refl _) | exact Or.inl rfl | exact Or.inl (Or.inl rfl) | exact Or.inl (Or.inr rfl) | (right; simp; done) | (right; simp; omega)))).mono ?_
  rintro e w2 ⟨rfl, k2⟩
  have K2 : Hid (Keeps (fun _ => False) w w2) := Lib.hid (Keeps.trans (by (repeat' (with_reducible first | exact Keeps.refl _ _ | assumption | refine Keeps.drawN ?_ _ | refine Keeps.drew ?_ | refine Keeps.setCell ?_ ?_ _ | refine Keeps.alloc ?_ _)) <;> (first | exact Or.inr (Nat.le_refl _) | exact Or.inl rfl | exact Or.inl (Or.inl rfl) | exact Or.inl (Or.inr rfl) | (right; simp; done) | (right; simp; omega))) k2)
  clear k2
  unfold strL
  go_wp2_with fail
  go_ret2
  exact ⟨rfl, K2.out⟩
end Go.Proofs.Ytinogeobkljngaa
end
section
namespace Go.Proofs.Ytinogeobkljngaa
open Go.RowKit
set_option linter.unusedVariables false
set_option linter.unusedSimpArgs false
set_option maxRecDepth 100000

theorem copyCheckF_any (B b : Nat) (bs : List Value) (w : World) (h : Lib.IsBuilderF 85 5 B b bs w) :
    Calls Try.prog 60 #[.pointer (some ⟨b, 0, none⟩)] w fun e w' => e = .returned (.tuple #[]) ∧ (Lib.BuilderAtF 85 5 B b (.pointer (some ⟨b, 0, none⟩)) bs w' ∧ Below B w w') := by
  rcases h with h | h
  · refine (copyCheck_fresh b w h.cell0 h.shape h.frozen0).mono ?_
    rintro e w' ⟨rfl, rfl⟩
    exact ⟨rfl, h.used _, (Below.refl B w).setCell (p := ⟨b, 0, none⟩) h.1 _⟩
  · refine (copyCheck_used b w h.cell0).mono ?_
    rintro e w' ⟨rfl, rfl⟩
    exact ⟨rfl, h, Below.refl B _⟩
set_option maxHeartbeats 2000000 in
theorem writeStringF_any (B b : Nat) (bs : List Value) (s : ByteArray) (w : World) (h : Lib.IsBuilderF 85 5 B b bs w) (hlen : bs.length + s.size ≤ 140737488355328) (hBw : B ≤ w.heap.size) :
    Calls Try.prog 48 #[.pointer (some ⟨b, 0, none⟩), .string s] w fun e w' => e = .returned (.tuple #[.int .i64 s.size, .nilIface]) ∧ (Lib.BuilderAtF 85 5 B b (.pointer (some ⟨b, 0, none⟩)) (bs ++ Lib.strCells s) w' ∧ Below B w w') := by
  obtain ⟨i0, hi, hz0, hz1, hz2⟩ := info_parts info_u8
  go_enter Try.func48, Try.ntmps48
  go_wp2_with fail
  refine (copyCheckF_any B b bs _ h).mono ?_
  rintro e w1 ⟨rfl, h1, hb1⟩
  obtain ⟨hB, v, hbk, hown, hne⟩ := h1
  have c0 : w1.cell? ⟨b, 0, none⟩ = some (.pointer (some ⟨b, 0, none⟩)) := by rw [Lib.cell_of_heap hbk]; rfl
  have c1 : w1.cell? ⟨b, 1, none⟩ = some v := by rw [Lib.cell_of_heap hbk]; rfl
  go_wp2_with (at_builtin; refine Lib.wpList_append_own_stringF _ rfl _ _ 25 9 rfl B 5 i0 Try.underlying25 Try.underlying9 hi hz0 hz1 hz2 _ _ _ rfl hown s rfl ?c3 ?c4 ?c5 ?_)
  case c3 => unfold maxLen; omega
  case c4 => omega
  case c5 => have := hb1.size; omega
  intro v' w2 hown' hgrow _
  have hlt : b < w1.heap.size := by
    rcases Nat.lt_or_ge b w1.heap.size with h' | h'
    · exact h'
    · simp [Array.getElem?_eq_none h'] at hbk
  have hb2 : w2.heap[b]? = some (.cells #[.pointer (some ⟨b, 0, none⟩), v] 85 (0, 0)) := by
    rw [hgrow.block b hlt (fun e => hne e.symm)]
    exact hbk
  have d0 : w2.cell? ⟨b, 0, none⟩ = some (.pointer (some ⟨b, 0, none⟩)) := by rw [Lib.cell_of_heap hb2]; rfl
  have d1 : w2.cell? ⟨b, 1, none⟩ = some v := by rw [Lib.cell_of_heap hb2]; rfl
  have f1 : w2.frozen? ⟨b, 1, none⟩ = false := Lib.frozen_of_heap hb2 1
  obtain ⟨ao, n', cap, rfl⟩ : ∃ ao n' cap, v' = .slice ao n' cap := by
    rcases hown'.2 with ⟨hv, _⟩ | ⟨g, cap, cur, fz, hv, _⟩
    · exact ⟨_, _, _, hv⟩
    · exact ⟨_, _, _, hv⟩
  go_wp2
  go_ret2
  refine ⟨rfl, ?_, ?_⟩
  · exact Lib.BuilderAtF.put (T := 85) (e := 5) hB hb2 (bs' := bs ++ Lib.strCells s) (by simpa [Lib.strCells_length] using hown') (by decide)
  · exact (hb1.grown hgrow (by have := hb1.size; omega) (fun k hk => (hown.lt k hk).1)).setCell (p := ⟨b, 1, none⟩) hB _
theorem min_3 (W : World) (x y z : Int) : (Builtin.min_ #[3, 3, 3] 3 #[.int .i64 x, .int .i64 y, .int .i64 z]).run Try.prog W = .ok (.int .i64 (if z < (if y < x then y else x) then z else (if y < x then y else x))) W := by
  simp [Builtin.min_, Builtin.min2]
def RepR (w : World) (v : Value) (wr : World) : Prop :=
  ∃ l : List UInt8, ((intOf v = 0 ∧ l = [98]) ∨ (intOf v = 1 ∧ l = [98, 98])) ∧ Lib.IsBuilderF 85 5 w.heap.size w.heap.size (Lib.byteCells l) wr ∧ Below w.heap.size w wr
set_option maxHeartbeats 4000000 in
theorem repeat_bb (w : World) : Calls Try.prog 33 #[strL [98], .int .i64 2] w fun e w' => e = .returned (strL [98, 98]) ∧ Keeps (fun _ => False) w w' := by
  have HM := Lib.hid (fun W => Try.bits_Mul 1 2 (by omega) (by omega) W)
  have hx : ∀ h, (⟨#[98]⟩ : ByteArray)[0]'h = 98 := fun _ => rfl
  unfold strL
  go_enter Try.func33, Try.ntmps33
  go_wp2_with fail
  refine (HM.out _).mono ?_
  rintro e w0 ⟨rfl, rfl⟩
  go_wp2_with fail
  refine (Try.Builder_Grow_fresh w0.heap.size w0.heap.size 2 _ (Nat.le_refl _) (heap_alloc_new w0 _) (by simp) (by omega)).mono ?_
  rintro e w2 ⟨rfl, hB, hb2⟩
  have B2 : Hid (Below w0.heap.size w0 w2) := Lib.hid (((Below.refl _ w0).alloc (Nat.le_refl _) _).trans hb2)
  have H2 : Hid (Lib.IsBuilderF 85 5 w0.heap.size w0.heap.size [] w2) := Lib.hid (Or.inr (Lib.BuilderAtF.of hB))
  clear hB hb2
  go_wp2_with fail
  refine (writeStringF_any w0.heap.size w0.heap.size [] ⟨#[98]⟩ _ H2.out (by simp; decide) (by have := B2.out.size; omega)).mono ?_
  rintro e w3 ⟨rfl, hB, hb3⟩
  have B3 := Lib.hid (B2.out.trans hb3)
  have H3 : Hid (Lib.IsBuilderF 85 5 w0.heap.size w0.heap.size (Lib.byteCells [98]) w3) := Lib.hid (Or.inr hB)
  clear hB hb3
  go_wp2_with fail
  go_loopw [10] (fun v wr => RepR w0 v wr) (fun v _ => 1 - (intOf v).toNat)
  case atStart => exact ⟨[98], Or.inl ⟨rfl, rfl⟩, H3.out, B3.out⟩
  case round =>
    obtain ⟨l, hl, hB, hK⟩ := hrel
    have HB := Lib.hid hB
    have KB := Lib.hid hK
    have hsz := hK.size
    clear hB hK
    rcases hl with ⟨hv, rfl⟩ | ⟨hv, rfl⟩
    · have HV := Lib.hid hv
      have HLen : Hid (Calls Try.prog 49 #[.pointer (some ⟨w0.heap.size, 0, none⟩)] wr fun e w' => e = .returned (.int .i64 1) ∧ w' = wr) := Lib.hid (Try.Builder_Len_f w0.heap.size w0.heap.size (Lib.byteCells [98]) wr HB.out)
      clear hv
      go_wp2_with fail
      refine HLen.out.mono ?_
      rintro e w4 ⟨rfl, rfl⟩
      go_wp2_with fail
      refine HLen.out.mono ?_
      rintro e w5 ⟨rfl, rfl⟩
      go_wp2_with fail
      refine HLen.out.mono ?_
      rintro e w6 ⟨rfl, rfl⟩
      go_wp2_with fail
      refine (Try.Builder_String_any_f w0.heap.size w0.heap.size [98] _ HB.out hsz).mono ?_
      rintro e w5 ⟨rfl, hB5, hb5⟩
      have KB5 := Lib.hid (KB.out.trans hb5)
      have HB5 := Lib.hid hB5
      clear hB5 hb5
      have hex : (⟨#[98]⟩ : ByteArray).extract 0 1 = ⟨#[98]⟩ := rfl
      go_wp2_with fail
      refine (writeStringF_any w0.heap.size w0.heap.size (Lib.byteCells [98]) ⟨#[98]⟩ _ HB5.out (by decide) (by have := KB5.out.size; omega)).mono ?_
      rintro e w6 ⟨rfl, hB6, hb6⟩
      have KB6 := Lib.hid (KB5.out.trans hb6)
      have HB6 : Hid (Lib.IsBuilderF 85 5 w0.heap.size w0.heap.size (Lib.byteCells [98, 98]) w6) := Lib.hid (Or.inr hB6)
      clear hB6 hb6
      go_wp2_with fail
      go_roundw
      case rel => exact ⟨[98, 98], Or.inr ⟨rfl, rfl⟩, HB6.out, KB6.out⟩
      case measure => simp [intOf]; have := HV.out; simp [intOf] at this; omega
    · have HLen : Hid (Calls Try.prog 49 #[.pointer (some ⟨w0.heap.size, 0, none⟩)] wr fun e w' => e = .returned (.int .i64 2) ∧ w' = wr) := Lib.hid (Try.Builder_Len_f w0.heap.size w0.heap.size (Lib.byteCells [98, 98]) wr HB.out)
      clear hv
      go_wp2_with fail
      refine HLen.out.mono ?_
      rintro e w4 ⟨rfl, rfl⟩
      go_wp2_with fail
      refine (Try.Builder_String_any_f w0.heap.size w0.heap.size [98, 98] _ HB.out hsz).mono ?_
      rintro e w5 ⟨rfl, hB5, hb5⟩
      have KB5 := Lib.hid (KB.out.trans hb5)
      clear hB5 hb5
      go_wp2_with fail
      go_ret
      exact ⟨rfl, Keeps.ofBelowAll KB5.out _⟩
end Go.Proofs.Ytinogeobkljngaa
end
section
namespace Go.Proofs.Ytinogeobkljngaa
open Go.RowKit
set_option linter.unusedVariables false
set_option linter.unusedSimpArgs false
set_option maxRecDepth 100000

set_option maxHeartbeats 4000000 in
theorem rep_bb (P : Nat → Prop) (a1 a : Option Addr) (n1 c1 c : Nat) (w : World) (ha : KRow w P a [charT [(98, 98)]]) :
    Calls Try.prog 20 #[.agg #[.int .i64 6, .slice a1 n1 c1, .int .i64 2, .int .i64 2, .slice a 1 c]] w fun e w' => PreE ([98, 98], true) w e w' := by
  obtain ⟨b, off, uo, d1, f1, g1, um, ux, d2, f2, g2, rfl, hu, hlt, x0, x1, x2, x3, x4⟩ := ha.at (i := 0) rfl
  simp only [Nat.zero_mul, Nat.add_zero] at x0 x1 x2 x3 x4
  have HS : Hid (∀ W, Keeps (fun _ => False) w W → Calls Try.prog 8 #[.agg #[.int .i64 uo, .slice d1 f1 g1, .int .i64 um, .int .i64 ux, .slice d2 f2 g2]] W fun e w' => PreE ([98], true) W e w') := Lib.hid (fun W kW =>
    pre_char 98 (by decide) P ⟨uo, .slice d1 f1 g1, um, ux, .slice d2 f2 g2⟩ W (hu.keepsTo kW (fun _ _ => id) (fun _ h => h)))
  have HR := Lib.hid (fun W => repeat_bb W)
  have HC := Lib.hid (fun W => cut_any [98, 98] true W)
  rw [if_neg (by decide)] at HC
  unfold strL at HC HR
  clear ha hu
  go_enter Try.func20, Try.ntmps20
  go_wp2_with fail
  refine (HS.out _ (by (repeat' (with_reducible first | exact Keeps.refl _ _ | assumption | refine Keeps.drawN ?_ _ | refine Keeps.drew ?_ | refine Keeps.setCell ?_ ?_ _ | refine Keeps.alloc ?_ _)) <;> (first | exact Or.inr (Nat.le_refl _) | exact Or.inl rfl | exact Or.inl (Or.inl rfl) | exact Or.inl (Or.inr rfl) | (right; simp; done) | (right; simp; omega)))).mono ?_
  rintro e w2 ⟨rfl, k2⟩
  have c2 : w2.cell? ⟨w.heap.size, 2, none⟩ = some (.int .i64 2) := k2.cell (by simp [go_sem]) id
  have c3 : w2.cell? ⟨w.heap.size, 3, none⟩ = some (.int .i64 2) := k2.cell (by simp [go_sem]) id
  have hK2 : Keeps (fun _ => False) w w2 := Keeps.trans (by (repeat' (with_reducible first | exact Keeps.refl _ _ | assumption | refine Keeps.drawN ?_ _ | refine Keeps.drew ?_ | refine Keeps.setCell ?_ ?_ _ | refine Keeps.alloc ?_ _)) <;> (first | exact Or.inr (Nat.le_refl _) | exact Or.inl rfl | exact Or.inl (Or.inl rfl) | exact Or.inl (Or.inr rfl) | (right; simp; done) | (right; simp; omega))) k2
  have hk0 : Keeps (fun _ => False) w2 w2.drew := (Keeps.refl _ _).drew
  have HR2 := Lib.hid (fun W (K : Keeps (fun _ => False) w2 W) => (HR.out W).mono (fun e w' h => (⟨h.1, K.trans h.2⟩ : _ ∧ Keeps (fun _ => False) w2 w')))
  have HC2 := Lib.hid (fun W (K : Keeps (fun _ => False) w2 W) => (HC.out W).mono (fun e w' h => (⟨h.1, K.trans h.2⟩ : _ ∧ Keeps (fun _ => False) w2 w')))
  clear HR HC
  have e2 : w2.drew.cell? ⟨w.heap.size, 2, none⟩ = some (.int .i64 2) := c2
  have e3 : w2.drew.cell? ⟨w.heap.size, 3, none⟩ = some (.int .i64 2) := c3
  clear k2
  unfold strL
  go_wp2_with fail
  go_region_held3 (fun w' => w'.cell? ⟨w.heap.size, 2, none⟩ = some (.int .i64 2) ∧ w'.cell? ⟨w.heap.size, 3, none⟩ = some (.int .i64 2) ∧ Keeps (fun _ => False) w2 w') (first | exact ⟨e2, e3, hk0⟩ | exact ⟨Keeps.cell (by assumption) c2 id, Keeps.cell (by assumption) c3 id, by assumption⟩)
    (first | (go_at_call 33; refine (HR2.out _ ?_).mono ?_; exact (by assumption : _ ∧ _ ∧ _).2.2; rintro e w' ⟨rfl, hkn⟩) | (go_at_call 31; refine (HC2.out _ ?_).mono ?_; exact (by assumption : _ ∧ _ ∧ _).2.2; rintro e w' ⟨rfl, hkn⟩))
  all_goals
    go_wp2_with fail
    go_ret2
    exact ⟨rfl, hK2.trans hkn⟩
set_option maxHeartbeats 2000000 in
theorem pre_bb : PreC ⟨6, [], 2, 2, F.ofL [charT [(98, 98)]]⟩ ([98, 98], true) := by
  intro P v w ht
  obtain ⟨a1, n1, c1, a2, c2, e1, e2, hl, hc⟩ := ht.krow
  simp only [F.to_of] at e2 hl hc
  have HK := Lib.hid (fun W (K : Keeps (fun _ => False) w W) => rep_bb P a1 a2 n1 c1 c2 W (hc.keep K))
  have o1 : v.op = 6 := ht.op
  have o2 : v.mn = 2 := ht.mn
  have o3 : v.mx = 2 := ht.mx
  obtain ⟨vo, vsv, vm, vx, vk⟩ := v
  obtain rfl := e1
  obtain rfl := e2
  obtain rfl := o1
  obtain rfl := o2
  obtain rfl := o3
  clear hl hc ht
  show Calls Try.prog 8 #[.agg #[.int .i64 6, .slice a1 n1 c1, .int .i64 2, .int .i64 2, .slice a2 1 c2]] w _
  go_enter Try.func8, Try.ntmps8
  go_wp2_with fail
  refine (HK.out _ (by (repeat' (with_reducible first | exact Keeps.refl _ _ | assumption | refine Keeps.drawN ?_ _ | refine Keeps.drew ?_ | refine Keeps.setCell ?_ ?_ _ | refine Keeps.alloc ?_ _)) <;> (first | exact Or.inr (Nat.le_refl _) | exact Or.inl rfl | exact Or.inl (Or.inl rfl) | exact Or.inl (Or.inr rfl) | (right; simp; done) | (right; simp; omega)))).mono ?_
  rintro e w2 ⟨rfl, k2⟩
  have K2 : Hid (Keeps (fun _ => False) w w2) := Lib.hid (Keeps.trans (by (repeat' (with_reducible first | exact Keeps.refl _ _ | assumption | refine Keeps.drawN ?_ _ | refine Keeps.drew ?_ | refine Keeps.setCell ?_ ?_ _ | refine Keeps.alloc ?_ _)) <;> (first | exact Or.inr (Nat.le_refl _) | exact Or.inl rfl | exact Or.inl (Or.inl rfl) | exact Or.inl (Or.inr rfl) | (right; simp; done) | (right; simp; omega))) k2)
  clear k2
  unfold strL
  go_wp2_with fail
  go_ret2
  exact ⟨rfl, K2.out⟩
end Go.Proofs.Ytinogeobkljngaa
end
