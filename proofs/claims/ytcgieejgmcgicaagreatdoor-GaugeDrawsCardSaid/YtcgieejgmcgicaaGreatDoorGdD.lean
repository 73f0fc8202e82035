/-
  GaugeDraws: a row that takes one element more; the walks of gauge.drawn and gauge.Draw. No condition.
-/
import Derived.Test.YtcgieejgmcgicaaGreatDoorGdC
import Derived.Test.YtcgieejgmcgicaaGreatDoorPaSjA
import Derived.Test.YtcgieejgmcgicaaGreatDoorSetEnds
namespace Go.Proofs.YtcgieejgmcgicaaGreatDoor
open Go.RowKit
set_option linter.unusedVariables false
set_option linter.unusedSimpArgs false
set_option maxRecDepth 100000

theorem info_strG : (Tryz.prog.info? 9).map (fun i => (i.zero, i.size, i.bytes)) = some (some (.string ⟨#[]⟩), 1, 16) := by kernel_rfl
theorem wpList_one_int {w : World} {ops : Array Oper} {rest : List Oper} {o : Oper} {a : Act} {Q : Exit → Act → World → Prop} (hgd : o.guard = none) (s x : Operand)
    (ho : o.op = .call { callee := .builtin .append, args := #[s, x], argTypes := #[23, 23] })
    (W0 : World) (v : Value) (xs : List Value) (V : Int) (hs : a.eval s = v) (hown : w.ownsRow W0.heap.size 3 1 v xs.length xs)
    (hx : a.eval x = .slice (some ⟨w.heap.size, 0, none⟩) 1 1) (hl : xs.length ≤ 100000) (hk : Keeps (fun _ => False) W0 w)
    (h : ∀ v' w', w'.ownsRow W0.heap.size 3 1 v' (xs ++ [Value.int .i64 V]).length (xs ++ [.int .i64 V]) → Keeps (fun _ => False) W0 w' → wpList Tryz.prog ops Q rest (a.put o.dst v') w') :
    wpList Tryz.prog ops Q (o :: rest) a (w.alloc (.cells #[.int .i64 V] 3)) := by
  obtain ⟨i0, hi, hz0, hz1, hz2⟩ := info_parts info_int
  have hsz := hk.size
  refine wpList_append_own _ hgd s x 23 ho W0.heap.size 3 i0 _ 1 8 Tryz.underlying23 hi hz0 hz1 hz2 rfl (by decide) v _ xs hs (ownsRow_alloc hown _) ⟨w.heap.size, 0, none⟩ 1 1 [.int .i64 V] hx rfl (cells_new w [Value.int .i64 V] _) (by intro u hu; simp at hu; subst hu; rfl) (by unfold maxLen; omega) (by omega) (by simp; omega) (fun v' w' h1 h2 _ => h v' w' (by simpa using h1) ?_)
  exact (hk.alloc (.cells #[.int .i64 V] 3)).trans2 ((Keeps.refl (fun b => W0.heap.size ≤ b) _).grown h2 (fun b hb => Or.inl (ownBlock_base hown b hb))) (fun i hi e => by omega)
theorem wpList_one_str {w : World} {ops : Array Oper} {rest : List Oper} {o : Oper} {a : Act} {Q : Exit → Act → World → Prop} (hgd : o.guard = none) (s x : Operand)
    (ho : o.op = .call { callee := .builtin .append, args := #[s, x], argTypes := #[22, 22] })
    (W0 : World) (v : Value) (xs : List Value) (b : ByteArray) (hs : a.eval s = v) (hown : w.ownsRow W0.heap.size 9 1 v xs.length xs)
    (hx : a.eval x = .slice (some ⟨w.heap.size, 0, none⟩) 1 1) (hl : xs.length ≤ 100000) (hk : Keeps (fun _ => False) W0 w)
    (h : ∀ v' w', w'.ownsRow W0.heap.size 9 1 v' (xs ++ [Value.string b]).length (xs ++ [.string b]) → Keeps (fun _ => False) W0 w' → wpList Tryz.prog ops Q rest (a.put o.dst v') w') :
    wpList Tryz.prog ops Q (o :: rest) a (w.alloc (.cells #[.string b] 9)) := by
  obtain ⟨i0, hi, hz0, hz1, hz2⟩ := info_parts info_strG
  have hsz := hk.size
  refine wpList_append_own _ hgd s x 22 ho W0.heap.size 9 i0 _ 1 16 Tryz.underlying22 hi hz0 hz1 hz2 rfl (by decide) v _ xs hs (ownsRow_alloc hown _) ⟨w.heap.size, 0, none⟩ 1 1 [.string b] hx rfl (cells_new w [Value.string b] _) (by intro u hu; simp at hu; subst hu; rfl) (by unfold maxLen; omega) (by omega) (by simp; omega) (fun v' w' h1 h2 _ => h v' w' (by simpa using h1) ?_)
  exact (hk.alloc (.cells #[.string b] 9)).trans2 ((Keeps.refl (fun b => W0.heap.size ≤ b) _).grown h2 (fun b hb => Or.inl (ownBlock_base hown b hb))) (fun i hi e => by omega)
theorem itoa_natG (m : Nat) : Lib.itoa (m : Int) = Lib.decDigits m := by
  unfold Lib.itoa
  rw [if_neg (by omega)]; simp
/-- The lines, as far as i. -/
def linesN (l : List Int) (K : Nat) (i : Nat) : List Value := (List.range i).map fun j => strL (lineN (clAt l j) K)
theorem linesN_len (l : List Int) (K i : Nat) : (linesN l K i).length = i := by simp [linesN]
theorem linesN_succ (l : List Int) (K i : Nat) : linesN l K (i + 1) = linesN l K i ++ [strL (lineN (clAt l i) K)] := by simp [linesN, List.range_succ]
theorem dig_ne (n : Nat) : (⟨Array.replicate (n + 1) (35 : UInt8)⟩ : ByteArray).toList.isEmpty = false := by
  rw [ByteArray.toList_eq]
  simp [List.replicate_succ]
theorem bar_txt (D : List UInt8) (n : Nat) : Value.string ((⟨D.toArray⟩ : ByteArray) ++ ((⟨#[32]⟩ : ByteArray) ++ ⟨(List.replicate n 35).toArray⟩)) = strL (D ++ 32 :: List.replicate n 35) := by
  unfold strL
  refine congrArg Value.string ?_
  apply ByteArray.ext
  simp
set_option maxHeartbeats 4000000 in
theorem drawn_any (l : List Int) (v : Value) (w : World) (h : ISl w v (clL l)) (hl : l.length ≤ 1000) (ht : TabW w) :
    Calls Tryz.prog 70 #[v] w fun e w' => ∃ u, e = .returned u ∧ w'.ownsRow w.heap.size 9 1 u l.length (linesN l (scaleN l l.length) l.length) ∧ Keeps (fun _ => False) w w' := by
  have HS := Lib.hid (scale_any l v w h)
  obtain ⟨a, cap, rfl, hl2, hc⟩ := ISl.cells h
  rw [clL_len] at hl2 hc HS
  rw [clL_len]
  have Hc := Lib.hid hc
  have HT := Lib.hid ht
  have hs1 := scale_pos l l.length
  have hs2 := scale_le l l.length
  have HE := Lib.hid (fun m (hm : m < l.length) => scale_enough l hm)
  generalize scaleN l l.length = K at *
  clear hc h ht
  go_enter Tryz.func70, Tryz.ntmps70
  go_wp2_with fail
  refine HS.out.mono ?_
  rintro e w' ⟨rfl, rfl⟩
  go_wp2_with fail
  go_loopw [4, 13] (fun ov i wr => ∃ m : Nat, m ≤ l.length ∧ i = .int .i64 m ∧ wr.ownsRow w.heap.size 9 1 ov m (linesN l K m) ∧ Keeps (fun _ => False) w wr) (fun _ i _ => l.length - (intOf i).toNat)
  case atStart => exact ⟨0, Nat.zero_le _, rfl, World.ownsRow_nil _ _ _ _, Keeps.refl _ _⟩
  case round =>
    obtain ⟨m, hm, rfl, hown, hk⟩ := hrel
    have HO := Lib.hid hown
    have HK := Lib.hid hk
    by_cases hlt : m < l.length
    · obtain ⟨b, off, rfl, hb, hcc⟩ := Hc.out (by omega)
      have c0 := hk.cell (hcc m hlt) id
      rw [clL_at l hlt] at c0
      have HE2 := Lib.hid (HE.out m hlt)
      have hcl := clAt_le l m
      have HL := Lib.hid (linesN_succ l K m)
      have hll := linesN_len l K m
      have hbk := HE2.out
      generalize clAt l m = C at *
      have HI := Lib.hid (itoa_any (C : Int) wr (by unfold in64; omega) (HT.out.keeps hk))
      rw [itoa_natG] at HI
      have hdl := decDigits_short C 19 (by omega)
      have HB := Lib.hid (fun W => bar_any C K W hcl hs1 hs2 hbk)
      have hbl := bar_le hs1 hbk
      have HN : Hid (lineN C K = Lib.decDigits C ++ (if C = 0 then [] else 32 :: List.replicate (barN C K) 35)) := Lib.hid rfl
      have hz : C = 0 ↔ barN C K = 0 := by have := @bar_pos C K; omega
      have HZ := Lib.hid hz
      generalize Lib.decDigits C = D at *
      generalize barN C K = B at *
      generalize lineN C K = LN at *
      clear hcc hk hown hbk hz
      unfold strL at HI HB
      go_wp2_with fail
      refine HI.out.mono ?_
      rintro e w1 ⟨rfl, k1⟩
      have K1 := Lib.hid (HK.out.trans k1)
      have O1 := Lib.hid (ownsRow_keeps HO.out k1 (fun _ _ => id))
      clear k1
      go_wp2_with fail
      refine (HB.out _).mono ?_
      rintro e w2 ⟨rfl, k2⟩
      have K2 := Lib.hid (K1.out.trans k2)
      have O2 := Lib.hid (ownsRow_keeps O1.out k2 (fun _ _ => id))
      clear k2
      cases B with
      | zero =>
        have HN2 : Hid (LN = D) := Lib.hid (by rw [HN.out, if_pos (HZ.out.2 rfl), List.append_nil])
        go_wp2_with (at_builtin; refine wpList_one_str rfl _ _ rfl w _ _ _ rfl (by rw [hll]; exact O2.out) rfl (by omega) K2.out ?_)
        intro v' w3 hown' hk3
        go_wp2_with fail
        go_roundw
        case rel => exact ⟨m + 1, by omega, by go_num, by rw [HL.out, HN2.out]; unfold strL; simpa [hll] using hown', hk3⟩
        case measure => (simp [intOf] <;> omega)
      | succ B =>
        have g := dig_ne B
        have HN2 : Hid (LN = D ++ 32 :: List.replicate (B + 1) 35) := Lib.hid (by rw [HN.out, if_neg (fun e => by have := HZ.out.1 e; omega)])
        go_wp2_with (at_builtin; refine wpList_one_str rfl _ _ rfl w _ _ _ rfl (by rw [hll]; exact O2.out) rfl (by omega) K2.out ?_)
        intro v' w3 hown' hk3
        go_wp2_with fail
        go_roundw
        case rel => exact ⟨m + 1, by omega, by go_num, by rw [HL.out, HN2.out, ← bar_txt]; simpa [hll] using hown', hk3⟩
        case measure => (simp [intOf] <;> omega)
    · have : m = l.length := by omega
      subst this
      go_wp2_with fail
      go_ret
      exact ⟨_, rfl, HO.out, HK.out⟩
end Go.Proofs.YtcgieejgmcgicaaGreatDoor
