/-
  The parser's escape, point.
-/
import Derived.Test.YtinogeobkljngaaGreatDoorMg9
namespace Go.Proofs.YtinogeobkljngaaGreatDoor
open Go.RowKit
set_option linter.unusedVariables false
set_option linter.unusedSimpArgs false
set_option maxRecDepth 100000

theorem ownsRow_keeps {S : Nat → Prop} {w w' : World} {base : Nat} {e : TypeId} {size : Nat} {v : Value} {n : Nat} {xs : List Value} (h : w.ownsRow base e size v n xs) (K : Keeps S w w') (hs : ∀ b, v.ownBlock = some b → ¬ S b) : w'.ownsRow base e size v n xs := by
  refine ⟨h.1, ?_⟩
  rcases h.2 with h0 | ⟨g, cap, cur, rfl, hg, hh, hr⟩
  · exact Or.inl h0
  · exact Or.inr ⟨g, cap, cur, rfl, hg, K.heap hh (hs g rfl), hr⟩
theorem own_fresh {w w' : World} {pb : Nat} {base : Nat} {e : TypeId} {size : Nat} {v : Value} {n : Nat} {xs : List Value} (h : w.ownsRow base e size v n xs) (K : Keeps (OnlyP pb) w w') (hb : pb < base) : w'.ownsRow base e size v n xs :=
  ownsRow_keeps h K (fun b hb' e => by have := ownBlock_base h b hb'; have e : b = pb := e; omega)

theorem one_u (r : Int) (w : World) : Calls Tryz.prog 63 #[.int .i64 r] w fun e w' => ∃ u, e = .returned u ∧ ROwn w w' u [(r, r)] :=
  (one_any r w).mono (fun e w1 h => ⟨_, h.1, h.2⟩)
def namedL (r : Int) : List (Int × Int) :=
  if r = 100 then [(48, 57)] else if r = 119 then [(48, 57), (65, 90), (95, 95), (97, 122)] else if r = 115 then [(9, 13), (32, 32)]
  else if r = 68 then [(0, 47), (58, 1114111)] else if r = 87 then [(0, 47), (58, 64), (91, 94), (96, 96), (123, 1114111)] else [(0, 8), (14, 31), (33, 1114111)]
def isNam (r : Int) : Prop := r = 100 ∨ r = 119 ∨ r = 115 ∨ r = 68 ∨ r = 87 ∨ r = 83
def sgL : List UInt8 := [46, 94, 36, 124, 40, 41, 91, 93, 123, 125, 42, 43, 63, 92]
def dwL : List UInt8 := [100, 119, 115, 68, 87, 83]
def npL : List UInt8 := [91, 93, 94, 45]
theorem amg_out (al : List UInt8) (r : Int) (h : ¬ (0 ≤ r ∧ r < 128)) : amg al r = false := by
  unfold amg
  rcases (by omega : r < 0 ∨ 0 ≤ r) with h0 | h0
  · rw [show decide (0 ≤ r) = false from by simpa using h0]; rfl
  · rw [show decide (r < 128) = false from by simp; omega]; simp
instance (r : Int) : Decidable (isNam r) := by unfold isNam; infer_instance
theorem amg_dw (r : Int) : amg dwL r = decide (isNam r) := by
  have key : ∀ c : Fin 128, amg dwL (c.val : Int) = decide (isNam (c.val : Int)) := of_decide_eq_true (by kernel_rfl)
  by_cases h : 0 ≤ r ∧ r < 128
  · have := key ⟨r.toNat, by omega⟩
    simpa [Int.toNat_of_nonneg h.1] using this
  · rw [amg_out _ _ h]; symm; simp only [decide_eq_false_iff_not]; unfold isNam; omega
theorem named_any (r : Int) (w : World) (h : isNam r) :
    Calls Tryz.prog 77 #[.int .u8 r] w fun e w' => ∃ u, e = .returned (.tuple #[u, .bool true]) ∧ ROwn w w' u (namedL r) ∧ (namedL r).length ≤ 5 := by
  rcases h with rfl | rfl | rfl | rfl | rfl | rfl
  · refine (setNamed_100 w).mono ?_
    rintro e w1 ⟨u, out, rfl, ho, hr, hl⟩
    obtain rfl : out = namedL 100 := norm_unique _ _ ho.1 (by simp [namedL, Norm]) (fun r => by
      rw [ho.2]; apply Bool.eq_iff_iff.2; simp [has, mem, inAll, namedL]; omega)
    exact ⟨u, rfl, hr, hl⟩
  · refine (setNamed_119 w).mono ?_
    rintro e w1 ⟨u, out, rfl, ho, hr, hl⟩
    obtain rfl : out = namedL 119 := norm_unique _ _ ho.1 (by simp [namedL, Norm]) (fun r => by
      rw [ho.2]; apply Bool.eq_iff_iff.2; simp [has, mem, inAll, namedL]; omega)
    exact ⟨u, rfl, hr, hl⟩
  · refine (setNamed_115 w).mono ?_
    rintro e w1 ⟨u, out, rfl, ho, hr, hl⟩
    obtain rfl : out = namedL 115 := norm_unique _ _ ho.1 (by simp [namedL, Norm]) (fun r => by
      rw [ho.2]; apply Bool.eq_iff_iff.2; simp [has, mem, inAll, namedL]; omega)
    exact ⟨u, rfl, hr, hl⟩
  · refine (setNamed_68 w).mono ?_
    rintro e w1 ⟨u, out, rfl, ho, hr, hl⟩
    obtain rfl : out = namedL 68 := norm_unique _ _ ho.1 (by simp [namedL, Norm]) (fun r => by
      rw [ho.2]; apply Bool.eq_iff_iff.2; simp [has, mem, inAll, namedL]; omega)
    exact ⟨u, rfl, hr, hl⟩
  · refine (setNamed_87 w).mono ?_
    rintro e w1 ⟨u, out, rfl, ho, hr, hl⟩
    obtain rfl : out = namedL 87 := norm_unique _ _ ho.1 (by simp [namedL, Norm]) (fun r => by
      rw [ho.2]; apply Bool.eq_iff_iff.2; simp [has, mem, inAll, namedL]; omega)
    exact ⟨u, rfl, hr, hl⟩
  · refine (setNamed_83 w).mono ?_
    rintro e w1 ⟨u, out, rfl, ho, hr, hl⟩
    obtain rfl : out = namedL 83 := norm_unique _ _ ho.1 (by simp [namedL, Norm]) (fun r => by
      rw [ho.2]; apply Bool.eq_iff_iff.2; simp [has, mem, inAll, namedL]; omega)
    exact ⟨u, rfl, hr, hl⟩

/-- What stands behind a backslash. -/
def escR (r : Int) : Int := if r = 110 then 10 else if r = 114 then 13 else if r = 116 then 9 else r
def escBad (r : Int) : Bool := !(decide (r = 110) || decide (r = 114) || decide (r = 116)) && (!amg sgL r && !decide (r = 45))
def escL (rs : List Int) (s : PS) : List (Int × Int) := if isNam (pk rs s) then namedL (pk rs s) else [(escR (pk rs s), escR (pk rs s))]
def escB (rs : List Int) (s : PS) : Bool := !decide (isNam (pk rs s))
def escS (rs : List Int) (s : PS) : PS :=
  if isNam (pk rs s) then nx rs s else ⟨s.pos + 1, s.deep, (nx rs s).bad || escBad (pk rs s)⟩

set_option maxHeartbeats 4000000 in
theorem escape_any (w : World) (pb : Nat) (rv : Value) (rs : List Int) (s : PS) (h : PaAt w pb rv rs s) (hp : s.pos + 1 ≤ 1000000) :
    Calls Tryz.prog 65 #[.pointer (some ⟨pb, 0, none⟩)] w fun e w' => ∃ u, e = .returned (.tuple #[u, .bool (escB rs s)]) ∧
      w'.ownsRow w.heap.size 61 2 u (escL rs s).length (cellsOf 2 encR (escL rs s)) ∧ PaAt w' pb rv rs (escS rs s) ∧ Keeps (OnlyP pb) w w' := by
  have hpb := h.lt
  have HN := Lib.hid (next_any w pb rv rs s h hp)
  have hr := pk_le h
  clear h
  by_cases hn : isNam (pk rs s)
  · have hL : Hid (escL rs s = namedL (pk rs s)) := Lib.hid (if_pos hn)
    have hB : Hid (escB rs s = false) := Lib.hid (by simp [escB, hn])
    have hS : Hid (escS rs s = nx rs s) := Lib.hid (if_pos hn)
    have hA : amg dwL (pk rs s) = true := by rw [amg_dw]; simpa using hn
    have HA := Lib.hid (fun W => among_any ⟨#[100, 119, 115, 68, 87, 83]⟩ (pk rs s) W)
    have hA2 : amg (#[100, 119, 115, 68, 87, 83] : Array UInt8).toList (pk rs s) = true := hA
    have HM := Lib.hid (fun W => named_any (pk rs s) W hn)
    have hw8 : IntKind.u8.wrap (pk rs s) = pk rs s := by rcases hn with e | e | e | e | e | e <;> rw [e] <;> rfl
    rw [hA2] at HA
    clear hA hA2 hn
    generalize pk rs s = r at *
    go_enter Tryz.func65, Tryz.ntmps65
    go_wp2_with fail
    refine HN.out.mono ?_
    rintro e w1 ⟨rfl, h1, k1⟩
    have H1 := Lib.hid h1
    have K1 := Lib.hid k1
    clear h1 k1
    go_wp2_with fail
    refine (HA.out _).mono ?_
    rintro e w2 ⟨rfl, rfl⟩
    go_wp2_with fail
    refine (HM.out _).mono ?_
    rintro e w3 ⟨u, rfl, hr3, hl3⟩
    have R3 := Lib.hid hr3
    clear hr3
    go_wp2_with fail
    go_ret2
    refine ⟨u, by rw [hB.out]; rfl, ?_, ?_, K1.out.trans (R3.out.2.mono (fun _ _ e => e.elim))⟩
    · rw [hL.out]; exact ownsRow_base R3.out.1 K1.out.size
    · rw [hS.out]; exact H1.out.keepsF R3.out.2
  · have hB : Hid (escB rs s = true) := Lib.hid (by simp [escB, hn])
    have hA2 : amg (#[100, 119, 115, 68, 87, 83] : Array UInt8).toList (pk rs s) = false := by
      show amg dwL _ = _
      rw [amg_dw]; simpa using hn
    have HA := Lib.hid (fun W => among_any ⟨#[100, 119, 115, 68, 87, 83]⟩ (pk rs s) W)
    have HG := Lib.hid (fun W => among_any ⟨#[46, 94, 36, 124, 40, 41, 91, 93, 123, 125, 42, 43, 63, 92]⟩ (pk rs s) W)
    rw [hA2] at HA
    have hL : Hid (escL rs s = [(escR (pk rs s), escR (pk rs s))]) := Lib.hid (if_neg hn)
    have hS : Hid (escS rs s = ⟨s.pos + 1, s.deep, (nx rs s).bad || escBad (pk rs s)⟩) := Lib.hid (if_neg hn)
    have hnx : Hid (nx rs s = ⟨s.pos + 1, s.deep, (nx rs s).bad⟩) := Lib.hid rfl
    generalize nx rs s = s1 at *
    generalize pk rs s = r at *
    clear hA2 hn
    by_cases h110 : r = 110
    · subst h110
      replace hS : Hid (escS rs s = s1) := Lib.hid (by rw [hS.out, hnx.out]; simp [escBad])
      replace hL : Hid (escL rs s = [(10, 10)]) := hL
      clear HG
      go_enter Tryz.func65, Tryz.ntmps65
      go_wp2_with fail
      refine HN.out.mono ?_
      rintro e w1 ⟨rfl, h1, k1⟩
      have c3 := h1.c3
      have f3 := h1.fr 3
      have hb1 := h1.lt
      have H1 := Lib.hid h1
      have K1 := Lib.hid k1
      clear h1 k1
      go_wp2_with fail
      refine (HA.out _).mono ?_
      rintro e w2 ⟨rfl, rfl⟩
      go_wp2_with fail
      refine (one_u _ _).mono ?_
      rintro e w3 ⟨u, rfl, hr3⟩
      have R3 := Lib.hid hr3
      clear hr3
      go_wp2_with fail
      go_ret2
      refine ⟨u, by rw [hB.out]; rfl, ?_, ?_, K1.out.trans (R3.out.2.mono (fun _ _ e => e.elim))⟩
      · rw [hL.out]; exact ownsRow_base R3.out.1 (K1.out.size)
      · rw [hS.out]; exact (H1.out).keepsF R3.out.2
    by_cases h114 : r = 114
    · subst h114
      replace hS : Hid (escS rs s = s1) := Lib.hid (by rw [hS.out, hnx.out]; simp [escBad])
      replace hL : Hid (escL rs s = [(13, 13)]) := hL
      clear HG
      go_enter Tryz.func65, Tryz.ntmps65
      go_wp2_with fail
      refine HN.out.mono ?_
      rintro e w1 ⟨rfl, h1, k1⟩
      have c3 := h1.c3
      have f3 := h1.fr 3
      have hb1 := h1.lt
      have H1 := Lib.hid h1
      have K1 := Lib.hid k1
      clear h1 k1
      go_wp2_with fail
      refine (HA.out _).mono ?_
      rintro e w2 ⟨rfl, rfl⟩
      go_wp2_with fail
      refine (one_u _ _).mono ?_
      rintro e w3 ⟨u, rfl, hr3⟩
      have R3 := Lib.hid hr3
      clear hr3
      go_wp2_with fail
      go_ret2
      refine ⟨u, by rw [hB.out]; rfl, ?_, ?_, K1.out.trans (R3.out.2.mono (fun _ _ e => e.elim))⟩
      · rw [hL.out]; exact ownsRow_base R3.out.1 (K1.out.size)
      · rw [hS.out]; exact (H1.out).keepsF R3.out.2
    by_cases h116 : r = 116
    · subst h116
      replace hS : Hid (escS rs s = s1) := Lib.hid (by rw [hS.out, hnx.out]; simp [escBad])
      replace hL : Hid (escL rs s = [(9, 9)]) := hL
      clear HG
      go_enter Tryz.func65, Tryz.ntmps65
      go_wp2_with fail
      refine HN.out.mono ?_
      rintro e w1 ⟨rfl, h1, k1⟩
      have c3 := h1.c3
      have f3 := h1.fr 3
      have hb1 := h1.lt
      have H1 := Lib.hid h1
      have K1 := Lib.hid k1
      clear h1 k1
      go_wp2_with fail
      refine (HA.out _).mono ?_
      rintro e w2 ⟨rfl, rfl⟩
      go_wp2_with fail
      refine (one_u _ _).mono ?_
      rintro e w3 ⟨u, rfl, hr3⟩
      have R3 := Lib.hid hr3
      clear hr3
      go_wp2_with fail
      go_ret2
      refine ⟨u, by rw [hB.out]; rfl, ?_, ?_, K1.out.trans (R3.out.2.mono (fun _ _ e => e.elim))⟩
      · rw [hL.out]; exact ownsRow_base R3.out.1 (K1.out.size)
      · rw [hS.out]; exact (H1.out).keepsF R3.out.2
    have hR : escR r = r := by unfold escR; rw [if_neg h110, if_neg h114, if_neg h116]
    have hBd : escBad r = (!amg sgL r && !decide (r = 45)) := by unfold escBad; simp [h110, h114, h116]
    rw [hR] at hL
    rw [hBd] at hS
    have HG' : Hid (∀ W, Calls Tryz.prog 66 #[.string ⟨#[46, 94, 36, 124, 40, 41, 91, 93, 123, 125, 42, 43, 63, 92]⟩, .int .i64 r] W fun e w' => e = .returned (.bool (amg sgL r)) ∧ W = w') := HG
    clear HG hR hBd
    have g110 : (r == 110) = false := by simpa using h110
    have g114 : (r == 114) = false := by simpa using h114
    have g116 : (r == 116) = false := by simpa using h116
    clear h110 h114 h116
    obtain ⟨bd, hbd⟩ : ∃ b, s1.bad = b := ⟨_, rfl⟩
    have Hbd := Lib.hid hbd
    rw [hbd] at hS
    clear hbd
    cases bd with
    | true =>
      replace hS : Hid (escS rs s = ⟨s.pos + 1, s.deep, true⟩) := Lib.hid (by rw [hS.out]; rfl)
      go_enter Tryz.func65, Tryz.ntmps65
      go_wp2_with fail
      refine HN.out.mono ?_
      rintro e w1 ⟨rfl, h1, k1⟩
      have c3 := h1.c3
      have f3 := h1.fr 3
      rw [Hbd.out] at c3
      have hb1 := h1.lt
      have H1 := Lib.hid h1
      have K1 := Lib.hid k1
      clear h1 k1
      go_wp2_with fail
      refine (HA.out _).mono ?_
      rintro e w2 ⟨rfl, rfl⟩
      have H2 : Hid (PaAt (w1.setCell ⟨pb, 3, none⟩ (.bool true)) pb rv rs ⟨s.pos + 1, s.deep, true⟩) := by have := H1.out.setBad true; rw [hnx.out] at this; exact Lib.hid this
      go_wp2_with fail
      refine (one_u _ _).mono ?_
      rintro e w3 ⟨u, rfl, hr3⟩
      have R3 := Lib.hid hr3
      clear hr3
      go_wp2_with fail
      go_ret2
      refine ⟨u, by rw [hB.out]; rfl, ?_, ?_, (K1.out.set (p := ⟨pb, 3, none⟩) rfl (.bool true)).trans (R3.out.2.mono (fun _ _ e => e.elim))⟩
      · rw [hL.out]; exact ownsRow_base R3.out.1 ((K1.out.set (p := ⟨pb, 3, none⟩) rfl (.bool true)).size)
      · rw [hS.out]; exact (H2.out).keepsF R3.out.2
    | false =>
      cases hq : amg sgL r with
      | true =>
        rw [hq] at HG'
        replace hS : Hid (escS rs s = ⟨s.pos + 1, s.deep, false⟩) := Lib.hid (by rw [hS.out, hq]; rfl)
        go_enter Tryz.func65, Tryz.ntmps65
        go_wp2_with fail
        refine HN.out.mono ?_
        rintro e w1 ⟨rfl, h1, k1⟩
        have c3 := h1.c3
        have f3 := h1.fr 3
        rw [Hbd.out] at c3
        have hb1 := h1.lt
        have H1 := Lib.hid h1
        have K1 := Lib.hid k1
        clear h1 k1
        go_wp2_with fail
        refine (HA.out _).mono ?_
        rintro e w2 ⟨rfl, rfl⟩
        have H2 : Hid (PaAt (w1.setCell ⟨pb, 3, none⟩ (.bool false)) pb rv rs ⟨s.pos + 1, s.deep, false⟩) := by have := H1.out.setBad false; rw [hnx.out] at this; exact Lib.hid this
        go_wp2_with fail
        refine (HG'.out _).mono ?_
        rintro e w2 ⟨rfl, rfl⟩
        go_wp2_with fail
        refine (one_u _ _).mono ?_
        rintro e w3 ⟨u, rfl, hr3⟩
        have R3 := Lib.hid hr3
        clear hr3
        go_wp2_with fail
        go_ret2
        refine ⟨u, by rw [hB.out]; rfl, ?_, ?_, (K1.out.set (p := ⟨pb, 3, none⟩) rfl (.bool false)).trans (R3.out.2.mono (fun _ _ e => e.elim))⟩
        · rw [hL.out]; exact ownsRow_base R3.out.1 ((K1.out.set (p := ⟨pb, 3, none⟩) rfl (.bool false)).size)
        · rw [hS.out]; exact (H2.out).keepsF R3.out.2
      | false =>
        rw [hq] at HG'
        by_cases h45 : r = 45
        · replace hS : Hid (escS rs s = ⟨s.pos + 1, s.deep, false⟩) := Lib.hid (by rw [hS.out, hq]; simp [h45])
          subst h45
          go_enter Tryz.func65, Tryz.ntmps65
          go_wp2_with fail
          refine HN.out.mono ?_
          rintro e w1 ⟨rfl, h1, k1⟩
          have c3 := h1.c3
          have f3 := h1.fr 3
          rw [Hbd.out] at c3
          have hb1 := h1.lt
          have H1 := Lib.hid h1
          have K1 := Lib.hid k1
          clear h1 k1
          go_wp2_with fail
          refine (HA.out _).mono ?_
          rintro e w2 ⟨rfl, rfl⟩
          have H2 : Hid (PaAt (w1.setCell ⟨pb, 3, none⟩ (.bool false)) pb rv rs ⟨s.pos + 1, s.deep, false⟩) := by have := H1.out.setBad false; rw [hnx.out] at this; exact Lib.hid this
          go_wp2_with fail
          refine (HG'.out _).mono ?_
          rintro e w2 ⟨rfl, rfl⟩
          go_wp2_with fail
          refine (one_u _ _).mono ?_
          rintro e w3 ⟨u, rfl, hr3⟩
          have R3 := Lib.hid hr3
          clear hr3
          go_wp2_with fail
          go_ret2
          refine ⟨u, by rw [hB.out]; rfl, ?_, ?_, (K1.out.set (p := ⟨pb, 3, none⟩) rfl (.bool false)).trans (R3.out.2.mono (fun _ _ e => e.elim))⟩
          · rw [hL.out]; exact ownsRow_base R3.out.1 ((K1.out.set (p := ⟨pb, 3, none⟩) rfl (.bool false)).size)
          · rw [hS.out]; exact (H2.out).keepsF R3.out.2
        · replace hS : Hid (escS rs s = ⟨s.pos + 1, s.deep, true⟩) := Lib.hid (by rw [hS.out, hq]; simp [h45])
          have g45 : (r != 45) = true := by simp only [bne_iff_ne, ne_eq]; exact h45
          clear h45
          go_enter Tryz.func65, Tryz.ntmps65
          go_wp2_with fail
          refine HN.out.mono ?_
          rintro e w1 ⟨rfl, h1, k1⟩
          have c3 := h1.c3
          have f3 := h1.fr 3
          rw [Hbd.out] at c3
          have hb1 := h1.lt
          have H1 := Lib.hid h1
          have K1 := Lib.hid k1
          clear h1 k1
          go_wp2_with fail
          refine (HA.out _).mono ?_
          rintro e w2 ⟨rfl, rfl⟩
          have H2 : Hid (PaAt (w1.setCell ⟨pb, 3, none⟩ (.bool true)) pb rv rs ⟨s.pos + 1, s.deep, true⟩) := by have := H1.out.setBad true; rw [hnx.out] at this; exact Lib.hid this
          go_wp2_with fail
          refine (HG'.out _).mono ?_
          rintro e w2 ⟨rfl, rfl⟩
          go_wp2_with fail
          refine (one_u _ _).mono ?_
          rintro e w3 ⟨u, rfl, hr3⟩
          have R3 := Lib.hid hr3
          clear hr3
          go_wp2_with fail
          go_ret2
          refine ⟨u, by rw [hB.out]; rfl, ?_, ?_, (K1.out.set (p := ⟨pb, 3, none⟩) rfl (.bool true)).trans (R3.out.2.mono (fun _ _ e => e.elim))⟩
          · rw [hL.out]; exact ownsRow_base R3.out.1 ((K1.out.set (p := ⟨pb, 3, none⟩) rfl (.bool true)).size)
          · rw [hS.out]; exact (H2.out).keepsF R3.out.2

/-- The part's end. -/
def ptL (rs : List Int) (s : PS) : List (Int × Int) := if pk rs s = 92 then escL rs (nx rs s) else [(pk rs s, pk rs s)]
def ptB (rs : List Int) (s : PS) : Bool := if pk rs s = 92 then escB rs (nx rs s) else true
def ptS (rs : List Int) (s : PS) : PS := if pk rs s = 92 then escS rs (nx rs s) else ⟨s.pos + 1, s.deep, (nx rs s).bad || amg npL (pk rs s)⟩

set_option maxHeartbeats 4000000 in
theorem point_any (w : World) (pb : Nat) (rv : Value) (rs : List Int) (s : PS) (h : PaAt w pb rv rs s) (hp : s.pos + 2 ≤ 1000000) :
    Calls Tryz.prog 76 #[.pointer (some ⟨pb, 0, none⟩)] w fun e w' => ∃ u, e = .returned (.tuple #[u, .bool (ptB rs s)]) ∧
      w'.ownsRow w.heap.size 61 2 u (ptL rs s).length (cellsOf 2 encR (ptL rs s)) ∧ PaAt w' pb rv rs (ptS rs s) ∧ Keeps (OnlyP pb) w w' := by
  have hpb := h.lt
  have HN := Lib.hid (next_any w pb rv rs s h (by omega))
  clear h
  have hnp : (nx rs s).pos + 1 ≤ 1000000 := by show s.pos + 1 + 1 ≤ 1000000; omega
  by_cases hn : pk rs s = 92
  · have hL : Hid (ptL rs s = escL rs (nx rs s)) := Lib.hid (if_pos hn)
    have hB : Hid (ptB rs s = escB rs (nx rs s)) := Lib.hid (if_pos hn)
    have hS : Hid (ptS rs s = escS rs (nx rs s)) := Lib.hid (if_pos hn)
    rw [hn] at HN
    clear hn
    go_enter Tryz.func76, Tryz.ntmps76
    go_wp2_with fail
    refine HN.out.mono ?_
    rintro e w1 ⟨rfl, h1, k1⟩
    have H1 := Lib.hid h1
    have K1 := Lib.hid k1
    clear h1 k1
    go_wp2_with fail
    refine (escape_any _ _ _ _ _ H1.out hnp).mono ?_
    rintro e w2 ⟨u, rfl, ho2, h2, k2⟩
    have R2 := Lib.hid ho2
    have H2 := Lib.hid h2
    have K2 := Lib.hid k2
    clear ho2 h2 k2
    go_wp2_with fail
    go_ret2
    exact ⟨u, by rw [hB.out]; rfl, by rw [hL.out]; exact ownsRow_base R2.out K1.out.size, by rw [hS.out]; exact H2.out, K1.out.trans K2.out⟩
  · have hL : Hid (ptL rs s = [(pk rs s, pk rs s)]) := Lib.hid (if_neg hn)
    have hB : Hid (ptB rs s = true) := Lib.hid (if_neg hn)
    have hS : Hid (ptS rs s = ⟨s.pos + 1, s.deep, (nx rs s).bad || amg npL (pk rs s)⟩) := Lib.hid (if_neg hn)
    have hnx : Hid (nx rs s = ⟨s.pos + 1, s.deep, (nx rs s).bad⟩) := Lib.hid rfl
    have HG : Hid (∀ W, Calls Tryz.prog 66 #[.string ⟨#[91, 93, 94, 45]⟩, .int .i64 (pk rs s)] W fun e w' => e = .returned (.bool (amg npL (pk rs s))) ∧ W = w') := Lib.hid (fun W => among_any ⟨#[91, 93, 94, 45]⟩ (pk rs s) W)
    generalize nx rs s = s1 at *
    generalize pk rs s = r at *
    obtain ⟨bd, hbd⟩ : ∃ b, s1.bad = b := ⟨_, rfl⟩
    have Hbd := Lib.hid hbd
    rw [hbd] at hS
    clear hbd
    cases bd with
    | true =>
      replace hS : Hid (ptS rs s = ⟨s.pos + 1, s.deep, true⟩) := Lib.hid (by rw [hS.out]; rfl)
      go_enter Tryz.func76, Tryz.ntmps76
      go_wp2_with fail
      refine HN.out.mono ?_
      rintro e w1 ⟨rfl, h1, k1⟩
      have c3 := h1.c3
      have f3 := h1.fr 3
      rw [Hbd.out] at c3
      have hb1 := h1.lt
      have H1 := Lib.hid h1
      have K1 := Lib.hid k1
      clear h1 k1
      have H2 : Hid (PaAt (w1.setCell ⟨pb, 3, none⟩ (.bool true)) pb rv rs ⟨s.pos + 1, s.deep, true⟩) := by have := H1.out.setBad true; rw [hnx.out] at this; exact Lib.hid this
      go_wp2_with fail
      refine (one_u _ _).mono ?_
      rintro e w3 ⟨u, rfl, hr3⟩
      have R3 := Lib.hid hr3
      clear hr3
      go_wp2_with fail
      go_ret2
      refine ⟨u, by rw [hB.out]; rfl, ?_, ?_, (K1.out.set (p := ⟨pb, 3, none⟩) rfl (.bool true)).trans (R3.out.2.mono (fun _ _ e => e.elim))⟩
      · rw [hL.out]; exact ownsRow_base R3.out.1 (K1.out.set (p := ⟨pb, 3, none⟩) rfl (.bool true)).size
      · rw [hS.out]; exact H2.out.keepsF R3.out.2
    | false =>
      generalize amg npL r = q at *
      replace hS : Hid (ptS rs s = ⟨s.pos + 1, s.deep, q⟩) := Lib.hid (by rw [hS.out]; rfl)
      go_enter Tryz.func76, Tryz.ntmps76
      go_wp2_with fail
      refine HN.out.mono ?_
      rintro e w1 ⟨rfl, h1, k1⟩
      have c3 := h1.c3
      have f3 := h1.fr 3
      rw [Hbd.out] at c3
      have hb1 := h1.lt
      have H1 := Lib.hid h1
      have K1 := Lib.hid k1
      clear h1 k1
      have H2 : Hid (PaAt (w1.setCell ⟨pb, 3, none⟩ (.bool q)) pb rv rs ⟨s.pos + 1, s.deep, q⟩) := by have := H1.out.setBad q; rw [hnx.out] at this; exact Lib.hid this
      go_wp2_with fail
      refine (HG.out _).mono ?_
      rintro e w2 ⟨rfl, rfl⟩
      go_wp2_with fail
      refine (one_u _ _).mono ?_
      rintro e w3 ⟨u, rfl, hr3⟩
      have R3 := Lib.hid hr3
      clear hr3
      go_wp2_with fail
      go_ret2
      refine ⟨u, by rw [hB.out]; rfl, ?_, ?_, (K1.out.set (p := ⟨pb, 3, none⟩) rfl (.bool q)).trans (R3.out.2.mono (fun _ _ e => e.elim))⟩
      · rw [hL.out]; exact ownsRow_base R3.out.1 (K1.out.set (p := ⟨pb, 3, none⟩) rfl (.bool q)).size
      · rw [hS.out]; exact H2.out.keepsF R3.out.2
end Go.Proofs.YtinogeobkljngaaGreatDoor
