/-
  The parser's escape, point.
-/
import Derived.Test.YtbifklibdkjbeaaGreatDoorMg6
namespace Go.Proofs.YtbifklibdkjbeaaGreatDoor
open Go.RowKit
set_option linter.unusedVariables false
set_option linter.unusedSimpArgs false
set_option maxRecDepth 100000
set_option maxHeartbeats 4000000
theorem xaG {w w' : World} {pb : Nat} {base : Nat} {e : TypeId} {size : Nat} {v : Value} {n : Nat} {xs : List Value} (h : w.ownsRow base e size v n xs) (K : xa (xaj pb) w w') (hb : pb < base) : w'.ownsRow base e size v n xs :=
 xae h K (fun b hb' e => by have := xaa h b hb'; have e : b = pb := e; omega)
theorem xeD (r : Int) (w : World) : Calls Tryz.prog 235 #[.int .i64 r] w fun e w' => ∃ u, e = .returned u ∧ ROwn w w' u [(r, r)] :=
 (one_any r w).mono (fun e w1 h => ⟨_, h.1, h.2⟩)
def xat (r : Int) : List (Int × Int) :=
 if r = 100 then [(48, 57)] else if r = 119 then [(48, 57), (65, 90), (95, 95), (97, 122)] else if r = 115 then [(9, 13), (32, 32)]
 else if r = 68 then [(0, 47), (58, 1114111)] else if r = 87 then [(0, 47), (58, 64), (91, 94), (96, 96), (123, 1114111)] else [(0, 8), (14, 31), (33, 1114111)]
def xcw (r : Int) : Prop := r = 100 ∨ r = 119 ∨ r = 115 ∨ r = 68 ∨ r = 87 ∨ r = 83
def sgL : List UInt8 := [46, 94, 36, 124, 40, 41, 91, 93, 123, 125, 42, 43, 63, 92]
def dwL : List UInt8 := [100, 119, 115, 68, 87, 83]
def npL : List UInt8 := [91, 93, 94, 45]
theorem xgo (al : List UInt8) (r : Int) (h : ¬ (0 ≤ r ∧ r < 128)) : amg al r = false := by
 unfold amg
 rcases (by omega : r < 0 ∨ 0 ≤ r) with h0 | h0
 · rw [show decide (0 ≤ r) = false from by simpa using h0]; rfl
 rw [show decide (r < 128) = false from by simp; omega]; simp
instance (r : Int) : Decidable (xcw r) := by unfold xcw; infer_instance
theorem xok (r : Int) : amg dwL r = decide (xcw r) := by
 have key : ∀ c : Fin 128, amg dwL (c.val : Int) = decide (xcw (c.val : Int)) := of_decide_eq_true (by kernel_rfl)
 by_cases h : 0 ≤ r ∧ r < 128
 · have := key ⟨r.toNat, by omega⟩
   simpa [Int.toNat_of_nonneg h.1] using this
 rw [xgo _ _ h]; symm; simp only [decide_eq_false_iff_not]; unfold xcw; omega
theorem xlt (r : Int) (w : World) (h : xcw r) :
 Calls Tryz.prog 253 #[.int .u8 r] w fun e w' => ∃ u, e = .returned (.tuple #[u, .bool true]) ∧ ROwn w w' u (xat r) ∧ (xat r).length ≤ 5 := by
 rcases h with rfl | rfl | rfl | rfl | rfl | rfl
 · refine (xgD w).mono ?_
   rintro e w1 ⟨u, out, rfl, ho, hr, hl⟩
   obtain rfl : out = xat 100 := xa5 _ _ ho.1 (by simp [xat, Norm]) (fun r => by
    rw [ho.2]; apply Bool.eq_iff_iff.2; simp [has, mem, xa1, xat]; omega)
   exact ⟨u, rfl, hr, hl⟩
 · refine (xgB w).mono ?_
   rintro e w1 ⟨u, out, rfl, ho, hr, hl⟩
   obtain rfl : out = xat 119 := xa5 _ _ ho.1 (by simp [xat, Norm]) (fun r => by
    rw [ho.2]; apply Bool.eq_iff_iff.2; simp [has, mem, xa1, xat]; omega)
   exact ⟨u, rfl, hr, hl⟩
 · refine (xgC w).mono ?_
   rintro e w1 ⟨u, out, rfl, ho, hr, hl⟩
   obtain rfl : out = xat 115 := xa5 _ _ ho.1 (by simp [xat, Norm]) (fun r => by
    rw [ho.2]; apply Bool.eq_iff_iff.2; simp [has, mem, xa1, xat]; omega)
   exact ⟨u, rfl, hr, hl⟩
 · refine (xhB w).mono ?_
   rintro e w1 ⟨u, out, rfl, ho, hr, hl⟩
   obtain rfl : out = xat 68 := xa5 _ _ ho.1 (by simp [xat, Norm]) (fun r => by
    rw [ho.2]; apply Bool.eq_iff_iff.2; simp [has, mem, xa1, xat]; omega)
   exact ⟨u, rfl, hr, hl⟩
 · refine (xhz w).mono ?_
   rintro e w1 ⟨u, out, rfl, ho, hr, hl⟩
   obtain rfl : out = xat 87 := xa5 _ _ ho.1 (by simp [xat, Norm]) (fun r => by
    rw [ho.2]; apply Bool.eq_iff_iff.2; simp [has, mem, xa1, xat]; omega)
   exact ⟨u, rfl, hr, hl⟩
 refine (xhA w).mono ?_
 rintro e w1 ⟨u, out, rfl, ho, hr, hl⟩
 obtain rfl : out = xat 83 := xa5 _ _ ho.1 (by simp [xat, Norm]) (fun r => by
  rw [ho.2]; apply Bool.eq_iff_iff.2; simp [has, mem, xa1, xat]; omega)
 exact ⟨u, rfl, hr, hl⟩
def escR (r : Int) : Int := if r = 110 then 10 else if r = 114 then 13 else if r = 116 then 9 else r
def xco (r : Int) : Bool := !(decide (r = 110) || decide (r = 114) || decide (r = 116)) && (!amg sgL r && !decide (r = 45))
def escL (rs : List Int) (s : PS) : List (Int × Int) := if xcw (pk rs s) then xat (pk rs s) else [(escR (pk rs s), escR (pk rs s))]
def escB (rs : List Int) (s : PS) : Bool := !decide (xcw (pk rs s))
def escS (rs : List Int) (s : PS) : PS :=
 if xcw (pk rs s) then nx rs s else ⟨s.pos + 1, s.deep, (nx rs s).bad || xco (pk rs s)⟩
theorem xfG (w : World) (pb : Nat) (rv : Value) (rs : List Int) (s : PS) (h : PaAt w pb rv rs s) (hp : s.pos + 1 ≤ 1000000) :
 Calls Tryz.prog 237 #[.pointer (some ⟨pb, 0, none⟩)] w fun e w' => ∃ u, e = .returned (.tuple #[u, .bool (escB rs s)]) ∧
  w'.ownsRow w.heap.size 287 2 u (escL rs s).length (cellsOf 2 encR (escL rs s)) ∧ PaAt w' pb rv rs (escS rs s) ∧ xa (xaj pb) w w' := by
 have hpb := h.lt
 have HN := xoo (xbK w pb rv rs s h hp)
 have hr := xk7 h
 clear h
 by_cases hn : xcw (pk rs s)
 · have hL : Hid (escL rs s = xat (pk rs s)) := xoo (if_pos hn)
   have hB : Hid (escB rs s = false) := xoo (by simp [escB, hn])
   have hS : Hid (escS rs s = nx rs s) := xoo (if_pos hn)
   have hA : amg dwL (pk rs s) = true := by rw [xok]; simpa using hn
   have HA := xoo (fun W => xcF ⟨#[100, 119, 115, 68, 87, 83]⟩ (pk rs s) W)
   have hA2 : amg (#[100, 119, 115, 68, 87, 83] : Array UInt8).toList (pk rs s) = true := hA
   have HM := xoo (fun W => xlt (pk rs s) W hn)
   have hw8 : IntKind.u8.wrap (pk rs s) = pk rs s := by rcases hn with e | e | e | e | e | e <;> rw [e] <;> rfl
   rw [hA2] at HA
   clear hA hA2 hn
   generalize pk rs s = r at *
   go_enter Tryz.func237, Tryz.ntmps237
   go_wp2_with fail
   refine HN.out.mono ?_
   rintro e w1 ⟨rfl, h1, k1⟩
   have H1 := xoo h1
   have K1 := xoo k1
   clear h1 k1
   go_wp2_with fail
   refine (HA.out _).mono ?_
   rintro e w2 ⟨rfl, rfl⟩
   go_wp2_with fail
   refine (HM.out _).mono ?_
   rintro e w3 ⟨u, rfl, hr3, hl3⟩
   have R3 := xoo hr3
   clear hr3
   go_wp2_with fail
   go_ret2
   refine ⟨u, by rw [hB.out]; rfl, ?_, ?_, K1.out.trans (R3.out.2.mono (fun _ _ e => e.elim))⟩
   · rw [hL.out]; exact xai R3.out.1 K1.out.size
   rw [hS.out]; exact H1.out.keepsF R3.out.2
 have hB : Hid (escB rs s = true) := xoo (by simp [escB, hn])
 have hA2 : amg (#[100, 119, 115, 68, 87, 83] : Array UInt8).toList (pk rs s) = false := by
  show amg dwL _ = _
  rw [xok]; simpa using hn
 have HA := xoo (fun W => xcF ⟨#[100, 119, 115, 68, 87, 83]⟩ (pk rs s) W)
 have HG := xoo (fun W => xcF ⟨#[46, 94, 36, 124, 40, 41, 91, 93, 123, 125, 42, 43, 63, 92]⟩ (pk rs s) W)
 rw [hA2] at HA
 have hL : Hid (escL rs s = [(escR (pk rs s), escR (pk rs s))]) := xoo (if_neg hn)
 have hS : Hid (escS rs s = ⟨s.pos + 1, s.deep, (nx rs s).bad || xco (pk rs s)⟩) := xoo (if_neg hn)
 have hnx : Hid (nx rs s = ⟨s.pos + 1, s.deep, (nx rs s).bad⟩) := xoo rfl
 generalize nx rs s = s1 at *
 generalize pk rs s = r at *
 clear hA2 hn
 by_cases h110 : r = 110
 · subst h110
   replace hS : Hid (escS rs s = s1) := xoo (by rw [hS.out, hnx.out]; simp [xco])
   replace hL : Hid (escL rs s = [(10, 10)]) := hL
   clear HG
   go_enter Tryz.func237, Tryz.ntmps237
   go_wp2_with fail
   refine HN.out.mono ?_
   rintro e w1 ⟨rfl, h1, k1⟩
   have c3 := h1.c3
   have f3 := h1.fr 3
   have hb1 := h1.lt
   have H1 := xoo h1
   have K1 := xoo k1
   clear h1 k1
   go_wp2_with fail
   refine (HA.out _).mono ?_
   rintro e w2 ⟨rfl, rfl⟩
   go_wp2_with fail
   refine (xeD _ _).mono ?_
   rintro e w3 ⟨u, rfl, hr3⟩
   have R3 := xoo hr3
   clear hr3
   go_wp2_with fail
   go_ret2
   refine ⟨u, by rw [hB.out]; rfl, ?_, ?_, K1.out.trans (R3.out.2.mono (fun _ _ e => e.elim))⟩
   · rw [hL.out]; exact xai R3.out.1 (K1.out.size)
   rw [hS.out]; exact (H1.out).keepsF R3.out.2
 by_cases h114 : r = 114
 · subst h114
   replace hS : Hid (escS rs s = s1) := xoo (by rw [hS.out, hnx.out]; simp [xco])
   replace hL : Hid (escL rs s = [(13, 13)]) := hL
   clear HG
   go_enter Tryz.func237, Tryz.ntmps237
   go_wp2_with fail
   refine HN.out.mono ?_
   rintro e w1 ⟨rfl, h1, k1⟩
   have c3 := h1.c3
   have f3 := h1.fr 3
   have hb1 := h1.lt
   have H1 := xoo h1
   have K1 := xoo k1
   clear h1 k1
   go_wp2_with fail
   refine (HA.out _).mono ?_
   rintro e w2 ⟨rfl, rfl⟩
   go_wp2_with fail
   refine (xeD _ _).mono ?_
   rintro e w3 ⟨u, rfl, hr3⟩
   have R3 := xoo hr3
   clear hr3
   go_wp2_with fail
   go_ret2
   refine ⟨u, by rw [hB.out]; rfl, ?_, ?_, K1.out.trans (R3.out.2.mono (fun _ _ e => e.elim))⟩
   · rw [hL.out]; exact xai R3.out.1 (K1.out.size)
   rw [hS.out]; exact (H1.out).keepsF R3.out.2
 by_cases h116 : r = 116
 · subst h116
   replace hS : Hid (escS rs s = s1) := xoo (by rw [hS.out, hnx.out]; simp [xco])
   replace hL : Hid (escL rs s = [(9, 9)]) := hL
   clear HG
   go_enter Tryz.func237, Tryz.ntmps237
   go_wp2_with fail
   refine HN.out.mono ?_
   rintro e w1 ⟨rfl, h1, k1⟩
   have c3 := h1.c3
   have f3 := h1.fr 3
   have hb1 := h1.lt
   have H1 := xoo h1
   have K1 := xoo k1
   clear h1 k1
   go_wp2_with fail
   refine (HA.out _).mono ?_
   rintro e w2 ⟨rfl, rfl⟩
   go_wp2_with fail
   refine (xeD _ _).mono ?_
   rintro e w3 ⟨u, rfl, hr3⟩
   have R3 := xoo hr3
   clear hr3
   go_wp2_with fail
   go_ret2
   refine ⟨u, by rw [hB.out]; rfl, ?_, ?_, K1.out.trans (R3.out.2.mono (fun _ _ e => e.elim))⟩
   · rw [hL.out]; exact xai R3.out.1 (K1.out.size)
   rw [hS.out]; exact (H1.out).keepsF R3.out.2
 have hR : escR r = r := by unfold escR; rw [if_neg h110, if_neg h114, if_neg h116]
 have hBd : xco r = (!amg sgL r && !decide (r = 45)) := by unfold xco; simp [h110, h114, h116]
 rw [hR] at hL
 rw [hBd] at hS
 have HG' : Hid (∀ W, Calls Tryz.prog 238 #[.string ⟨#[46, 94, 36, 124, 40, 41, 91, 93, 123, 125, 42, 43, 63, 92]⟩, .int .i64 r] W fun e w' => e = .returned (.bool (amg sgL r)) ∧ W = w') := HG
 clear HG hR hBd
 have g110 : (r == 110) = false := by simpa using h110
 have g114 : (r == 114) = false := by simpa using h114
 have g116 : (r == 116) = false := by simpa using h116
 clear h110 h114 h116
 obtain ⟨bd, hbd⟩ : ∃ b, s1.bad = b := ⟨_, rfl⟩
 have Hbd := xoo hbd
 rw [hbd] at hS
 clear hbd
 cases bd with
 | true =>
  replace hS : Hid (escS rs s = ⟨s.pos + 1, s.deep, true⟩) := xoo (by rw [hS.out]; rfl)
  go_enter Tryz.func237, Tryz.ntmps237
  go_wp2_with fail
  refine HN.out.mono ?_
  rintro e w1 ⟨rfl, h1, k1⟩
  have c3 := h1.c3
  have f3 := h1.fr 3
  rw [Hbd.out] at c3
  have hb1 := h1.lt
  have H1 := xoo h1
  have K1 := xoo k1
  clear h1 k1
  go_wp2_with fail
  refine (HA.out _).mono ?_
  rintro e w2 ⟨rfl, rfl⟩
  have H2 : Hid (PaAt (w1.setCell ⟨pb, 3, none⟩ (.bool true)) pb rv rs ⟨s.pos + 1, s.deep, true⟩) := by have := H1.out.setBad true; rw [hnx.out] at this; exact xoo this
  go_wp2_with fail
  refine (xeD _ _).mono ?_
  rintro e w3 ⟨u, rfl, hr3⟩
  have R3 := xoo hr3
  clear hr3
  go_wp2_with fail
  go_ret2
  refine ⟨u, by rw [hB.out]; rfl, ?_, ?_, (K1.out.set (p := ⟨pb, 3, none⟩) rfl (.bool true)).trans (R3.out.2.mono (fun _ _ e => e.elim))⟩
  · rw [hL.out]; exact xai R3.out.1 ((K1.out.set (p := ⟨pb, 3, none⟩) rfl (.bool true)).size)
  rw [hS.out]; exact (H2.out).keepsF R3.out.2
 | false =>
  cases hq : amg sgL r with
  | true =>
   rw [hq] at HG'
   replace hS : Hid (escS rs s = ⟨s.pos + 1, s.deep, false⟩) := xoo (by rw [hS.out, hq]; rfl)
   go_enter Tryz.func237, Tryz.ntmps237
   go_wp2_with fail
   refine HN.out.mono ?_
   rintro e w1 ⟨rfl, h1, k1⟩
   have c3 := h1.c3
   have f3 := h1.fr 3
   rw [Hbd.out] at c3
   have hb1 := h1.lt
   have H1 := xoo h1
   have K1 := xoo k1
   clear h1 k1
   go_wp2_with fail
   refine (HA.out _).mono ?_
   rintro e w2 ⟨rfl, rfl⟩
   have H2 : Hid (PaAt (w1.setCell ⟨pb, 3, none⟩ (.bool false)) pb rv rs ⟨s.pos + 1, s.deep, false⟩) := by have := H1.out.setBad false; rw [hnx.out] at this; exact xoo this
   go_wp2_with fail
   refine (HG'.out _).mono ?_
   rintro e w2 ⟨rfl, rfl⟩
   go_wp2_with fail
   refine (xeD _ _).mono ?_
   rintro e w3 ⟨u, rfl, hr3⟩
   have R3 := xoo hr3
   clear hr3
   go_wp2_with fail
   go_ret2
   refine ⟨u, by rw [hB.out]; rfl, ?_, ?_, (K1.out.set (p := ⟨pb, 3, none⟩) rfl (.bool false)).trans (R3.out.2.mono (fun _ _ e => e.elim))⟩
   · rw [hL.out]; exact xai R3.out.1 ((K1.out.set (p := ⟨pb, 3, none⟩) rfl (.bool false)).size)
   rw [hS.out]; exact (H2.out).keepsF R3.out.2
  | false =>
   rw [hq] at HG'
   by_cases h45 : r = 45
   · replace hS : Hid (escS rs s = ⟨s.pos + 1, s.deep, false⟩) := xoo (by rw [hS.out, hq]; simp [h45])
     subst h45
     go_enter Tryz.func237, Tryz.ntmps237
     go_wp2_with fail
     refine HN.out.mono ?_
     rintro e w1 ⟨rfl, h1, k1⟩
     have c3 := h1.c3
     have f3 := h1.fr 3
     rw [Hbd.out] at c3
     have hb1 := h1.lt
     have H1 := xoo h1
     have K1 := xoo k1
     clear h1 k1
     go_wp2_with fail
     refine (HA.out _).mono ?_
     rintro e w2 ⟨rfl, rfl⟩
     have H2 : Hid (PaAt (w1.setCell ⟨pb, 3, none⟩ (.bool false)) pb rv rs ⟨s.pos + 1, s.deep, false⟩) := by have := H1.out.setBad false; rw [hnx.out] at this; exact xoo this
     go_wp2_with fail
     refine (HG'.out _).mono ?_
     rintro e w2 ⟨rfl, rfl⟩
     go_wp2_with fail
     refine (xeD _ _).mono ?_
     rintro e w3 ⟨u, rfl, hr3⟩
     have R3 := xoo hr3
     clear hr3
     go_wp2_with fail
     go_ret2
     refine ⟨u, by rw [hB.out]; rfl, ?_, ?_, (K1.out.set (p := ⟨pb, 3, none⟩) rfl (.bool false)).trans (R3.out.2.mono (fun _ _ e => e.elim))⟩
     · rw [hL.out]; exact xai R3.out.1 ((K1.out.set (p := ⟨pb, 3, none⟩) rfl (.bool false)).size)
     rw [hS.out]; exact (H2.out).keepsF R3.out.2
   replace hS : Hid (escS rs s = ⟨s.pos + 1, s.deep, true⟩) := xoo (by rw [hS.out, hq]; simp [h45])
   have g45 : (r != 45) = true := by simp only [bne_iff_ne, ne_eq]; exact h45
   clear h45
   go_enter Tryz.func237, Tryz.ntmps237
   go_wp2_with fail
   refine HN.out.mono ?_
   rintro e w1 ⟨rfl, h1, k1⟩
   have c3 := h1.c3
   have f3 := h1.fr 3
   rw [Hbd.out] at c3
   have hb1 := h1.lt
   have H1 := xoo h1
   have K1 := xoo k1
   clear h1 k1
   go_wp2_with fail
   refine (HA.out _).mono ?_
   rintro e w2 ⟨rfl, rfl⟩
   have H2 : Hid (PaAt (w1.setCell ⟨pb, 3, none⟩ (.bool true)) pb rv rs ⟨s.pos + 1, s.deep, true⟩) := by have := H1.out.setBad true; rw [hnx.out] at this; exact xoo this
   go_wp2_with fail
   refine (HG'.out _).mono ?_
   rintro e w2 ⟨rfl, rfl⟩
   go_wp2_with fail
   refine (xeD _ _).mono ?_
   rintro e w3 ⟨u, rfl, hr3⟩
   have R3 := xoo hr3
   clear hr3
   go_wp2_with fail
   go_ret2
   refine ⟨u, by rw [hB.out]; rfl, ?_, ?_, (K1.out.set (p := ⟨pb, 3, none⟩) rfl (.bool true)).trans (R3.out.2.mono (fun _ _ e => e.elim))⟩
   · rw [hL.out]; exact xai R3.out.1 ((K1.out.set (p := ⟨pb, 3, none⟩) rfl (.bool true)).size)
   rw [hS.out]; exact (H2.out).keepsF R3.out.2
def ptL (rs : List Int) (s : PS) : List (Int × Int) := if pk rs s = 92 then escL rs (nx rs s) else [(pk rs s, pk rs s)]
def ptB (rs : List Int) (s : PS) : Bool := if pk rs s = 92 then escB rs (nx rs s) else true
def ptS (rs : List Int) (s : PS) : PS := if pk rs s = 92 then escS rs (nx rs s) else ⟨s.pos + 1, s.deep, (nx rs s).bad || amg npL (pk rs s)⟩
theorem xdg (w : World) (pb : Nat) (rv : Value) (rs : List Int) (s : PS) (h : PaAt w pb rv rs s) (hp : s.pos + 2 ≤ 1000000) :
 Calls Tryz.prog 252 #[.pointer (some ⟨pb, 0, none⟩)] w fun e w' => ∃ u, e = .returned (.tuple #[u, .bool (ptB rs s)]) ∧
  w'.ownsRow w.heap.size 287 2 u (ptL rs s).length (cellsOf 2 encR (ptL rs s)) ∧ PaAt w' pb rv rs (ptS rs s) ∧ xa (xaj pb) w w' := by
 have hpb := h.lt
 have HN := xoo (xbK w pb rv rs s h (by omega))
 clear h
 have hnp : (nx rs s).pos + 1 ≤ 1000000 := by show s.pos + 1 + 1 ≤ 1000000; omega
 by_cases hn : pk rs s = 92
 · have hL : Hid (ptL rs s = escL rs (nx rs s)) := xoo (if_pos hn)
   have hB : Hid (ptB rs s = escB rs (nx rs s)) := xoo (if_pos hn)
   have hS : Hid (ptS rs s = escS rs (nx rs s)) := xoo (if_pos hn)
   rw [hn] at HN
   clear hn
   go_enter Tryz.func252, Tryz.ntmps252
   go_wp2_with fail
   refine HN.out.mono ?_
   rintro e w1 ⟨rfl, h1, k1⟩
   have H1 := xoo h1
   have K1 := xoo k1
   clear h1 k1
   go_wp2_with fail
   refine (xfG _ _ _ _ _ H1.out hnp).mono ?_
   rintro e w2 ⟨u, rfl, ho2, h2, k2⟩
   have R2 := xoo ho2
   have H2 := xoo h2
   have K2 := xoo k2
   clear ho2 h2 k2
   go_wp2_with fail
   go_ret2
   exact ⟨u, by rw [hB.out]; rfl, by rw [hL.out]; exact xai R2.out K1.out.size, by rw [hS.out]; exact H2.out, K1.out.trans K2.out⟩
 have hL : Hid (ptL rs s = [(pk rs s, pk rs s)]) := xoo (if_neg hn)
 have hB : Hid (ptB rs s = true) := xoo (if_neg hn)
 have hS : Hid (ptS rs s = ⟨s.pos + 1, s.deep, (nx rs s).bad || amg npL (pk rs s)⟩) := xoo (if_neg hn)
 have hnx : Hid (nx rs s = ⟨s.pos + 1, s.deep, (nx rs s).bad⟩) := xoo rfl
 have HG : Hid (∀ W, Calls Tryz.prog 238 #[.string ⟨#[91, 93, 94, 45]⟩, .int .i64 (pk rs s)] W fun e w' => e = .returned (.bool (amg npL (pk rs s))) ∧ W = w') := xoo (fun W => xcF ⟨#[91, 93, 94, 45]⟩ (pk rs s) W)
 generalize nx rs s = s1 at *
 generalize pk rs s = r at *
 obtain ⟨bd, hbd⟩ : ∃ b, s1.bad = b := ⟨_, rfl⟩
 have Hbd := xoo hbd
 rw [hbd] at hS
 clear hbd
 cases bd with
 | true =>
  replace hS : Hid (ptS rs s = ⟨s.pos + 1, s.deep, true⟩) := xoo (by rw [hS.out]; rfl)
  go_enter Tryz.func252, Tryz.ntmps252
  go_wp2_with fail
  refine HN.out.mono ?_
  rintro e w1 ⟨rfl, h1, k1⟩
  have c3 := h1.c3
  have f3 := h1.fr 3
  rw [Hbd.out] at c3
  have hb1 := h1.lt
  have H1 := xoo h1
  have K1 := xoo k1
  clear h1 k1
  have H2 : Hid (PaAt (w1.setCell ⟨pb, 3, none⟩ (.bool true)) pb rv rs ⟨s.pos + 1, s.deep, true⟩) := by have := H1.out.setBad true; rw [hnx.out] at this; exact xoo this
  go_wp2_with fail
  refine (xeD _ _).mono ?_
  rintro e w3 ⟨u, rfl, hr3⟩
  have R3 := xoo hr3
  clear hr3
  go_wp2_with fail
  go_ret2
  refine ⟨u, by rw [hB.out]; rfl, ?_, ?_, (K1.out.set (p := ⟨pb, 3, none⟩) rfl (.bool true)).trans (R3.out.2.mono (fun _ _ e => e.elim))⟩
  · rw [hL.out]; exact xai R3.out.1 (K1.out.set (p := ⟨pb, 3, none⟩) rfl (.bool true)).size
  rw [hS.out]; exact H2.out.keepsF R3.out.2
 | false =>
  generalize amg npL r = q at *
  replace hS : Hid (ptS rs s = ⟨s.pos + 1, s.deep, q⟩) := xoo (by rw [hS.out]; rfl)
  go_enter Tryz.func252, Tryz.ntmps252
  go_wp2_with fail
  refine HN.out.mono ?_
  rintro e w1 ⟨rfl, h1, k1⟩
  have c3 := h1.c3
  have f3 := h1.fr 3
  rw [Hbd.out] at c3
  have hb1 := h1.lt
  have H1 := xoo h1
  have K1 := xoo k1
  clear h1 k1
  have H2 : Hid (PaAt (w1.setCell ⟨pb, 3, none⟩ (.bool q)) pb rv rs ⟨s.pos + 1, s.deep, q⟩) := by have := H1.out.setBad q; rw [hnx.out] at this; exact xoo this
  go_wp2_with fail
  refine (HG.out _).mono ?_
  rintro e w2 ⟨rfl, rfl⟩
  go_wp2_with fail
  refine (xeD _ _).mono ?_
  rintro e w3 ⟨u, rfl, hr3⟩
  have R3 := xoo hr3
  clear hr3
  go_wp2_with fail
  go_ret2
  refine ⟨u, by rw [hB.out]; rfl, ?_, ?_, (K1.out.set (p := ⟨pb, 3, none⟩) rfl (.bool q)).trans (R3.out.2.mono (fun _ _ e => e.elim))⟩
  · rw [hL.out]; exact xai R3.out.1 (K1.out.set (p := ⟨pb, 3, none⟩) rfl (.bool q)).size
  rw [hS.out]; exact H2.out.keepsF R3.out.2
end Go.Proofs.YtbifklibdkjbeaaGreatDoor
