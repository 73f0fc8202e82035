/-
  Several texts in one: lit's find, Index, Count. lit's Index and Count. Tokens, the parser's steps, which texts are patterns, how deep parentheses stand: plain Lean. The document's code point at a text's beginning is the program's: plain Lean. The document's Get, points. The document's points. What a tree begins with: lit.Prefix at chars, cats.
-/
import Derived.Test.YtjahiihmoglpfaaGreatDoorMg16
import Derived.Conc.PipeWords
import Derived.Test.YtjahiihmoglpfaaGreatDoorMg8
import Derived.Test.YtjahiihmoglpfaaGreatDoorMg10
import Derived.Test.YtjahiihmoglpfaaGreatDoorMg2
import Derived.Deep.RegionHeld3
import Derived.Deep.CutRange
import Derived.BigRegion
import Derived.BigQuiet
import Derived.Test.YtjahiihmoglpfaaGreatDoorMg6
namespace Go.Proofs.YtjahiihmoglpfaaGreatDoor
open Go.RowKit
set_option linter.unusedVariables false
set_option linter.unusedSimpArgs false
set_option maxRecDepth 100000
theorem xfJ (i z : Int) (c : Nat) (w : World) (hc : w.cell? ⟨c, 0, none⟩ = some (.int .i64 z)) (hf : w.frozen? ⟨c, 0, none⟩ = false) :
 Calls Tryz.prog 83 #[.int .i64 i, .pointer (some ⟨c, 0, none⟩)] w fun e w' => e = .returned (.bool false) ∧ w.setCell ⟨c, 0, none⟩ (.int .i64 i) = w' := by
 go_enter Tryz.func83, Tryz.ntmps83
 go_wp2_with fail
 go_ret
 exact ⟨rfl, rfl⟩
structure xbt (w : World) (c : Nat) (z : Int) : Prop where
 cell : w.cell? ⟨c, 0, none⟩ = some (.int .i64 z)
 frz : w.frozen? ⟨c, 0, none⟩ = false
theorem xbt.keep {w w' : World} {c : Nat} {z : Int} (h : xbt w c z) (K : xaa (fun _ => False) w w') : xbt w' c z := ⟨K.cell h.cell id, K.frozen h.frz (xan h.cell) id⟩
theorem xbt.set {w : World} {c : Nat} {z : Int} (h : xbt w c z) (y : Int) : xbt (w.setCell ⟨c, 0, none⟩ (.int .i64 y)) c y := ⟨xas h.cell, by rw [xbI]; exact h.frz⟩
theorem xbt.lt {w : World} {c : Nat} {z : Int} (h : xbt w c z) : c < w.heap.size := xan h.cell
def mtL (p t : List UInt8) : Nat → Bool := mtB p.length t.length (atB p) (atB t)
theorem mtL_nil (t : List UInt8) (a : Nat) : mtL [] t a = decide (a ≤ t.length) := by
 unfold mtL; cases h : decide (a ≤ t.length)
 · rw [← Bool.not_eq_true, xdD]; simp at h ⊢; omega
 rw [xdD]; simp at h ⊢; omega
def xk6 (p t : List UInt8) (f i : Nat) : Prop := ∀ a, f ≤ a → a + p.length ≤ i → mtL p t a = false
def FiE (p t : List UInt8) (f c : Nat) (w : World) (e : Ending) (w' : World) : Prop :=
 ∃ z : Int, e = .returned (.tuple #[]) ∧ xbt w' c z ∧ xdm (mtL p t) t.length f z ∧ xaa (fun b => b = c) w w'
def FiR (p t : List UInt8) (f c g : Nat) (b : Nat → Nat) (w : World) (kv iv : Value) (wr : World) : Prop :=
 ∃ k i : Nat, kv = .int .i64 k ∧ iv = .int .i64 i ∧ f ≤ i ∧ (i ≤ t.length ∨ i = f) ∧ Lgst p.length (atB p) (atB t) f i k ∧ xk6 p t f i ∧ xbt wr c (-1) ∧ BdAt wr g p.length b ∧ xaa (fun _ => False) w wr
def FI (p t : List UInt8) (wr : World) (f i : Nat) (kv : Value) (wk : World) : Prop :=
 ∃ k : Nat, kv = .int .i64 k ∧ Inn p.length (atB p) (atB t) f i k ∧ xaa (fun _ => False) wr wk
theorem xhz {p t : List UInt8} {w wk : World} {f c g i k' : Nat} {b : Nat → Nat} {kv iv : Value} (hN : Lgst p.length (atB p) (atB t) f (i + 1) k') (hi : i < t.length) (hk : k' ≠ p.length) (h0 : xk6 p t f i)
 (hC : xbt wk c (-1)) (hB : BdAt wk g p.length b) (hK : xaa (fun _ => False) w wk) (hf : f ≤ i) (e1 : kv = .int .i64 k') (e2 : iv = .int .i64 ((i + 1 : Nat) : Int)) : FiR p t f c g b w kv iv wk := by
 refine ⟨k', i + 1, e1, e2, by omega, by omega, hN, fun a ha hai => ?_, hC, hB, hK⟩
 by_cases h : a + p.length ≤ i
 · exact h0 a ha h
 obtain rfl : a = i + 1 - p.length := by omega
 cases hm : mtL p t (i + 1 - p.length) with
 | false => rfl
 | true => exact absurd ((hN.full (n := t.length) (by omega)).2 ⟨by omega, hm⟩) hk
theorem xmu {p t : List UInt8} {w wk : World} {f c i k : Nat} {z : Int} (hN : Lgst p.length (atB p) (atB t) f (i + 1) (k + 1)) (hk : k + 1 = p.length) (hi : i < t.length) (h0 : xk6 p t f i)
 (hC : xbt wk c (-1)) (hK : xaa (fun _ => False) w wk) (hz : z = (i : Int) - (k : Int)) : FiE p t f c w (.returned (.tuple #[])) (wk.setCell ⟨c, 0, none⟩ (.int .i64 z)) := by
 obtain ⟨h1, h2⟩ := (hN.full (n := t.length) (by omega)).1 hk
 refine ⟨z, rfl, hC.set z, Or.inr ⟨i + 1 - p.length, by omega, by omega, by omega, h2, fun b h3 h4 => h0 b h3 (by omega)⟩, xaa.set (S := fun b => b = c) (hK.mono (fun _ _ e => e.elim)) (p := ⟨c, 0, none⟩) rfl _⟩
set_option maxHeartbeats 8000000 in
theorem xlY (p t : List UInt8) (f c : Nat) (w : World) (h0 : 0 < p.length) (hp : p.length ≤ 1000) (ht : t.length ≤ 1000) (hf : f ≤ 1000000) (hC : xbt w c (-1)) : Calls Tryz.prog 82 #[.string ⟨t.toArray⟩, .string ⟨p.toArray⟩, .int .i64 f, .func (.func 83) #[] #[.pointer (some ⟨c, 0, none⟩)]] w fun e w' => FiE p t f c w e w' := by
 have hne : p.isEmpty = false := by cases p <;> simp_all
 have HC := xmA hC
 clear hC
 go_enter Tryz.func82, Tryz.ntmps82
 go_wp2_with fail
 refine (xhK p _ h0 hp).mono ?_
 rintro e w3 ⟨g, b, rfl, hg, hB, hL, hK⟩
 have HB := xmA hB
 have HL := xmA hL
 have HK := xmA hK
 have HC3 := xmA (HC.out.keep hK)
 clear hB hL hK
 go_wp2_with fail
 go_loopw [10, 11] (fun kv iv wr => FiR p t f c g b w3 kv iv wr) (fun _ iv _ => t.length + 1 - (intOf iv).toNat)
 case atStart => exact ⟨0, f, rfl, rfl, Nat.le_refl _, Or.inr rfl, Lgst.start _ _ _ _, fun a h1 h2 => by omega, HC3.out, HB.out, xaa.refl _ _⟩
 case round =>
  obtain ⟨k, i, rfl, rfl, hfi, hit, hLg, hNo, hC1, hB1, hK1⟩ := hrel
  have HNo := xmA hNo
  have HC1 := xmA hC1
  have HB1 := xmA hB1
  have HK1 := xmA hK1
  clear hNo hC1 hB1 hK1
  by_cases hil : i < t.length
  · skip
    obtain ⟨d, hd⟩ : ∃ d, t[i]? = some d := ⟨_, List.getElem?_eq_getElem hil⟩
    have hdi := idxC hd
    have Hd := xmA (xd3 hd)
    have hid : decide ((i : Int) < (t.length : Int)) = true := by simpa using hil
    have hid0 : (i : Int) < (t.length : Int) := by omega
    have HLi := xmA hLg.inn
    obtain ⟨wR, hwR⟩ : ∃ W, W = wr := ⟨wr, rfl⟩
    subst hwR
    clear hd hLg
    go_wp2_with fail
    go_loopw [10] (fun kv wk => FI p t wR f i kv wk) (fun kv _ => (intOf kv).toNat)
    case atStart => exact ⟨k, rfl, HLi.out, xaa.refl _ _⟩
    case round =>
     obtain ⟨k2, rfl, hI, hk2⟩ := hrel
     have hk2i := hI.suf.1
     have hk2m := hI.le
     have HI := xmA hI
     have HBk := xmA (HB1.out.keep hk2)
     have HCk := xmA (HC1.out.keep hk2)
     have HK2 := xmA hk2
     clear hI hk2
     by_cases hkm : k2 = p.length
     · subst hkm
       have hz0 : decide (0 < p.length) = true := by simpa using h0
       have hkk : ((p.length : Int) == (p.length : Int)) = true := by simp
       have hLk := HL.out p.length (by omega) (by omega)
       have hbk := hLk.suf.1
       have HS := xmA (HI.out.step (by omega) (Or.inl rfl) hLk)
       have hck := HBk.out.cell p.length (by omega)
       have hix2 : (p.length : Int) < (p.length : Int) + 1 := by omega
       clear hLk
       go_wp2_with fail
       go_quiet (fail)
       go_wp2_with fail
       go_roundw
       case rel => exact ⟨b p.length, by go_num, HS.out, HK2.out.drawN _⟩
       case measure => simp [intOf]; omega
     have hk2l : k2 < p.length := by omega
     obtain ⟨cc, hcc⟩ : ∃ cc, p[k2]? = some cc := ⟨_, List.getElem?_eq_getElem hk2l⟩
     have hci := idxC hcc
     have Hc := xmA (xd3 hcc)
     have h1 : (k2 : Int) < (p.length : Int) := by omega
     have hkk : ((k2 : Int) == (p.length : Int)) = false := beq_eq_false_iff_ne.2 (by omega)
     clear hcc
     by_cases hcd : cc = d
     · subst hcd
       have HN := xmA (HI.out.hit hk2l (by rw [Hc.out, Hd.out]))
       by_cases hfull : k2 + 1 = p.length
       · have hkf : ((k2 : Int) + 1 == (p.length : Int)) = true := by simp; omega
         have HF := xmA hfull
         clear hfull
         by_cases hz : k2 = 0
         · subst hz
           have hkf1 : ((1 : Int) == (p.length : Int)) = true := by have := HF.out; simp; omega
           go_wp2_with fail
           go_quiet (fail)
           go_wp2_with fail
           go_quiet (fail)
           go_wp2_with fail
           refine (xfJ _ (-1) c _ (HCk.out.keep ((xaa.refl _ _).drawN _)).cell (HCk.out.keep ((xaa.refl _ _).drawN _)).frz).mono ?_
           rintro e w9 ⟨rfl, rfl⟩
           go_wp2_with fail
           go_end0
           exact xmu HN.out HF.out hil HNo.out (HCk.out.keep ((xaa.refl _ _).drawN _)) ((((HK.out.trans HK1.out).trans HK2.out)).drawN _) (by first | rfl | omega | (simp; done) | (simp; omega))
         have hz0 : decide (0 < k2) = true := by simp; omega
         go_wp2_with fail
         go_quiet (fail)
         go_wp2_with fail
         go_quiet (fail)
         go_wp2_with fail
         refine (xfJ _ (-1) c _ (HCk.out.keep ((xaa.refl _ _).drawN _)).cell (HCk.out.keep ((xaa.refl _ _).drawN _)).frz).mono ?_
         rintro e w9 ⟨rfl, rfl⟩
         go_wp2_with fail
         go_end0
         exact xmu HN.out HF.out hil HNo.out (HCk.out.keep ((xaa.refl _ _).drawN _)) ((((HK.out.trans HK1.out).trans HK2.out)).drawN _) (by first | rfl | omega | (simp; done) | (simp; omega))
       have hkf : ((k2 : Int) + 1 == (p.length : Int)) = false := beq_eq_false_iff_ne.2 (by omega)
       by_cases hz : k2 = 0
       · subst hz
         go_wp2_with fail
         go_quiet (fail)
         go_wp2_with fail
         go_quiet (fail)
         go_wp2_with fail
         go_roundw
         case rel => exact xhz (k' := 0 + 1) HN.out hil (by omega) HNo.out (HCk.out.keep ((xaa.refl _ _).drawN _)) (HBk.out.keep ((xaa.refl _ _).drawN _)) ((HK1.out.trans HK2.out).drawN _) hfi (by go_num) (by go_num)
         case measure => simp [intOf]; omega
       have hz0 : decide (0 < k2) = true := by simp; omega
       go_wp2_with fail
       go_quiet (fail)
       go_wp2_with fail
       go_quiet (fail)
       go_wp2_with fail
       go_roundw
       case rel => exact xhz (k' := k2 + 1) HN.out hil (by omega) HNo.out (HCk.out.keep ((xaa.refl _ _).drawN _)) (HBk.out.keep ((xaa.refl _ _).drawN _)) ((HK1.out.trans HK2.out).drawN _) hfi (by go_num) (by go_num)
       case measure => simp [intOf]; omega
     have hne : ((cc.toNat : Int) != (d.toNat : Int)) = true := by
      simp; intro e; exact hcd (UInt8.toNat_inj.1 (by omega))
     have hne2 : ((cc.toNat : Int) == (d.toNat : Int)) = false := by
      simp; intro e; exact hcd (UInt8.toNat_inj.1 (by omega))
     by_cases hz : k2 = 0
     · subst hz
       have HN := xmA (HI.out.miss (by rw [Hc.out, Hd.out]; exact hcd))
       go_wp2_with fail
       go_quiet (fail)
       go_wp2_with fail
       go_quiet (fail)
       go_wp2_with fail
       go_roundw
       case rel => exact xhz (k' := 0) HN.out hil (by omega) HNo.out (HCk.out.keep ((xaa.refl _ _).drawN _)) (HBk.out.keep ((xaa.refl _ _).drawN _)) ((HK1.out.trans HK2.out).drawN _) hfi (by go_num) (by go_num)
       case measure => simp [intOf]; omega
     have hz0 : decide (0 < k2) = true := by simp; omega
     have hLk := HL.out k2 (by omega) (by omega)
     have hbk := hLk.suf.1
     have HS := xmA (HI.out.step (by omega) (Or.inr (by rw [Hc.out, Hd.out]; exact hcd)) hLk)
     have hck := HBk.out.cell k2 (by omega)
     have hix2 : (k2 : Int) < (p.length : Int) + 1 := by omega
     clear hLk
     go_wp2_with fail
     go_quiet (fail)
     go_wp2_with fail
     go_roundw
     case rel => exact ⟨b k2, by go_num, HS.out, HK2.out.drawN _⟩
     case measure => simp [intOf]; omega
  have hid : decide ((i : Int) < (t.length : Int)) = false := by simp; omega
  have HE : Hid (xdm (mtL p t) t.length f (-1)) := xmA (Or.inl ⟨rfl, fun a ha hat => by
   by_cases h : a + p.length ≤ i
   · exact HNo.out a ha h
   rw [← Bool.not_eq_true]; intro hm; have := (xdD.1 hm).1; omega⟩)
  go_wp2_with fail
  go_end0
  exact ⟨-1, rfl, HC1.out, HE.out, (HK.out.trans HK1.out).mono (fun _ _ e => e.elim)⟩
def NiR (t : List UInt8) (f : Nat) (w : World) (iv : Value) (wr : World) : Prop := iv = .int .i64 f ∧ w = wr
set_option maxHeartbeats 4000000 in
theorem xkz (t : List UInt8) (f c : Nat) (w : World) (ht : t.length ≤ 1000) (hf : f ≤ 1000000) (hC : xbt w c (-1)) :
 Calls Tryz.prog 82 #[.string ⟨t.toArray⟩, .string ⟨([] : List UInt8).toArray⟩, .int .i64 f, .func (.func 83) #[] #[.pointer (some ⟨c, 0, none⟩)]] w fun e w' => FiE [] t f c w e w' := by
 have HC := xmA hC
 clear hC
 by_cases hft : f ≤ t.length
 · have hd : decide ((f : Int) ≤ (t.length : Int)) = true := by simp; omega
   have HE : Hid (xdm (mtL [] t) t.length f f) := xmA (Or.inr ⟨f, rfl, Nat.le_refl _, hft, by rw [mtL_nil]; simpa using hft, fun b h1 h2 => by omega⟩)
   go_enter Tryz.func82, Tryz.ntmps82
   go_wp2_with fail
   go_loopw [8] (fun iv wr => NiR t f w iv wr) (fun _ _ => 0)
   case atStart => exact ⟨rfl, rfl⟩
   case round =>
    obtain ⟨rfl, rfl⟩ := hrel
    go_wp2_with fail
    refine (xfJ _ (-1) c _ HC.out.cell HC.out.frz).mono ?_
    rintro e w9 ⟨rfl, rfl⟩
    go_wp2_with fail
    go_end0
    exact ⟨_, rfl, HC.out.set _, HE.out, xaa.set (S := fun b => b = c) (xaa.refl _ _) (p := ⟨c, 0, none⟩) rfl _⟩
 have hd : decide ((f : Int) ≤ (t.length : Int)) = false := by simp; omega
 have HE : Hid (xdm (mtL [] t) t.length f (-1)) := xmA (Or.inl ⟨rfl, fun a h1 h2 => by omega⟩)
 go_enter Tryz.func82, Tryz.ntmps82
 go_wp2_with fail
 go_loopw [8] (fun iv wr => NiR t f w iv wr) (fun _ _ => 0)
 case atStart => exact ⟨rfl, rfl⟩
 case round =>
  obtain ⟨rfl, rfl⟩ := hrel
  go_wp2_with fail
  go_end0
  exact ⟨_, rfl, HC.out, HE.out, xaa.refl _ _⟩
theorem xky (p t : List UInt8) (f c : Nat) (w : World) (hp : p.length ≤ 1000) (ht : t.length ≤ 1000) (hf : f ≤ 1000000) (hC : xbt w c (-1)) :
 Calls Tryz.prog 82 #[.string ⟨t.toArray⟩, .string ⟨p.toArray⟩, .int .i64 f, .func (.func 83) #[] #[.pointer (some ⟨c, 0, none⟩)]] w fun e w' => FiE p t f c w e w' := by
 rcases p with _ | ⟨x, p⟩
 · exact xkz t f c w ht hf hC
 exact xlY (x :: p) t f c w (by simp) hp ht hf hC
theorem xbt.new (w : World) (z : Int) : xbt (w.alloc (.cells #[.int .i64 z] 3)) w.heap.size z := ⟨by simp [go_sem], by simp [go_sem]⟩
def IxE (p t : List UInt8) (f : Nat) (w : World) (e : Ending) (w' : World) : Prop := ∃ z : Int, e = .returned (.int .i64 z) ∧ xdm (mtL p t) t.length f z ∧ xaa (fun _ => False) w w'
theorem xkf {w w' : World} {o : Obj} (h : xaa (fun b => b = w.heap.size) (w.alloc o) w') : xaa (fun _ => False) w w' := ((xaa.refl (fun _ => False) w).alloc o).trans2 h (fun b hb e => by omega)
set_option maxHeartbeats 2000000 in
theorem xgD (p t : List UInt8) (f : Nat) (w : World) (hp : p.length ≤ 1000) (ht : t.length ≤ 1000) (hf : f ≤ 1000000) : Calls Tryz.prog 46 #[.string ⟨t.toArray⟩, .string ⟨p.toArray⟩, .int .i64 f] w fun e w' => IxE p t f w e w' := by
 have HF := xmA (xky p t f w.heap.size _ hp ht hf (xbt.new w (-1)))
 go_enter Tryz.func46, Tryz.ntmps46
 go_wp2_with fail
 refine HF.out.mono ?_
 rintro e w3 ⟨z, rfl, hC, hI, hK⟩
 have hc := hC.cell
 have HI := xmA hI
 have HK := xmA (xkf hK)
 clear hC hI hK
 go_wp2_with fail
 go_ret
 exact ⟨z, rfl, HI.out, HK.out⟩
end Go.Proofs.YtjahiihmoglpfaaGreatDoor
section
namespace Go.Proofs.YtjahiihmoglpfaaGreatDoor
section
open Go.RowKit
set_option maxRecDepth 100000
inductive Tok where
 | pt (s : List (Int × Int)) : Tok
 | sg (r : Int) : Tok
 | ct (m x : Int) : Tok
def endT (al ps : List T) : T := xcc 5 (al ++ [xcc 4 ps])
def repT (ps : List T) (m x : Int) : List T := ps.dropLast ++ [⟨6, [], m, x, F.ofL [ps.getLast?.getD xbh]⟩]
def rdM : Nat → Int → List Tok → List T → List T → Bool → Option (T × List Tok)
 | 0, _, _, _, _, _ => none
 | n + 1, d, l, al, ps, lo =>
  match l with
  | [] => some (endT al ps, [])
  | .pt s :: r => rdM n d r al (ps ++ [xbn s]) true
  | .ct m x :: r => if lo = true then rdM n d r al (repT ps m x) false else none
  | .sg c :: r =>
   if c = 124 then rdM n d r (al ++ [xcc 4 ps]) [] false
   else if c = 94 then rdM n d r al (ps ++ [⟨2, [], 0, 0, .nil⟩]) false
   else if c = 36 then rdM n d r al (ps ++ [⟨3, [], 0, 0, .nil⟩]) false
   else if c = 41 then some (endT al ps, .sg c :: r)
   else if 10 < d + 1 then none
   else match rdM n (d + 1) r [] [] false with
    | some (t, .sg 41 :: r') => rdM n d r' al (ps ++ [t]) true
    | _ => none
def xaM : Nat → List Tok → Option (List Tok × List Tok)
 | _, [] => none
 | k, .sg c :: r =>
  if c = 40 then (xaM (k + 1) r).map fun p => (.sg c :: p.1, p.2)
  else if c = 41 then (if k = 0 then some ([], r) else (xaM (k - 1) r).map fun p => (.sg c :: p.1, p.2))
  else (xaM k r).map fun p => (.sg c :: p.1, p.2)
 | k, .pt s :: r => (xaM k r).map fun p => (.pt s :: p.1, p.2)
 | k, .ct m x :: r => (xaM k r).map fun p => (.ct m x :: p.1, p.2)
def Tok.ok : Tok → Prop
 | .sg c => c = 124 ∨ c = 94 ∨ c = 36 ∨ c = 41 ∨ c = 40
 | _ => True
def xaP : Nat → Int → List Tok → List T → List T → Bool → Option T
 | 0, _, _, _, _, _ => none
 | n + 1, d, l, al, ps, lo =>
  match l with
  | [] => some (endT al ps)
  | .pt s :: r => xaP n d r al (ps ++ [xbn s]) true
  | .ct m x :: r => if lo = true then xaP n d r al (repT ps m x) false else none
  | .sg c :: r =>
   if c = 124 then xaP n d r (al ++ [xcc 4 ps]) [] false
   else if c = 94 then xaP n d r al (ps ++ [⟨2, [], 0, 0, .nil⟩]) false
   else if c = 36 then xaP n d r al (ps ++ [⟨3, [], 0, 0, .nil⟩]) false
   else if c = 41 then none
   else match xaM 0 r with
    | none => none
    | some (l1, r') => if 10 < d + 1 then none else match xaP n (d + 1) l1 [] [] false with
     | none => none
     | some t => xaP n d r' al (ps ++ [t]) true
theorem xcq : ∀ (l : List Tok) (k : Nat) (l1 r : List Tok), xaM k l = some (l1, r) → l = l1 ++ .sg 41 :: r := by
 intro l
 induction l with
 | nil => intro k l1 r h; simp [xaM] at h
 | cons t l ih =>
  intro k l1 r h
  cases t with
  | pt s =>
   simp only [xaM, Option.map_eq_some_iff] at h
   obtain ⟨⟨p, q⟩, h1, h2⟩ := h
   obtain ⟨rfl, rfl⟩ := Prod.mk.inj h2
   rw [ih _ _ _ h1]; rfl
  | ct m x =>
   simp only [xaM, Option.map_eq_some_iff] at h
   obtain ⟨⟨p, q⟩, h1, h2⟩ := h
   obtain ⟨rfl, rfl⟩ := Prod.mk.inj h2
   rw [ih _ _ _ h1]; rfl
  | sg c =>
   by_cases h40 : c = 40
   · rw [xaM, if_pos h40, Option.map_eq_some_iff] at h
     obtain ⟨⟨p, q⟩, h1, h2⟩ := h
     obtain ⟨rfl, rfl⟩ := Prod.mk.inj h2
     rw [ih _ _ _ h1]; rfl
   by_cases h41 : c = 41
   · rw [xaM, if_neg h40, if_pos h41] at h
     by_cases hk : k = 0
     · rw [if_pos hk] at h
       simp only [Option.some.injEq, Prod.mk.injEq] at h; obtain ⟨rfl, rfl⟩ := h; rw [h41]; rfl
     rw [if_neg hk] at h
     simp only [Option.map_eq_some_iff] at h
     obtain ⟨⟨p, q⟩, h1, h2⟩ := h
     obtain ⟨rfl, rfl⟩ := Prod.mk.inj h2
     rw [ih _ _ _ h1]; rfl
   rw [xaM, if_neg h40, if_neg h41, Option.map_eq_some_iff] at h
   obtain ⟨⟨p, q⟩, h1, h2⟩ := h
   obtain ⟨rfl, rfl⟩ := Prod.mk.inj h2
   rw [ih _ _ _ h1]; rfl
def Bal (l : List Tok) : Prop := ∀ k r, xaM k (l ++ r) = (xaM k r).map fun p => (l ++ p.1, p.2)
theorem Bal.nil : Bal [] := fun k r => by cases h : xaM k r <;> simp [h]
theorem Bal.app {a b : List Tok} (ha : Bal a) (hb : Bal b) : Bal (a ++ b) := fun k r => by
 rw [List.append_assoc, ha, hb]; cases xaM k r <;> simp
theorem Bal.pt (s : List (Int × Int)) : Bal [.pt s] := fun k r => by simp [xaM]
theorem Bal.ct (m x : Int) : Bal [.ct m x] := fun k r => by simp [xaM]
theorem Bal.sg {c : Int} (h1 : c ≠ 40) (h2 : c ≠ 41) : Bal [.sg c] := fun k r => by simp [xaM, h1, h2]
theorem Bal.par {l : List Tok} (h : Bal l) : Bal (.sg 40 :: (l ++ [.sg 41])) := fun k r => by
 have h1 : xaM k (.sg 40 :: (l ++ [.sg 41]) ++ r) = (xaM (k + 1) (l ++ (.sg 41 :: r))).map fun p => (.sg 40 :: p.1, p.2) := by
  simp [xaM]
 rw [h1, h, xaM, if_neg (by omega), if_pos rfl, if_neg (by omega), Nat.add_sub_cancel]
 cases xaM k r <;> simp
theorem Bal.close {l : List Tok} (h : Bal l) (r : List Tok) : xaM 0 (l ++ .sg 41 :: r) = some (l, r) := by
 rw [h, xaM, if_neg (by omega), if_pos rfl, if_pos rfl]; simp
def stopT (r : List Tok) : Prop := r = [] ∨ ∃ r', r = .sg 41 :: r'
theorem rd_tree : ∀ n d l al ps lo t r, (∀ k ∈ l, Tok.ok k) → rdM n d l al ps lo = some (t, r) → stopT r ∧ ∃ l1, l = l1 ++ r ∧ Bal l1 ∧ xaP n d l1 al ps lo = some t := by
 intro n
 induction n with
 | zero => intro d l al ps lo t r _ h; simp [rdM] at h
 | succ n ih =>
  intro d l al ps lo t r hok h
  rcases l with _ | ⟨k, l⟩
  · simp only [rdM, Option.some.injEq, Prod.mk.injEq] at h
    obtain ⟨rfl, rfl⟩ := h
    exact ⟨Or.inl rfl, [], rfl, Bal.nil, rfl⟩
  have hok2 : ∀ k ∈ l, Tok.ok k := fun x hx => hok x (by simp [hx])
  cases k with
  | pt s =>
   rw [rdM] at h
   obtain ⟨h1, l1, rfl, h3, h4⟩ := ih _ _ _ _ _ _ _ hok2 h
   exact ⟨h1, .pt s :: l1, rfl, (Bal.pt s).app h3, by rw [xaP]; exact h4⟩
  | ct m x =>
   rw [rdM] at h
   by_cases hlo : lo = true
   · simp only [hlo, if_true] at h
     obtain ⟨h1, l1, rfl, h3, h4⟩ := ih _ _ _ _ _ _ _ hok2 h
     exact ⟨h1, .ct m x :: l1, rfl, (Bal.ct m x).app h3, by rw [xaP]; simp only [hlo, if_true]; exact h4⟩
   simp only [if_neg hlo] at h; cases h
  | sg c =>
   have hc := hok (.sg c) (by simp)
   rw [rdM] at h
   by_cases c1 : c = 124
   · simp only [if_pos c1] at h
     obtain ⟨h1, l1, rfl, h3, h4⟩ := ih _ _ _ _ _ _ _ hok2 h
     exact ⟨h1, .sg c :: l1, rfl, (Bal.sg (by omega) (by omega)).app h3, by rw [xaP]; simp only [if_pos c1]; exact h4⟩
   by_cases c2 : c = 94
   · simp only [if_neg c1, if_pos c2] at h
     obtain ⟨h1, l1, rfl, h3, h4⟩ := ih _ _ _ _ _ _ _ hok2 h
     exact ⟨h1, .sg c :: l1, rfl, (Bal.sg (by omega) (by omega)).app h3, by rw [xaP]; simp only [if_neg c1, if_pos c2]; exact h4⟩
   by_cases c3 : c = 36
   · simp only [if_neg c1, if_neg c2, if_pos c3] at h
     obtain ⟨h1, l1, rfl, h3, h4⟩ := ih _ _ _ _ _ _ _ hok2 h
     exact ⟨h1, .sg c :: l1, rfl, (Bal.sg (by omega) (by omega)).app h3, by rw [xaP]; simp only [if_neg c1, if_neg c2, if_pos c3]; exact h4⟩
   by_cases c4 : c = 41
   · simp only [if_neg c1, if_neg c2, if_neg c3, if_pos c4, Option.some.injEq, Prod.mk.injEq] at h
     obtain ⟨rfl, rfl⟩ := h
     exact ⟨Or.inr ⟨l, by rw [c4]⟩, [], rfl, Bal.nil, rfl⟩
   have c5 : c = 40 := by rcases hc with h | h | h | h | h <;> first | exact h | contradiction
   simp only [if_neg c1, if_neg c2, if_neg c3, if_neg c4] at h
   by_cases hd : 10 < d + 1
   · simp only [if_pos hd] at h; cases h
   simp only [if_neg hd] at h
   cases hx : rdM n (d + 1) l [] [] false with
   | none => rw [hx] at h; cases h
   | some p =>
    obtain ⟨t1, r1⟩ := p
    rw [hx] at h
    obtain ⟨g1, l1, rfl, g3, g4⟩ := ih _ _ _ _ _ _ _ hok2 hx
    rcases g1 with rfl | ⟨r', rfl⟩
    · simp at h
    simp only at h
    obtain ⟨h1, l2, rfl, h3, h4⟩ := ih _ _ _ _ _ _ _ (fun x hx => hok2 x (by simp [hx])) h
    refine ⟨h1, .sg 40 :: (l1 ++ [.sg 41]) ++ l2, by rw [c5]; simp, g3.par.app h3, ?_⟩
    have e : (.sg 40 :: (l1 ++ [.sg 41]) ++ l2 : List Tok) = .sg 40 :: (l1 ++ .sg 41 :: l2) := by simp
    rw [e, xaP]
    rw [if_neg (by omega), if_neg (by omega), if_neg (by omega), if_neg (by omega), g3.close, ]
    simp only [if_neg hd, g4]
    exact h4
theorem tree_rd : ∀ n d l al ps lo t, xaP n d l al ps lo = some t → ∀ r, stopT r → rdM n d (l ++ r) al ps lo = some (t, r) := by
 intro n
 induction n with
 | zero => intro d l al ps lo t h; simp [xaP] at h
 | succ n ih =>
  intro d l al ps lo t h r hr
  rcases l with _ | ⟨k, l⟩
  · simp only [xaP, Option.some.injEq] at h
    subst h
    rcases hr with rfl | ⟨r', rfl⟩
    · rfl
    rfl
  cases k with
  | pt s => rw [xaP] at h; exact ih _ _ _ _ _ _ h r hr
  | ct m x =>
   rw [xaP] at h
   show (if lo = true then rdM n d (l ++ r) al (repT ps m x) false else none) = _
   by_cases hlo : lo = true
   · simp only [hlo, if_true] at h ⊢; exact ih _ _ _ _ _ _ h r hr
   simp only [if_neg hlo] at h; cases h
  | sg c =>
   rw [xaP] at h
   rw [List.cons_append, rdM]
   by_cases c1 : c = 124
   · simp only [if_pos c1] at h ⊢; exact ih _ _ _ _ _ _ h r hr
   by_cases c2 : c = 94
   · simp only [if_neg c1, if_pos c2] at h ⊢; exact ih _ _ _ _ _ _ h r hr
   by_cases c3 : c = 36
   · simp only [if_neg c1, if_neg c2, if_pos c3] at h ⊢; exact ih _ _ _ _ _ _ h r hr
   by_cases c4 : c = 41
   · simp only [if_neg c1, if_neg c2, if_neg c3, if_pos c4] at h; cases h
   simp only [if_neg c1, if_neg c2, if_neg c3, if_neg c4] at h ⊢
   cases hx : xaM 0 l with
   | none => rw [hx] at h; cases h
   | some p =>
    obtain ⟨l1, r1⟩ := p
    rw [hx] at h
    simp only at h
    by_cases hd : 10 < d + 1
    · simp only [if_pos hd] at h; cases h
    simp only [if_neg hd] at h ⊢
    cases hy : xaP n (d + 1) l1 [] [] false with
    | none => rw [hy] at h; cases h
    | some t1 =>
     rw [hy] at h
     simp only at h
     have e := xcq _ _ _ _ hx
     have h1 := ih _ _ _ _ _ _ hy (.sg 41 :: (r1 ++ r)) (Or.inr ⟨_, rfl⟩)
     have e2 : l ++ r = l1 ++ .sg 41 :: (r1 ++ r) := by rw [e]; simp
     rw [e2, h1]
     exact ih _ _ _ _ _ _ h r hr
theorem xiv : ∀ n m d l al ps lo, l.length < n → l.length < m → xaP n d l al ps lo = xaP m d l al ps lo := by
 intro n
 induction n with
 | zero => intro m d l al ps lo h; omega
 | succ n ih =>
  intro m d l al ps lo hn hm
  obtain ⟨m, rfl⟩ : ∃ k, m = k + 1 := ⟨m - 1, by omega⟩
  rcases l with _ | ⟨k, l⟩
  · rfl
  simp only [List.length_cons] at hn hm
  cases k with
  | pt s => exact ih _ _ _ _ _ _ (by omega) (by omega)
  | ct m' x =>
   rw [xaP, xaP]
   by_cases hlo : lo = true
   · simp only [hlo, if_true]; exact ih _ _ _ _ _ _ (by omega) (by omega)
   simp only [if_neg hlo]
  | sg c =>
   rw [xaP, xaP]
   split
   · exact ih _ _ _ _ _ _ (by omega) (by omega)
   split
   · exact ih _ _ _ _ _ _ (by omega) (by omega)
   split
   · exact ih _ _ _ _ _ _ (by omega) (by omega)
   split
   · rfl
   cases hx : xaM 0 l with
   | none => rfl
   | some p =>
    obtain ⟨l1, r1⟩ := p
    have e := xcq _ _ _ _ hx
    have hle : l1.length + 1 + r1.length = l.length := by rw [e]; simp; omega
    simp only
    split
    · rfl
    rw [ih m (d + 1) l1 [] [] false (by omega) (by omega)]
    cases xaP m (d + 1) l1 [] [] false with
    | none => rfl
    | some t => exact ih _ _ _ _ _ _ (by omega) (by omega)
end
end Go.Proofs.YtjahiihmoglpfaaGreatDoor
namespace Go.Proofs.YtjahiihmoglpfaaGreatDoor
section
open Go.RowKit
set_option maxRecDepth 100000
end
end Go.Proofs.YtjahiihmoglpfaaGreatDoor
namespace Go.Proofs.YtjahiihmoglpfaaGreatDoor
section
open Go.RowKit
set_option maxRecDepth 100000
variable {rs : List Int} (hr : ∀ r ∈ rs, 0 ≤ r ∧ r ≤ 1114111)
include hr in
include hr in
include hr in
include hr in
include hr in
include hr in
end
end Go.Proofs.YtjahiihmoglpfaaGreatDoor
namespace Go.Proofs.YtjahiihmoglpfaaGreatDoor
section
open Go.RowKit
set_option maxRecDepth 100000
def isSg (r : Int) : Prop := r = 46 ∨ r = 94 ∨ r = 36 ∨ r = 124 ∨ r = 40 ∨ r = 41 ∨ r = 91 ∨ r = 93 ∨ r = 123 ∨ r = 125 ∨ r = 42 ∨ r = 43 ∨ r = 63 ∨ r = 92
instance (r : Int) : Decidable (isSg r) := by unfold isSg; infer_instance
variable {rs : List Int} (hr : ∀ r ∈ rs, 0 ≤ r ∧ r ≤ 1114111)
include hr in
end
end Go.Proofs.YtjahiihmoglpfaaGreatDoor
namespace Go.Proofs.YtjahiihmoglpfaaGreatDoor
section
open Go.RowKit
set_option maxRecDepth 100000
variable {rs : List Int} (hr : ∀ r ∈ rs, 0 ≤ r ∧ r ≤ 1114111)
include hr in
include hr in
include hr in
include hr in
include hr in
include hr in
def treeF (ts : List Tok) : Option T := xaP (ts.length + 1) 0 ts [] [] false
include hr in
end
end Go.Proofs.YtjahiihmoglpfaaGreatDoor
namespace Go.Proofs.YtjahiihmoglpfaaGreatDoor
section
open Go.RowKit
set_option maxRecDepth 100000
def dpM : List Tok → Int → Int → Int
 | [], _, m => m
 | .sg c :: r, n, m => if c = 40 then dpM r (n + 1) (max m (n + 1)) else if c = 41 then dpM r (n - 1) m else dpM r n m
 | .pt _ :: r, n, m => dpM r n m
 | .ct _ _ :: r, n, m => dpM r n m
def HtT (l : List Tok) (h : Int) : Prop := 0 ≤ h ∧ ∀ r n m, n ≤ m → dpM (l ++ r) n m = dpM r n (max m (n + h))
theorem HtT.nil : HtT [] 0 := ⟨by omega, fun r n m h => by rw [List.nil_append]; congr 1; omega⟩
theorem HtT.cons {t : Tok} {l : List Tok} {h : Int} (ht : ∀ r n m, dpM (t :: r) n m = dpM r n m) (H : HtT l h) : HtT (t :: l) h := ⟨H.1, fun r n m hn => by rw [List.cons_append, ht, H.2 r n m hn]⟩
theorem HtT.par {l1 l2 : List Tok} {h1 h2 : Int} (H1 : HtT l1 h1) (H2 : HtT l2 h2) : HtT (.sg 40 :: (l1 ++ .sg 41 :: l2)) (max (1 + h1) h2) := by
 refine ⟨by have := H1.1; omega, fun r n m hn => ?_⟩
 have e : (Tok.sg 40 :: (l1 ++ .sg 41 :: l2)) ++ r = .sg 40 :: (l1 ++ (.sg 41 :: (l2 ++ r))) := by simp
 have g1 := H1.1
 have g2 := H2.1
 rw [e, dpM, if_pos rfl, H1.2 _ _ _ (by omega), dpM, if_neg (by omega), if_pos rfl, H2.2 _ _ _ (by omega)]
 congr 1 <;> omega
theorem xiu : ∀ (n : Nat) (d : Int) (ts al ps lo t), (∀ k ∈ ts, Tok.ok k) → d ≤ 10 → xaP n d ts al ps lo = some t → ∃ h, HtT ts h ∧ d + h ≤ 10 ∧ ∀ d' : Int, xaP n d' ts al ps lo = if d' + h ≤ 10 ∨ h = 0 then some t else none := by
 intro n
 induction n with
 | zero => intro d ts al ps lo t _ _ h; simp [xaP] at h
 | succ n ih =>
  intro d ts al ps lo t hok hd h
  rcases ts with _ | ⟨k, l⟩
  · refine ⟨0, HtT.nil, by omega, fun d' => ?_⟩
    rw [if_pos (Or.inr rfl)]; exact h
  have hok2 : ∀ k ∈ l, Tok.ok k := fun x hx => hok x (by simp [hx])
  cases k with
  | pt S =>
   rw [xaP] at h
   obtain ⟨hh, H, g1, g2⟩ := ih _ _ _ _ _ _ hok2 hd h
   exact ⟨hh, H.cons (fun _ _ _ => rfl), g1, fun d' => by rw [xaP]; exact g2 d'⟩
  | ct m x =>
   rw [xaP] at h
   by_cases hlo : lo = true
   · simp only [hlo, if_true] at h
     obtain ⟨hh, H, g1, g2⟩ := ih _ _ _ _ _ _ hok2 hd h
     exact ⟨hh, H.cons (fun _ _ _ => rfl), g1, fun d' => by rw [xaP]; simp only [hlo, if_true]; exact g2 d'⟩
   simp only [if_neg hlo] at h; cases h
  | sg c =>
   have hc := hok (.sg c) (by simp)
   rw [xaP] at h
   by_cases c1 : c = 124
   · simp only [if_pos c1] at h
     obtain ⟨hh, H, g1, g2⟩ := ih _ _ _ _ _ _ hok2 hd h
     exact ⟨hh, H.cons (fun _ _ _ => by rw [dpM, if_neg (by omega), if_neg (by omega)]), g1, fun d' => by rw [xaP]; simp only [if_pos c1]; exact g2 d'⟩
   by_cases c2 : c = 94
   · simp only [if_neg c1, if_pos c2] at h
     obtain ⟨hh, H, g1, g2⟩ := ih _ _ _ _ _ _ hok2 hd h
     exact ⟨hh, H.cons (fun _ _ _ => by rw [dpM, if_neg (by omega), if_neg (by omega)]), g1, fun d' => by rw [xaP]; simp only [if_neg c1, if_pos c2]; exact g2 d'⟩
   by_cases c3 : c = 36
   · simp only [if_neg c1, if_neg c2, if_pos c3] at h
     obtain ⟨hh, H, g1, g2⟩ := ih _ _ _ _ _ _ hok2 hd h
     exact ⟨hh, H.cons (fun _ _ _ => by rw [dpM, if_neg (by omega), if_neg (by omega)]), g1, fun d' => by rw [xaP]; simp only [if_neg c1, if_neg c2, if_pos c3]; exact g2 d'⟩
   by_cases c4 : c = 41
   · simp only [if_neg c1, if_neg c2, if_neg c3, if_pos c4] at h; cases h
   have c5 : c = 40 := by rcases hc with h | h | h | h | h <;> first | exact h | contradiction
   subst c5
   simp only [if_neg c1, if_neg c2, if_neg c3, if_neg c4] at h
   cases hx : xaM 0 l with
   | none => rw [hx] at h; cases h
   | some p =>
    obtain ⟨l1, r'⟩ := p
    have e := xcq _ _ _ _ hx
    rw [hx] at h
    simp only at h
    by_cases hdd : 10 < d + 1
    · simp only [if_pos hdd] at h; cases h
    simp only [if_neg hdd] at h
    cases hy : xaP n (d + 1) l1 [] [] false with
    | none => rw [hy] at h; cases h
    | some t1 =>
     rw [hy] at h
     simp only at h
     obtain ⟨h1, H1, g1, g2⟩ := ih _ _ _ _ _ _ (fun x hx => hok2 x (by rw [e]; simp [hx])) (by omega) hy
     obtain ⟨h2, H2, g3, g4⟩ := ih _ _ _ _ _ _ (fun x hx => hok2 x (by rw [e]; simp [hx])) hd h
     have p1 := H1.1
     have p2 := H2.1
     refine ⟨max (1 + h1) h2, by rw [e]; exact H1.par H2, by omega, fun d' => ?_⟩
     rw [xaP]
     simp only [if_neg c1, if_neg c2, if_neg c3, if_neg c4, hx]
     rw [g2 (d' + 1)]
     by_cases hd' : 10 < d' + 1
     · rw [if_pos hd', if_neg (by omega)]
     rw [if_neg hd']
     by_cases q1 : d' + 1 + h1 ≤ 10 ∨ h1 = 0
     · rw [if_pos q1]
       simp only
       rw [g4 d']
       by_cases q2 : d' + h2 ≤ 10 ∨ h2 = 0
       · rw [if_pos q2, if_pos (by omega)]
       rw [if_neg q2, if_neg (by omega)]
     rw [if_neg q1]
     simp only
     rw [if_neg (by omega)]
structure PatT (ts : List Tok) (t : T) (h : Int) : Prop where
 ok : ∀ k ∈ ts, Tok.ok k
 bal : Bal ts
 ht : HtT ts h
 le : h ≤ 10
 tree : ∀ (n : Nat) (d : Int), ts.length < n → xaP n d ts [] [] false = if d + h ≤ 10 ∨ h = 0 then some t else none
theorem PatT.of {ts : List Tok} {t : T} (hok : ∀ k ∈ ts, Tok.ok k) (h : treeF ts = some t) : ∃ hh, PatT ts t hh := by
 obtain ⟨hh, H, g1, g2⟩ := xiu _ _ _ _ _ _ _ hok (by omega) h
 have h1 := tree_rd _ _ _ _ _ _ _ h [] (Or.inl rfl)
 rw [List.append_nil] at h1
 obtain ⟨_, l1, e, hb, _⟩ := rd_tree _ _ _ _ _ _ _ _ hok h1
 rw [List.append_nil] at e
 subst e
 exact ⟨hh, hok, hb, H, by omega, fun n d hn => by rw [xiv n (ts.length + 1) d ts [] [] false hn (by omega)]; exact g2 d⟩
end
end Go.Proofs.YtjahiihmoglpfaaGreatDoor
namespace Go.Proofs.YtjahiihmoglpfaaGreatDoor
section
open Go.RowKit
set_option maxRecDepth 100000
theorem xjV : ∀ (n m : Nat) (l : List UInt8), l.length ≤ n → l.length ≤ m → ptsP n l = ptsP m l := by
 intro n
 induction n with
 | zero =>
  intro m l hn hm
  obtain rfl : l = [] := List.length_eq_zero_iff.1 (by omega)
  cases m with
  | zero => rfl
  | succ m => rw [ptsP, ptsP, if_pos rfl]
 | succ n ih =>
  intro m l hn hm
  rcases l with _ | ⟨c, l⟩
  · cases m with
    | zero => simp [ptsP]
    | succ m => simp [ptsP]
  obtain ⟨m, rfl⟩ : ∃ k, m = k + 1 := ⟨m - 1, by simp at hm; omega⟩
  rw [ptsP, ptsP]
  simp only [reduceCtorEq, if_false]
  split
  · have := xbS c l
    simp only [List.length_cons] at hn hm
    rw [ih m _ (by rw [List.length_drop, List.length_cons]; omega) (by rw [List.length_drop, List.length_cons]; omega)]
  rfl
theorem xlq {c : UInt8} {l : List UInt8} : pts (c :: l) = if sizP (getP (c :: l)).1 = ((getP (c :: l)).2 : Int) then (pts ((c :: l).drop (getP (c :: l)).2)).map ((getP (c :: l)).1 :: ·) else none := by
 unfold pts
 rw [show (c :: l).length = l.length + 1 from rfl, ptsP, if_neg (by simp)]
 split
 · have := xbS c l
   rw [xjV l.length _ _ (by rw [List.length_drop, List.length_cons]; omega) (Nat.le_refl _)]
 rfl
end
end Go.Proofs.YtjahiihmoglpfaaGreatDoor
end
namespace Go.Proofs.YtjahiihmoglpfaaGreatDoor
open Go.RowKit
set_option maxRecDepth 100000


theorem xkC (l : List UInt8) (n : Nat) : (⟨l.toArray⟩ : ByteArray).extract 0 n = ⟨(l.take n).toArray⟩ := by
 apply ByteArray.ext
 simp [ByteArray.data_extract]
def PreE (r : List UInt8 × Bool) (w : World) (e : Ending) (w' : World) : Prop := e = .returned (.tuple #[strL r.1, .bool r.2]) ∧ xaa (fun _ => False) w w'
def PreC (t : T) (r : List UInt8 × Bool) : Prop := ∀ (P : Nat → Prop) (v : NV) (w : World), TAt w P v t → Calls Tryz.prog 35 #[v.val] w fun e w' => PreE r w e w'
theorem xlz (x : Int) (h0 : 0 ≤ x) (h1 : x ≤ 1114111) : Norm [(x, x)] := by
 simp [Norm]; omega
set_option maxHeartbeats 2000000 in
theorem xlt (x : Nat) (hb : isB (x : Int) = true) : PreC (xbn [((x : Int), (x : Int))]) (putP x, true) := by
 intro P v w ht
 have hx : x ≤ 1114111 := by simp [isB] at hb; omega
 have HSt := xmA ht.set
 obtain ⟨a1, n1, c1, a2, c2, e1, e2, hl, hc⟩ := ht.krow
 have o1 : v.op = 1 := ht.op
 obtain ⟨vo, vsv, vm, vx, vk⟩ := v
 obtain rfl := e1
 obtain rfl := e2
 obtain rfl := o1
 have HI := xmA (fun W => xdd (x : Int) W)
 have HP := xmA (fun W => xfq x W hb)
 rw [hb] at HI
 clear hl hc ht hb
 generalize (xbn [((x : Int), (x : Int))]).kids.toL.length = KL at *
 generalize putP x = R at *
 show Calls Tryz.prog 35 #[.agg #[.int .i64 1, .slice a1 n1 c1, .int .i64 vm, .int .i64 vx, .slice a2 KL c2]] w _
 go_enter Tryz.func35, Tryz.ntmps35
 go_wp2_with fail
 refine (xfu [((x : Int), (x : Int))] _ _ (HSt.out.keeps (S := fun _ => False) (KI.out) (fun _ _ => id)) (by simp)).mono ?_
 rintro e w2 ⟨out, y, ok, rfl, hof, hyes, hno, k2⟩
 have hout : out = [((x : Int), (x : Int))] := hof.unique (IsOf.self (xlz _ (by omega) (by omega)))
 cases ok
 · exact absurd hout ((hno rfl).2 _)
 obtain rfl : y = x := by
  have := hyes rfl
  rw [hout] at this
  simpa using this.symm
 have K2 : Hid (xaa (fun _ => False) w w2) := xmA (xaa.trans (KI.out) k2)
 clear hof hyes hno hout k2
 go_wp2_with fail
 refine (HI.out _).mono ?_
 rintro e w3 ⟨rfl, rfl⟩
 go_wp2_with fail
 refine (HP.out _).mono ?_
 rintro e w4 ⟨v4, rfl, hO, k4⟩
 have hcv := xgl hO
 have K4 := xmA (K2.out.trans k4)
 clear k4 hO
 unfold strL at hcv
 go_wp2_with fail
 go_ret2
 exact ⟨rfl, K4.out⟩
theorem xkG (s : List UInt8) (b : Bool) (w : World) : Calls Tryz.prog 109 #[strL s, .bool b] w fun e w' => PreE (if 200 < s.length then (s.take 200, false) else (s, b)) w e w' := by
 unfold strL
 by_cases h : 200 < s.length
 · have g : decide ((200 : Int) < (s.length : Int)) = true := by simp; omega
   rw [if_pos h]
   go_enter Tryz.func109, Tryz.ntmps109
   go_wp2_with fail
   go_ret2
   refine ⟨?_, xaa.refl _ _⟩
   simp [strL]
   exact xkC s 200
 have g : decide ((200 : Int) < (s.length : Int)) = false := by simp; omega
 rw [if_neg h]
 go_enter Tryz.func109, Tryz.ntmps109
 go_wp2_with fail
 go_ret2
 exact ⟨rfl, xaa.refl _ _⟩
def catP : List (List UInt8 × Bool) → List UInt8 → List UInt8 × Bool
 | [], all => (all, true)
 | (s, b) :: r, all => if b = false ∨ 200 < (all ++ s).length then (if 200 < (all ++ s).length then ((all ++ s).take 200, false) else (all ++ s, false)) else catP r (all ++ s)
theorem xkP {res : List (List UInt8 × Bool)} {i : Nat} {s : List UInt8} {b : Bool} (all : List UInt8) (h : res[i]? = some (s, b)) : catP (res.drop i) all = if b = false ∨ 200 < (all ++ s).length then (if 200 < (all ++ s).length then ((all ++ s).take 200, false) else (all ++ s, false)) else catP (res.drop (i + 1)) (all ++ s) := by
 obtain ⟨h1, h2⟩ := List.getElem?_eq_some_iff.1 h
 rw [List.drop_eq_getElem_cons h1, h2]; rfl
def CatR (n : Nat) (res : List (List UInt8 × Bool)) (w : World) (iv av : Value) (wr : World) : Prop :=
 ∃ (i : Nat) (all : List UInt8), iv = .int .i64 i ∧ i ≤ n ∧ av = strL all ∧ all.length ≤ 200 ∧ catP (res.drop i) all = catP res [] ∧ xaa (fun _ => False) w wr
set_option maxHeartbeats 2000000 in
theorem cat_any (P : Nat → Prop) (L : List T) (res : List (List UInt8 × Bool)) (a : Option Addr) (c : Nat) (w : World) (ha : KRow w P a L) (hl : L.length ≤ 4611686018427387904) (hn : res.length = L.length)
 (ih : ∀ (i : Nat) (k : T) (r : List UInt8 × Bool), L[i]? = some k → res[i]? = some r → PreC k r ∧ r.1.length ≤ 1000) :
 Calls Tryz.prog 68 #[.slice a L.length c] w fun e w' => PreE (catP res []) w e w' := by
 have IH := xmA ih
 have HA := xmA ha
 have HN := xmA hn
 have HC := xmA (fun s b W => xkG s b W)
 obtain ⟨RR, hRR⟩ : ∃ R, catP res [] = R := ⟨_, rfl⟩
 rw [hRR]
 have HR := xmA hRR
 clear ih ha hn hRR
 go_enter Tryz.func68, Tryz.ntmps68
 go_wp2_with fail
 go_loopw [11, 4] (fun iv av wr => CatR L.length res w iv av wr) (fun iv _ _ => L.length - (intOf iv).toNat)
 case atStart => exact ⟨0, [], rfl, Nat.zero_le _, rfl, by simp, rfl, xaa.refl _ _⟩
 case round =>
  obtain ⟨i, all, rfl, hi, rfl, hal, hct, hk⟩ := hrel
  have K := xmA hk
  have CT := xmA hct
  clear hk hct
  by_cases hil : i < L.length
  · obtain ⟨k, hki⟩ : ∃ k, L[i]? = some k := ⟨_, List.getElem?_eq_getElem hil⟩
    obtain ⟨⟨s, bw⟩, hri⟩ : ∃ r, res[i]? = some r := ⟨_, List.getElem?_eq_getElem (by rw [HN.out]; exact hil)⟩
    obtain ⟨b, off, uo, d1, f1, g1, um, ux, d2, f2, g2, rfl, hu, hlt, x0, x1, x2, x3, x4⟩ := (HA.out.keep K.out).at hki
    have hih := IH.out i k (s, bw) hki hri
    have hsl : s.length ≤ 1000 := hih.2
    have HS : Hid (∀ W, xaa (fun _ => False) wr W → Calls Tryz.prog 35 #[.agg #[.int .i64 uo, .slice d1 f1 g1, .int .i64 um, .int .i64 ux, .slice d2 f2 g2]] W fun e w' => PreE (s, bw) W e w') := xmA (fun W kW =>
     hih.1 P ⟨uo, .slice d1 f1 g1, um, ux, .slice d2 f2 g2⟩ W (hu.keepsTo kW (fun _ _ => id) (fun _ h => h)))
    have CS := xmA (xkP all hri)
    clear hki hri hu hih
    have hap := str_app all s
    unfold strL
    go_wp2_with fail
    refine (HS.out _ (KI.out)).mono ?_
    rintro e w2 ⟨rfl, k2⟩
    have K2 : Hid (xaa (fun _ => False) w w2) := xmA (K.out.trans (xaa.trans (KI.out) k2))
    clear k2
    unfold strL
    by_cases hgt : 200 < (all ++ s).length
    · have g : decide ((200 : Int) < ((all.length : Int) + (s.length : Int))) = true := by simp at hgt ⊢; omega
      have E : Hid (RR = ((all ++ s).take 200, false)) := xmA (by rw [← HR.out, ← CT.out, CS.out, if_pos (Or.inr hgt), if_pos hgt])
      have HCC := xmA (fun W => HC.out (all ++ s) false W)
      rw [if_pos hgt] at HCC
      unfold strL at HCC
      clear hgt
      cases bw
      all_goals
       go_wp2_with fail
       refine (HCC.out _).mono ?_
       rintro e w3 ⟨rfl, k3⟩
       have K3 := xmA (K2.out.trans k3)
       clear k3
       unfold strL
       go_wp2_with fail
       go_ret2
       exact ⟨by rw [E.out]; rfl, K3.out⟩
    have g : decide ((200 : Int) < ((all.length : Int) + (s.length : Int))) = false := by simp at hgt ⊢; omega
    cases bw
    · have E : Hid (RR = (all ++ s, false)) := xmA (by rw [← HR.out, ← CT.out, CS.out, if_pos (Or.inl rfl), if_neg hgt])
      have HCC := xmA (fun W => HC.out (all ++ s) false W)
      rw [if_neg hgt] at HCC
      unfold strL at HCC
      clear hgt
      go_wp2_with fail
      refine (HCC.out _).mono ?_
      rintro e w3 ⟨rfl, k3⟩
      have K3 := xmA (K2.out.trans k3)
      clear k3
      unfold strL
      go_wp2_with fail
      go_ret2
      exact ⟨by rw [E.out]; rfl, K3.out⟩
    have E : Hid (catP (res.drop (i + 1)) (all ++ s) = RR) := xmA (by rw [← HR.out, ← CT.out, CS.out, if_neg (by simp at hgt ⊢; omega)])
    have hal2 : (all ++ s).length ≤ 200 := by omega
    clear hgt
    go_wp2_with fail
    go_roundw
    case rel => exact ⟨i + 1, all ++ s, by go_num, by omega, rfl, hal2, by rw [E.out, HR.out], K2.out⟩
    case measure => simp [intOf]; omega
  have he : i = L.length := by omega
  subst he
  have E : Hid (RR = (all, true)) := xmA (by rw [← HR.out, ← CT.out, List.drop_eq_nil_of_le (by rw [HN.out]; omega)]; rfl)
  unfold strL
  go_wp2_with fail
  go_ret2
  exact ⟨by rw [E.out]; rfl, K.out⟩
end Go.Proofs.YtjahiihmoglpfaaGreatDoor
