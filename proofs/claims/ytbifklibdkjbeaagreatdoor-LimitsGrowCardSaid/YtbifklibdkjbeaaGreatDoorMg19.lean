/-
  Several texts in one: The document's code point at a text's beginning is the program's: plain Lean. The document's Get, points. The document's points. What a tree begins with: lit.Prefix at chars, cats. lit.alike, alt at any texts. A quoted text, in plain Lean: what it is, what it parses to.
-/
import Derived.Test.YtbifklibdkjbeaaGreatDoorMg18
import Derived.Test.YtbifklibdkjbeaaGreatDoorPaSimMG
import Derived.Deep.RegionHeld3
import Derived.Deep.CutRange
import Derived.BigRegion
import Derived.BigQuiet
import Derived.Test.YtbifklibdkjbeaaGreatDoorMg6
import Derived.Test.YtbifklibdkjbeaaGreatDoorMg9
import Derived.Deep.QuietTactic
namespace Go.Proofs.YtbifklibdkjbeaaGreatDoor
open Go.RowKit
set_option linter.unusedVariables false
set_option linter.unusedSimpArgs false
set_option maxRecDepth 100000
set_option maxHeartbeats 8000000
def getQ (l : List UInt8) (n : Nat) : Bool := isB (valP (l.take n) : Int) && decide (putP (valP (l.take n)) = l.take n)
def getN : Nat → Nat → List UInt8 → Int × Nat
 | 0, _, _ => (65533, 1)
 | f + 1, n, l => if n ≤ 4 ∧ n ≤ l.length then (if getQ l n then ((valP (l.take n) : Int), n) else getN f (n + 1) l) else (65533, 1)
theorem u8n {n : Nat} (h : n < 256) : (UInt8.ofNat n).toNat = n := by rw [UInt8.toNat_ofNat_of_lt' (by show n < 256; exact h)]
theorem u8eq {c : UInt8} {n : Nat} (h : c.toNat = n) : c = UInt8.ofNat n := by rw [← h]; simp
theorem xhy {r : Nat} (h : isB (r : Int) = true) : sizP (r : Int) = if r < 128 then 1 else if r < 2048 then 2 else if r < 65536 then 3 else 4 := by
 unfold sizP; rw [h]; simp only [if_true]
 repeat' split
 all_goals first | rfl | omega
theorem get_put {c : UInt8} {t : List UInt8} {r : Nat} (hb : isB (r : Int) = true) (n : Nat) (hn : n ≤ (c :: t).length) (hp : putP r = (c :: t).take n) : getP (c :: t) = ((r : Int), n) := by
 have hr : r ≤ 1114111 := by simp [isB] at hb; omega
 have hs := xhy hb
 have hlen := congrArg List.length hp
 rw [List.length_take, Nat.min_eq_left hn] at hlen
 unfold putP at hp hlen
 by_cases h1 : r < 128
 · rw [if_pos h1] at hp hlen
   obtain rfl : n = 1 := by simpa using hlen.symm
   simp only [List.take_succ_cons, List.take_zero, List.cons.injEq, and_true] at hp
   have hc : c.toNat = r := by rw [← hp, u8n (by omega)]
   rw [xj7 c t (by omega), hc]
 rw [if_neg h1] at hp hlen hs
 by_cases h2 : r < 2048
 · rw [if_pos h2] at hp hlen hs
   obtain rfl : n = 2 := by simpa [xdq] using hlen.symm
   rcases t with _ | ⟨b1, t⟩
   · simp at hn
   simp only [List.take_succ_cons, List.take_zero, lowB, List.cons.injEq, and_true] at hp
   obtain ⟨e0, e1⟩ := hp
   have c0 : c.toNat = 192 + r / 64 := by rw [← e0, u8n (by omega)]
   have c1 : b1.toNat = 128 + r % 64 := by rw [← e1, u8n (by simp; omega)]; simp
   have hl : lenP c.toNat = 2 := by unfold lenP; rw [if_neg (by omega), if_pos (by omega)]
   rw [xcx, hl, if_neg (by simp)]
   have ht : xbm (xbR c) ((b1 :: t).take (2 - 1)) = some r := by
    unfold xbR
    rw [hl, if_pos (by omega)]
    simp only [show 2 - 1 = 1 from rfl, List.take_succ_cons, List.take_zero, xbm]
    rw [if_pos (by omega)]
    congr 1
    rw [c0, c1]; simp; omega
   rw [ht]
   simp only
   rw [if_pos (by rw [hs]; rfl)]
 rw [if_neg h2] at hp hlen hs
 by_cases h3 : r < 65536
 · rw [if_pos h3] at hp hlen hs
   obtain rfl : n = 3 := by simpa [xdq] using hlen.symm
   rcases t with _ | ⟨b1, _ | ⟨b2, t⟩⟩
   · simp at hn
   · simp at hn
   simp only [List.take_succ_cons, List.take_zero, lowB, List.cons.injEq, and_true] at hp
   obtain ⟨e0, e1, e2⟩ := hp
   have c0 : c.toNat = 224 + r / 4096 := by rw [← e0, u8n (by omega)]
   have c1 : b1.toNat = 128 + r / 64 % 64 := by rw [← e1, u8n (by simp; omega), Nat.pow_one]
   have c2 : b2.toNat = 128 + r % 64 := by rw [← e2, u8n (by simp; omega)]; simp
   have hl : lenP c.toNat = 3 := by unfold lenP; rw [if_neg (by omega), if_neg (by omega), if_pos (by omega)]
   rw [xcx, hl, if_neg (by simp)]
   have ht : xbm (xbR c) ((b1 :: b2 :: t).take (3 - 1)) = some r := by
    unfold xbR
    rw [hl, if_pos (by omega)]
    simp only [show 3 - 1 = 2 from rfl, List.take_succ_cons, List.take_zero, xbm]
    rw [if_pos (by omega), if_pos (by omega)]
    congr 1
    rw [c0, c1, c2]; simp; omega
   rw [ht]
   simp only
   rw [if_pos (by rw [hs]; rfl)]
 rw [if_neg h3] at hp hlen hs
 obtain rfl : n = 4 := by simpa [xdq] using hlen.symm
 rcases t with _ | ⟨b1, _ | ⟨b2, _ | ⟨b3, t⟩⟩⟩
 · simp at hn
 · simp at hn
 · simp at hn
 simp only [List.take_succ_cons, List.take_zero, lowB, List.cons.injEq, and_true] at hp
 obtain ⟨e0, e1, e2, e3⟩ := hp
 have c0 : c.toNat = 240 + r / 262144 := by rw [← e0, u8n (by omega)]
 have c1 : b1.toNat = 128 + r / 4096 % 64 := by rw [← e1, u8n (by simp; omega)]
 have c2 : b2.toNat = 128 + r / 64 % 64 := by rw [← e2, u8n (by simp; omega), Nat.pow_one]
 have c3 : b3.toNat = 128 + r % 64 := by rw [← e3, u8n (by simp; omega)]; simp
 have hl : lenP c.toNat = 4 := by unfold lenP; rw [if_neg (by omega), if_neg (by omega), if_neg (by omega), if_pos (by omega)]
 rw [xcx, hl, if_neg (by simp)]
 have ht : xbm (xbR c) ((b1 :: b2 :: b3 :: t).take (4 - 1)) = some r := by
  unfold xbR
  rw [hl, if_pos (by omega)]
  simp only [show 4 - 1 = 3 from rfl, List.take_succ_cons, List.take_zero, xbm]
  rw [if_pos (by omega), if_pos (by omega), if_pos (by omega)]
  congr 1
  rw [c0, c1, c2, c3]; simp; omega
 rw [ht]
 simp only
 rw [if_pos (by rw [hs]; rfl)]
theorem xk1 {c : UInt8} {t : List UInt8} (h : sizP (getP (c :: t)).1 = ((getP (c :: t)).2 : Int)) : 1 ≤ (getP (c :: t)).2 ∧ (getP (c :: t)).2 ≤ 4 ∧ (getP (c :: t)).2 ≤ (c :: t).length ∧ getQ (c :: t) (getP (c :: t)).2 = true ∧ ((valP ((c :: t).take (getP (c :: t)).2) : Nat) : Int) = (getP (c :: t)).1 := by
 have h65 : ¬ sizP 65533 = ((1 : Nat) : Int) := by decide
 have hc256 := c.toNat_lt
 have hpos := xdt c t
 have hle := xlJ c t
 refine ⟨hpos.1, hpos.2, by simpa using hle, ?_⟩
 by_cases h0 : lenP c.toNat = 0 ∨ t.length + 1 < lenP c.toNat
 · rw [xcx, if_pos h0] at h; exact absurd h h65
 have e := xcx c t
 rw [if_neg h0] at e
 cases ht : xbm (xbR c) (t.take (lenP c.toNat - 1)) with
 | none => rw [ht] at e; rw [e] at h; exact absurd h h65
 | some r =>
  rw [ht] at e
  simp only at e
  by_cases hs : sizP r = lenP c.toNat
  · rw [if_pos hs] at e
    rw [e]
    simp only
    have hl4 := xno c.toNat
    have hbr : isB (r : Int) = true := by
     unfold sizP at hs
     cases hb : isB (r : Int) with
     | true => rfl
     | false => rw [hb] at hs; simp at hs; omega
    have hsz := xhy hbr
    suffices hv : valP ((c :: t).take (lenP c.toNat)) = r ∧ putP r = (c :: t).take (lenP c.toNat) by
     refine ⟨?_, by rw [hv.1]⟩
     unfold getQ
     rw [hv.1, hbr, hv.2]; simp
    rcases (by omega : lenP c.toNat = 1 ∨ lenP c.toNat = 2 ∨ lenP c.toNat = 3 ∨ lenP c.toNat = 4) with hl | hl | hl | hl
    · have hc := xnn hl
      have hh : xbR c = c.toNat := by unfold xbR; rw [hl]; simp
      rw [hl] at ht ⊢
      simp only [Nat.sub_self, List.take_zero, xbm, Option.some.injEq] at ht
      rw [hh] at ht
      subst ht
      refine ⟨by simp only [List.take_succ_cons, List.take_zero, valP, List.foldl_nil, valH]; rw [if_neg (by omega), if_neg (by omega), if_neg (by omega)], ?_⟩
      unfold putP
      rw [if_pos hc]; simp
    · have hcr : 194 ≤ c.toNat ∧ c.toNat < 224 := by unfold lenP at hl; (repeat' split at hl) <;> omega
      have hh : xbR c = c.toNat % 32 := by unfold xbR; rw [hl]; simp
      rw [hl] at ht hs ⊢
      rcases t with _ | ⟨b1, t⟩
      · simp at h0; omega
      simp only [show 2 - 1 = 1 from rfl, List.take_succ_cons, List.take_zero, xbm] at ht ⊢
      split at ht
      · rename_i g1
        obtain rfl := Option.some.inj ht
        rw [hh] at *
        rw [hsz] at hs
        refine ⟨by simp only [valP, valH, List.foldl_cons, List.foldl_nil]; rw [if_neg (by omega), if_neg (by omega), if_pos (by omega)]; omega, ?_⟩
        unfold putP
        rw [if_neg (by intro hh; rw [if_pos hh] at hs; simp at hs), if_pos (by split at hs <;> (try split at hs) <;> (try split at hs) <;> simp at hs <;> omega)]
        simp only [lowB, List.cons.injEq, and_true]
        exact ⟨(u8eq (by omega)).symm, (u8eq (by simp; omega)).symm⟩
      cases ht
    · have hcr : 224 ≤ c.toNat ∧ c.toNat < 240 := by unfold lenP at hl; (repeat' split at hl) <;> omega
      have hh : xbR c = c.toNat % 16 := by unfold xbR; rw [hl]; simp
      rw [hl] at ht hs ⊢
      rcases t with _ | ⟨b1, _ | ⟨b2, t⟩⟩
      · simp at h0; omega
      · simp at h0; omega
      simp only [show 3 - 1 = 2 from rfl, List.take_succ_cons, List.take_zero, xbm] at ht ⊢
      split at ht
      · rename_i g1
        split at ht
        · rename_i g2
          obtain rfl := Option.some.inj ht
          rw [hh] at *
          rw [hsz] at hs
          refine ⟨by simp only [valP, valH, List.foldl_cons, List.foldl_nil]; rw [if_neg (by omega), if_pos (by omega)]; omega, ?_⟩
          unfold putP
          rw [if_neg (by intro hh; rw [if_pos hh] at hs; simp at hs), if_neg (by intro hh; split at hs <;> simp at hs <;> (try split at hs) <;> simp at hs <;> omega), if_pos (by split at hs <;> (try split at hs) <;> (try split at hs) <;> simp at hs <;> omega)]
          simp only [lowB, List.cons.injEq, and_true]
          exact ⟨(u8eq (by omega)).symm, (u8eq (by simp; omega)).symm, (u8eq (by simp; omega)).symm⟩
        cases ht
      cases ht
    have hcr : 240 ≤ c.toNat ∧ c.toNat < 245 := by unfold lenP at hl; (repeat' split at hl) <;> omega
    have hh : xbR c = c.toNat % 8 := by unfold xbR; rw [hl]; simp
    rw [hl] at ht hs ⊢
    rcases t with _ | ⟨b1, _ | ⟨b2, _ | ⟨b3, t⟩⟩⟩
    · simp at h0; omega
    · simp at h0; omega
    · simp at h0; omega
    simp only [show 4 - 1 = 3 from rfl, List.take_succ_cons, List.take_zero, xbm] at ht ⊢
    split at ht
    · rename_i g1
      split at ht
      · rename_i g2
        split at ht
        · rename_i g3
          obtain rfl := Option.some.inj ht
          rw [hh] at *
          rw [hsz] at hs
          refine ⟨by simp only [valP, valH, List.foldl_cons, List.foldl_nil]; rw [if_pos (by omega)]; omega, ?_⟩
          unfold putP
          rw [if_neg (by intro hh; rw [if_pos hh] at hs; simp at hs), if_neg (by intro hh; split at hs <;> simp at hs <;> (try split at hs) <;> simp at hs <;> omega), if_neg (by intro hh; split at hs <;> (try split at hs) <;> (try split at hs) <;> simp at hs <;> omega)]
          simp only [lowB, List.cons.injEq, and_true]
          exact ⟨(u8eq (by omega)).symm, (u8eq (by simp; omega)).symm, (u8eq (by simp; omega)).symm, (u8eq (by simp; omega)).symm⟩
        cases ht
      cases ht
    cases ht
  rw [if_neg hs] at e; rw [e] at h; exact absurd h h65
theorem xnw {c : UInt8} {t : List UInt8} {n : Nat} (hn : n ≤ (c :: t).length) (h : getQ (c :: t) n = true) : getP (c :: t) = ((valP ((c :: t).take n) : Int), n) ∧ sizP (getP (c :: t)).1 = ((getP (c :: t)).2 : Int) := by
 unfold getQ at h
 simp only [Bool.and_eq_true, decide_eq_true_eq] at h
 have h1 := get_put h.1 n hn h.2
 refine ⟨h1, ?_⟩
 rw [h1]
 simp only
 rw [xhy h.1]
 have hl := congrArg List.length h.2
 rw [List.length_take, Nat.min_eq_left hn] at hl
 unfold putP at hl
 (repeat' split at hl) <;> simp [xdq] at hl <;> subst hl <;> (repeat' split) <;> first | rfl | omega
theorem getN_eq {c : UInt8} {t : List UInt8} : ∀ (f n : Nat), 1 ≤ n → 5 ≤ f + n → (∀ k, 1 ≤ k → k < n → k ≤ (c :: t).length → getQ (c :: t) k = false) → getN f n (c :: t) = if sizP (getP (c :: t)).1 = ((getP (c :: t)).2 : Int) then getP (c :: t) else (65533, 1) := by
 have hno : ∀ n, 1 ≤ n → ¬ (n ≤ 4 ∧ n ≤ (c :: t).length) → (∀ k, 1 ≤ k → k < n → k ≤ (c :: t).length → getQ (c :: t) k = false) → ¬ sizP (getP (c :: t)).1 = ((getP (c :: t)).2 : Int) := by
  intro n h1 h2 h3 hv
  obtain ⟨g1, g2, g3, g4, _⟩ := xk1 hv
  have := h3 _ g1 (by omega) g3
  rw [this] at g4; cases g4
 intro f
 induction f with
 | zero =>
  intro n h1 h2 h3
  rw [if_neg (hno n h1 (by omega) h3)]; rfl
 | succ f ih =>
  intro n h1 h2 h3
  rw [getN]
  by_cases hc : n ≤ 4 ∧ n ≤ (c :: t).length
  · rw [if_pos hc]
    cases hq : getQ (c :: t) n with
    | true =>
     obtain ⟨g1, g2⟩ := xnw hc.2 hq
     rw [if_pos rfl, if_pos g2, g1]
    | false =>
     rw [if_neg (by simp)]
     exact ih (n + 1) (by omega) (by omega) (fun k k1 k2 k3 => by
      by_cases hk : k = n
      · rw [hk]; exact hq
      exact h3 k k1 (by omega) k3)
  rw [if_neg hc, if_neg (hno n h1 hc h3)]
theorem xmY (c : UInt8) (t : List UInt8) (w : World) (hl : t.length ≤ 1000) : Calls Tryz.prog 146 #[.string ⟨(c :: t).toArray⟩] w fun e w' => e = .returned (.tuple #[.int .i64 (getN 4 1 (c :: t)).1, .int .i64 (getN 4 1 (c :: t)).2]) ∧ xa (fun _ => False) w w' := by
 obtain ⟨l, hle⟩ : ∃ l, c :: t = l := ⟨_, rfl⟩
 rw [hle]
 have hlen : l.length ≤ 1001 ∧ 1 ≤ l.length := by rw [← hle]; simp; omega
 obtain ⟨R, hR⟩ : ∃ R, getN 4 1 l = R := ⟨_, rfl⟩
 rw [hR]
 have HR := xoo hR
 have HLE := xoo hle
 have g0 : ((l.length : Int) == 0) = false := beq_eq_false_iff_ne.2 (by omega)
 clear hR hle hl
 go_enter Tryz.func146, Tryz.ntmps146
 go_wp2_with fail
 go_loopw [4] (fun nv wr => ∃ (f n : Nat), nv = .int .i64 n ∧ 1 ≤ n ∧ n ≤ 5 ∧ f + n = 5 ∧ getN f n l = R ∧ xa (fun _ => False) w wr) (fun nv _ => 6 - (intOf nv).toNat)
 case atStart => exact ⟨4, 1, rfl, by omega, by omega, by omega, HR.out, xa.refl _ _⟩
 case round =>
  obtain ⟨f, n, rfl, hn1, hn5, hfn, hg, hkw⟩ := hrel
  have K := xoo hkw
  have HG := xoo hg
  clear hkw hg
  by_cases h4 : n ≤ 4
  · by_cases hnl : n ≤ l.length
    · obtain ⟨f, rfl⟩ : ∃ k, f = k + 1 := ⟨f - 1, by omega⟩
      have hg := HG.out
      rw [getN, if_pos ⟨h4, hnl⟩] at hg
      have ht : ∃ u, l.take n = c :: u ∧ u.length ≤ 3 := by
       obtain ⟨m, hm⟩ : ∃ m, n = m + 1 := ⟨n - 1, by omega⟩
       exact ⟨t.take m, by rw [← HLE.out, hm, List.take_succ_cons], by rw [List.length_take]; omega⟩
      obtain ⟨u, hu, hul⟩ := ht
      rw [hu] at hg
      have hE : (⟨l.toArray⟩ : ByteArray).extract 0 n = ⟨(c :: u).toArray⟩ := by
       apply ByteArray.ext
       rw [← hu]
       simp [ByteArray.data_extract]
      have hsl : n ≤ (⟨l.toArray⟩ : ByteArray).size := by simpa [ByteArray.size] using hnl
      have HV := xoo (fun W => xkw c u W hul)
      obtain ⟨V, hV⟩ : ∃ V, valP (c :: u) = V := ⟨_, rfl⟩
      rw [hV] at HV
      have hq : getQ l n = (isB (V : Int) && decide (putP V = c :: u)) := by unfold getQ; rw [hu, hV]
      rw [hq, hV] at hg
      have HG2 := xoo hg
      have KI : ∀ W, xa (fun _ => False) wr W → Calls Tryz.prog 182 #[.int .i64 V] W fun e w' => e = .returned (.bool (isB (V : Int))) ∧ xa (fun _ => False) wr w' := fun W kW => (xf3 (V : Int) W).mono fun e w' ⟨e1, e2⟩ => ⟨e1, by rw [← e2]; exact kW⟩
      have KP : isB (V : Int) = true → ∀ W, xa (fun _ => False) wr W → Calls Tryz.prog 147 #[.int .i64 V] W fun e w' => e = .returned (.string ⟨(putP V).toArray⟩) ∧ xa (fun _ => False) wr w' := fun hb W kW => (xf2 V W hb).mono fun e w' ⟨e1, e2⟩ => ⟨e1, kW.trans e2⟩
      have hkd : xa (fun _ => False) wr wr.drew := (xa.refl _ _).drew
      clear hg hu hq hV
      cases hb : isB (V : Int) with
      | false =>
       have KQ : ∀ W, Calls Tryz.prog 182 #[.int .i64 V] W fun e w' => e = .returned (.bool false) ∧ w' = W := fun W => by
        have := xf3 (V : Int) W
        rw [hb] at this
        exact this.mono fun e w' ⟨e1, e2⟩ => ⟨e1, e2.symm⟩
       rw [hb] at KI HG2
       simp only [Bool.false_and, Bool.false_eq_true, if_false] at HG2
       clear KP hb
       go_wp2_with fail
       refine (HV.out _).mono ?_
       rintro e w2 ⟨rfl, rfl⟩
       go_wp2_with fail
       go_quiet (first | (go_at_call 182; exact Calls.quiet_of_same (KQ _)))
       go_wp2_with fail
       go_roundw
       case rel => exact ⟨f, n + 1, by go_num, by omega, by omega, by omega, HG2.out, K.out.drawN _⟩
       case measure => simp [intOf]; omega
      | true =>
       have KP2 := KP hb
       rw [hb] at KI HG2
       simp only [Bool.true_and] at HG2
       clear KP hb
       generalize putP V = PV at *
       by_cases hpv : PV = c :: u
       · subst hpv
         simp only [decide_true, if_true] at HG2
         go_wp2_with fail
         refine (HV.out _).mono ?_
         rintro e w2 ⟨rfl, rfl⟩
         go_wp2_with fail
         go_region_held3 (fun w' => xa (fun _ => False) wr w') (first | exact hkd | assumption) (first | (go_at_call 182; refine (KI _ ?_).mono ?_; (first | exact hkd | assumption); rintro e w' ⟨rfl, hkn⟩) | (go_at_call 147; refine (KP2 _ ?_).mono ?_; (first | exact hkd | assumption); rintro e w' ⟨rfl, hkn⟩))
         go_wp2_with fail
         go_ret2
         exact ⟨by rw [← HG2.out]; rfl, K.out.trans (by assumption)⟩
       have hpq : (PV == c :: u) = false := by simpa using hpv
       have hpd : decide (PV = c :: u) = false := by simpa using hpv
       rw [hpd] at HG2
       simp only [Bool.false_eq_true, if_false] at HG2
       clear hpv hpd
       go_wp2_with fail
       refine (HV.out _).mono ?_
       rintro e w2 ⟨rfl, rfl⟩
       go_wp2_with fail
       go_region_held3 (fun w' => xa (fun _ => False) wr w') (first | exact hkd | assumption) (first | (go_at_call 182; refine (KI _ ?_).mono ?_; (first | exact hkd | assumption); rintro e w' ⟨rfl, hkn⟩) | (go_at_call 147; refine (KP2 _ ?_).mono ?_; (first | exact hkd | assumption); rintro e w' ⟨rfl, hkn⟩))
       go_wp2_with fail
       go_roundw
       case rel => exact ⟨f, n + 1, by go_num, by omega, by omega, by omega, HG2.out, K.out.trans (by assumption)⟩
       case measure => simp [intOf]; omega
    have hE : R = (65533, 1) := by
     have := HG.out
     cases f with
     | zero => exact this.symm
     | succ f => rw [getN, if_neg (by omega)] at this; exact this.symm
    subst hE
    go_wp2_with fail
    go_ret2
    exact ⟨rfl, K.out⟩
  have hE : R = (65533, 1) := by
   have := HG.out
   cases f with
   | zero => exact this.symm
   | succ f => rw [getN, if_neg (by omega)] at this; exact this.symm
  subst hE
  go_wp2_with fail
  go_ret2
  exact ⟨rfl, K.out⟩
def RPts (l : List UInt8) (base : Nat) (w : World) (sv ov : Value) (wr : World) : Prop :=
 ∃ (rest : List UInt8) (acc : List Int), sv = .string ⟨rest.toArray⟩ ∧ acc.length + rest.length ≤ l.length ∧ wr.ownsRow base 3 1 ov acc.length (acc.map (Value.int .i64)) ∧ xa (fun _ => False) w wr ∧ pts l = (pts rest).map (acc ++ ·)
def xn3 : Value → Nat
 | .string s => s.size
 | _ => 0
theorem xjF : putP 65533 = [239, 191, 189] := by decide +kernel
theorem xeO (l : List UInt8) (n : Nat) : (⟨l.toArray⟩ : ByteArray).extract 0 n = ⟨(l.take n).toArray⟩ := by
 apply ByteArray.ext
 simp [ByteArray.data_extract]
theorem xl8 (l : List UInt8) (n : Nat) : (⟨l.toArray⟩ : ByteArray).extract n l.length = ⟨(l.drop n).toArray⟩ := by
 apply ByteArray.ext
 simp [ByteArray.data_extract, List.extract_eq_take_drop]
 rw [List.take_of_length_le (by simp)]
theorem xhG (l : List UInt8) (w : World) (hl : l.length ≤ 1000) :
 Calls Tryz.prog 106 #[.string ⟨l.toArray⟩] w fun e w' => PtsE w.heap.size l e w' ∧ xa (fun _ => False) w w' := by
 obtain ⟨i0, hi0, hz0, hz1, hz2⟩ := info_parts xds
 go_enter Tryz.func106, Tryz.ntmps106
 go_wp2_with fail
 go_loopw [0, 4] (fun sv ov wr => RPts l w.heap.size w sv ov wr) (fun sv _ _ => xn3 sv)
 case atStart => exact ⟨l, [], rfl, by simp, World.ownsRow_nil _ _ _ _, xa.refl _ _, by simp⟩
 case round =>
  obtain ⟨rest, acc, rfl, hlen, hown, hkw, hp⟩ := hrel
  have K := xoo hkw
  have OW := xoo hown
  have Hp := xoo hp
  obtain ⟨va, vc, rfl⟩ := xac hown
  have hsw := hkw.size
  clear hp hown hkw
  cases rest with
  | nil =>
   have E : Hid (pts l = some acc) := xoo (by rw [Hp.out]; simp [pts, ptsP])
   go_wp2_with fail
   go_ret2
   refine ⟨?_, K.out⟩
   unfold PtsE
   rw [E.out]
   exact ⟨_, rfl, OW.out⟩
  | cons c t =>
   have hpc := xm2 (c := c) (l := t)
   have hgn := getN_eq (c := c) (t := t) 4 1 (by omega) (by omega) (fun k k1 k2 _ => by omega)
   simp only [List.length_cons] at hlen
   have HG := xoo (fun W => xmY c t W (by omega))
   by_cases hv : sizP (getP (c :: t)).1 = ((getP (c :: t)).2 : Int)
   · rw [if_pos hv] at hpc hgn
     rw [hgn] at HG
     obtain ⟨g1, g2, g3, g4, g5⟩ := xk1 hv
     unfold getQ at g4
     simp only [Bool.and_eq_true, decide_eq_true_eq] at g4
     obtain ⟨V, hV⟩ : ∃ V, valP ((c :: t).take (getP (c :: t)).2) = V := ⟨_, rfl⟩
     rw [hV] at g4 g5
     obtain ⟨n, hn⟩ : ∃ n, (getP (c :: t)).2 = n := ⟨_, rfl⟩
     rw [← g5, hn] at HG
     rw [← g5, hn] at hpc
     rw [hn] at g1 g2 g3 g4
     have E2 : Hid (pts l = ((pts ((c :: t).drop n)).map ((V : Int) :: ·)).map (acc ++ ·)) := xoo (by rw [Hp.out, hpc])
     have hE1 := xeO (c :: t) n
     have hE2 := xl8 (c :: t) n
     rw [← g4.2] at hE1
     have hdl : ((c :: t).drop n).length = t.length + 1 - n := by simp
     obtain ⟨rest', hrest⟩ : ∃ r, (c :: t).drop n = r := ⟨_, rfl⟩
     rw [hrest] at hE2 hdl E2
     have hr0 : V ≤ 1114111 := by have := g4.1; simp [isB] at this; omega
     have KP0 := xoo (fun W => xf2 V W g4.1)
     generalize putP V = PV at *
     have hn3 : n ≤ t.length + 1 := by simpa using g3
     have hI1 : (0 : Int) ≤ (n : Int) := by omega
     have hI2 : (n : Int) ≤ (t.length : Int) + 1 := by omega
     clear hpc hgn hv g4 g5 hV hn hrest g3
     go_wp2_with fail
     refine (HG.out _).mono ?_
     rintro e w2 ⟨rfl, k2⟩
     have hkd : xa (fun _ => False) w2 w2.drew := (xa.refl _ _).drew
     have KP : ∀ W, xa (fun _ => False) w2 W → Calls Tryz.prog 147 #[.int .i64 V] W fun e w' => e = .returned (.string ⟨PV.toArray⟩) ∧ xa (fun _ => False) w2 w' := fun W kW => (KP0.out W).mono fun e w' ⟨e1, e2⟩ => ⟨e1, kW.trans e2⟩
     have K2 := xoo k2
     clear k2
     go_wp2_with fail
     go_region_held3 (fun w' => xa (fun _ => False) w2 w') (first | exact hkd | assumption) (first | (go_at_call 147; refine (KP _ ?_).mono ?_; (first | exact hkd | assumption); rintro e w' ⟨rfl, hkn⟩))
     have K3 : Hid (xa (fun _ => False) wr w') := xoo (K2.out.trans hkn)
     have hs3 := K3.out.size
     go_wp2_with (at_builtin; refine wpList_append_own _ rfl (.tmp 21) (.tmp 23) 23 rfl w.heap.size 3 i0 (.int .i64 0) 1 8 Tryz.underlying23 hi0 hz0 hz1 hz2 rfl (by decide) _ _ _ rfl (xab (xae OW.out K3.out (fun _ _ => id)) _) ⟨w'.heap.size, 0, none⟩ 1 1 [.int .i64 V] rfl rfl (by exact xan _ [_] _) (by intro u hu; simp at hu; subst hu; rfl) ?d3 ?d4 ?d5 ?_)
     case d3 => unfold maxLen; omega
     case d4 => omega
     case d5 => simp; omega
     intro v' w4 hown' hgrow _
     have hk4 : xa (fun k => w.heap.size ≤ k) wr w4 := ((K3.out.mono (fun _ _ e => e.elim)).alloc (.cells #[.int .i64 V] 3)).grown hgrow (fun b hb => Or.inl (xaa OW.out b hb))
     have K4 : Hid (xa (fun _ => False) w w4) := xoo (K.out.trans2 hk4 (fun i hi e => by omega))
     have O4 : Hid (w4.ownsRow w.heap.size 3 1 v' (acc ++ [(V : Int)]).length ((acc ++ [(V : Int)]).map (Value.int .i64))) := xoo (by simpa using hown')
     clear hown' hgrow hk4
     go_wp2_with fail
     go_roundw
     case rel => exact ⟨rest', acc ++ [(V : Int)], congrArg Value.string hE2, by simp; omega, O4.out, K4.out, by rw [E2.out, Option.map_map]; congr 1; funext q; simp⟩
     case measure => simp [xn3, ByteArray.size]; omega
   rw [if_neg hv] at hpc hgn
   rw [hgn] at HG
   have E2 : Hid (pts l = none) := xoo (by rw [Hp.out, hpc]; rfl)
   have KP0 := xoo (fun W => xf2 65533 W (by decide))
   rw [xjF] at KP0
   have hE1 := xeO (c :: t) 1
   simp only [List.take_succ_cons, List.take_zero] at hE1
   have hne : (([239, 191, 189] : List UInt8) == [c]) = false := by simp
   have hg1 : 1 ≤ t.length + 1 := by omega
   have hI2 : (1 : Int) ≤ (t.length : Int) + 1 := by omega
   have hI3 : (0 : Int) ≤ (t.length : Int) := by omega
   clear hpc hgn hv
   go_wp2_with fail
   refine (HG.out _).mono ?_
   rintro e w2 ⟨rfl, k2⟩
   have hkd : xa (fun _ => False) w2 w2.drew := (xa.refl _ _).drew
   have KP : ∀ W, xa (fun _ => False) w2 W → Calls Tryz.prog 147 #[.int .i64 65533] W fun e w' => e = .returned (.string ⟨#[239, 191, 189]⟩) ∧ xa (fun _ => False) w2 w' := fun W kW => (KP0.out W).mono fun e w' ⟨e1, e2⟩ => ⟨e1, kW.trans e2⟩
   have K2 := xoo k2
   clear k2
   go_wp2_with fail
   go_region_held3 (fun w' => xa (fun _ => False) w2 w') (first | exact hkd | assumption) (first | (go_at_call 147; refine (KP _ ?_).mono ?_; (first | exact hkd | assumption); rintro e w' ⟨rfl, hkn⟩))
   go_wp2_with fail
   go_ret2
   refine ⟨?_, (K.out.trans K2.out).trans (by assumption)⟩
   unfold PtsE
   rw [E2.out]
   rfl
def PreE (r : List UInt8 × Bool) (w : World) (e : Ending) (w' : World) : Prop := e = .returned (.tuple #[strL r.1, .bool r.2]) ∧ xa (fun _ => False) w w'
def PreC (t : T) (r : List UInt8 × Bool) : Prop := ∀ (P : Nat → Prop) (v : NV) (w : World), TAt w P v t → Calls Tryz.prog 93 #[v.val] w fun e w' => PreE r w e w'
theorem xme (s : List UInt8) (b : Bool) (w : World) : Calls Tryz.prog 171 #[strL s, .bool b] w fun e w' => PreE (if 200 < s.length then (s.take 200, false) else (s, b)) w e w' := by
 unfold strL
 by_cases h : 200 < s.length
 · have g : decide ((200 : Int) < (s.length : Int)) = true := by simp; omega
   rw [if_pos h]
   go_enter Tryz.func171, Tryz.ntmps171
   go_wp2_with fail
   go_ret2
   refine ⟨?_, xa.refl _ _⟩
   simp [strL]
   exact xeO s 200
 have g : decide ((200 : Int) < (s.length : Int)) = false := by simp; omega
 rw [if_neg h]
 go_enter Tryz.func171, Tryz.ntmps171
 go_wp2_with fail
 go_ret2
 exact ⟨rfl, xa.refl _ _⟩
def catP : List (List UInt8 × Bool) → List UInt8 → List UInt8 × Bool
 | [], all => (all, true)
 | (s, b) :: r, all => if b = false ∨ 200 < (all ++ s).length then (if 200 < (all ++ s).length then ((all ++ s).take 200, false) else (all ++ s, false)) else catP r (all ++ s)
theorem xmn {res : List (List UInt8 × Bool)} {i : Nat} {s : List UInt8} {b : Bool} (all : List UInt8) (h : res[i]? = some (s, b)) : catP (res.drop i) all = if b = false ∨ 200 < (all ++ s).length then (if 200 < (all ++ s).length then ((all ++ s).take 200, false) else (all ++ s, false)) else catP (res.drop (i + 1)) (all ++ s) := by
 obtain ⟨h1, h2⟩ := List.getElem?_eq_some_iff.1 h
 rw [List.drop_eq_getElem_cons h1, h2]; rfl
def CatR (n : Nat) (res : List (List UInt8 × Bool)) (w : World) (iv av : Value) (wr : World) : Prop :=
 ∃ (i : Nat) (all : List UInt8), iv = .int .i64 i ∧ i ≤ n ∧ av = strL all ∧ all.length ≤ 200 ∧ catP (res.drop i) all = catP res [] ∧ xa (fun _ => False) w wr
theorem cat_any (P : Nat → Prop) (L : List T) (res : List (List UInt8 × Bool)) (a : Option Addr) (c : Nat) (w : World) (ha : KRow w P a L) (hl : L.length ≤ 4611686018427387904) (hn : res.length = L.length)
 (ih : ∀ (i : Nat) (k : T) (r : List UInt8 × Bool), L[i]? = some k → res[i]? = some r → PreC k r ∧ r.1.length ≤ 1000) :
 Calls Tryz.prog 134 #[.slice a L.length c] w fun e w' => PreE (catP res []) w e w' := by
 have IH := xoo ih
 have HA := xoo ha
 have HN := xoo hn
 have HC := xoo (fun s b W => xme s b W)
 obtain ⟨RR, hRR⟩ : ∃ R, catP res [] = R := ⟨_, rfl⟩
 rw [hRR]
 have HR := xoo hRR
 clear ih ha hn hRR
 go_enter Tryz.func134, Tryz.ntmps134
 go_wp2_with fail
 go_loopw [11, 4] (fun iv av wr => CatR L.length res w iv av wr) (fun iv _ _ => L.length - (intOf iv).toNat)
 case atStart => exact ⟨0, [], rfl, Nat.zero_le _, rfl, by simp, rfl, xa.refl _ _⟩
 case round =>
  obtain ⟨i, all, rfl, hi, rfl, hal, hct, hk⟩ := hrel
  have K := xoo hk
  have CT := xoo hct
  clear hk hct
  by_cases hil : i < L.length
  · obtain ⟨k, hki⟩ : ∃ k, L[i]? = some k := ⟨_, List.getElem?_eq_getElem hil⟩
    obtain ⟨⟨s, bw⟩, hri⟩ : ∃ r, res[i]? = some r := ⟨_, List.getElem?_eq_getElem (by rw [HN.out]; exact hil)⟩
    obtain ⟨b, off, uo, d1, f1, g1, um, ux, d2, f2, g2, rfl, hu, hlt, x0, x1, x2, x3, x4⟩ := (HA.out.keep K.out).at hki
    have hih := IH.out i k (s, bw) hki hri
    have hsl : s.length ≤ 1000 := hih.2
    have HS : Hid (∀ W, xa (fun _ => False) wr W → Calls Tryz.prog 93 #[.agg #[.int .i64 uo, .slice d1 f1 g1, .int .i64 um, .int .i64 ux, .slice d2 f2 g2]] W fun e w' => PreE (s, bw) W e w') := xoo (fun W kW =>
     hih.1 P ⟨uo, .slice d1 f1 g1, um, ux, .slice d2 f2 g2⟩ W (hu.keepsTo kW (fun _ _ => id) (fun _ h => h)))
    have CS := xoo (xmn all hri)
    clear hki hri hu hih
    have hap := str_app all s
    unfold strL
    go_wp2_with fail
    refine (HS.out _ (KI.out)).mono ?_
    rintro e w2 ⟨rfl, k2⟩
    have K2 : Hid (xa (fun _ => False) w w2) := xoo (K.out.trans (xa.trans (KI.out) k2))
    clear k2
    unfold strL
    by_cases hgt : 200 < (all ++ s).length
    · have g : decide ((200 : Int) < ((all.length : Int) + (s.length : Int))) = true := by simp at hgt ⊢; omega
      have E : Hid (RR = ((all ++ s).take 200, false)) := xoo (by rw [← HR.out, ← CT.out, CS.out, if_pos (Or.inr hgt), if_pos hgt])
      have HCC := xoo (fun W => HC.out (all ++ s) false W)
      rw [if_pos hgt] at HCC
      unfold strL at HCC
      clear hgt
      cases bw
      all_goals
       go_wp2_with fail
       refine (HCC.out _).mono ?_
       rintro e w3 ⟨rfl, k3⟩
       have K3 := xoo (K2.out.trans k3)
       clear k3
       unfold strL
       go_wp2_with fail
       go_ret2
       exact ⟨by rw [E.out]; rfl, K3.out⟩
    have g : decide ((200 : Int) < ((all.length : Int) + (s.length : Int))) = false := by simp at hgt ⊢; omega
    cases bw
    · have E : Hid (RR = (all ++ s, false)) := xoo (by rw [← HR.out, ← CT.out, CS.out, if_pos (Or.inl rfl), if_neg hgt])
      have HCC := xoo (fun W => HC.out (all ++ s) false W)
      rw [if_neg hgt] at HCC
      unfold strL at HCC
      clear hgt
      go_wp2_with fail
      refine (HCC.out _).mono ?_
      rintro e w3 ⟨rfl, k3⟩
      have K3 := xoo (K2.out.trans k3)
      clear k3
      unfold strL
      go_wp2_with fail
      go_ret2
      exact ⟨by rw [E.out]; rfl, K3.out⟩
    have E : Hid (catP (res.drop (i + 1)) (all ++ s) = RR) := xoo (by rw [← HR.out, ← CT.out, CS.out, if_neg (by simp at hgt ⊢; omega)])
    have hal2 : (all ++ s).length ≤ 200 := by omega
    clear hgt
    go_wp2_with fail
    go_roundw
    case rel => exact ⟨i + 1, all ++ s, by go_num, by omega, rfl, hal2, by rw [E.out, HR.out], K2.out⟩
    case measure => simp [intOf]; omega
  have he : i = L.length := by omega
  subst he
  have E : Hid (RR = (all, true)) := xoo (by rw [← HR.out, ← CT.out, List.drop_eq_nil_of_le (by rw [HN.out]; omega)]; rfl)
  unfold strL
  go_wp2_with fail
  go_ret2
  exact ⟨by rw [E.out]; rfl, K.out⟩
def xbH : List UInt8 → List UInt8 → List UInt8
 | x :: a, y :: b => if x = y then x :: xbH a b else []
 | _, _ => []
theorem xdR : ∀ (a b : List UInt8), (xbH a b).length ≤ a.length
 | [], _ => Nat.le_refl _
 | x :: a, [] => Nat.zero_le _
 | x :: a, y :: b => by
  have := xdR a b
  rw [xbH]; split <;> simp only [List.length_cons, List.length_nil] <;> omega
def LikR (a b : List UInt8) (w : World) (nv : Value) (wr : World) : Prop :=
 ∃ n : Nat, nv = .int .i64 n ∧ n ≤ a.length ∧ n ≤ b.length ∧ xbH a b = a.take n ++ xbH (a.drop n) (b.drop n) ∧ xa (fun _ => False) w wr
theorem xmB (a b : List UInt8) (w : World) (ha : a.length ≤ 100000) (hb : b.length ≤ 100000) : Calls Tryz.prog 172 #[strL a, strL b] w fun e w' => e = .returned (strL (xbH a b)) ∧ xa (fun _ => False) w w' := by
 unfold strL
 go_enter Tryz.func172, Tryz.ntmps172
 go_wp2_with fail
 go_loopw [5] (fun nv wr => LikR a b w nv wr) (fun nv _ => a.length - (intOf nv).toNat)
 case atStart => exact ⟨0, rfl, Nat.zero_le _, Nat.zero_le _, by simp, xa.refl _ _⟩
 case round =>
  obtain ⟨n, rfl, hna, hnb, hl, hk⟩ := hrel
  have K := xoo hk
  have HL := xoo hl
  clear hk hl
  by_cases h1 : n < a.length
  · by_cases h2 : n < b.length
    · obtain ⟨x, hx⟩ : ∃ x, a[n]? = some x := ⟨_, List.getElem?_eq_getElem h1⟩
      obtain ⟨y, hy⟩ : ∃ y, b[n]? = some y := ⟨_, List.getElem?_eq_getElem h2⟩
      have ix := idxC hx
      have iy := idxC hy
      have da : a.drop n = x :: a.drop (n + 1) := by
       obtain ⟨p1, p2⟩ := List.getElem?_eq_some_iff.1 hx
       rw [List.drop_eq_getElem_cons p1, p2]
      have db : b.drop n = y :: b.drop (n + 1) := by
       obtain ⟨p1, p2⟩ := List.getElem?_eq_some_iff.1 hy
       rw [List.drop_eq_getElem_cons p1, p2]
      by_cases hxy : x = y
      · subst hxy
        have HS : Hid (xbH a b = a.take (n + 1) ++ xbH (a.drop (n + 1)) (b.drop (n + 1))) := xoo (by
         rw [HL.out, da, db, xbH, if_pos rfl, List.take_add_one, hx]
         simp)
        clear da db hx hy
        go_wp2_with fail
        go_quiet (fail)
        go_wp2_with fail
        go_roundw
        case rel => exact ⟨n + 1, by go_num, by omega, by omega, HS.out, K.out.drawN _⟩
        case measure => simp [intOf]; omega
      have gxy : ((x.toNat : Int) == (y.toNat : Int)) = false := beq_eq_false_iff_ne.2 (fun e => hxy (UInt8.toNat_inj.1 (by omega)))
      have HS : Hid (xbH a b = a.take n) := xoo (by rw [HL.out, da, db, xbH, if_neg hxy, List.append_nil])
      have hex : (⟨a.toArray⟩ : ByteArray).extract 0 n = ⟨(a.take n).toArray⟩ := by
       apply ByteArray.ext
       simp [ByteArray.data_extract, List.extract_eq_take_drop]
      clear da db hx hy
      go_wp2_with fail
      go_quiet (fail)
      go_wp2_with fail
      go_ret
      exact ⟨by rw [HS.out, ← hex]; rfl, K.out.drawN _⟩
    have hbn : n = b.length := by omega
    have HS : Hid (xbH a b = a.take n) := xoo (by
     rw [HL.out, show b.drop n = [] from List.drop_eq_nil_of_le (by omega)]
     cases a.drop n <;> simp [xbH])
    have hex : (⟨a.toArray⟩ : ByteArray).extract 0 n = ⟨(a.take n).toArray⟩ := by
     apply ByteArray.ext
     simp [ByteArray.data_extract, List.extract_eq_take_drop]
    clear hbn
    go_wp2_with fail
    go_quiet (fail)
    go_wp2_with fail
    go_ret
    exact ⟨by rw [HS.out, ← hex]; rfl, K.out.drawN _⟩
  have HS : Hid (xbH a b = a.take n) := xoo (by
   rw [HL.out, show a.drop n = [] from List.drop_eq_nil_of_le (by omega)]
   simp [xbH])
  have hex : (⟨a.toArray⟩ : ByteArray).extract 0 n = ⟨(a.take n).toArray⟩ := by
   apply ByteArray.ext
   simp [ByteArray.data_extract, List.extract_eq_take_drop]
  go_wp2_with fail
  go_quiet (fail)
  go_wp2_with fail
  go_ret
  exact ⟨by rw [HS.out, ← hex]; rfl, K.out.drawN _⟩
def xbg (r t : List UInt8 × Bool) : List UInt8 × Bool := (xbH r.1 t.1, r.2 && (t.2 && (r.1 == t.1)))
def LaR (n : Nat) (rest : List (List UInt8 × Bool)) (R : List UInt8 × Bool) (w : World) (iv sv bv : Value) (wr : World) : Prop :=
 ∃ (i : Nat) (r : List UInt8 × Bool), iv = .int .i64 i ∧ i ≤ n ∧ sv = strL r.1 ∧ bv = .bool r.2 ∧ (rest.drop i).foldl xbg r = R ∧ r.1.length ≤ 1000 ∧ xa (fun _ => False) w wr
theorem xnD {q : List (List UInt8 × Bool)} {i : Nat} {p : List UInt8 × Bool} (h : q[i]? = some p) : q.drop i = p :: q.drop (i + 1) := by
 obtain ⟨h1, h2⟩ := List.getElem?_eq_some_iff.1 h
 rw [List.drop_eq_getElem_cons h1, h2]
theorem alt_any (P : Nat → Prop) (k0 : T) (L : List T) (r0 : List UInt8 × Bool) (rest : List (List UInt8 × Bool)) (a : Option Addr) (c : Nat) (w : World) (ha : KRow w P a (k0 :: L)) (hL : L.length ≤ 4000) (hn : rest.length = L.length) (hc : L.length + 1 ≤ c)
 (h0 : PreC k0 r0 ∧ r0.1.length ≤ 1000) (ih : ∀ (i : Nat) (k : T) (r : List UInt8 × Bool), L[i]? = some k → rest[i]? = some r → PreC k r ∧ r.1.length ≤ 1000) :
 Calls Tryz.prog 135 #[.slice a (L.length + 1) c] w fun e w' => PreE (rest.foldl xbg r0) w e w' := by
 obtain ⟨b, off, uo, d1, f1, g1, um, ux, d2, f2, g2, rfl, hu, hlt, x0, x1, x2, x3, x4⟩ := ha.at (i := 0) rfl
 simp only [Nat.zero_mul, Nat.add_zero] at x0 x1 x2 x3 x4
 have HS : Hid (∀ W, xa (fun _ => False) w W → Calls Tryz.prog 93 #[.agg #[.int .i64 uo, .slice d1 f1 g1, .int .i64 um, .int .i64 ux, .slice d2 f2 g2]] W fun e w' => PreE r0 W e w') := xoo (fun W kW =>
  h0.1 P ⟨uo, .slice d1 f1 g1, um, ux, .slice d2 f2 g2⟩ W (hu.keepsTo kW (fun _ _ => id) (fun _ h => h)))
 have HA := xoo ha
 have IH := xoo ih
 have HN := xoo hn
 obtain ⟨R, hR⟩ : ∃ R, rest.foldl xbg r0 = R := ⟨_, rfl⟩
 have HR := xoo hR
 rw [hR]
 have hr0 := h0.2
 clear ha hu ih hn hR h0
 go_enter Tryz.func135, Tryz.ntmps135
 go_wp2_with fail
 refine (HS.out _ (KI.out)).mono ?_
 rintro e w2 ⟨rfl, k2⟩
 have K2 := xoo k2
 clear k2 x0 x1 x2 x3 x4 HS
 unfold strL
 have hend : ∀ (i : Nat) (r : List UInt8 × Bool), i = L.length → (rest.drop i).foldl xbg r = R → r = R := fun i r hi h => by
  rw [List.drop_eq_nil_of_le (by rw [HN.out]; omega)] at h; exact h
 have HEnd := xoo hend
 clear hend
 by_cases hc1 : c = 1
 · subst hc1
   have hL0 : L.length = 0 := by omega
   rw [hL0]
   go_wp2_with fail
   go_loopw [20, 4, 5] (fun iv sv bv wr => LaR 0 rest R w iv sv bv wr) (fun iv _ _ _ => 0 - (intOf iv).toNat)
   case atStart => exact ⟨0, r0, rfl, Nat.zero_le _, rfl, rfl, HR.out, hr0, K2.out⟩
   case round =>
    obtain ⟨i, r, rfl, hi, rfl, rfl, hf, hrl, hk⟩ := hrel
    obtain rfl : i = 0 := by omega
    have HE := xoo (HEnd.out 0 r (by omega) hf)
    have K := xoo hk
    clear hf hk
    unfold strL
    go_wp2_with fail
    go_ret2
    exact ⟨by rw [← HE.out]; rfl, K.out⟩
 have hc2 : 1 < c := by omega
 go_wp2_with fail
 go_loopw [20, 4, 5] (fun iv sv bv wr => LaR L.length rest R w iv sv bv wr) (fun iv _ _ _ => L.length - (intOf iv).toNat)
 case atStart => exact ⟨0, r0, rfl, Nat.zero_le _, rfl, rfl, HR.out, hr0, K2.out⟩
 case round =>
  clear HR K2 hr0
  obtain ⟨i, r, rfl, hi, rfl, rfl, hf, hrl, hk⟩ := hrel
  have HF := xoo hf
  have K := xoo hk
  clear hf hk
  by_cases hil : i < L.length
  · obtain ⟨k, hki⟩ : ∃ k, L[i]? = some k := ⟨_, List.getElem?_eq_getElem hil⟩
    obtain ⟨t, hti⟩ : ∃ t, rest[i]? = some t := ⟨_, List.getElem?_eq_getElem (by rw [HN.out]; exact hil)⟩
    obtain ⟨b', off', uo', d1', f1', g1', um', ux', d2', f2', g2', hbb, hu', hlt', y0, y1, y2, y3, y4⟩ := HA.out.at (i := i + 1) (by simpa using hki)
    cases hbb
    obtain ⟨hp, htl⟩ := IH.out i k t hki hti
    have HS' : Hid (∀ W, xa (fun _ => False) w W → Calls Tryz.prog 93 #[.agg #[.int .i64 uo', .slice d1' f1' g1', .int .i64 um', .int .i64 ux', .slice d2' f2' g2']] W fun e w' => PreE t W e w') := xoo (fun W kW =>
     hp P ⟨uo', .slice d1' f1' g1', um', ux', .slice d2' f2' g2'⟩ W (hu'.keepsTo kW (fun _ _ => id) (fun _ h => h)))
    have HF2 : Hid ((rest.drop (i + 1)).foldl xbg (xbg r t) = R) := xoo (by have h := HF.out; rw [xnD hti] at h; exact h)
    have z0 := K.out.cell y0 id
    have z1 := K.out.cell y1 id
    have z2 := K.out.cell y2 id
    have z3 := K.out.cell y3 id
    have z4 := K.out.cell y4 id
    have e5 : off + (i + 1) * 5 = off + 5 + i * 5 := by omega
    rw [e5] at z0 z1 z2 z3 z4
    have hl2 : b < wr.heap.size := xay z0
    have hal := xdR r.1 t.1
    have HAl := xoo (fun W => xmB r.1 t.1 W (by omega) (by omega))
    clear y0 y1 y2 y3 y4 hki hti hu' hp e5 HF
    obtain ⟨s, wh⟩ := r
    obtain ⟨t1, too⟩ := t
    simp only at hal hrl htl HAl
    unfold strL at HAl ⊢
    go_wp2_with fail
    refine (HS'.out _ (K.out.trans (KI.out))).mono ?_
    rintro e w3 ⟨rfl, k3⟩
    have K3 : Hid (xa (fun _ => False) w w3) := xoo (xa.trans (K.out.trans (KI.out)) k3)
    clear k3 z0 z1 z2 z3 z4
    unfold strL
    cases wh with
    | false =>
     go_wp2_with fail
     refine (HAl.out _).mono ?_
     rintro e w4 ⟨rfl, k4⟩
     have K4 := xoo (K3.out.trans k4)
     clear k4
     go_wp2_with fail
     go_roundw
     case rel => exact ⟨i + 1, xbg (s, false) (t1, too), by go_num, by omega, rfl, rfl, HF2.out, by simp only [xbg]; omega, K4.out⟩
     case measure => simp [intOf]; omega
    | true =>
     cases too with
     | false =>
      go_wp2_with fail
      refine (HAl.out _).mono ?_
      rintro e w4 ⟨rfl, k4⟩
      have K4 := xoo (K3.out.trans k4)
      clear k4
      go_wp2_with fail
      go_roundw
      case rel => exact ⟨i + 1, xbg (s, true) (t1, false), by go_num, by omega, rfl, rfl, HF2.out, by simp only [xbg]; omega, K4.out⟩
      case measure => simp [intOf]; omega
     | true =>
      obtain ⟨q, hq⟩ : ∃ q, (s == t1) = q := ⟨_, rfl⟩
      have HQ := xoo hq
      go_wp2_with fail
      refine (HAl.out _).mono ?_
      rintro e w4 ⟨rfl, k4⟩
      have K4 := xoo (K3.out.trans k4)
      clear k4
      go_wp2_with fail
      go_roundw
      case rel => exact ⟨i + 1, xbg (s, true) (t1, true), by go_num, by omega, rfl, by simp [xbg, HQ.out], HF2.out, by simp only [xbg]; omega, K4.out⟩
      case measure => simp [intOf]; omega
  obtain rfl : i = L.length := by omega
  have HE := xoo (HEnd.out _ r rfl HF.out)
  clear HF
  unfold strL
  go_wp2_with fail
  go_ret2
  exact ⟨by rw [← HE.out]; rfl, K.out⟩

end Go.Proofs.YtbifklibdkjbeaaGreatDoor
