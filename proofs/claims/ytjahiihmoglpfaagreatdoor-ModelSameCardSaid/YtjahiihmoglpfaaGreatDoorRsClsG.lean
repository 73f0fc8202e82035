/-
  The document's class: it comes back with some set.
-/
import Derived.Test.YtjahiihmoglpfaaGreatDoorMg35
import Derived.BigQuiet
import Derived.Deep.AppendLies
import Derived.Deep.Cut
import Derived.Deep.CutRange
namespace Go.Proofs.YtjahiihmoglpfaaGreatDoor
open Go.RowKit
set_option linter.unusedVariables false
set_option linter.unusedSimpArgs false
set_option maxRecDepth 100000
theorem rng_one (l : List (Int × Int)) : ∀ u ∈ cellsOf 2 encR l, u.oneCell' = true := by
 intro u hu
 obtain ⟨j, hj⟩ := List.getElem?_of_mem hu
 obtain ⟨x, _, rfl⟩ := xcT 2 (by omega) encR l j u hj
 unfold encR; split <;> rfl
theorem xdo {w : World} {ops : Array Oper} {rest : List Oper} {o : Oper} {a : Act} {Q : Exit → Act → World → Prop} (hgd : o.guard = none) (s x : Operand)
 (ho : o.op = .call { callee := .builtin .append, args := #[s, x], argTypes := #[49, 49] })
 (base : Nat) (v : Value) (n : Nat) (xs : List Value) (hs : a.eval s = v) (hown : w.ownsRow base 164 2 v n xs)
 (xv : Value) (l : List (Int × Int)) (hx : a.eval x = xv) (hr : SlOf 2 encR w xv l) (h63 : n + l.length ≤ 1000000) (hbase : base ≤ w.heap.size)
 (h : ∀ v' w', w'.ownsRow base 164 2 v' (n + l.length) (xs ++ cellsOf 2 encR l) → w.grownBy w' v.ownBlock → wpList Tryz.prog ops Q rest (a.put o.dst v') w') : wpList Tryz.prog ops Q (o :: rest) a w := by
 obtain ⟨i0, hi, hz0, hz1, hz2⟩ := info_parts xaJ
 rcases hr.news (by omega) with ⟨rfl, rfl⟩ | ⟨ad, c, rfl, hnews⟩
 · refine wpList_append_own_none hgd s x 49 ho base 164 i0 2 Tryz.underlying49 hi v n xs hs hown hx (hs ▸ h v w ?_ ?_)
   · simpa [cellsOf] using hown
   exact ⟨rfl, rfl, rfl, Nat.le_refl _, fun _ _ _ => rfl⟩
 exact wpList_append_own _ hgd s x 49 ho base 164 i0 _ 2 16 Tryz.underlying49 hi hz0 hz1 hz2 rfl (by decide) v n xs hs hown ad _ c _ hx (xah _ _ _) hnews (rng_one _) (by unfold maxLen; omega) (by omega) hbase
  (fun v' w' h1 h2 _ => h v' w' h1 h2)
def ClsW (n : Nat) (w : World) (e : Ending) (w' : World) : Prop := ∃ (u : Value) (k : Nat), e = .returned (.tuple #[u, .int .i64 k]) ∧ k ≤ n ∧ SetW 40000 false w w' u
def ClsL (l : List Int) (w : World) (atv av pv : Value) (wr : World) : Prop :=
 ∃ (i p : Nat) (all : List (Int × Int)), atv = .int .i64 i ∧ pv = .int .i64 p ∧ (i ≤ l.length ∧ p ≤ i ∧ all.length ≤ 26 * i) ∧ (∀ q ∈ all, in64 q.1 ∧ in64 q.2) ∧ wr.ownsRow w.heap.size 164 2 av all.length (cellsOf 2 encR all) ∧ xaa (fun _ => False) w wr
theorem xma {l : List Int} {w w4 : World} {v4 atv pv : Value} {i j p n : Nat} {all s : List (Int × Int)} {xs : List Value} (hj : j ≤ l.length) (hij : i < j) (hpi : p ≤ i) (hal : all.length ≤ 26 * i) (hs : s.length ≤ 26)
 (h64 : ∀ q ∈ all, in64 q.1 ∧ in64 q.2) (h64s : ∀ q ∈ s, in64 q.1 ∧ in64 q.2) (K : xaa (fun _ => False) w w4)
 (hnn : n = all.length + s.length) (hxs : xs = cellsOf 2 encR all ++ cellsOf 2 encR s) (ho : w4.ownsRow w.heap.size 164 2 v4 n xs)
 (ha : atv = .int .i64 (j : Nat)) (hp : pv = .int .i64 ((p + 1 : Nat) : Int)) : ClsL l w atv v4 pv w4 := by
 refine ⟨j, p + 1, all ++ s, ha, hp, ⟨hj, by omega, by rw [List.length_append]; omega⟩, fun q hq => ?_, by rw [List.length_append, xai, ← hnn, ← hxs]; exact ho, K⟩
 rcases List.mem_append.1 hq with hq | hq
 · exact h64 q hq
 exact h64s q hq
theorem xf8 {w : World} {base : Nat} {v : Value} {R : List (Int × Int)} (h : w.ownsRow base 164 2 v R.length (cellsOf 2 encR R)) (h0 : 0 < R.length) (h64 : ∀ q ∈ R, in64 q.1 ∧ in64 q.2) : ∃ g cap x, v = .slice (some ⟨g, 0, none⟩) R.length cap ∧ w.cell? ⟨g, 0, none⟩ = some (.int .i64 x) ∧ in64 x := by
 obtain ⟨g, gc, rfl, hg1, hg2⟩ := xbx h h0
 rcases R with _ | ⟨q, R⟩
 · cases h0
 exact ⟨g, gc, q.1, rfl, by rw [h.cellAt 0 (by first | (simp; done) | (simp; omega))]; simp [cellsOf, List.range_succ, encR], (h64 q (by simp)).1⟩
def ClsQ (n : Nat) (v : Value) : Prop := ∃ q : Bool, v = .bool q ∧ (q = true → 0 < n)
def ClsP (n : Nat) (w : World) (v8 v9 v10 : Value) (wc : World) : Prop := ∃ (is : Bool) (k : Nat), v9 = .bool is ∧ v10 = .int .i64 k ∧ k ≤ n ∧ SetW 26 is w wc v8
def ClsN (l : List Int) (i : Nat) (wr : World) (v4 v8 : Value) (wc : World) : Prop := ∃ (j : Nat) (R : List (Int × Int)), v4 = .int .i64 j ∧ (i < j ∧ j ≤ l.length ∧ R.length ≤ 26) ∧ (∀ q ∈ R, in64 q.1 ∧ in64 q.2) ∧ SlOf 2 encR wc v8 R ∧ xaa (fun _ => False) wr wc
set_option maxHeartbeats 16000000 in
theorem xiH (l : List Int) (b off cap : Nat) (w : World) (h : SI w (.slice (some ⟨b, off, none⟩) l.length cap) l) (hl : l.length ≤ 200) (hr : ∀ x ∈ l, in64 x) : Calls Tryz.prog 96 #[.slice (some ⟨b, off, none⟩) l.length cap] w (ClsW (l.length) w) := by
 obtain ⟨a, cap', e1, hcap, hc⟩ := SI.cells h
 obtain ⟨e1, _, e2⟩ := Value.slice.inj e1
 subst e1 e2
 have HCC : Hid (∀ (i : Nat) (r : Int), l[i]? = some r → w.cell? ⟨b, off + i, none⟩ = some (.int .i64 r)) := xmA (fun i r hi => by
  obtain ⟨b', off', e1, hcc⟩ := hc (by have := (List.getElem?_eq_some_iff.1 hi).1; omega)
  injection e1 with e1
  injection e1 with e1 e2
  subst e1 e2
  exact hcc i r hi)
 have HPT : Hid (∀ (i : Nat) (W : World) (a' : Option Addr) (n' c' : Nat), i ≤ l.length → xaa (fun _ => False) w W → (a' = some ⟨b, off + i, none⟩ ∧ c' = cap - i ∨ n' = 0 ∧ c' = 0 ∧ ∃ x, a' = some x) → n' = l.length - i →
  Calls Tryz.prog 133 #[.slice a' n' c'] W (PtW (l.length - i) W)) := xmA (fun i W a' n' c' hi K ha hn => by
  have hd : (l.drop i).length = l.length - i := by simp
  subst hn
  rw [← hd]
  refine xiA _ _ W ?_ (fun x hx => hr x (List.mem_of_mem_drop hx))
  rw [hd]
  rcases ha with ⟨rfl, rfl⟩ | ⟨h0, rfl, x, rfl⟩
  · exact SI.dropS (h.keep K) i hi
  rw [h0, List.drop_eq_nil_of_le (by omega)]
  exact ⟨_, 0, rfl, ⟨Nat.le_refl _, fun h => by cases h⟩, by simp, fun h => by simp at h⟩)
 clear hc h hr
 go_enter Tryz.func96, Tryz.ntmps96
 go_upto_region 2 with fail
 go_cut [5] from 14 (fun v wc => w = wc ∧ ClsQ l.length v)
 case first =>
  by_cases h0 : l.length = 0
  · obtain rfl : l = [] := List.length_eq_zero_iff.1 h0
    go_wp2_with fail
    go_meet
    exact ⟨rfl, false, rfl, by simp⟩
  obtain ⟨r0, hr0⟩ : ∃ r, l[0]? = some r := ⟨_, List.getElem?_eq_getElem (by omega)⟩
  have c0 := HCC.out 0 r0 hr0
  simp only [Nat.add_zero] at c0
  have g0 : decide ((0 : Int) < (l.length : Int)) = true := decide_eq_true (by omega)
  have g1 : (0 : Int) < (l.length : Int) := by omega
  clear hr0
  go_wp2_with fail
  go_meet
  exact ⟨rfl, _, rfl, fun _ => by omega⟩
 case rest =>
  obtain ⟨rfl, q, rfl, hq⟩ := hcut
  have HQ := xmA hq
  clear hq
  go_upto_if 23 with fail
  go_cut [4] from 14 (fun v wc => w = wc ∧ ∃ i : Nat, v = .int .i64 i ∧ i ≤ l.length)
  case first =>
   cases q
   · go_wp2_with fail
     go_meet
     exact ⟨rfl, 0, rfl, Nat.zero_le _⟩
   go_wp2_with fail
   go_meet
   exact ⟨rfl, 1, rfl, HQ.out (by simp)⟩
  case rest =>
   obtain ⟨rfl, i0, rfl, hi0⟩ := hcut
   go_wp2_with fail
   go_loopw [4, 6, 7] (fun atv av pv wr => ClsL l w atv av pv wr) (fun atv _ _ _ => l.length + 1 - (intOf atv).toNat)
   case atStart => exact ⟨i0, 0, [], rfl, rfl, ⟨hi0, by omega, by simp⟩, by simp, World.ownsRow_nil _ _ _ _, xaa.refl _ _⟩
   case round =>
    obtain ⟨i, p, all, rfl, rfl, ⟨hi, hpi, hal⟩, h64, hown, hk⟩ := hrel
    have hsz := hk.size
    obtain ⟨ava, avc, rfl⟩ := xad hown
    have HOW := xmA hown
    have HK := xmA hk
    have H64 := xmA h64
    have HRS := xmA (show RSl wr (.slice ava all.length avc) all from ⟨SlOf.ofOwn hown (by omega), h64⟩)
    clear hown hk h64
    go_upto_region 8 with fail
    go_cut [40] from 24 to 115 (fun v wc => wr = wc ∧ ClsQ (l.length - i) v)
    case first =>
     by_cases hil : i < l.length
     · obtain ⟨x, hx⟩ : ∃ x, l[i]? = some x := ⟨_, List.getElem?_eq_getElem hil⟩
       have hxc := HK.out.cell (HCC.out i x hx) id
       have hid : decide ((i : Int) < (l.length : Int)) = true := decide_eq_true (by omega)
       have hid0 : (i : Int) < (l.length : Int) := by omega
       clear hx
       go_wp2_with fail
       all_goals (
        go_meet
        exact ⟨rfl, _, rfl, fun _ => by omega⟩)
     have hid : decide ((i : Int) < (l.length : Int)) = false := decide_eq_false (by omega)
     go_wp2_with fail
     go_meet
     exact ⟨rfl, false, rfl, by simp⟩
    case rest =>
     obtain ⟨rfl, B, rfl, hB⟩ := hcut
     have HB := xmA hB
     clear hB
     cases B
     rotate_left
     · have hB := HB.out rfl
       go_wp2_with fail
       refine (xf7 all _ _ _ HRS.out (by omega)).mono ?_
       rintro e w4 ⟨u, R, rfl, h1, h2, ho, hk4⟩
       obtain ⟨va, vc, rfl⟩ := xad ho
       have HS : Hid (SetW 40000 false w w4 (.slice va R.length vc)) := xmA ⟨R, ⟨by omega, fun h => by cases h⟩, h2, xc9 ho hsz, HK.out.trans hk4⟩
       clear ho hk4 h2
       go_wp2_with fail
       go_ret2
       exact ⟨_, i + 1, by first | rfl | go_num, by omega, HS.out⟩
     go_upto_region 10 with fail
     go_cut [8, 9, 10] from 24 to 115 (fun v8 v9 v10 wc => ClsP (l.length - i) wr v8 v9 v10 wc)
     case first =>
      have hI3 : (0 : Int) ≤ (i : Int) := by omega
      have hI4 : (i : Int) ≤ (l.length : Int) := by omega
      have hI5 : (i : Int) ≤ (cap : Int) := by omega
      by_cases hci : cap = i
      focus subst hci
      all_goals (
       go_wp2_with fail
       refine (HPT.out _ _ _ _ _ hi HK.out (by first | exact Or.inl ⟨rfl, rfl⟩ | exact Or.inr ⟨rfl, rfl, _, rfl⟩ | exact Or.inr ⟨by omega, by omega, _, rfl⟩) (by first | rfl | omega)).mono ?_
       rintro e w3 ⟨u, is, k, rfl, hkl, hs⟩
       have HS := xmA hs
       obtain ⟨R, _, _, ho, _⟩ := hs
       obtain ⟨ua, uc, rfl⟩ := xad ho
       clear ho
       go_wp2_with fail
       go_meet
       exact ⟨is, k, rfl, rfl, hkl, HS.out⟩)
     case rest =>
      obtain ⟨is, k, rfl, rfl, hkl, R, ⟨hR, hR1⟩, hR64, ho, hk3⟩ := hcut
      have HO := xmA ho
      have HK3 := xmA hk3
      have HR64 := xmA hR64
      have HR1 := xmA hR1
      obtain ⟨ua, uc, rfl⟩ := xad ho
      clear ho hk3 hR64 hR1
      by_cases hk0 : k = 0
      · subst hk0
        go_wp2_with fail
        go_ret2
        exact ⟨_, 0, rfl, Nat.zero_le _, SetW.none (HK.out.trans HK3.out)⟩
      have gk : ((k : Int) == 0) = false := beq_eq_false_iff_ne.2 (by omega)
      go_upto_region 14 with fail
      go_cut [72] from 24 to 115 (fun v wd => wc = wd ∧ ClsQ (if is = true then l.length - (i + k) else 0) v)
      case first =>
       cases is
       · go_wp2_with fail
         go_meet
         exact ⟨rfl, false, rfl, by simp⟩
       by_cases hat : i + k < l.length
       · obtain ⟨y, hy⟩ : ∃ y, l[i + k]? = some y := ⟨_, List.getElem?_eq_getElem hat⟩
         have hyc := (HK.out.trans HK3.out).cell (HCC.out (i + k) y hy) id
         have hat1 : decide ((i : Int) + (k : Int) < (l.length : Int)) = true := decide_eq_true (by omega)
         have hat2 : (i : Int) + (k : Int) < (l.length : Int) := by omega
         clear hy
         go_wp2_with fail
         go_meet
         exact ⟨rfl, _, rfl, fun _ => by simp; omega⟩
       have hat1 : decide ((i : Int) + (k : Int) < (l.length : Int)) = false := decide_eq_false (by omega)
       go_wp2_with fail
       go_meet
       exact ⟨rfl, false, rfl, by simp⟩
      case rest =>
       obtain ⟨rfl, B2, rfl, hB2⟩ := hcut
       have HB2 := xmA hB2
       clear hB2
       go_upto_if 72 with fail
       go_cut [4, 8] from 24 to 115 (fun v4 v8 wd => ClsN l i wr v4 v8 wd)
       case first =>
        cases B2
        · go_wp2_with fail
          go_meet
          exact ⟨i + k, R, by go_num, ⟨by omega, by omega, hR⟩, HR64.out, SlOf.ofOwn HO.out (by omega), HK3.out⟩
        have hB2 := HB2.out rfl
        obtain ⟨rfl, hat⟩ : is = true ∧ i + k < l.length := by
         cases is
         · simp at hB2
         simp at hB2; exact ⟨rfl, by omega⟩
        have hR0 := HR1.out rfl
        have hJ3 : (0 : Int) ≤ (i : Int) + (k : Int) + 1 := by omega
        have hJ4 : (i : Int) + (k : Int) + 1 ≤ (l.length : Int) := by omega
        have hJ5 : (i : Int) + (k : Int) + 1 ≤ (cap : Int) := by omega
        have hR3 : (0 : Int) < (R.length : Int) := by omega
        clear hB2
        by_cases hcn : cap = i + k + 1
        focus subst hcn
        all_goals (
         go_wp2_with fail
         refine (HPT.out (i + k + 1) _ _ _ _ (by omega) (HK.out.trans HK3.out) (by first | exact Or.inl ⟨rfl, rfl⟩ | exact Or.inr ⟨rfl, rfl, _, rfl⟩ | exact Or.inr ⟨by omega, by omega, _, rfl⟩) (by first | rfl | omega)).mono ?_
         rintro e w5 ⟨u5, too, k2, rfl, hkl2, R2, ⟨hS, hS1⟩, hS64, ho5, hk5⟩
         have KX := xmA (HK3.out.trans hk5)
         by_cases hb2 : k2 = 0 ∨ too = false
         focus (
          obtain ⟨ta, tc, rfl⟩ := xad ho5
          clear ho5 hk5 hS64 hS1
          by_cases hb3 : k2 = 0
          focus subst hb3
          rotate_left
          focus (
           have gb : ((k2 : Int) == 0) = false := beq_eq_false_iff_ne.2 (by omega)
           obtain rfl : too = false := hb2.resolve_left hb3)
          all_goals (
           go_wp2_with fail
           go_quiet (fail)
           go_wp2_with fail
           go_ret2
           exact ⟨_, 0, rfl, Nat.zero_le _, SetW.none ((HK.out.trans KX.out).drawN _)⟩))
         obtain rfl : too = true := by cases too; exact absurd (Or.inr rfl) hb2; rfl
         have gb : ((k2 : Int) == 0) = false := beq_eq_false_iff_ne.2 (fun h => hb2 (Or.inl (by omega)))
         obtain ⟨tg, tc, x2, rfl, q1, hx2⟩ := xf8 ho5 (hS1 rfl) hS64
         obtain ⟨sg, sc, x1, hs1, q3, hx1⟩ := xf8 (xae HO.out hk5 (fun _ _ h => h)) hR0 HR64.out
         obtain ⟨rfl, _, rfl⟩ := Value.slice.inj hs1
         have HX := xmA (And.intro hx1 hx2)
         have hT0 : 0 < R2.length := hS1 rfl
         have hT1 : (0 : Int) < (R2.length : Int) := by omega
         clear ho5 hk5 hS64 hS1 hs1 hx1 hx2 hb2
         rcases gl : decide (x2 < x1) with _ | _
         rotate_left
         focus (
          go_wp2_with fail
          go_quiet (fail)
          go_wp2_with fail
          go_ret2
          exact ⟨_, 0, rfl, Nat.zero_le _, SetW.none ((HK.out.trans KX.out).drawN _)⟩)
         go_wp2_with fail
         go_quiet (fail)
         replace KX := xmA (KX.out.drawN nq)
         have q1 : (w5.drewN nq).cell? ⟨tg, 0, none⟩ = some (.int .i64 x2) := q1
         have q3 : (w5.drewN nq).cell? ⟨sg, 0, none⟩ = some (.int .i64 x1) := q3
         generalize w5.drewN nq = w6 at *
         go_wp2_with fail
         go_region_held3 (fun w' => w'.cell? ⟨tg, 0, none⟩ = some (.int .i64 x2) ∧ w'.cell? ⟨sg, 0, none⟩ = some (.int .i64 x1)) (first | exact ⟨by go_keep, by go_keep⟩ | go_keep) (fail)
         obtain ⟨Rz, ⟨hz1, _⟩, hz64, hoz, hkz⟩ := SetW.row (n := 26) (is := false) (xaa.refl (fun _ => False) w6) [(x1, x2)] (by simp) (by simp) (by omega) (fun p hp => by obtain rfl := List.mem_singleton.1 hp; exact HX.out) rfl rfl
         have HN : Hid (SlOf 2 encR _ (.slice (some ⟨w6.heap.size, 0, none⟩) 1 1) Rz) := xmA (SlOf.ofOwn hoz.drew (by omega))
         have HZ := xmA (And.intro hz64 (KX.out.trans hkz).drew)
         clear hz64 hoz hkz
         go_wp2_with fail
         go_meet
         exact ⟨i + k + 1 + k2, Rz, by go_num, ⟨by omega, by omega, hz1⟩, HZ.out.1, HN.out, HZ.out.2⟩)
       case rest =>
        obtain ⟨j, Rz, rfl, ⟨hij, hj, hRz⟩, hz64, hsl, hkz⟩ := hcut
        have hsl2 := hsl
        obtain ⟨za, zc, rfl, _⟩ := hsl2
        have HZ64 := xmA hz64
        have HSS := xmA hsl
        have HO3 := xmA (xae HOW.out hkz (fun _ _ h => h))
        have KZ := xmA (HK.out.trans hkz)
        have hszz := KZ.out.size
        clear hz64 hsl hkz
        go_wp2_with (at_builtin; refine xdo rfl (.tmp 113) (.tmp 114) rfl w.heap.size _ _ _ rfl HO3.out _ Rz rfl HSS.out (by omega) (by omega) ?_)
        intro v4 w4 hown4 hgrow4
        have KW4 : Hid (xaa (fun _ => False) w w4) := xmA (KZ.out.grown hgrow4 (fun b hb => Or.inr (xab HO3.out b hb)))
        have HO4 := xmA hown4
        clear hown4 hgrow4
        go_wp2_with fail
        go_roundw
        case rel => exact xma (i := i) (j := j) (p := p) hj hij hpi hal hRz H64.out HZ64.out KW4.out (by first | rfl | omega | (simp; done)) (by rfl) HO4.out (by go_num) (by go_num)
        case measure => simp [intOf]; omega
end Go.Proofs.YtjahiihmoglpfaaGreatDoor
