/-
  The document's escaped.
-/
import Derived.Test.YtapmdhejgnplaaaGreatMg20
import Derived.Deep.RegionHeld3
import Derived.Deep.AppendLies
import Derived.Test.YtapmdhejgnplaaaGreatMg14
import Derived.BigQuiet
namespace Go.Proofs.YtapmdhejgnplaaaGreat
open Go.RowKit Go.Proofs.Tryz
set_option linter.unusedVariables false
set_option linter.unusedSimpArgs false
set_option maxRecDepth 100000
set_option maxHeartbeats 16000000
def EscE (w : World) (p : Option (LI × Bool)) (e : Ending) (w' : World) : Prop :=
 match p with
 | none => e = .returned (.tuple #[.slice none 0 0, .bool false, .bool false]) /\ KF w w'
 | some (s, is) => ∃ u, e = .returned (.tuple #[u, .bool is, .bool true]) /\ ROwn w w' u s
theorem xca (w : World) (x : Int) : ROwn w (w.alloc (.cells #[.int .i64 x, .int .i64 x] 180)) (.slice (some ⟨w.heap.size, 0, none⟩) 1 1) [(x, x)] :=
 ⟨⟨rfl, Or.inr ⟨w.heap.size, 1, _, rfl, Nat.le_refl _, heap_alloc_new w _, Nat.le_refl _, by unfold maxLen; decide, rfl, rfl⟩⟩, (xaa.refl _ _).alloc _⟩
theorem xlF (r : Int) (h : r = 68 \/ r = 87 \/ r = 83) : notL (xav (r + 32)) = xav r := by
 apply xeK
 rcases h with rfl | rfl | rfl
 · refine ⟨by simp [xav, Norm], fun x => ?_⟩
   rw [Bool.eq_iff_iff]
   simp [xav, mem, has, xaZ]
   omega
 · refine ⟨by simp [xav, Norm], fun x => ?_⟩
   rw [Bool.eq_iff_iff]
   simp [xav, mem, has, xaZ]
   omega
 refine ⟨by simp [xav, Norm], fun x => ?_⟩
 rw [Bool.eq_iff_iff]
 simp [xav, mem, has, xaZ]
 omega
theorem xd1 (r : Int) (w : World) (hr : 0 <= r /\ r <= 1114111) : Calls prog 67 #[.int .i64 r] w fun e w' => EscE w (escP r) e w' := by
 have HI1 := xa (fun W => xi0 [100, 119, 115] r W (by decide))
 by_cases h1 : r = 100 \/ r = 119 \/ r = 115
 · rw [show inP [100, 119, 115] r = true by rw [xlS]; simpa using h1] at HI1
   have HN := xa (fun W => xfm r W h1)
   rw [show escP r = some (xav r, false) by unfold escP; rw [if_pos (by unfold xcz; omega)]]
   unfold EscE
   dsimp only
   generalize xav r = L at *
   go_enter func67, ntmps67
   go_wp2_with fail
   refine (HI1.out _).mono ?_
   rintro e w2 ⟨rfl, rfl⟩
   go_wp2_with fail
   refine (HN.out _).mono ?_
   rintro e w3 ⟨u, rfl, hu⟩
   have HU := xa hu
   obtain ⟨ua, uc, rfl⟩ := xad hu.1
   clear hu
   go_wp2_with fail
   go_ret3
   exact ⟨_, rfl, HU.out⟩
 rw [show inP [100, 119, 115] r = false by rw [xlS]; simpa using h1] at HI1
 have HI2 := xa (fun W => xi0 [68, 87, 83] r W (by decide))
 by_cases h2 : r = 68 \/ r = 87 \/ r = 83
 · rw [show inP [68, 87, 83] r = true by rw [xlU]; simpa using h2] at HI2
   have HN := xa (fun W => xfm (r + 32) W (by omega))
   have hl5 : (xav (r + 32)).length <= 5 := by
    unfold xav; repeat' split
    all_goals decide
   have HM := xa (fun v W hW => xev (xav (r + 32)) v true W hW (by omega))
   have hin : ∀ p ∈ xav (r + 32), in64 p.1 /\ in64 p.2 := by
    rcases h2 with rfl | rfl | rfl <;> (intro p hp; simp [xav] at hp; unfold in64; (repeat' (rcases hp with rfl | hp)) <;> (try subst hp) <;> simp)
   have HIn := xa hin
   rw [if_pos rfl, xlF r h2] at HM
   rw [show escP r = some (xav r, false) by unfold escP; rw [if_pos (by unfold xcz; omega)]]
   unfold EscE
   dsimp only
   clear hin
   generalize xav (r + 32) = L1 at *
   generalize xav r = L at *
   have hwr : wrap64 (r + 32) = r + 32 := by unfold wrap64; omega
   go_enter func67, ntmps67
   go_wp2_with fail
   refine (HI1.out _).mono ?_
   rintro e w2 ⟨rfl, rfl⟩
   go_wp2_with fail
   refine (HI2.out _).mono ?_
   rintro e w2 ⟨rfl, rfl⟩
   go_wp2_with fail
   refine (HN.out _).mono ?_
   rintro e w3 ⟨u, rfl, hu⟩
   have HU := xa hu
   have HRS : Hid (RSl w3 u L1) := xa ⟨SlOf.ofOwn hu.1 (by omega), HIn.out⟩
   obtain ⟨ua, uc, rfl⟩ := xad hu.1
   clear hu
   go_wp2_with fail
   refine (HM.out _ _ HRS.out).mono ?_
   rintro e w4 ⟨u4, rfl, hu4⟩
   have HU4 := xa hu4
   obtain ⟨va, vc, rfl⟩ := xad hu4.1
   clear hu4
   go_wp2_with fail
   go_ret3
   exact ⟨_, rfl, xdl HU4.out.1 (HU.out.2.size), HU.out.2.trans HU4.out.2⟩
 rw [show inP [68, 87, 83] r = false by rw [xlU]; simpa using h2] at HI2
 have hnam : ¬ xcz r := by unfold xcz; omega
 have HX : Hid (escP r = if xcp r then none else some ([(escR r, escR r)], true)) := xa (by unfold escP; rw [if_neg hnam])
 generalize escP r = P at *
 by_cases h3 : r = 110
 · subst h3
   have E : Hid (P = some ([(10, 10)], true)) := xa (by rw [HX.out]; rfl)
   clear HX
   go_enter func67, ntmps67
   go_wp2_with fail
   refine (HI1.out _).mono ?_
   rintro e w2 ⟨rfl, rfl⟩
   go_wp2_with fail
   refine (HI2.out _).mono ?_
   rintro e w2 ⟨rfl, rfl⟩
   go_wp2_with fail
   go_ret3
   rw [E.out]
   exact ⟨_, rfl, xca w 10⟩
 have g3 : (r == 110) = false := beq_eq_false_iff_ne.2 h3
 by_cases h4 : r = 114
 · subst h4
   have E : Hid (P = some ([(13, 13)], true)) := xa (by rw [HX.out]; rfl)
   clear HX
   go_enter func67, ntmps67
   go_wp2_with fail
   refine (HI1.out _).mono ?_
   rintro e w2 ⟨rfl, rfl⟩
   go_wp2_with fail
   refine (HI2.out _).mono ?_
   rintro e w2 ⟨rfl, rfl⟩
   go_wp2_with fail
   go_ret3
   rw [E.out]
   exact ⟨_, rfl, xca w 13⟩
 have g4 : (r == 114) = false := beq_eq_false_iff_ne.2 h4
 by_cases h5 : r = 116
 · subst h5
   have E : Hid (P = some ([(9, 9)], true)) := xa (by rw [HX.out]; rfl)
   clear HX
   go_enter func67, ntmps67
   go_wp2_with fail
   refine (HI1.out _).mono ?_
   rintro e w2 ⟨rfl, rfl⟩
   go_wp2_with fail
   refine (HI2.out _).mono ?_
   rintro e w2 ⟨rfl, rfl⟩
   go_wp2_with fail
   go_ret3
   rw [E.out]
   exact ⟨_, rfl, xca w 9⟩
 have g5 : (r == 116) = false := beq_eq_false_iff_ne.2 h5
 have hsg : inP (sgL ++ [45]) r = !xcp r := by
  rw [xlT _ (Or.inl rfl), if_neg (by decide)]
  unfold xcp
  simp [h3, h4, h5]
 have HI3 := xa (fun W => xi0 (sgL ++ [45]) r W (by decide))
 have heR : escR r = r := by unfold escR; rw [if_neg h3, if_neg h4, if_neg h5]
 rw [hsg] at HI3
 rw [heR] at HX
 clear hsg heR
 cases hb : xcp r
 · rw [hb] at HI3 HX
   have E : Hid (P = some ([(r, r)], true)) := xa HX.out
   clear HX
   go_enter func67, ntmps67
   go_wp2_with fail
   refine (HI1.out _).mono ?_
   rintro e w2 ⟨rfl, rfl⟩
   go_wp2_with fail
   refine (HI2.out _).mono ?_
   rintro e w2 ⟨rfl, rfl⟩
   go_wp2_with fail
   refine (HI3.out _).mono ?_
   rintro e w2 ⟨rfl, rfl⟩
   go_wp2_with fail
   go_ret3
   rw [E.out]
   exact ⟨_, rfl, xca w r⟩
 rw [hb] at HI3 HX
 have E : Hid (P = none) := xa HX.out
 clear HX
 go_enter func67, ntmps67
 go_wp2_with fail
 refine (HI1.out _).mono ?_
 rintro e w2 ⟨rfl, rfl⟩
 go_wp2_with fail
 refine (HI2.out _).mono ?_
 rintro e w2 ⟨rfl, rfl⟩
 go_wp2_with fail
 refine (HI3.out _).mono ?_
 rintro e w2 ⟨rfl, rfl⟩
 go_wp2_with fail
 go_ret3
 rw [E.out]
 exact ⟨rfl, xaa.refl _ _⟩
def PtE (w : World) (p : Option (LI × Bool × Nat)) (e : Ending) (w' : World) : Prop :=
 match p with
 | none => e = .returned (.tuple #[.slice none 0 0, .bool false, .int .i64 0]) /\ KF w w'
 | some (s, is, k) => ∃ u, e = .returned (.tuple #[u, .bool is, .int .i64 k]) /\ ROwn w w' u s
theorem xaN (l : List Int) (v : Value) (w : World) (h : ISl w v l) : Calls prog 86 #[v] w fun e w' => PtE w (ptP l) e w' := by
 obtain ⟨a, cap, rfl, hcap, hc⟩ := h.cells
 have HI := xa h
 clear h
 rcases l with _ | ⟨r, l⟩
 · go_enter func86, ntmps86
   go_wp2_with fail
   go_ret3
   exact ⟨rfl, xaa.refl _ _⟩
 obtain ⟨b, off, rfl, hcc⟩ := hc (by simp)
 obtain ⟨c0, c1, c2⟩ := hcc 0 r rfl
 simp only [Nat.add_zero] at c0
 have HCC := xa hcc
 simp only [List.length_cons] at *
 clear hc hcc
 have gl : (((l.length : Int) + 1) == 0) = false := beq_eq_false_iff_ne.2 (by omega)
 have HA := xa (fun W => xi0 npL r W (by decide))
 rw [show inP npL r = amg npL r by rw [xlT _ (Or.inr rfl), if_pos rfl]] at HA
 have HP := xa (xbH r l)
 generalize ptP (r :: l) = P at *
 cases hb : amg npL r
 · rw [hb] at HA HP
   by_cases h9 : r = 92
   · subst h9
     rcases l with _ | ⟨r2, l⟩
     · have E : Hid (P = none) := xa (by rw [HP.out]; rfl)
       clear HP HI
       go_enter func86, ntmps86
       go_wp2_with fail
       refine (HA.out _).mono ?_
       rintro e w2 ⟨rfl, rfl⟩
       go_wp2_with fail
       go_ret3
       rw [E.out]
       exact ⟨rfl, xaa.refl _ _⟩
     obtain ⟨d0, d1, d2⟩ := HCC.out 1 r2 rfl
     simp only [List.length_cons] at *
     have g7 : decide ((l.length : Int) + 1 + 1 < 2) = false := by simp; omega
     have HE := xa (fun W => xd1 r2 W ⟨d1, d2⟩)
     have HP2 : Hid (P = (escP r2).map fun p => (p.1, p.2, 2)) := xa (by rw [HP.out]; rfl)
     clear HP HI
     cases hE : escP r2 with
     | none =>
      rw [hE] at HP2 HE
      have E : Hid (P = none) := xa HP2.out
      clear HP2 hE
      go_enter func86, ntmps86
      go_wp2_with fail
      refine (HA.out _).mono ?_
      rintro e w2 ⟨rfl, rfl⟩
      go_wp2_with fail
      refine (HE.out _).mono ?_
      rintro e w3 ⟨rfl, K⟩
      have HK := xa K
      clear K
      go_wp2_with fail
      go_ret3
      rw [E.out]
      exact ⟨rfl, HK.out⟩
     | some p =>
      obtain ⟨s, is⟩ := p
      rw [hE] at HP2 HE
      have E : Hid (P = some (s, is, 2)) := xa HP2.out
      clear HP2 hE
      go_enter func86, ntmps86
      go_wp2_with fail
      refine (HA.out _).mono ?_
      rintro e w2 ⟨rfl, rfl⟩
      go_wp2_with fail
      refine (HE.out _).mono ?_
      rintro e w3 ⟨u, rfl, hu⟩
      have HU := xa hu
      obtain ⟨ua, uc, rfl⟩ := xad hu.1
      clear hu
      go_wp2_with fail
      go_ret3
      rw [E.out]
      exact ⟨_, rfl, HU.out⟩
   have g9 : (r == 92) = false := beq_eq_false_iff_ne.2 h9
   have E : Hid (P = some ([(r, r)], true, 1)) := xa (by rw [HP.out, if_neg h9]; rfl)
   clear HP HI
   go_enter func86, ntmps86
   go_wp2_with fail
   refine (HA.out _).mono ?_
   rintro e w2 ⟨rfl, rfl⟩
   go_wp2_with fail
   go_region_held3 (fun w' => w'.cell? ⟨b, off, none⟩ = some (.int .i64 r)) (go_keep) (fail)
   all_goals go_wp2_with fail
   go_ret3
   rw [E.out]
   exact ⟨_, rfl, (xca w r).1.drew, (xca w r).2.drew⟩
 have h9 : ¬ r = 92 := by rintro rfl; revert hb; decide +kernel
 rw [hb] at HA HP
 have E : Hid (P = none) := xa (by rw [HP.out, if_neg h9]; rfl)
 clear HP HI
 go_enter func86, ntmps86
 go_wp2_with fail
 refine (HA.out _).mono ?_
 rintro e w2 ⟨rfl, rfl⟩
 go_wp2_with fail
 go_ret3
 rw [E.out]
 exact ⟨rfl, xaa.refl _ _⟩
def ClE (w : World) (p : Option (LI × Nat)) (e : Ending) (w' : World) : Prop :=
 match p with
 | none => e = .returned (.tuple #[.slice none 0 0, .int .i64 0]) /\ KF w w'
 | some (s, k) => ∃ u, e = .returned (.tuple #[u, .int .i64 k]) /\ ROwn w w' u s
theorem xaA {w : World} {ops : Array Oper} {rest : List Oper} {o : Oper} {a : Act} {Q : Exit -> Act -> World -> Prop} (hgd : o.guard = none) (s x : Operand)
 (ho : o.op = .call { callee := .builtin .append, args := #[s, x], argTypes := #[70, 70] })
 (base : Nat) (v : Value) (n : Nat) (xs : List Value) (hs : a.eval s = v) (hown : w.ownsRow base 180 2 v n xs)
 (xv : Value) (l : LI) (hx : a.eval x = xv) (hr : SlOf 2 encR w xv l) (h63 : n + l.length <= 1000000) (hbase : base <= w.heap.size)
 (h : ∀ v' w', w'.ownsRow base 180 2 v' (n + l.length) (xs ++ cellsOf 2 encR l) -> w.grownBy w' v.ownBlock -> wpList prog ops Q rest (a.put o.dst v') w') : wpList prog ops Q (o :: rest) a w := by
 obtain ⟨i0, hi, hz0, hz1, hz2⟩ := info_parts xaO
 rcases hr.news (by omega) with ⟨rfl, rfl⟩ | ⟨ad, c, rfl, hnews⟩
 · refine wpList_append_own_none hgd s x 70 ho base 180 i0 2 underlying70 hi v n xs hs hown hx (hs ▸ h v w ?_ ?_)
   · simpa [cellsOf] using hown
   exact ⟨rfl, rfl, rfl, Nat.le_refl _, fun _ _ _ => rfl⟩
 exact wpList_append_own _ hgd s x 70 ho base 180 i0 _ 2 16 underlying70 hi hz0 hz1 hz2 rfl (by decide) v n xs hs hown ad _ c _ hx (xai _ _ _) hnews (xaU _) (by unfold maxLen; omega) (by omega) hbase
  (fun v' w' h1 h2 _ => h v' w' h1 h2)
theorem xnL {r : Int} {s : LI} (h : escP r = some (s, true)) : ∃ x, s = [(x, x)] := by
 unfold escP at h
 split at h
 · simp at h
 split at h
 · cases h
 simp at h; exact ⟨_, h.symm⟩
theorem xf4 {l : List Int} {s : LI} {k : Nat} (h : ptP l = some (s, true, k)) : ∃ x, s = [(x, x)] := by
 rcases l with _ | ⟨r, l⟩
 · cases h
 rw [xbH] at h
 split at h
 · rcases l with _ | ⟨r2, l⟩
   · cases h
   simp only [Option.map_eq_some_iff, Prod.mk.injEq] at h
   obtain ⟨⟨p, q⟩, h1, h2, h3, h4⟩ := h
   dsimp only at h2 h3
   subst h2 h3
   exact xnL h1
 split at h
 · cases h
 simp at h; exact ⟨r, h.1.symm⟩
theorem xlE (r : Int) : (xav r).length <= 5 /\ ∀ q ∈ xav r, in64 q.1 /\ in64 q.2 := by
 unfold xav in64
 repeat' split
 all_goals (constructor; decide; intro q hq; simp at hq; (repeat' (rcases hq with rfl | hq)) <;> (try subst hq) <;> simp)
theorem xi6 {r : Int} {s : LI} {is : Bool} (hr : 0 <= r /\ r <= 1114111) (h : escP r = some (s, is)) : s.length <= 5 /\ ∀ q ∈ s, in64 q.1 /\ in64 q.2 := by
 unfold escP at h
 split at h
 · simp only [Option.some.injEq, Prod.mk.injEq] at h
   rw [<- h.1]; exact xlE r
 split at h
 · cases h
 simp only [Option.some.injEq, Prod.mk.injEq] at h
 rw [<- h.1]
 refine ⟨by simp, fun q hq => ?_⟩
 simp at hq
 subst hq
 unfold escR in64
 repeat' split
 all_goals (constructor <;> (constructor <;> simp <;> omega))
theorem xf3 {l : List Int} {s : LI} {is : Bool} {k : Nat} (hr : ∀ r ∈ l, 0 <= r /\ r <= 1114111) (h : ptP l = some (s, is, k)) : s.length <= 5 /\ ∀ q ∈ s, in64 q.1 /\ in64 q.2 := by
 rcases l with _ | ⟨r, l⟩
 · cases h
 rw [xbH] at h
 split at h
 · rcases l with _ | ⟨r2, l⟩
   · cases h
   simp only [Option.map_eq_some_iff, Prod.mk.injEq] at h
   obtain ⟨⟨p, q⟩, h1, h2, h3, h4⟩ := h
   dsimp only at h2 h3
   subst h2 h3
   exact xi6 (hr r2 (by simp)) h1
 split at h
 · cases h
 simp only [Option.some.injEq, Prod.mk.injEq] at h
 rw [<- h.1]
 refine ⟨by simp, fun q hq => ?_⟩
 simp at hq
 subst hq
 have := hr r (by simp)
 unfold in64
 simp only
 omega
def xmB (G : Option (LI × Nat)) (l : List Int) (w : World) (atv av pv : Value) (wr : World) : Prop :=
 ∃ (i p n : Nat) (all : LI), atv = .int .i64 i /\ pv = .int .i64 p /\ i <= l.length /\ p <= i /\ l.length < n + i /\ all.length <= 5 * i /\ wr.ownsRow w.heap.size 180 2 av all.length (cellsOf 2 encR all) /\ KF w wr /\ clG n (decide (p = 0)) (l.drop i) all i = G /\ ∀ q ∈ all, in64 q.1 /\ in64 q.2
theorem xcE {G : Option (LI × Nat)} {l : List Int} {w w4 : World} {v4 atv pv : Value} {i p m k n : Nat} {all s : LI} {xs : List Value} (hik : i + k <= l.length) (hk : 1 <= k) (hpi : p <= i) (hn : l.length < m + 1 + i) (hal : all.length <= 5 * i) (hs : s.length <= 5)
 (h64 : ∀ q ∈ all, in64 q.1 /\ in64 q.2) (h64s : ∀ q ∈ s, in64 q.1 /\ in64 q.2) (K : KF w w4) (hg : clG m false (l.drop (i + k)) (all ++ s) (i + k) = G)
 (hnn : n = all.length + s.length) (hxs : xs = cellsOf 2 encR all ++ cellsOf 2 encR s) (ho : w4.ownsRow w.heap.size 180 2 v4 n xs)
 (ha : atv = .int .i64 ((i + k : Nat) : Int)) (hp : pv = .int .i64 ((p + 1 : Nat) : Int)) : xmB G l w atv v4 pv w4 := by
 refine ⟨i + k, p + 1, m, all ++ s, ha, hp, hik, by omega, by omega, by rw [List.length_append]; omega, ?_, K, ?_, fun q hq => ?_⟩
 · rw [List.length_append, xah, <- hnn, <- hxs]; exact ho
 · rw [show decide (p + 1 = 0) = false by simp]; exact hg
 rcases List.mem_append.1 hq with hq | hq
 · exact h64 q hq
 exact h64s q hq
def xmC : Prop := ∀ (l : List Int) (b off cap : Nat) (w : World), ISl w (.slice (some ⟨b, off, none⟩) l.length cap) l -> l.length <= 200 -> Calls prog 66 #[.slice (some ⟨b, off, none⟩) l.length cap] w fun e w' => ClE w (clP l) e w'
def TokE (w : World) (p : Option (Tok × Nat)) (e : Ending) (w' : World) : Prop :=
 match p with
 | none => e = .returned (.tuple #[tokV 0 0 (.slice none 0 0) 0 0, .int .i64 0]) /\ KF w w'
 | some (t, k) => ∃ v : TV, e = .returned (.tuple #[v.val, .int .i64 k]) /\ KAt w' (Bt w w') v t /\ KF w w'
theorem xem {w wX wE : World} {v : TV} {t : Tok} {k : Nat} (K : KF (w.alloc (.cells #[.int .i64 0, .int .i64 0, .slice none 0 0, .int .i64 0, .int .i64 0] 152)) wX)
 (hT : KAt wX (fun b => w.heap.size < b /\ b < wX.heap.size) v t) (kE : xaa (fun b => b = w.heap.size) wX wE) : TokE w (some (t, k)) (.returned (.tuple #[v.val, .int .i64 k])) wE := by
 have hs := K.size
 simp at hs
 have hs2 := kE.size
 refine ⟨v, rfl, hT.keepsTo kE (fun b hb e => by omega) (fun b hb => ⟨by omega, by omega⟩), ?_⟩
 exact (xaa.trans (KI.out) K).trans2 kE (fun b hb e => by omega)
theorem xdg {w wX wE : World} (K : KF (w.alloc (.cells #[.int .i64 0, .int .i64 0, .slice none 0 0, .int .i64 0, .int .i64 0] 152)) wX)
 (kE : xaa (fun b => b = w.heap.size) wX wE) : TokE w none (.returned (.tuple #[tokV 0 0 (.slice none 0 0) 0 0, .int .i64 0])) wE :=
 ⟨rfl, (xaa.trans (KI.out) K).trans2 kE (fun b hb e => by omega)⟩
theorem xbj {w wX : World} (K : KF (w.alloc (.cells #[.int .i64 0, .int .i64 0, .slice none 0 0, .int .i64 0, .int .i64 0] 152)) wX) :
 (wX.cell? ⟨w.heap.size, 0, none⟩ = some (.int .i64 0) /\ wX.cell? ⟨w.heap.size, 1, none⟩ = some (.int .i64 0) /\ wX.cell? ⟨w.heap.size, 2, none⟩ = some (.slice none 0 0) /\ wX.cell? ⟨w.heap.size, 3, none⟩ = some (.int .i64 0) /\ wX.cell? ⟨w.heap.size, 4, none⟩ = some (.int .i64 0)) /\
 (wX.frozen? ⟨w.heap.size, 0, none⟩ = false /\ wX.frozen? ⟨w.heap.size, 1, none⟩ = false /\ wX.frozen? ⟨w.heap.size, 2, none⟩ = false /\ wX.frozen? ⟨w.heap.size, 3, none⟩ = false /\ wX.frozen? ⟨w.heap.size, 4, none⟩ = false) := by
 exact ⟨⟨K.cell (by simp [go_sem]) id, K.cell (by simp [go_sem]) id, K.cell (by simp [go_sem]) id, K.cell (by simp [go_sem]) id, K.cell (by simp [go_sem]) id⟩,
  K.frozen (by simp [go_sem]) (by simp) id, K.frozen (by simp [go_sem]) (by simp) id, K.frozen (by simp [go_sem]) (by simp) id, K.frozen (by simp [go_sem]) (by simp) id, K.frozen (by simp [go_sem]) (by simp) id⟩
theorem KAt.pt {w' : World} {lo : Nat} {u : Value} {L : LI} (h : w'.ownsRow lo 180 2 u L.length (cellsOf 2 encR L)) (hl : L.length <= 4611686018427387904) (hr : ∀ p ∈ L, in64 p.1 /\ in64 p.2) :
 KAt w' (fun b => lo <= b /\ b < w'.heap.size) ⟨0, 0, u, 0, 0⟩ (.pt L) :=
 ⟨rfl, ⟨SlOf.ofOwn h hl, hr⟩, fun b hb => ⟨xab h b hb, xaM h b hb⟩⟩
theorem xiP (l : List Int) : 0 <= (numP l).1 /\ (numP l).1 <= 50 := by
 have h0 : 0 <= (num0 l).1 := by
  rcases l with _ | ⟨a, l⟩
  · decide
  rw [xaY]
  split
  · rename_i ha
    have ha := (xcg a).1 ha
    rcases l with _ | ⟨b, l⟩
    · simp; omega
    simp only
    split
    · rename_i hb
      have hb := (xcg b).1 hb
      simp only; omega
    simp only; omega
  decide
 unfold numP
 split
 · decide
 exact ⟨h0, by omega⟩
theorem brP_rng {l : List Int} {m x : Int} {k : Nat} (h : brP l = some (m, x, k)) : in64 m /\ in64 x := by
 have h1 := xiP l
 unfold brP at h
 split at h
 · cases h
 split at h
 · cases h
 rename_i c l2 _
 have h2 := xiP l2
 split at h
 · simp only [Option.some.injEq, Prod.mk.injEq] at h; unfold in64; omega
 split at h
 · split at h
   · cases h
   split at h
   · simp only [Option.some.injEq, Prod.mk.injEq] at h; unfold in64; omega
   split at h
   · cases h
   split at h
   · simp only [Option.some.injEq, Prod.mk.injEq] at h; unfold in64; omega
   cases h
 cases h
theorem xiS : Norm [] := trivial
theorem xna (l : LI) : Norm (ofL l) := by
 unfold ofL
 split
 · rename_i h; exact (Classical.choose_spec h).1
 exact xiS
theorem xlw (l : LI) : Norm (notL l) := by
 unfold notL
 split
 · rename_i h; exact (Classical.choose_spec h).1
 exact xiS
theorem xnV {l : List Int} {s : LI} {k : Nat} (h : clP l = some (s, k)) : Norm s := by
 unfold clP at h
 split at h
 · simp only [Option.map_eq_some_iff, Prod.mk.injEq] at h
   obtain ⟨p, _, h2, _⟩ := h
   rw [<- h2]; exact xlw p.1
 simp only [Option.map_eq_some_iff, Prod.mk.injEq] at h
 obtain ⟨p, _, h2, _⟩ := h
 rw [<- h2]; exact xna p.1
theorem xkY (w : World) (a b c d : Int) : ROwn w (w.alloc (.cells #[.int .i64 a, .int .i64 b, .int .i64 c, .int .i64 d] 180)) (.slice (some ⟨w.heap.size, 0, none⟩) 2 2) [(a, b), (c, d)] :=
 ⟨⟨rfl, Or.inr ⟨w.heap.size, 2, _, rfl, Nat.le_refl _, heap_alloc_new w _, Nat.le_refl _, by unfold maxLen; decide, rfl, rfl⟩⟩, (xaa.refl _ _).alloc _⟩
theorem xos {w W : World} {lo : Nat} {u : Value} {L : LI} (hlo : w.heap.size <= lo) (h : W.ownsRow lo 180 2 u L.length (cellsOf 2 encR L)) (hl : L.length <= 4611686018427387904) (hr : ∀ p ∈ L, in64 p.1 /\ in64 p.2) :
 KAt W (Bt w W) ⟨0, 0, u, 0, 0⟩ (.pt L) :=
 (KAt.pt h hl hr).keepsTo (xaa.refl (fun _ => False) _) (fun _ _ => id) (fun b hb => ⟨Nat.le_trans hlo hb.1, hb.2⟩)
theorem xkT (r : Int) (t : List Int) (b off cap : Nat) (w : World) (h : ISl w (.slice (some ⟨b, off, none⟩) (t.length + 1) cap) (r :: t)) (hl : t.length <= 200) (hr : r = 124 \/ r = 40 \/ r = 41 \/ r = 94 \/ r = 36) : Calls prog 57 #[.slice (some ⟨b, off, none⟩) (t.length + 1) cap] w fun e w' => TokE w (tokP (r :: t)) e w' := by
 obtain ⟨_, _, e1, hcap, hc⟩ := h.cells
 simp only [List.length_cons] at e1 hcap hc
 injection e1 with e1 _ e2
 subst e1 e2
 obtain ⟨_, _, e1, hcc⟩ := hc (by omega)
 injection e1 with e1
 injection e1 with e1 e2
 subst e1 e2
 obtain ⟨c0, c1, c2⟩ := hcc 0 r rfl
 simp only [Nat.add_zero] at c0
 have x0 := xaf c0 (.cells #[.int .i64 0, .int .i64 0, .slice none 0 0, .int .i64 0, .int .i64 0] 152)
 have HCC := xa hcc
 have HI := xa h
 have HP := xa (xas r t)
 generalize tokP (r :: t) = P at *
 clear hc hcc c0 h
 have E : Hid (P = some (.sg r, 1)) := xa (by rw [HP.out, if_pos hr])
 clear HP HI HCC
 rcases hr with rfl | rfl | rfl | rfl | rfl
 · skip
   go_enter func57, ntmps57
   go_wp2_with fail
   refine bodyPost_ret (by simp [results, results57, go_sem]; try rfl) rfl ?_
   rw [E.out]
   exact ⟨⟨1, 124, .slice none 0 0, 0, 0⟩, rfl, rfl, (xaa.refl _ _).alloc _⟩
 · skip
   go_enter func57, ntmps57
   go_wp2_with fail
   refine bodyPost_ret (by simp [results, results57, go_sem]; try rfl) rfl ?_
   rw [E.out]
   exact ⟨⟨1, 40, .slice none 0 0, 0, 0⟩, rfl, rfl, (xaa.refl _ _).alloc _⟩
 · skip
   go_enter func57, ntmps57
   go_wp2_with fail
   refine bodyPost_ret (by simp [results, results57, go_sem]; try rfl) rfl ?_
   rw [E.out]
   exact ⟨⟨1, 41, .slice none 0 0, 0, 0⟩, rfl, rfl, (xaa.refl _ _).alloc _⟩
 · skip
   go_enter func57, ntmps57
   go_wp2_with fail
   refine bodyPost_ret (by simp [results, results57, go_sem]; try rfl) rfl ?_
   rw [E.out]
   exact ⟨⟨1, 94, .slice none 0 0, 0, 0⟩, rfl, rfl, (xaa.refl _ _).alloc _⟩
 skip
 go_enter func57, ntmps57
 go_wp2_with fail
 refine bodyPost_ret (by simp [results, results57, go_sem]; try rfl) rfl ?_
 rw [E.out]
 exact ⟨⟨1, 36, .slice none 0 0, 0, 0⟩, rfl, rfl, (xaa.refl _ _).alloc _⟩
theorem xkV (r : Int) (t : List Int) (b off cap : Nat) (w : World) (h : ISl w (.slice (some ⟨b, off, none⟩) (t.length + 1) cap) (r :: t)) (hl : t.length <= 200) (hr : r = 42 \/ r = 43 \/ r = 63) : Calls prog 57 #[.slice (some ⟨b, off, none⟩) (t.length + 1) cap] w fun e w' => TokE w (tokP (r :: t)) e w' := by
 obtain ⟨_, _, e1, hcap, hc⟩ := h.cells
 simp only [List.length_cons] at e1 hcap hc
 injection e1 with e1 _ e2
 subst e1 e2
 obtain ⟨_, _, e1, hcc⟩ := hc (by omega)
 injection e1 with e1
 injection e1 with e1 e2
 subst e1 e2
 obtain ⟨c0, c1, c2⟩ := hcc 0 r rfl
 simp only [Nat.add_zero] at c0
 have x0 := xaf c0 (.cells #[.int .i64 0, .int .i64 0, .slice none 0 0, .int .i64 0, .int .i64 0] 152)
 have HCC := xa hcc
 have HI := xa h
 have HP := xa (xas r t)
 generalize tokP (r :: t) = P at *
 clear hc hcc c0 h
 rcases hr with rfl | rfl | rfl
 · have E : Hid (P = some (.ct 0 (-1), 1)) := xa (by rw [HP.out]; rfl)
   clear HP HI HCC
   go_enter func57, ntmps57
   go_wp2_with fail
   refine bodyPost_ret (by simp [results, results57, go_sem]; try rfl) rfl ?_
   rw [E.out]
   exact ⟨⟨2, 0, .slice none 0 0, 0, -1⟩, rfl, ⟨rfl, by unfold in64; omega, by unfold in64; omega⟩, (xaa.refl _ _).alloc _⟩
 · have E : Hid (P = some (.ct 1 (-1), 1)) := xa (by rw [HP.out]; rfl)
   clear HP HI HCC
   go_enter func57, ntmps57
   go_wp2_with fail
   refine bodyPost_ret (by simp [results, results57, go_sem]; try rfl) rfl ?_
   rw [E.out]
   exact ⟨⟨2, 0, .slice none 0 0, 1, -1⟩, rfl, ⟨rfl, by unfold in64; omega, by unfold in64; omega⟩, (xaa.refl _ _).alloc _⟩
 have E : Hid (P = some (.ct 0 (1), 1)) := xa (by rw [HP.out]; rfl)
 clear HP HI HCC
 go_enter func57, ntmps57
 go_wp2_with fail
 refine bodyPost_ret (by simp [results, results57, go_sem]; try rfl) rfl ?_
 rw [E.out]
 exact ⟨⟨2, 0, .slice none 0 0, 0, 1⟩, rfl, ⟨rfl, by unfold in64; omega, by unfold in64; omega⟩, (xaa.refl _ _).alloc _⟩
theorem xjr (r : Int) (t : List Int) (b off cap : Nat) (w : World) (h : ISl w (.slice (some ⟨b, off, none⟩) (t.length + 1) cap) (r :: t)) (hl : t.length <= 200) (hr : r = 46) : Calls prog 57 #[.slice (some ⟨b, off, none⟩) (t.length + 1) cap] w fun e w' => TokE w (tokP (r :: t)) e w' := by
 obtain ⟨_, _, e1, hcap, hc⟩ := h.cells
 simp only [List.length_cons] at e1 hcap hc
 injection e1 with e1 _ e2
 subst e1 e2
 obtain ⟨_, _, e1, hcc⟩ := hc (by omega)
 injection e1 with e1
 injection e1 with e1 e2
 subst e1 e2
 obtain ⟨c0, c1, c2⟩ := hcc 0 r rfl
 simp only [Nat.add_zero] at c0
 have x0 := xaf c0 (.cells #[.int .i64 0, .int .i64 0, .slice none 0 0, .int .i64 0, .int .i64 0] 152)
 have HCC := xa hcc
 have HI := xa h
 have HP := xa (xas r t)
 generalize tokP (r :: t) = P at *
 clear hc hcc c0 h
 subst hr
 have E : Hid (P = some (.pt [(0, 9), (11, 1114111)], 1)) := xa (by rw [HP.out]; rfl)
 clear HP HI HCC
 go_enter func57, ntmps57
 go_wp2_with fail
 refine bodyPost_ret (by simp [results, results57, go_sem]; try rfl) rfl ?_
 rw [E.out]
 have h9 := xkY (w.alloc (.cells #[.int .i64 0, .int .i64 0, .slice (some ⟨w.heap.size + 1, 0, none⟩) 2 2, .int .i64 0, .int .i64 0] 152)) 0 9 11 1114111
 rw [show (w.alloc (.cells #[.int .i64 0, .int .i64 0, .slice (some ⟨w.heap.size + 1, 0, none⟩) 2 2, .int .i64 0, .int .i64 0] 152)).heap.size = w.heap.size + 1 by simp] at h9
 exact ⟨⟨0, 0, .slice (some ⟨w.heap.size + 1, 0, none⟩) 2 2, 0, 0⟩, rfl, xos (by simp) h9.1 (by simp) (by intro p hp; simp at hp; rcases hp with rfl | rfl <;> (unfold in64; decide)), ((xaa.refl _ _).alloc _).alloc _⟩
theorem xkU (r : Int) (t : List Int) (b off cap : Nat) (w : World) (h : ISl w (.slice (some ⟨b, off, none⟩) (t.length + 1) cap) (r :: t)) (hl : t.length <= 200) (hr : r = 93 \/ r = 125) : Calls prog 57 #[.slice (some ⟨b, off, none⟩) (t.length + 1) cap] w fun e w' => TokE w (tokP (r :: t)) e w' := by
 obtain ⟨_, _, e1, hcap, hc⟩ := h.cells
 simp only [List.length_cons] at e1 hcap hc
 injection e1 with e1 _ e2
 subst e1 e2
 obtain ⟨_, _, e1, hcc⟩ := hc (by omega)
 injection e1 with e1
 injection e1 with e1 e2
 subst e1 e2
 obtain ⟨c0, c1, c2⟩ := hcc 0 r rfl
 simp only [Nat.add_zero] at c0
 have x0 := xaf c0 (.cells #[.int .i64 0, .int .i64 0, .slice none 0 0, .int .i64 0, .int .i64 0] 152)
 have HCC := xa hcc
 have HI := xa h
 have HP := xa (xas r t)
 generalize tokP (r :: t) = P at *
 clear hc hcc c0 h
 have E : Hid (P = none) := xa (by rw [HP.out]; rcases hr with rfl | rfl <;> rfl)
 clear HP HI HCC
 rcases hr with rfl | rfl
 · skip
   go_enter func57, ntmps57
   go_wp2_with fail
   refine bodyPost_ret (by simp [results, results57, go_sem]; try rfl) rfl ?_
   rw [E.out]
   exact ⟨rfl, (xaa.refl _ _).alloc _⟩
 skip
 go_enter func57, ntmps57
 go_wp2_with fail
 refine bodyPost_ret (by simp [results, results57, go_sem]; try rfl) rfl ?_
 rw [E.out]
 exact ⟨rfl, (xaa.refl _ _).alloc _⟩
theorem Norm.len {l : LI} (h : Norm l) : l.length <= 4611686018427387904 := by
 have h2 : ∀ l : LI, Norm l -> (l.length : Int) <= sumR l := by
  intro l
  induction l with
  | nil => intro _; simp [sumR]
  | cons p l ih => intro h; have h3 := h.rng p (by simp); have h4 := ih h.tail; rw [xeo]; simp only [List.length_cons]; push_cast; omega
 have := h2 l h
 have := (xen l h).2
 omega
theorem Norm.in64 {l : LI} (h : Norm l) : ∀ p ∈ l, in64 p.1 /\ in64 p.2 := fun p hp => by
 have := h.rng p hp; unfold Go.Proofs.YtapmdhejgnplaaaGreat.in64; omega
theorem xom {w w3 : World} {o : Obj} {u : Value} {L : LI} (h : w3.ownsRow (w.alloc o).heap.size 180 2 u L.length (cellsOf 2 encR L)) (hl : L.length <= 4611686018427387904) (hr : ∀ p ∈ L, in64 p.1 /\ in64 p.2) :
 KAt w3 (fun b => w.heap.size < b /\ b < w3.heap.size) ⟨0, 0, u, 0, 0⟩ (.pt L) :=
 (KAt.pt h hl hr).keepsTo (xaa.refl (fun _ => False) _) (fun _ _ => id) (fun b hb => ⟨by have := hb.1; simp at this; omega, hb.2⟩)
theorem xkX (r : Int) (t : List Int) (b off cap : Nat) (w : World) (h : ISl w (.slice (some ⟨b, off, none⟩) (t.length + 1) cap) (r :: t)) (hl : t.length <= 200) (hr : r = 123) : Calls prog 57 #[.slice (some ⟨b, off, none⟩) (t.length + 1) cap] w fun e w' => TokE w (tokP (r :: t)) e w' := by
 obtain ⟨_, _, e1, hcap, hc⟩ := h.cells
 simp only [List.length_cons] at e1 hcap hc
 injection e1 with e1 _ e2
 subst e1 e2
 obtain ⟨_, _, e1, hcc⟩ := hc (by omega)
 injection e1 with e1
 injection e1 with e1 e2
 subst e1 e2
 obtain ⟨c0, c1, c2⟩ := hcc 0 r rfl
 simp only [Nat.add_zero] at c0
 have x0 := xaf c0 (.cells #[.int .i64 0, .int .i64 0, .slice none 0 0, .int .i64 0, .int .i64 0] 152)
 have HCC := xa hcc
 have HI := xa h
 have HP := xa (xas r t)
 generalize tokP (r :: t) = P at *
 clear hc hcc c0 h
 subst hr
 have HP2 : Hid (P = (brP t).map fun p => (.ct p.1 p.2.1, p.2.2 + 1)) := xa (by rw [HP.out]; rfl)
 clear HP HCC
 have hI4 : (1 : Int) <= (t.length : Int) + 1 := by omega
 have hI5 : (1 : Int) <= (cap : Int) := by omega
 by_cases hcp : cap = 1
 · subst hcp
   obtain rfl : t = [] := List.length_eq_zero_iff.1 (by omega)
   have E : Hid (P = none) := xa HP2.out
   have HB := xa (fun W (K : KF w W) => xey [] (.slice (some ⟨b, off, none⟩) 0 0) W (by simp) ⟨⟨_, 0, rfl, ⟨Nat.le_refl _, (fun h => by cases h)⟩, by simp, fun h => by simp at h⟩, fun r hr => by cases hr⟩)
   rw [show brV (brP []) = .tuple #[tokV 0 0 (.slice none 0 0) 0 0, .int .i64 0] from rfl] at HB
   clear HP2 HI
   simp only [List.length_nil] at *
   go_enter func57, ntmps57
   go_wp2_with fail
   refine (HB.out _ (xaa.alloc (xaa.refl _ _) _)).mono ?_
   rintro e w3 ⟨rfl, K⟩
   have K3 := xa (K.alloc (.cells #[.int .i64 0, .int .i64 0, .slice none 0 0, .int .i64 0, .int .i64 0] 152))
   obtain ⟨⟨y0, y1, y2, y3, y4⟩, q0, q1, q2, q3, q4⟩ := xbj K3.out
   clear K
   unfold tokV
   go_wp2_with fail
   obtain ⟨wE, hWE⟩ : ∃ W, st5 (w3.alloc (.cells #[.int .i64 0, .int .i64 0, .slice none 0 0, .int .i64 0, .int .i64 0] 152)) w.heap.size (.int .i64 0) (.int .i64 0) (.slice none 0 0) (.int .i64 0) (.int .i64 0) = W := ⟨_, rfl⟩
   obtain ⟨r0, r1, r2, r3, r4, kE⟩ := xap (w3.alloc (.cells #[.int .i64 0, .int .i64 0, .slice none 0 0, .int .i64 0, .int .i64 0] 152)) w.heap.size y0 y1 y2 y3 y4 (.int .i64 0) (.int .i64 0) (.slice none 0 0) (.int .i64 0) (.int .i64 0)
   rw [hWE] at r0 r1 r2 r3 r4 kE
   unfold st5 at hWE
   rw [hWE]
   have HKE := xa kE
   clear kE hWE y0 y1 y2 y3 y4
   refine bodyPost_ret (by simp [results, results57, go_sem, r0, r1, r2, r3, r4]; try rfl) rfl ?_
   rw [E.out]
   exact xdg K3.out HKE.out
 have hI6 : ¬ (cap : Int) = 1 := by omega
 have HB := xa (fun W (K : KF w W) => xey t _ W (by omega) ((HI.out.keep K).dropI 1 (by omega) hcp))
 cases hb : brP t with
 | none =>
  have E : Hid (P = none) := xa (by rw [HP2.out, hb]; rfl)
  rw [hb] at HB
  simp only [brV] at HB
  clear HP2 HI hb
  go_enter func57, ntmps57
  go_wp2_with fail
  refine (HB.out _ (xaa.alloc (xaa.refl _ _) _)).mono ?_
  rintro e w3 ⟨rfl, K⟩
  have K3 := xa (K.alloc (.cells #[.int .i64 0, .int .i64 0, .slice none 0 0, .int .i64 0, .int .i64 0] 152))
  obtain ⟨⟨y0, y1, y2, y3, y4⟩, q0, q1, q2, q3, q4⟩ := xbj K3.out
  clear K
  unfold tokV
  go_wp2_with fail
  obtain ⟨wE, hWE⟩ : ∃ W, st5 (w3.alloc (.cells #[.int .i64 0, .int .i64 0, .slice none 0 0, .int .i64 0, .int .i64 0] 152)) w.heap.size (.int .i64 0) (.int .i64 0) (.slice none 0 0) (.int .i64 0) (.int .i64 0) = W := ⟨_, rfl⟩
  obtain ⟨r0, r1, r2, r3, r4, kE⟩ := xap (w3.alloc (.cells #[.int .i64 0, .int .i64 0, .slice none 0 0, .int .i64 0, .int .i64 0] 152)) w.heap.size y0 y1 y2 y3 y4 (.int .i64 0) (.int .i64 0) (.slice none 0 0) (.int .i64 0) (.int .i64 0)
  rw [hWE] at r0 r1 r2 r3 r4 kE
  unfold st5 at hWE
  rw [hWE]
  have HKE := xa kE
  clear kE hWE y0 y1 y2 y3 y4
  refine bodyPost_ret (by simp [results, results57, go_sem, r0, r1, r2, r3, r4]; try rfl) rfl ?_
  rw [E.out]
  exact xdg K3.out HKE.out
 | some q =>
  obtain ⟨m, x, k⟩ := q
  have hk1 := (xe4 hb).1
  have hk2 := (xe4 hb).2.1
  have HR := xa (brP_rng hb)
  have gk : ((k : Int) == 0) = false := beq_eq_false_iff_ne.2 (by omega)
  have E : Hid (P = some (.ct m x, k + 1)) := xa (by rw [HP2.out, hb]; rfl)
  rw [hb] at HB
  simp only [brV] at HB
  clear HP2 HI hb
  go_enter func57, ntmps57
  go_wp2_with fail
  refine (HB.out _ (xaa.alloc (xaa.refl _ _) _)).mono ?_
  rintro e w3 ⟨rfl, K⟩
  have K3 := xa (K.alloc (.cells #[.int .i64 2, .int .i64 0, .slice none 0 0, .int .i64 m, .int .i64 x] 152))
  obtain ⟨⟨y0, y1, y2, y3, y4⟩, q0, q1, q2, q3, q4⟩ := xbj K3.out
  clear K
  unfold tokV
  go_wp2_with fail
  obtain ⟨wE, hWE⟩ : ∃ W, st5 (w3.alloc (.cells #[.int .i64 2, .int .i64 0, .slice none 0 0, .int .i64 m, .int .i64 x] 152)) w.heap.size (.int .i64 2) (.int .i64 0) (.slice none 0 0) (.int .i64 m) (.int .i64 x) = W := ⟨_, rfl⟩
  obtain ⟨r0, r1, r2, r3, r4, kE⟩ := xap (w3.alloc (.cells #[.int .i64 2, .int .i64 0, .slice none 0 0, .int .i64 m, .int .i64 x] 152)) w.heap.size y0 y1 y2 y3 y4 (.int .i64 2) (.int .i64 0) (.slice none 0 0) (.int .i64 m) (.int .i64 x)
  rw [hWE] at r0 r1 r2 r3 r4 kE
  unfold st5 at hWE
  rw [hWE]
  have HKE := xa kE
  clear kE hWE y0 y1 y2 y3 y4
  refine bodyPost_ret (by simp [results, results57, go_sem, r0, r1, r2, r3, r4]; try rfl) rfl ?_
  rw [E.out]
  exact xem (v := ⟨2, 0, .slice none 0 0, m, x⟩) K3.out ⟨rfl, HR.out⟩ HKE.out
theorem xkW (r : Int) (t : List Int) (b off cap : Nat) (w : World) (h : ISl w (.slice (some ⟨b, off, none⟩) (t.length + 1) cap) (r :: t)) (hl : t.length <= 200) (HCL : xmC) (hr : r = 91) : Calls prog 57 #[.slice (some ⟨b, off, none⟩) (t.length + 1) cap] w fun e w' => TokE w (tokP (r :: t)) e w' := by
 obtain ⟨_, _, e1, hcap, hc⟩ := h.cells
 simp only [List.length_cons] at e1 hcap hc
 injection e1 with e1 _ e2
 subst e1 e2
 obtain ⟨_, _, e1, hcc⟩ := hc (by omega)
 injection e1 with e1
 injection e1 with e1 e2
 subst e1 e2
 obtain ⟨c0, c1, c2⟩ := hcc 0 r rfl
 simp only [Nat.add_zero] at c0
 have x0 := xaf c0 (.cells #[.int .i64 0, .int .i64 0, .slice none 0 0, .int .i64 0, .int .i64 0] 152)
 have HCC := xa hcc
 have HI := xa h
 have HP := xa (xas r t)
 generalize tokP (r :: t) = P at *
 clear hc hcc c0 h
 subst hr
 have HP2 : Hid (P = (clP t).map fun p => (.pt p.1, p.2 + 1)) := xa (by rw [HP.out]; rfl)
 clear HP HCC
 have hI4 : (1 : Int) <= (t.length : Int) + 1 := by omega
 have hI5 : (1 : Int) <= (cap : Int) := by omega
 by_cases hcp : cap = 1
 · subst hcp
   obtain rfl : t = [] := List.length_eq_zero_iff.1 (by omega)
   have E : Hid (P = none) := xa HP2.out
   have HB := xa (fun W (K : KF w W) => HCL [] b off 0 W ⟨⟨_, 0, rfl, ⟨Nat.le_refl _, (fun h => by cases h)⟩, by simp, fun h => by simp at h⟩, fun r hr => by cases hr⟩ (by simp))
   rw [show clP [] = none from rfl] at HB
   clear HP2 HI
   simp only [List.length_nil] at *
   go_enter func57, ntmps57
   go_wp2_with fail
   refine (HB.out _ (xaa.alloc (xaa.refl _ _) _)).mono ?_
   rintro e w3 ⟨rfl, K⟩
   have K3 := xa K
   clear K
   obtain ⟨⟨y0, y1, y2, y3, y4⟩, q0, q1, q2, q3, q4⟩ := xbj K3.out
   go_wp2_with fail
   obtain ⟨wE, hWE⟩ : ∃ W, st5 (w3) w.heap.size (.int .i64 0) (.int .i64 0) (.slice none 0 0) (.int .i64 0) (.int .i64 0) = W := ⟨_, rfl⟩
   obtain ⟨r0, r1, r2, r3, r4, kE⟩ := xap (w3) w.heap.size y0 y1 y2 y3 y4 (.int .i64 0) (.int .i64 0) (.slice none 0 0) (.int .i64 0) (.int .i64 0)
   rw [hWE] at r0 r1 r2 r3 r4 kE
   unfold st5 at hWE
   rw [hWE]
   have HKE := xa kE
   clear kE hWE y0 y1 y2 y3 y4
   refine bodyPost_ret (by simp [results, results57, go_sem, r0, r1, r2, r3, r4]; try rfl) rfl ?_
   rw [E.out]
   exact xdg K3.out HKE.out
 have hI6 : ¬ (cap : Int) = 1 := by omega
 have HB := xa (fun W (K : KF w W) => HCL t _ _ _ W ((HI.out.keep K).dropI 1 (by omega) hcp) (by omega))
 cases hb : clP t with
 | none =>
  have E : Hid (P = none) := xa (by rw [HP2.out, hb]; rfl)
  rw [hb] at HB
  clear HP2 HI hb
  go_enter func57, ntmps57
  go_wp2_with fail
  refine (HB.out _ (xaa.alloc (xaa.refl _ _) _)).mono ?_
  rintro e w3 ⟨rfl, K⟩
  have K3 := xa K
  clear K
  obtain ⟨⟨y0, y1, y2, y3, y4⟩, q0, q1, q2, q3, q4⟩ := xbj K3.out
  go_wp2_with fail
  obtain ⟨wE, hWE⟩ : ∃ W, st5 (w3) w.heap.size (.int .i64 0) (.int .i64 0) (.slice none 0 0) (.int .i64 0) (.int .i64 0) = W := ⟨_, rfl⟩
  obtain ⟨r0, r1, r2, r3, r4, kE⟩ := xap (w3) w.heap.size y0 y1 y2 y3 y4 (.int .i64 0) (.int .i64 0) (.slice none 0 0) (.int .i64 0) (.int .i64 0)
  rw [hWE] at r0 r1 r2 r3 r4 kE
  unfold st5 at hWE
  rw [hWE]
  have HKE := xa kE
  clear kE hWE y0 y1 y2 y3 y4
  refine bodyPost_ret (by simp [results, results57, go_sem, r0, r1, r2, r3, r4]; try rfl) rfl ?_
  rw [E.out]
  exact xdg K3.out HKE.out
 | some q =>
  obtain ⟨s, k⟩ := q
  have hk1 := (xe1 hb).1
  have hk2 := (xe1 hb).2.1
  have HN := xa (xnV hb)
  have gk : ((k : Int) == 0) = false := beq_eq_false_iff_ne.2 (by omega)
  have E : Hid (P = some (.pt s, k + 1)) := xa (by rw [HP2.out, hb]; rfl)
  rw [hb] at HB
  clear HP2 HI hb
  go_enter func57, ntmps57
  go_wp2_with fail
  refine (HB.out _ (xaa.alloc (xaa.refl _ _) _)).mono ?_
  rintro e w3 ⟨u, rfl, hu⟩
  have K3 := xa hu.2
  have HU := xa hu.1
  obtain ⟨ua, uc, rfl⟩ := xad hu.1
  clear hu
  obtain ⟨⟨y0, y1, y2, y3, y4⟩, q0, q1, q2, q3, q4⟩ := xbj K3.out
  go_wp2_with fail
  obtain ⟨wE, hWE⟩ : ∃ W, st5 (w3) w.heap.size (.int .i64 0) (.int .i64 0) (.slice ua s.length uc) (.int .i64 0) (.int .i64 0) = W := ⟨_, rfl⟩
  obtain ⟨r0, r1, r2, r3, r4, kE⟩ := xap (w3) w.heap.size y0 y1 y2 y3 y4 (.int .i64 0) (.int .i64 0) (.slice ua s.length uc) (.int .i64 0) (.int .i64 0)
  rw [hWE] at r0 r1 r2 r3 r4 kE
  unfold st5 at hWE
  rw [hWE]
  have HKE := xa kE
  clear kE hWE y0 y1 y2 y3 y4
  refine bodyPost_ret (by simp [results, results57, go_sem, r0, r1, r2, r3, r4]; try rfl) rfl ?_
  rw [E.out]
  exact xem (v := ⟨0, 0, .slice ua s.length uc, 0, 0⟩) K3.out (xom HU.out HN.out.len HN.out.in64) HKE.out
theorem xjp (r : Int) (t : List Int) (b off cap : Nat) (w : World) (h : ISl w (.slice (some ⟨b, off, none⟩) (t.length + 1) cap) (r :: t)) (hl : t.length <= 200) (hr : r = 92) : Calls prog 57 #[.slice (some ⟨b, off, none⟩) (t.length + 1) cap] w fun e w' => TokE w (tokP (r :: t)) e w' := by
 obtain ⟨_, _, e1, hcap, hc⟩ := h.cells
 simp only [List.length_cons] at e1 hcap hc
 injection e1 with e1 _ e2
 subst e1 e2
 obtain ⟨_, _, e1, hcc⟩ := hc (by omega)
 injection e1 with e1
 injection e1 with e1 e2
 subst e1 e2
 obtain ⟨c0, c1, c2⟩ := hcc 0 r rfl
 simp only [Nat.add_zero] at c0
 have x0 := xaf c0 (.cells #[.int .i64 0, .int .i64 0, .slice none 0 0, .int .i64 0, .int .i64 0] 152)
 have HCC := xa hcc
 have HI := xa h
 have HP := xa (xas r t)
 generalize tokP (r :: t) = P at *
 clear hc hcc c0 h
 subst hr
 clear HI
 rcases t with _ | ⟨r2, t⟩
 · have E : Hid (P = none) := xa (by rw [HP.out]; rfl)
   clear HP HCC
   simp only [List.length_nil] at *
   go_enter func57, ntmps57
   go_wp2_with fail
   refine bodyPost_ret (by simp [results, results57, go_sem]; try rfl) rfl ?_
   rw [E.out]
   exact ⟨rfl, (xaa.refl _ _).alloc _⟩
 have HP2 : Hid (P = (escP r2).map fun p => (.pt p.1, 2)) := xa (by rw [HP.out]; rfl)
 clear HP
 obtain ⟨d0, d1, d2⟩ := HCC.out 1 r2 rfl
 have z0 := xaf d0 (.cells #[.int .i64 0, .int .i64 0, .slice none 0 0, .int .i64 0, .int .i64 0] 152)
 have HB := xa (fun W => xd1 r2 W ⟨d1, d2⟩)
 have hI4 : decide ((t.length : Int) + 1 + 1 < 2) = false := by simp; omega
 have hI5 : (1 : Int) < (t.length : Int) + 1 + 1 := by omega
 simp only [List.length_cons] at *
 cases hb : escP r2 with
 | none =>
  have E : Hid (P = none) := xa (by rw [HP2.out, hb]; rfl)
  rw [hb] at HB
  clear HP2 HCC hb d0
  go_enter func57, ntmps57
  go_wp2_with fail
  refine (HB.out _).mono ?_
  rintro e w3 ⟨rfl, K⟩
  have K3 := xa K
  clear K
  obtain ⟨⟨y0, y1, y2, y3, y4⟩, q0, q1, q2, q3, q4⟩ := xbj K3.out
  go_wp2_with fail
  obtain ⟨wE, hWE⟩ : ∃ W, st5 (w3) w.heap.size (.int .i64 0) (.int .i64 0) (.slice none 0 0) (.int .i64 0) (.int .i64 0) = W := ⟨_, rfl⟩
  obtain ⟨r0, r1, r2, r3, r4, kE⟩ := xap (w3) w.heap.size y0 y1 y2 y3 y4 (.int .i64 0) (.int .i64 0) (.slice none 0 0) (.int .i64 0) (.int .i64 0)
  rw [hWE] at r0 r1 r2 r3 r4 kE
  unfold st5 at hWE
  rw [hWE]
  have HKE := xa kE
  clear kE hWE y0 y1 y2 y3 y4
  refine bodyPost_ret (by simp [results, results57, go_sem, r0, r1, r2, r3, r4]; try rfl) rfl ?_
  rw [E.out]
  exact xdg K3.out HKE.out
 | some q =>
  obtain ⟨s, is⟩ := q
  have HN := xa (xi6 ⟨d1, d2⟩ hb)
  have E : Hid (P = some (.pt s, 2)) := xa (by rw [HP2.out, hb]; rfl)
  rw [hb] at HB
  clear HP2 HCC hb d0
  go_enter func57, ntmps57
  go_wp2_with fail
  refine (HB.out _).mono ?_
  rintro e w3 ⟨u, rfl, hu⟩
  have K3 := xa hu.2
  have HU := xa hu.1
  obtain ⟨ua, uc, rfl⟩ := xad hu.1
  clear hu
  obtain ⟨⟨y0, y1, y2, y3, y4⟩, q0, q1, q2, q3, q4⟩ := xbj K3.out
  go_wp2_with fail
  obtain ⟨wE, hWE⟩ : ∃ W, st5 (w3) w.heap.size (.int .i64 0) (.int .i64 0) (.slice ua s.length uc) (.int .i64 0) (.int .i64 0) = W := ⟨_, rfl⟩
  obtain ⟨r0, r1, r2, r3, r4, kE⟩ := xap (w3) w.heap.size y0 y1 y2 y3 y4 (.int .i64 0) (.int .i64 0) (.slice ua s.length uc) (.int .i64 0) (.int .i64 0)
  rw [hWE] at r0 r1 r2 r3 r4 kE
  unfold st5 at hWE
  rw [hWE]
  have HKE := xa kE
  clear kE hWE y0 y1 y2 y3 y4
  refine bodyPost_ret (by simp [results, results57, go_sem, r0, r1, r2, r3, r4]; try rfl) rfl ?_
  rw [E.out]
  exact xem (v := ⟨0, 0, .slice ua s.length uc, 0, 0⟩) K3.out (xom HU.out (by have := HN.out.1; omega) HN.out.2) HKE.out
theorem xjq (r : Int) (t : List Int) (b off cap : Nat) (w : World) (h : ISl w (.slice (some ⟨b, off, none⟩) (t.length + 1) cap) (r :: t)) (hl : t.length <= 200) (hr : r ≠ 124 /\ r ≠ 40 /\ r ≠ 41 /\ r ≠ 94 /\ r ≠ 36 /\ r ≠ 42 /\ r ≠ 43 /\ r ≠ 63 /\ r ≠ 123 /\ r ≠ 46 /\ r ≠ 91 /\ r ≠ 92 /\ r ≠ 93 /\ r ≠ 125) : Calls prog 57 #[.slice (some ⟨b, off, none⟩) (t.length + 1) cap] w fun e w' => TokE w (tokP (r :: t)) e w' := by
 obtain ⟨_, _, e1, hcap, hc⟩ := h.cells
 simp only [List.length_cons] at e1 hcap hc
 injection e1 with e1 _ e2
 subst e1 e2
 obtain ⟨_, _, e1, hcc⟩ := hc (by omega)
 injection e1 with e1
 injection e1 with e1 e2
 subst e1 e2
 obtain ⟨c0, c1, c2⟩ := hcc 0 r rfl
 simp only [Nat.add_zero] at c0
 have x0 := xaf c0 (.cells #[.int .i64 0, .int .i64 0, .slice none 0 0, .int .i64 0, .int .i64 0] 152)
 have HCC := xa hcc
 have HI := xa h
 have HP := xa (xas r t)
 generalize tokP (r :: t) = P at *
 clear hc hcc c0 h
 obtain ⟨h1, h2, h3, h4, h5, h6, h7, h8, h9, ha, hb, hc, hd, he⟩ := hr
 have E : Hid (P = some (.pt [(r, r)], 1)) := xa (by rw [HP.out, if_neg (by omega), if_neg h6, if_neg h7, if_neg h8, if_neg h9, if_neg ha, if_neg hb, if_neg hc, if_neg (by omega)])
 have x00 : w.cell? ⟨b, off, none⟩ = some (.int .i64 r) := by simpa using (HCC.out 0 r rfl).1
 have hne : w.heap.size ≠ b := World.new_ne w ⟨b, off, none⟩ x00
 clear HP HI HCC
 have g0 : (r == 124) = false := beq_eq_false_iff_ne.2 h1
 have g1 : (r == 40) = false := beq_eq_false_iff_ne.2 h2
 have g2 : (r == 41) = false := beq_eq_false_iff_ne.2 h3
 have g3 : (r == 94) = false := beq_eq_false_iff_ne.2 h4
 have g4 : (r == 36) = false := beq_eq_false_iff_ne.2 h5
 have g5 : (r == 42) = false := beq_eq_false_iff_ne.2 h6
 have g6 : (r == 43) = false := beq_eq_false_iff_ne.2 h7
 have g7 : (r == 63) = false := beq_eq_false_iff_ne.2 h8
 have g8 : (r == 123) = false := beq_eq_false_iff_ne.2 h9
 have g9 : (r == 46) = false := beq_eq_false_iff_ne.2 ha
 have g10 : (r == 91) = false := beq_eq_false_iff_ne.2 hb
 have g11 : (r == 92) = false := beq_eq_false_iff_ne.2 hc
 have g12 : (r == 93) = false := beq_eq_false_iff_ne.2 hd
 have g13 : (r == 125) = false := beq_eq_false_iff_ne.2 he
 go_enter func57, ntmps57
 go_wp2_with fail
 go_region_held3 (fun w' => w'.cell? ⟨b, off, none⟩ = some (.int .i64 r)) (go_keep) (fail)
 all_goals go_wp2_with fail
 refine bodyPost_ret (by simp [results, results57, go_sem]; try rfl) rfl ?_
 rw [E.out]
 have h9 := xca (w.alloc (.cells #[.int .i64 0, .int .i64 0, .slice (some ⟨w.heap.size + 1, 0, none⟩) 1 1, .int .i64 0, .int .i64 0] 152)) r
 rw [show (w.alloc (.cells #[.int .i64 0, .int .i64 0, .slice (some ⟨w.heap.size + 1, 0, none⟩) 1 1, .int .i64 0, .int .i64 0] 152)).heap.size = w.heap.size + 1 by simp] at h9
 have h10 := xos (w := w) (by simp) h9.1 (by simp) (by intro p hp; simp at hp; subst hp; unfold in64; simp only; omega)
 have K := xaa.drew (((xaa.refl (fun _ => False) w).alloc (.cells #[.int .i64 0, .int .i64 0, .slice (some ⟨w.heap.size + 1, 0, none⟩) 1 1, .int .i64 0, .int .i64 0] 152)).alloc (.cells #[.int .i64 r, .int .i64 r] 180))
 exact ⟨⟨0, 0, .slice (some ⟨w.heap.size + 1, 0, none⟩) 1 1, 0, 0⟩, rfl, h10.keepsTo (xaa.drew (xaa.refl (fun _ => False) _)) (fun _ _ => id) (fun b hb => hb), K⟩
theorem xjs (HCL : xmC) (r : Int) (t : List Int) (v : Value) (w : World) (h : ISl w v (r :: t)) (hl : t.length <= 200) : Calls prog 57 #[v] w fun e w' => TokE w (tokP (r :: t)) e w' := by
 obtain ⟨a, cap, rfl, _, hc⟩ := h.cells
 obtain ⟨b, off, rfl, _⟩ := hc (by simp)
 by_cases h1 : r = 124 \/ r = 40 \/ r = 41 \/ r = 94 \/ r = 36
 · exact xkT r t b off cap w h hl h1
 by_cases h2 : r = 42 \/ r = 43 \/ r = 63
 · exact xkV r t b off cap w h hl h2
 by_cases h3 : r = 46
 · exact xjr r t b off cap w h hl h3
 by_cases h4 : r = 93 \/ r = 125
 · exact xkU r t b off cap w h hl h4
 by_cases h5 : r = 123
 · exact xkX r t b off cap w h hl h5
 by_cases h6 : r = 91
 · exact xkW r t b off cap w h hl HCL h6
 by_cases h7 : r = 92
 · exact xjp r t b off cap w h hl h7
 exact xjq r t b off cap w h hl (by omega)
theorem xe (w : World) (x y : Int) : ROwn w (w.alloc (.cells #[.int .i64 x, .int .i64 y] 180)) (.slice (some ⟨w.heap.size, 0, none⟩) 1 1) [(x, y)] :=
 ⟨⟨rfl, Or.inr ⟨w.heap.size, 1, _, rfl, Nat.le_refl _, heap_alloc_new w _, Nat.le_refl _, by unfold maxLen; decide, rfl, rfl⟩⟩, (xaa.refl _ _).alloc _⟩
theorem xbB {w : World} {base : Nat} {v : Value} {x y : Int} (h : w.ownsRow base 180 2 v [(x, y)].length (cellsOf 2 encR [(x, y)])) : ∃ g cap, v = .slice (some ⟨g, 0, none⟩) 1 cap /\ w.cell? ⟨g, 0, none⟩ = some (.int .i64 x) /\ w.cell? ⟨g, 1, none⟩ = some (.int .i64 y) := by
 obtain ⟨g, gc, rfl, hg1, hg2⟩ := xbA h (by simp)
 exact ⟨g, gc, rfl, by rw [h.cellAt 0 (by simp)]; rfl, by rw [h.cellAt 1 (by simp)]; rfl⟩
theorem xjA (l : List Int) (b off cap : Nat) (w : World) (h : ISl w (.slice (some ⟨b, off, none⟩) l.length cap) l) (hl : l.length <= 200) (h94 : l.head? = some 94) : Calls prog 66 #[.slice (some ⟨b, off, none⟩) l.length cap] w fun e w' => ClE w (clP l) e w' := by
 obtain ⟨a, cap', e1, hcap, hc⟩ := h.cells
 injection e1 with e1 _ e2
 subst e1 e2
 have HI := xa h
 clear h
 have hpos : 0 < l.length := by cases l <;> simp_all
 obtain ⟨b', off', e1, hcc⟩ := hc hpos
 injection e1 with e1
 injection e1 with e1 e2
 subst e1 e2
 obtain ⟨c0, c1, c2⟩ := hcc 0 94 (by rw [<- List.head?_eq_getElem?]; exact h94)
 simp only [Nat.add_zero] at c0
 have HCC := xa hcc
 have HC : Hid (clP l = (clG (l.length + 1) true (l.drop 1) [] 1).map fun p => (notL p.1, p.2)) := xa (by unfold clP; rw [if_pos h94])
 generalize clP l = P at *
 obtain ⟨G, HG'⟩ : ∃ G, clG (l.length + 1) true (l.drop 1) [] 1 = G := ⟨_, rfl⟩
 rw [HG'] at HC
 have HG := xa HG'
 clear HG' hc hcc h94
 have hp1 : decide ((0 : Int) < (l.length : Int)) = true := by simpa using hpos
 have hp2 : (0 : Int) < (l.length : Int) := by omega
 go_enter func66, ntmps66
 go_wp2_with fail
 go_loopw [4, 6, 7] (fun atv av pv wr => xmB G l w atv av pv wr) (fun atv _ _ _ => l.length + 1 - (intOf atv).toNat)
 case atStart => exact ⟨1, 0, l.length + 1, [], rfl, rfl, by first | omega | simp, by omega, by omega, by simp, World.ownsRow_nil _ _ _ _, xaa.refl _ _, HG.out, by simp⟩
 case round =>
  obtain ⟨i, p, n, all, rfl, rfl, hi, hpi, hn, hal, hown, hk, hg, h64⟩ := hrel
  have hsz := hk.size
  obtain ⟨m, rfl⟩ : ∃ m, n = m + 1 := ⟨n - 1, by omega⟩
  obtain ⟨ava, avc, rfl⟩ := xad hown
  have HOW := xa hown
  have HK := xa hk
  have Hg := xa hg
  have HIr := xa (HI.out.keep hk)
  clear hown hk hg
  have hI3 : (0 : Int) <= (i : Int) := by omega
  have hI4 : (i : Int) <= (l.length : Int) := by omega
  have hI5 : (i : Int) <= (cap : Int) := by omega
  by_cases hil : i < l.length
  · obtain ⟨x, hx⟩ : ∃ x, l[i]? = some x := ⟨_, List.getElem?_eq_getElem hil⟩
    have hxc := HK.out.cell (HCC.out i x hx).1 id
    have Hhd : Hid ((l.drop i).head? = some x) := xa (by rw [List.head?_drop, hx])
    have hid : decide ((i : Int) < (l.length : Int)) = true := by simp; omega
    have hid0 : (i : Int) < (l.length : Int) := by omega
    clear hx
    by_cases hA : x = 93 /\ 0 < p
    · obtain ⟨rfl, hp0⟩ := hA
      have hpd : decide ((0 : Int) < (p : Int)) = true := by simpa using hp0
      have E : Hid (G = some (all, i + 1)) := xa (by rw [<- Hg.out]; unfold clG; rw [if_pos ⟨by simp; omega, Hhd.out⟩])
      have HM := xa (fun W v' hW => xev all v' true W hW (by omega))
      have HRS := xa (show RSl wr (.slice ava all.length avc) all from ⟨SlOf.ofOwn HOW.out (by omega), h64⟩)
      go_wp2_with fail
      refine (HM.out _ _ HRS.out).mono ?_
      rintro e w4 ⟨u4', rfl, hu4⟩
      have HU4 := xa hu4
      obtain ⟨va, vc, rfl⟩ := xad hu4.1
      clear hu4
      go_wp2
      go_ret2
      rw [HC.out, E.out]
      exact ⟨_, rfl, xdl HU4.out.1 hsz, HK.out.trans HU4.out.2⟩
    have hA1 : (decide (p = 0) = false /\ (l.drop i).head? = some 93) ↔ False := by
     rw [Hhd.out]; simp; intro h1 h2; exact hA ⟨h2, by omega⟩
    have Hg2 : Hid ((match ptP (l.drop i) with
     | none => none
     | some (s, is, a) =>
      if is = true /\ ((l.drop i).drop a).head? = some 45 then
       match ptP ((l.drop i).drop (a + 1)) with
       | none => none
       | some (t, too, b) => if too = false \/ lo1 t < lo1 s then none else clG m false ((l.drop i).drop (a + 1 + b)) (all ++ [(lo1 s, lo1 t)]) (i + a + 1 + b)
      else clG m false ((l.drop i).drop a) (all ++ s) (i + a)) = G) := xa (by
       have e := Hg.out; unfold clG at e; rw [if_neg (by rw [hA1]; exact id)] at e; exact e)
    have hI2 := HIr.out.dropI i (by omega) (by omega)
    have HRP := xa (xaN (l.drop i) _ wr hI2)
    have Hrng := xa (fun s is k (h : ptP (l.drop i) = some (s, is, k)) => xf3 hI2.2 h)
    have Hloc := xa (fun s is k (h : ptP (l.drop i) = some (s, is, k)) => xbz h)
    clear hI2
    by_cases hx93 : x = 93
    · subst hx93
      have hp0 : ¬ 0 < p := fun h => hA ⟨rfl, h⟩
      have hpd : decide ((0 : Int) < (p : Int)) = false := by simp; omega
      have hPN : ptP (l.drop i) = none := by
       have e := Hhd.out
       cases hd : l.drop i with
       | nil => rfl
       | cons y t =>
        rw [hd] at e; simp at e; subst e
        rw [xbH, if_neg (by decide), if_pos (by decide +kernel)]
      rw [hPN] at HRP Hg2
      have E : Hid (G = none) := xa Hg2.out.symm
      clear Hg2 hPN
      go_wp2_with fail
      refine HRP.out.mono ?_
      rintro e w3 ⟨rfl, K⟩
      have K3 := xa K
      clear K
      go_wp2
      go_ret2
      rw [HC.out, E.out]
      exact ⟨rfl, HK.out.trans K3.out⟩
    have gx : (x == 93) = false := beq_eq_false_iff_ne.2 hx93
    cases hP : ptP (l.drop i) with
    | none =>
     rw [hP] at HRP Hg2
     have E : Hid (G = none) := xa Hg2.out.symm
     clear Hg2 hP
     go_wp2_with fail
     refine HRP.out.mono ?_
     rintro e w3 ⟨rfl, K⟩
     have K3 := xa K
     clear K
     go_wp2
     go_ret2
     rw [HC.out, E.out]
     exact ⟨rfl, HK.out.trans K3.out⟩
    | some q =>
     obtain ⟨s, is, k⟩ := q
     obtain ⟨k1, k2, _⟩ := Hloc.out s is k hP
     obtain ⟨r1, r2⟩ := Hrng.out s is k hP
     rw [List.length_drop] at k2
     rw [hP] at HRP Hg2
     dsimp only at Hg2
     have H64s := xa r2
     have gk : ((k : Int) == 0) = false := beq_eq_false_iff_ne.2 (by omega)
     clear r2 Hloc Hrng
     cases is with
     | false =>
      have Hg3 : Hid (clG m false (l.drop (i + k)) (all ++ s) (i + k) = G) := xa (by have e := Hg2.out; rw [if_neg (by simp), List.drop_drop] at e; exact e)
      clear Hg2 hP
      go_wp2_with fail
      refine HRP.out.mono ?_
      rintro e w3 ⟨u, rfl, hu⟩
      have HU := xa hu
      obtain ⟨ua, uc, rfl⟩ := xad hu.1
      clear hu
      have KW : Hid (KF w w3) := xa (HK.out.trans HU.out.2)
      have HO3 : Hid (w3.ownsRow w.heap.size 180 2 (.slice ava all.length avc) all.length (cellsOf 2 encR all)) := xa (xag HOW.out HU.out.2 (fun _ _ h => h))
      have HSS : Hid (SlOf 2 encR w3 (.slice ua s.length uc) s) := xa (SlOf.ofOwn HU.out.1 (by omega))
      have hsz3 := KW.out.size
      go_wp2_with (at_builtin; refine xaA rfl (.tmp 113) (.tmp 114) rfl w.heap.size _ _ _ rfl HO3.out _ s rfl HSS.out ?f1 ?f2 ?_)
      case f1 => first | omega | (simp; omega)
      case f2 => omega
      intro v4 w4 hown4 hgrow4
      have KW4 : Hid (KF w w4) := xa (KW.out.grown hgrow4 (fun b hb => Or.inr (xab HO3.out b hb)))
      have HO4 := xa hown4
      clear hown4 hgrow4
      go_wp2
      go_roundw
      case rel => exact xcE (i := i) (k := k) (p := p) (m := m) (by omega) (by omega) hpi hn hal r1 h64 H64s.out KW4.out (by rw [<- Hg3.out]) (by first | rfl | omega | (simp; done)) (by rfl) HO4.out (by go_num) (by go_num)
      case measure => simp [intOf]; omega
     | true =>
      obtain ⟨x1, rfl⟩ := xf4 hP
      have Hg4 : Hid ((if ((l.drop (i + k)).head? = some 45) then
       match ptP (l.drop (i + k + 1)) with
       | none => none
       | some (t, too, b) => if too = false \/ lo1 t < x1 then none else clG m false (l.drop (i + (k + 1 + b))) (all ++ [(x1, lo1 t)]) (i + (k + 1 + b))
      else clG m false (l.drop (i + k)) (all ++ [(x1, x1)]) (i + k)) = G) := xa (by
       have e := Hg2.out
       simp only [List.drop_drop, true_and, lo1, List.head?_cons, Option.getD_some] at e ⊢
       simp only [Nat.add_assoc] at e ⊢
       exact e)
      clear Hg2 hP
      by_cases hat : i + k < l.length
      · obtain ⟨y, hy⟩ : ∃ y, l[i + k]? = some y := ⟨_, List.getElem?_eq_getElem hat⟩
        rw [List.head?_drop, hy] at Hg4
        have hyc := HK.out.cell (HCC.out (i + k) y hy).1 id
        have hat1 : decide ((i : Int) + (k : Int) < (l.length : Int)) = true := by simp; omega
        have hat2 : (i : Int) + (k : Int) < (l.length : Int) := by omega
        clear hy
        by_cases hy45 : y = 45
        · subst hy45
          have hJ3 : (0 : Int) <= (i : Int) + (k : Int) + 1 := by omega
          have hJ4 : (i : Int) + (k : Int) + 1 <= (l.length : Int) := by omega
          have hJ5 : (i : Int) + (k : Int) + 1 <= (cap : Int) := by omega
          have Hg5 : Hid ((match ptP (l.drop (i + k + 1)) with
           | none => none
           | some (t, too, b) => if too = false \/ lo1 t < x1 then none else clG m false (l.drop (i + (k + 1 + b))) (all ++ [(x1, lo1 t)]) (i + (k + 1 + b))) = G) := xa (by have e := Hg4.out; rw [if_pos rfl] at e; exact e)
          clear Hg4
          by_cases hlt : i + k + 1 < l.length
          · have hcn : ¬ cap = i + k + 1 := by omega
            have HRP2 := xa (fun W (K : KF wr W) => xaN (l.drop (i + k + 1)) _ W ((HIr.out.keep K).dropI (i + k + 1) (by omega) hcn))
            have Hrng2 := xa (fun s is b (h : ptP (l.drop (i + k + 1)) = some (s, is, b)) => xf3 (HIr.out.dropI (i + k + 1) (by omega) hcn).2 h)
            cases hP2 : ptP (l.drop (i + k + 1)) with
            | none =>
             rw [hP2] at HRP2 Hg5
             have E : Hid (G = none) := xa Hg5.out.symm
             clear Hg5 hP2 Hrng2
             go_wp2_with fail
             refine HRP.out.mono ?_
             rintro e w3 ⟨u, rfl, hu⟩
             have HU := xa hu
             have hyc := hu.2.cell hyc id
             obtain ⟨ua, uc, rfl⟩ := xad hu.1
             clear hu
             go_wp2_with fail
             refine (HRP2.out w3 HU.out.2).mono ?_
             rintro e w5 ⟨rfl, K⟩
             have K5 := xa K
             clear K
             go_wp2_with fail
             go_quiet (fail)
             go_wp2
             go_ret2
             rw [HC.out, E.out]
             exact ⟨rfl, ((HK.out.trans HU.out.2).trans K5.out).drawN _⟩
            | some q2 =>
             obtain ⟨t, too, b2⟩ := q2
             obtain ⟨b1, b3, _⟩ := xbz hP2
             rw [List.length_drop] at b3
             have Hr2 := xa (Hrng2.out _ _ _ hP2).2
             have gb : ((b2 : Int) == 0) = false := beq_eq_false_iff_ne.2 (by omega)
             rw [hP2] at HRP2 Hg5
             dsimp only at Hg5
             cases too with
             | false =>
              have E : Hid (G = none) := xa (by have e := Hg5.out; rw [if_pos (Or.inl rfl)] at e; exact e.symm)
              clear Hg5 hP2 Hrng2 Hr2
              go_wp2_with fail
              refine HRP.out.mono ?_
              rintro e w3 ⟨u, rfl, hu⟩
              have HU := xa hu
              have hyc := hu.2.cell hyc id
              obtain ⟨ua, uc, rfl⟩ := xad hu.1
              clear hu
              go_wp2_with fail
              refine (HRP2.out w3 HU.out.2).mono ?_
              rintro e w5 ⟨u5, rfl, hu5⟩
              have HU5 := xa hu5
              obtain ⟨ta, tc, rfl⟩ := xad hu5.1
              clear hu5
              go_wp2_with fail
              go_quiet (fail)
              go_wp2
              go_ret2
              rw [HC.out, E.out]
              exact ⟨rfl, ((HK.out.trans HU.out.2).trans HU5.out.2).drawN _⟩
             | true =>
              obtain ⟨x2, rfl⟩ := xf4 hP2
              have Hg6 : Hid ((if x2 < x1 then none else clG m false (l.drop (i + (k + 1 + b2))) (all ++ [(x1, x2)]) (i + (k + 1 + b2))) = G) := xa (by
               have e := Hg5.out
               simp only [lo1, List.head?_cons, Option.getD_some, Bool.true_eq_false, false_or] at e
               exact e)
              clear hP2 Hrng2 Hg5
              by_cases hlo : x2 < x1
              · have gl : decide (x2 < x1) = true := by simpa using hlo
                have E : Hid (G = none) := xa (by have e := Hg6.out; rw [if_pos hlo] at e; exact e.symm)
                clear Hg6 Hr2
                go_wp2_with fail
                refine HRP.out.mono ?_
                rintro e w3 ⟨u, rfl, hu⟩
                have HU := xa hu
                have hyc := hu.2.cell hyc id
                obtain ⟨ua, uc, rfl⟩ := xad hu.1
                clear hu
                go_wp2_with fail
                refine (HRP2.out w3 HU.out.2).mono ?_
                rintro e w5 ⟨u5, rfl, hu5⟩
                have HU5 := xa hu5
                obtain ⟨tg, tc, rfl, q1, q2⟩ := xbB hu5.1
                obtain ⟨sg, sc, hs1, q3, q4⟩ := xbB (xag HU.out.1 hu5.2 (fun _ _ h => h))
                injection hs1 with hs1 _ hs2
                subst hs1 hs2
                clear hu5
                go_wp2_with fail
                go_quiet (fail)
                go_wp2
                go_ret2
                rw [HC.out, E.out]
                exact ⟨rfl, ((HK.out.trans HU.out.2).trans HU5.out.2).drawN _⟩
              have gl : decide (x2 < x1) = false := by simpa using hlo
              have Hg3 : Hid (clG m false (l.drop (i + (k + 1 + b2))) (all ++ [(x1, x2)]) (i + (k + 1 + b2)) = G) := xa (by have e := Hg6.out; rw [if_neg hlo] at e; exact e)
              have H64t : Hid (∀ q ∈ [(x1, x2)], in64 q.1 /\ in64 q.2) := xa (by
               intro q hq
               obtain rfl : q = (x1, x2) := by simpa using hq
               exact ⟨(H64s.out (x1, x1) (by simp)).1, (Hr2.out (x2, x2) (by simp)).1⟩)
              clear Hg6 Hr2
              go_wp2_with fail
              refine HRP.out.mono ?_
              rintro e w3 ⟨u, rfl, hu⟩
              have HU := xa hu
              have hyc := hu.2.cell hyc id
              obtain ⟨ua, uc, rfl⟩ := xad hu.1
              clear hu
              go_wp2_with fail
              refine (HRP2.out w3 HU.out.2).mono ?_
              rintro e w5 ⟨u5, rfl, hu5⟩
              have HU5 := xa hu5
              obtain ⟨tg, tc, rfl, q1, q2⟩ := xbB hu5.1
              obtain ⟨sg, sc, hs1, q3, q4⟩ := xbB (xag HU.out.1 hu5.2 (fun _ _ h => h))
              injection hs1 with hs1 _ hs2
              subst hs1 hs2
              have KX := xa (HU.out.2.trans hu5.2)
              clear hu5
              go_wp2_with fail
              go_quiet (fail)
              have KX := xa (KX.out.drawN nq)
              have q1 : (w5.drewN nq).cell? ⟨tg, 0, none⟩ = some (.int .i64 x2) := q1
              have q3 : (w5.drewN nq).cell? ⟨sg, 0, none⟩ = some (.int .i64 x1) := q3
              generalize w5.drewN nq = w6 at *
              go_wp2_with fail
              go_region_held3 (fun w' => w'.cell? ⟨tg, 0, none⟩ = some (.int .i64 x2) /\ w'.cell? ⟨sg, 0, none⟩ = some (.int .i64 x1)) (first | exact ⟨by go_keep, by go_keep⟩ | go_keep) (fail)
              have KX := xa ((KX.out.trans (xe w6 x1 x2).2).drew)
              have HS9 := xa (SlOf.ofOwn ((xe w6 x1 x2).1.drew) (by simp))
              generalize w6.heap.size = s6 at *
              generalize (w6.alloc (.cells #[.int .i64 x1, .int .i64 x2] 180)).drew = w7 at *
              clear q1 q3
              have KW : Hid (KF w w7) := xa (HK.out.trans KX.out)
              have HO3 : Hid (w7.ownsRow w.heap.size 180 2 (.slice ava all.length avc) all.length (cellsOf 2 encR all)) := xa (xag HOW.out KX.out (fun _ _ h => h))
              have HSS : Hid (SlOf 2 encR w7 (.slice (some ⟨s6, 0, none⟩) 1 1) [(x1, x2)]) := xa (HS9.out)
              have hsz3 := KW.out.size
              go_wp2_with (at_builtin; refine xaA rfl (.tmp 113) (.tmp 114) rfl w.heap.size _ _ _ rfl HO3.out _ [(x1, x2)] rfl HSS.out ?f1 ?f2 ?_)
              case f1 => first | omega | (simp; omega)
              case f2 => omega
              intro v4 w4 hown4 hgrow4
              have KW4 : Hid (KF w w4) := xa (KW.out.grown hgrow4 (fun b hb => Or.inr (xab HO3.out b hb)))
              have HO4 := xa hown4
              clear hown4 hgrow4
              go_wp2
              go_roundw
              case rel => exact xcE (i := i) (k := (k + 1 + b2)) (p := p) (m := m) (by omega) (by omega) hpi hn hal (by simp) h64 H64t.out KW4.out (by rw [<- Hg3.out]) (by first | rfl | omega | (simp; done)) (by rfl) HO4.out (by go_num) (by go_num)
              case measure => simp [intOf]; omega
          have hN2 : ptP (l.drop (i + k + 1)) = none := by rw [List.drop_eq_nil_of_le (by omega)]; rfl
          rw [hN2] at Hg5
          have E : Hid (G = none) := xa Hg5.out.symm
          have hll : l.length = i + k + 1 := by omega
          clear Hg5 hN2
          by_cases hcn : cap = i + k + 1
          · have HRP2 := xa (fun W (K : KF wr W) => xaN [] (.slice (some ⟨b, off, none⟩) 0 0) W ⟨⟨_, 0, rfl, ⟨Nat.le_refl _, (fun h => by cases h)⟩, by simp, fun h => by simp at h⟩, fun r hr => by cases hr⟩)
            rw [show ptP [] = none from rfl] at HRP2
            obtain rfl := hcn
            have Hll := xa hll
            clear hll
            go_wp2_with fail
            refine HRP.out.mono ?_
            rintro e w3 ⟨u, rfl, hu⟩
            have HU := xa hu
            have hyc := hu.2.cell hyc id
            obtain ⟨ua, uc, rfl⟩ := xad hu.1
            clear hu
            go_wp2_with fail
            refine (HRP2.out w3 HU.out.2).mono ?_
            rintro e w5 ⟨rfl, K⟩
            have K5 := xa K
            clear K
            go_wp2_with fail
            go_quiet (fail)
            go_wp2
            go_ret2
            rw [HC.out, E.out]
            exact ⟨rfl, ((HK.out.trans HU.out.2).trans K5.out).drawN _⟩
          have HRP2 := xa (fun W (K : KF wr W) => xaN (l.drop (i + k + 1)) _ W ((HIr.out.keep K).dropI (i + k + 1) (by omega) hcn))
          rw [show ptP (l.drop (i + k + 1)) = none by rw [List.drop_eq_nil_of_le (by omega)]; rfl] at HRP2
          clear hll
          go_wp2_with fail
          refine HRP.out.mono ?_
          rintro e w3 ⟨u, rfl, hu⟩
          have HU := xa hu
          have hyc := hu.2.cell hyc id
          obtain ⟨ua, uc, rfl⟩ := xad hu.1
          clear hu
          go_wp2_with fail
          refine (HRP2.out w3 HU.out.2).mono ?_
          rintro e w5 ⟨rfl, K⟩
          have K5 := xa K
          clear K
          go_wp2_with fail
          go_quiet (fail)
          go_wp2
          go_ret2
          rw [HC.out, E.out]
          exact ⟨rfl, ((HK.out.trans HU.out.2).trans K5.out).drawN _⟩
        have gy : (y == 45) = false := beq_eq_false_iff_ne.2 hy45
        generalize hS : [(x1, x1)] = s at *
        have Hg3 : Hid (clG m false (l.drop (i + k)) (all ++ s) (i + k) = G) := xa (by have e := Hg4.out; rw [if_neg (by intro e; exact hy45 (Option.some.inj e))] at e; exact e)
        clear Hg4 hS
        go_wp2_with fail
        refine HRP.out.mono ?_
        rintro e w3 ⟨u, rfl, hu⟩
        have HU := xa hu
        have hyc := hu.2.cell hyc id
        obtain ⟨ua, uc, rfl⟩ := xad hu.1
        clear hu
        have KW : Hid (KF w w3) := xa (HK.out.trans HU.out.2)
        have HO3 : Hid (w3.ownsRow w.heap.size 180 2 (.slice ava all.length avc) all.length (cellsOf 2 encR all)) := xa (xag HOW.out HU.out.2 (fun _ _ h => h))
        have HSS : Hid (SlOf 2 encR w3 (.slice ua s.length uc) s) := xa (SlOf.ofOwn HU.out.1 (by omega))
        have hsz3 := KW.out.size
        go_wp2_with (at_builtin; refine xaA rfl (.tmp 113) (.tmp 114) rfl w.heap.size _ _ _ rfl HO3.out _ s rfl HSS.out ?f1 ?f2 ?_)
        case f1 => first | omega | (simp; omega)
        case f2 => omega
        intro v4 w4 hown4 hgrow4
        have KW4 : Hid (KF w w4) := xa (KW.out.grown hgrow4 (fun b hb => Or.inr (xab HO3.out b hb)))
        have HO4 := xa hown4
        clear hown4 hgrow4
        go_wp2
        go_roundw
        case rel => exact xcE (i := i) (k := k) (p := p) (m := m) (by omega) (by omega) hpi hn hal r1 h64 H64s.out KW4.out (by rw [<- Hg3.out]) (by first | rfl | omega | (simp; done)) (by rfl) HO4.out (by go_num) (by go_num)
        case measure => simp [intOf]; omega
      have hat1 : decide ((i : Int) + (k : Int) < (l.length : Int)) = false := by simp; omega
      generalize hS : [(x1, x1)] = s at *
      have Hg3 : Hid (clG m false (l.drop (i + k)) (all ++ s) (i + k) = G) := xa (by have e := Hg4.out; have hn0 : l.drop (i + k) = [] := List.drop_eq_nil_of_le (by omega); rw [hn0] at e ⊢; simpa using e)
      clear Hg4 hS
      go_wp2_with fail
      refine HRP.out.mono ?_
      rintro e w3 ⟨u, rfl, hu⟩
      have HU := xa hu
      obtain ⟨ua, uc, rfl⟩ := xad hu.1
      clear hu
      have KW : Hid (KF w w3) := xa (HK.out.trans HU.out.2)
      have HO3 : Hid (w3.ownsRow w.heap.size 180 2 (.slice ava all.length avc) all.length (cellsOf 2 encR all)) := xa (xag HOW.out HU.out.2 (fun _ _ h => h))
      have HSS : Hid (SlOf 2 encR w3 (.slice ua s.length uc) s) := xa (SlOf.ofOwn HU.out.1 (by omega))
      have hsz3 := KW.out.size
      go_wp2_with (at_builtin; refine xaA rfl (.tmp 113) (.tmp 114) rfl w.heap.size _ _ _ rfl HO3.out _ s rfl HSS.out ?f1 ?f2 ?_)
      case f1 => first | omega | (simp; omega)
      case f2 => omega
      intro v4 w4 hown4 hgrow4
      have KW4 : Hid (KF w w4) := xa (KW.out.grown hgrow4 (fun b hb => Or.inr (xab HO3.out b hb)))
      have HO4 := xa hown4
      clear hown4 hgrow4
      go_wp2
      go_roundw
      case rel => exact xcE (i := i) (k := k) (p := p) (m := m) (by omega) (by omega) hpi hn hal r1 h64 H64s.out KW4.out (by rw [<- Hg3.out]) (by first | rfl | omega | (simp; done)) (by rfl) HO4.out (by go_num) (by go_num)
      case measure => simp [intOf]; omega
  obtain rfl : i = l.length := by omega
  have hid : decide ((l.length : Int) < (l.length : Int)) = false := by simp
  have E : Hid (G = none) := xa (by
   have e := Hg.out
   unfold clG at e
   rw [List.drop_eq_nil_of_le (Nat.le_refl _), if_neg (by simp)] at e
   exact e.symm)
  by_cases hcn : cap = l.length
  · have HRP := xa (fun W => xaN [] (.slice (some ⟨b, off, none⟩) 0 0) W ⟨⟨_, 0, rfl, ⟨Nat.le_refl _, (fun h => by cases h)⟩, by simp, fun h => by simp at h⟩, fun r hr => by cases hr⟩)
    rw [show ptP [] = none from rfl] at HRP
    obtain rfl := hcn
    go_wp2_with fail
    refine (HRP.out _).mono ?_
    rintro e w3 ⟨rfl, K⟩
    have K3 := xa K
    clear K
    go_wp2
    go_ret2
    rw [HC.out, E.out]
    exact ⟨rfl, HK.out.trans K3.out⟩
  have HRP := xa (xaN (l.drop l.length) _ wr (HIr.out.dropI l.length (Nat.le_refl _) hcn))
  rw [show ptP (l.drop l.length) = none by rw [List.drop_eq_nil_of_le (Nat.le_refl _)]; rfl, Nat.sub_self] at HRP
  go_wp2_with fail
  refine HRP.out.mono ?_
  rintro e w3 ⟨rfl, K⟩
  have K3 := xa K
  clear K
  go_wp2
  go_ret2
  rw [HC.out, E.out]
  exact ⟨rfl, HK.out.trans K3.out⟩
end Go.Proofs.YtapmdhejgnplaaaGreat
