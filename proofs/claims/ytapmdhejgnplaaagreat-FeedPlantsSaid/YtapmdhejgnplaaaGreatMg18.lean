/-
  strings.Repeat at every text, once or more often.
-/
import Derived.Test.YtapmdhejgnplaaaGreatMg17
import Derived.Deep.RegionHeld3
import Derived.Test.YtapmdhejgnplaaaGreatMg15
import Derived.Test.YtapmdhejgnplaaaGreatMg12
import Derived.Test.YtapmdhejgnplaaaGreatMg16
import Derived.Lib.Join
namespace Go.Proofs.YtapmdhejgnplaaaGreat
open Go.RowKit Go.Proofs.Tryz
set_option linter.unusedVariables false
set_option linter.unusedSimpArgs false
set_option maxRecDepth 100000
set_option maxHeartbeats 4000000
section
set_option maxRecDepth 1000000
theorem xhG (s : ByteArray) (w : World) :
 Calls prog 100 #[.string s, .int .i64 1] w fun e w' => e = .returned (.string s) /\ KF w w' := by
 go_enter func100, ntmps100
 go_wp2
 go_ret
 exact ⟨rfl, xaa.refl _ _⟩
theorem xhF (c : Nat) (w : World) (hc : 2 <= c /\ c <= 1000) :
 Calls prog 100 #[.string ⟨#[]⟩, .int .i64 c] w fun e w' => e = .returned (.string ⟨#[]⟩) /\ KF w w' := by
 have HM := xa (fun W => Tryz.bits_Mul 0 c (by omega) (by omega) W)
 rw [Nat.zero_mul, Nat.zero_div, Nat.zero_mod] at HM
 have gc0 : ((c : Int) == 0) = false := beq_eq_false_iff_ne.2 (by omega)
 have gc1 : ((c : Int) == 1) = false := beq_eq_false_iff_ne.2 (by omega)
 go_enter func100, ntmps100
 go_wp2_with fail
 refine (HM.out _).mono ?_
 rintro e w0 ⟨rfl, rfl⟩
 go_wp2
 go_ret
 exact ⟨rfl, xaa.refl _ _⟩
theorem xjw (l : List UInt8) (c : Nat) (w : World) (hs : l.length <= 1000) (hc : 1 <= c /\ c <= 1000) :
 Calls prog 100 #[strL l, .int .i64 c] w fun e w' => e = .returned (strL (Lib.repeatL l c)) /\ KF w w' := by
 rcases Nat.lt_or_ge c 2 with h | h
 · obtain rfl : c = 1 := by omega
   rw [Lib.repeatL_one]
   exact xhG _ w
 rcases l with _ | ⟨x, t⟩
 · rw [Lib.repeatL_nil]
   exact xhF c w ⟨h, hc.2⟩
 exact xjx ⟨(x :: t).toArray⟩ c w ⟨by simp [ByteArray.size], by simpa [ByteArray.size] using hs⟩ ⟨h, hc.2⟩
end
def repP (m : Nat) (x : Int) (r : List UInt8 × Bool) : List UInt8 × Bool :=
 if m = 0 then ([], (x == 0) && r.2)
 else if r.2 = false then (r.1, false)
 else if 200 < (Lib.repeatL r.1 m).length then ((Lib.repeatL r.1 m).take 200, false) else (Lib.repeatL r.1 m, x == (m : Int))
theorem xmS (m : Nat) (x : Int) (r : List UInt8 × Bool) (h : r.1.length <= 200) : (repP m x r).1.length <= 200 := by
 unfold repP
 split
 · simp
 split
 · exact h
 split
 · simp only [List.length_take]; omega
 simp only; omega
theorem rep_gen (P : Nat -> Prop) (a1 a : Option Addr) (n1 c1 c m : Nat) (x : Int) (k : T) (r : List UInt8 × Bool) (w : World) (ha : KRow w P a [k]) (hk : PreC k r) (hr : r.1.length <= 1000) (hm : m <= 1000) :
 Calls prog 79 #[.agg #[.int .i64 6, .slice a1 n1 c1, .int .i64 m, .int .i64 x, .slice a 1 c]] w fun e w' => PreE (repP m x r) w e w' := by
 obtain ⟨b, off, uo, d1, f1, g1, um, ux, d2, f2, g2, rfl, hu, hlt, x0, x1, x2, x3, x4⟩ := ha.at (i := 0) rfl
 simp only [Nat.zero_mul, Nat.add_zero] at x0 x1 x2 x3 x4
 have HS : Hid (∀ W, KF w W -> Calls prog 61 #[.agg #[.int .i64 uo, .slice d1 f1 g1, .int .i64 um, .int .i64 ux, .slice d2 f2 g2]] W fun e w' => PreE r W e w') := xa (fun W kW =>
  hk P ⟨uo, .slice d1 f1 g1, um, ux, .slice d2 f2 g2⟩ W (hu.keepsTo kW (fun _ _ => id) (fun _ h => h)))
 obtain ⟨s, q⟩ := r
 simp only at hr
 clear ha hu hk
 by_cases h0 : m = 0
 · subst h0
   have e1 : repP 0 x (s, q) = ([], (x == 0) && q) := by simp [repP]
   rw [e1]
   clear e1
   generalize hx0 : (x == 0) = x0' at *
   cases x0' <;> cases q
   all_goals
    go_enter func79, ntmps79
    go_wp2_with fail
    refine (HS.out _ (KI.out)).mono ?_
    rintro e w2 ⟨rfl, k2⟩
    have c2 : w2.cell? ⟨w.heap.size, 2, none⟩ = some (.int .i64 0) := k2.cell (by simp [go_sem]) id
    have c3 : w2.cell? ⟨w.heap.size, 3, none⟩ = some (.int .i64 x) := k2.cell (by simp [go_sem]) id
    have hK2 : KF w w2 := xaa.trans (KI.out) k2
    clear k2
    unfold strL
    go_wp2
    go_ret2
    exact ⟨rfl, hK2⟩
 have hm0 : ((m : Int) == 0) = false := beq_eq_false_iff_ne.2 (by omega)
 cases q
 · have e1 : repP m x (s, false) = (s, false) := by simp [repP, h0]
   rw [e1]
   clear e1
   go_enter func79, ntmps79
   go_wp2_with fail
   refine (HS.out _ (KI.out)).mono ?_
   rintro e w2 ⟨rfl, k2⟩
   have c2 : w2.cell? ⟨w.heap.size, 2, none⟩ = some (.int .i64 m) := k2.cell (by simp [go_sem]) id
   have hK2 : KF w w2 := xaa.trans (KI.out) k2
   clear k2
   unfold strL
   go_wp2
   go_ret2
   exact ⟨rfl, hK2⟩
 obtain ⟨R, hR⟩ : ∃ R, Lib.repeatL s m = R := ⟨_, rfl⟩
 obtain ⟨z, hz⟩ : ∃ z, (x == (m : Int)) = z := ⟨_, rfl⟩
 have e1 : repP m x (s, true) = (if 200 < R.length then (R.take 200, false) else (R, z)) := by simp [repP, h0, hR, hz]
 rw [e1]
 have HR := xa (fun W => xjw s m W hr ⟨by omega, hm⟩)
 rw [hR] at HR
 have HC := xa (fun W => xl6 R z W)
 generalize (if 200 < R.length then (R.take 200, false) else (R, z)) = E at *
 unfold strL at HC HR
 clear e1 hR
 go_enter func79, ntmps79
 go_wp2_with fail
 refine (HS.out _ (KI.out)).mono ?_
 rintro e w2 ⟨rfl, k2⟩
 have c2 : w2.cell? ⟨w.heap.size, 2, none⟩ = some (.int .i64 m) := k2.cell (by simp [go_sem]) id
 have c3 : w2.cell? ⟨w.heap.size, 3, none⟩ = some (.int .i64 x) := k2.cell (by simp [go_sem]) id
 have hK2 : KF w w2 := xaa.trans (KI.out) k2
 have hk0 : KF w2 w2.drew := (xaa.refl _ _).drew
 have HR2 := xa (fun W (K : KF w2 W) => (HR.out W).mono (fun e w' h => (⟨h.1, K.trans h.2⟩ : _ /\ KF w2 w')))
 have HC2 := xa (fun W (K : KF w2 W) => (HC.out W).mono (fun e w' h => (⟨h.1, K.trans h.2⟩ : _ /\ KF w2 w')))
 clear HR HC
 have e2 : w2.drew.cell? ⟨w.heap.size, 2, none⟩ = some (.int .i64 m) := c2
 have e3 : w2.drew.cell? ⟨w.heap.size, 3, none⟩ = some (.int .i64 x) := c3
 clear k2
 unfold strL
 go_wp2_with fail
 go_region_held3 (fun w' => w'.cell? ⟨w.heap.size, 2, none⟩ = some (.int .i64 m) /\ w'.cell? ⟨w.heap.size, 3, none⟩ = some (.int .i64 x) /\ KF w2 w') (first | exact ⟨e2, e3, hk0⟩ | exact ⟨xaa.cell (by assumption) c2 id, xaa.cell (by assumption) c3 id, by assumption⟩)
  (first | (go_at_call 100; refine (HR2.out _ ?_).mono ?_; exact (by assumption : _ /\ _ /\ _).2.2; rintro e w' ⟨rfl, hkn⟩) | (go_at_call 98; refine (HC2.out _ ?_).mono ?_; exact (by assumption : _ /\ _ /\ _).2.2; rintro e w' ⟨rfl, hkn⟩))
 all_goals
  go_wp2
  go_ret2
  exact ⟨rfl, hK2.trans hkn⟩
theorem prx_rep (t k : T) (h : t.op = 6) (hk : t.kids.toL = [k]) (m : Nat) (hm : t.mn = (m : Int)) (hm2 : m <= 1000) (r : List UInt8 × Bool) (hr : PreC k r /\ r.1.length <= 1000) : PreC t (repP m t.mx r) := by
 intro P v w ht
 obtain ⟨a1, n1, c1, a2, c2, e1, e2, hl, hc⟩ := ht.krow
 rw [hk] at e2 hc
 have HK := xa (fun W (K : KF w W) => rep_gen P a1 a2 n1 c1 c2 m t.mx k r W (hc.keep K) hr.1 hr.2 hm2)
 have o1 : v.op = 6 := ht.op.trans h
 have o2 : v.mn = m := ht.mn.trans hm
 have o3 : v.mx = t.mx := ht.mx
 obtain ⟨vo, vsv, vm, vx, vk⟩ := v
 simp only at o1 o2 o3 e1 e2
 subst e1 e2 o1 o2 o3
 clear hl hc ht
 generalize repP m t.mx r = R at *
 generalize t.mx = x at *
 show Calls prog 61 #[.agg #[.int .i64 6, .slice a1 n1 c1, .int .i64 m, .int .i64 x, .slice a2 1 c2]] w _
 go_enter func61, ntmps61
 go_wp2_with fail
 refine (HK.out _ (KI.out)).mono ?_
 rintro e w2 ⟨rfl, k2⟩
 have K2 : Hid (KF w w2) := xa (xaa.trans (KI.out) k2)
 clear k2
 unfold strL
 go_wp2
 go_ret2
 exact ⟨rfl, K2.out⟩
theorem xiA : ∀ (L : List T), (∀ (i : Nat) (k : T), L[i]? = some k -> ∃ r, PreC k r /\ r.1.length <= 200) -> ∃ res : List (List UInt8 × Bool), res.length = L.length /\ ∀ (i : Nat) (k : T) (r : List UInt8 × Bool), L[i]? = some k -> res[i]? = some r -> PreC k r /\ r.1.length <= 200
 | [], _ => ⟨[], rfl, fun i k r h => by simp at h⟩
 | k :: L, h => by
  obtain ⟨r, hr⟩ := h 0 k rfl
  obtain ⟨res, hn, hall⟩ := xiA L (fun i k' hk' => h (i + 1) k' (by simpa using hk'))
  refine ⟨r :: res, by simp [hn], fun i k' r' h1 h2 => ?_⟩
  cases i with
  | zero => simp at h1 h2; subst h1 h2; exact hr
  | succ i => simp at h1 h2; exact hall i k' r' h1 h2
theorem pre_all {t : T} (hW : WG t) : ∃ r : List UInt8 × Bool, PreC t r /\ r.1.length <= 200 := by
 induction hW with
 | @mk t h hk ih =>
  obtain ⟨res, hres, hall⟩ := xiA t.kids.toL ih
  have hall2 : ∀ (i : Nat) (k : T) (r : List UInt8 × Bool), t.kids.toL[i]? = some k -> res[i]? = some r -> PreC k r /\ r.1.length <= 1000 := fun i k r h1 h2 => ⟨(hall i k r h1 h2).1, Nat.le_trans (hall i k r h1 h2).2 (by decide)⟩
  obtain ⟨⟨hs, hkn⟩, ho | ho | ho | ho | ho | ⟨ho, h5⟩ | ⟨ho, ⟨k, hk1⟩, h6, h7, h8⟩⟩ := h
  · exact ⟨_, xm2 t ho, by simp⟩
  · by_cases hb : ∃ y : Nat, ofL t.set = [((y : Int), (y : Int))] /\ isB (y : Int) = true
    · obtain ⟨y, h1, h2⟩ := hb
      exact ⟨_, prx_one t ho hs y h1 h2, Nat.le_trans xm0 (by decide)⟩
    refine ⟨_, xm3 t ho hs (fun y hy => ?_), by simp⟩
    cases hB : isB y with
    | false => rfl
    | true =>
     exfalso
     have hy0 : 0 <= y := by
      unfold isB at hB
      simp at hB
      omega
     exact hb ⟨y.toNat, by rw [Int.toNat_of_nonneg hy0]; exact hy, by rw [Int.toNat_of_nonneg hy0]; exact hB⟩
  · exact ⟨_, xld t ho, by simp⟩
  · exact ⟨_, prx_end t ho, by simp⟩
  · exact ⟨_, prx_cat t ho res hres hall2, xi9 res [] (by simp)⟩
  · obtain ⟨k0, L, hL⟩ : ∃ k0 L, t.kids.toL = k0 :: L := by
     cases hq : t.kids.toL with
     | nil => rw [hq] at h5; simp at h5
     | cons k0 L => exact ⟨k0, L, rfl⟩
    obtain ⟨r0, rest, hr⟩ : ∃ r0 rest, res = r0 :: rest := by
     cases res with
     | nil => rw [hL] at hres; simp at hres
     | cons r0 rest => exact ⟨r0, rest, rfl⟩
    subst hr
    rw [hL] at hres hall hall2 hkn
    refine ⟨_, prx_alt t ho k0 L hL (by simp at hkn; omega) r0 rest (by simpa using hres) (hall2 0 k0 r0 rfl rfl) (fun i k r h1 h2 => hall2 (i + 1) k r (by simpa using h1) (by simpa using h2)), ?_⟩
    exact Nat.le_trans (xe6 rest r0) (hall 0 k0 r0 rfl rfl).2
  obtain ⟨r, hr⟩ : ∃ r, res = [r] := by
   rw [hk1] at hres
   rcases res with _ | ⟨p, _ | ⟨p2, q⟩⟩
   · simp at hres
   · exact ⟨p, rfl⟩
   simp at hres
  subst hr
  have h0 := hall 0 k r (by rw [hk1]; rfl) rfl
  refine ⟨_, prx_rep t k ho hk1 t.mn.toNat (Int.toNat_of_nonneg h6.1).symm (by omega) r ⟨h0.1, Nat.le_trans h0.2 (by decide)⟩, xmS _ _ _ h0.2⟩

def WFn (t : T) : Prop :=
 t = xa1 \/ (∃ s, t = xbw s) \/ t = ⟨2, [], 0, 0, .nil⟩ \/ t = ⟨3, [], 0, 0, .nil⟩ \/ (∃ l, t = ⟨4, [], 0, 0, F.ofL l⟩) \/ (∃ l, t = ⟨5, [], 0, 0, F.ofL l⟩) \/ ∃ mn mx l, t = ⟨6, [], mn, mx, F.ofL l⟩
def WF : F -> Prop
 | .nil => True
 | .cons op s mn mx k r => WFn ⟨op, s, mn, mx, k⟩ /\ WF k /\ WF r
def WFT (t : T) : Prop := WFn t /\ WF t.kids
theorem WF.of {l : List T} : WF (F.ofL l) ↔ ∀ t ∈ l, WFT t := by
 induction l with
 | nil => simp [F.ofL, WF]
 | cons t l ih =>
  simp only [F.ofL, WF, ih, List.mem_cons, forall_eq_or_imp]
  constructor
  · rintro ⟨h1, h2, h3⟩; exact ⟨⟨h1, h2⟩, h3⟩
  rintro ⟨⟨h1, h2⟩, h3⟩; exact ⟨h1, h2, h3⟩
def wF : F -> Nat
 | .nil => 0
 | .cons _ s _ _ k r => 1 + s.length + wF k + wF r
def wT (t : T) : Nat := 1 + t.set.length + wF t.kids
theorem xcX (t : T) (l : List T) : wF (F.ofL (t :: l)) = wT t + wF (F.ofL l) := rfl
theorem xkD (l : List T) (t : T) : wF (F.ofL (l ++ [t])) = wF (F.ofL l) + wT t := by
 induction l with
 | nil => simp [F.ofL, wF, wT]
 | cons u l ih => rw [List.cons_append, xcX, xcX, ih]; omega
theorem xkC (op : Int) (l : List T) : wT (xa4 op l) <= 1 + wF (F.ofL l) := by
 rcases l with _ | ⟨t, _ | ⟨u, l⟩⟩
 · show wT xa1 <= _; simp [wT, xa1, wF, F.ofL]
 · show wT t <= _; rw [xcX]; omega
 show 1 + 0 + wF (F.ofL (t :: u :: l)) <= _; omega
theorem xhx : WFT xa1 := ⟨Or.inl rfl, trivial⟩
theorem xfO (s : LI) : WFT (xbw s) := ⟨Or.inr (Or.inl ⟨s, rfl⟩), trivial⟩
theorem xkB {op : Int} (ho : op = 4 \/ op = 5) {l : List T} (h : ∀ t ∈ l, WFT t) : WFT (xa4 op l) := by
 rcases l with _ | ⟨t, _ | ⟨u, l⟩⟩
 · exact xhx
 · exact h t (by simp)
 refine ⟨?_, WF.of.2 h⟩
 rcases ho with rfl | rfl
 · exact Or.inr (Or.inr (Or.inr (Or.inr (Or.inl ⟨_, rfl⟩))))
 exact Or.inr (Or.inr (Or.inr (Or.inr (Or.inr (Or.inl ⟨_, rfl⟩)))))
theorem xgN : ∀ (a b : List Int), a.Nodup -> (∀ x ∈ a, x ∈ b) -> a.length <= b.length := by
 intro a
 induction a with
 | nil => intro b _ _; simp
 | cons x a ih =>
  intro b hn hs
  rw [List.nodup_cons] at hn
  have hx : x ∈ b := hs x (by simp)
  have h1 := ih (b.erase x) hn.2 (fun y hy => by
   refine (List.mem_erase_of_ne ?_).2 (hs y (by simp [hy]))
   rintro rfl; exact hn.1 hy)
  rw [List.length_erase_of_mem hx] at h1
  have := List.length_pos_of_mem hx
  simp only [List.length_cons]; omega
theorem xgL : ∀ (l : LI), Norm l -> (l.map (·.1)).Nodup /\ ∀ p ∈ l, 0 <= p.1 /\ mem l p.1 = true /\ mem l (p.1 - 1) = false := by
 intro l h
 have key : ∀ l : LI, Norm l -> (l.map (·.1)).Nodup /\ ∀ p ∈ l, mem l (p.1 - 1) = false := by
  intro l
  induction l with
  | nil => intro _; simp
  | cons q l ih =>
   intro h
   have hq := h.rng q (by simp)
   have hd := xgM (q :: l) h 0 q rfl
   simp only [List.drop_succ_cons, List.drop_zero, Nat.zero_add] at hd
   have h2 := ih h.tail
   refine ⟨?_, fun p hp => ?_⟩
   · rw [List.map_cons, List.nodup_cons]
     refine ⟨fun hm => ?_, h2.1⟩
     obtain ⟨r, hr, he⟩ := List.mem_map.1 hm
     have := hd r hr; omega
   rw [mem_cons]
   rcases List.mem_cons.1 hp with rfl | hp
   · have : mem l (p.1 - 1) = false := by
      cases hm : mem l (p.1 - 1) with
      | false => rfl
      | true =>
       obtain ⟨r, hr, h3, h4⟩ := (mem_iff l _).1 hm
       have := hd r hr; omega
     rw [this]; simp; omega
   rw [h2.2 p hp]
   have := hd p hp
   simp; omega
 refine ⟨(key l h).1, fun p hp => ⟨(h.rng p hp).1, ?_, (key l h).2 p hp⟩⟩
 exact (mem_iff l _).2 ⟨p, hp, by omega, (h.rng p hp).2.1⟩
theorem xny {l out : LI} (h : IsOf l out) : out.length <= l.length + 1 := by
 have hn := xgL out h.1
 have := xgN (out.map (·.1)) (0 :: l.map (·.1)) hn.1 (fun x hx => by
  obtain ⟨p, hp, rfl⟩ := List.mem_map.1 hx
  obtain ⟨h0, h1, h2⟩ := hn.2 p hp
  rw [h.2] at h1 h2
  by_cases hz : p.1 = 0
  · simp [hz]
  unfold has at h1 h2
  simp only [Bool.and_eq_true, Bool.and_eq_false_iff] at h1 h2
  obtain ⟨q, hq, g1, g2⟩ := (mem_iff l _).1 h1.1
  have hi : xaZ (p.1 - 1) = true := by
   have := h1.2; unfold xaZ at this ⊢; simp at this ⊢; omega
  rcases h2 with h2 | h2
  · have : ¬ (q.1 <= p.1 - 1) := fun hc => by
     have : mem l (p.1 - 1) = true := (mem_iff l _).2 ⟨q, hq, hc, by omega⟩
     rw [this] at h2; cases h2
    refine List.mem_cons_of_mem _ (List.mem_map.2 ⟨q, hq, by omega⟩)
  rw [hi] at h2; cases h2)
 simpa using this
theorem xlR {l out : LI} (h : xe8 l out) : out.length <= l.length + 1 := by
 have hn := xgL out h.1
 have := xgN (out.map (·.1)) (0 :: l.map (·.2 + 1)) hn.1 (fun x hx => by
  obtain ⟨p, hp, rfl⟩ := List.mem_map.1 hx
  obtain ⟨h0, h1, h2⟩ := hn.2 p hp
  rw [h.2] at h1 h2
  by_cases hz : p.1 = 0
  · simp [hz]
  simp only [Bool.and_eq_true, Bool.and_eq_false_iff, Bool.not_eq_true', Bool.not_eq_false'] at h1 h2
  have hi : xaZ (p.1 - 1) = true := by
   have := h1.1; unfold xaZ at this ⊢; simp at this ⊢; omega
  rcases h2 with h2 | h2
  · rw [hi] at h2; cases h2
  unfold has at h1 h2
  simp only [Bool.and_eq_true, Bool.and_eq_false_iff] at h1 h2
  obtain ⟨q, hq, g1, g2⟩ := (mem_iff l _).1 h2.1
  have : q.2 < p.1 := by
   rcases h1.2 with h3 | h3
   · by_cases hc : p.1 <= q.2
     · have : mem l p.1 = true := (mem_iff l _).2 ⟨q, hq, by omega, hc⟩
       rw [this] at h3; cases h3
     omega
   rw [h1.1] at h3; cases h3
  refine List.mem_cons_of_mem _ (List.mem_map.2 ⟨q, hq, by omega⟩))
 simpa using this
theorem ofL_len (l : LI) : (ofL l).length <= l.length + 1 := by
 by_cases h : ∃ out, IsOf l out
 · obtain ⟨out, h⟩ := h
   rw [xfw h]; exact xny h
 unfold ofL; rw [dif_neg h]; simp
theorem xnc (l : LI) : (notL l).length <= l.length + 1 := by
 by_cases h : ∃ out, xe8 l out
 · obtain ⟨out, h⟩ := h
   rw [xeK h]; exact xlR h
 unfold notL; rw [dif_neg h]; simp
theorem xhh {rs : List Int} (hr : ∀ r ∈ rs, 0 <= r /\ r <= 1114111) : ∀ n f s l, (xb2 rs n f s l).1.length + 5 * s.pos <= l.length + 5 * (xb2 rs n f s l).2.pos := by
 intro n
 induction n with
 | zero => intro f s l; exact Nat.le_refl _
 | succ n ih =>
  intro f s l
  unfold xb2
  split
  · have := (xhy rs 93 s (by omega)).pos
    simp only; omega
  have h1 := ih false (parS rs s) (l ++ parL rs s)
  have h2 := (xiF hr s).1
  have h3 := (xa2 rs s).1
  rw [List.length_append] at h1
  omega
theorem xnT {rs : List Int} (hr : ∀ r ∈ rs, 0 <= r /\ r <= 1114111) (s : PS) : (clsL rs s).length + 5 * s.pos <= 1 + 5 * (clsR rs s).2.pos := by
 have h1 := xhh hr (rs.length + 9) true (tk rs 94 s) []
 have h2 := (xhy rs 94 s (by omega)).pos
 have h3 : (clsR rs s).1.length + 5 * s.pos <= 5 * (clsR rs s).2.pos := by
  unfold clsR; simp only [List.length_nil] at h1; omega
 unfold clsL
 split
 · have := xnc (clsR rs s).1; omega
 have := ofL_len (clsR rs s).1; omega
structure Good (f : PS -> T × PS) (rs : List Int) : Prop where
 go : ∀ s, Go1 rs s (f s).2
 wf : ∀ s, WFT (f s).1
 w : ∀ s, wT (f s).1 + 7 * s.pos <= 2 + 7 * (f s).2.pos
theorem xmo {f : PS -> T × PS} {rs : List Int} (H : Good f rs) (hr : ∀ r ∈ rs, 0 <= r /\ r <= 1114111) (s : PS) : WFT (xaz f rs s).1 /\ wT (xaz f rs s).1 + 7 * s.pos <= 7 * (xaz f rs s).2.pos := by
 have hn : (nx rs s).pos = s.pos + 1 := rfl
 unfold xaz
 split
 · refine ⟨H.wf _, ?_⟩
   have h1 := H.w ⟨s.pos + 1, s.deep + 1, (nx rs s).bad || decide (10 < s.deep + 1)⟩
   have h2 := (xgq rs 41 (f ⟨s.pos + 1, s.deep + 1, (nx rs s).bad || decide (10 < s.deep + 1)⟩).2 (by omega)).pos
   simp only at h1 ⊢; omega
 split
 · exact ⟨⟨Or.inr (Or.inr (Or.inl rfl)), trivial⟩, by simp [wT, wF]; omega⟩
 split
 · exact ⟨⟨Or.inr (Or.inr (Or.inr (Or.inl rfl))), trivial⟩, by simp [wT, wF]; omega⟩
 split
 · exact ⟨xfO _, by simp [wT, wF, xbw]; omega⟩
 split
 · refine ⟨xfO _, ?_⟩
   have h1 := xnT hr (nx rs s)
   have h2 := xhh hr (rs.length + 9) true (tk rs 94 (nx rs s)) []
   have h3 := (xhy rs 94 (nx rs s) (by omega)).pos
   have h4 : (nx rs s).pos <= (clsR rs (nx rs s)).2.pos := by
    unfold clsR; simp only [List.length_nil] at h2; omega
   simp only [wT, wF, xbw]; omega
 split
 · refine ⟨xfO _, ?_⟩
   have h1 := (xgb hr (nx rs s)).2.1
   have h2 := (xef rs (nx rs s)).1
   simp only [wT, wF, xbw]; omega
 exact ⟨xfO _, by simp [wT, wF, xbw]; omega⟩
theorem cnt_adv {rs : List Int} {s : PS} (h : (cntV rs s).2.2 = true) : s.pos + 1 <= (cntS rs s).pos := by
 unfold cntV at h
 unfold cntS
 by_cases h1 : pk rs s = 63
 · rw [if_pos (Or.inl h1)]; exact Nat.le_refl _
 by_cases h2 : pk rs s = 43
 · rw [if_pos (Or.inr (Or.inl h2))]; exact Nat.le_refl _
 by_cases h3 : pk rs s = 42
 · rw [if_pos (Or.inr (Or.inr h3))]; exact Nat.le_refl _
 by_cases h4 : pk rs s = 123
 · rw [if_neg (by omega), if_pos h4]
   exact (xoz rs ⟨s.pos + 1, s.deep, s.bad⟩).pos
 rw [if_neg h1, if_neg h2, if_neg h3, if_neg h4] at h; cases h
theorem xhe {f : PS -> T × PS} {rs : List Int} (H : Good f rs) (hr : ∀ r ∈ rs, 0 <= r /\ r <= 1114111) (s : PS) : WFT (xan f rs s).1 /\ wT (xan f rs s).1 + 7 * s.pos <= 7 * (xan f rs s).2.pos := by
 have h1 := xmo H hr s
 unfold xan
 split
 · rename_i h
   have h2 := cnt_adv h
   refine ⟨⟨Or.inr (Or.inr (Or.inr (Or.inr (Or.inr (Or.inr ⟨_, _, _, rfl⟩))))), WF.of.2 (by simpa using h1.1)⟩, ?_⟩
   simp only [wT, xcX, List.length_nil]
   have : wF (F.ofL []) = 0 := rfl
   have h3 := h1.2
   unfold wT at h3
   omega
 have h2 := (xeY rs (xaz f rs s).2).pos
 exact ⟨h1.1, by simp only; omega⟩
theorem xm6 {f : PS -> T × PS} {rs : List Int} (H : Good f rs) (hr : ∀ r ∈ rs, 0 <= r /\ r <= 1114111) : ∀ n s l, (∀ t ∈ l, WFT t) -> (∀ t ∈ (xbn f rs n s l).1, WFT t) /\ wF (F.ofL (xbn f rs n s l).1) + 7 * s.pos <= wF (F.ofL l) + 7 * (xbn f rs n s l).2.pos := by
 intro n
 induction n with
 | zero => intro s l h; exact ⟨h, Nat.le_refl _⟩
 | succ n ih =>
  intro s l h
  unfold xbn
  split
  · have h1 := xhe H hr s
    have h2 := ih (xan f rs s).2 (l ++ [(xan f rs s).1]) (fun t ht => by
     rcases List.mem_append.1 ht with ht | ht
     · exact h t ht
     rw [List.mem_singleton] at ht; rw [ht]; exact h1.1)
    rw [xkD] at h2
    exact ⟨h2.1, by omega⟩
  exact ⟨h, Nat.le_refl _⟩
theorem xeC {f : PS -> T × PS} {rs : List Int} (H : Good f rs) (hr : ∀ r ∈ rs, 0 <= r /\ r <= 1114111) (s : PS) : WFT (xar f rs s).1 /\ wT (xar f rs s).1 + 7 * s.pos <= 1 + 7 * (xar f rs s).2.pos := by
 have h := xm6 H hr (rs.length + 9) s [] (by simp)
 have h2 := xkC 4 (pcsR f rs s).1
 have e : wF (F.ofL []) = 0 := rfl
 rw [e] at h
 refine ⟨xkB (Or.inl rfl) h.1, ?_⟩
 have h3 := h.2
 show wT (xa4 4 (pcsR f rs s).1) + _ <= 1 + 7 * (pcsR f rs s).2.pos
 unfold pcsR at h2 ⊢
 omega
theorem xn7 {f : PS -> T × PS} {rs : List Int} (H : Good f rs) (hr : ∀ r ∈ rs, 0 <= r /\ r <= 1114111) : ∀ n s l, (∀ t ∈ l, WFT t) -> (∀ t ∈ (xbo f rs n s l).1, WFT t) /\ wF (F.ofL (xbo f rs n s l).1) + 7 * s.pos <= wF (F.ofL l) + 7 * (xbo f rs n s l).2.pos := by
 intro n
 induction n with
 | zero => intro s l h; exact ⟨h, Nat.le_refl _⟩
 | succ n ih =>
  intro s l h
  unfold xbo
  split
  · rename_i hq
    have h0 : (tk rs 124 s).pos = s.pos + 1 := by unfold tk; rw [if_pos hq]
    have h1 := xeC H hr (tk rs 124 s)
    have h2 := ih (xar f rs (tk rs 124 s)).2 (l ++ [(xar f rs (tk rs 124 s)).1]) (fun t ht => by
     rcases List.mem_append.1 ht with ht | ht
     · exact h t ht
     rw [List.mem_singleton] at ht; rw [ht]; exact h1.1)
    rw [xkD] at h2
    exact ⟨h2.1, by omega⟩
  exact ⟨h, Nat.le_refl _⟩
theorem xfJ {f : PS -> T × PS} {rs : List Int} (H : Good f rs) (hr : ∀ r ∈ rs, 0 <= r /\ r <= 1114111) : Good (xdc f rs) rs := by
 refine ⟨xek H.go, fun s => ?_, fun s => ?_⟩
 all_goals
  have h1 := xeC H hr s
  have h2 := xn7 H hr (rs.length + 9) (xar f rs s).2 [(xar f rs s).1] (by simpa using h1.1)
 · exact xkB (Or.inr rfl) h2.1
 have h3 := xkC 5 (altR f rs s).1
 have h4 := h2.2
 rw [xcX] at h4
 have e : wF (F.ofL []) = 0 := rfl
 show wT (xa4 5 (altR f rs s).1) + _ <= 2 + 7 * (altR f rs s).2.pos
 unfold altR at h3 ⊢
 omega
theorem xmq {rs : List Int} (hr : ∀ r ∈ rs, 0 <= r /\ r <= 1114111) : ∀ n, Good (alts rs n) rs := by
 intro n
 induction n with
 | zero => exact xfJ (f := fun s => (xa1, s)) ⟨fun s => Go1.refl _ _, fun s => xhx, fun s => by simp [wT, xa1, wF]⟩ hr
 | succ n ih => exact xfJ ih hr
theorem xjS (l : List UInt8) : WFT (xaX l).1 /\ wT (xaX l).1 <= 2000 := by
 have hz : WFT xa1 /\ wT xa1 <= 2000 := ⟨xhx, by simp [wT, xa1, wF]⟩
 unfold xaX
 by_cases hl : 200 < l.length
 · rw [if_pos hl]; exact hz
 rw [if_neg hl]
 cases hp : pts l with
 | none => exact hz
 | some rs =>
  simp only
  have hf := xeB hp
  unfold xcV
  split
  · exact hz
  rename_i h
  have h1 := xmq hf.2 11
  have h2 := h1.w ⟨0, 0, false⟩
  refine ⟨h1.wf _, ?_⟩
  have h3 : (alts rs 11 ⟨0, 0, false⟩).2.pos = rs.length := by
   by_cases hp : (alts rs 11 ⟨0, 0, false⟩).2.pos = rs.length
   · exact hp
   exact absurd (Or.inr hp) h
  rw [h3] at h2
  simp only at h2 ⊢
  omega
def WKn (t : T) : Prop := t.op = 0 \/ t.op = 1 \/ t.op = 2 \/ t.op = 3 \/ t.op = 4 \/ (t.op = 5 /\ 0 < t.kids.toL.length) \/ (t.op = 6 /\ (∃ k, t.kids.toL = [k]) /\ (0 <= t.mn /\ t.mn <= 1000) /\ (-1 <= t.mx /\ t.mx <= 1000) /\ (t.mx < 0 \/ t.mn <= t.mx))
inductive WK : T -> Prop
 | mk {t : T} (h : WKn t) (hk : ∀ k ∈ t.kids.toL, WK k) : WK t
theorem xoc : ∀ (L : List T) (k : T), k ∈ L -> wT k <= wF (F.ofL L)
 | [], _, h => by cases h
 | t :: L, k, h => by
  rw [xcX]
  rcases List.mem_cons.1 h with rfl | h
  · omega
  have := xoc L k h; omega
theorem xod : ∀ (L : List T), L.length <= wF (F.ofL L)
 | [] => Nat.zero_le _
 | t :: L => by
  rw [xcX]
  have := xod L
  simp only [List.length_cons]; unfold wT; omega
theorem WK.wg {t : T} (h : WK t) : wT t <= 4000 -> WG t := by
 induction h with
 | @mk t h hk ih =>
  intro hw
  have e : wT t = 1 + t.set.length + wF (F.ofL t.kids.toL) := by rw [F.of_to]; rfl
  have hl := xod t.kids.toL
  refine WG.mk ⟨⟨by omega, by omega⟩, h⟩ (fun i k hi => ?_)
  have hm := List.mem_of_getElem? hi
  have := xoc t.kids.toL k hm
  exact ih k hm (by omega)
theorem xc (t : T) (h : t.op = 0 \/ t.op = 1 \/ t.op = 2 \/ t.op = 3) (hk : t.kids = .nil) : WK t :=
 WK.mk (by unfold WKn; rcases h with h | h | h | h <;> simp [h]) (fun k hm => by rw [hk] at hm; simp [F.toL] at hm)
theorem xkA {op : Int} (ho : op = 4 \/ op = 5) {l : List T} (h : ∀ t ∈ l, WK t) : WK (xa4 op l) := by
 rcases l with _ | ⟨t, _ | ⟨u, l⟩⟩
 · exact xc _ (Or.inl rfl) rfl
 · exact h t (by simp)
 refine WK.mk ?_ (fun k hk => by
  have e : (xa4 op (t :: u :: l)).kids.toL = t :: u :: l := F.to_of _
  rw [e] at hk; exact h k hk)
 have e : (xa4 op (t :: u :: l)).kids.toL = t :: u :: l := F.to_of _
 have eo : (xa4 op (t :: u :: l)).op = op := rfl
 unfold WKn
 rw [e, eo]
 rcases ho with rfl | rfl
 · exact Or.inr (Or.inr (Or.inr (Or.inr (Or.inl rfl))))
 exact Or.inr (Or.inr (Or.inr (Or.inr (Or.inr (Or.inl ⟨rfl, by simp⟩)))))
theorem xlv (rs : List Int) (s : PS) : 0 <= numN rs s /\ numN rs s <= 99 := by
 unfold numN
 split
 · rename_i h
   simp only [dig, Bool.and_eq_true, decide_eq_true_eq] at h
   split
   · rename_i h2
     simp only [dig, Bool.and_eq_true, decide_eq_true_eq] at h2
     omega
   omega
 omega
theorem xce {rs : List Int} {s s' : PS} (h : Go1 rs s s') (hb : s'.bad = false) : s.bad = false := by
 cases hs : s.bad with
 | false => rfl
 | true => rw [h.bad hs] at hb; cases hb
structure xhw (f : PS -> T × PS) (rs : List Int) : Prop where
 go : ∀ s, Go1 rs s (f s).2
 wk : ∀ s, (f s).2.bad = false -> WK (f s).1
theorem xmn {f : PS -> T × PS} {rs : List Int} (H : xhw f rs) (s : PS) (hb : (xaz f rs s).2.bad = false) : WK (xaz f rs s).1 := by
 unfold xaz at hb ⊢
 by_cases h1 : pk rs s = 40
 · rw [if_pos h1] at hb ⊢
   exact H.wk _ (xce (xgq rs 41 _ (by omega)) hb)
 rw [if_neg h1] at hb ⊢
 by_cases h2 : pk rs s = 94
 · rw [if_pos h2]; exact xc _ (Or.inr (Or.inr (Or.inl rfl))) rfl
 rw [if_neg h2]
 by_cases h3 : pk rs s = 36
 · rw [if_pos h3]; exact xc _ (Or.inr (Or.inr (Or.inr rfl))) rfl
 rw [if_neg h3]
 by_cases h4 : pk rs s = 46
 · rw [if_pos h4]; exact xc _ (Or.inr (Or.inl rfl)) rfl
 rw [if_neg h4]
 by_cases h5 : pk rs s = 91
 · rw [if_pos h5]; exact xc _ (Or.inr (Or.inl rfl)) rfl
 rw [if_neg h5]
 by_cases h6 : pk rs s = 92
 · rw [if_pos h6]; exact xc _ (Or.inr (Or.inl rfl)) rfl
 rw [if_neg h6]; exact xc _ (Or.inr (Or.inl rfl)) rfl
theorem br_ok (rs : List Int) (s : PS) (hb : (brS rs s).bad = false) : (0 <= brA rs s /\ brA rs s <= 1000) /\ (-1 <= brB rs s /\ brB rs s <= 1000) /\ (brB rs s < 0 \/ brA rs s <= brB rs s) := by
 have h1 := xlv rs s
 have h2 := xlv rs (br3 rs s)
 unfold brS at hb
 unfold brA brB
 by_cases e1 : pk rs (numS rs s) = 44
 · rw [if_pos e1] at hb ⊢
   by_cases e2 : pk rs (br3 rs s) = 125
   · rw [if_pos e2]; omega
   rw [if_neg e2] at hb ⊢
   have := xce (xgq rs 125 _ (by omega)) hb
   simp only [Bool.or_eq_false_iff, decide_eq_false_iff_not] at this
   omega
 rw [if_neg e1]; omega
theorem cnt_ok (rs : List Int) (s : PS) (hb : (cntS rs s).bad = false) (h : (cntV rs s).2.2 = true) : (0 <= (cntV rs s).1 /\ (cntV rs s).1 <= 1000) /\ (-1 <= (cntV rs s).2.1 /\ (cntV rs s).2.1 <= 1000) /\ ((cntV rs s).2.1 < 0 \/ (cntV rs s).1 <= (cntV rs s).2.1) := by
 unfold cntS at hb
 unfold cntV at h ⊢
 by_cases h1 : pk rs s = 63
 · rw [if_pos h1]; simp
 rw [if_neg h1] at h ⊢
 by_cases h2 : pk rs s = 43
 · rw [if_pos h2]; simp
 rw [if_neg h2] at h ⊢
 by_cases h3 : pk rs s = 42
 · rw [if_pos h3]; simp
 rw [if_neg h3] at h ⊢
 by_cases h4 : pk rs s = 123
 · rw [if_pos h4]
   rw [if_neg (by omega), if_pos h4] at hb
   exact br_ok rs _ hb
 rw [if_neg h4] at h; cases h
theorem xki {f : PS -> T × PS} {rs : List Int} (H : xhw f rs) (s : PS) (hb : (xan f rs s).2.bad = false) : WK (xan f rs s).1 := by
 unfold xan at hb ⊢
 by_cases h : (cntV rs (xaz f rs s).2).2.2 = true
 · rw [if_pos h] at hb ⊢
   simp only [Bool.or_eq_false_iff] at hb
   have ha := xmn H s (xce (xeY rs _) hb.1)
   have hc := cnt_ok rs _ hb.1 h
   refine WK.mk ?_ (fun k hk => by rw [F.to_of] at hk; obtain rfl : k = (xaz f rs s).1 := (by simpa using hk); exact ha)
   exact Or.inr (Or.inr (Or.inr (Or.inr (Or.inr (Or.inr ⟨rfl, ⟨_, F.to_of _⟩, hc⟩)))))
 rw [if_neg h] at hb ⊢
 exact xmn H s (xce (xeY rs _) hb)
theorem pcs_wk {f : PS -> T × PS} {rs : List Int} (H : xhw f rs) : ∀ n s l, (xbn f rs n s l).2.bad = false -> (∀ t ∈ l, WK t) -> ∀ t ∈ (xbn f rs n s l).1, WK t := by
 intro n
 induction n with
 | zero => exact fun s l _ h => h
 | succ n ih =>
  intro s l hb h
  unfold xbn at hb ⊢
  by_cases hp : isPc (pk rs s) = true
  · rw [if_pos hp] at hb ⊢
    have h1 := xce (xiD H.go n (xan f rs s).2 _) hb
    exact ih _ _ hb (fun t ht => by
     rcases List.mem_append.1 ht with ht | ht
     · exact h t ht
     obtain rfl := List.mem_singleton.1 ht
     exact xki H s h1)
  rw [if_neg hp]; exact h
theorem xgH {f : PS -> T × PS} {rs : List Int} (H : xhw f rs) (s : PS) (hb : (xar f rs s).2.bad = false) : WK (xar f rs s).1 :=
 xkA (Or.inl rfl) (pcs_wk H _ s [] hb (by simp))
theorem alt_wk {f : PS -> T × PS} {rs : List Int} (H : xhw f rs) : ∀ n s l, (xbo f rs n s l).2.bad = false -> (∀ t ∈ l, WK t) -> ∀ t ∈ (xbo f rs n s l).1, WK t := by
 intro n
 induction n with
 | zero => exact fun s l _ h => h
 | succ n ih =>
  intro s l hb h
  unfold xbo at hb ⊢
  by_cases hp : pk rs s = 124
  · rw [if_pos hp] at hb ⊢
    have h1 := xce (xgo H.go n (xar f rs (tk rs 124 s)).2 _) hb
    exact ih _ _ hb (fun t ht => by
     rcases List.mem_append.1 ht with ht | ht
     · exact h t ht
     obtain rfl := List.mem_singleton.1 ht
     exact xgH H _ h1)
  rw [if_neg hp]; exact h
theorem xje {f : PS -> T × PS} {rs : List Int} (H : xhw f rs) : xhw (xdc f rs) rs := by
 refine ⟨xek H.go, fun s hb => ?_⟩
 have h1 := xce (xgo H.go (rs.length + 9) (xar f rs s).2 [(xar f rs s).1]) hb
 exact xkA (Or.inr rfl) (alt_wk H _ _ _ hb (fun t ht => by obtain rfl := List.mem_singleton.1 ht; exact xgH H s h1))
theorem alts_wk (rs : List Int) : ∀ n, xhw (alts rs n) rs := by
 intro n
 induction n with
 | zero => exact xje (f := fun s => (xa1, s)) ⟨fun s => Go1.refl _ _, fun s _ => xc _ (Or.inl rfl) rfl⟩
 | succ n ih => exact xje ih
theorem xm7 (l : List UInt8) : WG (xaX l).1 := by
 refine WK.wg ?_ (Nat.le_trans (xjS l).2 (by omega))
 have hz : WK xa1 := xc _ (Or.inl rfl) rfl
 unfold xaX
 by_cases hl : 200 < l.length
 · rw [if_pos hl]; exact hz
 rw [if_neg hl]
 cases hp : pts l with
 | none => exact hz
 | some rs =>
  simp only
  unfold xcV
  split
  · exact hz
  rename_i h
  exact (alts_wk rs 11).wk _ (by
   cases hb : (alts rs 11 ⟨0, 0, false⟩).2.bad with
   | false => rfl
   | true => exact absurd (Or.inl hb) h)
structure EngAt (w : World) (P : Nat -> Prop) (eb : Nat) (pv : Value) (is : List Ins) (r : List UInt8 × Bool) : Prop where
 bk : w.heap[eb]? = some (.cells #[pv, .string ⟨r.1.toArray⟩, .bool r.2] 163 (0, 0))
 pg : PgAt w P pv is
def EComE (w : World) (is : List Ins) (r : List UInt8 × Bool) (e : Ending) (w' : World) : Prop :=
 ∃ eb pv, e = .returned (.tuple #[.pointer (some ⟨eb, 0, none⟩), .int .i64 0]) /\ EngAt w' (fun b => b < w'.heap.size) eb pv is r /\ KF w w'
theorem eng_set (w : World) (eb : Nat) (pv u v : Value) (h : w.heap[eb]? = some (.cells #[pv, .string ⟨#[]⟩, .bool false] 163 (0, 0))) : ((w.setCell ⟨eb, 1, none⟩ u).setCell ⟨eb, 2, none⟩ v).heap[eb]? = some (.cells #[pv, u, v] 163 (0, 0)) := by
 simp [World.setCell, Array.getElem?_modify, h]
theorem xhd (l : List UInt8) (t : T) (n : Nat) (is : List Ins) (r : List UInt8 × Bool) (hpar : xaX l = (t, 0)) (hlen : LenC t n) (hn : n < 2000) (hN : NodeE t is) (his : is.length <= 2500) (hpre : PreC t r) (w : World) (hm : l.length <= 9223372036854775807) :
 Calls prog 47 #[.string ⟨l.toArray⟩] w fun e w' => EComE w (is ++ [mI]) r e w' := by
 have HP := xa (fun W => xeG l W hm)
 rw [hpar] at HP
 have HC0 := xa (fun P v W ht => xh8 t n is hlen hn hN his P v W ht)
 generalize is ++ [mI] = js at HC0 ⊢
 clear hN hlen
 go_enter func47, ntmps47
 go_wp2_with fail
 refine (HP.out _).mono ?_
 rintro e w2 ⟨v, rfl, hv, k2⟩
 obtain ⟨o, a1, n1, c1, m, x, a2, n2, cc2, rfl⟩ := NV.form hv
 have HC := xa (fun W (K : KF w2 W) => HC0.out (fun _ => True) _ W (hv.keepsTo K (fun _ _ => id) (fun _ _ => trivial)))
 have HR := xa (fun W (K : KF w2 W) => hpre (fun _ => True) _ W (hv.keepsTo K (fun _ _ => id) (fun _ _ => trivial)))
 have K2 := xa k2
 clear hv k2 HP
 unfold NV.val at HC HR ⊢
 go_wp2_with fail
 refine (HC.out _ (KI.out)).mono ?_
 rintro e w3 ⟨pv, rfl, hpg, k3⟩
 have z0 : w3.cell? ⟨w2.heap.size, 0, none⟩ = some (.int .i64 o) := k3.cell (by simp [go_sem]) id
 have z1 : w3.cell? ⟨w2.heap.size, 1, none⟩ = some (.slice a1 n1 c1) := k3.cell (by simp [go_sem]) id
 have z2 : w3.cell? ⟨w2.heap.size, 2, none⟩ = some (.int .i64 m) := k3.cell (by simp [go_sem]) id
 have z3 : w3.cell? ⟨w2.heap.size, 3, none⟩ = some (.int .i64 x) := k3.cell (by simp [go_sem]) id
 have z4 : w3.cell? ⟨w2.heap.size, 4, none⟩ = some (.slice a2 n2 cc2) := k3.cell (by simp [go_sem]) id
 have K23 : Hid (KF w2 w3) := xa (xaa.trans (KI.out) k3)
 have HPg := xa hpg
 obtain ⟨pa, pc, rfl⟩ := hpg.form
 have y0 := xaf z0 (.cells #[.slice pa js.length pc, .string ⟨#[]⟩, .bool false] 163)
 have y1 := xaf z1 (.cells #[.slice pa js.length pc, .string ⟨#[]⟩, .bool false] 163)
 have y2 := xaf z2 (.cells #[.slice pa js.length pc, .string ⟨#[]⟩, .bool false] 163)
 have y3 := xaf z3 (.cells #[.slice pa js.length pc, .string ⟨#[]⟩, .bool false] 163)
 have y4 := xaf z4 (.cells #[.slice pa js.length pc, .string ⟨#[]⟩, .bool false] 163)
 clear k3 hpg HC
 go_wp2_with fail
 refine (HR.out _ (K23.out.trans (KI.out))).mono ?_
 rintro e w4 ⟨rfl, k4⟩
 have hb4 : w4.heap[w3.heap.size]? = some (.cells #[.slice pa js.length pc, .string ⟨#[]⟩, .bool false] 163 (0, 0)) := by
  rw [k4.block _ (by simp) id]; exact heap_alloc_new w3 _
 have c1' : w4.cell? ⟨w3.heap.size, 1, none⟩ = some (.string ⟨#[]⟩) := by rw [Lib.cell_of_heap hb4]; rfl
 have c2' : w4.cell? ⟨w3.heap.size, 2, none⟩ = some (.bool false) := by rw [Lib.cell_of_heap hb4]; rfl
 have f1 : w4.frozen? ⟨w3.heap.size, 1, none⟩ = false := Lib.frozen_of_heap hb4 1
 have f2 : w4.frozen? ⟨w3.heap.size, 2, none⟩ = false := Lib.frozen_of_heap hb4 2
 have hE := eng_set w4 w3.heap.size _ (.string ⟨r.1.toArray⟩) (.bool r.2) hb4
 have k34 : KF w3 w4 := xaa.trans (KI.out) k4
 have KS : xaa (fun b => b = w3.heap.size) w4 ((w4.setCell ⟨w3.heap.size, 1, none⟩ (.string ⟨r.1.toArray⟩)).setCell ⟨w3.heap.size, 2, none⟩ (.bool r.2)) := ((xaa.refl (fun b => b = w3.heap.size) w4).set (p := ⟨w3.heap.size, 1, none⟩) rfl _).set (p := ⟨w3.heap.size, 2, none⟩) rfl _
 have HE := xa hE
 have KE := xa (((K2.out.trans K23.out).trans k34).trans2 KS (fun b hb e => by have := (K2.out.trans K23.out).size; omega))
 have KS' := xa (k34.trans2 KS (fun b hb e => by omega))
 clear k4 hb4 hE k34 KS
 unfold strL
 go_wp2
 go_ret2
 refine ⟨_, _, rfl, ⟨HE.out, HPg.out.keepsTo KS'.out (fun _ _ => id) (fun b hb => Nat.lt_of_lt_of_le hb.2 KS'.out.size)⟩, KE.out⟩
def EErrE (c : Int) (w : World) (e : Ending) (w' : World) : Prop := e = .returned (.tuple #[.pointer none, .int .i64 c]) /\ KF w w'
theorem xgd (l : List UInt8) (t : T) (c : Int) (hpar : xaX l = (t, c)) (hc : c ≠ 0) (w : World) (hm : l.length <= 9223372036854775807) :
 Calls prog 47 #[.string ⟨l.toArray⟩] w (EErrE c w) := by
 have HP := xa (fun W => xeG l W hm)
 rw [hpar] at HP
 have g0 : (c != 0) = true := by simp [hc]
 go_enter func47, ntmps47
 go_wp2_with fail
 refine (HP.out _).mono ?_
 rintro e w2 ⟨v, rfl, hv, k2⟩
 obtain ⟨o, a1, n1, c1, m, x, a2, n2, cc2, rfl⟩ := NV.form hv
 have K2 := xa k2
 clear hv k2 HP
 unfold NV.val
 go_wp2
 go_ret2
 exact ⟨rfl, xaa.trans K2.out (KI.out)⟩
theorem xhc (l : List UInt8) (t : T) (n : Nat) (hpar : xaX l = (t, 0)) (hlen : LenG t n) (hn : 2000 <= n) (w : World) (hm : l.length <= 9223372036854775807) :
 Calls prog 47 #[.string ⟨l.toArray⟩] w (EErrE 16 w) := by
 have HP := xa (fun W => xeG l W hm)
 rw [hpar] at HP
 have HC0 := xa (fun P v W ht => xh7 t n hlen hn P v W ht)
 clear hlen
 go_enter func47, ntmps47
 go_wp2_with fail
 refine (HP.out _).mono ?_
 rintro e w2 ⟨v, rfl, hv, k2⟩
 obtain ⟨o, a1, n1, c1, m, x, a2, n2, cc2, rfl⟩ := NV.form hv
 have HC := xa (fun W (K : KF w2 W) => HC0.out (fun _ => True) _ W (hv.keepsTo K (fun _ _ => id) (fun _ _ => trivial)))
 have K2 := xa k2
 clear hv k2 HP
 unfold NV.val at HC ⊢
 go_wp2_with fail
 refine (HC.out _ (KI.out)).mono ?_
 rintro e w3 ⟨rfl, k3⟩
 have K3 := xa (xaa.trans K2.out (xaa.trans (KI.out) k3))
 clear k3 HC
 go_wp2
 go_ret2
 exact ⟨rfl, K3.out⟩
end Go.Proofs.YtapmdhejgnplaaaGreat
