/-
  Several texts in one: The document's point. The document's class: what its loop knows. The document's token: what it answers.
-/
import Derived.Test.YtinogeobkljngaaGreatDoorMg30
import Derived.Deep.RegionHeld3
import Derived.Deep.AppendLies
import Derived.Test.YtinogeobkljngaaGreatDoorRfBrG
import Derived.Test.YtinogeobkljngaaGreatDoorMg22
section
namespace Go.Proofs.YtinogeobkljngaaGreatDoor
open Go.RowKit
set_option linter.unusedVariables false
set_option linter.unusedSimpArgs false
set_option maxRecDepth 100000

/-- A set, its kind and its length are. -/
def PtE (w : World) (p : Option (List (Int × Int) × Bool × Nat)) (e : Ending) (w' : World) : Prop :=
  match p with
  | none => e = .returned (.tuple #[.slice none 0 0, .bool false, .int .i64 0]) ∧ Keeps (fun _ => False) w w'
  | some (s, is, k) => ∃ u, e = .returned (.tuple #[u, .bool is, .int .i64 k]) ∧ ROwn w w' u s
set_option maxHeartbeats 4000000 in
theorem rpoint_any (l : List Int) (v : Value) (w : World) (h : ISl w v l) : Calls Tryz.prog 41 #[v] w fun e w' => PtE w (ptP l) e w' := by
  obtain ⟨a, cap, rfl, hcap, hc⟩ := h.cells
  have HI := Lib.hid h
  clear h
  rcases l with _ | ⟨r, l⟩
  · go_enter Tryz.func41, Tryz.ntmps41
    go_wp2_with fail
    go_ret3
    exact ⟨rfl, Keeps.refl _ _⟩
  · obtain ⟨b, off, rfl, hcc⟩ := hc (by simp)
    obtain ⟨c0, c1, c2⟩ := hcc 0 r rfl
    simp only [Nat.add_zero] at c0
    have HCC := Lib.hid hcc
    simp only [List.length_cons] at *
    clear hc hcc
    have gl : (((l.length : Int) + 1) == 0) = false := beq_eq_false_iff_ne.2 (by omega)
    have HA := Lib.hid (fun W => in_any npL r W (by decide))
    rw [show inP npL r = amg npL r by rw [inP_amg _ (Or.inr rfl), if_pos rfl]] at HA
    have HP := Lib.hid (ptP_cons r l)
    generalize ptP (r :: l) = P at *
    cases hb : amg npL r
    · rw [hb] at HA HP
      by_cases h9 : r = 92
      · subst h9
        rcases l with _ | ⟨r2, l⟩
        · have E : Hid (P = none) := Lib.hid (by rw [HP.out]; rfl)
          clear HP HI
          go_enter Tryz.func41, Tryz.ntmps41
          go_wp2_with fail
          refine (HA.out _).mono ?_
          rintro e w2 ⟨rfl, rfl⟩
          go_wp2_with fail
          go_ret3
          rw [E.out]
          exact ⟨rfl, Keeps.refl _ _⟩
        · obtain ⟨d0, d1, d2⟩ := HCC.out 1 r2 rfl
          simp only [List.length_cons] at *
          have g7 : decide ((l.length : Int) + 1 + 1 < 2) = false := by simp; omega
          have HE := Lib.hid (fun W => rescaped_any r2 W ⟨d1, d2⟩)
          have HP2 : Hid (P = (escP r2).map fun p => (p.1, p.2, 2)) := Lib.hid (by rw [HP.out]; rfl)
          clear HP HI
          cases hE : escP r2 with
          | none =>
            rw [hE] at HP2 HE
            have E : Hid (P = none) := Lib.hid HP2.out
            clear HP2 hE
            go_enter Tryz.func41, Tryz.ntmps41
            go_wp2_with fail
            refine (HA.out _).mono ?_
            rintro e w2 ⟨rfl, rfl⟩
            go_wp2_with fail
            refine (HE.out _).mono ?_
            rintro e w3 ⟨rfl, K⟩
            have HK := Lib.hid K
            clear K
            go_wp2_with fail
            go_ret3
            rw [E.out]
            exact ⟨rfl, HK.out⟩
          | some p =>
            obtain ⟨s, is⟩ := p
            rw [hE] at HP2 HE
            have E : Hid (P = some (s, is, 2)) := Lib.hid HP2.out
            clear HP2 hE
            go_enter Tryz.func41, Tryz.ntmps41
            go_wp2_with fail
            refine (HA.out _).mono ?_
            rintro e w2 ⟨rfl, rfl⟩
            go_wp2_with fail
            refine (HE.out _).mono ?_
            rintro e w3 ⟨u, rfl, hu⟩
            have HU := Lib.hid hu
            obtain ⟨ua, uc, rfl⟩ := ownsRow_slice hu.1
            clear hu
            go_wp2_with fail
            go_ret3
            rw [E.out]
            exact ⟨_, rfl, HU.out⟩
      · have g9 : (r == 92) = false := beq_eq_false_iff_ne.2 h9
        have E : Hid (P = some ([(r, r)], true, 1)) := Lib.hid (by rw [HP.out, if_neg h9]; rfl)
        clear HP HI
        go_enter Tryz.func41, Tryz.ntmps41
        go_wp2_with fail
        refine (HA.out _).mono ?_
        rintro e w2 ⟨rfl, rfl⟩
        go_wp2_with fail
        go_region_held3 (fun w' => w'.cell? ⟨b, off, none⟩ = some (.int .i64 r)) (go_keep) (fail)
        all_goals go_wp2_with fail
        go_ret3
        rw [E.out]
        exact ⟨_, rfl, (rown_one w r).1.drew, (rown_one w r).2.drew⟩
    · have h9 : ¬ r = 92 := by rintro rfl; revert hb; decide +kernel
      rw [hb] at HA HP
      have E : Hid (P = none) := Lib.hid (by rw [HP.out, if_neg h9]; rfl)
      clear HP HI
      go_enter Tryz.func41, Tryz.ntmps41
      go_wp2_with fail
      refine (HA.out _).mono ?_
      rintro e w2 ⟨rfl, rfl⟩
      go_wp2_with fail
      go_ret3
      rw [E.out]
      exact ⟨rfl, Keeps.refl _ _⟩
end Go.Proofs.YtinogeobkljngaaGreatDoor
end
section
namespace Go.Proofs.YtinogeobkljngaaGreatDoor
open Go.RowKit
set_option linter.unusedVariables false
set_option linter.unusedSimpArgs false
set_option maxRecDepth 100000

/-- A set and its length are. -/
def ClE (w : World) (p : Option (List (Int × Int) × Nat)) (e : Ending) (w' : World) : Prop :=
  match p with
  | none => e = .returned (.tuple #[.slice none 0 0, .int .i64 0]) ∧ Keeps (fun _ => False) w w'
  | some (s, k) => ∃ u, e = .returned (.tuple #[u, .int .i64 k]) ∧ ROwn w w' u s
theorem wpList_append_rng {w : World} {ops : Array Oper} {rest : List Oper} {o : Oper} {a : Act} {Q : Exit → Act → World → Prop} (hgd : o.guard = none) (s x : Operand)
    (ho : o.op = .call { callee := .builtin .append, args := #[s, x], argTypes := #[23, 23] })
    (base : Nat) (v : Value) (n : Nat) (xs : List Value) (hs : a.eval s = v) (hown : w.ownsRow base 61 2 v n xs)
    (xv : Value) (l : List (Int × Int)) (hx : a.eval x = xv) (hr : SlOf 2 encR w xv l) (h63 : n + l.length ≤ 1000000) (hbase : base ≤ w.heap.size)
    (h : ∀ v' w', w'.ownsRow base 61 2 v' (n + l.length) (xs ++ cellsOf 2 encR l) → w.grownBy w' v.ownBlock → wpList Tryz.prog ops Q rest (a.put o.dst v') w') : wpList Tryz.prog ops Q (o :: rest) a w := by
  obtain ⟨i0, hi, hz0, hz1, hz2⟩ := info_parts info_range
  rcases hr.news (by omega) with ⟨rfl, rfl⟩ | ⟨ad, c, rfl, hnews⟩
  · refine wpList_append_own_none hgd s x 23 ho base 61 i0 2 Tryz.underlying23 hi v n xs hs hown hx (hs ▸ h v w ?_ ?_)
    · simpa [cellsOf] using hown
    · exact ⟨rfl, rfl, rfl, Nat.le_refl _, fun _ _ _ => rfl⟩
  · exact wpList_append_own _ hgd s x 23 ho base 61 i0 _ 2 16 Tryz.underlying23 hi hz0 hz1 hz2 rfl (by decide) v n xs hs hown ad _ c _ hx (cellsOf_length _ _ _) hnews (cells_one _) (by unfold maxLen; omega) (by omega) hbase
      (fun v' w' h1 h2 _ => h v' w' h1 h2)
theorem escP_one {r : Int} {s : List (Int × Int)} (h : escP r = some (s, true)) : ∃ x, s = [(x, x)] := by
  unfold escP at h
  split at h
  · simp at h
  · split at h
    · cases h
    · simp at h; exact ⟨_, h.symm⟩
theorem ptP_one {l : List Int} {s : List (Int × Int)} {k : Nat} (h : ptP l = some (s, true, k)) : ∃ x, s = [(x, x)] := by
  rcases l with _ | ⟨r, l⟩
  · cases h
  · rw [ptP_cons] at h
    split at h
    · rcases l with _ | ⟨r2, l⟩
      · cases h
      · simp only [Option.map_eq_some_iff, Prod.mk.injEq] at h
        obtain ⟨⟨p, q⟩, h1, h2, h3, h4⟩ := h
        dsimp only at h2 h3
        subst h2 h3
        exact escP_one h1
    · split at h
      · cases h
      · simp at h; exact ⟨r, h.1.symm⟩
theorem named_rng (r : Int) : (namedL r).length ≤ 5 ∧ ∀ q ∈ namedL r, in64 q.1 ∧ in64 q.2 := by
  unfold namedL in64
  repeat' split
  all_goals (constructor; decide; intro q hq; simp at hq; (repeat' (rcases hq with rfl | hq)) <;> (try subst hq) <;> simp)
theorem escP_rng {r : Int} {s : List (Int × Int)} {is : Bool} (hr : 0 ≤ r ∧ r ≤ 1114111) (h : escP r = some (s, is)) : s.length ≤ 5 ∧ ∀ q ∈ s, in64 q.1 ∧ in64 q.2 := by
  unfold escP at h
  split at h
  · simp only [Option.some.injEq, Prod.mk.injEq] at h
    rw [← h.1]; exact named_rng r
  · split at h
    · cases h
    · simp only [Option.some.injEq, Prod.mk.injEq] at h
      rw [← h.1]
      refine ⟨by simp, fun q hq => ?_⟩
      simp at hq
      subst hq
      unfold escR in64
      repeat' split
      all_goals (constructor <;> (constructor <;> simp <;> omega))
theorem ptP_rng {l : List Int} {s : List (Int × Int)} {is : Bool} {k : Nat} (hr : ∀ r ∈ l, 0 ≤ r ∧ r ≤ 1114111) (h : ptP l = some (s, is, k)) : s.length ≤ 5 ∧ ∀ q ∈ s, in64 q.1 ∧ in64 q.2 := by
  rcases l with _ | ⟨r, l⟩
  · cases h
  · rw [ptP_cons] at h
    split at h
    · rcases l with _ | ⟨r2, l⟩
      · cases h
      · simp only [Option.map_eq_some_iff, Prod.mk.injEq] at h
        obtain ⟨⟨p, q⟩, h1, h2, h3, h4⟩ := h
        dsimp only at h2 h3
        subst h2 h3
        exact escP_rng (hr r2 (by simp)) h1
    · split at h
      · cases h
      · simp only [Option.some.injEq, Prod.mk.injEq] at h
        rw [← h.1]
        refine ⟨by simp, fun q hq => ?_⟩
        simp at hq
        subst hq
        have := hr r (by simp)
        unfold in64
        simp only
        omega
/-- At the loop's head. -/
def ClR (G : Option (List (Int × Int) × Nat)) (l : List Int) (w : World) (atv av pv : Value) (wr : World) : Prop :=
  ∃ (i p n : Nat) (all : List (Int × Int)), atv = .int .i64 i ∧ pv = .int .i64 p ∧ i ≤ l.length ∧ p ≤ i ∧ l.length < n + i ∧ all.length ≤ 5 * i ∧ wr.ownsRow w.heap.size 61 2 av all.length (cellsOf 2 encR all) ∧ Keeps (fun _ => False) w wr ∧ clG n (decide (p = 0)) (l.drop i) all i = G ∧ ∀ q ∈ all, in64 q.1 ∧ in64 q.2
/-- One part more. -/
theorem cl_next {G : Option (List (Int × Int) × Nat)} {l : List Int} {w w4 : World} {v4 atv pv : Value} {i p m k n : Nat} {all s : List (Int × Int)} {xs : List Value} (hik : i + k ≤ l.length) (hk : 1 ≤ k) (hpi : p ≤ i) (hn : l.length < m + 1 + i) (hal : all.length ≤ 5 * i) (hs : s.length ≤ 5)
    (h64 : ∀ q ∈ all, in64 q.1 ∧ in64 q.2) (h64s : ∀ q ∈ s, in64 q.1 ∧ in64 q.2) (K : Keeps (fun _ => False) w w4) (hg : clG m false (l.drop (i + k)) (all ++ s) (i + k) = G)
    (hnn : n = all.length + s.length) (hxs : xs = cellsOf 2 encR all ++ cellsOf 2 encR s) (ho : w4.ownsRow w.heap.size 61 2 v4 n xs)
    (ha : atv = .int .i64 ((i + k : Nat) : Int)) (hp : pv = .int .i64 ((p + 1 : Nat) : Int)) : ClR G l w atv v4 pv w4 := by
  refine ⟨i + k, p + 1, m, all ++ s, ha, hp, hik, by omega, by omega, by rw [List.length_append]; omega, ?_, K, ?_, fun q hq => ?_⟩
  · rw [List.length_append, cellsOf_append, ← hnn, ← hxs]; exact ho
  · rw [show decide (p + 1 = 0) = false by simp]; exact hg
  · rcases List.mem_append.1 hq with hq | hq
    · exact h64 q hq
    · exact h64s q hq
end Go.Proofs.YtinogeobkljngaaGreatDoor
end
section
namespace Go.Proofs.YtinogeobkljngaaGreatDoor
open Go.RowKit
set_option linter.unusedVariables false
set_option linter.unusedSimpArgs false
set_option maxRecDepth 100000

/-- What the document's class answers. -/
def ClassC : Prop := ∀ (l : List Int) (b off cap : Nat) (w : World), ISl w (.slice (some ⟨b, off, none⟩) l.length cap) l → l.length ≤ 200 → Calls Tryz.prog 26 #[.slice (some ⟨b, off, none⟩) l.length cap] w fun e w' => ClE w (clP l) e w'
/-- A token and its length are. -/
def TokE (w : World) (p : Option (Tok × Nat)) (e : Ending) (w' : World) : Prop :=
  match p with
  | none => e = .returned (.tuple #[tokV 0 0 (.slice none 0 0) 0 0, .int .i64 0]) ∧ Keeps (fun _ => False) w w'
  | some (t, k) => ∃ v : TV, e = .returned (.tuple #[v.val, .int .i64 k]) ∧ KAt w' (Bt w w') v t ∧ Keeps (fun _ => False) w w'
theorem tok_close {w wX wE : World} {v : TV} {t : Tok} {k : Nat} (K : Keeps (fun _ => False) (w.alloc (.cells #[.int .i64 0, .int .i64 0, .slice none 0 0, .int .i64 0, .int .i64 0] 44)) wX)
    (hT : KAt wX (fun b => w.heap.size < b ∧ b < wX.heap.size) v t) (kE : Keeps (fun b => b = w.heap.size) wX wE) : TokE w (some (t, k)) (.returned (.tuple #[v.val, .int .i64 k])) wE := by
  have hs := K.size
  simp at hs
  have hs2 := kE.size
  refine ⟨v, rfl, hT.keepsTo kE (fun b hb e => by omega) (fun b hb => ⟨by omega, by omega⟩), ?_⟩
  exact (Keeps.trans (by (repeat' (with_reducible first | exact Keeps.refl _ _ | assumption | refine Keeps.drawN ?_ _ | refine Keeps.drew ?_ | refine Keeps.setCell ?_ ?_ _ | refine Keeps.alloc ?_ _)) <;> (first | exact Or.inr (Nat.le_refl _) | exact Or.inl rfl | exact Or.inl (Or.inl rfl) | exact Or.inl (Or.inr rfl) | (right; simp; done) | (right; simp; omega))) K).trans2 kE (fun b hb e => by omega)
theorem tok_none {w wX wE : World} (K : Keeps (fun _ => False) (w.alloc (.cells #[.int .i64 0, .int .i64 0, .slice none 0 0, .int .i64 0, .int .i64 0] 44)) wX)
    (kE : Keeps (fun b => b = w.heap.size) wX wE) : TokE w none (.returned (.tuple #[tokV 0 0 (.slice none 0 0) 0 0, .int .i64 0])) wE :=
  ⟨rfl, (Keeps.trans (by (repeat' (with_reducible first | exact Keeps.refl _ _ | assumption | refine Keeps.drawN ?_ _ | refine Keeps.drew ?_ | refine Keeps.setCell ?_ ?_ _ | refine Keeps.alloc ?_ _)) <;> (first | exact Or.inr (Nat.le_refl _) | exact Or.inl rfl | exact Or.inl (Or.inl rfl) | exact Or.inl (Or.inr rfl) | (right; simp; done) | (right; simp; omega))) K).trans2 kE (fun b hb e => by omega)⟩
/-- The result's block as it was laid. -/
theorem res_factsK {w wX : World} (K : Keeps (fun _ => False) (w.alloc (.cells #[.int .i64 0, .int .i64 0, .slice none 0 0, .int .i64 0, .int .i64 0] 44)) wX) :
    (wX.cell? ⟨w.heap.size, 0, none⟩ = some (.int .i64 0) ∧ wX.cell? ⟨w.heap.size, 1, none⟩ = some (.int .i64 0) ∧ wX.cell? ⟨w.heap.size, 2, none⟩ = some (.slice none 0 0) ∧ wX.cell? ⟨w.heap.size, 3, none⟩ = some (.int .i64 0) ∧ wX.cell? ⟨w.heap.size, 4, none⟩ = some (.int .i64 0)) ∧
    (wX.frozen? ⟨w.heap.size, 0, none⟩ = false ∧ wX.frozen? ⟨w.heap.size, 1, none⟩ = false ∧ wX.frozen? ⟨w.heap.size, 2, none⟩ = false ∧ wX.frozen? ⟨w.heap.size, 3, none⟩ = false ∧ wX.frozen? ⟨w.heap.size, 4, none⟩ = false) := by
  exact ⟨⟨K.cell (by simp [go_sem]) id, K.cell (by simp [go_sem]) id, K.cell (by simp [go_sem]) id, K.cell (by simp [go_sem]) id, K.cell (by simp [go_sem]) id⟩,
    K.frozen (by simp [go_sem]) (by simp) id, K.frozen (by simp [go_sem]) (by simp) id, K.frozen (by simp [go_sem]) (by simp) id, K.frozen (by simp [go_sem]) (by simp) id, K.frozen (by simp [go_sem]) (by simp) id⟩
theorem KAt.pt {w' : World} {lo : Nat} {u : Value} {L : List (Int × Int)} (h : w'.ownsRow lo 61 2 u L.length (cellsOf 2 encR L)) (hl : L.length ≤ 4611686018427387904) (hr : ∀ p ∈ L, in64 p.1 ∧ in64 p.2) :
    KAt w' (fun b => lo ≤ b ∧ b < w'.heap.size) ⟨0, 0, u, 0, 0⟩ (.pt L) :=
  ⟨rfl, ⟨SlOf.ofOwn h hl, hr⟩, fun b hb => ⟨ownBlock_base h b hb, own_lt h b hb⟩⟩
theorem numP_rng (l : List Int) : 0 ≤ (numP l).1 ∧ (numP l).1 ≤ 50 := by
  have h0 : 0 ≤ (num0 l).1 := by
    rcases l with _ | ⟨a, l⟩
    · decide
    · rw [num0_cons]
      split
      · rename_i ha
        have ha := (dig_iff a).1 ha
        rcases l with _ | ⟨b, l⟩
        · simp; omega
        · simp only
          split
          · rename_i hb
            have hb := (dig_iff b).1 hb
            simp only; omega
          · simp only; omega
      · decide
  unfold numP
  split
  · decide
  · exact ⟨h0, by omega⟩
theorem brP_rng {l : List Int} {m x : Int} {k : Nat} (h : brP l = some (m, x, k)) : in64 m ∧ in64 x := by
  have h1 := numP_rng l
  unfold brP at h
  split at h
  · cases h
  · split at h
    · cases h
    · rename_i c l2 _
      have h2 := numP_rng l2
      split at h
      · simp only [Option.some.injEq, Prod.mk.injEq] at h; unfold in64; omega
      · split at h
        · split at h
          · cases h
          · split at h
            · simp only [Option.some.injEq, Prod.mk.injEq] at h; unfold in64; omega
            · split at h
              · cases h
              · split at h
                · simp only [Option.some.injEq, Prod.mk.injEq] at h; unfold in64; omega
                · cases h
        · cases h
end Go.Proofs.YtinogeobkljngaaGreatDoor
end
