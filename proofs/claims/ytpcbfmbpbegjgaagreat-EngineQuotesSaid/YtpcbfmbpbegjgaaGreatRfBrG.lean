/-
  The document's braces.
-/
import Derived.Test.YtpcbfmbpbegjgaaGreatMg28
import Derived.Test.YtpcbfmbpbegjgaaGreatMg14
namespace Go.Proofs.YtpcbfmbpbegjgaaGreat
open Go.RowKit
set_option linter.unusedVariables false
set_option linter.unusedSimpArgs false
set_option maxRecDepth 100000

/-- A slice of numbers from a place on. -/
theorem ISl.dropI {w : World} {b off n cap : Nat} {l : List Int} (h : ISl w (.slice (some ⟨b, off, none⟩) n cap) l) (i : Nat) (hi : i ≤ n) (hc : ¬ cap = i) :
    ISl w (.slice (some ⟨b, off + i, none⟩) (n - i) (cap - i)) (l.drop i) := by
  obtain ⟨⟨a, c, e, ⟨hl, hn⟩, hl2, hcc⟩, h4⟩ := h
  injection e with e1 e2 e3
  subst e1 e2 e3
  refine ⟨⟨_, _, by rw [List.length_drop], ⟨by rw [List.length_drop]; omega, (fun h => by cases h)⟩, by rw [List.length_drop]; omega, fun h0 => ⟨b, off + i, rfl, fun j x hx q hq => ?_⟩⟩, fun r hr => h4 r (List.mem_of_mem_drop hr)⟩
  rw [List.length_drop] at h0
  obtain ⟨b', off', e', hx'⟩ := hcc (by omega)
  injection e' with e'
  injection e' with e1 e2 _
  subst e1 e2
  rw [List.getElem?_drop] at hx
  have := hx' (i + j) x hx q hq
  rw [← this]
  congr 2
  omega
def tokV (k r : Int) (sv : Value) (m x : Int) : Value := .agg #[.int .i64 k, .int .i64 r, sv, .int .i64 m, .int .i64 x]
def brV : Option (Int × Int × Nat) → Value
  | none => .tuple #[tokV 0 0 (.slice none 0 0) 0 0, .int .i64 0]
  | some (m, x, k) => .tuple #[tokV 2 0 (.slice none 0 0) m x, .int .i64 k]
theorem numP_two (l : List Int) : (numP l).2 ≤ 2 := by
  unfold numP
  by_cases h : 50 < (num0 l).1
  · rw [if_pos h]; decide
  · rw [if_neg h]
    rcases l with _ | ⟨a, _ | ⟨b, t⟩⟩
    · decide
    · rw [num0_cons]; split <;> simp
    · rw [num0_cons]; split
      · simp only; split <;> simp
      · simp
set_option maxHeartbeats 8000000 in
theorem rbraces_any (l : List Int) (v : Value) (w : World) (hlen : l.length ≤ 1000000) (h : ISl w v l) : Calls Tryz.prog 39 #[v] w fun e w' => e = .returned (brV (brP l)) ∧ Keeps (fun _ => False) w w' := by
  have HN := Lib.hid (fun W (hW : ISl W v l) => rnumber_any l v W hW)
  have HI := Lib.hid h
  obtain ⟨a, cap, rfl, hcap, hc⟩ := h.cells
  have HB : Hid (brP l = _) := Lib.hid (by unfold brP; rfl)
  obtain ⟨n, k, hq⟩ : ∃ n k, numP l = (n, k) := ⟨_, _, rfl⟩
  have hk2 : k ≤ 2 := by have := numP_two l; rw [hq] at this; exact this
  rw [hq] at HN HB
  dsimp only at HN HB
  generalize brP l = r at *
  by_cases h0 : k = 0
  · subst h0
    have E : Hid (r = none) := Lib.hid HB.out
    clear hc h HB hq
    go_enter Tryz.func39, Tryz.ntmps39
    go_wp2_with fail
    refine (HN.out _ (HI.out.keep ((Keeps.refl _ _).alloc _))).mono ?_
    rintro e w3 ⟨rfl, rfl⟩
    go_wp2_with fail
    refine bodyPost_ret (by simp [results, Tryz.results39, go_sem]; try rfl) rfl ?_
    exact ⟨by rw [E.out]; rfl, (Keeps.refl _ _).alloc _⟩
  have g0 : ((k : Int) == 0) = false := beq_eq_false_iff_ne.2 (by omega)
  rw [if_neg h0] at HB
  by_cases h1 : l.length ≤ k
  · have g1 : decide ((l.length : Int) ≤ (k : Int)) = true := by simpa using h1
    have E : Hid (r = none) := Lib.hid (by rw [HB.out, List.drop_eq_nil_of_le h1])
    clear hc h HB hq
    go_enter Tryz.func39, Tryz.ntmps39
    go_wp2_with fail
    refine (HN.out _ (HI.out.keep ((Keeps.refl _ _).alloc _))).mono ?_
    rintro e w3 ⟨rfl, rfl⟩
    go_wp2_with fail
    refine bodyPost_ret (by simp [results, Tryz.results39, go_sem]; try rfl) rfl ?_
    exact ⟨by rw [E.out]; rfl, (Keeps.refl _ _).alloc _⟩
  have g1 : decide ((l.length : Int) ≤ (k : Int)) = false := by simpa using h1
  obtain ⟨b, off, rfl, hcc⟩ := hc (by omega)
  obtain ⟨c, hcx⟩ : ∃ c, l[k]? = some c := ⟨_, List.getElem?_eq_getElem (by omega)⟩
  have x0 := alloc_cell (hcc k c hcx).1 (.cells #[.int .i64 0, .int .i64 0, .slice none 0 0, .int .i64 0, .int .i64 0] 63)
  have hd : l.drop k = c :: l.drop (k + 1) := by
    rw [List.drop_eq_getElem_cons (by omega)]
    rw [List.getElem?_eq_getElem (by omega)] at hcx
    rw [Option.some.inj hcx]
  rw [hd] at HB
  dsimp only at HB
  by_cases h2 : c = 125
  · subst h2
    have E : Hid (r = some (n, n, k + 1)) := Lib.hid HB.out
    clear hc h HB hq hcc hd hcx
    go_enter Tryz.func39, Tryz.ntmps39
    go_wp2_with fail
    refine (HN.out _ (HI.out.keep ((Keeps.refl _ _).alloc _))).mono ?_
    rintro e w3 ⟨rfl, rfl⟩
    go_wp2_with fail
    refine bodyPost_ret (by simp [results, Tryz.results39, go_sem]; try rfl) rfl ?_
    exact ⟨by rw [E.out]; rfl, (Keeps.refl _ _).alloc _⟩
  have g2 : (c == 125) = false := beq_eq_false_iff_ne.2 h2
  rw [if_neg h2] at HB
  by_cases h3 : ¬ c = 44
  · have g3 : (c == 44) = false := beq_eq_false_iff_ne.2 h3
    have E : Hid (r = none) := Lib.hid (by rw [HB.out, if_neg h3])
    clear hc h HB hq hcc hd hcx
    go_enter Tryz.func39, Tryz.ntmps39
    go_wp2_with fail
    refine (HN.out _ (HI.out.keep ((Keeps.refl _ _).alloc _))).mono ?_
    rintro e w3 ⟨rfl, rfl⟩
    go_wp2_with fail
    refine bodyPost_ret (by simp [results, Tryz.results39, go_sem]; try rfl) rfl ?_
    exact ⟨by rw [E.out]; rfl, (Keeps.refl _ _).alloc _⟩
  have h3 : c = 44 := Decidable.of_not_not h3
  subst h3
  rw [if_pos rfl] at HB
  by_cases h4 : l.length ≤ k + 1
  · have g4 : decide ((l.length : Int) ≤ (k : Int) + 1) = true := by simp; omega
    have E : Hid (r = none) := Lib.hid (by rw [HB.out, List.drop_eq_nil_of_le h4])
    clear hc h HB hq hcc hd hcx
    go_enter Tryz.func39, Tryz.ntmps39
    go_wp2_with fail
    refine (HN.out _ (HI.out.keep ((Keeps.refl _ _).alloc _))).mono ?_
    rintro e w3 ⟨rfl, rfl⟩
    go_wp2_with fail
    refine bodyPost_ret (by simp [results, Tryz.results39, go_sem]; try rfl) rfl ?_
    exact ⟨by rw [E.out]; rfl, (Keeps.refl _ _).alloc _⟩
  have g4 : decide ((l.length : Int) ≤ (k : Int) + 1) = false := by simp; omega
  obtain ⟨d, hdx⟩ : ∃ d, l[k + 1]? = some d := ⟨_, List.getElem?_eq_getElem (by omega)⟩
  have x1 := alloc_cell (hcc (k + 1) d hdx).1 (.cells #[.int .i64 0, .int .i64 0, .slice none 0 0, .int .i64 0, .int .i64 0] 63)
  have hd1 : l.drop (k + 1) = d :: l.drop (k + 1 + 1) := by
    rw [List.drop_eq_getElem_cons (by omega)]
    rw [List.getElem?_eq_getElem (by omega)] at hdx
    rw [Option.some.inj hdx]
  have HB2 : Hid (r = if d = 125 then some (n, -1, k + 2)
          else if (numP (l.drop (k + 1))).2 = 0 ∨ (numP (l.drop (k + 1))).1 < n then none
          else if ((l.drop (k + 1)).drop (numP (l.drop (k + 1))).2).head? = some 125 then some (n, (numP (l.drop (k + 1))).1, k + (numP (l.drop (k + 1))).2 + 2) else none) := Lib.hid (by rw [HB.out, hd1])
  clear HB hd hd1 hcx hdx
  by_cases h5 : d = 125
  · subst h5
    have E : Hid (r = some (n, -1, k + 2)) := Lib.hid HB2.out
    clear hc h hq hcc HB2
    go_enter Tryz.func39, Tryz.ntmps39
    go_wp2_with fail
    refine (HN.out _ (HI.out.keep ((Keeps.refl _ _).alloc _))).mono ?_
    rintro e w3 ⟨rfl, rfl⟩
    go_wp2_with fail
    refine bodyPost_ret (by simp [results, Tryz.results39, go_sem]; try rfl) rfl ?_
    exact ⟨by rw [E.out]; rfl, (Keeps.refl _ _).alloc _⟩
  have g5 : (d == 125) = false := beq_eq_false_iff_ne.2 h5
  rw [if_neg h5] at HB2
  have hIS := h.dropI (k + 1) (by omega) (by omega)
  have HI2 := Lib.hid hIS
  have HM := Lib.hid (fun W hW => rnumber_any (l.drop (k + 1)) (.slice (some ⟨b, off + (k + 1), none⟩) (l.length - (k + 1)) (cap - (k + 1))) W hW)
  obtain ⟨y, m, hp⟩ : ∃ y m, numP (l.drop (k + 1)) = (y, m) := ⟨_, _, rfl⟩
  have hm2 : m ≤ 2 := by have := numP_two (l.drop (k + 1)); rw [hp] at this; exact this
  rw [hp] at HM HB2
  dsimp only at HM HB2
  have hI1 : (0 : Int) ≤ (k : Int) + 1 := by omega
  have hI2 : (k : Int) + 1 ≤ (l.length : Int) := by omega
  have hI3 : (k : Int) + 1 ≤ (cap : Int) := by omega
  by_cases h6 : m = 0
  · subst h6
    have E : Hid (r = none) := Lib.hid (by rw [HB2.out, if_pos (Or.inl rfl)])
    clear hc h hq hcc HB2
    go_enter Tryz.func39, Tryz.ntmps39
    go_wp2_with fail
    refine (HN.out _ (HI.out.keep ((Keeps.refl _ _).alloc _))).mono ?_
    rintro e w3 ⟨rfl, rfl⟩
    go_wp2_with fail
    refine (HM.out _ (HI2.out.keep ((Keeps.refl _ _).alloc _))).mono ?_
    rintro e w3 ⟨rfl, rfl⟩
    go_wp2_with fail
    refine bodyPost_ret (by simp [results, Tryz.results39, go_sem]; try rfl) rfl ?_
    exact ⟨by rw [E.out]; rfl, (Keeps.refl _ _).alloc _⟩
  have g6 : ((m : Int) == 0) = false := beq_eq_false_iff_ne.2 (by omega)
  by_cases h7 : y < n
  · have g7 : decide (y < n) = true := by simpa using h7
    have E : Hid (r = none) := Lib.hid (by rw [HB2.out, if_pos (Or.inr h7)])
    clear hc h hq hcc HB2
    go_enter Tryz.func39, Tryz.ntmps39
    go_wp2_with fail
    refine (HN.out _ (HI.out.keep ((Keeps.refl _ _).alloc _))).mono ?_
    rintro e w3 ⟨rfl, rfl⟩
    go_wp2_with fail
    refine (HM.out _ (HI2.out.keep ((Keeps.refl _ _).alloc _))).mono ?_
    rintro e w3 ⟨rfl, rfl⟩
    go_wp2_with fail
    refine bodyPost_ret (by simp [results, Tryz.results39, go_sem]; try rfl) rfl ?_
    exact ⟨by rw [E.out]; rfl, (Keeps.refl _ _).alloc _⟩
  have g7 : decide (y < n) = false := by simpa using h7
  rw [if_neg (by omega), List.drop_drop] at HB2
  by_cases h8 : l.length ≤ k + 1 + m
  · have g8 : decide ((l.length : Int) ≤ (k : Int) + 1 + (m : Int)) = true := by simp; omega
    have E : Hid (r = none) := Lib.hid (by rw [HB2.out, List.drop_eq_nil_of_le h8]; rfl)
    clear hc h hq hcc HB2
    go_enter Tryz.func39, Tryz.ntmps39
    go_wp2_with fail
    refine (HN.out _ (HI.out.keep ((Keeps.refl _ _).alloc _))).mono ?_
    rintro e w3 ⟨rfl, rfl⟩
    go_wp2_with fail
    refine (HM.out _ (HI2.out.keep ((Keeps.refl _ _).alloc _))).mono ?_
    rintro e w3 ⟨rfl, rfl⟩
    go_wp2_with fail
    refine bodyPost_ret (by simp [results, Tryz.results39, go_sem]; try rfl) rfl ?_
    exact ⟨by rw [E.out]; rfl, (Keeps.refl _ _).alloc _⟩
  have g8 : decide ((l.length : Int) ≤ (k : Int) + 1 + (m : Int)) = false := by simp; omega
  obtain ⟨f, hfx⟩ : ∃ f, l[k + 1 + m]? = some f := ⟨_, List.getElem?_eq_getElem (by omega)⟩
  have x2 := alloc_cell (hcc (k + 1 + m) f hfx).1 (.cells #[.int .i64 0, .int .i64 0, .slice none 0 0, .int .i64 0, .int .i64 0] 63)
  rw [List.head?_drop, hfx] at HB2
  clear hfx hcc hc h
  by_cases h9 : f = 125
  · subst h9
    have E : Hid (r = some (n, y, k + m + 2)) := Lib.hid (by rw [HB2.out, if_pos rfl])
    clear hq HB2
    go_enter Tryz.func39, Tryz.ntmps39
    go_wp2_with fail
    refine (HN.out _ (HI.out.keep ((Keeps.refl _ _).alloc _))).mono ?_
    rintro e w3 ⟨rfl, rfl⟩
    go_wp2_with fail
    refine (HM.out _ (HI2.out.keep ((Keeps.refl _ _).alloc _))).mono ?_
    rintro e w3 ⟨rfl, rfl⟩
    go_wp2_with fail
    refine bodyPost_ret (by simp [results, Tryz.results39, go_sem]; try rfl) rfl ?_
    exact ⟨by rw [E.out]; rfl, (Keeps.refl _ _).alloc _⟩
  have g9 : (f == 125) = false := beq_eq_false_iff_ne.2 h9
  have E : Hid (r = none) := Lib.hid (by rw [HB2.out, if_neg (fun e => h9 (Option.some.inj e))])
  clear hq HB2
  go_enter Tryz.func39, Tryz.ntmps39
  go_wp2_with fail
  refine (HN.out _ (HI.out.keep ((Keeps.refl _ _).alloc _))).mono ?_
  rintro e w3 ⟨rfl, rfl⟩
  go_wp2_with fail
  refine (HM.out _ (HI2.out.keep ((Keeps.refl _ _).alloc _))).mono ?_
  rintro e w3 ⟨rfl, rfl⟩
  go_wp2_with fail
  refine bodyPost_ret (by simp [results, Tryz.results39, go_sem]; try rfl) rfl ?_
  exact ⟨by rw [E.out]; rfl, (Keeps.refl _ _).alloc _⟩

end Go.Proofs.YtpcbfmbpbegjgaaGreat
