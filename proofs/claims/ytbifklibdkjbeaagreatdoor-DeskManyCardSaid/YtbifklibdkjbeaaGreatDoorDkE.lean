/-
  Runs of the least job, reckoned: made, stepped, finished, asked whether they are over. No condition.
-/
import Derived.Test.YtbifklibdkjbeaaGreatDoorChecked
import Derived.Test.YtbifklibdkjbeaaGreatDoorEvAj
import Derived.Test.YtbifklibdkjbeaaGreatDoorJvA
import Derived.KernelRfl
namespace Go.Proofs.YtbifklibdkjbeaaGreatDoor
open Go
open Go.RowKit
set_option linter.unusedVariables false
set_option linter.unusedSimpArgs false
set_option maxRecDepth 1000000

/-- A run's number and place in a reckoned memory. -/
abbrev RSt := Option ((Nat × Nat) × AH)
def isI (n : Int) : Value → Bool
  | .int .i64 m => m == n
  | _ => false
def isInt : Value → Bool
  | .int .i64 _ => true
  | _ => false
def isB (b : Bool) : Value → Bool
  | .bool c => c == b
  | _ => false
theorem isI_eq {n : Int} {v : Value} (h : isI n v = true) : v = .int .i64 n := by
  unfold isI at h
  split at h
  · rename_i m; rw [show m = n by simpa using h]
  · cases h
theorem isB_eq {b : Bool} {v : Value} (h : isB b v = true) : v = .bool b := by
  unfold isB at h
  split at h
  · rename_i m; rw [show m = b by simpa using h]
  · cases h
def leastJ : JV := ⟨none, 0, 0, none, 0, 0, -1, 0, 1, [], 0, 0, 0, 0, 0, 0, 1, 1, 0, 1, 1⟩
noncomputable def newA (P : Program) : RSt := match litArgs [jV leastJ] with
  | some xs => match callA P 3000 66 xs AH.empty with
    | some (.ret (.tup [.c (.ptr i o), .c (.lit v)]), H) => bif isI 0 v then some ((i, o), H) else none
    | _ => none
  | none => none
noncomputable def askA (P : Program) (f : FuncId) (vs : List Value) (t : Value → Bool) : RSt → RSt
  | some ((i, o), H) => match litArgs vs with
    | some xs => match callA P 3000 f (.c (.ptr i o) :: xs) H with
      | some (.ret (.one (.c (.lit v))), H') => bif t v then some ((i, o), H') else none
      | _ => none
    | none => none
  | none => none
/-- The run at rp is in such a state; its blocks are among S. -/
def RunS (st : RSt) (w : World) (rp : Value) (S : Nat → Prop) : Prop :=
  ∃ i o H ρ, st = some ((i, o), H) ∧ HOK ρ H w ∧ i < H.next ∧ rp = .pointer (some ⟨ρ.blk i, ρ.base i + o, none⟩) ∧ ∀ id b, H.get id = some b → S (ρ.blk id)
theorem RunS.keeps {st : RSt} {w w' : World} {rp : Value} {S T : Nat → Prop} (h : RunS st w rp S) (k : Keeps T w w') (hs : ∀ b, S b → ¬ T b) : RunS st w' rp S := by
  obtain ⟨i, o, H, ρ, h1, h2, h3, h4, h5⟩ := h
  refine ⟨i, o, H, ρ, h1, ⟨h2.lt, h2.inj, fun id b hb => ?_⟩, h3, h4, h5⟩
  obtain ⟨cs, fz, hl⟩ := h2.row id b hb
  exact ⟨cs, fz, ⟨k.heap hl.heap (hs _ (h5 id b hb)), hl.size, hl.thaw, hl.room, hl.whole, hl.den⟩⟩
theorem RunS.mono {st : RSt} {w : World} {rp : Value} {S T : Nat → Prop} (h : RunS st w rp S) (hs : ∀ b, S b → T b) : RunS st w rp T := by
  obtain ⟨i, o, H, ρ, h1, h2, h3, h4, h5⟩ := h
  exact ⟨i, o, H, ρ, h1, h2, h3, h4, fun id b hb => hs _ (h5 id b hb)⟩
theorem new_ok_of {P : Program} (hn : okNG P = true) (hm : P.follows .mixedOrders = true) (h : (newA P).isSome = true) (w : World) :
    Calls P 66 #[jV leastJ] w fun e w' => ∃ rp, e = .returned (.tuple #[rp, .int .i64 0]) ∧ RunS (newA P) w' rp (fun b => w.heap.size ≤ b ∧ b < w'.heap.size) ∧ Keeps (fun _ => False) w w' := by
  obtain ⟨st, hst⟩ := Option.isSome_iff_exists.1 h
  have hst2 := hst
  unfold newA at hst2
  split at hst2
  · rename_i xs ha
    split at hst2
    · rename_i i o v H' hc
      rcases hv : isI 0 v with _ | _
      · rw [hv] at hst2; simp at hst2
      rw [hv] at hst2
      obtain rfl : ((i, o), H') = st := by simpa using hst2
      have hH0 : HOK ⟨fun _ => 0, fun _ => 0, fun _ => 0⟩ AH.empty w := ⟨fun _ _ h => by simp [AH.empty, AH.get, Tr.getR_eq, Tr.get] at h, fun _ _ _ _ h => by simp [AH.empty, AH.get, Tr.getR_eq, Tr.get] at h, fun _ _ h => by simp [AH.empty, AH.get, Tr.getR_eq, Tr.get] at h⟩
      refine (call_sound (okNG_of hn) hm _ _ xs _ _ _ hc _ w #[jV leastJ] hH0 (litArgs_den ha)).mono ?_
      rintro e w' ⟨ρ', ⟨u, rfl, vs, rfl, hd⟩, hH, hK⟩
      obtain ⟨vl⟩ := vs
      match vl, hd with
      | [a, b], ⟨h1, h2, _⟩ =>
        obtain ⟨hi, rfl⟩ : i < H'.next ∧ a = _ := h1
        obtain ⟨rfl, _⟩ : b = v ∧ _ := h2
        have hv0 : b = .int .i64 0 := isI_eq hv
        refine ⟨_, by rw [hv0], ⟨i, o, H', ρ', hst, hH, hi, rfl, fun id b hb => ⟨?_, hH.lt_size hb⟩⟩, hK.os, hK.tape, hK.output, hK.size, fun k hk _ => hK.frame k hk fun id b hb => by simp [AH.empty, AH.get, Tr.getR_eq, Tr.get] at hb⟩
        rcases hK.come id b hb with h | ⟨id0, b0, h, _⟩
        · exact h
        · simp [AH.empty, AH.get, Tr.getR_eq, Tr.get] at h
    · simp at hst2
  · simp at hst2
theorem ask_ok_of {P : Program} (hn : okNG P = true) (hm : P.follows .mixedOrders = true) (f : FuncId) (vs : List Value) (t : Value → Bool) (st : RSt) (h : (askA P f vs t st).isSome = true) (w : World) (rp : Value) (S : Nat → Prop) (hr : RunS st w rp S) :
    Calls P f (rp :: vs).toArray w fun e w' => ∃ v, e = .returned v ∧ t v = true ∧ RunS (askA P f vs t st) w' rp (fun b => S b ∨ (w.heap.size ≤ b ∧ b < w'.heap.size)) ∧ Keeps S w w' := by
  obtain ⟨i, o, H, ρ, rfl, hH, hi, rfl, hS⟩ := hr
  obtain ⟨st', hst⟩ := Option.isSome_iff_exists.1 h
  have hst2 := hst
  unfold askA at hst2
  split at hst2
  · rename_i i' o' H1 he
    obtain ⟨⟨rfl, rfl⟩, rfl⟩ : (i = i' ∧ o = o') ∧ H = H1 := by simpa using he
    split at hst2
    · rename_i xs ha
      split at hst2
      · rename_i v H' hc
        rcases hv : t v with _ | _
        · rw [hv] at hst2; simp at hst2
        rw [hv] at hst2
        obtain rfl : ((i, o), H') = st' := by simpa using hst2
        refine (call_sound (okNG_of hn) hm _ _ _ _ _ _ hc ρ w _ hH (show All2 (AV.den ρ H.next) (.c (.ptr i o) :: xs) (_ :: vs) from ⟨⟨hi, rfl⟩, litArgs_den ha⟩)).mono ?_
        rintro e w' ⟨ρ', ⟨u, rfl, hd⟩, hH', hK⟩
        obtain ⟨rfl, _⟩ : u = v ∧ _ := hd
        refine ⟨u, rfl, hv, ⟨i, o, H', ρ', hst, hH', Nat.lt_of_lt_of_le hi hK.next, by rw [hK.ext.blk i hi, hK.ext.base i hi], fun id b hb => ?_⟩, hK.os, hK.tape, hK.output, hK.size, fun k hk hs => hK.frame k hk fun id b hb e => hs (e ▸ hS id b hb)⟩
        rcases hK.come id b hb with h | ⟨id0, b0, h, e⟩
        · exact .inr ⟨h, hH'.lt_size hb⟩
        · exact .inl (e ▸ hS id0 b0 h)
      · simp at hst2
    · simp at hst2
  · simp at hst2

noncomputable section
def rNew : RSt := newA Tryz.prog
def rStep : RSt := askA Tryz.prog 70 [.int .i64 0] (isB true) rNew
def rStep1 : RSt := askA Tryz.prog 71 [] (isI 1) rStep
def rBusy : RSt := askA Tryz.prog 68 [] (isB false) rNew
def rFin : RSt := askA Tryz.prog 80 [.slice none 0 0] isInt rBusy
def rFin1 : RSt := askA Tryz.prog 71 [] isInt rFin
def rOver : RSt := askA Tryz.prog 68 [] (isB true) rFin1
end
theorem run27 : (rStep1.isSome && rOver.isSome) = true := by kernel_rfl
theorem ng27 : okNG Tryz.prog = true := by kernel_rfl
theorem mixed27 : Tryz.prog.follows .mixedOrders = true := by kernel_rfl
theorem ask_some {P : Program} {f : FuncId} {vs : List Value} {t : Value → Bool} {st : RSt} (h : (askA P f vs t st).isSome = true) : st.isSome = true := by
  cases st with
  | none => simp [askA] at h
  | some x => rfl
theorem run27a : rStep1.isSome = true ∧ rOver.isSome = true := by simpa using run27
theorem run27b : rStep.isSome = true ∧ rNew.isSome = true ∧ rBusy.isSome = true ∧ rFin.isSome = true ∧ rFin1.isSome = true :=
  have h1 : rStep.isSome = true := ask_some run27a.1
  have h2 : rFin1.isSome = true := ask_some run27a.2
  have h3 : rFin.isSome = true := ask_some h2
  have h4 : rBusy.isSome = true := ask_some h3
  ⟨h1, ask_some h1, h4, h3, h2⟩
/-- What S becomes when the world grows. -/
def Gr (S : Nat → Prop) (w w' : World) (b : Nat) : Prop := S b ∨ (w.heap.size ≤ b ∧ b < w'.heap.size)
theorem new_least (w : World) : Calls Tryz.prog 66 #[jV leastJ] w fun e w' => ∃ rp, e = .returned (.tuple #[rp, .int .i64 0]) ∧ RunS rNew w' rp (fun b => w.heap.size ≤ b ∧ b < w'.heap.size) ∧ Keeps (fun _ => False) w w' :=
  new_ok_of ng27 mixed27 run27b.2.1 w
theorem step_first (w : World) (rp : Value) (S : Nat → Prop) (h : RunS rNew w rp S) : Calls Tryz.prog 70 #[rp, .int .i64 0] w fun e w' => e = .returned (.bool true) ∧ RunS rStep w' rp (Gr S w w') ∧ Keeps S w w' :=
  (ask_ok_of ng27 mixed27 _ _ _ _ run27b.1 w rp S h).mono fun e w' ⟨v, he, hv, h1, h2⟩ => ⟨by rw [he, isB_eq hv], h1, h2⟩
theorem steps_first (w : World) (rp : Value) (S : Nat → Prop) (h : RunS rStep w rp S) : Calls Tryz.prog 71 #[rp] w fun e w' => e = .returned (.int .i64 1) ∧ RunS rStep1 w' rp (Gr S w w') ∧ Keeps S w w' :=
  (ask_ok_of ng27 mixed27 _ _ _ _ run27a.1 w rp S h).mono fun e w' ⟨v, he, hv, h1, h2⟩ => ⟨by rw [he, isI_eq hv], h1, h2⟩
theorem over_no (w : World) (rp : Value) (S : Nat → Prop) (h : RunS rNew w rp S) : Calls Tryz.prog 68 #[rp] w fun e w' => e = .returned (.bool false) ∧ RunS rBusy w' rp (Gr S w w') ∧ Keeps S w w' :=
  (ask_ok_of ng27 mixed27 _ _ _ _ run27b.2.2.1 w rp S h).mono fun e w' ⟨v, he, hv, h1, h2⟩ => ⟨by rw [he, isB_eq hv], h1, h2⟩
theorem is_int {v : Value} (h : isInt v = true) : ∃ n, v = .int .i64 n := by
  unfold isInt at h; split at h
  · exact ⟨_, rfl⟩
  · simp at h
theorem finish_busy (w : World) (rp : Value) (S : Nat → Prop) (h : RunS rBusy w rp S) : Calls Tryz.prog 80 #[rp, .slice none 0 0] w fun e w' => (∃ n, e = .returned (.int .i64 n)) ∧ RunS rFin w' rp (Gr S w w') ∧ Keeps S w w' :=
  (ask_ok_of ng27 mixed27 _ _ _ _ run27b.2.2.2.1 w rp S h).mono fun e w' ⟨v, he, hv, h1, h2⟩ => ⟨by obtain ⟨n, rfl⟩ := is_int hv; exact ⟨n, he⟩, h1, h2⟩
theorem steps_fin (w : World) (rp : Value) (S : Nat → Prop) (h : RunS rFin w rp S) : Calls Tryz.prog 71 #[rp] w fun e w' => (∃ n, e = .returned (.int .i64 n)) ∧ RunS rFin1 w' rp (Gr S w w') ∧ Keeps S w w' :=
  (ask_ok_of ng27 mixed27 _ _ _ _ run27b.2.2.2.2 w rp S h).mono fun e w' ⟨v, he, hv, h1, h2⟩ => ⟨by obtain ⟨n, rfl⟩ := is_int hv; exact ⟨n, he⟩, h1, h2⟩
theorem over_yes (w : World) (rp : Value) (S : Nat → Prop) (h : RunS rFin1 w rp S) : Calls Tryz.prog 68 #[rp] w fun e w' => e = .returned (.bool true) ∧ RunS rOver w' rp (Gr S w w') ∧ Keeps S w w' :=
  (ask_ok_of ng27 mixed27 _ _ _ _ run27a.2 w rp S h).mono fun e w' ⟨v, he, hv, h1, h2⟩ => ⟨by rw [he, isB_eq hv], h1, h2⟩
end Go.Proofs.YtbifklibdkjbeaaGreatDoor
