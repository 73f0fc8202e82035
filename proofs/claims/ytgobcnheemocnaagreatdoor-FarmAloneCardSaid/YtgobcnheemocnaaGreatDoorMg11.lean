/-
  Several texts in one: A closed call with plain arguments, reckoned. No condition. Objects made and asked by reckoned calls, one after the other: an object's state as an abstract memory. No condition. Objects made and asked by reckoned calls whose arguments may hold letters: the value that comes back, the state behind. No condition. A plant's tree (a root, the source's node), reckoned: New, Add(0). No condition. The reckoned tree read: where its cells lie. No condition. FarmAlone's plant: feed.New at its job, reckoned, and read. No condition. A worker's and a farm's cells; a stage's small functions; the plant, as the tasks see it. No condition. The taker: what it took, as a row of its own; its small functions and its Step. No condition.
-/
import Derived.Test.YtgobcnheemocnaaGreatDoorMg10
import Derived.Test.YtgobcnheemocnaaGreatDoorMg1
import Derived.Test.YtgobcnheemocnaaGreatDoorChecked
import Derived.KernelRfl
import Derived.Test.YtgobcnheemocnaaGreatDoorMg2
section
namespace Go.Proofs.YtgobcnheemocnaaGreatDoor
open Go
set_option linter.unusedVariables false

def litArgs (vs : List Value) : Option (List AV) := vs.mapM AV.of?
def saysLit (v : Value → Bool) : Option (Out × AH) → Bool
  | some (.ret (.one (.c (.lit x))), _) => v x
  | _ => false
def litRun (P : Program) (n : Nat) (f : FuncId) (vs : List Value) (t : Value → Bool) : Prop :=
  ∃ az, litArgs vs = some az ∧ saysLit t (callA P n f az AH.empty) = true
theorem litArgs_den {ρ : Rho} {n : Nat} : ∀ {vs : List Value} {az : List AV}, litArgs vs = some az → All2 (AV.den ρ n) az vs
  | [], az, h => by simp [litArgs] at h; subst h; trivial
  | v :: vs, az, h => by
    simp only [litArgs, List.mapM_cons, Option.bind_eq_bind, Option.bind_eq_some_iff] at h
    obtain ⟨a, ha, as', has, h⟩ := h
    obtain rfl : a :: as' = az := by simpa using h
    exact ⟨AV.of_den ρ n v a ha, litArgs_den has⟩
/-- A call with plain arguments that is reckoned to a plain value. -/
theorem call_lit {P : Program} (hn : okNG P = true) (hm : P.follows .mixedOrders = true) (n : Nat) (f : FuncId) (vs : Array Value) (t : Value → Bool) (h : litRun P n f vs.toList t) (w : World) :
    Calls P f vs w fun e w' => (∃ v, e = .returned v ∧ t v = true) ∧ Keeps (fun _ => False) w w' := by
  obtain ⟨az, ha, h⟩ := h
  unfold saysLit at h
  split at h
  · rename_i x H' hc
    have hH0 : HOK ⟨fun _ => 0, fun _ => 0, fun _ => 0⟩ AH.empty w := ⟨fun _ _ h => by simp [AH.empty, AH.get, Tr.getR_eq, Tr.get] at h, fun _ _ _ _ h => by simp [AH.empty, AH.get, Tr.getR_eq, Tr.get] at h, fun _ _ h => by simp [AH.empty, AH.get, Tr.getR_eq, Tr.get] at h⟩
    refine (call_sound (okNG_of hn) hm n f az _ _ _ hc _ w vs hH0 (litArgs_den ha)).mono ?_
    rintro e w' ⟨ρ', ⟨v, rfl, hd⟩, _, hK⟩
    exact ⟨⟨v, rfl, by rw [show v = _ from hd.1]; exact h⟩, hK.os, hK.tape, hK.output, hK.size, fun k hk _ => hK.frame k hk fun id b hb => by simp [AH.empty, AH.get, Tr.getR_eq, Tr.get] at hb⟩
  · simp at h
end Go.Proofs.YtgobcnheemocnaaGreatDoor
end
section
namespace Go.Proofs.YtgobcnheemocnaaGreatDoor
open Go
open Go.RowKit
set_option linter.unusedVariables false
set_option linter.unusedSimpArgs false
set_option maxRecDepth 1000000

/-- An object's number and place in a reckoned memory. -/
abbrev OSt := Option ((Nat × Nat) × AH)
/-- The object at rp is in such a state; its blocks are among S. -/
def ObS (st : OSt) (w : World) (rp : Value) (S : Nat → Prop) : Prop :=
  ∃ i o H ρ, st = some ((i, o), H) ∧ HOK ρ H w ∧ i < H.next ∧ rp = .pointer (some ⟨ρ.blk i, ρ.base i + o, none⟩) ∧ ∀ id b, H.get id = some b → S (ρ.blk id)
theorem ObS.keeps {st : OSt} {w w' : World} {rp : Value} {S T : Nat → Prop} (h : ObS st w rp S) (k : Keeps T w w') (hs : ∀ b, S b → ¬ T b) : ObS st w' rp S := by
  obtain ⟨i, o, H, ρ, h1, h2, h3, h4, h5⟩ := h
  refine ⟨i, o, H, ρ, h1, ⟨h2.lt, h2.inj, fun id b hb => ?_⟩, h3, h4, h5⟩
  obtain ⟨cs, fz, hl⟩ := h2.row id b hb
  exact ⟨cs, fz, ⟨k.heap hl.heap (hs _ (h5 id b hb)), hl.size, hl.thaw, hl.room, hl.whole, hl.den⟩⟩
theorem ObS.mono {st : OSt} {w : World} {rp : Value} {S T : Nat → Prop} (h : ObS st w rp S) (hs : ∀ b, S b → T b) : ObS st w rp T := by
  obtain ⟨i, o, H, ρ, h1, h2, h3, h4, h5⟩ := h
  exact ⟨i, o, H, ρ, h1, h2, h3, h4, fun id b hb => hs _ (h5 id b hb)⟩
end Go.Proofs.YtgobcnheemocnaaGreatDoor
end
section
namespace Go.Proofs.YtgobcnheemocnaaGreatDoor
open Go
open Go.RowKit
set_option linter.unusedVariables false
set_option linter.unusedSimpArgs false
set_option maxRecDepth 1000000

end Go.Proofs.YtgobcnheemocnaaGreatDoor
end
section
namespace Go.Proofs.YtgobcnheemocnaaGreatDoor
open Go
open Go.RowKit
set_option linter.unusedVariables false
set_option linter.unusedSimpArgs false
set_option maxRecDepth 1000000

noncomputable section
end
end Go.Proofs.YtgobcnheemocnaaGreatDoor
end
section
namespace Go.Proofs.YtgobcnheemocnaaGreatDoor
open Go
open Go.RowKit
set_option linter.unusedVariables false
set_option linter.unusedSimpArgs false
set_option maxRecDepth 1000000

theorem lies_cell {ρ : Rho} {H : AH} {w : World} (h : HOK ρ H w) {id : Nat} {b : Blk} (hb : H.get id = some b) {i : Nat} {x : AC} (hx : b.cells[i]? = some x) : ∃ u, w.cell? ⟨ρ.blk id, ρ.base id + i, none⟩ = some u ∧ x.den ρ H.next u := by
  obtain ⟨cs, fz, hl⟩ := h.row id b hb
  exact hl.cell hx
theorem lies_thaw {ρ : Rho} {H : AH} {w : World} (h : HOK ρ H w) {id : Nat} {b : Blk} (hb : H.get id = some b) (i : Nat) (hi : i < b.cells.length) : w.frozen? ⟨ρ.blk id, ρ.base id + i, none⟩ = false := by
  obtain ⟨cs, fz, hl⟩ := h.row id b hb
  have h1 := hl.heap
  have h2 := hl.thaw
  have h3 := hl.room
  obtain ⟨lo, hi'⟩ := fz
  simp only at h2
  simp only [World.frozen?, h1]
  rw [Bool.and_eq_false_iff]
  simp only [decide_eq_false_iff_not]
  omega
/-- The tree's blocks, as they are reckoned. -/
noncomputable def lookT : OSt → Option (Nat × Nat × Nat)
  | some ((i, o), H) => match H.get i with
    | some ⟨[.sl r 0 2 cp _ _], _, true⟩ => match H.get r with
      | some ⟨_ :: .lit (.int .i64 0) :: .sl q 0 1 cq _ _ :: _ :: .lit (.int .i64 0) :: .lit (.slice none 0 0) :: _, _, _⟩ => match H.get q with
        | some ⟨.lit (.int .i64 1) :: _, _, _⟩ => bif Nat.beq o 0 && !(Nat.beq i r) && !(Nat.beq q r) then some (i, r, q) else none
        | _ => none
      | _ => none
    | _ => none
  | none => none
theorem tree_atG {st : OSt} (hs : (lookT st).isSome = true) {w : World} {rp : Value} {S : Nat → Prop} (h : ObS st w rp S) : ∃ tb rb ro kb ko, rp = .pointer (some ⟨tb, 0, none⟩) ∧ TrAt w tb rb ro kb ko 0 0 ∧ S tb ∧ S rb ∧ S kb := by
  obtain ⟨i, o, H, ρ, hst, hH, hi, rfl, hS⟩ := h
  obtain ⟨⟨a, r, q⟩, hl⟩ := Option.isSome_iff_exists.1 hs
  rw [hst] at hl
  unfold lookT at hl
  simp only at hl
  split at hl
  · rename_i r0 cp es ex el hb
    split at hl
    · rename_i x0 q0 cq es2 ex2 x3 rest el2 wh2 hb2
      split at hl
      · rename_i rest3 el3 wh3 hb3
        rcases hc : (Nat.beq o 0 && !(Nat.beq i r0) && !(Nat.beq q0 r0)) with _ | _
        · rw [hc] at hl; simp at hl
        simp only [Bool.and_eq_true, Bool.not_eq_true', Nat.beq_eq] at hc
        obtain ⟨⟨rfl, h1⟩, h2⟩ := hc
        have n1 : ¬ i = r0 := fun e => by rw [e] at h1; simp at h1
        have n2 : ¬ q0 = r0 := fun e => by rw [e] at h2; simp at h2
        have m1 : ρ.blk i ≠ ρ.blk r0 := fun e => n1 (hH.inj _ _ _ _ hb hb2 e)
        have m2 : ρ.blk q0 ≠ ρ.blk r0 := fun e => n2 (hH.inj _ _ _ _ hb3 hb2 e)
        have b0 : ρ.base i = 0 := by
          obtain ⟨cs, fz, hlz⟩ := hH.row i _ hb
          exact (hlz.whole rfl).1
        obtain ⟨u, hu, _, hcp, o', c, rfl, ho, hx, hy⟩ := lies_cell hH hb (i := 0) (x := .sl r0 0 2 cp es ex) rfl
        obtain ⟨u2, hu2, _, hcq, o2, c2, rfl, ho2, hx2, hy2⟩ := lies_cell hH hb2 (i := 2) (x := .sl q0 0 1 cq es2 ex2) rfl
        obtain ⟨u3, hu3, hd3⟩ := lies_cell hH hb2 (i := 1) (x := .lit (.int .i64 0)) rfl
        obtain ⟨u4, hu4, hd4⟩ := lies_cell hH hb2 (i := 4) (x := .lit (.int .i64 0)) rfl
        obtain ⟨u5, hu5, hd5⟩ := lies_cell hH hb2 (i := 5) (x := .lit (.slice none 0 0)) rfl
        obtain ⟨u6, hu6, hd6⟩ := lies_cell hH hb3 (i := 0) (x := .lit (.int .i64 1)) rfl
        obtain rfl := hd3.1
        obtain rfl := hd4.1
        obtain rfl := hd5.1
        obtain rfl := hd6.1
        have g1 : cp ≤ c := by cases ex with
          | true => rw [hx rfl]; exact Nat.le_refl _
          | false => exact (hy rfl).1
        have g2 : cq ≤ c2 := by cases ex2 with
          | true => rw [hx2 rfl]; exact Nat.le_refl _
          | false => exact (hy2 rfl).1
        have e1 : o' = ρ.base r0 := ho (by omega)
        have e2 : o2 = ρ.base q0 := ho2 (by omega)
        rw [b0] at hu
        rw [e1] at hu
        rw [e2] at hu2
        refine ⟨ρ.blk i, ρ.blk r0, ρ.base r0, ρ.blk q0, ρ.base q0, by rw [b0], ⟨⟨c, by omega, hu⟩, ⟨c2, by omega, hu2⟩, hu5, hu6, hu3, hu4, fun o ho => ?_, m1, m2⟩, hS _ _ hb, hS _ _ hb2, hS _ _ hb3⟩
        rcases ho with rfl | rfl
        · exact lies_thaw hH hb2 1 (by simp)
        · exact lies_thaw hH hb2 4 (by simp)
      · simp at hl
    · simp at hl
  · simp at hl
end Go.Proofs.YtgobcnheemocnaaGreatDoor
end
section
namespace Go.Proofs.YtgobcnheemocnaaGreatDoor
open Go
open Go.RowKit
set_option linter.unusedVariables false
set_option linter.unusedSimpArgs false
set_option maxRecDepth 1000000

/-- The job of 'plain("a", 1)'. -/
def jobA : List Value := [.slice none 0 0, .slice none 0 0, .int .i64 (-1), .int .i64 0, .int .i64 100, .string ⟨#[97]⟩, .int .i64 0, .int .i64 (-1), .int .i64 0, .int .i64 0, .int .i64 0, .int .i64 (-1), .int .i64 1, .int .i64 8, .int .i64 0, .int .i64 1, .int .i64 1]
noncomputable section
def mkT (P : Program) (f : FuncId) (vs : List Value) : OSt := match litArgs vs with
  | some xs => match callA P 3000 f xs AH.empty with
    | some (.ret (.tup [.c (.ptr i o), .c (.lit (.int .i64 0))]), H) => some ((i, o), H)
    | _ => none
  | none => none
def pl0 : OSt := mkT Tryz.prog 13 [.agg jobA.toArray]
/-- The object that a root's cell points to. -/
def subO (k : Nat) : OSt → OSt
  | some ((i, _), H) => match H.get i with
    | some b => match b.cells[k]? with
      | some (.ptr j o) => some ((j, o), H)
      | _ => none
    | none => none
  | none => none
/-- A root's first cells, as values. -/
def litsO (n : Nat) : OSt → Option (List Value)
  | some ((i, 0), H) => match H.get i with
    | some ⟨cs, _, true⟩ => valAll (cs.take n)
    | _ => none
  | _ => none
def lit1 (k : Nat) : OSt → Option Value
  | some ((i, 0), H) => match H.get i with
    | some ⟨cs, _, true⟩ => match cs[k]? with
      | some (.lit v) => some v
      | _ => none
    | _ => none
  | _ => none
end
theorem pl_job : litsO 17 pl0 = some jobA := by kernel_rfl
theorem pl_slips : lit1 23 pl0 = some (.int .i64 0) := by kernel_rfl
theorem pl_holders : lit1 24 pl0 = some (.slice none 0 0) := by kernel_rfl
theorem pl_loom : litsO 2 (subO 19 pl0) = some [.slice none 0 0, .slice none 0 0] := by kernel_rfl
theorem valAll_at : ∀ {xs : List AC} {vs : List Value}, valAll xs = some vs → ∀ (k : Nat) (v : Value), vs[k]? = some v → ∃ x : AC, xs[k]? = some x ∧ x.val? = some v
  | [], vs, h, k, v, hk => by simp [valAll] at h; subst h; simp at hk
  | x :: l, vs, h, k, v, hk => by
    unfold valAll at h
    split at h
    · rename_i a ha
      simp only [Option.map_eq_some_iff] at h
      obtain ⟨r, hr, rfl⟩ := h
      cases k with
      | zero => exact ⟨x, rfl, by rw [ha]; simpa using hk⟩
      | succ k => exact valAll_at hr k v (by simpa using hk)
    · cases h
theorem valAll_len : ∀ {xs : List AC} {vs : List Value}, valAll xs = some vs → vs.length = xs.length
  | [], vs, h => by simp [valAll] at h; subst h; rfl
  | x :: l, vs, h => by
    unfold valAll at h
    split at h
    · simp only [Option.map_eq_some_iff] at h
      obtain ⟨r, hr, rfl⟩ := h
      simp [valAll_len hr]
    · cases h
theorem ObS.lits {st : OSt} {w : World} {rp : Value} {S : Nat → Prop} {n : Nat} {vs : List Value} (h : ObS st w rp S) (hl : litsO n st = some vs) :
    ∃ b, rp = .pointer (some ⟨b, 0, none⟩) ∧ S b ∧ (∀ (k : Nat) (v : Value), vs[k]? = some v → w.cell? ⟨b, k, none⟩ = some v) ∧ ∀ k, k < vs.length → w.frozen? ⟨b, k, none⟩ = false := by
  obtain ⟨i, o, H, ρ, rfl, hH, hi, rfl, hS⟩ := h
  unfold litsO at hl
  split at hl
  · rename_i i' H' he
    obtain ⟨⟨rfl, rfl⟩, rfl⟩ : (i = i' ∧ o = 0) ∧ H = H' := by simpa using he
    split at hl
    · rename_i cs el hb
      have b0 : ρ.base i = 0 := by
        obtain ⟨cs, fz, hlz⟩ := hH.row i _ hb
        exact (hlz.whole rfl).1
      refine ⟨ρ.blk i, by rw [b0], hS _ _ hb, fun k v hk => ?_, fun k hk => ?_⟩
      · obtain ⟨x, hx, hv⟩ := valAll_at hl k v hk
        have hx2 : cs[k]? = some x := by
          rw [List.getElem?_take] at hx
          split at hx
          · exact hx
          · cases hx
        obtain ⟨u, hu, hd⟩ := lies_cell hH hb (i := k) (x := x) hx2
        rw [b0, Nat.zero_add] at hu
        rw [hu, AC.val_den hv hd]
      · have := valAll_len hl
        have := lies_thaw hH hb k (by simp at this ⊢; omega)
        rwa [b0, Nat.zero_add] at this
    · cases hl
  · cases hl
theorem ObS.lit1 {st : OSt} {w : World} {b : Nat} {S : Nat → Prop} {k : Nat} {v : Value} (h : ObS st w (.pointer (some ⟨b, 0, none⟩)) S) (hl : lit1 k st = some v) : w.cell? ⟨b, k, none⟩ = some v ∧ w.frozen? ⟨b, k, none⟩ = false := by
  obtain ⟨i, o, H, ρ, rfl, hH, hi, hp, hS⟩ := h
  unfold Go.Proofs.YtgobcnheemocnaaGreatDoor.lit1 at hl
  split at hl
  · rename_i i' H' he
    obtain ⟨⟨rfl, rfl⟩, rfl⟩ : (i = i' ∧ o = 0) ∧ H = H' := by simpa using he
    split at hl
    · rename_i cs el hb
      split at hl
      · rename_i u hu
        obtain rfl := Option.some.inj hl
        have b0 : ρ.base i = 0 := by
          obtain ⟨cs, fz, hlz⟩ := hH.row i _ hb
          exact (hlz.whole rfl).1
        obtain rfl : b = ρ.blk i := by simpa [b0] using hp
        obtain ⟨y, hy, hd⟩ := lies_cell hH hb (i := k) (x := .lit u) hu
        have h2 := lies_thaw hH hb k (by have := (List.getElem?_eq_some_iff.1 hu).1; simpa using this)
        rw [b0, Nat.zero_add] at hy h2
        exact ⟨by rw [hy, hd.1], h2⟩
      · cases hl
    · cases hl
  · cases hl
theorem ObS.sub {st : OSt} {w : World} {b : Nat} {S : Nat → Prop} {k : Nat} {n : Nat} {vs : List Value} (h : ObS st w (.pointer (some ⟨b, 0, none⟩)) S) (hl : litsO n st = some vs) (hs : (subO k st).isSome = true) :
    ∃ rp, w.cell? ⟨b, k, none⟩ = some rp ∧ ObS (subO k st) w rp S := by
  obtain ⟨b', hb', _⟩ := h.lits hl
  obtain ⟨i, o, H, ρ, rfl, hH, hi, hp, hS⟩ := h
  unfold litsO at hl
  split at hl
  · rename_i i' H' he
    obtain ⟨⟨rfl, rfl⟩, rfl⟩ : (i = i' ∧ o = 0) ∧ H = H' := by simpa using he
    split at hl
    · rename_i cs el hb
      have b0 : ρ.base i = 0 := by
        obtain ⟨cs, fz, hlz⟩ := hH.row i _ hb
        exact (hlz.whole rfl).1
      obtain rfl : b = ρ.blk i := by simpa [b0] using hp
      unfold subO at hs ⊢
      simp only [hb] at hs ⊢
      split at hs
      · rename_i j o2 hj
        obtain ⟨u, hu, hlt, hd⟩ := lies_cell hH hb (i := k) (x := .ptr j o2) hj
        rw [b0, Nat.zero_add] at hu
        exact ⟨u, hu, ⟨j, o2, H, ρ, rfl, hH, hlt, hd, hS⟩⟩
      · cases hs
    · cases hl
  · cases hl
end Go.Proofs.YtgobcnheemocnaaGreatDoor
end
section
namespace Go.Proofs.YtgobcnheemocnaaGreatDoor
open Go.RowKit
set_option linter.unusedVariables false
set_option linter.unusedSimpArgs false
set_option maxRecDepth 100000

/-- The plant, as the tasks see it: never stopped, no slips; its job. -/
structure PlF (w : World) (pb : Nat) (S : Nat → Prop) : Prop where
  jb : ∀ (k : Nat) (v : Value), jobA[k]? = some v → w.cell? ⟨pb, k, none⟩ = some v
  tr : ∃ tb rb ro kb ko, w.cell? ⟨pb, 21, none⟩ = some (.pointer (some ⟨tb, 0, none⟩)) ∧ TrAt w tb rb ro kb ko 0 0 ∧ S tb ∧ S rb ∧ S kb
  sl : w.cell? ⟨pb, 23, none⟩ = some (.int .i64 0)
  sb : S pb
theorem PlF.keeps {S T : Nat → Prop} {w w' : World} {pb : Nat} (h : PlF w pb S) (K : Keeps T w w') (hs : ∀ b, S b → ¬ T b) : PlF w' pb S := by
  obtain ⟨tb, rb, ro, kb, ko, h1, h2, s1, s2, s3⟩ := h.tr
  exact ⟨fun k v hk => K.cell (h.jb k v hk) (hs _ h.sb), ⟨tb, rb, ro, kb, ko, K.cell h1 (hs _ h.sb), h2.keeps K (hs _ s1) (hs _ s2) (hs _ s3), s1, s2, s3⟩, K.cell h.sl (hs _ h.sb), h.sb⟩
theorem PlF.mono {S T : Nat → Prop} {w : World} {pb : Nat} (h : PlF w pb S) (hs : ∀ b, S b → T b) : PlF w pb T := by
  obtain ⟨tb, rb, ro, kb, ko, h1, h2, s1, s2, s3⟩ := h.tr
  exact ⟨h.jb, ⟨tb, rb, ro, kb, ko, h1, h2, hs _ s1, hs _ s2, hs _ s3⟩, h.sl, hs _ h.sb⟩
theorem fstopped_any (pb : Nat) (S : Nat → Prop) (w : World) (h : PlF w pb S) :
    Calls Tryz.prog 210 #[.pointer (some ⟨pb, 0, none⟩)] w fun e w' => e = .returned (.bool false) ∧ w' = w := by
  obtain ⟨tb, rb, ro, kb, ko, hp, ht, _⟩ := h.tr
  have HC := Lib.hid (cause_0 tb rb ro kb ko 0 0 w ht)
  clear h ht
  go_enter Tryz.func210, Tryz.ntmps210
  go_wp2_with fail
  refine HC.out.mono ?_
  rintro e w' ⟨rfl, rfl⟩
  go_wp2_with fail
  go_ret
  exact ⟨rfl, rfl⟩
theorem fslip_any (pb : Nat) (w : World) :
    Calls Tryz.prog 213 #[.pointer (some ⟨pb, 0, none⟩), .int .i64 0] w fun x w' => x = .returned (.tuple #[]) ∧ w' = w := by
  go_enter Tryz.func213, Tryz.ntmps213
  go_wp2_with fail
  go_end0
  exact ⟨rfl, rfl⟩
theorem fslips_any (pb : Nat) (S : Nat → Prop) (w : World) (h : PlF w pb S) :
    Calls Tryz.prog 21 #[.pointer (some ⟨pb, 0, none⟩)] w fun x w' => x = .returned (.int .i64 0) ∧ w' = w := by
  have hs := h.sl
  clear h
  go_enter Tryz.func21, Tryz.ntmps21
  go_wp2_with fail
  go_ret
  exact ⟨rfl, rfl⟩
/-- A worker's cells. -/
def wkC (pb ob fb : Nat) (nm : ByteArray) (who : Int) (ov : Bool) (st : Int) (x : Itm) : Array Value := #[.pointer (some ⟨pb, 0, none⟩), .string nm, .int .i64 who, .pointer (some ⟨ob, 0, none⟩), .bool ov, .pointer (some ⟨fb, 0, none⟩), .int .i64 st, .int .i64 x.n, .int .i64 x.bf, .int .i64 x.rn, .int .i64 x.ra, .string x.s, .slice x.ha x.hn x.hc, .int .i64 x.e]
def WkAt (w : World) (wb pb ob fb : Nat) (nm : ByteArray) (who : Int) (ov : Bool) (st : Int) (x : Itm) : Prop := w.heap[wb]? = some (.cells (wkC pb ob fb nm who ov st x) 106 (0, 0))
/-- A farm's cells. -/
def fmC (pb xb ab : Nat) (al : Value) (op mo lo le : Int) : Array Value := #[.pointer (some ⟨pb, 0, none⟩), .pointer (some ⟨xb, 0, none⟩), .pointer (some ⟨ab, 0, none⟩), al, .int .i64 op, .int .i64 mo, .int .i64 lo, .int .i64 le]
def FmAt (w : World) (fb pb xb ab : Nat) (al : Value) (op mo lo le : Int) : Prop := w.heap[fb]? = some (.cells (fmC pb xb ab al op mo lo le) 76 (0, 0))
section
variable {w : World} {wb pb ob fb xb ab : Nat} {nm : ByteArray} {who : Int} {ov : Bool} {st : Int} {x : Itm} {al : Value} {op mo lo le : Int}
theorem WkAt.c (h : WkAt w wb pb ob fb nm who ov st x) : w.cell? ⟨wb, 0, none⟩ = some (.pointer (some ⟨pb, 0, none⟩)) ∧ w.cell? ⟨wb, 2, none⟩ = some (.int .i64 who) ∧ w.cell? ⟨wb, 3, none⟩ = some (.pointer (some ⟨ob, 0, none⟩)) ∧ w.cell? ⟨wb, 4, none⟩ = some (.bool ov) ∧ w.cell? ⟨wb, 5, none⟩ = some (.pointer (some ⟨fb, 0, none⟩)) ∧ w.cell? ⟨wb, 6, none⟩ = some (.int .i64 st) ∧ ∀ o, w.frozen? ⟨wb, o, none⟩ = false := by
  refine ⟨?_, ?_, ?_, ?_, ?_, ?_, fun o => frozen_block h o none⟩ <;> (rw [cell_block h]; rfl)
theorem FmAt.c (h : FmAt w fb pb xb ab al op mo lo le) : w.cell? ⟨fb, 0, none⟩ = some (.pointer (some ⟨pb, 0, none⟩)) ∧ w.cell? ⟨fb, 1, none⟩ = some (.pointer (some ⟨xb, 0, none⟩)) ∧ w.cell? ⟨fb, 2, none⟩ = some (.pointer (some ⟨ab, 0, none⟩)) ∧ w.cell? ⟨fb, 4, none⟩ = some (.int .i64 op) ∧ w.cell? ⟨fb, 5, none⟩ = some (.int .i64 mo) ∧ w.cell? ⟨fb, 6, none⟩ = some (.int .i64 lo) ∧ w.cell? ⟨fb, 7, none⟩ = some (.int .i64 le) ∧ ∀ o, w.frozen? ⟨fb, o, none⟩ = false := by
  refine ⟨?_, ?_, ?_, ?_, ?_, ?_, ?_, fun o => frozen_block h o none⟩ <;> (rw [cell_block h]; rfl)
theorem sover_any (h : WkAt w wb pb ob fb nm who ov st x) : Calls Tryz.prog 224 #[.pointer (some ⟨wb, 0, none⟩)] w fun e w' => e = .returned (.bool ov) ∧ Keeps (fun _ => False) w w' := by
  obtain ⟨_, _, _, c4, _⟩ := h.c
  clear h
  go_enter Tryz.func224, Tryz.ntmps224
  go_wp2_with fail
  go_ret
  exact ⟨rfl, Keeps.refl _ _⟩
theorem sname_any (h : WkAt w wb pb ob fb nm who ov st x) : Calls Tryz.prog 223 #[.pointer (some ⟨wb, 0, none⟩)] w fun e w' => e = .returned (.string nm) ∧ Keeps (fun _ => False) w w' := by
  have c1 : w.cell? ⟨wb, 1, none⟩ = some (.string nm) := by rw [cell_block h]; rfl
  clear h
  go_enter Tryz.func223, Tryz.ntmps223
  go_wp2_with fail
  go_ret
  exact ⟨rfl, Keeps.refl _ _⟩
theorem sleave_any (h : WkAt w wb pb ob fb nm who ov st x) : Calls Tryz.prog 237 #[.pointer (some ⟨wb, 0, none⟩)] w fun e w' => e = .returned (.tuple #[]) ∧ WkAt w' wb pb ob fb nm who true st x ∧ Keeps (fun k => k = wb) w w' := by
  obtain ⟨_, _, _, c4, _, _, cf⟩ := h.c
  have f4 := cf 4
  have H := Lib.hid (show WkAt (w.setCell ⟨wb, 4, none⟩ (.bool true)) wb pb ob fb nm who true st x from cellQ_set 4 (.bool true) h)
  clear h cf
  go_enter Tryz.func237, Tryz.ntmps237
  go_wp2_with fail
  go_end0
  exact ⟨rfl, H.out, setQ _ _ _ _⟩
theorem swaits_any (q : Bool) (h : WkAt w wb pb ob fb nm who ov st x) (HW : ∀ W, Keeps (fun _ => False) w W → Calls Tryz.prog 211 #[.pointer (some ⟨ob, 0, none⟩), .int .i64 who] W fun e w' => e = .returned (.bool q) ∧ Keeps (fun _ => False) W w') :
    Calls Tryz.prog 227 #[.pointer (some ⟨wb, 0, none⟩)] w fun e w' => e = .returned (.bool q) ∧ Keeps (fun _ => False) w w' := by
  obtain ⟨_, c2, c3, _⟩ := h.c
  have HC := Lib.hid (HW w.drew (Keeps.refl _ _).drew)
  clear h HW
  go_enter Tryz.func227, Tryz.ntmps227
  go_upto_region 1 with fail
  go_still_tail 8, (by kernel_rfl)
  change wpList _ _ _ _ _ w.drew
  go_wp2_with fail
  refine HC.out.mono ?_
  rintro e w' ⟨rfl, k⟩
  go_wp2_with fail
  go_ret
  exact ⟨rfl, (Keeps.refl _ _).drew.trans k⟩
theorem swithdraw_any (h : WkAt w wb pb ob fb nm who ov st x) (HW : ∀ W, Keeps (fun _ => False) w W → Calls Tryz.prog 212 #[.pointer (some ⟨ob, 0, none⟩), .int .i64 who] W fun e w' => e = .returned (.bool false) ∧ Keeps (fun _ => False) W w') :
    Calls Tryz.prog 236 #[.pointer (some ⟨wb, 0, none⟩)] w fun e w' => e = .returned (.tuple #[]) ∧ Keeps (fun _ => False) w w' := by
  obtain ⟨_, c2, c3, _⟩ := h.c
  have HC := Lib.hid (HW w.drew (Keeps.refl _ _).drew)
  clear h HW
  go_enter Tryz.func236, Tryz.ntmps236
  go_upto_region 0 with fail
  go_still_tail 8, (by kernel_rfl)
  change wpList _ _ _ _ _ w.drew
  go_wp2_with fail
  refine HC.out.mono ?_
  rintro e w' ⟨rfl, k⟩
  go_wp2_with fail
  go_end0
  exact ⟨rfl, (Keeps.refl _ _).drew.trans k⟩
end
end Go.Proofs.YtgobcnheemocnaaGreatDoor
end
section
namespace Go.Proofs.YtgobcnheemocnaaGreatDoor
open Go.RowKit
set_option linter.unusedVariables false
set_option linter.unusedSimpArgs false
set_option maxRecDepth 100000

def itL (L : List Itm) : List Value := L.flatMap fun x => (itC x).toList
theorem itL_len (L : List Itm) : (itL L).length = L.length * 7 := by
  induction L with
  | nil => rfl
  | cons x L ih => simp only [itL, List.flatMap_cons, List.length_append, List.length_cons] at ih ⊢; rw [ih]; simp [itC]; omega
theorem itL_add (L : List Itm) (x : Itm) : itL (L ++ [x]) = itL L ++ (itC x).toList := by simp [itL]
/-- What was taken: a row, its block among S. -/
def GotAt (w : World) (S : Nat → Prop) (v : Value) (L : List Itm) : Prop := w.ownsRow 0 56 7 v L.length (itL L) ∧ ∀ g, v.ownBlock = some g → S g
theorem GotAt.keeps {S T : Nat → Prop} {w w' : World} {v : Value} {L : List Itm} (h : GotAt w S v L) (K : Keeps T w w') (hs : ∀ b, S b → ¬ T b) : GotAt w' S v L := by
  obtain ⟨h1, h2⟩ := h
  refine ⟨⟨h1.1, ?_⟩, h2⟩
  rcases h1.2 with h0 | ⟨g, cap, cur, rfl, hg, hh, hr⟩
  · exact Or.inl h0
  · exact Or.inr ⟨g, cap, cur, rfl, hg, K.heap hh (hs _ (h2 g rfl)), hr⟩
theorem GotAt.mono {S T : Nat → Prop} {w : World} {v : Value} {L : List Itm} (h : GotAt w S v L) (hs : ∀ b, S b → T b) : GotAt w T v L := ⟨h.1, fun g hg => hs g (h.2 g hg)⟩
theorem GotAt.off {w : World} {S : Nat → Prop} {v : Value} {L : List Itm} (h : GotAt w S v L) {b : Nat} {cs : Array Value} (hb : w.heap[b]? = some (.cells cs 50 (0, 0))) : v.ownBlock ≠ some b := by
  intro e
  rcases h.1.2 with ⟨e0, _⟩ | ⟨g, cap, cur, rfl, hg, hh, hr⟩
  · rw [e0] at e; cases e
  · obtain rfl : g = b := Option.some.inj e
    rw [hb] at hh
    simp at hh
theorem GotAt.set {w : World} {S : Nat → Prop} {v : Value} {L : List Itm} (h : GotAt w S v L) {b : Nat} {cs : Array Value} (hb : w.heap[b]? = some (.cells cs 50 (0, 0))) (i : Nat) (u : Value) : GotAt (w.setCell ⟨b, i, none⟩ u) S v L := by
  have ho := h.off hb
  have h2 : GotAt w (fun k => v.ownBlock = some k) v L := ⟨h.1, fun _ => id⟩
  have := h2.keeps (setQ w b i u) (fun k hk e => ho (by rw [hk, e]))
  exact ⟨this.1, h.2⟩
theorem info_itG : (Tryz.prog.info? 56).map (fun i => (i.zero, i.size, i.bytes)) = some (some (itV itZ), 7, 80) := by kernel_rfl
theorem it_oneL (x : Itm) : ∀ u ∈ (itC x).toList, u.oneCell' = true := by intro u hu; simp [itC] at hu; rcases hu with rfl | rfl | rfl | rfl | rfl | rfl | rfl <;> rfl
theorem run_got (w : World) (S : Nat → Prop) (v : Value) (L : List Itm) (x : Itm) (ty : TypeId) (hv : GotAt w S v L) (hL : L.length ≤ 1000) (A : Nat) (hn : ∀ (j : Nat) (u : Value), (itC x).toList[j]? = some u → w.cell? ((⟨A, 0, none⟩ : Addr).add j) = some u) :
    ∃ v' w', (Builtin.append_ #[30, 30] ty #[v, .slice (some ⟨A, 0, none⟩) 1 1]).run Tryz.prog w = .ok v' w' ∧ GotAt w' (GrP S w w') v' (L ++ [x]) ∧ Keeps (fun k => v.ownBlock = some k) w w' := by
  obtain ⟨i0, hi, hz0, hz1, hz2⟩ := info_parts info_itG
  have hlen : (itC x).toList.length = 1 * 7 := rfl
  have e1 : (L ++ [x]).length = L.length + 1 := by simp
  obtain ⟨v', w', hr, h2, h3, _⟩ := run_append_own (P := Tryz.prog) w 0 30 ty 56 i0 _ 7 80 Tryz.underlying30 hi hz0 hz1 hz2 rfl (by decide) v L.length (itL L) hv.1 ⟨A, 0, none⟩ 1 1 (itC x).toList hlen hn (it_oneL x) (by unfold maxLen; omega) (by omega) (Nat.zero_le _)
  refine ⟨v', w', hr, ⟨by rw [e1, itL_add]; exact h2, fun b hb => ?_⟩, (Keeps.refl _ _).grown h3 fun k hk => Or.inl hk⟩
  have hlt : b < w'.heap.size := by
    rcases h2.2 with ⟨e, _⟩ | ⟨g, cap, cur, rfl, _, hg, _⟩
    · rw [e] at hb; cases hb
    · obtain rfl : g = b := Option.some.inj hb
      exact (Array.getElem?_eq_some_iff.1 hg).1
  rcases hv.1.2 with ⟨e, h0⟩ | ⟨g, cap, cur, e, hbg, hg, hnc, hcm, hcs, htake⟩
  · subst e
    have hown0 := hv.1
    rw [h0] at hown0
    have hown : w.ownsRow w.heap.size 56 7 (.slice none 0 0) 0 (itL L) := ⟨hown0.1, Or.inl ⟨rfl, rfl⟩⟩
    obtain ⟨v2, w2, hr2, h5, _, _⟩ := run_append_own (P := Tryz.prog) w w.heap.size 30 ty 56 i0 _ 7 80 Tryz.underlying30 hi hz0 hz1 hz2 rfl (by decide) (.slice none 0 0) 0 (itL L) hown ⟨A, 0, none⟩ 1 1 (itC x).toList hlen hn (it_oneL x) (by unfold maxLen; omega) (by omega) (Nat.le_refl _)
    rw [hr] at hr2
    cases hr2
    exact Or.inr ⟨ownBlock_base h5 b hb, hlt⟩
  · subst e
    by_cases hroom : L.length + 1 ≤ cap
    · have hfit : L.length * i0.size + (itC x).toList.length ≤ cur.size := by rw [hlen, hcs, hz1, ← Nat.add_mul]; exact Nat.mul_le_mul_right _ hroom
      have hr2 := run_append_room (P := Tryz.prog) w 30 ty 56 i0 Tryz.underlying30 hi g L.length cap cur hg ⟨A, 0, none⟩ 1 1 (itC x).toList (by rw [hz1]; rfl) hn (it_oneL x) hroom hfit
      rw [hr] at hr2
      cases hr2
      exact Or.inl (hv.2 b hb)
    · have hsmall : L.length + 1 ≤ 9223372036854775807 := by omega
      have hr2 := run_append_grow (P := Tryz.prog) w 30 ty 56 i0 _ Tryz.underlying30 hi hz0 ⟨g, 0, none⟩ L.length cap (itL L) (by rw [hz1]; exact itL_len L) (hv.1.cells (g := g) rfl) ⟨A, 0, none⟩ 1 1 (itC x).toList (by rw [hz1]; rfl) hn (by omega) (by omega) (by rw [hz2]; exact growslice_fits (by omega) (by omega))
      rw [hr] at hr2
      cases hr2
      have : w.heap.size = b := by simpa [Value.ownBlock] using hb
      exact Or.inr ⟨by omega, hlt⟩
theorem step_got {w : World} {ops : Array Oper} {o : Oper} {a : Act} {K : Act → World → Prop} {Q : Exit → Act → World → Prop} {E : Prop} (hgd : o.guard = none) (s y : Operand)
    (ho : o.op = .call { callee := .builtin .append, args := #[s, y], argTypes := #[30, 30] }) (S : Nat → Prop) (v : Value) (L : List Itm) (x : Itm) (A : Nat) (hs : a.eval s = v) (hx : a.eval y = .slice (some ⟨A, 0, none⟩) 1 1)
    (hv : GotAt w S v L) (hL : L.length ≤ 1000) (hn : ∀ (j : Nat) (u : Value), (itC x).toList[j]? = some u → w.cell? ((⟨A, 0, none⟩ : Addr).add j) = some u)
    (h : ∀ v' w', GotAt w' (GrP S w w') v' (L ++ [x]) → Keeps (fun k => v.ownBlock = some k) w w' → K (a.put o.dst v') w') :
    if Region.wanted o (yielded ops a.tmps) = true then Oper.wp Tryz.prog o a w K Q else E := by
  rw [if_pos (by simp [Region.wanted, hgd])]
  obtain ⟨v', w', hr, h1, h2⟩ := run_got w S v L x o.type hv hL A hn
  unfold Oper.wp
  simp [execOp, ho, resolve, invoke, builtin, hs, hx, hr, Result.andThen]
  exact h v' w' h1 h2
/-- The taker. -/
structure TkAt (w : World) (tb bb : Nat) (S : Nat → Prop) (L : List Itm) (ov : Bool) : Prop where
  hd : ∃ v, w.heap[tb]? = some (.cells #[.pointer (some ⟨bb, 0, none⟩), v, .bool ov] 50 (0, 0)) ∧ GotAt w S v L
  sb : S tb
theorem TkAt.keeps {S T : Nat → Prop} {w w' : World} {tb bb : Nat} {L : List Itm} {ov : Bool} (h : TkAt w tb bb S L ov) (K : Keeps T w w') (hs : ∀ b, S b → ¬ T b) : TkAt w' tb bb S L ov := by
  obtain ⟨v, h1, h2⟩ := h.hd
  exact ⟨⟨v, K.heap h1 (hs _ h.sb), h2.keeps K hs⟩, h.sb⟩
theorem TkAt.mono {S T : Nat → Prop} {w : World} {tb bb : Nat} {L : List Itm} {ov : Bool} (h : TkAt w tb bb S L ov) (hs : ∀ b, S b → T b) : TkAt w tb bb T L ov := by
  obtain ⟨v, h1, h2⟩ := h.hd
  exact ⟨⟨v, h1, h2.mono hs⟩, hs _ h.sb⟩
section
variable {w : World} {tb bb : Nat} {S : Nat → Prop} {L : List Itm} {ov : Bool}
theorem tover_any (h : TkAt w tb bb S L ov) : Calls Tryz.prog 200 #[.pointer (some ⟨tb, 0, none⟩)] w fun e w' => e = .returned (.bool ov) ∧ Keeps (fun _ => False) w w' := by
  obtain ⟨v, hd, _⟩ := h.hd
  have x2 : w.cell? ⟨tb, 2, none⟩ = some (.bool ov) := by rw [cell_block hd]; rfl
  clear h hd
  go_enter Tryz.func200, Tryz.ntmps200
  go_wp2_with fail
  go_ret
  exact ⟨rfl, Keeps.refl _ _⟩
theorem tname_any (w : World) : Calls Tryz.prog 199 #[.pointer (some ⟨tb, 0, none⟩)] w fun e w' => (∃ s, e = .returned (.string s)) ∧ Keeps (fun _ => False) w w' := by
  go_enter Tryz.func199, Tryz.ntmps199
  go_wp2_with fail
  go_ret
  exact ⟨⟨_, rfl⟩, Keeps.refl _ _⟩
theorem tready_any {Sb : Nat → Prop} {o : Option (Int × Itm)} {cl : Bool} {sn : Int} (h : TkAt w tb bb S L ov) (hp : PiAt w bb Sb o cl sn) : Calls Tryz.prog 201 #[.pointer (some ⟨tb, 0, none⟩)] w fun e w' => e = .returned (.bool (o.isSome || cl)) ∧ Keeps (fun _ => False) w w' := by
  obtain ⟨v, hd, _⟩ := h.hd
  have x0 : w.cell? ⟨tb, 0, none⟩ = some (.pointer (some ⟨bb, 0, none⟩)) := by rw [cell_block hd]; rfl
  have HC := Lib.hid (pready_any bb Sb o cl sn w hp)
  clear h hd hp
  go_enter Tryz.func201, Tryz.ntmps201
  go_wp2_with fail
  refine HC.out.mono ?_
  rintro e w' ⟨rfl, k⟩
  go_wp2_with fail
  go_ret
  exact ⟨rfl, k⟩
set_option maxHeartbeats 4000000 in
theorem tstep_over {Sb : Nat → Prop} {sn : Int} (h : TkAt w tb bb S L ov) (hp : PiAt w bb Sb none true sn) : Calls Tryz.prog 202 #[.pointer (some ⟨tb, 0, none⟩)] w fun e w' => e = .returned (.tuple #[]) ∧ TkAt w' tb bb S L true ∧ Keeps (fun k => k = tb) w w' := by
  obtain ⟨v, hd, hv⟩ := h.hd
  have x0 : w.cell? ⟨tb, 0, none⟩ = some (.pointer (some ⟨bb, 0, none⟩)) := by rw [cell_block hd]; rfl
  have HC := Lib.hid (take_over bb Sb sn w hp)
  have H := Lib.hid (And.intro hd (And.intro hv h.sb))
  clear h hd hp hv
  go_enter Tryz.func202, Tryz.ntmps202
  go_wp2_with fail
  refine HC.out.mono ?_
  rintro e w1 ⟨rfl, k1⟩
  obtain ⟨w2, hw2⟩ : ∃ W, w1.alloc (.cells (itC itZ) 56) = W := ⟨_, rfl⟩
  have k2 : Keeps (fun _ => False) w1 w2 := by rw [← hw2]; exact (Keeps.refl _ _).alloc _
  have r2 : w2.heap[w1.heap.size]? = some (.cells (itC itZ) 56 (0, 0)) := by rw [← hw2]; exact heap_alloc_new _ _
  have H2 := Lib.hid (And.intro r2 (k1.trans k2))
  have hw3 := hw2
  unfold itC itZ at hw3
  have HW2 := Lib.hid hw3
  have z1 := k1.size
  clear hw2 hw3 k2 r2 k1 HC
  go_wp2_with ((try rw [HW2.out]); refine wpList_store_it rfl (.tmp 2) (.tmp 10) rfl w1.heap.size rfl itZ itZ rfl (by exact H2.out.1) ?_)
  intro w3 r3 k3
  have k03 : Keeps (fun _ => False) w w3 := H2.out.2.trans2 k3 (fun i hi e => by have e : i = w1.heap.size := e; omega)
  have hd3 := k03.heap H.out.1 id
  have f2 : w3.frozen? ⟨tb, 2, none⟩ = false := frozen_block hd3 2 none
  have x2 : w3.cell? ⟨tb, 2, none⟩ = some (.bool ov) := by rw [cell_block hd3]; rfl
  have HF := Lib.hid (show TkAt (w3.setCell ⟨tb, 2, none⟩ (.bool true)) tb bb S L true ∧ Keeps (fun k => k = tb) w (w3.setCell ⟨tb, 2, none⟩ (.bool true)) from by
    exact ⟨⟨⟨v, cellQ_set 2 (.bool true) hd3, (H.out.2.1.keeps k03 (fun _ _ => id)).set hd3 2 (.bool true)⟩, H.out.2.2⟩, (k03.mono fun _ _ e => e.elim).trans (setQ _ _ _ _)⟩)
  clear r3 k3 k03 hd3 H H2 HW2
  go_wp2_with fail
  (try simp only [Exit.inBlock, Exit.then]); refine bodyPost_ret (results_none rfl _ _ _) rfl ?_
  exact ⟨rfl, HF.out.1, HF.out.2⟩
set_option maxHeartbeats 4000000 in
theorem tstep_some {Sb : Nat → Prop} {q : Int} {x : Itm} {cl : Bool} {sn : Int} (h : TkAt w tb bb S L ov) (hp : PiAt w bb Sb (some (q, x)) cl sn) (hs : ∀ b, Sb b → ¬ S b) (hL : L.length ≤ 1000) : Calls Tryz.prog 202 #[.pointer (some ⟨tb, 0, none⟩)] w fun e w' => e = .returned (.tuple #[]) ∧ TkAt w' tb bb (GrP S w w') (L ++ [x]) ov ∧ PiAt w' bb Sb none cl sn ∧ Keeps (fun k => S k ∨ Sb k) w w' := by
  obtain ⟨v, hd, hv⟩ := h.hd
  have x0 : w.cell? ⟨tb, 0, none⟩ = some (.pointer (some ⟨bb, 0, none⟩)) := by rw [cell_block hd]; rfl
  have HC := Lib.hid (take_some bb _ q x cl sn w hp.low)
  have hlt : tb < w.heap.size := (Array.getElem?_eq_some_iff.1 hd).1
  have H := Lib.hid (And.intro hd (And.intro hv (And.intro h.sb (And.intro hp.sb (And.intro hs hlt)))))
  clear h hd hp hv hs hlt
  go_enter Tryz.func202, Tryz.ntmps202
  go_wp2_with fail
  refine HC.out.mono ?_
  rintro e w1 ⟨rfl, hp1, k1⟩
  obtain ⟨w2, hw2⟩ : ∃ W, w1.alloc (.cells (itC itZ) 56) = W := ⟨_, rfl⟩
  have k2 : Keeps (fun _ => False) w1 w2 := by rw [← hw2]; exact (Keeps.refl _ _).alloc _
  have r2 : w2.heap[w1.heap.size]? = some (.cells (itC itZ) 56 (0, 0)) := by rw [← hw2]; exact heap_alloc_new _ _
  have H2 := Lib.hid (And.intro r2 (And.intro k2 (And.intro hp1 k1)))
  have hw3 := hw2
  unfold itC itZ at hw3
  have HW2 := Lib.hid hw3
  clear hw2 hw3 k2 r2 hp1 k1 HC
  go_wp2_with ((try rw [HW2.out]); refine wpList_store_it rfl (.tmp 2) (.tmp 10) rfl w1.heap.size rfl x itZ rfl (by exact H2.out.1) ?_)
  intro w3 r3 k3
  obtain ⟨r2, k2, hp1, k1⟩ := H2.out
  have z1 := k1.size
  have hn1 : tb ≠ bb := fun e => H.out.2.2.2.2.1 _ H.out.2.2.2.1 (e ▸ H.out.2.2.1)
  have k03 : Keeps (fun k => k = bb) w w3 := (k1.trans (k2.mono fun _ _ e => e.elim)).trans2 k3 (fun i hi e => by have e : i = w1.heap.size := e; omega)
  have hd3 := k03.heap H.out.1 hn1
  have hv3 := H.out.2.1.keeps k03 (fun b hb e => H.out.2.2.2.2.1 _ H.out.2.2.2.1 (e ▸ hb))
  have hp3 : PiAt w3 bb Sb none cl sn := ((hp1.keeps k2 (fun _ _ => id)).keeps k3 (fun b hb e => by have e : b = w1.heap.size := e; have := hb.2; omega)).mono (fun _ h => h.1)
  have x1 : w3.cell? ⟨tb, 1, none⟩ = some v := by rw [cell_block hd3]; rfl
  obtain ⟨i0, i1, i2, i3, i4, i5, i6⟩ := it_cells r3
  have H3 := Lib.hid (And.intro hd3 (And.intro hv3 (And.intro hp3 (And.intro k03 (show w.heap.size ≤ w3.heap.size from k03.size)))))
  obtain ⟨wA, hwA⟩ : ∃ W, w3.alloc (.cells (itC x) 56) = W := ⟨_, rfl⟩
  have kA : Keeps (fun _ => False) w3 wA := by rw [← hwA]; exact (Keeps.refl _ _).alloc _
  have HVA := Lib.hid (hv3.keeps kA (fun _ _ => id))
  have HNA : Hid (∀ (j : Nat) (u : Value), (itC x).toList[j]? = some u → wA.cell? ((⟨w3.heap.size, 0, none⟩ : Addr).add j) = some u) := Lib.hid (by rw [← hwA]; exact cells_new w3 _ _)
  have HDA := Lib.hid (And.intro (kA.heap hd3 id) kA)
  unfold itC at hwA
  have HWA := Lib.hid hwA
  clear hwA kA r3 k3 r2 k2 hp1 k1 k03 hd3 hv3 hp3 H2 HW2 x0
  have yA : ∀ o, (w3.alloc o).cell? ⟨tb, 1, none⟩ = some v := alloc_cell x1
  have HL := Lib.hid hL
  go_wp2_with fail
  go_region_law (first | ((try rw [HWA.out]); refine step_got rfl (.tmp 21) (.tmp 23) rfl S v L x w3.heap.size rfl rfl HVA.out HL.out HNA.out ?_; intro v' w6 ho hk; obtain ⟨va, vc, hv'⟩ : ∃ a c, v' = .slice a (L.length + 1) c := (by simpa using ownsRow_slice ho.1); subst hv'; have hd6 := hk.heap HDA.out.1 (HVA.out.off HDA.out.1); have c6 : w6.cell? ⟨tb, 1, none⟩ = some v := (cell_block hd6 1).trans rfl; have f6 : w6.frozen? ⟨tb, 1, none⟩ = false := frozen_block hd6 1 none))
  all_goals
    have hd7 := cellQ_set 1 (.slice va (L.length + 1) vc) hd6
    have ho7 := (ho.set hd6 1 (.slice va (L.length + 1) vc)).mono (T := GrP S w (w6.setCell ⟨tb, 1, none⟩ (.slice va (L.length + 1) vc))) (fun k hk2 => by
      rcases hk2 with h | ⟨h2, h3⟩
      · exact Or.inl h
      · have z3 := H3.out.2.2.2.2
        have z4 := HDA.out.2.size
        have z5 : wA.drew.heap.size = wA.heap.size := rfl
        exact Or.inr ⟨by omega, by simpa [World.setCell] using h3⟩)
    have K1 : Keeps S wA (w6.setCell ⟨tb, 1, none⟩ (.slice va (L.length + 1) vc)) := ((Keeps.refl S wA).drew.trans (hk.mono fun k _ e => H.out.2.1.2 k e)).trans ((setQ _ _ _ _).mono fun k _ e => by rw [e]; exact H.out.2.2.1)
    have hp7 := (H3.out.2.2.1.keeps HDA.out.2 (fun _ _ => id)).keeps K1 H.out.2.2.2.2.1
    have KF := (H3.out.2.2.2.1.mono (T := fun k => S k ∨ Sb k) fun k _ e => Or.inr (by rw [e]; exact H.out.2.2.2.1)).trans ((HDA.out.2.mono fun _ _ e => e.elim).trans (K1.mono fun _ _ e => Or.inl e))
    have HF := Lib.hid (And.intro hd7 (And.intro ho7 (And.intro hp7 KF)))
    clear hd7 ho7 K1 hp7 KF hd6 ho hk
    go_wp2_with fail
    go_end0
    exact ⟨rfl, ⟨⟨_, HF.out.1, HF.out.2.1⟩, Or.inl H.out.2.2.1⟩, HF.out.2.2.1, HF.out.2.2.2⟩
end
end Go.Proofs.YtgobcnheemocnaaGreatDoor
end
