/-
  Several texts in one: A worker's step and a taker's step keep what stands. No condition. The loom's step and Run over giver, worker, taker: whatever is picked, all get over. No condition.
-/
import Derived.Test.YtgobcnheemocnaaGreatDoorMg17
import Derived.Test.YtgobcnheemocnaaGreatDoorMg14
section
namespace Go.Proofs.YtgobcnheemocnaaGreatDoor
open Go
open Go.RowKit
set_option linter.unusedVariables false
set_option linter.unusedSimpArgs false
set_option maxRecDepth 100000

section
variable {I : Ids} {L : List Itm} {O T : Nat → Prop} {w0 w w' : World} {col : Nat → Nat} {k : Nat} {g : Gh}
set_option maxHeartbeats 2000000 in
theorem wk_step (h : FJ I L O w0 w col g) (hL : L.length ≤ 1000) (hIt : ItOk L) (HE : Answers w I.x) (hw : g.wo = false) (hr : wrdy g.st (g.pa || g.go) g.pb = true) : Calls Tryz.prog 226 #[.pointer (some ⟨I.w, 0, none⟩)] w fun e w' => e = .returned (.tuple #[]) ∧ Nx I L O w0 col g w w' := by
  obtain ⟨ok, hs, hgi, ⟨sn, s0, s1, hp⟩, ⟨x, hwk, hwx⟩, hfm, ⟨sb, y, b0, b1, hpb, hy⟩, ⟨M, htk, hM, hMn⟩⟩ := h
  obtain ⟨i, c, st, pa, pb, go, wo, tv⟩ := g
  obtain rfl : wo = false := hw
  have q1 : i ≤ L.length := ok.i
  have q2 : c + b2n pa = i := ok.c
  have q3 : go = true → i = L.length ∧ pa = false := ok.go
  have q4 : st = 0 ∧ pb = false ∨ (st = 1 ∨ st = 2) ∧ pb = false ∧ 1 ≤ c ∨ st = 3 ∧ 1 ≤ c := ok.st
  have q6 : tv = true → false = true := ok.tv
  obtain rfl : tv = false := by cases tv; rfl; exact absurd (q6 rfl) (by simp)
  have h7 := hs.c7.1
  have h8 := hs.c8.1
  have hn : I.w ≠ I.f := fun e => by rw [e] at h7; omega
  have n3 : ¬ Cl col 3 w I.w := fun e => by have := e.1; omega
  have n3' : ¬ Cl col 3 w I.f := fun e => by have := e.1; omega
  have n4 : ¬ Cl col 4 w I.w := fun e => by have := e.1; omega
  have n4' : ¬ Cl col 4 w I.f := fun e => by have := e.1; omega
  have cq : (c : Int) ≤ 1000 := by unfold b2n at q2; split at q2 <;> omega
  rcases q4 with ⟨rfl, rfl⟩ | ⟨rfl | rfl, rfl, hc⟩ | ⟨rfl, hc⟩
  · cases pa with
    | true =>
      have hcl : c < L.length := by simp [b2n] at q2; omega
      obtain ⟨z, hz⟩ : ∃ z, L[c]? = some z := ⟨_, List.getElem?_eq_getElem hcl⟩
      obtain rfl : go = false := by cases go; rfl; exact absurd (q3 rfl).2 (by simp)
      replace hp : PiAt w I.a (Cl col 3 w) (some (0, z)) false sn := by have := hp; unfold oA at this; simpa [hz] using this
      have hT : ∀ b, (b = I.w ∨ b = I.a) → col b = 7 ∨ col b = 3 := by rintro b (rfl | rfl); exact Or.inl h7; exact Or.inr hp.sb.1
      refine wstep_idle (R := fun e w' => e = .returned (.tuple #[]) ∧ Nx I L O w0 col _ w w') hwk hfm hs.pl ((wtake_some hwk hfm hp n3 n3' hn).mono ?_)
      rintro e w' ⟨rfl, hwk', hp', K⟩
      refine ⟨rfl, rfl, reC col 3 w, ⟨i, c + 1, 1, false, false, false, false, false⟩, ⟨⟨q1, by show c + 1 + b2n false = i; simp [b2n] at q2 ⊢; omega, (nomatch ·), Or.inr (Or.inl ⟨Or.inl rfl, rfl, by show 1 ≤ c + 1; omega⟩), (nomatch ·), (nomatch ·)⟩, hs.pass K 3 (fun b hb => by have := hT b hb; omega), hgi.pass K 3 (fun b hb => by have := hT b hb; omega), ⟨sn, s0, s1, hp'.mono (Cl.up K.size)⟩, ⟨z, hwk', fun _ => hz⟩, (hfm.pass K (fun hb => by have := hT _ hb; omega)).eq rfl ?_ ?_ rfl, ⟨sb, y, b0, b1, hpb.pass K 3 (fun b hb => by have := hT b hb; omega), (nomatch ·)⟩, ⟨M, htk.pass K 3 (fun b hb => by have := hT b hb; omega), hM, hMn⟩⟩, ?_, K.mono (fun b _ hb => by have := hT b hb; omega), fun b hb => reC_old hb⟩
      · simp [Gh.mo, Gh.lo]
      · simp [Gh.lo]
      · simp [Gh.ms, b2n]
    | false =>
      obtain rfl : go = true := by cases go; exact absurd hr (by simp [wrdy]); rfl
      replace hp : PiAt w I.a (Cl col 3 w) none true sn := hp
      have hpb' : PiAt w I.b (Cl col 4 w) none false sb := hpb
      have hT : ∀ b, (b = I.w ∨ b = I.f ∨ b = I.b) → col b = 7 ∨ col b = 8 ∨ col b = 4 := by rintro b (rfl | rfl | rfl); exact Or.inl h7; exact Or.inr (Or.inl h8); exact Or.inr (Or.inr hpb.sb.1)
      refine wstep_idle (R := fun e w' => e = .returned (.tuple #[]) ∧ Nx I L O w0 col _ w w') hwk hfm hs.pl ((wtake_over hwk hfm hp hpb' n4 n4' hn).mono ?_)
      rintro e w' ⟨rfl, hwk', hfm', hp', K⟩
      refine ⟨rfl, rfl, reC col 3 w, ⟨i, c, 0, false, false, true, true, false⟩, ⟨⟨q1, q2, fun _ => ⟨(q3 rfl).1, rfl⟩, Or.inl ⟨rfl, rfl⟩, fun _ => ⟨rfl, rfl⟩, (nomatch ·)⟩, hs.pass K 3 (fun b hb => by have := hT b hb; omega), hgi.pass K 3 (fun b hb => by have := hT b hb; omega), ⟨sn, s0, s1, hp.pass K 3 (fun b hb => by have := hT b hb; omega)⟩, ⟨x, hwk', fun e => by simp at e⟩, hfm', ⟨sb, y, b0, b1, hp'.mono (Cl.up K.size), (nomatch ·)⟩, ⟨M, htk.pass K 3 (fun b hb => by have := hT b hb; omega), hM, hMn⟩⟩, ?_, K.mono (fun b _ hb => by have := hT b hb; omega), fun b hb => reC_old hb⟩
      simp [Gh.ms, b2n]
  · have hx := hIt _ _ (hwx (Or.inl rfl))
    have hfm0 : FmAt w I.f I.p I.x I.a (alR I) 0 (Gh.mo ⟨i, c, 1, pa, false, go, false, false⟩) ((c : Int) - 1) 1 := hfm
    have hT : ∀ b, (b = I.w ∨ b = I.f) → col b = 7 ∨ col b = 8 := by rintro b (rfl | rfl); exact Or.inl h7; exact Or.inr h8
    refine (wstep_taken hwk hfm0 hs.pl hx.2.2.2 (by unfold Gh.mo; split <;> simp) (by omega) (by omega) hn).mono ?_
    rintro e w' ⟨rfl, hwk', hfm', K⟩
    refine ⟨rfl, reC col 3 w, ⟨i, c, 2, pa, false, go, false, false⟩, ⟨⟨q1, q2, q3, Or.inr (Or.inl ⟨Or.inr rfl, rfl, hc⟩), (nomatch ·), (nomatch ·)⟩, hs.pass K 3 (fun b hb => by have := hT b hb; omega), hgi.pass K 3 (fun b hb => by have := hT b hb; omega), ⟨sn, s0, s1, hp.pass K 3 (fun b hb => by have := hT b hb; omega)⟩, ⟨x, hwk', fun _ => hwx (Or.inl rfl)⟩, hfm'.eq rfl ?_ ?_ rfl, ⟨sb, y, b0, b1, hpb.pass K 3 (fun b hb => by have := hT b hb; omega), hy⟩, ⟨M, htk.pass K 3 (fun b hb => by have := hT b hb; omega), hM, hMn⟩⟩, ?_, K.mono (fun b _ hb => by have := hT b hb; omega), fun b hb => reC_old hb⟩
    · simp [Gh.mo, Gh.lo]; omega
    · simp [Gh.lo]
    · simp [Gh.ms, b2n]
  · have hx := hIt _ _ (hwx (Or.inr rfl))
    have hfm0 : FmAt w I.f I.p I.x I.a (alR I) 1 (Gh.mo ⟨i, c, 2, pa, false, go, false, false⟩) (c : Int) 1 := hfm
    have hpb' : PiAt w I.b (Cl col 4 w) none false sb := hpb
    have hT : ∀ b, (b = I.w ∨ b = I.f ∨ Cl col 4 w b) → col b = 7 ∨ col b = 8 ∨ col b = 4 := by rintro b (rfl | rfl | hb); exact Or.inl h7; exact Or.inr (Or.inl h8); exact Or.inr (Or.inr hb.1)
    have b1' : sb ≤ (c : Int) - 1 := by have : sb ≤ ((c - 1 : Nat) : Int) + ((0 : Nat) : Int) := b1; omega
    refine (wstep_look hwk hfm0 hs.pl hpb' hx.2.1 hx.2.2.1 HE n4 n4' hn (fun b hb => ⟨fun e => by subst e; have := hb.1; omega, fun e => by subst e; have := hb.1; omega⟩) b0 (by omega)).mono ?_
    rintro e w' ⟨rfl, z, hz, hwk', hfm', hp', K⟩
    refine ⟨rfl, reC col 4 w, ⟨i, c, 3, pa, true, go, false, false⟩, ⟨⟨q1, q2, q3, Or.inr (Or.inr ⟨rfl, hc⟩), (nomatch ·), (nomatch ·)⟩, hs.pass K 4 (fun b hb => by have := hT b hb; omega), hgi.pass K 4 (fun b hb => by have := hT b hb; omega), ⟨sn, s0, s1, hp.pass K 4 (fun b hb => by have := hT b hb; omega)⟩, ⟨itZ, hwk', fun e => by simp at e⟩, hfm'.eq rfl ?_ ?_ rfl, ⟨sb + 1, z, by omega, ?_, hp'.mono (Cl.gr K.size), fun _ => by rw [hz, hx.1]; show ((c - 1 : Nat) : Int) = (c : Int) - 1; omega⟩, ⟨M, htk.pass K 4 (fun b hb => by have := hT b hb; omega), ?_, hMn⟩⟩, ?_, K.mono (fun b _ hb => by have := hT b hb; omega), fun b hb => reC_old hb⟩
    · simp [Gh.mo, Gh.lo]
    · simp [Gh.lo]
    · simp [Gh.t, b2n]; omega
    · rw [hM]; simp [Gh.t, b2n]
    · simp [Gh.ms, b2n]
  · obtain rfl : pb = false := by cases pb; rfl; exact absurd hr (by simp [wrdy])
    have hT : ∀ b, (b = I.w) → col b = 7 := by rintro b rfl; exact h7
    refine (wstep_send hwk hfm hs.pl).mono ?_
    rintro e w' ⟨rfl, hwk', K⟩
    refine ⟨rfl, reC col 3 w, ⟨i, c, 0, pa, false, go, false, false⟩, ⟨⟨q1, q2, q3, Or.inl ⟨rfl, rfl⟩, (nomatch ·), (nomatch ·)⟩, hs.pass K 3 (fun b hb => by have := hT b hb; omega), hgi.pass K 3 (fun b hb => by have := hT b hb; omega), ⟨sn, s0, s1, hp.pass K 3 (fun b hb => by have := hT b hb; omega)⟩, ⟨x, hwk', fun e => by simp at e⟩, (hfm.pass K (fun hb => by have := hT _ hb; omega)).eq rfl rfl rfl rfl, ⟨sb, y, b0, ?_, hpb.pass K 3 (fun b hb => by have := hT b hb; omega), (nomatch ·)⟩, ⟨M, htk.pass K 3 (fun b hb => by have := hT b hb; omega), ?_, hMn⟩⟩, ?_, K.mono (fun b _ hb => by have := hT b hb; omega), fun b hb => reC_old hb⟩
    · have := b1; simp [Gh.t, b2n] at this ⊢; omega
    · rw [hM]; simp [Gh.t, b2n]
    · simp [Gh.ms, b2n]
set_option maxHeartbeats 1000000 in
theorem tk_step (h : FJ I L O w0 w col g) (hL : L.length ≤ 1000) (ht : g.tv = false) (hr : (g.pb || g.wo) = true) : Calls Tryz.prog 202 #[.pointer (some ⟨I.t, 0, none⟩)] w fun e w' => e = .returned (.tuple #[]) ∧ Nx I L O w0 col g w w' := by
  obtain ⟨ok, hs, hgi, ⟨sn, s0, s1, hp⟩, ⟨x, hwk, hwx⟩, hfm, ⟨sb, y, b0, b1, hpb, hy⟩, ⟨M, htk, hM, hMn⟩⟩ := h
  obtain ⟨i, c, st, pa, pb, go, wo, tv⟩ := g
  obtain rfl : tv = false := ht
  have q1 : i ≤ L.length := ok.i
  have q2 : c + b2n pa = i := ok.c
  have q4 : st = 0 ∧ pb = false ∨ (st = 1 ∨ st = 2) ∧ pb = false ∧ 1 ≤ c ∨ st = 3 ∧ 1 ≤ c := ok.st
  have q5 : wo = true → go = true ∧ st = 0 := ok.wo
  have h7 := hs.c7.1
  have h8 := hs.c8.1
  have cq : c ≤ 1000 := by unfold b2n at q2; split at q2 <;> omega
  cases pb with
  | true =>
    obtain ⟨rfl, hc⟩ : st = 3 ∧ 1 ≤ c := by rcases q4 with ⟨_, h⟩ | ⟨_, h, _⟩ | h; exact nomatch h; exact nomatch h; exact h
    obtain rfl : wo = false := by cases wo; rfl; exact absurd (q5 rfl).2 (by decide)
    have hpb' : PiAt w I.b (Cl col 4 w) (some (1, y)) false sb := hpb
    have hMl : M.length = c - 1 := by rw [hM]; simp [Gh.t, b2n]
    have hyn : y.n = (c : Int) - 1 := hy rfl
    have hT : ∀ b, (Cl col 5 w b ∨ Cl col 4 w b) → col b = 5 ∨ col b = 4 := by rintro b (hb | hb); exact Or.inl hb.1; exact Or.inr hb.1
    refine (tstep_some htk hpb' (fun b hb hc => by have := hb.1; have := hc.1; omega) (by omega)).mono ?_
    rintro e w' ⟨rfl, htk', hp', K⟩
    refine ⟨rfl, reC col 5 w, ⟨i, c, 3, pa, false, go, false, false⟩, ⟨⟨q1, q2, ok.go, Or.inr (Or.inr ⟨rfl, hc⟩), (nomatch ·), (nomatch ·)⟩, hs.pass K 5 (fun b hb => by have := hT b hb; omega), hgi.pass K 5 (fun b hb => by have := hT b hb; omega), ⟨sn, s0, s1, hp.pass K 5 (fun b hb => by have := hT b hb; omega)⟩, ⟨x, hwk.pass K (fun hb => by have := hT _ hb; omega), fun e => by simp at e⟩, (hfm.pass K (fun hb => by have := hT _ hb; omega)).eq rfl rfl rfl rfl, ⟨sb, y, b0, ?_, hp'.mono (Cl.up K.size), (nomatch ·)⟩, ⟨M ++ [y], htk'.mono (Cl.gr K.size), ?_, fun k z hz => ?_⟩⟩, ?_, K.mono (fun b _ hb => by have := hT b hb; omega), fun b hb => reC_old hb⟩
    · have := b1; simp [Gh.t, b2n] at this ⊢; omega
    · simp [Gh.t, b2n, hMl]; omega
    · rcases Nat.lt_trichotomy k M.length with h | rfl | h
      · rw [List.getElem?_append_left h] at hz; exact hMn k z hz
      · simp at hz; subst hz; rw [hyn, hMl]; omega
      · rw [List.getElem?_eq_none (by simp; omega)] at hz; cases hz
    · simp [Gh.ms, b2n]
  | false =>
    obtain rfl : wo = true := by simpa using hr
    obtain ⟨rfl, rfl⟩ := q5 rfl
    have hpb' : PiAt w I.b (Cl col 4 w) none true sb := hpb
    have hT : ∀ b, (b = I.t) → col b = 5 := by rintro b rfl; exact htk.sb.1
    refine (tstep_over htk hpb').mono ?_
    rintro e w' ⟨rfl, htk', K⟩
    refine ⟨rfl, reC col 5 w, ⟨i, c, 0, pa, false, true, true, true⟩, ⟨⟨q1, q2, ok.go, Or.inl ⟨rfl, rfl⟩, fun _ => ⟨rfl, rfl⟩, fun _ => rfl⟩, hs.pass K 5 (fun b hb => by have := hT b hb; omega), hgi.pass K 5 (fun b hb => by have := hT b hb; omega), ⟨sn, s0, s1, hp.pass K 5 (fun b hb => by have := hT b hb; omega)⟩, ⟨x, hwk.pass K (fun hb => by have := hT _ hb; omega), fun e => by simp at e⟩, hfm.pass K (fun hb => by have := hT _ hb; omega), ⟨sb, y, b0, b1, hpb.pass K 5 (fun b hb => by have := hT b hb; omega), hy⟩, ⟨M, htk'.mono (Cl.up K.size), hM, hMn⟩⟩, ?_, K.mono (fun b _ hb => by have := hT b hb; omega), fun b hb => reC_old hb⟩
    simp [Gh.ms, b2n]
end
end Go.Proofs.YtgobcnheemocnaaGreatDoor
end
section
namespace Go.Proofs.YtgobcnheemocnaaGreatDoor
open Go
open Go.RowKit
set_option linter.unusedVariables false
set_option linter.unusedSimpArgs false
set_option maxRecDepth 100000

/-- All, with the loom, which took n turns. -/
structure FLo (I : Ids) (L : List Itm) (O : Nat → Prop) (w0 w : World) (col : Nat → Nat) (g : Gh) (n : Nat) : Prop where
  j : FJ I L O w0 w col g
  lo : LoAt w I.l I.g I.w I.t (Cl col 1 w) n
section
variable {I : Ids} {L : List Itm} {O T : Nat → Prop} {w0 w w' : World} {col : Nat → Nat} {k n : Nat} {g : Gh}
theorem oA_some (ok : g.Ok L.length) : (oA L g).isSome = g.pa := by
  obtain ⟨i, c, st, pa, pb, go, wo, tv⟩ := g
  have q1 : i ≤ L.length := ok.i
  have q2 : c + b2n pa = i := ok.c
  cases pa with
  | false => rfl
  | true =>
    have hcl : c < L.length := by simp [b2n] at q2; omega
    simp [oA, List.getElem?_eq_getElem hcl]
theorem oA_who : ∀ p, oA L g = some p → p.1 = 0 := by
  intro p hp
  unfold oA at hp
  split at hp
  · cases h : L[g.c]? with
    | none => rw [h] at hp; cases hp
    | some z => rw [h] at hp; cases hp; rfl
  · cases hp
theorem oB_some (y : Itm) : (oB g y).isSome = g.pb := by unfold oB; cases g.pb <;> rfl
theorem oB_who (y : Itm) : ∀ p, oB g y = some p → p.1 = 1 := by
  intro p hp; unfold oB at hp; split at hp <;> cases hp; rfl
/-- A loom's turn changes nothing else. -/
theorem FJ.turn (h : FJ I L O w0 w col g) {W : World} (K : Keeps (Cl col 1 w) w W) : FJ I L O w0 W (reC col 1 w) g := by
  obtain ⟨ok, hs, hgi, ⟨sn, s0, s1, hp⟩, ⟨x, hwk, hwx⟩, hfm, ⟨sb, y, b0, b1, hpb, hy⟩, ⟨M, htk, hM, hMn⟩⟩ := h
  have h7 := hs.c7.1
  have h8 := hs.c8.1
  exact ⟨ok, hs.pass K 1 (fun b hb => by have := hb.1; omega), hgi.pass K 1 (fun b hb => by have := hb.1; omega), ⟨sn, s0, s1, hp.pass K 1 (fun b hb => by have := hb.1; omega)⟩, ⟨x, hwk.pass K (fun hb => by have := hb.1; omega), hwx⟩, hfm.pass K (fun hb => by have := hb.1; omega), ⟨sb, y, b0, b1, hpb.pass K 1 (fun b hb => by have := hb.1; omega), hy⟩, ⟨M, htk.pass K 1 (fun b hb => by have := hb.1; omega), hM, hMn⟩⟩
def dG (g : Gh) : Bool := !g.go && !g.pa
def dW (g : Gh) : Bool := !g.wo && wrdy g.st (g.pa || g.go) g.pb
def dTk (g : Gh) : Bool := !g.tv && (g.pb || g.wo)
theorem none_over (ok : g.Ok L.length) (h0 : dG g = false) (h1 : dW g = false) (h2 : dTk g = false) : g.tv = true := by
  obtain ⟨i, c, st, pa, pb, go, wo, tv⟩ := g
  have q4 : st = 0 ∧ pb = false ∨ (st = 1 ∨ st = 2) ∧ pb = false ∧ 1 ≤ c ∨ st = 3 ∧ 1 ≤ c := ok.st
  have q5 : wo = true → go = true ∧ st = 0 := ok.wo
  show tv = true
  unfold dG at h0; unfold dW at h1; unfold dTk at h2
  cases tv
  · cases wo
    · rcases q4 with ⟨rfl, rfl⟩ | ⟨rfl | rfl, rfl, _⟩ | ⟨rfl, _⟩
      · cases go <;> cases pa <;> simp [wrdy] at h0 h1
      · simp [wrdy] at h1
      · simp [wrdy] at h1
      · cases pb <;> simp [wrdy] at h1 h2
    · exact absurd h2 (by simp)
  · rfl
theorem rdyL_nil (a b c : Bool) : rdyL a b c = [] ↔ a = false ∧ b = false ∧ c = false := by cases a <;> cases b <;> cases c <;> simp [rdyL, rdy1]
theorem rdyL_pos (a b c : Bool) (h : ¬ (a = false ∧ b = false ∧ c = false)) : 0 < (rdyL a b c).length := List.length_pos_iff.2 fun e => h ((rdyL_nil a b c).1 e)
set_option maxHeartbeats 1000000 in
theorem lo_step (p : Int) (hp1 : -9223372036854775808 ≤ p) (hp2 : p ≤ 9223372036854775807) (h : FLo I L O w0 w col g n) (hn : n ≤ 200000) (hL : L.length ≤ 1000) (hIt : ItOk L) (HE : ∀ W S, ObS en0 W (.pointer (some ⟨I.x, 0, none⟩)) S → Answers W I.x) :
    Calls Tryz.prog 18 #[.pointer (some ⟨I.l, 0, none⟩), .int .i64 p] w fun e w' => (∃ (q : Int), e = .returned (.tuple #[.int .i64 q, .bool true]) ∧ ∃ (col' : Nat → Nat) (g' : Gh), g'.ms L.length < g.ms L.length ∧ FLo I L O w0 w' col' g' (n + 1)) ∨ (e = .returned (.tuple #[.int .i64 0, .bool false]) ∧ g.tv = true ∧ FLo I L O w0 w' (reC col 1 w) g n) := by
  have hj := h.j
  obtain ⟨ok, hs, hgi, ⟨sn, s0, s1, hp⟩, ⟨x, hwk, hwx⟩, hfm, ⟨sb, y, b0, b1, hpb, hy⟩, ⟨M, htk, hM, hMn⟩⟩ := hj
  have hF : ∀ {S : Nat → Prop}, ∀ b, S b → ¬ (fun _ : Nat => False) b := fun b _ => id
  have o0 : Says 207 I.g g.go w := fun W K => gover_any (hgi.keeps K hF)
  have o1 : Says 224 I.w g.wo w := fun W K => sover_any (hwk.pass K id)
  have o2 : Says 200 I.t g.tv w := fun W K => tover_any (htk.keeps K hF)
  have r0 : Says 208 I.g (!g.pa) w := fun W K => by
    have := gready_any (hgi.keeps K hF) (hs.pl.keeps K hF) (hp.keeps K hF) oA_who
    rwa [oA_some ok] at this
  have r1 : Says 225 I.w (wrdy g.st (g.pa || g.go) g.pb) w := fun W K => by
    refine wready_any (g.pa || g.go) g.pb (hwk.pass K id) (hfm.pass K id) (hs.pl.keeps K hF) (fun W' K' => ?_) (fun W' K' => ?_)
    · have := pready_any _ _ _ _ _ _ ((hp.keeps K hF).keeps K' hF)
      rwa [oA_some ok] at this
    · have := waits_any 1 _ _ _ _ _ _ ((hpb.keeps K hF).keeps K' hF) (oB_who y)
      rwa [oB_some] at this
  have r2 : Says 201 I.t (g.pb || g.wo) w := fun W K => by
    have := tready_any (htk.keeps K hF) (hpb.keeps K hF)
    rwa [oB_some] at this
  by_cases hd : dG g = false ∧ dW g = false ∧ dTk g = false
  · refine (lstep_none p h.lo o0 o1 o2 r0 r1 r2 ((rdyL_nil _ _ _).2 hd)).mono ?_
    rintro e w' ⟨rfl, K⟩
    exact Or.inr ⟨rfl, none_over ok hd.1 hd.2.1 hd.2.2, h.j.turn (K.mono fun _ _ => False.elim), (h.lo.keeps K hF).mono (Cl.up K.size)⟩
  · have hst : ∀ W, Keeps (Cl col 1 w) w W → FJ I L O w0 W (reC col 1 w) g := fun W K => h.j.turn K
    refine (lstep_some (P0 := fun W w' => Nx I L O w0 (reC col 1 w) g W w') (P1 := fun W w' => Nx I L O w0 (reC col 1 w) g W w') (P2 := fun W w' => Nx I L O w0 (reC col 1 w) g W w') p hp1 hp2 h.lo hn o0 o1 o2 r0 r1 r2 (rdyL_pos _ _ _ hd) (fun hb W K => ?_) (fun hb W K => ?_) (fun hb W K => ?_)).mono ?_
    · simp only [Bool.and_eq_true, Bool.not_eq_true'] at hb
      exact gi_step (hst W K) hL hb.1 hb.2
    · simp only [Bool.and_eq_true, Bool.not_eq_true'] at hb
      exact wk_step (hst W K) hL hIt (HE W _ (hst W K).s.en) hb.1 hb.2
    · simp only [Bool.and_eq_true, Bool.not_eq_true'] at hb
      exact tk_step (hst W K) hL hb.1 hb.2
    · rintro e w' ⟨q, W, rfl, K, hlo, hx⟩
      have hx : Nx I L O w0 (reC col 1 w) g W w' := by rcases hx with ⟨_, h⟩ | ⟨_, h⟩ | ⟨_, h⟩ <;> exact h
      obtain ⟨col', g', hj', hms, K', hc⟩ := hx
      refine Or.inl ⟨q, rfl, col', g', hms, hj', ((hlo.mono (Cl.gr K.size)).keeps K' (fun b hb ht => ht hb.1)).mono (fun b hb => ⟨?_, by have := hb.2; have := K'.size; omega⟩)⟩
      rw [hc b hb.2]; exact hb.1
theorem PkAt.keeps {T : Nat → Prop} {v : Value} {l : List Int} (h : PkAt w v l) (K : Keeps T w w') (hs : l ≠ [] → ∀ b, v.ownBlock = some b → ¬ T b) : PkAt w' v l := by
  obtain ⟨a, c, rfl, hk⟩ := h
  refine ⟨a, c, rfl, fun k q hq => ?_⟩
  obtain ⟨b, off, rfl, h1, h2⟩ := hk k q hq
  exact ⟨b, off, rfl, K.cell h1 (hs (fun e => by subst e; simp at hq) b rfl), h2⟩
theorem b2n_le (b : Bool) : b2n b ≤ 1 := by cases b <;> simp [b2n]
theorem Gh.ms_le (ok : g.Ok n) : g.ms n ≤ 6 * n + 14 := by
  unfold Gh.ms
  have h1 := b2n_le g.pa
  have h2 := b2n_le g.pb
  have h3 := b2n_le (!g.go)
  have h4 := b2n_le (!g.wo)
  have h5 := b2n_le (!g.tv)
  split
  · omega
  · split
    · omega
    · split <;> omega
/-- Run, whatever is picked. -/
theorem lo_run (pv : Value) (ps : List Int) (hps : ps.length ≤ 300) (hpk : PkAt w0 pv ps) (hO : ps ≠ [] → ∀ b, pv.ownBlock = some b → O b) (h : FLo I L O w0 w col g n) (hn : n ≤ 100) (hL : L.length ≤ 20) (hIt : ItOk L) (HE : ∀ W S, ObS en0 W (.pointer (some ⟨I.x, 0, none⟩)) S → Answers W I.x) :
    Calls Tryz.prog 9 #[.pointer (some ⟨I.l, 0, none⟩), pv] w fun e w' => ∃ k : Int, e = .returned (.int .i64 k) ∧ ∃ (col' : Nat → Nat) (g' : Gh) (n' : Nat), FLo I L O w0 w' col' g' n' ∧ g'.tv = true := by
  have hm := Gh.ms_le (n := L.length) h.j.ok
  refine lrun_any I.l pv ps hps (fun m W => ∃ (col' : Nat → Nat) (g' : Gh) (n' : Nat), FLo I L O w0 W col' g' n' ∧ g'.ms L.length = m ∧ n' + m ≤ 5000) (fun W => ∃ (col' : Nat → Nat) (g' : Gh) (n' : Nat), FLo I L O w0 W col' g' n' ∧ g'.tv = true) ?_ ?_ (g.ms L.length) (by omega) w ⟨col, g, n, h, rfl, by omega⟩
  · rintro m W ⟨col', g', n', hf, _⟩
    exact hpk.keeps hf.j.s.kp (fun hne b hb hno => hno (hO hne b hb))
  · rintro m W p ⟨col', g', n', hf, rfl, hnm⟩ hp1 hp2
    refine (lo_step p hp1 hp2 hf (by omega) (by omega) hIt HE).mono ?_
    rintro e w' (⟨q, rfl, col2, g2, hms, hf2⟩ | ⟨rfl, hto, hf2⟩)
    · exact Or.inl ⟨q, g2.ms L.length, rfl, hms, col2, g2, n' + 1, hf2, rfl, by omega⟩
    · exact Or.inr ⟨rfl, _, g', n', hf2, hto⟩
end
end Go.Proofs.YtgobcnheemocnaaGreatDoor
end
