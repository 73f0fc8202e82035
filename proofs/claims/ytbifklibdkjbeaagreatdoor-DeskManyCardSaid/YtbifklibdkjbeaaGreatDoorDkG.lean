/-
  Deeds at a desk as data: what each makes of it, and comes to; desk.start and desk.with by that. No condition.
-/
import Derived.Test.YtbifklibdkjbeaaGreatDoorDkF
namespace Go.Proofs.YtbifklibdkjbeaaGreatDoor
open Go.RowKit Go.WideMaps Go.Maps
set_option linter.unusedVariables false
set_option linter.unusedSimpArgs false
set_option maxRecDepth 100000

/-- Where one run, that at handle k, stands. -/
inductive Ph where
  | no
  | new
  | st1
  | busy
  | fin
  | over
  deriving DecidableEq
noncomputable def phR : Ph → RSt
  | .no => none
  | .new => rNew
  | .st1 => rStep1
  | .busy => rBusy
  | .fin => rFin1
  | .over => rOver
structure D27 where
  ks : List Int
  N : Nat
  ph : Ph
  deriving DecidableEq
def nxt (k : Int) (s : D27) (d : Int × Int) : Option D27 :=
  if d.1 = 0 then
    if s.ks.length < 8 then (if ((s.N : Int) + 1) ∈ s.ks ∨ 90 < s.N then none else some ⟨s.ks ++ [(s.N : Int) + 1], s.N + 1, if (s.N : Int) + 1 = k then .new else s.ph⟩)
    else if s.ks.length ≤ 1000 then some s else none
  else if 0 ≤ d.2 ∧ d.2 ≤ 1000 ∧ (d.1 = 1 ∨ d.1 = 2 ∨ d.1 = 8) then
    if d.2 ∈ s.ks then
      if d.2 = k ∧ s.ks.Nodup then
        if d.1 = 1 then (if s.ph = .new then some ⟨s.ks, s.N, .st1⟩ else none)
        else if d.1 = 2 then (if s.ph = .busy then some ⟨s.ks, s.N, .fin⟩ else none)
        else if s.ph = .new then some ⟨s.ks, s.N, .busy⟩ else if s.ph = .fin then some ⟨s.ks.erase k, s.N, .over⟩ else none
      else none
    else some s
  else none
def okO (s : D27) (d : Int × Int) (c n m : Int) : Prop :=
  if d.1 = 0 then (if s.ks.length < 8 then c = 0 ∧ n = (s.N : Int) + 1 ∧ m = 0 else c = 20 ∧ n = 0 ∧ m = 0)
  else if d.2 ∈ s.ks then (if d.1 = 1 then c = 0 ∧ n = 1 ∧ m = 1 else if d.1 = 2 then c = 0 else if s.ph = .new then c = 18 ∧ n = 0 ∧ m = 0 else c = 0 ∧ n = 0 ∧ m = 0)
  else c = 19 ∧ n = 0 ∧ m = 0
/-- The desk stands so in memory; the run at k has its blocks in S. -/
structure WS (w : World) (db mb : Nat) (k : Int) (s : D27) (m : Int → Value) (S : Nat → Prop) : Prop where
  dk : DkS w db mb s.ks m s.N
  run : k ∈ s.ks → RunS (phR s.ph) w (m k) S
  foot : ∀ b, S b → b < w.heap.size ∧ b ≠ db ∧ b ≠ mb
theorem WS.keeps {w w' : World} {db mb : Nat} {k : Int} {s : D27} {m : Int → Value} {S T : Nat → Prop} (h : WS w db mb k s m S) (K : Keeps T w w') (h1 : ¬ T db) (h2 : ¬ T mb) (h3 : ∀ b, S b → ¬ T b) : WS w' db mb k s m S :=
  ⟨h.dk.keeps K h1 h2, fun hk => (h.run hk).keeps K h3, fun b hb => ⟨Nat.lt_of_lt_of_le (h.foot b hb).1 K.size, (h.foot b hb).2⟩⟩
/-- What a deed does. -/
def DeedR (db mb : Nat) (k : Int) (s : D27) (d : Int × Int) (s' : D27) (S : Nat → Prop) (w : World) (e : Ending) (w' : World) : Prop :=
  ∃ c n q m' S', e = .returned (ocV c n q) ∧ okO s d c n q ∧ WS w' db mb k s' m' S' ∧ (∀ b, S' b → S b ∨ (w.heap.size ≤ b ∧ b < w'.heap.size)) ∧ Keeps (fun b => b = db ∨ b = mb ∨ S b) w w'
theorem start_deed (db mb : Nat) (k : Int) (s s' : D27) (r : Int) (m : Int → Value) (S : Nat → Prop) (w : World) (h : WS w db mb k s m S) (hn : nxt k s (0, r) = some s') :
    Calls Tryz.prog 46 #[.pointer (some ⟨db, 0, none⟩), jV leastJ] w (DeedR db mb k s (0, r) s' S w) := by
  have hlt := h.dk.dk.lt
  have hlm := h.dk.mp.lt
  by_cases h8 : s.ks.length < 8
  · simp only [nxt, if_true, if_pos h8] at hn
    split at hn
    · cases hn
    rename_i hc
    obtain rfl := Option.some.inj hn
    have hc1 : ((s.N : Int) + 1) ∉ s.ks := fun e => hc (Or.inl e)
    have hc2 : s.N ≤ 100 := by have : ¬ 90 < s.N := fun e => hc (Or.inr e); omega
    refine (start_room db mb s.N s.ks m w h.dk h8 hc2 hc1).mono ?_
    rintro e w' ⟨rp, rfl, hd, hr, K⟩
    have hs := K.size
    by_cases hk : (s.N : Int) + 1 = k
    · refine ⟨0, (s.N : Int) + 1, 0, _, _, rfl, by simp [okO, h8], ⟨hd, fun _ => ?_, fun b hb => ?_⟩, fun b hb => Or.inr hb, K.mono (fun b hb e => ?_)⟩
      · simp only [hk, if_true, phR]; exact hr
      · exact ⟨hb.2, by omega, by omega⟩
      · rcases e with e | e
        · exact Or.inl e
        · exact Or.inr (Or.inl e)
    · refine ⟨0, (s.N : Int) + 1, 0, _, S, rfl, by simp [okO, h8], ⟨hd, fun h1 => ?_, fun b hb => ⟨by have := (h.foot b hb).1; omega, (h.foot b hb).2⟩⟩, fun b hb => Or.inl hb, K.mono (fun b hb e => ?_)⟩
      · have h2 : k ∈ s.ks := by
          rcases List.mem_append.1 h1 with h1 | h1
          · exact h1
          · simp at h1; exact absurd h1.symm hk
        have hk' : ¬ k = (s.N : Int) + 1 := fun e => hk e.symm
        simp only [if_neg hk, if_neg hk']
        refine (h.run h2).keeps K (fun b hb e => ?_)
        rcases e with e | e
        · exact (h.foot b hb).2.1 e
        · exact (h.foot b hb).2.2 e
      · rcases e with e | e
        · exact Or.inl e
        · exact Or.inr (Or.inl e)
  · simp only [nxt, if_true, if_neg h8] at hn
    split at hn
    · rename_i h1000
      obtain rfl := Option.some.inj hn
      refine (start_full db mb s.N s.ks m leastJ w h.dk (by omega) h1000).mono ?_
      rintro e w' ⟨rfl, K⟩
      exact ⟨20, 0, 0, m, S, rfl, by simp [okO, h8], h.keeps K id id (fun _ _ => id), fun b hb => Or.inl hb, K.mono (fun _ _ h => h.elim)⟩
    · cases hn
theorem gr_foot {w w' : World} {db mb : Nat} {S : Nat → Prop} (hlt : db < w.heap.size) (hlm : mb < w.heap.size) (hs : w.heap.size ≤ w'.heap.size) (hf : ∀ b, S b → b < w.heap.size ∧ b ≠ db ∧ b ≠ mb) : ∀ b, Gr S w w' b → b < w'.heap.size ∧ b ≠ db ∧ b ≠ mb := by
  intro b hb
  rcases hb with hb | hb
  · have := hf b hb; exact ⟨by omega, this.2⟩
  · exact ⟨hb.2, by omega, by omega⟩
theorem with_deed (db mb : Nat) (k : Int) (s s' : D27) (kd : Int) (J : JV) (m : Int → Value) (S : Nat → Prop) (w : World) (h : WS w db mb k s m S) (r : Int) (hk : r ∈ s.ks) (h0 : kd ≠ 0) (hn : nxt k s (kd, r) = some s') :
    Calls Tryz.prog 47 #[.pointer (some ⟨db, 0, none⟩), m r, .agg (dCs kd r J)] w (DeedR db mb k s (kd, r) s' S w) := by
  have hlt := h.dk.dk.lt
  have hlm := h.dk.mp.lt
  simp only [nxt, if_neg h0] at hn
  split at hn
  case isFalse => cases hn
  rename_i hb
  split at hn
  case isFalse => cases hn
  rename_i hkk
  obtain ⟨rfl, hnd⟩ := hkk
  have hrun := h.run hk
  have hw : ∀ w' m' (σ : D27) (K : Keeps S w w'), σ.ks = s.ks → σ.N = s.N → RunS (phR σ.ph) w' (m r) (Gr S w w') → m' = m → WS w' db mb r σ m' (Gr S w w') := by
    intro w' m' σ K e1 e2 hr e3
    subst e3
    exact ⟨by rw [e1, e2]; exact h.dk.keeps K (fun e => (h.foot _ e).2.1 rfl) (fun e => (h.foot _ e).2.2 rfl), fun _ => hr, gr_foot hlt hlm K.size h.foot⟩
  have hkp : ∀ w', Keeps S w w' → Keeps (fun b => b = db ∨ b = mb ∨ S b) w w' := fun w' K => K.mono (fun b _ e => Or.inr (Or.inr e))
  split at hn
  · rename_i h1; subst h1
    split at hn
    · rename_i hph
      obtain rfl := Option.some.inj hn
      rw [hph] at hrun
      refine (with_step db r J (m r) S w hrun (fun b hb => (h.foot b hb).1)).mono ?_
      rintro e w' ⟨rfl, hr, K⟩
      exact ⟨0, 1, 1, m, _, rfl, by simp [okO, hk], hw w' m _ K rfl rfl hr rfl, fun b hb => hb, hkp w' K⟩
    · cases hn
  · rename_i h1
    split at hn
    · rename_i h2; subst h2
      split at hn
      · rename_i hph
        obtain rfl := Option.some.inj hn
        rw [hph] at hrun
        refine (with_finish db r J (m r) S w hrun (fun b hb => (h.foot b hb).1)).mono ?_
        rintro e w' ⟨n, q, rfl, hr, K⟩
        exact ⟨0, n, q, m, _, rfl, by simp [okO, hk], hw w' m _ K rfl rfl hr rfl, fun b hb => hb, hkp w' K⟩
      · cases hn
    · rename_i h2
      have h8 : kd = 8 := by omega
      subst h8
      split at hn
      · rename_i hph
        obtain rfl := Option.some.inj hn
        rw [hph] at hrun
        refine (with_drop db r J (m r) w (fun c W w2 => c = 18 ∧ RunS rBusy w2 (m r) (Gr S W w2) ∧ Keeps S W w2) (fun W K hW => ?_)).mono ?_
        · refine (drop_busy db mb s.N s.ks m r S W (h.dk.keeps K id id) hk (by omega) (by omega) (hrun.keeps K (fun _ _ => id)) (fun b hb => by have := (h.foot b hb).1; omega)).mono ?_
          rintro e w2 ⟨rfl, hr, K2⟩
          exact ⟨18, rfl, ⟨rfl, hr, K2⟩, K2.block _ (by omega) (fun e => by have := (h.foot _ e).1; omega)⟩
        · rintro e w' ⟨c, W, w2, rfl, K, hW, ⟨rfl, hr, K2⟩, K3⟩
          have s2 := K2.size
          have s3 := K3.size
          have KK : Keeps S w w' := ((K.mono (T := S) (fun _ _ h => h.elim)).trans2 K2 (fun _ _ e => e)).trans2 K3 (fun i hi e => by omega)
          refine ⟨18, 0, 0, m, _, rfl, by simp [okO, hk, hph], hw w' m _ KK rfl rfl ((hr.keeps K3 (fun b hb e => ?_)).mono (fun b hb => ?_)) rfl, fun b hb => hb, hkp w' KK⟩
          · rcases hb with hb | hb
            · have := (h.foot b hb).1; omega
            · omega
          · rcases hb with hb | hb
            · exact Or.inl hb
            · exact Or.inr ⟨by omega, by omega⟩
      · rename_i hph
        split at hn
        · rename_i hpf
          obtain rfl := Option.some.inj hn
          rw [hpf] at hrun
          refine (with_drop db r J (m r) w (fun c W w2 => c = 0 ∧ DkS w2 db mb (s.ks.erase r) m s.N ∧ Keeps (fun b => S b ∨ b = mb) W w2) (fun W K hW => ?_)).mono ?_
          · refine (drop_done db mb s.N s.ks m r S W (h.dk.keeps K id id) hnd hk (by omega) (by omega) (hrun.keeps K (fun _ _ => id)) (fun b hb => ⟨by have := (h.foot b hb).1; omega, (h.foot b hb).2⟩)).mono ?_
            rintro e w2 ⟨rfl, hd, K2⟩
            refine ⟨0, rfl, ⟨rfl, hd, K2⟩, K2.block _ (by omega) (fun e => ?_)⟩
            rcases e with e | e
            · have := (h.foot _ e).1; omega
            · omega
          · rintro e w' ⟨c, W, w2, rfl, K, hW, ⟨rfl, hd, K2⟩, K3⟩
            have s2 := K2.size
            have s3 := K3.size
            have KK : Keeps (fun b => b = db ∨ b = mb ∨ S b) w w' := ((K.mono (T := fun b => b = db ∨ b = mb ∨ S b) (fun _ _ h => h.elim)).trans2 K2 (fun _ _ e => by rcases e with e | e; exact Or.inr (Or.inr e); exact Or.inr (Or.inl e))).trans2 K3 (fun i hi e => by omega)
            refine ⟨0, 0, 0, m, S, rfl, ?_, ⟨hd.keeps K3 (by omega) (by omega), fun e => ?_, fun b hb => ⟨by have := (h.foot b hb).1; have := KK.size; omega, (h.foot b hb).2⟩⟩, fun b hb => Or.inl hb, KK⟩
            · simp only [okO]; simp [hk, hph]
            · exact absurd e (by simp [hnd.mem_erase_iff])
        · cases hn
end Go.Proofs.YtbifklibdkjbeaaGreatDoor
