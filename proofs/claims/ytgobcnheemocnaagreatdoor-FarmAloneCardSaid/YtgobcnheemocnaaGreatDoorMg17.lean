/-
  Several texts in one: append([]Item{}, l...): a copy of items in one line. No condition. Giver, worker, taker: what stands at each moment, by colours of blocks; a step of each keeps it. No condition. A rig put together: colours of its blocks. No condition. built: the rig, whole; what stands in it. No condition.
-/
import Derived.Test.YtgobcnheemocnaaGreatDoorMg15
import Derived.Laws.AppendOwnNone
import Derived.Test.YtgobcnheemocnaaGreatDoorFbOG
section
namespace Go.Proofs.YtgobcnheemocnaaGreatDoor
open Go
open Go.RowKit
set_option linter.unusedVariables false
set_option linter.unusedSimpArgs false
set_option maxRecDepth 100000

theorem wpList_its {w : World} {ops : Array Oper} {rest : List Oper} {o : Oper} {a : Act} {Q : Exit → Act → World → Prop} (hgd : o.guard = none) (s x : Operand)
    (ho : o.op = .call { callee := .builtin .append, args := #[s, x], argTypes := #[30, 30] })
    (base b2 : Nat) (v0 u : Value) (L : List Itm) (hs : a.eval s = v0) (hown : w.ownsRow base 56 7 v0 0 []) (hb : base ≤ w.heap.size) (hx : a.eval x = u) (hu : w.ownsRow b2 56 7 u L.length (itL L)) (hl : L.length ≤ 1000)
    (h : ∀ v' w', w'.ownsRow base 56 7 v' L.length (itL L) → Keeps (fun k => v0.ownBlock = some k) w w' → wpList Tryz.prog ops Q rest (a.put o.dst v') w') :
    wpList Tryz.prog ops Q (o :: rest) a w := by
  obtain ⟨i0, hi, hz0, hz1, hz2⟩ := info_parts info_itG
  rcases hu.2 with ⟨rfl, h0⟩ | ⟨g, cap, cur, rfl, _⟩
  · obtain rfl : L = [] := List.eq_nil_of_length_eq_zero h0
    exact wpList_append_own_none hgd s x 30 ho base 56 i0 7 Tryz.underlying30 hi v0 0 [] hs hown hx (h v0 w hown (Keeps.refl _ _))
  · have hone : ∀ y ∈ itL L, y.oneCell' = true := by
      intro y hy
      simp only [itL, List.mem_flatMap] at hy
      obtain ⟨z, _, hz⟩ := hy
      exact it_oneL z y hz
    refine wpList_append_own _ hgd s x 30 ho base 56 i0 _ 7 80 Tryz.underlying30 hi hz0 hz1 hz2 rfl (by decide) v0 0 [] hs hown ⟨g, 0, none⟩ L.length cap (itL L) hx (itL_len L) (hu.cells (g := g) rfl) hone (by unfold maxLen; omega) (by omega) hb (fun v' w' h1 h2 _ => h v' w' (by simpa using h1) ?_)
    exact (Keeps.refl (fun k => v0.ownBlock = some k) w).grown h2 (fun b hb => Or.inl hb)
/-- A row of one's own is what a giver has yet to send. -/
theorem ownsRow_ro {w : World} {base : Nat} {v : Value} {L : List Itm} {S : Nat → Prop} (h : w.ownsRow base 56 7 v L.length (itL L)) (hs : ∀ g, v.ownBlock = some g → S g) : RoAt w S v L := by
  have hh := h
  rcases h.2 with ⟨rfl, h0⟩ | ⟨g, cap, cur, rfl, _, _, hc, _⟩
  · obtain rfl : L = [] := List.eq_nil_of_length_eq_zero h0
    exact RoAt.none _ _
  · refine ⟨⟨_, _, rfl⟩, fun _ => ⟨g, 0, cap, rfl, hc, hs g rfl, fun j u hu => ?_⟩⟩
    have := hh.cells (g := g) rfl j u hu
    have e : (⟨g, 0, none⟩ : Addr).add j = ⟨g, 0 + j, none⟩ := by unfold Addr.add; split <;> simp_all
    rwa [e] at this
end Go.Proofs.YtgobcnheemocnaaGreatDoor
end
section
namespace Go.Proofs.YtgobcnheemocnaaGreatDoor
open Go
open Go.RowKit
set_option linter.unusedVariables false
set_option linter.unusedSimpArgs false
set_option maxRecDepth 100000

/-- Blocks of one colour. -/
def Cl (col : Nat → Nat) (k : Nat) (w : World) : Nat → Prop := fun b => col b = k ∧ b < w.heap.size
/-- New blocks get a colour. -/
def reC (col : Nat → Nat) (k : Nat) (w : World) : Nat → Nat := fun b => if b < w.heap.size then col b else k
theorem reC_old {col : Nat → Nat} {k : Nat} {w : World} {b : Nat} (h : b < w.heap.size) : reC col k w b = col b := by simp [reC, h]
theorem Cl.up {col : Nat → Nat} {k j : Nat} {w w' : World} (hs : w.heap.size ≤ w'.heap.size) : ∀ b, Cl col j w b → Cl (reC col k w) j w' b := fun b h => ⟨by rw [reC_old h.2]; exact h.1, by have := h.2; omega⟩
theorem Cl.gr {col : Nat → Nat} {k : Nat} {w w' : World} (hs : w.heap.size ≤ w'.heap.size) : ∀ b, GrP (Cl col k w) w w' b → Cl (reC col k w) k w' b := fun b h => by
  rcases h with h | ⟨h1, h2⟩
  · exact Cl.up hs b h
  · exact ⟨by simp [reC]; omega, h2⟩
theorem GiAt.mono {w : World} {gb pb ab : Nat} {S T : Nat → Prop} {L : List Itm} {ov : Bool} (h : GiAt w gb pb ab S L ov) (hs : ∀ b, S b → T b) : GiAt w gb pb ab T L ov := by
  obtain ⟨v, h1, h2⟩ := h.hd
  refine ⟨⟨v, h1, h2.ln, fun hne => ?_⟩, hs _ h.sb⟩
  obtain ⟨g, off, c, e, hc, hg, hu⟩ := h2.at' hne
  exact ⟨g, off, c, e, hc, ⟨hs _ hg.1, hg.2⟩, hu⟩
/-- Who is where. -/
structure Ids where
  p : Nat
  l : Nat
  g : Nat
  a : Nat
  w : Nat
  f : Nat
  x : Nat
  r : Nat
  c : Nat
  b : Nat
  t : Nat
  nm : ByteArray
/-- How far all are: what the giver sent, what the worker took, who waits, who is over. -/
structure Gh where
  i : Nat
  c : Nat
  st : Int
  pa : Bool
  pb : Bool
  go : Bool
  wo : Bool
  tv : Bool
def b2n (b : Bool) : Nat := if b then 1 else 0
structure Gh.Ok (g : Gh) (n : Nat) : Prop where
  i : g.i ≤ n
  c : g.c + b2n g.pa = g.i
  go : g.go = true → g.i = n ∧ g.pa = false
  st : g.st = 0 ∧ g.pb = false ∨ (g.st = 1 ∨ g.st = 2) ∧ g.pb = false ∧ 1 ≤ g.c ∨ g.st = 3 ∧ 1 ≤ g.c
  wo : g.wo = true → g.go = true ∧ g.st = 0
  tv : g.tv = true → g.wo = true
/-- How many the taker has. -/
def Gh.t (g : Gh) : Nat := if g.st = 0 then g.c else if g.st = 3 then g.c - b2n g.pb else g.c - 1
def Gh.lo (g : Gh) : Int := if g.st = 1 then (g.c : Int) - 1 else g.c
def Gh.op (g : Gh) : Int := if g.st = 2 then 1 else 0
def Gh.mo (g : Gh) : Int := if g.lo = 0 then 0 else 1
def Gh.le (g : Gh) : Int := if g.wo then 0 else 1
/-- How many steps are left. -/
def Gh.ms (g : Gh) (n : Nat) : Nat := 6 * (n - g.i) + 5 * b2n g.pa + (if g.st = 0 then 0 else if g.st = 1 then 4 else if g.st = 2 then 3 else 1 + b2n g.pb) + b2n (!g.go) + b2n (!g.wo) + b2n (!g.tv)
def ItOk (L : List Itm) : Prop := ∀ (k : Nat) (x : Itm), L[k]? = some x → x.n = k ∧ 0 ≤ x.rn ∧ x.s.size ≤ 30 ∧ x.e = 0
def alR (I : Ids) : Value := .slice (some ⟨I.r, 0, none⟩) 1 I.c
/-- What all share, and what lies outside. -/
structure FStat (I : Ids) (O : Nat → Prop) (w0 w : World) (col : Nat → Nat) : Prop where
  pl : PlF w I.p (Cl col 0 w)
  en : ObS en0 w (.pointer (some ⟨I.x, 0, none⟩)) (Cl col 6 w)
  ln : w.cell? ⟨I.p, 19, none⟩ = some (.pointer (some ⟨I.l, 0, none⟩))
  rc : w.cell? ⟨I.r, 0, none⟩ = some (.pointer (some ⟨I.w, 0, none⟩))
  c7 : Cl col 7 w I.w
  c8 : Cl col 8 w I.f
  c9 : col I.r = 9
  out : ∀ b, O b → col b = 10 ∧ b < w0.heap.size
  kp : Keeps (fun b => ¬ O b) w0 w
/-- The pipes' offers. -/
def oA (L : List Itm) (g : Gh) : Option (Int × Itm) := if g.pa then (L[g.c]?).map (fun x => ((0 : Int), x)) else none
def oB (g : Gh) (y : Itm) : Option (Int × Itm) := if g.pb then some ((1 : Int), y) else none
/-- All but the loom. -/
structure FJ (I : Ids) (L : List Itm) (O : Nat → Prop) (w0 w : World) (col : Nat → Nat) (g : Gh) : Prop where
  ok : g.Ok L.length
  s : FStat I O w0 w col
  gi : GiAt w I.g I.p I.a (Cl col 2 w) (L.drop g.i) g.go
  pa : ∃ sn : Int, 0 ≤ sn ∧ sn ≤ g.i ∧ PiAt w I.a (Cl col 3 w) (oA L g) g.go sn
  wk : ∃ x, WkAt w I.w I.p I.b I.f I.nm 1 g.wo g.st x ∧ (g.st = 1 ∨ g.st = 2 → L[g.c - 1]? = some x)
  fm : FmAt w I.f I.p I.x I.a (alR I) g.op g.mo g.lo g.le
  pb : ∃ (sn : Int) (y : Itm), 0 ≤ sn ∧ sn ≤ (g.t : Int) + b2n g.pb ∧ PiAt w I.b (Cl col 4 w) (oB g y) g.wo sn ∧ (g.pb = true → y.n = (g.c : Int) - 1)
  tk : ∃ T : List Itm, TkAt w I.t I.b (Cl col 5 w) T g.tv ∧ T.length = g.t ∧ ∀ (k : Nat) (x : Itm), T[k]? = some x → x.n = k
/-- What a task's step brings. -/
def Nx (I : Ids) (L : List Itm) (O : Nat → Prop) (w0 : World) (col : Nat → Nat) (g : Gh) (w w' : World) : Prop :=
  ∃ (col' : Nat → Nat) (g' : Gh), FJ I L O w0 w' col' g' ∧ g'.ms L.length < g.ms L.length ∧ Keeps (fun b => col b ≠ 1) w w' ∧ (∀ b, b < w.heap.size → col' b = col b)
section
variable {I : Ids} {L : List Itm} {O T : Nat → Prop} {w0 w w' : World} {col : Nat → Nat} {k : Nat} {g : Gh}
theorem offC {j : Nat} (hT : ∀ b, T b → col b ≠ j) : ∀ b, Cl col j w b → ¬ T b := fun b h ht => hT b ht h.1
theorem FStat.pass (h : FStat I O w0 w col) (K : Keeps T w w') (k : Nat) (hT : ∀ b, T b → col b ≠ 0 ∧ col b ≠ 6 ∧ col b ≠ 9 ∧ col b ≠ 10) : FStat I O w0 w' (reC col k w) :=
  ⟨(h.pl.keeps K (offC fun b hb => (hT b hb).1)).mono (Cl.up K.size), (h.en.keeps K (offC fun b hb => (hT b hb).2.1)).mono (Cl.up K.size),
   K.cell h.ln (fun ht => (hT _ ht).1 h.pl.sb.1), K.cell h.rc (fun ht => (hT _ ht).2.2.1 h.c9), Cl.up K.size _ h.c7, Cl.up K.size _ h.c8, by rw [reC_old (lt_of_cell h.rc)]; exact h.c9,
   fun b hb => ⟨by rw [reC_old (Nat.lt_of_lt_of_le (h.out b hb).2 h.kp.size)]; exact (h.out b hb).1, (h.out b hb).2⟩,
   h.kp.trans2 K (fun i _ ht ho => (hT i ht).2.2.2 (h.out i ho).1)⟩
theorem GiAt.pass {gb pb ab : Nat} {M : List Itm} {ov : Bool} (h : GiAt w gb pb ab (Cl col 2 w) M ov) (K : Keeps T w w') (k : Nat) (hT : ∀ b, T b → col b ≠ 2) : GiAt w' gb pb ab (Cl (reC col k w) 2 w') M ov :=
  (h.keeps K (offC hT)).mono (Cl.up K.size)
theorem PiAt.pass {b j : Nat} {o : Option (Int × Itm)} {cl : Bool} {sn : Int} (h : PiAt w b (Cl col j w) o cl sn) (K : Keeps T w w') (k : Nat) (hT : ∀ b, T b → col b ≠ j) : PiAt w' b (Cl (reC col k w) j w') o cl sn :=
  (h.keeps K (offC hT)).mono (Cl.up K.size)
theorem TkAt.pass {tb bb : Nat} {M : List Itm} {ov : Bool} (h : TkAt w tb bb (Cl col 5 w) M ov) (K : Keeps T w w') (k : Nat) (hT : ∀ b, T b → col b ≠ 5) : TkAt w' tb bb (Cl (reC col k w) 5 w') M ov :=
  (h.keeps K (offC hT)).mono (Cl.up K.size)
theorem WkAt.pass {wb pb ob fb : Nat} {nm : ByteArray} {who st : Int} {ov : Bool} {x : Itm} (h : WkAt w wb pb ob fb nm who ov st x) (K : Keeps T w w') (hT : ¬ T wb) : WkAt w' wb pb ob fb nm who ov st x := K.heap h hT
theorem FmAt.eq {fb pb xb ab : Nat} {al : Value} {op mo lo le op' mo' lo' le' : Int} (h : FmAt w fb pb xb ab al op mo lo le) (h1 : op = op') (h2 : mo = mo') (h3 : lo = lo') (h4 : le = le') : FmAt w fb pb xb ab al op' mo' lo' le' := by subst h1 h2 h3 h4; exact h
theorem FmAt.pass {fb pb xb ab : Nat} {al : Value} {op mo lo le : Int} (h : FmAt w fb pb xb ab al op mo lo le) (K : Keeps T w w') (hT : ¬ T fb) : FmAt w' fb pb xb ab al op mo lo le := K.heap h hT
set_option maxHeartbeats 1000000 in
theorem gi_step (h : FJ I L O w0 w col g) (hL : L.length ≤ 1000) (hg : g.go = false) (ha : g.pa = false) : Calls Tryz.prog 209 #[.pointer (some ⟨I.g, 0, none⟩)] w fun e w' => e = .returned (.tuple #[]) ∧ Nx I L O w0 col g w w' := by
  obtain ⟨ok, hs, hgi, ⟨sn, s0, s1, hp⟩, ⟨x, hwk, hwx⟩, hfm, ⟨sb, y, b0, b1, hpb, hy⟩, ⟨M, htk, hM, hMn⟩⟩ := h
  obtain ⟨i, c, st, pa, pb, go, wo, tv⟩ := g
  obtain rfl : go = false := hg
  obtain rfl : pa = false := ha
  have q1 : i ≤ L.length := ok.i
  have q2 : c + b2n false = i := ok.c
  have q5 : wo = true → false = true ∧ st = 0 := ok.wo
  simp [b2n] at q2
  replace hp : PiAt w I.a (Cl col 3 w) none false sn := hp
  have h7 := hs.c7.1
  have h8 := hs.c8.1
  cases hd : L.drop i with
  | nil =>
    replace hgi : GiAt w I.g I.p I.a (Cl col 2 w) [] false := by have := hgi; rwa [show L.drop _ = [] from hd] at this
    have hi : L.length ≤ i := List.drop_eq_nil_iff.1 hd
    refine (gstep_end hgi hp (fun b hb e => by subst e; have := hb.1; have := hgi.sb.1; omega)).mono ?_
    rintro e w' ⟨rfl, ⟨v, hv, a, c', rfl⟩, hp', K⟩
    have hT : ∀ b, (b = I.g ∨ b = I.a) → col b = 2 ∨ col b = 3 := by rintro b (rfl | rfl); exact Or.inl hgi.sb.1; exact Or.inr hp.sb.1
    refine ⟨rfl, reC col 2 w, ⟨i, c, st, false, pb, true, wo, tv⟩, ⟨⟨q1, ok.c, fun _ => ⟨by show i = _; omega, rfl⟩, ok.st, fun e => ⟨rfl, (q5 e).2⟩, ok.tv⟩, hs.pass K 2 (fun b hb => by have := hT b hb; omega), ?_, ⟨sn, s0, s1, hp'.mono (Cl.up K.size)⟩, ⟨x, hwk.pass K (fun hb => by have := hT _ hb; omega), hwx⟩, hfm.pass K (fun hb => by have := hT _ hb; omega), ⟨sb, y, b0, b1, hpb.pass K 2 (fun b hb => by have := hT b hb; omega), hy⟩, ⟨M, htk.pass K 2 (fun b hb => by have := hT b hb; omega), hM, hMn⟩⟩, ?_, K.mono (fun b _ hb => by have := hT b hb; omega), fun b hb => reC_old hb⟩
    · show GiAt w' I.g I.p I.a _ (L.drop i) true
      rw [hd]
      exact ⟨⟨_, hv, RoAt.none a c'⟩, Cl.up K.size _ hgi.sb⟩
    · simp [Gh.ms, b2n]
  | cons z R =>
    replace hgi : GiAt w I.g I.p I.a (Cl col 2 w) (z :: R) false := by have := hgi; rwa [show L.drop _ = z :: R from hd] at this
    have hi : i < L.length := by
      rcases Nat.lt_or_ge i L.length with h | h
      · exact h
      · rw [List.drop_eq_nil_iff.2 h] at hd; cases hd
    have hz : L[i]? = some z ∧ L.drop (i + 1) = R := by
      have := List.drop_eq_getElem_cons hi
      rw [hd] at this
      obtain ⟨rfl, rfl⟩ := List.cons.inj this
      exact ⟨List.getElem?_eq_getElem hi, rfl⟩
    refine (gstep_send hgi hs.pl hp (fun b hb hc => by have := hb.1; have := hc.1; omega) s0 (by have : sn ≤ (i : Int) := s1; omega)).mono ?_
    rintro e w' ⟨rfl, hg', hp', K⟩
    have hT : ∀ b, (b = I.g ∨ Cl col 3 w b) → col b = 2 ∨ col b = 3 := by rintro b (rfl | hb); exact Or.inl hgi.sb.1; exact Or.inr hb.1
    refine ⟨rfl, reC col 3 w, ⟨i + 1, c, st, true, pb, false, wo, tv⟩, ⟨⟨hi, by simp [b2n]; omega, (nomatch ·), ok.st, fun e => absurd (q5 e).1 (by simp), ok.tv⟩, hs.pass K 3 (fun b hb => by have := hT b hb; omega), ?_, ⟨sn + 1, by omega, by have : sn ≤ (i : Int) := s1; show sn + 1 ≤ ((i + 1 : Nat) : Int); omega, ?_⟩, ⟨x, hwk.pass K (fun hb => by have := hT _ hb; omega), hwx⟩, hfm.pass K (fun hb => by have := hT _ hb; omega), ⟨sb, y, b0, b1, hpb.pass K 3 (fun b hb => by have := hT b hb; omega), hy⟩, ⟨M, htk.pass K 3 (fun b hb => by have := hT b hb; omega), hM, hMn⟩⟩, ?_, K.mono (fun b _ hb => by have := hT b hb; omega), fun b hb => reC_old hb⟩
    · show GiAt w' I.g I.p I.a _ (L.drop (i + 1)) false
      rw [hz.2]
      exact hg'.mono (Cl.up K.size)
    · have hc : c = i := by omega
      show PiAt w' I.a _ (if true = true then (L[c]?).map _ else none) false (sn + 1)
      rw [hc, hz.1]
      exact hp'.mono (Cl.gr K.size)
    · simp [Gh.ms, b2n]; omega
end
end Go.Proofs.YtgobcnheemocnaaGreatDoor
end
section
namespace Go.Proofs.YtgobcnheemocnaaGreatDoor
open Go
open Go.RowKit
set_option linter.unusedVariables false
set_option linter.unusedSimpArgs false
set_option maxRecDepth 100000

/-- Nothing has gone yet. -/
def gh0 : Gh := ⟨0, 0, 0, false, false, false, false, false⟩
/-- What built gives. -/
structure RigIs (L : List Itm) (w w' : World) (rb : Nat) (I : Ids) (col : Nat → Nat) : Prop where
  c0 : w'.cell? ⟨rb, 0, none⟩ = some (.pointer (some ⟨I.p, 0, none⟩))
  c1 : w'.cell? ⟨rb, 1, none⟩ = some (.pointer (some ⟨I.f, 0, none⟩))
  c3 : w'.cell? ⟨rb, 3, none⟩ = some (.pointer (some ⟨I.b, 0, none⟩))
  c4 : w'.cell? ⟨rb, 4, none⟩ = some (.pointer (some ⟨I.t, 0, none⟩))
  j : FJ I L (fun b => b < w.heap.size ∨ b = rb) w' w' col gh0
  lo : LoAt w' I.l I.g I.w I.t (Cl col 1 w') 0
  cp : 1 ≤ I.c
  kp : Keeps (fun _ => False) w w'
theorem ownsRow_kp {w w' : World} {base : Nat} {e : TypeId} {size : Nat} {v : Value} {n : Nat} {xs : List Value} {S : Nat → Prop} (h : w.ownsRow base e size v n xs) (k : Keeps S w w') (hs : ∀ b, v.ownBlock = some b → ¬ S b) : w'.ownsRow base e size v n xs := by
  refine ⟨h.1, ?_⟩
  rcases h.2 with h0 | ⟨g, cap, cur, rfl, hg, hh, hq⟩
  · exact Or.inl h0
  · exact Or.inr ⟨g, cap, cur, rfl, hg, k.heap hh (hs g rfl), hq⟩
theorem own_zeroF (w : World) (e : TypeId) (size : Nat) : (w.alloc (.cells #[] e)).ownsRow w.heap.size e size (.slice (some ⟨w.heap.size, 0, none⟩) 0 0) 0 [] :=
  ⟨by simp, Or.inr ⟨_, 0, #[], rfl, Nat.le_refl _, by simp [World.alloc, -World.alloc_eq], by omega, by unfold maxLen; omega, by simp, by simp⟩⟩
theorem ownBlock_ltF {w : World} {base : Nat} {e : TypeId} {size : Nat} {v : Value} {n : Nat} {xs : List Value} (h : w.ownsRow base e size v n xs) : ∀ g, v.ownBlock = some g → g < w.heap.size := by
  intro g hg
  rcases h.2 with ⟨rfl, _⟩ | ⟨b, cap, cur, rfl, _, hh, _⟩
  · cases hg
  · obtain rfl : b = g := Option.some.inj hg
    exact (Array.getElem?_eq_some_iff.1 hh).1
open Classical in
/-- The colours of a rig's blocks. -/
noncomputable def colR (SE SL SG Sp : Nat → Prop) (fb wb g ab bb tb : Nat) (b : Nat) : Nat :=
  if SE b then 6 else if SL b then 1 else if b = fb then 8 else if b = wb then 7 else if b = g then 9 else if b = ab then 3 else if b = bb then 4 else if b = tb then 5 else if SG b then 2 else if Sp b then 0 else 10
theorem rig_asm {L : List Itm} {w w' : World} {pb lb gb ab wb fb xb g cp bb tb n1 n8 n10 : Nat} {nm : ByteArray} {SE SL SG Sp : Nat → Prop}
    (hpl : PlF w' pb Sp) (hln : w'.cell? ⟨pb, 19, none⟩ = some (.pointer (some ⟨lb, 0, none⟩))) (hpa : PiAt w' ab (fun b => b = ab) none false 0) (hpb : PiAt w' bb (fun b => b = bb) none false 0)
    (hwk : WkAt w' wb pb bb fb nm 1 false 0 itZ) (hfm : FmAt w' fb pb xb ab (.slice (some ⟨g, 0, none⟩) 1 cp) 0 0 0 1) (hg : w'.cell? ⟨g, 0, none⟩ = some (.pointer (some ⟨wb, 0, none⟩))) (hen : ObS en0 w' (.pointer (some ⟨xb, 0, none⟩)) SE)
    (hlo : LoAt w' lb gb wb tb SL 0) (hgi : GiAt w' gb pb ab SG L false) (htk : TkAt w' tb bb (fun b => b = tb) [] false) (hcp : 1 ≤ cp) (hk : Keeps (fun _ => False) w w')
    (r0 : w'.cell? ⟨tb + 1, 0, none⟩ = some (.pointer (some ⟨pb, 0, none⟩))) (r1 : w'.cell? ⟨tb + 1, 1, none⟩ = some (.pointer (some ⟨fb, 0, none⟩))) (r3 : w'.cell? ⟨tb + 1, 3, none⟩ = some (.pointer (some ⟨bb, 0, none⟩))) (r4 : w'.cell? ⟨tb + 1, 4, none⟩ = some (.pointer (some ⟨tb, 0, none⟩)))
    (lSE : ∀ b, SE b → b < w'.heap.size) (lSL : ∀ b, SL b → b < w'.heap.size) (lSG : ∀ b, SG b → b < w'.heap.size) (lSp : ∀ b, Sp b → b < w'.heap.size)
    (e1 : bb = ab + 1) (e2 : tb = ab + 2) (e3 : n1 ≤ lb ∧ lb < ab) (e4 : w.heap.size < n1) (e5 : tb + 2 ≤ n8) (e6 : n8 ≤ n10) (e7 : n10 ≤ fb ∧ n10 ≤ wb ∧ n10 ≤ g ∧ fb ≠ wb ∧ g ≠ fb ∧ g ≠ wb)
    (dSE : ∀ b, SE b → n10 ≤ b ∧ b ≠ fb ∧ b ≠ wb ∧ b ≠ g) (dSL : ∀ b, SL b → (b = lb ∨ n8 ≤ b) ∧ b ≠ fb ∧ b ≠ wb ∧ b ≠ g ∧ ¬ SE b) (dSG : ∀ b, SG b → tb + 2 ≤ b ∧ b < n8) (dSp : ∀ b, Sp b → n1 ≤ b ∧ b < ab ∧ b ≠ lb) :
    ∃ (I : Ids) (col : Nat → Nat), RigIs L w w' (tb + 1) I col := by
  have iab : ab < w'.heap.size := by obtain ⟨v, h, _⟩ := hpa.hd; exact (Array.getElem?_eq_some_iff.1 h).1
  have ibb : bb < w'.heap.size := by obtain ⟨v, h, _⟩ := hpb.hd; exact (Array.getElem?_eq_some_iff.1 h).1
  have itb : tb < w'.heap.size := by obtain ⟨v, h, _⟩ := htk.hd; exact (Array.getElem?_eq_some_iff.1 h).1
  have iwb : wb < w'.heap.size := (Array.getElem?_eq_some_iff.1 hwk).1
  have ifb : fb < w'.heap.size := (Array.getElem?_eq_some_iff.1 hfm).1
  have irb := lt_of_cell r0
  have igl := lt_of_cell hg
  have c6 : ∀ b, SE b → colR SE SL SG Sp fb wb g ab bb tb b = 6 := fun b hb => if_pos hb
  have c1 : ∀ b, SL b → colR SE SL SG Sp fb wb g ab bb tb b = 1 := fun b hb => by
    have := dSL b hb
    unfold colR; rw [if_neg this.2.2.2.2, if_pos hb]
  have nE : ∀ b, b < n10 → ¬ SE b := fun b hb h => by have := dSE b h; omega
  have nL : ∀ b, b < n8 → b ≠ lb → ¬ SL b := fun b hb hl h => by have := dSL b h; omega
  have c8 : colR SE SL SG Sp fb wb g ab bb tb fb = 8 := by
    unfold colR; rw [if_neg (fun h => (dSE _ h).2.1 rfl), if_neg (fun h => (dSL _ h).2.1 rfl), if_pos rfl]
  have c7 : colR SE SL SG Sp fb wb g ab bb tb wb = 7 := by
    unfold colR; rw [if_neg (fun h => (dSE _ h).2.2.1 rfl), if_neg (fun h => (dSL _ h).2.2.1 rfl), if_neg (fun h => e7.2.2.2.1 h.symm), if_pos rfl]
  have c9 : colR SE SL SG Sp fb wb g ab bb tb g = 9 := by
    unfold colR; rw [if_neg (fun h => (dSE _ h).2.2.2 rfl), if_neg (fun h => (dSL _ h).2.2.2.1 rfl), if_neg e7.2.2.2.2.1, if_neg e7.2.2.2.2.2, if_pos rfl]
  have c3 : colR SE SL SG Sp fb wb g ab bb tb ab = 3 := by
    unfold colR; rw [if_neg (nE _ (by omega)), if_neg (nL _ (by omega) (by omega)), if_neg (by omega), if_neg (by omega), if_neg (by omega), if_pos rfl]
  have c4 : colR SE SL SG Sp fb wb g ab bb tb bb = 4 := by
    unfold colR; rw [if_neg (nE _ (by omega)), if_neg (nL _ (by omega) (by omega)), if_neg (by omega), if_neg (by omega), if_neg (by omega), if_neg (by omega), if_pos rfl]
  have c5 : colR SE SL SG Sp fb wb g ab bb tb tb = 5 := by
    unfold colR; rw [if_neg (nE _ (by omega)), if_neg (nL _ (by omega) (by omega)), if_neg (by omega), if_neg (by omega), if_neg (by omega), if_neg (by omega), if_neg (by omega), if_pos rfl]
  have c2 : ∀ b, SG b → colR SE SL SG Sp fb wb g ab bb tb b = 2 := fun b hb => by
    have := dSG b hb
    unfold colR; rw [if_neg (nE _ (by omega)), if_neg (nL _ (by omega) (by omega)), if_neg (by omega), if_neg (by omega), if_neg (by omega), if_neg (by omega), if_neg (by omega), if_neg (by omega), if_pos hb]
  have c0 : ∀ b, Sp b → colR SE SL SG Sp fb wb g ab bb tb b = 0 := fun b hb => by
    have := dSp b hb
    unfold colR; rw [if_neg (nE _ (by omega)), if_neg (nL _ (by omega) (by omega)), if_neg (by omega), if_neg (by omega), if_neg (by omega), if_neg (by omega), if_neg (by omega), if_neg (by omega), if_neg (fun h => by have := dSG b h; omega), if_pos hb]
  have c10 : ∀ b, (b < w.heap.size ∨ b = tb + 1) → colR SE SL SG Sp fb wb g ab bb tb b = 10 := fun b hb => by
    unfold colR; rw [if_neg (nE _ (by omega)), if_neg (nL _ (by omega) (by omega)), if_neg (by omega), if_neg (by omega), if_neg (by omega), if_neg (by omega), if_neg (by omega), if_neg (by omega), if_neg (fun h => by have := dSG b h; omega), if_neg (fun h => by have := dSp b h; omega)]
  refine ⟨⟨pb, lb, gb, ab, wb, fb, xb, g, cp, bb, tb, nm⟩, colR SE SL SG Sp fb wb g ab bb tb, r0, r1, r3, r4, ⟨⟨Nat.zero_le _, rfl, (nomatch ·), Or.inl ⟨rfl, rfl⟩, (nomatch ·), (nomatch ·)⟩, ⟨hpl.mono fun b hb => ⟨c0 b hb, lSp b hb⟩, hen.mono fun b hb => ⟨c6 b hb, lSE b hb⟩, hln, hg, ⟨c7, iwb⟩, ⟨c8, ifb⟩, c9, fun b hb => ⟨c10 b hb, by have := hk.size; omega⟩, Keeps.refl _ _⟩, ?_, ⟨0, Int.le_refl _, Int.le_refl _, hpa.mono fun b hb => by subst hb; exact ⟨c3, iab⟩⟩, ⟨itZ, hwk, fun h => by rcases h with h | h <;> exact absurd h (by decide)⟩, hfm, ⟨0, itZ, Int.le_refl _, by decide, hpb.mono fun b hb => by subst hb; exact ⟨c4, ibb⟩, (nomatch ·)⟩, ⟨[], htk.mono fun b hb => by subst hb; exact ⟨c5, itb⟩, rfl, fun k x h => by simp at h⟩⟩, hlo.mono fun b hb => ⟨c1 b hb, lSL b hb⟩, hcp, hk⟩
  show GiAt w' gb pb ab _ (L.drop 0) false
  rw [List.drop_zero]
  exact hgi.mono fun b hb => ⟨c2 b hb, lSG b hb⟩
end Go.Proofs.YtgobcnheemocnaaGreatDoor
end
section
namespace Go.Proofs.YtgobcnheemocnaaGreatDoor
open Go
open Go.RowKit
set_option linter.unusedVariables false
set_option linter.unusedSimpArgs false
set_option maxRecDepth 100000

set_option maxHeartbeats 8000000 in
theorem built_any (L : List Itm) (u : Value) (w : World) (W0 : World) (h : ItOwn W0 w u L) (hL : L.length ≤ 20) : Calls Tryz.prog 8 #[.agg jobA.toArray, u] w fun e w' => ∃ (rb : Nat) (I : Ids) (col : Nat → Nat), e = .returned (.pointer (some ⟨rb, 0, none⟩)) ∧ RigIs L w w' rb I col := by
  obtain ⟨w1, hw1⟩ : ∃ W, w.alloc (.cells jobA.toArray 28) = W := ⟨_, rfl⟩
  have k1 : Keeps (fun _ => False) w w1 := by rw [← hw1]; exact (Keeps.refl _ _).alloc _
  have r1 : w1.heap[w.heap.size]? = some (.cells jobA.toArray 28 (0, 0)) := by rw [← hw1]; exact heap_alloc_new _ _
  have jc : ∀ (k : Nat) (v : Value), jobA[k]? = some v → w1.cell? ⟨w.heap.size, k, none⟩ = some v := fun k v hk => by rw [cell_block r1]; simpa using hk
  have z1 : w1.heap.size = w.heap.size + 1 := by rw [← hw1]; simp
  have j0 := jc 0 _ rfl
  have j1 := jc 1 _ rfl
  have j2 := jc 2 _ rfl
  have j3 := jc 3 _ rfl
  have j4 := jc 4 _ rfl
  have j5 := jc 5 _ rfl
  have j6 := jc 6 _ rfl
  have j7 := jc 7 _ rfl
  have j8 := jc 8 _ rfl
  have j9 := jc 9 _ rfl
  have j10 := jc 10 _ rfl
  have j11 := jc 11 _ rfl
  have j12 := jc 12 _ rfl
  have j13 := jc 13 _ rfl
  have j14 := jc 14 _ rfl
  have j15 := jc 15 _ rfl
  have j16 := jc 16 _ rfl
  have HN := Lib.hid (feedNew_any w1)
  have H := Lib.hid (And.intro h (And.intro hL (And.intro k1 (And.intro jc z1))))
  unfold jobA at hw1 HN
  have HW1 := Lib.hid hw1
  clear h k1 jc hw1 r1 hL z1
  unfold jobA
  go_enter Tryz.func8, Tryz.ntmps8
  go_upto_region 1 with fail
  rw [HW1.out]
  clear HW1
  go_wp2_with fail
  refine HN.out.mono ?_
  rintro e w2 ⟨pb, lb, rfl, hp2, hg2, hlb, k2⟩
  generalize Value.agg #[.slice none 0 0, .slice none 0 0, .int .i64 (-1), .int .i64 0, .int .i64 100, .string ⟨#[97]⟩, .int .i64 0, .int .i64 (-1), .int .i64 0, .int .i64 0, .int .i64 0, .int .i64 (-1), .int .i64 1, .int .i64 8, .int .i64 0, .int .i64 1, .int .i64 1] = zj
  have jc2 : ∀ (k : Nat) (v : Value), jobA[k]? = some v → w2.cell? ⟨w.heap.size, k, none⟩ = some v := fun k v hk => k2.cell (H.out.2.2.2.1 k v hk) id
  have y14 := jc2 14 _ rfl
  have H2 := Lib.hid (And.intro hp2 (And.intro hg2 (And.intro hlb (And.intro k2 jc2))))
  have HP := Lib.hid (pipe_new w2)
  clear HN hp2 hg2 hlb k2 jc2 j0 j1 j2 j3 j4 j5 j6 j7 j8 j9 j10 j11 j12 j13 j14 j15 j16
  go_wp2_with fail
  refine HP.out.mono ?_
  rintro e w3 ⟨rfl, ha3, z3, k3⟩
  have y14 := k3.cell (H2.out.2.2.2.2 14 _ rfl) id
  have H3 := Lib.hid (And.intro ha3 (And.intro z3 k3))
  have HP2 := Lib.hid (pipe_new w3)
  clear HP ha3 z3 k3
  go_wp2_with fail
  refine HP2.out.mono ?_
  rintro e w4 ⟨rfl, hb4, z4, k4⟩
  have H4 := Lib.hid (And.intro hb4 (And.intro z4 k4))
  clear hb4 z4 k4 HP2
  obtain ⟨ua, uc, rfl⟩ := ownsRow_slice H.out.1.1
  have HK4 := Lib.hid ((H.out.2.2.1.trans H2.out.2.2.2.1).trans ((H3.out.2.2).trans H4.out.2.2))
  have z5 := H.out.2.2.2.2
  go_upto_region 7 with fail
  generalize hw6 : (w4.alloc _).alloc _ = w6
  have tk6 : w6.heap[w4.heap.size]? = some (.cells #[.pointer (some ⟨w3.heap.size, 0, none⟩), .slice none 0 0, .bool false] 50 (0, 0)) := by rw [← hw6, Below.heap_alloc _ _ _ (by simp)]; exact heap_alloc_new _ _
  have rg6 : w6.heap[w4.heap.size + 1]? = some (.cells #[.pointer (some ⟨pb, 0, none⟩), .pointer none, .pointer (some ⟨w2.heap.size, 0, none⟩), .pointer (some ⟨w3.heap.size, 0, none⟩), .pointer (some ⟨w4.heap.size, 0, none⟩)] 47 (0, 0)) := by rw [← hw6]; exact heap_alloc2_new _ _ _
  have z6 : w6.heap.size = w4.heap.size + 2 := by rw [← hw6]; simp
  have k46 : Keeps (fun _ => False) w4 w6 := by rw [← hw6]; exact ((Keeps.refl _ _).alloc _).alloc _
  have H6 := Lib.hid (And.intro tk6 (And.intro rg6 (And.intro z6 k46)))
  clear hw6 tk6 rg6 z6 k46 z5
  go_wp2_with (refine wpList_its rfl (.tmp 55) (.tmp 56) rfl w6.heap.size W0.heap.size (.slice (some ⟨w6.heap.size, 0, none⟩) 0 0) (.slice ua L.length uc) L rfl (own_zeroF _ _ _) (by simp) rfl (ownsRow_kp H.out.1.1 ((HK4.out.trans H6.out.2.2.2).alloc _) (fun _ _ => id)) (by have := H.out.2.1; omega) ?_)
  intro v7 w7 ho7 k7
  obtain ⟨a7, c7, rfl⟩ := ownsRow_slice ho7
  have k67 : Keeps (fun _ => False) w6 w7 := ((Keeps.refl (fun _ => False) w6).alloc _).trans2 k7 (fun i hi e => by have e : w6.heap.size = i := Option.some.inj e; omega)
  have hro : RoAt w7 (fun b => w6.heap.size ≤ b ∧ b < w7.heap.size) (.slice a7 L.length c7) L := ownsRow_ro ho7 (fun g hg => ⟨ownBlock_base ho7 g hg, ownBlock_ltF ho7 g hg⟩)
  obtain ⟨w8, hw8⟩ : ∃ W, w7.alloc (.cells #[.pointer (some ⟨pb, 0, none⟩), .pointer (some ⟨w2.heap.size, 0, none⟩), .int .i64 0, .slice a7 L.length c7, .bool false] 66) = W := ⟨_, rfl⟩
  have k78 : Keeps (fun _ => False) w7 w8 := by rw [← hw8]; exact (Keeps.refl _ _).alloc _
  have gv8 : w8.heap[w7.heap.size]? = some (.cells #[.pointer (some ⟨pb, 0, none⟩), .pointer (some ⟨w2.heap.size, 0, none⟩), .int .i64 0, .slice a7 L.length c7, .bool false] 66 (0, 0)) := by rw [← hw8]; exact heap_alloc_new _ _
  have z8 : w8.heap.size = w7.heap.size + 1 := by rw [← hw8]; simp
  have k28 : Keeps (fun _ => False) w2 w8 := ((((H3.out.2.2).trans H4.out.2.2).trans H6.out.2.2.2).trans k67).trans k78
  have c19 : w8.cell? ⟨pb, 19, none⟩ = some (.pointer (some ⟨lb, 0, none⟩)) := k28.cell H2.out.1.c19 id
  have HA : Hid (Calls Tryz.prog 15 #[.pointer (some ⟨lb, 0, none⟩), .iface 64 (.pointer (some ⟨w7.heap.size, 0, none⟩))] w8 fun e w' => e = .returned (.int .i64 0) ∧ LoG w' lb (GrP (fun k => k = lb) w8 w') [gvV w7.heap.size] ∧ Keeps (fun k => k = lb) w8 w') := Lib.hid (add_any lb (fun k => k = lb) [] 64 (.pointer (some ⟨w7.heap.size, 0, none⟩)) w8 (H2.out.2.1.keeps k28 (fun _ _ => id)) (by decide))
  have HW8 := Lib.hid hw8
  have ilb : lb < w2.heap.size := by obtain ⟨v, fz, _, h, _⟩ := H2.out.2.1.hd; exact (Array.getElem?_eq_some_iff.1 h).1
  have ipb : pb < w2.heap.size := lt_of_cell H2.out.1.c19
  have IL := Lib.hid (And.intro ilb (And.intro ipb (And.intro H2.out.2.2.1 H2.out.1.sb)))
  have H8 := Lib.hid (And.intro gv8 (And.intro z8 (And.intro (hro.keeps k78 (fun _ _ => id)) (And.intro k67 (And.intro k78 k28)))))
  clear hw8 gv8 z8 hro k78 k28 k67 k7 ho7 ilb ipb
  go_upto_region 8 with fail
  rw [HW8.out]
  clear HW8
  go_wp2_with fail
  refine HA.out.mono ?_
  rintro e w9 ⟨rfl, hl9, k9⟩
  have s28 := H8.out.2.2.2.2.2.size
  have s67 := H8.out.2.2.2.1.size
  have z7 : w2.heap.size < w7.heap.size := by have := H3.out.2.1; have := H4.out.2.1; have := H6.out.2.2.1; omega
  have gv9 : w9.heap[w7.heap.size]? = some (.cells #[.pointer (some ⟨pb, 0, none⟩), .pointer (some ⟨w2.heap.size, 0, none⟩), .int .i64 0, .slice a7 L.length c7, .bool false] 66 (0, 0)) := k9.heap H8.out.1 (fun e => by have e : w7.heap.size = lb := e; have := IL.out.1; omega)
  have x2 : w9.cell? ⟨w7.heap.size, 2, none⟩ = some (.int .i64 0) := by rw [cell_block gv9]; rfl
  have f2 : w9.frozen? ⟨w7.heap.size, 2, none⟩ = false := frozen_block gv9 2 none
  obtain ⟨w10, hw10⟩ : ∃ W, w9.setCell ⟨w7.heap.size, 2, none⟩ (.int .i64 0) = W := ⟨_, rfl⟩
  have gv10 : w10.heap[w7.heap.size]? = some (.cells #[.pointer (some ⟨pb, 0, none⟩), .pointer (some ⟨w2.heap.size, 0, none⟩), .int .i64 0, .slice a7 L.length c7, .bool false] 66 (0, 0)) := by rw [← hw10]; exact cellQ_set 2 (.int .i64 0) gv9
  have k910 : Keeps (fun k => k = w7.heap.size) w9 w10 := by rw [← hw10]; exact setQ _ _ _ _
  have k210 : Keeps (fun k => k = lb) w2 w10 := ((H8.out.2.2.2.2.2.mono (T := fun k => k = lb) fun _ _ e => e.elim).trans k9).trans2 k910 (fun i hi e => by have e : i = w7.heap.size := e; omega)
  have hpl10 := H2.out.1.keeps k210 (fun b hb e => hb.2 e)
  have hl10 := hl9.keeps k910 (fun b hb e => by
    have e : b = w7.heap.size := e
    rcases hb with hb | hb
    · have hb : b = lb := hb
      have := IL.out.1
      omega
    · have := H8.out.2.1
      omega)
  have HF := Lib.hid (farmNew_any (ab := w2.heap.size) (ob := w3.heap.size) hpl10 hl10 (by simp) (fun b hb h => by
    rcases hb with hb | hb
    · exact h.2 hb
    · have := h.1.2
      omega))
  have HW10 := Lib.hid hw10
  have k610 : Keeps (fun k => k = lb) w6 w10 := (((H8.out.2.2.2.1.trans H8.out.2.2.2.2.1).mono (T := fun k => k = lb) fun _ _ e => e.elim).trans k9).trans2 k910 (fun i hi e => by have e : i = w7.heap.size := e; omega)
  have k810 : Keeps (fun k => k = lb ∨ k = w7.heap.size) w8 w10 := (k9.mono fun _ _ e => Or.inl e).trans (k910.mono fun _ _ e => Or.inr e)
  have z810 := k810.size
  have H10 := Lib.hid (And.intro gv10 (And.intro k210 (And.intro k610 (And.intro k810 (And.intro k9 (And.intro z7 z810))))))
  clear hw10 gv10 gv9 k910 k210 hpl10 hl10 hl9 k9 k610 k810 HA s28 s67 z7 z810 c19
  go_upto_region 9 with fail
  rw [HW10.out]
  clear HW10 x2 f2
  go_wp2_with fail
  refine HF.out.mono ?_
  rintro e w11 ⟨fb, wb, xb, g, cp, nm, SL, SE, rfl, hF⟩
  have s24 : w4.heap.size = w2.heap.size + 2 := by have := H3.out.2.1; have := H4.out.2.1; omega
  have s67 := H8.out.2.2.2.1.size
  have hGr : ∀ b, (b = pb ∨ GrP (fun k => k = lb) w8 w9 b) → b = pb ∨ b = lb ∨ w8.heap.size ≤ b := fun b hb => by
    rcases hb with hb | hb | hb
    · exact Or.inl hb
    · exact Or.inr (Or.inl hb)
    · exact Or.inr (Or.inr hb.1)
  have k611 : Keeps (fun k => k = lb ∨ k = pb) w6 w11 := (H10.out.2.2.1.mono (T := fun k => k = lb ∨ k = pb) fun _ _ e => Or.inl e).trans2 hF.kp (fun i hi e => by
    rcases hGr i e with e | e | e
    · exact Or.inr e
    · exact Or.inl e
    · have := H8.out.2.1
      omega)
  have tk11 := k611.heap H6.out.1 (fun e => by have := IL.out; omega)
  have rg11 := k611.heap H6.out.2.1 (fun e => by have := IL.out; omega)
  have x4 : w11.cell? ⟨w4.heap.size + 1, 4, none⟩ = some (.pointer (some ⟨w4.heap.size, 0, none⟩)) := by rw [cell_block rg11]; rfl
  have c19 := hF.c19
  have HA2 : Hid (Calls Tryz.prog 15 #[.pointer (some ⟨lb, 0, none⟩), .iface 45 (.pointer (some ⟨w4.heap.size, 0, none⟩))] w11.drew fun e w' => e = .returned (.int .i64 2) ∧ LoG w' lb (GrP SL w11.drew w') [gvV w7.heap.size, wvV wb, tvV w4.heap.size] ∧ Keeps SL w11.drew w') := Lib.hid (add_any lb SL ([gvV w7.heap.size] ++ [wvV wb]) 45 (.pointer (some ⟨w4.heap.size, 0, none⟩)) w11.drew (hF.lo.keeps (T := fun _ => False) (Keeps.refl _ _).drew (fun _ _ => id)) (by simp))
  have H11 := Lib.hid (And.intro hF (And.intro tk11 (And.intro rg11 (And.intro k611 s24))))
  clear hF hGr tk11 rg11 k611 s24 s67 HF
  go_upto_region 10 with fail
  go_still_tail 9, (by kernel_rfl)
  change wpList _ _ _ _ _ w11.drew
  go_wp2_with fail
  refine HA2.out.mono ?_
  rintro e w12 ⟨rfl, hl12, k12⟩
  have hF := H11.out.1
  have z9 : w8.heap.size ≤ w10.heap.size := H10.out.2.2.2.2.2.2
  have z8 := H8.out.2.1
  have s67 := H8.out.2.2.2.1.size
  have s24 := H11.out.2.2.2.2
  have z6 := H6.out.2.2.1
  have hSL : ∀ b, SL b → (b = lb ∨ w8.heap.size ≤ b) ∧ b < w11.heap.size ∧ b ≠ fb ∧ b ≠ wb ∧ b ≠ g ∧ ¬ SE b := fun b hb => by
    obtain ⟨h1, h2⟩ := hF.sl b hb
    refine ⟨?_, h2⟩
    rcases h1 with ⟨h | h, _⟩ | h
    · exact Or.inl h
    · exact Or.inr h.1
    · right; omega
  have hpbS : ¬ SL pb := fun h => by have := (hSL _ h).1; have := IL.out; omega
  have hjb : ¬ SL w.heap.size := fun h => by have := (hSL _ h).1; have := IL.out; have := H.out.2.2.2.2; omega
  have c19' : w12.cell? ⟨pb, 19, none⟩ = some (.pointer (some ⟨lb, 0, none⟩)) := k12.cell hF.c19 hpbS
  have k1011 := hF.kp
  have j15 : w12.cell? ⟨w.heap.size, 15, none⟩ = some (.int .i64 1) := by
    have h1 := H10.out.2.1.cell (H2.out.2.2.2.2 15 _ rfl) (fun e => by have e : w.heap.size = lb := e; have := IL.out; have := H.out.2.2.2.2; omega)
    have h2 := k1011.cell h1 (fun e => by
      rcases e with e | e | e
      · have e : w.heap.size = pb := e
        have := IL.out; have := H.out.2.2.2.2; omega
      · have e : w.heap.size = lb := e
        have := IL.out; have := H.out.2.2.2.2; omega
      · have e : w8.heap.size ≤ w.heap.size := e.1
        have := IL.out; have := H.out.2.2.2.2; omega)
    exact k12.cell h2 hjb
  have hlo := hl12.at
  have wk12 : WkAt w12 wb pb w3.heap.size fb nm 1 false 0 itZ := k12.heap hF.wk (fun h => (hSL _ h).2.2.2.1 rfl)
  have HNm : Hid (∀ W, Keeps (fun _ => False) w12 W → Calls Tryz.prog 17 #[.pointer (some ⟨lb, 0, none⟩)] W fun e w' => (∃ a c, e = .returned (.slice a 3 c)) ∧ Keeps (fun _ => False) W w') := Lib.hid (fun W K => names_any (hlo.keeps K (fun _ _ => id)) (fun W' _ => gname_any W') (fun W' K' => (sname_any (K'.heap (K.heap wk12 id) id)).mono fun _ _ ⟨a, b⟩ => ⟨⟨_, a⟩, b⟩) (fun W' _ => tname_any W'))
  have rg12 := k12.heap (show w11.drew.heap[w4.heap.size + 1]? = _ from H11.out.2.2.1) (fun h => by have := (hSL _ h).1; have := IL.out; omega)
  have H12 := Lib.hid (And.intro hSL (And.intro hlo (And.intro wk12 (And.intro rg12 (And.intro k12 (And.intro hpbS hjb))))))
  have kd : Keeps (fun _ => False) w12 w12.drew := (Keeps.refl _ _).drew
  clear hF hSL hpbS hjb hlo wk12 rg12 k12 HA2 k1011 z9 z8 s67 s24 z6 x4 c19 hl12
  go_upto_region 11 with fail
  go_region_held3 (fun w' => w'.cell? ⟨pb, 19, none⟩ = some (.pointer (some ⟨lb, 0, none⟩)) ∧ w'.cell? ⟨w.heap.size, 15, none⟩ = some (.int .i64 1) ∧ Keeps (fun _ => False) w12 w')
    (first | exact ⟨c19', j15, kd⟩ | exact ⟨Keeps.cell k (by assumption : _ ∧ _ ∧ Keeps (fun _ => False) w12 _).1 id, Keeps.cell k (by assumption : _ ∧ _ ∧ Keeps (fun _ => False) w12 _).2.1 id, (by assumption : _ ∧ _ ∧ Keeps (fun _ => False) w12 _).2.2.trans k⟩)
    (first | (go_at_call 17; refine (HNm.out _ ?_).mono ?_; (first | assumption | exact (by assumption : _ ∧ _ ∧ Keeps (fun _ => False) w12 _).2.2); rintro e w' ⟨⟨a3, c3, rfl⟩, k⟩))
  obtain ⟨_, _, k13⟩ := (by assumption : w'.cell? ⟨pb, 19, none⟩ = some (.pointer (some ⟨lb, 0, none⟩)) ∧ w'.cell? ⟨w.heap.size, 15, none⟩ = some (.int .i64 1) ∧ Keeps (fun _ => False) w12 w')
  have rg13 := k13.heap H12.out.2.2.2.1 id
  have x1 : w'.cell? ⟨w4.heap.size + 1, 1, none⟩ = some (.pointer none) := by rw [cell_block rg13]; rfl
  have f1 : w'.frozen? ⟨w4.heap.size + 1, 1, none⟩ = false := frozen_block rg13 1 none
  obtain ⟨w14, hw14⟩ : ∃ W, w'.setCell ⟨w4.heap.size + 1, 1, none⟩ (.pointer (some ⟨fb, 0, none⟩)) = W := ⟨_, rfl⟩
  have rg14 : w14.heap[w4.heap.size + 1]? = some (.cells #[.pointer (some ⟨pb, 0, none⟩), .pointer (some ⟨fb, 0, none⟩), .pointer (some ⟨w2.heap.size, 0, none⟩), .pointer (some ⟨w3.heap.size, 0, none⟩), .pointer (some ⟨w4.heap.size, 0, none⟩)] 47 (0, 0)) := by rw [← hw14]; exact cellQ_set 1 (.pointer (some ⟨fb, 0, none⟩)) rg13
  have k1314 : Keeps (fun k => k = w4.heap.size + 1) w' w14 := by rw [← hw14]; exact setQ _ _ _ _
  have HW14 := Lib.hid hw14
  have H14 := Lib.hid (And.intro rg14 (And.intro k13 k1314))
  clear rg13 rg14 k13 k1314 hw14 kd k
  go_wp2_with fail
  rw [HW14.out]
  go_ret
  obtain ⟨hSL, hlo12, wk12, _, k12, hpbS, _⟩ := H12.out
  obtain ⟨hF, tk11, _, k611, s24⟩ := H11.out
  obtain ⟨rg14, k13, k1314⟩ := H14.out
  obtain ⟨gv10, _, _, k810, _, z7, z810⟩ := H10.out
  obtain ⟨gv8, z8, hro, k67, _, _⟩ := H8.out
  obtain ⟨i1, i2, i3, ⟨i4, _⟩, i5⟩ := IL.out
  have z6 := H6.out.2.2.1
  have s67 := k67.size
  have s3 := H3.out.2.1
  have s4 := H4.out.2.1
  have s1 := H.out.2.2.2.2
  have n := hF.nw
  have s1011 := hF.kp.size
  have s1112 : w11.heap.size ≤ w12.heap.size := k12.size
  have s1213 := k13.size
  have s1314 := k1314.size
  have K1214 : Keeps (fun k => k = w4.heap.size + 1) w12 w14 := (k13.mono fun _ _ e => e.elim).trans k1314
  have K1112 : Keeps SL w11 w12 := (Keeps.refl SL w11).drew.trans k12
  have K1114 : Keeps (fun b => SL b ∨ b = w4.heap.size + 1) w11 w14 := (K1112.mono fun _ _ e => Or.inl e).trans (K1214.mono fun _ _ e => Or.inr e)
  have K614 : Keeps (fun b => (b = lb ∨ b = pb) ∨ SL b ∨ b = w4.heap.size + 1) w6 w14 := (k611.mono fun _ _ e => Or.inl e).trans (K1114.mono fun _ _ e => Or.inr e)
  have K414 : Keeps (fun b => (b = lb ∨ b = pb) ∨ SL b ∨ b = w4.heap.size + 1) w4 w14 := (H6.out.2.2.2.mono fun _ _ e => e.elim).trans K614
  have K314 : Keeps (fun b => (b = lb ∨ b = pb) ∨ SL b ∨ b = w4.heap.size + 1) w3 w14 := (H4.out.2.2.mono fun _ _ e => e.elim).trans K414
  have no : ∀ b, b ≠ lb → b < w8.heap.size → ¬ SL b := fun b h1 h2 h => by have := (hSL b h).1; omega
  have no4 : ∀ b, b ≠ lb → b ≠ pb → b < w8.heap.size → b ≠ w4.heap.size + 1 → ¬ ((b = lb ∨ b = pb) ∨ SL b ∨ b = w4.heap.size + 1) := fun b h1 h2 h3 h4 h => by
    rcases h with (h | h) | h | h
    · exact h1 h
    · exact h2 h
    · exact no b h1 h3 h
    · exact h4 h
  have no2 : ∀ b, ¬ SL b → b ≠ w4.heap.size + 1 → ¬ (SL b ∨ b = w4.heap.size + 1) := fun b h1 h2 h => h.elim h1 h2
  have noF : ∀ b, b ≠ pb → b ≠ lb → b < w8.heap.size → ¬ (b = pb ∨ GrP (fun k => k = lb) w8 w9 b) := fun b h1 h2 h3 h => by
    rcases h with h | h | h
    · exact h1 h
    · exact h2 h
    · have := h.1
      omega
  have K814 : ∀ b, w6.heap.size ≤ b → b < w8.heap.size → b ≠ w7.heap.size → ∀ o v, w8.cell? ⟨b, o, none⟩ = some v → w14.cell? ⟨b, o, none⟩ = some v := fun b h1 h2 h3 o v hv =>
    K1114.cell (hF.kp.cell (k810.cell hv (fun e => by rcases e with e | e; have e : b = lb := e; omega; exact h3 e)) (noF b (by omega) (by omega) h2)) (no2 b (no b (by omega) h2) (by omega))
  have hgi : GiAt w14 w7.heap.size pb w2.heap.size (fun b => w4.heap.size + 2 ≤ b ∧ b < w8.heap.size) L false := by
    refine ⟨⟨_, K1114.heap (hF.kp.heap gv10 (noF _ (by omega) (by omega) (by omega))) (no2 _ (no _ (by omega) (by omega)) (by omega)), hro.ln, fun hne => ?_⟩, by omega, by omega⟩
    obtain ⟨b, off, c, e, hc, hb, hu⟩ := hro.at' hne
    exact ⟨b, off, c, e, hc, ⟨⟨by omega, by omega⟩, by omega⟩, fun j u hj => K814 b hb.1 (by omega) (by omega) _ _ (hu j u hj)⟩
  have htk : TkAt w14 w4.heap.size w3.heap.size (fun b => b = w4.heap.size) [] false :=
    ⟨⟨.slice none 0 0, K1114.heap tk11 (no2 _ (no _ (by omega) (by omega)) (by omega)), World.ownsRow_nil _ _ _ _, fun g hg => nomatch hg⟩, rfl⟩
  obtain ⟨I, col, hR⟩ := rig_asm (L := L) (w := w) (w' := w14) (pb := pb) (lb := lb) (gb := w7.heap.size) (ab := w2.heap.size) (wb := wb) (fb := fb) (xb := xb) (g := g) (cp := cp) (bb := w3.heap.size) (tb := w4.heap.size) (n1 := w1.heap.size) (n8 := w8.heap.size) (n10 := w10.heap.size) (nm := nm) (SE := SE) (SL := GrP SL w11.drew w12) (SG := fun b => w4.heap.size + 2 ≤ b ∧ b < w8.heap.size) (Sp := fun b => (w1.heap.size ≤ b ∧ b < w2.heap.size) ∧ b ≠ lb)
    (hF.pl.keeps K1114 (fun b hb => no2 b (no b hb.2 (by omega)) (by omega)))
    (K1114.cell hF.c19 (no2 _ hpbS (by show pb ≠ _; omega)))
    (H3.out.1.keeps K314 (fun b hb => by subst hb; exact no4 _ (by omega) (by omega) (by omega) (by omega)))
    (H4.out.1.keeps K414 (fun b hb => by subst hb; exact no4 _ (by omega) (by omega) (by omega) (by omega)))
    (K1214.heap wk12 (by omega))
    (K1114.heap hF.fm (no2 _ (fun h => (hSL _ h).2.2.1 rfl) (by omega)))
    (K1114.cell hF.al (no2 _ (fun h => (hSL _ h).2.2.2.2.1 rfl) (by show g ≠ _; omega)))
    (hF.en.keeps K1114 (fun b hb => no2 b (fun h => (hSL _ h).2.2.2.2.2 hb) (by have := (hF.se b hb).1; omega)))
    (hlo12.keeps K1214 (fun b hb e => by
      have e : b = w4.heap.size + 1 := e
      rcases hb with hb | ⟨hb, _⟩
      · have := (hSL b hb).1; omega
      · have hb : w11.heap.size ≤ b := hb
        omega))
    hgi htk hF.cp1
    ((HK4.out).trans2 K414 (fun i hi e => by
      rcases e with (e | e) | e | e
      · omega
      · omega
      · have := (hSL i e).1; omega
      · omega))
    (by rw [cell_block rg14]; rfl) (by rw [cell_block rg14]; rfl) (by rw [cell_block rg14]; rfl) (by rw [cell_block rg14]; rfl)
    (fun b hb => by have := (hF.se b hb).2.1; omega) (fun b hb => by
      rcases hb with hb | ⟨_, hb⟩
      · have := (hSL b hb).2.1; omega
      · omega) (fun b hb => by have := hb.2; omega) (fun b hb => by have := hb.1.2; omega)
    (by omega) (by omega) ⟨i3, i1⟩ (by omega) (by omega) z810 ⟨by omega, by omega, by omega, by omega, by omega, by omega⟩
    (fun b hb => by have := hF.se b hb; omega)
    (fun b hb => by
      rcases hb with hb | ⟨hb, _⟩
      · have := hSL b hb; exact ⟨this.1, this.2.2.1, this.2.2.2.1, this.2.2.2.2.1, this.2.2.2.2.2⟩
      · have hb : w11.heap.size ≤ b := hb
        exact ⟨Or.inr (by omega), by omega, by omega, by omega, fun h => by have := (hF.se b h).2.1; omega⟩)
    (fun b hb => hb) (fun b hb => ⟨hb.1.1, hb.1.2, hb.2⟩)
  exact ⟨_, I, col, rfl, hR⟩
end Go.Proofs.YtgobcnheemocnaaGreatDoor
end
