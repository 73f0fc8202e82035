/-
  Tokens, the parser's steps, which texts are patterns, how deep parentheses stand: plain Lean.
-/
import Derived.Test.YtapmdhejgnplaaaGreatMg12
import Derived.Test.YtapmdhejgnplaaaGreatMg8
namespace Go.Proofs.YtapmdhejgnplaaaGreat
open Go.RowKit
set_option linter.unusedVariables false
set_option linter.unusedSimpArgs false
set_option maxRecDepth 100000
end Go.Proofs.YtapmdhejgnplaaaGreat
section
set_option linter.unusedVariables false
set_option linter.unusedSimpArgs false
namespace Go.Proofs.YtapmdhejgnplaaaGreat
section
open Go.RowKit
set_option maxRecDepth 100000
inductive Tok where
 | pt (s : LI) : Tok
 | sg (r : Int) : Tok
 | ct (m x : Int) : Tok
def endT (al ps : List T) : T := xa4 5 (al ++ [xa4 4 ps])
def repT (ps : List T) (m x : Int) : List T := ps.dropLast ++ [⟨6, [], m, x, F.ofL [ps.getLast?.getD xa1]⟩]
def rdM : Nat -> Int -> List Tok -> List T -> List T -> Bool -> Option (T × List Tok)
 | 0, _, _, _, _, _ => none
 | n + 1, d, l, al, ps, lo =>
  match l with
  | [] => some (endT al ps, [])
  | .pt s :: r => rdM n d r al (ps ++ [xbw s]) true
  | .ct m x :: r => if lo = true then rdM n d r al (repT ps m x) false else none
  | .sg c :: r =>
   if c = 124 then rdM n d r (al ++ [xa4 4 ps]) [] false
   else if c = 94 then rdM n d r al (ps ++ [⟨2, [], 0, 0, .nil⟩]) false
   else if c = 36 then rdM n d r al (ps ++ [⟨3, [], 0, 0, .nil⟩]) false
   else if c = 41 then some (endT al ps, .sg c :: r)
   else if 10 < d + 1 then none
   else match rdM n (d + 1) r [] [] false with
    | some (t, .sg 41 :: r') => rdM n d r' al (ps ++ [t]) true
    | _ => none
def xaD : Nat -> List Tok -> Option (List Tok × List Tok)
 | _, [] => none
 | k, .sg c :: r =>
  if c = 40 then (xaD (k + 1) r).map fun p => (.sg c :: p.1, p.2)
  else if c = 41 then (if k = 0 then some ([], r) else (xaD (k - 1) r).map fun p => (.sg c :: p.1, p.2))
  else (xaD k r).map fun p => (.sg c :: p.1, p.2)
 | k, .pt s :: r => (xaD k r).map fun p => (.pt s :: p.1, p.2)
 | k, .ct m x :: r => (xaD k r).map fun p => (.ct m x :: p.1, p.2)
def Tok.ok : Tok -> Prop
 | .sg c => c = 124 \/ c = 94 \/ c = 36 \/ c = 41 \/ c = 40
 | _ => True
def xaG : Nat -> Int -> List Tok -> List T -> List T -> Bool -> Option T
 | 0, _, _, _, _, _ => none
 | n + 1, d, l, al, ps, lo =>
  match l with
  | [] => some (endT al ps)
  | .pt s :: r => xaG n d r al (ps ++ [xbw s]) true
  | .ct m x :: r => if lo = true then xaG n d r al (repT ps m x) false else none
  | .sg c :: r =>
   if c = 124 then xaG n d r (al ++ [xa4 4 ps]) [] false
   else if c = 94 then xaG n d r al (ps ++ [⟨2, [], 0, 0, .nil⟩]) false
   else if c = 36 then xaG n d r al (ps ++ [⟨3, [], 0, 0, .nil⟩]) false
   else if c = 41 then none
   else match xaD 0 r with
    | none => none
    | some (l1, r') => if 10 < d + 1 then none else match xaG n (d + 1) l1 [] [] false with
     | none => none
     | some t => xaG n d r' al (ps ++ [t]) true
theorem xcC : ∀ (l : List Tok) (k : Nat) (l1 r : List Tok), xaD k l = some (l1, r) -> l = l1 ++ .sg 41 :: r := by
 intro l
 induction l with
 | nil => intro k l1 r h; simp [xaD] at h
 | cons t l ih =>
  intro k l1 r h
  cases t with
  | pt s =>
   simp only [xaD, Option.map_eq_some_iff] at h
   obtain ⟨⟨p, q⟩, h1, h2⟩ := h
   obtain ⟨rfl, rfl⟩ := Prod.mk.inj h2
   rw [ih _ _ _ h1]; rfl
  | ct m x =>
   simp only [xaD, Option.map_eq_some_iff] at h
   obtain ⟨⟨p, q⟩, h1, h2⟩ := h
   obtain ⟨rfl, rfl⟩ := Prod.mk.inj h2
   rw [ih _ _ _ h1]; rfl
  | sg c =>
   by_cases h40 : c = 40
   · rw [xaD, if_pos h40, Option.map_eq_some_iff] at h
     obtain ⟨⟨p, q⟩, h1, h2⟩ := h
     obtain ⟨rfl, rfl⟩ := Prod.mk.inj h2
     rw [ih _ _ _ h1]; rfl
   by_cases h41 : c = 41
   · rw [xaD, if_neg h40, if_pos h41] at h
     by_cases hk : k = 0
     · rw [if_pos hk] at h
       simp only [Option.some.injEq, Prod.mk.injEq] at h; obtain ⟨rfl, rfl⟩ := h; rw [h41]; rfl
     rw [if_neg hk] at h
     simp only [Option.map_eq_some_iff] at h
     obtain ⟨⟨p, q⟩, h1, h2⟩ := h
     obtain ⟨rfl, rfl⟩ := Prod.mk.inj h2
     rw [ih _ _ _ h1]; rfl
   rw [xaD, if_neg h40, if_neg h41, Option.map_eq_some_iff] at h
   obtain ⟨⟨p, q⟩, h1, h2⟩ := h
   obtain ⟨rfl, rfl⟩ := Prod.mk.inj h2
   rw [ih _ _ _ h1]; rfl
def Bal (l : List Tok) : Prop := ∀ k r, xaD k (l ++ r) = (xaD k r).map fun p => (l ++ p.1, p.2)
theorem Bal.nil : Bal [] := fun k r => by cases h : xaD k r <;> simp [h]
theorem Bal.app {a b : List Tok} (ha : Bal a) (hb : Bal b) : Bal (a ++ b) := fun k r => by
 rw [List.append_assoc, ha, hb]; cases xaD k r <;> simp
theorem Bal.pt (s : LI) : Bal [.pt s] := fun k r => by simp [xaD]
theorem Bal.ct (m x : Int) : Bal [.ct m x] := fun k r => by simp [xaD]
theorem Bal.sg {c : Int} (h1 : c ≠ 40) (h2 : c ≠ 41) : Bal [.sg c] := fun k r => by simp [xaD, h1, h2]
theorem Bal.par {l : List Tok} (h : Bal l) : Bal (.sg 40 :: (l ++ [.sg 41])) := fun k r => by
 have h1 : xaD k (.sg 40 :: (l ++ [.sg 41]) ++ r) = (xaD (k + 1) (l ++ (.sg 41 :: r))).map fun p => (.sg 40 :: p.1, p.2) := by
  simp [xaD]
 rw [h1, h, xaD, if_neg (by omega), if_pos rfl, if_neg (by omega), Nat.add_sub_cancel]
 cases xaD k r <;> simp
theorem Bal.close {l : List Tok} (h : Bal l) (r : List Tok) : xaD 0 (l ++ .sg 41 :: r) = some (l, r) := by
 rw [h, xaD, if_neg (by omega), if_pos rfl, if_pos rfl]; simp
def stopT (r : List Tok) : Prop := r = [] \/ ∃ r', r = .sg 41 :: r'
theorem xfZ : ∀ n d l al ps lo t r, (∀ k ∈ l, Tok.ok k) -> rdM n d l al ps lo = some (t, r) -> stopT r /\ ∃ l1, l = l1 ++ r /\ Bal l1 /\ xaG n d l1 al ps lo = some t := by
 intro n
 induction n with
 | zero => intro d l al ps lo t r _ h; simp [rdM] at h
 | succ n ih =>
  intro d l al ps lo t r hok h
  rcases l with _ | ⟨k, l⟩
  · simp only [rdM, Option.some.injEq, Prod.mk.injEq] at h
    obtain ⟨rfl, rfl⟩ := h
    exact ⟨Or.inl rfl, [], rfl, Bal.nil, rfl⟩
  have hok2 : ∀ k ∈ l, Tok.ok k := fun x hx => hok x (by simp [hx])
  cases k with
  | pt s =>
   rw [rdM] at h
   obtain ⟨h1, l1, rfl, h3, h4⟩ := ih _ _ _ _ _ _ _ hok2 h
   exact ⟨h1, .pt s :: l1, rfl, (Bal.pt s).app h3, by rw [xaG]; exact h4⟩
  | ct m x =>
   rw [rdM] at h
   by_cases hlo : lo = true
   · simp only [hlo, if_true] at h
     obtain ⟨h1, l1, rfl, h3, h4⟩ := ih _ _ _ _ _ _ _ hok2 h
     exact ⟨h1, .ct m x :: l1, rfl, (Bal.ct m x).app h3, by rw [xaG]; simp only [hlo, if_true]; exact h4⟩
   simp only [if_neg hlo] at h; cases h
  | sg c =>
   have hc := hok (.sg c) (by simp)
   rw [rdM] at h
   by_cases c1 : c = 124
   · simp only [if_pos c1] at h
     obtain ⟨h1, l1, rfl, h3, h4⟩ := ih _ _ _ _ _ _ _ hok2 h
     exact ⟨h1, .sg c :: l1, rfl, (Bal.sg (by omega) (by omega)).app h3, by rw [xaG]; simp only [if_pos c1]; exact h4⟩
   by_cases c2 : c = 94
   · simp only [if_neg c1, if_pos c2] at h
     obtain ⟨h1, l1, rfl, h3, h4⟩ := ih _ _ _ _ _ _ _ hok2 h
     exact ⟨h1, .sg c :: l1, rfl, (Bal.sg (by omega) (by omega)).app h3, by rw [xaG]; simp only [if_neg c1, if_pos c2]; exact h4⟩
   by_cases c3 : c = 36
   · simp only [if_neg c1, if_neg c2, if_pos c3] at h
     obtain ⟨h1, l1, rfl, h3, h4⟩ := ih _ _ _ _ _ _ _ hok2 h
     exact ⟨h1, .sg c :: l1, rfl, (Bal.sg (by omega) (by omega)).app h3, by rw [xaG]; simp only [if_neg c1, if_neg c2, if_pos c3]; exact h4⟩
   by_cases c4 : c = 41
   · simp only [if_neg c1, if_neg c2, if_neg c3, if_pos c4, Option.some.injEq, Prod.mk.injEq] at h
     obtain ⟨rfl, rfl⟩ := h
     exact ⟨Or.inr ⟨l, by rw [c4]⟩, [], rfl, Bal.nil, rfl⟩
   have c5 : c = 40 := by rcases hc with h | h | h | h | h <;> first | exact h | contradiction
   simp only [if_neg c1, if_neg c2, if_neg c3, if_neg c4] at h
   by_cases hd : 10 < d + 1
   · simp only [if_pos hd] at h; cases h
   simp only [if_neg hd] at h
   cases hx : rdM n (d + 1) l [] [] false with
   | none => rw [hx] at h; cases h
   | some p =>
    obtain ⟨t1, r1⟩ := p
    rw [hx] at h
    obtain ⟨g1, l1, rfl, g3, g4⟩ := ih _ _ _ _ _ _ _ hok2 hx
    rcases g1 with rfl | ⟨r', rfl⟩
    · simp at h
    simp only at h
    obtain ⟨h1, l2, rfl, h3, h4⟩ := ih _ _ _ _ _ _ _ (fun x hx => hok2 x (by simp [hx])) h
    refine ⟨h1, .sg 40 :: (l1 ++ [.sg 41]) ++ l2, by rw [c5]; simp, g3.par.app h3, ?_⟩
    have e : (.sg 40 :: (l1 ++ [.sg 41]) ++ l2 : List Tok) = .sg 40 :: (l1 ++ .sg 41 :: l2) := by simp
    rw [e, xaG]
    rw [if_neg (by omega), if_neg (by omega), if_neg (by omega), if_neg (by omega), g3.close, ]
    simp only [if_neg hd, g4]
    exact h4
theorem xkG : ∀ n d l al ps lo t, xaG n d l al ps lo = some t -> ∀ r, stopT r -> rdM n d (l ++ r) al ps lo = some (t, r) := by
 intro n
 induction n with
 | zero => intro d l al ps lo t h; simp [xaG] at h
 | succ n ih =>
  intro d l al ps lo t h r hr
  rcases l with _ | ⟨k, l⟩
  · simp only [xaG, Option.some.injEq] at h
    subst h
    rcases hr with rfl | ⟨r', rfl⟩
    · rfl
    rfl
  cases k with
  | pt s => rw [xaG] at h; exact ih _ _ _ _ _ _ h r hr
  | ct m x =>
   rw [xaG] at h
   show (if lo = true then rdM n d (l ++ r) al (repT ps m x) false else none) = _
   by_cases hlo : lo = true
   · simp only [hlo, if_true] at h ⊢; exact ih _ _ _ _ _ _ h r hr
   simp only [if_neg hlo] at h; cases h
  | sg c =>
   rw [xaG] at h
   rw [List.cons_append, rdM]
   by_cases c1 : c = 124
   · simp only [if_pos c1] at h ⊢; exact ih _ _ _ _ _ _ h r hr
   by_cases c2 : c = 94
   · simp only [if_neg c1, if_pos c2] at h ⊢; exact ih _ _ _ _ _ _ h r hr
   by_cases c3 : c = 36
   · simp only [if_neg c1, if_neg c2, if_pos c3] at h ⊢; exact ih _ _ _ _ _ _ h r hr
   by_cases c4 : c = 41
   · simp only [if_neg c1, if_neg c2, if_neg c3, if_pos c4] at h; cases h
   simp only [if_neg c1, if_neg c2, if_neg c3, if_neg c4] at h ⊢
   cases hx : xaD 0 l with
   | none => rw [hx] at h; cases h
   | some p =>
    obtain ⟨l1, r1⟩ := p
    rw [hx] at h
    simp only at h
    by_cases hd : 10 < d + 1
    · simp only [if_pos hd] at h; cases h
    simp only [if_neg hd] at h ⊢
    cases hy : xaG n (d + 1) l1 [] [] false with
    | none => rw [hy] at h; cases h
    | some t1 =>
     rw [hy] at h
     simp only at h
     have e := xcC _ _ _ _ hx
     have h1 := ih _ _ _ _ _ _ hy (.sg 41 :: (r1 ++ r)) (Or.inr ⟨_, rfl⟩)
     have e2 : l ++ r = l1 ++ .sg 41 :: (r1 ++ r) := by rw [e]; simp
     rw [e2, h1]
     exact ih _ _ _ _ _ _ h r hr
theorem treeM_fuel : ∀ n m d l al ps lo, l.length < n -> l.length < m -> xaG n d l al ps lo = xaG m d l al ps lo := by
 intro n
 induction n with
 | zero => intro m d l al ps lo h; omega
 | succ n ih =>
  intro m d l al ps lo hn hm
  obtain ⟨m, rfl⟩ : ∃ k, m = k + 1 := ⟨m - 1, by omega⟩
  rcases l with _ | ⟨k, l⟩
  · rfl
  simp only [List.length_cons] at hn hm
  cases k with
  | pt s => exact ih _ _ _ _ _ _ (by omega) (by omega)
  | ct m' x =>
   rw [xaG, xaG]
   by_cases hlo : lo = true
   · simp only [hlo, if_true]; exact ih _ _ _ _ _ _ (by omega) (by omega)
   simp only [if_neg hlo]
  | sg c =>
   rw [xaG, xaG]
   split
   · exact ih _ _ _ _ _ _ (by omega) (by omega)
   split
   · exact ih _ _ _ _ _ _ (by omega) (by omega)
   split
   · exact ih _ _ _ _ _ _ (by omega) (by omega)
   split
   · rfl
   cases hx : xaD 0 l with
   | none => rfl
   | some p =>
    obtain ⟨l1, r1⟩ := p
    have e := xcC _ _ _ _ hx
    have hle : l1.length + 1 + r1.length = l.length := by rw [e]; simp; omega
    simp only
    split
    · rfl
    rw [ih m (d + 1) l1 [] [] false (by omega) (by omega)]
    cases xaG m (d + 1) l1 [] [] false with
    | none => rfl
    | some t => exact ih _ _ _ _ _ _ (by omega) (by omega)
theorem xmU : ∀ n m d l al ps lo, (∀ k ∈ l, Tok.ok k) -> l.length < n -> l.length < m -> rdM n d l al ps lo = rdM m d l al ps lo := by
 intro n
 induction n with
 | zero => intro m d l al ps lo _ h; omega
 | succ n ih =>
  intro m d l al ps lo hok hn hm
  obtain ⟨m, rfl⟩ : ∃ k, m = k + 1 := ⟨m - 1, by omega⟩
  rcases l with _ | ⟨k, l⟩
  · rfl
  have hok2 : ∀ k ∈ l, Tok.ok k := fun x hx => hok x (by simp [hx])
  simp only [List.length_cons] at hn hm
  cases k with
  | pt s => exact ih _ _ _ _ _ _ hok2 (by omega) (by omega)
  | ct m' x =>
   rw [rdM, rdM]
   by_cases hlo : lo = true
   · simp only [hlo, if_true]; exact ih _ _ _ _ _ _ hok2 (by omega) (by omega)
   simp only [if_neg hlo]
  | sg c =>
   rw [rdM, rdM]
   split
   · exact ih _ _ _ _ _ _ hok2 (by omega) (by omega)
   split
   · exact ih _ _ _ _ _ _ hok2 (by omega) (by omega)
   split
   · exact ih _ _ _ _ _ _ hok2 (by omega) (by omega)
   split
   · rfl
   split
   · rfl
   rw [ih m (d + 1) l [] [] false hok2 (by omega) (by omega)]
   cases hx : rdM m (d + 1) l [] [] false with
   | none => rfl
   | some p =>
    obtain ⟨t, r1⟩ := p
    obtain ⟨g1, l1, e, _, _⟩ := xfZ _ _ _ _ _ _ _ _ hok2 hx
    rcases g1 with rfl | ⟨r', rfl⟩
    · rfl
    have hle : l1.length + 1 + r'.length = l.length := by rw [e]; simp; omega
    exact ih _ _ _ _ _ _ (fun x hx => hok2 x (by rw [e]; simp [hx])) (by omega) (by omega)
end
end Go.Proofs.YtapmdhejgnplaaaGreat
namespace Go.Proofs.YtapmdhejgnplaaaGreat
section
open Go.RowKit
set_option maxRecDepth 100000
def escP (r : Int) : Option (LI × Bool) := if xcz r then some (xav r, false) else if xcp r then none else some ([(escR r, escR r)], true)
def ptP : List Int -> Option (LI × Bool × Nat)
 | [] => none
 | r :: l => if r = 92 then (match l with | [] => none | r2 :: _ => (escP r2).map fun p => (p.1, p.2, 2)) else if amg npL r then none else some ([(r, r)], true, 1)
def clG : Nat -> Bool -> List Int -> LI -> Nat -> Option (LI × Nat)
 | 0, _, _, _, _ => none
 | n + 1, first, l, all, k =>
  if first = false /\ l.head? = some 93 then some (all, k + 1)
  else match ptP l with
   | none => none
   | some (s, is, a) =>
    if is = true /\ (l.drop a).head? = some 45 then
     match ptP (l.drop (a + 1)) with
     | none => none
     | some (t, too, b) => if too = false \/ lo1 t < lo1 s then none else clG n false (l.drop (a + 1 + b)) (all ++ [(lo1 s, lo1 t)]) (k + a + 1 + b)
    else clG n false (l.drop a) (all ++ s) (k + a)
noncomputable def clP (l : List Int) : Option (LI × Nat) :=
 if l.head? = some 94 then (clG (l.length + 1) true (l.drop 1) [] 1).map fun p => (notL p.1, p.2)
 else (clG (l.length + 1) true l [] 0).map fun p => (ofL p.1, p.2)
def num0 : List Int -> Int × Nat
 | [] => (0, 0)
 | a :: l => if dig a then (match l with | [] => (a - 48, 1) | b :: _ => if dig b then ((a - 48) * 10 + b - 48, 2) else (a - 48, 1)) else (0, 0)
def numP (l : List Int) : Int × Nat := if 50 < (num0 l).1 then (0, 0) else num0 l
def brP (l : List Int) : Option (Int × Int × Nat) :=
 if (numP l).2 = 0 then none
 else match l.drop (numP l).2 with
  | [] => none
  | c :: l2 =>
   if c = 125 then some ((numP l).1, (numP l).1, (numP l).2 + 1)
   else if c = 44 then
    (match l2 with
    | [] => none
    | d :: _ => if d = 125 then some ((numP l).1, -1, (numP l).2 + 2)
     else if (numP l2).2 = 0 \/ (numP l2).1 < (numP l).1 then none
     else if (l2.drop (numP l2).2).head? = some 125 then some ((numP l).1, (numP l2).1, (numP l).2 + (numP l2).2 + 2) else none)
   else none
noncomputable def tokP : List Int -> Option (Tok × Nat)
 | [] => none
 | r :: l =>
  if r = 124 \/ r = 40 \/ r = 41 \/ r = 94 \/ r = 36 then some (.sg r, 1)
  else if r = 42 then some (.ct 0 (-1), 1) else if r = 43 then some (.ct 1 (-1), 1) else if r = 63 then some (.ct 0 1, 1)
  else if r = 123 then (brP l).map fun p => (.ct p.1 p.2.1, p.2.2 + 1)
  else if r = 46 then some (.pt [(0, 9), (11, 1114111)], 1)
  else if r = 91 then (clP l).map fun p => (.pt p.1, p.2 + 1)
  else if r = 92 then (match l with | [] => none | r2 :: _ => (escP r2).map fun p => (.pt p.1, 2))
  else if r = 93 \/ r = 125 then none
  else some (.pt [(r, r)], 1)
noncomputable def xgu : Nat -> List Int -> Option (List Tok)
 | _, [] => some []
 | 0, _ :: _ => none
 | n + 1, r :: l => match tokP (r :: l) with
  | none => none
  | some (t, k) => (xgu n ((r :: l).drop k)).map (t :: ·)
noncomputable def toks (l : List Int) : Option (List Tok) := xgu l.length l
theorem xbH (r : Int) (l : List Int) : ptP (r :: l) = if r = 92 then (match l with | [] => none | r2 :: _ => (escP r2).map fun p => (p.1, p.2, 2)) else if amg npL r then none else some ([(r, r)], true, 1) := rfl
theorem xaY (a : Int) (l : List Int) : num0 (a :: l) = if dig a then (match l with | [] => (a - 48, 1) | b :: _ => if dig b then ((a - 48) * 10 + b - 48, 2) else (a - 48, 1)) else (0, 0) := rfl
theorem xas (r : Int) (l : List Int) : tokP (r :: l) = if r = 124 \/ r = 40 \/ r = 41 \/ r = 94 \/ r = 36 then some (.sg r, 1)
 else if r = 42 then some (.ct 0 (-1), 1) else if r = 43 then some (.ct 1 (-1), 1) else if r = 63 then some (.ct 0 1, 1)
 else if r = 123 then (brP l).map fun p => (.ct p.1 p.2.1, p.2.2 + 1)
 else if r = 46 then some (.pt [(0, 9), (11, 1114111)], 1)
 else if r = 91 then (clP l).map fun p => (.pt p.1, p.2 + 1)
 else if r = 92 then (match l with | [] => none | r2 :: _ => (escP r2).map fun p => (.pt p.1, 2))
 else if r = 93 \/ r = 125 then none
 else some (.pt [(r, r)], 1) := rfl
theorem xbz {l : List Int} {s : LI} {b : Bool} {a : Nat} (h : ptP l = some (s, b, a)) : 1 <= a /\ a <= l.length /\ ∀ r, ptP (l ++ r) = some (s, b, a) := by
 rcases l with _ | ⟨c, l⟩
 · simp [ptP] at h
 rw [xbH] at h
 by_cases hc : c = 92
 · rw [if_pos hc] at h
   rcases l with _ | ⟨c2, l⟩
   · simp at h
   simp only [Option.map_eq_some_iff, Prod.mk.injEq] at h
   obtain ⟨⟨x, y⟩, h1, rfl, rfl, rfl⟩ := h
   refine ⟨by omega, by simp, fun r => ?_⟩
   simp only [List.cons_append, xbH]
   rw [if_pos hc, h1]; rfl
 rw [if_neg hc] at h
 by_cases hn : amg npL c = true
 · rw [if_pos hn] at h; cases h
 rw [if_neg hn] at h
 simp only [Option.some.injEq, Prod.mk.injEq] at h
 obtain ⟨rfl, rfl, rfl⟩ := h
 refine ⟨by omega, by simp, fun r => ?_⟩
 simp only [List.cons_append, xbH]
 rw [if_neg hc, if_neg hn]
theorem xbK {l r : List Int} {a : Nat} (h : a <= l.length) : (l ++ r).drop a = l.drop a ++ r := by
 rw [List.drop_append_of_le_length h]
theorem xee {l r : List Int} {c : Int} (h : l.head? = some c) : (l ++ r).head? = some c := by
 cases l with
 | nil => simp at h
 | cons x l => simpa using h
theorem xcF : ∀ (n : Nat) (f : Bool) (l : List Int) (all : LI) (k : Nat) (x : LI) (j : Nat), clG n f l all k = some (x, j) -> k + 1 <= j /\ j <= k + l.length /\ ∀ r m, l.length + r.length < m -> clG m f (l ++ r) all k = some (x, j) := by
 intro n
 induction n with
 | zero => intro f l all k x j h; simp [clG] at h
 | succ n ih =>
  intro f l all k x j h
  rw [clG] at h
  by_cases hs : f = false /\ l.head? = some 93
  · rw [if_pos hs] at h
    simp only [Option.some.injEq, Prod.mk.injEq] at h
    obtain ⟨rfl, rfl⟩ := h
    have hl : 1 <= l.length := by
     rcases l with _ | ⟨c, l⟩
     · simp at hs
     simp
    refine ⟨by omega, by omega, fun r m hm => ?_⟩
    obtain ⟨m, rfl⟩ : ∃ k, m = k + 1 := ⟨m - 1, by omega⟩
    rw [clG, if_pos ⟨hs.1, xee hs.2⟩]
  rw [if_neg hs] at h
  cases hp : ptP l with
  | none => rw [hp] at h; cases h
  | some q =>
   obtain ⟨s, b, a⟩ := q
   rw [hp] at h
   simp only at h
   obtain ⟨ha1, ha2, hpl⟩ := xbz hp
   have hns : ∀ r, ¬ (f = false /\ (l ++ r).head? = some 93) := fun r hh => hs ⟨hh.1, by
    rcases l with _ | ⟨c, l⟩
    · simp at ha2; omega
    simpa using hh.2⟩
   by_cases hd : b = true /\ (l.drop a).head? = some 45
   · rw [if_pos hd] at h
     cases hp2 : ptP (l.drop (a + 1)) with
     | none => rw [hp2] at h; cases h
     | some q2 =>
      obtain ⟨t, too, b2⟩ := q2
      rw [hp2] at h
      simp only at h
      obtain ⟨hb1, hb2, hpl2⟩ := xbz hp2
      rw [List.length_drop] at hb2
      by_cases hbad : too = false \/ lo1 t < lo1 s
      · rw [if_pos hbad] at h; cases h
      rw [if_neg hbad] at h
      obtain ⟨h1, h2, h3⟩ := ih _ _ _ _ _ _ h
      rw [List.length_drop] at h2 h3
      refine ⟨by omega, by omega, fun r m hm => ?_⟩
      obtain ⟨m, rfl⟩ : ∃ k, m = k + 1 := ⟨m - 1, by omega⟩
      rw [clG, if_neg (hns r), hpl r]
      simp only
      rw [xbK ha2, if_pos ⟨hd.1, xee hd.2⟩, xbK (by omega), hpl2 r]
      simp only
      rw [if_neg hbad, xbK (by omega)]
      exact h3 r m (by omega)
   rw [if_neg hd] at h
   obtain ⟨h1, h2, h3⟩ := ih _ _ _ _ _ _ h
   rw [List.length_drop] at h2 h3
   have hlt : a < l.length := by omega
   refine ⟨by omega, by omega, fun r m hm => ?_⟩
   obtain ⟨m, rfl⟩ : ∃ k, m = k + 1 := ⟨m - 1, by omega⟩
   rw [clG, if_neg (hns r), hpl r]
   simp only
   have hnd : ¬ (b = true /\ ((l ++ r).drop a).head? = some 45) := fun hh => hd ⟨hh.1, by
    have h5 := hh.2
    rw [xbK ha2] at h5
    cases hq : l.drop a with
    | nil => rw [List.drop_eq_nil_iff] at hq; omega
    | cons c l' => rw [hq] at h5; simpa using h5⟩
   rw [if_neg hnd, xbK ha2]
   exact h3 r m (by omega)
theorem xe1 {l : List Int} {x : LI} {j : Nat} (h : clP l = some (x, j)) : 1 <= j /\ j <= l.length /\ ∀ r, clP (l ++ r) = some (x, j) := by
 unfold clP at h
 by_cases hc : l.head? = some 94
 · rw [if_pos hc] at h
   simp only [Option.map_eq_some_iff, Prod.mk.injEq] at h
   obtain ⟨⟨y, j'⟩, h1, rfl, rfl⟩ := h
   obtain ⟨g1, g2, g3⟩ := xcF _ _ _ _ _ _ _ h1
   have hl : 1 <= l.length := by
    rcases l with _ | ⟨c, l⟩
    · simp at hc
    simp
   rw [List.length_drop] at g2 g3
   refine ⟨by omega, by omega, fun r => ?_⟩
   unfold clP
   rw [if_pos (xee hc), xbK hl, g3 r _ (by simp; omega)]
   rfl
 rw [if_neg hc] at h
 simp only [Option.map_eq_some_iff, Prod.mk.injEq] at h
 obtain ⟨⟨y, j'⟩, h1, rfl, rfl⟩ := h
 obtain ⟨g1, g2, g3⟩ := xcF _ _ _ _ _ _ _ h1
 refine ⟨by omega, by omega, fun r => ?_⟩
 unfold clP
 rw [if_neg, g3 r _ (by simp)]
 · rfl
 intro hh
 rcases l with _ | ⟨c, l⟩
 · simp at g2; omega
 exact hc (by simpa using hh)
theorem num0_le (l : List Int) : (num0 l).2 <= l.length := by
 unfold num0
 rcases l with _ | ⟨a, _ | ⟨b, l⟩⟩
 · simp
 · simp only; split <;> simp
 simp only; split
 · split <;> simp
 simp
theorem xlu (l : List Int) : (numP l).2 <= l.length := by
 unfold numP; split
 · simp
 exact num0_le l
theorem xnb {l : List Int} (h : (num0 l).2 < l.length) (r : List Int) : num0 (l ++ r) = num0 l := by
 rcases l with _ | ⟨a, _ | ⟨b, l⟩⟩
 · simp at h
 · rw [xaY] at h
   by_cases ha : dig a = true
   · rw [if_pos ha] at h; simp at h
   have ha2 : dig a = false := by simpa using ha
   show num0 (a :: r) = _
   rw [xaY, xaY, ha2]
   simp
 rfl
theorem xiQ {l : List Int} (h : (numP l).2 < l.length) (h0 : (numP l).2 ≠ 0) (r : List Int) : numP (l ++ r) = numP l := by
 have hn : ¬ 50 < (num0 l).1 := by
  intro hc; unfold numP at h0; rw [if_pos hc] at h0; simp at h0
 have e : numP l = num0 l := by unfold numP; rw [if_neg hn]
 rw [e] at h ⊢
 have := xnb h r
 unfold numP
 rw [this, if_neg hn]
theorem xe4 {l : List Int} {a b : Int} {k : Nat} (h : brP l = some (a, b, k)) : 1 <= k /\ k <= l.length /\ ∀ r, brP (l ++ r) = some (a, b, k) := by
 unfold brP at h
 by_cases h0 : (numP l).2 = 0
 · rw [if_pos h0] at h; cases h
 rw [if_neg h0] at h
 have hle := xlu l
 cases hd : l.drop (numP l).2 with
 | nil => rw [hd] at h; cases h
 | cons c l2 =>
  rw [hd] at h
  simp only at h
  have hlen : (numP l).2 + (l2.length + 1) = l.length := by
   have := congrArg List.length hd
   rw [List.length_drop, List.length_cons] at this; omega
  have happ : ∀ r, numP (l ++ r) = numP l := xiQ (by omega) h0
  have hdr : ∀ r, (l ++ r).drop (numP l).2 = c :: (l2 ++ r) := fun r => by rw [xbK hle, hd]; rfl
  by_cases hc : c = 125
  · rw [if_pos hc] at h
    simp only [Option.some.injEq, Prod.mk.injEq] at h
    obtain ⟨rfl, rfl, rfl⟩ := h
    refine ⟨by omega, by omega, fun r => ?_⟩
    unfold brP
    rw [happ, if_neg h0, hdr]
    simp only
    rw [if_pos hc]
  rw [if_neg hc] at h
  by_cases hc2 : c = 44
  · rw [if_pos hc2] at h
    rcases l2 with _ | ⟨d, l3⟩
    · simp at h
    simp only at h
    by_cases hd2 : d = 125
    · rw [if_pos hd2] at h
      simp only [Option.some.injEq, Prod.mk.injEq] at h
      obtain ⟨rfl, rfl, rfl⟩ := h
      simp only [List.length_cons] at hlen
      refine ⟨by omega, by omega, fun r => ?_⟩
      unfold brP
      rw [happ, if_neg h0, hdr]
      simp only [List.cons_append]
      rw [if_neg hc, if_pos hc2, if_pos hd2]
    rw [if_neg hd2] at h
    by_cases hm : (numP (d :: l3)).2 = 0 \/ (numP (d :: l3)).1 < (numP l).1
    · rw [if_pos hm] at h; cases h
    rw [if_neg hm] at h
    by_cases he : ((d :: l3).drop (numP (d :: l3)).2).head? = some 125
    · rw [if_pos he] at h
      simp only [Option.some.injEq, Prod.mk.injEq] at h
      obtain ⟨rfl, rfl, rfl⟩ := h
      have hle2 := xlu (d :: l3)
      have hlt2 : (numP (d :: l3)).2 < (d :: l3).length := by
       rcases Nat.lt_or_ge (numP (d :: l3)).2 (d :: l3).length with hh | hh
       · exact hh
       rw [List.drop_eq_nil_of_le hh] at he; simp at he
      have happ2 := xiQ hlt2 (by omega)
      refine ⟨by omega, by omega, fun r => ?_⟩
      unfold brP
      rw [happ, if_neg h0, hdr]
      have e2 : numP (d :: (l3 ++ r)) = numP (d :: l3) := happ2 r
      have e3 : ((d :: (l3 ++ r)).drop (numP (d :: l3)).2).head? = some 125 := by
       have : (d :: (l3 ++ r)) = (d :: l3) ++ r := rfl
       rw [this, xbK hle2]; exact xee he
      simp only [List.cons_append]
      rw [if_neg hc, if_pos hc2, if_neg hd2, e2, if_neg hm, if_pos e3]
    rw [if_neg he] at h; cases h
  rw [if_neg hc2] at h; cases h
theorem xb3 {l : List Int} {t : Tok} {k : Nat} (h : tokP l = some (t, k)) : 1 <= k /\ k <= l.length /\ t.ok /\ ∀ r, tokP (l ++ r) = some (t, k) := by
 rcases l with _ | ⟨c, l⟩
 · simp [tokP] at h
 rw [xas] at h
 have e : ∀ r, tokP (c :: l ++ r) = tokP (c :: (l ++ r)) := fun r => rfl
 by_cases h1 : c = 124 \/ c = 40 \/ c = 41 \/ c = 94 \/ c = 36
 · rw [if_pos h1] at h
   simp only [Option.some.injEq, Prod.mk.injEq] at h
   obtain ⟨rfl, rfl⟩ := h
   refine ⟨by omega, by simp, ?_, fun r => by rw [e, xas, if_pos h1]⟩
   show c = 124 \/ c = 94 \/ c = 36 \/ c = 41 \/ c = 40
   omega
 rw [if_neg h1] at h
 by_cases h2 : c = 42
 · rw [if_pos h2] at h
   simp only [Option.some.injEq, Prod.mk.injEq] at h
   obtain ⟨rfl, rfl⟩ := h
   exact ⟨by omega, by simp, trivial, fun r => by rw [e, xas, if_neg h1, if_pos h2]⟩
 rw [if_neg h2] at h
 by_cases h3 : c = 43
 · rw [if_pos h3] at h
   simp only [Option.some.injEq, Prod.mk.injEq] at h
   obtain ⟨rfl, rfl⟩ := h
   exact ⟨by omega, by simp, trivial, fun r => by rw [e, xas, if_neg h1, if_neg h2, if_pos h3]⟩
 rw [if_neg h3] at h
 by_cases h4 : c = 63
 · rw [if_pos h4] at h
   simp only [Option.some.injEq, Prod.mk.injEq] at h
   obtain ⟨rfl, rfl⟩ := h
   exact ⟨by omega, by simp, trivial, fun r => by rw [e, xas, if_neg h1, if_neg h2, if_neg h3, if_pos h4]⟩
 rw [if_neg h4] at h
 by_cases h5 : c = 123
 · rw [if_pos h5] at h
   simp only [Option.map_eq_some_iff, Prod.mk.injEq] at h
   obtain ⟨⟨a, b, j⟩, g1, rfl, rfl⟩ := h
   obtain ⟨q1, q2, q3⟩ := xe4 g1
   exact ⟨by omega, by simp; omega, trivial, fun r => by rw [e, xas, if_neg h1, if_neg h2, if_neg h3, if_neg h4, if_pos h5, q3 r]; rfl⟩
 rw [if_neg h5] at h
 by_cases h6 : c = 46
 · rw [if_pos h6] at h
   simp only [Option.some.injEq, Prod.mk.injEq] at h
   obtain ⟨rfl, rfl⟩ := h
   exact ⟨by omega, by simp, trivial, fun r => by rw [e, xas, if_neg h1, if_neg h2, if_neg h3, if_neg h4, if_neg h5, if_pos h6]⟩
 rw [if_neg h6] at h
 by_cases h7 : c = 91
 · rw [if_pos h7] at h
   simp only [Option.map_eq_some_iff, Prod.mk.injEq] at h
   obtain ⟨⟨a, j⟩, g1, rfl, rfl⟩ := h
   obtain ⟨q1, q2, q3⟩ := xe1 g1
   exact ⟨by omega, by simp; omega, trivial, fun r => by rw [e, xas, if_neg h1, if_neg h2, if_neg h3, if_neg h4, if_neg h5, if_neg h6, if_pos h7, q3 r]; rfl⟩
 rw [if_neg h7] at h
 by_cases h8 : c = 92
 · rw [if_pos h8] at h
   rcases l with _ | ⟨c2, l⟩
   · simp at h
   simp only [Option.map_eq_some_iff, Prod.mk.injEq] at h
   obtain ⟨⟨a, b⟩, g1, rfl, rfl⟩ := h
   exact ⟨by omega, by simp, trivial, fun r => by
    show tokP (c :: c2 :: (l ++ r)) = _
    rw [xas, if_neg h1, if_neg h2, if_neg h3, if_neg h4, if_neg h5, if_neg h6, if_neg h7, if_pos h8]; simp only [g1]; rfl⟩
 rw [if_neg h8] at h
 by_cases h9 : c = 93 \/ c = 125
 · rw [if_pos h9] at h; cases h
 rw [if_neg h9] at h
 simp only [Option.some.injEq, Prod.mk.injEq] at h
 obtain ⟨rfl, rfl⟩ := h
 exact ⟨by omega, by simp, trivial, fun r => by rw [e, xas, if_neg h1, if_neg h2, if_neg h3, if_neg h4, if_neg h5, if_neg h6, if_neg h7, if_neg h8, if_neg h9]⟩
theorem xjj : ∀ (n m : Nat) (l : List Int), l.length <= n -> l.length <= m -> xgu n l = xgu m l := by
 intro n
 induction n with
 | zero =>
  intro m l hn hm
  obtain rfl : l = [] := List.length_eq_zero_iff.1 (by omega)
  cases m <;> rfl
 | succ n ih =>
  intro m l hn hm
  rcases l with _ | ⟨r, l⟩
  · cases m <;> rfl
  obtain ⟨m, rfl⟩ : ∃ k, m = k + 1 := ⟨m - 1, by simp at hm; omega⟩
  rw [xgu, xgu]
  cases ht : tokP (r :: l) with
  | none => rfl
  | some q =>
   obtain ⟨t, k⟩ := q
   have hk := xb3 ht
   simp only
   simp only [List.length_cons] at hn hm
   rw [ih m _ (by rw [List.length_drop, List.length_cons]; omega) (by rw [List.length_drop, List.length_cons]; omega)]
theorem xbl : toks [] = some [] := rfl
theorem xaV {l : List Int} {t : Tok} {k : Nat} (h : tokP l = some (t, k)) : toks l = (toks (l.drop k)).map (t :: ·) := by
 rcases l with _ | ⟨r, l⟩
 · simp [tokP] at h
 have hk := xb3 h
 unfold toks
 rw [show (r :: l).length = l.length + 1 from rfl, xgu, h]
 simp only
 rw [xjj l.length _ _ (by rw [List.length_drop, List.length_cons]; omega) (Nat.le_refl _)]
theorem xbN {r : Int} {l : List Int} (h : tokP (r :: l) = none) : toks (r :: l) = none := by
 unfold toks
 rw [show (r :: l).length = l.length + 1 from rfl, xgu, h]
theorem toks_app : ∀ (n : Nat) (a b : List Int) (ta : List Tok), a.length <= n -> toks a = some ta -> toks (a ++ b) = (toks b).map (ta ++ ·) := by
 intro n
 induction n with
 | zero =>
  intro a b ta hn h
  obtain rfl : a = [] := List.length_eq_zero_iff.1 (by omega)
  rw [xbl] at h
  obtain rfl := Option.some.inj h
  simp
 | succ n ih =>
  intro a b ta hn h
  rcases a with _ | ⟨r, a⟩
  · rw [xbl] at h
    obtain rfl := Option.some.inj h
    simp
  cases ht : tokP (r :: a) with
  | none => rw [xbN ht] at h; cases h
  | some q =>
   obtain ⟨t, k⟩ := q
   obtain ⟨h1, h2, _, h3⟩ := xb3 ht
   rw [xaV ht, Option.map_eq_some_iff] at h
   obtain ⟨ts, h4, rfl⟩ := h
   rw [xaV (h3 b), xbK h2, ih _ b ts (by rw [List.length_drop]; omega) h4]
   cases toks b <;> rfl
theorem toks_ok : ∀ (n : Nat) (l : List Int) (ts : List Tok), l.length <= n -> toks l = some ts -> ∀ t ∈ ts, t.ok := by
 intro n
 induction n with
 | zero =>
  intro l ts hn h
  obtain rfl : l = [] := List.length_eq_zero_iff.1 (by omega)
  rw [xbl] at h
  obtain rfl := Option.some.inj h
  simp
 | succ n ih =>
  intro l ts hn h
  rcases l with _ | ⟨r, l⟩
  · rw [xbl] at h
    obtain rfl := Option.some.inj h
    simp
  cases ht : tokP (r :: l) with
  | none => rw [xbN ht] at h; cases h
  | some q =>
   obtain ⟨t, k⟩ := q
   obtain ⟨h1, h2, h0, h3⟩ := xb3 ht
   rw [xaV ht, Option.map_eq_some_iff] at h
   obtain ⟨ts', h4, rfl⟩ := h
   intro x hx
   rcases List.mem_cons.1 hx with rfl | hx
   · exact h0
   exact ih _ _ (by rw [List.length_drop]; omega) h4 x hx
end
end Go.Proofs.YtapmdhejgnplaaaGreat
namespace Go.Proofs.YtapmdhejgnplaaaGreat
section
open Go.RowKit
set_option maxRecDepth 100000
variable {rs : List Int} (hr : ∀ r ∈ rs, 0 <= r /\ r <= 1114111)
theorem xbV {p : Nat} (d : Int) (h : rs.drop p = []) : pk rs ⟨p, d, false⟩ = -1 := by
 rw [List.drop_eq_nil_iff] at h
 show rs.getD p (-1) = -1
 rw [List.getD_eq_getElem?_getD, List.getElem?_eq_none h]; rfl
theorem xa5 {p : Nat} {r : Int} {l : List Int} (h : rs.drop p = r :: l) : p < rs.length /\ rs.drop (p + 1) = l /\ rs[p]? = some r := by
 have hp : p < rs.length := by
  rcases Nat.lt_or_ge p rs.length with h1 | h1
  · exact h1
  rw [List.drop_eq_nil_of_le h1] at h; cases h
 rw [List.drop_eq_getElem_cons hp] at h
 obtain ⟨h1, h2⟩ := List.cons.inj h
 exact ⟨hp, h2, by rw [List.getElem?_eq_getElem hp, h1]⟩
theorem xa8 {p : Nat} (d : Int) {r : Int} {l : List Int} (h : rs.drop p = r :: l) : pk rs ⟨p, d, false⟩ = r := by
 show rs.getD p (-1) = r
 rw [List.getD_eq_getElem?_getD, (xa5 h).2.2]; rfl
include hr in
theorem xge {p : Nat} {r : Int} {l : List Int} (h : rs.drop p = r :: l) : 0 <= r := (hr r (List.mem_of_getElem? (xa5 h).2.2)).1
theorem xon {p : Nat} {d : Int} (h : rs.drop p = []) : nx rs ⟨p, d, false⟩ = ⟨p + 1, d, true⟩ := by unfold nx; rw [xbV d h]; rfl
include hr in
theorem xeJ {p : Nat} {d : Int} {r : Int} {l : List Int} (h : rs.drop p = r :: l) : nx rs ⟨p, d, false⟩ = ⟨p + 1, d, false⟩ := xjU (by rw [xa8 d h]; exact xge hr h)
theorem xiC {s : PS} (h : s.bad = true) : pk rs s = -1 := by unfold pk; rw [if_pos h]
theorem xel {s : PS} (r : Int) (h : s.bad = true) : (wt rs r s).bad = true := by
 unfold wt; split
 · exact h
 rfl
include hr in
theorem xl0 (p : Nat) (d : Int) : match rs.drop p with
 | [] => (escS rs ⟨p, d, false⟩).bad = true
 | r :: _ => match escP r with
  | none => (escS rs ⟨p, d, false⟩).bad = true
  | some (S, b) => escS rs ⟨p, d, false⟩ = ⟨p + 1, d, false⟩ /\ escL rs ⟨p, d, false⟩ = S /\ escB rs ⟨p, d, false⟩ = b := by
 cases hd : rs.drop p with
 | nil =>
  simp only
  unfold escS
  rw [xbV d hd, xon hd, if_neg (by unfold xcz; omega)]
  rfl
 | cons r l =>
  simp only
  unfold escP escS escL escB
  rw [xa8 d hd, xeJ hr hd]
  by_cases hn : xcz r
  · rw [if_pos hn]; simp [hn]
  rw [if_neg hn]
  cases hb : xcp r with
  | true => simp [hn]
  | false => simp [hn]
include hr in
theorem xoi (p : Nat) (d : Int) : match ptP (rs.drop p) with
 | none => (ptS rs ⟨p, d, false⟩).bad = true
 | some (S, b, a) => ptS rs ⟨p, d, false⟩ = ⟨p + a, d, false⟩ /\ ptL rs ⟨p, d, false⟩ = S /\ ptB rs ⟨p, d, false⟩ = b := by
 cases hd : rs.drop p with
 | nil =>
  show (ptS rs ⟨p, d, false⟩).bad = true
  unfold ptS
  rw [xbV d hd, xon hd, if_neg (by omega)]
  rfl
 | cons r l =>
  rw [xbH]
  by_cases h92 : r = 92
  · rw [if_pos h92]
    have he := xl0 hr (p + 1) d
    have hd2 := (xa5 hd).2.1
    rw [hd2] at he
    unfold ptS ptL ptB
    rw [xa8 d hd, xeJ hr hd, if_pos h92, if_pos h92, if_pos h92]
    cases l with
    | nil => exact he
    | cons r2 l2 =>
     simp only at he ⊢
     cases hq : escP r2 with
     | none => rw [hq] at he; exact he
     | some q => obtain ⟨S, b⟩ := q; rw [hq] at he; exact he
  rw [if_neg h92]
  unfold ptS ptL ptB
  rw [xa8 d hd, xeJ hr hd, if_neg h92, if_neg h92, if_neg h92]
  cases hb : amg npL r with
  | true => simp
  | false => simp
theorem xeZ (n : Nat) (s : PS) (l : LI) (h : s.bad = true) : (xb2 rs n false s l).2.bad = true := by
 cases n with
 | zero => exact h
 | succ n =>
  rw [xb2, if_pos ⟨rfl, Or.inl h⟩]
  simp only
  unfold tk
  split <;> exact h
theorem xbC {p : Nat} {d : Int} {c : Int} (hc : 0 <= c) : (rs.drop p).head? = some c ↔ pk rs ⟨p, d, false⟩ = c := by
 cases hd : rs.drop p with
 | nil => rw [xbV d hd]; simp; omega
 | cons r l => rw [xa8 d hd]; simp
theorem xhN {s : PS} (h : (ptS rs s).bad = true) : (parS rs s).bad = true := by
 have hc : parC rs s = false := by
  unfold parC tkB
  rw [xiC h]; simp
 unfold parS
 rw [hc]; exact h
include hr in
theorem xox : ∀ (n : Nat) (f : Bool) (p : Nat) (d : Int) (all : LI) (m k : Nat), rs.length + 2 <= n + p -> p <= rs.length -> (rs.drop p).length < m ->
 match clG m f (rs.drop p) all k with
 | none => (xb2 rs n f ⟨p, d, false⟩ all).2.bad = true
 | some (x, j) => xb2 rs n f ⟨p, d, false⟩ all = (x, ⟨p + (j - k), d, false⟩) := by
 intro n
 induction n with
 | zero => intro f p d all m k hn hp hm; omega
 | succ n ih =>
  intro f p d all m k hn hp hm
  obtain ⟨m, rfl⟩ : ∃ j, m = j + 1 := ⟨m - 1, by omega⟩
  rw [clG]
  by_cases hs : f = false /\ (rs.drop p).head? = some 93
  · rw [if_pos hs]
    have h93 : pk rs ⟨p, d, false⟩ = 93 := (xbC (by omega)).1 hs.2
    simp only
    rw [xb2, if_pos ⟨hs.1, Or.inr h93⟩]
    unfold tk
    rw [if_pos h93, show k + 1 - k = 1 by omega]
  rw [if_neg hs]
  have hgo : xb2 rs (n + 1) f ⟨p, d, false⟩ all = xb2 rs n false (parS rs ⟨p, d, false⟩) (all ++ parL rs ⟨p, d, false⟩) := by
   rw [xb2, if_neg]
   rintro ⟨h1, h2 | h2⟩
   · cases h2
   exact hs ⟨h1, (xbC (by omega)).2 h2⟩
  rw [hgo]
  have hpt := xoi hr p d
  cases hq : ptP (rs.drop p) with
  | none =>
   rw [hq] at hpt
   simp only at hpt ⊢
   exact xeZ _ _ _ (xhN hpt)
  | some q =>
   obtain ⟨S, b, a⟩ := q
   rw [hq] at hpt
   simp only at hpt ⊢
   obtain ⟨e1, e2, e3⟩ := hpt
   obtain ⟨ha1, ha2, _⟩ := xbz hq
   rw [List.length_drop] at ha2 hm
   by_cases hd : b = true /\ ((rs.drop p).drop a).head? = some 45
   · rw [if_pos hd]
     have hd2 := hd.2
     rw [List.drop_drop] at hd2
     have h45 : pk rs ⟨p + a, d, false⟩ = 45 := (xbC (by omega)).1 hd2
     have hC : parC rs ⟨p, d, false⟩ = true := by unfold parC tkB; rw [e1, e3, hd.1, h45]; rfl
     have hP2 : pS2 rs ⟨p, d, false⟩ = ⟨p + a + 1, d, false⟩ := by unfold pS2 tk; rw [e1, if_pos h45]
     have hpt2 := xoi hr (p + a + 1) d
     rw [show (rs.drop p).drop (a + 1) = rs.drop (p + a + 1) by rw [List.drop_drop]; congr 1]
     cases hq2 : ptP (rs.drop (p + a + 1)) with
     | none =>
      rw [hq2] at hpt2
      simp only at hpt2 ⊢
      refine xeZ _ _ _ ?_
      unfold parS
      rw [hC]
      simp only [if_true]
      unfold xbR
      rw [hP2, hpt2]; rfl
     | some q2 =>
      obtain ⟨t, too, b2⟩ := q2
      rw [hq2] at hpt2
      simp only at hpt2 ⊢
      obtain ⟨f1, f2, f3⟩ := hpt2
      obtain ⟨hb1, hb2, _⟩ := xbz hq2
      rw [List.length_drop] at hb2
      by_cases hbad : too = false \/ lo1 t < lo1 S
      · rw [if_pos hbad]
        simp only
        refine xeZ _ _ _ ?_
        unfold parS
        rw [hC]
        simp only [if_true]
        unfold xbR
        rw [hP2, f1, f2, f3, e2]
        rcases hbad with h | h
        · rw [h]; rfl
        simp [h]
      rw [if_neg hbad]
      have hB : xbR rs ⟨p, d, false⟩ = false := by
       unfold xbR
       rw [hP2, f1, f2, f3, e2]
       have h1 : too = true := by cases too <;> simp_all
       have h2 : ¬ lo1 t < lo1 S := fun h => hbad (Or.inr h)
       rw [h1]; simpa using h2
      have hS : parS rs ⟨p, d, false⟩ = ⟨p + a + 1 + b2, d, false⟩ := by
       unfold parS
       rw [hC, hP2, f1, hB]; rfl
      have hL : parL rs ⟨p, d, false⟩ = [(lo1 S, lo1 t)] := by
       unfold parL
       rw [hC, hB, hP2, f2, e2]; rfl
      rw [hS, hL, show (rs.drop p).drop (a + 1 + b2) = rs.drop (p + a + 1 + b2) by rw [List.drop_drop]; congr 1; omega]
      have h4 := ih false (p + a + 1 + b2) d (all ++ [(lo1 S, lo1 t)]) m (k + a + 1 + b2) (by omega) (by omega) (by rw [List.length_drop]; omega)
      cases hg : clG m false (rs.drop (p + a + 1 + b2)) (all ++ [(lo1 S, lo1 t)]) (k + a + 1 + b2) with
      | none => rw [hg] at h4; exact h4
      | some y =>
       obtain ⟨x, j⟩ := y
       rw [hg] at h4
       simp only at h4 ⊢
       have := (xcF _ _ _ _ _ _ _ hg).1
       rw [h4]
       congr 2; omega
   rw [if_neg hd]
   have hC : parC rs ⟨p, d, false⟩ = false := by
    unfold parC tkB
    rw [e1, e3]
    cases hb : b with
    | false => rfl
    | true =>
     simp only [Bool.true_and, decide_eq_false_iff_not]
     intro h45
     exact hd ⟨hb, by rw [List.drop_drop]; exact (xbC (by omega)).2 h45⟩
   have hS : parS rs ⟨p, d, false⟩ = ⟨p + a, d, false⟩ := by unfold parS; rw [hC]; exact e1
   have hL : parL rs ⟨p, d, false⟩ = S := by unfold parL; rw [hC]; exact e2
   rw [hS, hL, List.drop_drop]
   have h4 := ih false (p + a) d (all ++ S) m (k + a) (by omega) (by omega) (by rw [List.length_drop]; omega)
   cases hg : clG m false (rs.drop (p + a)) (all ++ S) (k + a) with
   | none => rw [hg] at h4; exact h4
   | some y =>
    obtain ⟨x, j⟩ := y
    rw [hg] at h4
    simp only at h4 ⊢
    have := (xcF _ _ _ _ _ _ _ hg).1
    rw [h4]
    congr 2; omega
include hr in
theorem xmb (p : Nat) (d : Int) (hp : p <= rs.length) : match clP (rs.drop p) with
 | none => (clsR rs ⟨p, d, false⟩).2.bad = true
 | some (x, j) => clsL rs ⟨p, d, false⟩ = x /\ (clsR rs ⟨p, d, false⟩).2 = ⟨p + j, d, false⟩ := by
 unfold clP
 by_cases hc : (rs.drop p).head? = some 94
 · rw [if_pos hc]
   have h94 : pk rs ⟨p, d, false⟩ = 94 := (xbC (by omega)).1 hc
   have hlt : p < rs.length := by
    have := (xaK (rs := rs) (s := ⟨p, d, false⟩) (by rw [h94]; omega)).1; exact this
   have htk : tk rs 94 ⟨p, d, false⟩ = ⟨p + 1, d, false⟩ := by unfold tk; rw [if_pos h94]
   have htb : tkB rs 94 ⟨p, d, false⟩ = true := by unfold tkB; rw [h94]; rfl
   have h1 := xox hr (rs.length + 9) true (p + 1) d [] ((rs.drop p).length + 1) 1 (by omega) (by omega) (by rw [List.length_drop, List.length_drop]; omega)
   rw [show (rs.drop p).drop 1 = rs.drop (p + 1) by rw [List.drop_drop]]
   cases hg : clG ((rs.drop p).length + 1) true (rs.drop (p + 1)) [] 1 with
   | none =>
    rw [hg] at h1
    simp only [Option.map_none] at h1 ⊢
    unfold clsR; rw [htk]; exact h1
   | some y =>
    obtain ⟨x, j⟩ := y
    rw [hg] at h1
    simp only [Option.map_some] at h1 ⊢
    have hR : clsR rs ⟨p, d, false⟩ = (x, ⟨p + 1 + (j - 1), d, false⟩) := by unfold clsR; rw [htk]; exact h1
    have := (xcF _ _ _ _ _ _ _ hg).1
    refine ⟨by unfold clsL; rw [htb, hR]; rfl, by rw [hR]; simp only; congr 1; omega⟩
 rw [if_neg hc]
 have h94 : ¬ pk rs ⟨p, d, false⟩ = 94 := fun h => hc ((xbC (by omega)).2 h)
 have htk : tk rs 94 ⟨p, d, false⟩ = ⟨p, d, false⟩ := by unfold tk; rw [if_neg h94]
 have htb : tkB rs 94 ⟨p, d, false⟩ = false := by unfold tkB; simpa using h94
 have h1 := xox hr (rs.length + 9) true p d [] ((rs.drop p).length + 1) 0 (by omega) hp (by omega)
 cases hg : clG ((rs.drop p).length + 1) true (rs.drop p) [] 0 with
 | none =>
  rw [hg] at h1
  simp only [Option.map_none] at h1 ⊢
  unfold clsR; rw [htk]; exact h1
 | some y =>
  obtain ⟨x, j⟩ := y
  rw [hg] at h1
  simp only [Option.map_some] at h1 ⊢
  have hR : clsR rs ⟨p, d, false⟩ = (x, ⟨p + (j - 0), d, false⟩) := by unfold clsR; rw [htk]; exact h1
  exact ⟨by unfold clsL; rw [htb, hR]; rfl, by rw [hR]; rfl⟩
theorem xl3 : dig (-1) = false := by decide
theorem xhP (p : Nat) (d : Int) : if (numP (rs.drop p)).2 = 0 then (numS rs ⟨p, d, false⟩).bad = true
 else numS rs ⟨p, d, false⟩ = ⟨p + (numP (rs.drop p)).2, d, false⟩ /\ numN rs ⟨p, d, false⟩ = (numP (rs.drop p)).1 := by
 cases hd : rs.drop p with
 | nil =>
  have : (numP ([] : List Int)).2 = 0 := rfl
  rw [if_pos this]
  unfold numS
  rw [xbV d hd, xl3]; rfl
 | cons a l =>
  have hd1 := (xa5 hd).2.1
  have hpa := xa8 d hd
  by_cases ha : dig a = true
  · cases l with
    | nil =>
     have h2 : pk rs ⟨p + 1, d, false⟩ = -1 := xbV d hd1
     have hn : num0 [a] = (a - 48, 1) := by rw [xaY, if_pos ha]
     have ha' : a <= 57 := by simp [dig] at ha; omega
     have hP : numP [a] = (a - 48, 1) := by unfold numP; rw [hn, if_neg (by simp only; omega)]
     rw [hP, if_neg (by simp)]
     unfold numS numN
     rw [hpa, ha, if_pos rfl, if_pos rfl, h2, xl3]
     simp
    | cons b l2 =>
     have h2 : pk rs ⟨p + 1, d, false⟩ = b := xa8 d hd1
     by_cases hb : dig b = true
     · have hn : num0 (a :: b :: l2) = ((a - 48) * 10 + b - 48, 2) := by rw [xaY, if_pos ha]; simp only; rw [if_pos hb]
       have hN : numN rs ⟨p, d, false⟩ = (a - 48) * 10 + b - 48 := by unfold numN; rw [hpa, ha, if_pos rfl, h2, hb, if_pos rfl]
       by_cases h50 : 50 < (a - 48) * 10 + b - 48
       · have hP : numP (a :: b :: l2) = (0, 0) := by unfold numP; rw [hn, if_pos h50]
         rw [hP, if_pos rfl]
         unfold numS
         rw [hpa, ha, if_pos rfl, h2, hb, if_pos rfl, hN]
         simpa using h50
       have hP : numP (a :: b :: l2) = ((a - 48) * 10 + b - 48, 2) := by unfold numP; rw [hn, if_neg h50]
       rw [hP, if_neg (by simp)]
       refine ⟨?_, hN⟩
       unfold numS
       rw [hpa, ha, if_pos rfl, h2, hb, if_pos rfl, hN]
       simp; omega
     have hb' : dig b = false := by simpa using hb
     have hn : num0 (a :: b :: l2) = (a - 48, 1) := by rw [xaY, if_pos ha]; simp only; rw [if_neg hb]
     have ha' : a <= 57 := by simp [dig] at ha; omega
     have hP : numP (a :: b :: l2) = (a - 48, 1) := by unfold numP; rw [hn, if_neg (by simp only; omega)]
     rw [hP, if_neg (by simp)]
     unfold numS numN
     rw [hpa, ha, if_pos rfl, if_pos rfl, h2, hb']
     simp
  have ha' : dig a = false := by simpa using ha
  have hn : num0 (a :: l) = (0, 0) := by rw [xaY, if_neg ha]
  have hP : numP (a :: l) = (0, 0) := by unfold numP; rw [hn]; rfl
  rw [hP, if_pos rfl]
  unfold numS
  rw [hpa, ha']; rfl
theorem br_sim (p : Nat) (d : Int) : match brP (rs.drop p) with
 | none => (brS rs ⟨p, d, false⟩).bad = true
 | some (a, b, k) => brS rs ⟨p, d, false⟩ = ⟨p + k, d, false⟩ /\ brA rs ⟨p, d, false⟩ = a /\ brB rs ⟨p, d, false⟩ = b := by
 have h1 := xhP (rs := rs) p d
 unfold brP
 by_cases h0 : (numP (rs.drop p)).2 = 0
 · rw [if_pos h0] at h1 ⊢
   simp only
   unfold brS
   rw [xiC h1, if_neg (by omega)]
   exact xel _ h1
 rw [if_neg h0] at h1 ⊢
 obtain ⟨hS, hN⟩ := h1
 obtain ⟨q, hq⟩ : ∃ q, p + (numP (rs.drop p)).2 = q := ⟨_, rfl⟩
 rw [List.drop_drop, hq]
 rw [hq] at hS
 unfold brS brA brB br3
 rw [hS, hN]
 cases hd : rs.drop q with
 | nil =>
  simp only
  rw [xbV d hd, if_neg (by omega)]
  unfold wt
  rw [xbV d hd, if_neg (by omega)]
 | cons c l2 =>
  have hpc := xa8 d hd
  have hd1 := (xa5 hd).2.1
  simp only
  rw [hpc]
  by_cases hc : c = 125
  · rw [if_pos hc, if_neg (by omega), if_neg (by omega)]
    simp only
    unfold wt
    rw [hpc, if_pos hc]
    refine ⟨?_, (by first | rfl | trivial), (by first | rfl | trivial)⟩
    rw [<- hq]; congr 1
  rw [if_neg hc]
  by_cases hc2 : c = 44
  · rw [if_pos hc2, if_pos hc2, if_pos hc2]
    cases l2 with
    | nil =>
     have hp1 : pk rs ⟨q + 1, d, false⟩ = -1 := xbV d hd1
     simp only
     rw [hp1, if_neg (by omega)]
     have h2 := xhP (rs := rs) (q + 1) d
     rw [hd1, if_pos (show (numP ([] : List Int)).2 = 0 from rfl)] at h2
     refine xel _ ?_
     simp [h2]
    | cons e l3 =>
     have hp1 : pk rs ⟨q + 1, d, false⟩ = e := xa8 d hd1
     simp only
     rw [hp1]
     by_cases he : e = 125
     · rw [if_pos he, if_pos he, if_pos he]
       simp only
       unfold wt
       rw [hp1, if_pos he]
       refine ⟨?_, (by first | rfl | trivial), (by first | rfl | trivial)⟩
       rw [<- hq]; congr 1
     rw [if_neg he, if_neg he, if_neg he]
     have h2 := xhP (rs := rs) (q + 1) d
     rw [hd1] at h2
     by_cases hm : (numP (e :: l3)).2 = 0
     · rw [if_pos hm] at h2
       rw [if_pos (Or.inl hm)]
       simp only
       refine xel _ ?_
       simp [h2]
     rw [if_neg hm] at h2
     obtain ⟨hS2, hN2⟩ := h2
     rw [hS2, hN2]
     by_cases hlt : (numP (e :: l3)).1 < (numP (rs.drop p)).1
     · rw [if_pos (Or.inr hlt)]
       simp only
       refine xel _ ?_
       simp [hlt]
     rw [if_neg (by omega), show decide ((numP (e :: l3)).1 < (numP (rs.drop p)).1) = false by simpa using hlt]
     have hdd : (e :: l3).drop (numP (e :: l3)).2 = rs.drop (q + 1 + (numP (e :: l3)).2) := by rw [<- hd1, List.drop_drop]
     rw [hdd]
     simp only [Bool.or_false]
     by_cases hz : (rs.drop (q + 1 + (numP (e :: l3)).2)).head? = some 125
     · rw [if_pos hz]
       have hpz : pk rs ⟨q + 1 + (numP (e :: l3)).2, d, false⟩ = 125 := (xbC (by omega)).1 hz
       simp only
       unfold wt
       rw [hpz, if_pos rfl]
       refine ⟨?_, (by first | rfl | trivial), (by first | rfl | trivial)⟩
       rw [<- hq]; simp only [PS.mk.injEq, and_true]; omega
     rw [if_neg hz]
     have hpz : ¬ pk rs ⟨q + 1 + (numP (e :: l3)).2, d, false⟩ = 125 := fun h => hz ((xbC (by omega)).2 h)
     simp only
     unfold wt
     rw [if_neg hpz]
  rw [if_neg hc2, if_neg hc2]
  simp only
  unfold wt
  rw [hpc, if_neg hc]
end
end Go.Proofs.YtapmdhejgnplaaaGreat
namespace Go.Proofs.YtapmdhejgnplaaaGreat
section
open Go.RowKit
set_option maxRecDepth 100000
def isSg (r : Int) : Prop := r = 46 \/ r = 94 \/ r = 36 \/ r = 124 \/ r = 40 \/ r = 41 \/ r = 91 \/ r = 93 \/ r = 123 \/ r = 125 \/ r = 42 \/ r = 43 \/ r = 63 \/ r = 92
instance (r : Int) : Decidable (isSg r) := by unfold isSg; infer_instance
theorem xoA (r : Int) : amg sgL r = decide (isSg r) := by
 have key : ∀ c : Fin 128, amg sgL (c.val : Int) = decide (isSg (c.val : Int)) := of_decide_eq_true (by kernel_rfl)
 by_cases h : 0 <= r /\ r < 128
 · have := key ⟨r.toNat, by omega⟩
   simpa [Int.toNat_of_nonneg h.1] using this
 rw [xgl _ _ h]; symm; simp only [decide_eq_false_iff_not]; unfold isSg; omega
def tokT : Tok -> Option T
 | .pt S => some (xbw S)
 | .sg c => if c = 94 then some ⟨2, [], 0, 0, .nil⟩ else if c = 36 then some ⟨3, [], 0, 0, .nil⟩ else none
 | .ct _ _ => none
def xfR : Tok -> Bool
 | .pt _ => true
 | _ => false
theorem tok_sg {r : Int} {l : List Int} {c : Int} {k : Nat} (h : tokP (r :: l) = some (.sg c, k)) : r = c /\ k = 1 := by
 rw [xas] at h
 split at h
 · simp only [Option.some.injEq, Prod.mk.injEq, Tok.sg.injEq] at h; omega
 repeat' (split at h)
 all_goals first
  | (simp only [Option.some.injEq, Prod.mk.injEq, reduceCtorEq, false_and] at h; done)
  | (simp only [Option.map_eq_some_iff, Prod.mk.injEq, reduceCtorEq, false_and, and_false, exists_false] at h; done)
  | cases h
variable {rs : List Int} (hr : ∀ r ∈ rs, 0 <= r /\ r <= 1114111)
include hr in
theorem xnZ (f : PS -> T × PS) (p : Nat) (d : Int) {r : Int} {l : List Int} (hd : rs.drop p = r :: l) (h40 : r ≠ 40) (h41 : r ≠ 41) (h124 : r ≠ 124) :
 match tokP (r :: l) with
 | none => (xaz f rs ⟨p, d, false⟩).2.bad = true
 | some (t, k) => match tokT t with
  | none => (xaz f rs ⟨p, d, false⟩).2.bad = true /\ ∃ m x, t = .ct m x
  | some x => xaz f rs ⟨p, d, false⟩ = (x, ⟨p + k, d, false⟩) /\ xfR t = !(decide (r = 94) || decide (r = 36)) := by
 have hpk : pk rs ⟨p, d, false⟩ = r := xa8 d hd
 have hnx := xeJ hr (d := d) hd
 have hd1 := (xa5 hd).2.1
 have hlt := (xa5 hd).1
 have h0 := xge hr hd
 have hdef : ∀ (hn : ¬ r = 94 /\ ¬ r = 36 /\ ¬ r = 46 /\ ¬ r = 91 /\ ¬ r = 92), xaz f rs ⟨p, d, false⟩ = (xbw [(r, r)], ⟨p + 1, d, amg sgL r⟩) := fun hn => by
  unfold xaz
  rw [hpk, hnx, if_neg h40, if_neg hn.1, if_neg hn.2.1, if_neg hn.2.2.1, if_neg hn.2.2.2.1, if_neg hn.2.2.2.2]
  simp
 have hsg : isSg r -> (¬ r = 94 /\ ¬ r = 36 /\ ¬ r = 46 /\ ¬ r = 91 /\ ¬ r = 92) -> (xaz f rs ⟨p, d, false⟩).2.bad = true := fun h hn => by
  rw [hdef hn, xoA]; simpa using h
 rw [xas]
 by_cases h1 : r = 124 \/ r = 40 \/ r = 41 \/ r = 94 \/ r = 36
 · rw [if_pos h1]
   simp only [tokT]
   by_cases h94 : r = 94
   · rw [if_pos h94]
     simp only
     refine ⟨?_, by simp [xfR, h94]⟩
     unfold xaz
     rw [hpk, hnx, if_neg h40, if_pos h94]
   have h36 : r = 36 := by omega
   rw [if_neg h94, if_pos h36]
   simp only
   refine ⟨?_, by simp [xfR, h36]⟩
   unfold xaz
   rw [hpk, hnx, if_neg h40, if_neg h94, if_pos h36]
 rw [if_neg h1]
 by_cases h2 : r = 42
 · rw [if_pos h2]; exact ⟨hsg (by unfold isSg; omega) (by omega), _, _, rfl⟩
 rw [if_neg h2]
 by_cases h3 : r = 43
 · rw [if_pos h3]; exact ⟨hsg (by unfold isSg; omega) (by omega), _, _, rfl⟩
 rw [if_neg h3]
 by_cases h4 : r = 63
 · rw [if_pos h4]; exact ⟨hsg (by unfold isSg; omega) (by omega), _, _, rfl⟩
 rw [if_neg h4]
 by_cases h5 : r = 123
 · rw [if_pos h5]
   cases brP l with
   | none => exact hsg (by unfold isSg; omega) (by omega)
   | some q => exact ⟨hsg (by unfold isSg; omega) (by omega), _, _, rfl⟩
 rw [if_neg h5]
 by_cases h6 : r = 46
 · rw [if_pos h6]
   refine ⟨?_, by simp [xfR]; omega⟩
   unfold xaz
   rw [hpk, hnx, if_neg h40, if_neg (by omega), if_neg (by omega), if_pos h6]
 rw [if_neg h6]
 by_cases h7 : r = 91
 · rw [if_pos h7]
   have hc := xmb hr (p + 1) d (by omega)
   rw [hd1] at hc
   have ha : xaz f rs ⟨p, d, false⟩ = (xbw (clsL rs ⟨p + 1, d, false⟩), (clsR rs ⟨p + 1, d, false⟩).2) := by
    unfold xaz
    rw [hpk, hnx, if_neg h40, if_neg (by omega), if_neg (by omega), if_neg (by omega), if_pos h7]
   cases hq : clP l with
   | none => rw [hq] at hc; simp only [Option.map_none] at hc ⊢; rw [ha]; exact hc
   | some q =>
    obtain ⟨x, j⟩ := q
    rw [hq] at hc
    simp only [Option.map_some, tokT] at hc ⊢
    refine ⟨?_, by simp [xfR]; omega⟩
    rw [ha, hc.1, hc.2]
    congr 2; omega
 rw [if_neg h7]
 by_cases h8 : r = 92
 · rw [if_pos h8]
   have he := xl0 hr (p + 1) d
   rw [hd1] at he
   have ha : xaz f rs ⟨p, d, false⟩ = (xbw (escL rs ⟨p + 1, d, false⟩), escS rs ⟨p + 1, d, false⟩) := by
    unfold xaz
    rw [hpk, hnx, if_neg h40, if_neg (by omega), if_neg (by omega), if_neg (by omega), if_neg (by omega), if_pos h8]
   cases l with
   | nil => simp only at he ⊢; rw [ha]; exact he
   | cons r2 l2 =>
    simp only at he ⊢
    cases hq : escP r2 with
    | none => rw [hq] at he; simp only [Option.map_none] at he ⊢; rw [ha]; exact he
    | some q =>
     obtain ⟨S, b⟩ := q
     rw [hq] at he
     simp only [Option.map_some, tokT] at he ⊢
     refine ⟨?_, by simp [xfR]; omega⟩
     rw [ha, he.1, he.2.1]
 rw [if_neg h8]
 by_cases h9 : r = 93 \/ r = 125
 · rw [if_pos h9]; exact hsg (by unfold isSg; omega) (by omega)
 rw [if_neg h9]
 simp only [tokT]
 refine ⟨?_, by simp [xfR]; omega⟩
 rw [hdef (by omega), xoA, show decide (isSg r) = false by simp only [decide_eq_false_iff_not]; unfold isSg; omega]
theorem cnt_sim (p : Nat) (d : Int) : (∃ m x k, tokP (rs.drop p) = some (.ct m x, k) /\ cntV rs ⟨p, d, false⟩ = (m, x, true) /\ cntS rs ⟨p, d, false⟩ = ⟨p + k, d, false⟩) \/
 (tokP (rs.drop p) = none /\ rs.drop p ≠ [] /\ (cntS rs ⟨p, d, false⟩).bad = true) \/
 ((∀ m x k, tokP (rs.drop p) ≠ some (.ct m x, k)) /\ (cntV rs ⟨p, d, false⟩).2.2 = false /\ cntS rs ⟨p, d, false⟩ = ⟨p, d, false⟩) := by
 have hnone : ∀ r, pk rs ⟨p, d, false⟩ = r -> r ≠ 63 -> r ≠ 43 -> r ≠ 42 -> r ≠ 123 -> (cntV rs ⟨p, d, false⟩).2.2 = false /\ cntS rs ⟨p, d, false⟩ = ⟨p, d, false⟩ := fun r h a1 a2 a3 a4 => by
  have := xnR (rs := rs) (s := ⟨p, d, false⟩) (by rw [h]; exact ⟨a1, a2, a3, a4⟩)
  rw [this.1, this.2]; exact ⟨rfl, rfl⟩
 cases hd : rs.drop p with
 | nil =>
  refine Or.inr (Or.inr ⟨fun m x k => by simp [tokP], hnone _ (xbV d hd) (by omega) (by omega) (by omega) (by omega)⟩)
 | cons r l =>
  have hpk : pk rs ⟨p, d, false⟩ = r := xa8 d hd
  have hd1 := (xa5 hd).2.1
  rw [xas]
  by_cases h1 : r = 124 \/ r = 40 \/ r = 41 \/ r = 94 \/ r = 36
  · rw [if_pos h1]
    exact Or.inr (Or.inr ⟨fun m x k => by simp, hnone r hpk (by omega) (by omega) (by omega) (by omega)⟩)
  rw [if_neg h1]
  by_cases h2 : r = 42
  · rw [if_pos h2]
    refine Or.inl ⟨0, -1, 1, rfl, ?_, ?_⟩
    · unfold cntV; rw [hpk, h2]; rfl
    unfold cntS; rw [hpk, h2]; rfl
  rw [if_neg h2]
  by_cases h3 : r = 43
  · rw [if_pos h3]
    refine Or.inl ⟨1, -1, 1, rfl, ?_, ?_⟩
    · unfold cntV; rw [hpk, h3]; rfl
    unfold cntS; rw [hpk, h3]; rfl
  rw [if_neg h3]
  by_cases h4 : r = 63
  · rw [if_pos h4]
    refine Or.inl ⟨0, 1, 1, rfl, ?_, ?_⟩
    · unfold cntV; rw [hpk, h4]; rfl
    unfold cntS; rw [hpk, h4]; rfl
  rw [if_neg h4]
  by_cases h5 : r = 123
  · rw [if_pos h5]
    have hb := br_sim (rs := rs) (p + 1) d
    rw [hd1] at hb
    have eS : cntS rs ⟨p, d, false⟩ = brS rs ⟨p + 1, d, false⟩ := by unfold cntS; rw [hpk, h5]; rfl
    have eV : cntV rs ⟨p, d, false⟩ = (brA rs ⟨p + 1, d, false⟩, brB rs ⟨p + 1, d, false⟩, true) := by unfold cntV; rw [hpk, h5]; rfl
    cases hq : brP l with
    | none =>
     rw [hq] at hb
     exact Or.inr (Or.inl ⟨rfl, by simp, by rw [eS]; exact hb⟩)
    | some q =>
     obtain ⟨a, b, k⟩ := q
     rw [hq] at hb
     simp only at hb
     refine Or.inl ⟨a, b, k + 1, rfl, ?_, ?_⟩
     · rw [eV, hb.2.1, hb.2.2]
     rw [eS, hb.1]; congr 1; omega
  rw [if_neg h5]
  refine Or.inr (Or.inr ⟨fun m x k h => ?_, hnone r hpk h4 h3 h2 h5⟩)
  repeat' (split at h)
  all_goals first
   | (simp only [Option.some.injEq, Prod.mk.injEq, reduceCtorEq, false_and] at h; done)
   | (simp only [Option.map_eq_some_iff, Prod.mk.injEq, reduceCtorEq, false_and, and_false, exists_false] at h; done)
   | cases h
end
end Go.Proofs.YtapmdhejgnplaaaGreat
namespace Go.Proofs.YtapmdhejgnplaaaGreat
section
open Go.RowKit
set_option maxRecDepth 100000
def rdF (d : Int) (ts : List Tok) (al ps : List T) (lo : Bool) : Option (T × List Tok) := rdM (ts.length + 1) d ts al ps lo
theorem xk4 {d : Int} {t : Tok} {x : T} (h : tokT t = some x) (r : List Tok) (al ps : List T) (lo : Bool) : rdF d (t :: r) al ps lo = rdF d r al (ps ++ [x]) (xfR t) := by
 cases t with
 | pt S => simp only [tokT, Option.some.injEq] at h; subst h; rfl
 | ct m y => simp [tokT] at h
 | sg c =>
  simp only [tokT] at h
  by_cases h94 : c = 94
  · subst h94
    rw [if_pos rfl] at h
    obtain rfl := Option.some.inj h
    rfl
  rw [if_neg h94] at h
  by_cases h36 : c = 36
  · subst h36
    rw [if_pos rfl] at h
    obtain rfl := Option.some.inj h
    rfl
  rw [if_neg h36] at h; cases h
theorem rdF_ct (d m x : Int) (r : List Tok) (al ps : List T) (t : T) : rdF d (.ct m x :: r) al (ps ++ [t]) true = rdF d r al (ps ++ [⟨6, [], m, x, F.ofL [t]⟩]) false := by
 show rdM (r.length + 1 + 1) d (.ct m x :: r) al (ps ++ [t]) true = _
 rw [rdM]
 simp only [if_true]
 unfold repT rdF
 simp
theorem xk5 (d m x : Int) (r : List Tok) (al ps : List T) : rdF d (.ct m x :: r) al ps false = none := by
 show rdM (r.length + 1 + 1) d (.ct m x :: r) al ps false = _
 rw [rdM]; simp
theorem xhH (d : Int) (r : List Tok) (al ps : List T) (lo : Bool) : rdF d (.sg 124 :: r) al ps lo = rdF d r (al ++ [xa4 4 ps]) [] false := rfl
theorem xmV {d : Int} (h : 10 < d + 1) (r : List Tok) (al ps : List T) (lo : Bool) : rdF d (.sg 40 :: r) al ps lo = none := by
 show rdM (r.length + 1 + 1) d (.sg 40 :: r) al ps lo = _
 rw [rdM]
 simp [h]
theorem xf0 {d : Int} (h : ¬ 10 < d + 1) (r : List Tok) (hok : ∀ k ∈ r, Tok.ok k) (al ps : List T) (lo : Bool) : rdF d (.sg 40 :: r) al ps lo = match rdF (d + 1) r [] [] false with
 | some (t, .sg 41 :: r') => rdF d r' al (ps ++ [t]) true
 | _ => none := by
 show rdM (r.length + 1 + 1) d (.sg 40 :: r) al ps lo = _
 rw [rdM]
 simp only [if_neg h, show ¬ (40 : Int) = 124 by omega, show ¬ (40 : Int) = 94 by omega, show ¬ (40 : Int) = 36 by omega, show ¬ (40 : Int) = 41 by omega, if_false]
 show (match rdF (d + 1) r [] [] false with
  | some (t, .sg 41 :: r') => rdM (r.length + 1) d r' al (ps ++ [t]) true
  | _ => none) = _
 cases hx : rdF (d + 1) r [] [] false with
 | none => rfl
 | some q =>
  obtain ⟨t, r1⟩ := q
  obtain ⟨g1, l1, e, _, _⟩ := xfZ _ _ _ _ _ _ _ _ hok hx
  rcases g1 with rfl | ⟨r', rfl⟩
  · rfl
  simp only
  refine xmU _ _ _ _ _ _ _ (fun x hx => hok x (by rw [e]; simp [hx])) ?_ ?_
  · rw [e]; simp; omega
  simp
theorem rdF_lo {d : Int} {ts : List Tok} (h : ∀ m x r, ts ≠ .ct m x :: r) (al ps : List T) (a b : Bool) : rdF d ts al ps a = rdF d ts al ps b := by
 cases ts with
 | nil => rfl
 | cons t r =>
  cases t with
  | pt S => rfl
  | ct m x => exact absurd rfl (h m x r)
  | sg c => rfl
variable {rs : List Int} (hr : ∀ r ∈ rs, 0 <= r /\ r <= 1114111)
theorem xgt {l : List Int} {t : Tok} {ts : List Tok} (h : toks l = some (t :: ts)) : ∃ k, tokP l = some (t, k) /\ toks (l.drop k) = some ts := by
 rcases l with _ | ⟨r, l⟩
 · rw [xbl] at h; cases h
 cases ht : tokP (r :: l) with
 | none => rw [xbN ht] at h; cases h
 | some q =>
  obtain ⟨u, k⟩ := q
  rw [xaV ht, Option.map_eq_some_iff] at h
  obtain ⟨ts', h1, h2⟩ := h
  obtain ⟨rfl, rfl⟩ := List.cons.inj h2
  exact ⟨k, rfl, h1⟩
theorem xfg {l : List Int} (h : toks l = some []) : l = [] := by
 rcases l with _ | ⟨r, l⟩
 · rfl
 cases ht : tokP (r :: l) with
 | none => rw [xbN ht] at h; cases h
 | some q =>
  obtain ⟨u, k⟩ := q
  rw [xaV ht, Option.map_eq_some_iff] at h
  obtain ⟨ts', h1, h2⟩ := h
  cases h2
theorem xfQ {l : List Int} {ts : List Tok} (h : toks l = some ts) : ∀ t ∈ ts, t.ok := toks_ok _ _ _ (Nat.le_refl _) h
structure After (rs : List Int) (f : PS -> T × PS) (s : PS) (d : Int) (p1 : Nat) (x : T) (lo : Bool) : Prop where
 a : ∀ t1, toks (rs.drop p1) = some t1 -> ((xan f rs s).2.bad = true /\ ∀ al ps, rdF d t1 al (ps ++ [x]) lo = none) \/
  ∃ p2 ts2 t, xan f rs s = (t, ⟨p2, d, false⟩) /\ toks (rs.drop p2) = some ts2 /\ ∀ al ps, rdF d t1 al (ps ++ [x]) lo = rdF d ts2 al (ps ++ [t]) false
 b : toks (rs.drop p1) = none -> (xan f rs s).2.bad = true \/ ∃ p2 t, xan f rs s = (t, ⟨p2, d, false⟩) /\ toks (rs.drop p2) = none
theorem xdX {f : PS -> T × PS} {s : PS} {d : Int} {p1 : Nat} {x : T} {lo : Bool} (ha : xaz f rs s = (x, ⟨p1, d, false⟩)) (hlo : lo = !(decide (pk rs s = 94) || decide (pk rs s = 36))) : After rs f s d p1 x lo := by
 rcases cnt_sim (rs := rs) p1 d with ⟨m, y, k, h1, h2, h3⟩ | ⟨h1, h2, h3⟩ | ⟨h1, h2, h3⟩
 · -- a count
   have hc : xan f rs s = (⟨6, [], m, y, F.ofL [x]⟩, ⟨p1 + k, d, !lo⟩) := by
    unfold xan
    rw [ha]
    simp only
    rw [h2, h3, hlo]
    simp
   constructor
   · intro t1 ht
     rw [xaV h1, Option.map_eq_some_iff] at ht
     obtain ⟨ts2, h4, rfl⟩ := ht
     rw [List.drop_drop] at h4
     cases hl : lo with
     | true => exact Or.inr ⟨p1 + k, ts2, _, by rw [hc, hl]; rfl, h4, fun al ps => rdF_ct _ _ _ _ _ _ _⟩
     | false => exact Or.inl ⟨by rw [hc, hl]; rfl, fun al ps => xk5 _ _ _ _ _ _⟩
   intro ht
   rw [xaV h1, Option.map_eq_none_iff, List.drop_drop] at ht
   cases hl : lo with
   | true => exact Or.inr ⟨p1 + k, _, by rw [hc, hl]; rfl, ht⟩
   | false => exact Or.inl (by rw [hc, hl]; rfl)
 · have hb : (xan f rs s).2.bad = true := by
    unfold xan
    rw [ha]
    simp only
    split
    · simp [h3]
    exact h3
   constructor
   · intro t1 ht
     rcases hd : rs.drop p1 with _ | ⟨r, l⟩
     · exact absurd hd h2
     rw [hd] at h1 ht; rw [xbN h1] at ht; cases ht
   intro _; exact Or.inl hb
 have hc : xan f rs s = (x, ⟨p1, d, false⟩) := by
  unfold xan
  rw [ha]
  simp only
  rw [h2, h3]
  simp
 constructor
 · intro t1 ht
   refine Or.inr ⟨p1, t1, x, hc, ht, fun al ps => rdF_lo (fun m y r e => ?_) _ _ _ _⟩
   subst e
   obtain ⟨k, hk, _⟩ := xgt ht
   exact h1 m y k hk
 intro ht; exact Or.inr ⟨p1, x, hc, ht⟩
def SimF (rs : List Int) (f : PS -> T × PS) (d : Int) : Prop := ∀ p, 
 (∀ ts, toks (rs.drop p) = some ts -> ((f ⟨p, d, false⟩).2.bad = true /\ rdF d ts [] [] false = none) \/ ∃ p2 ts2 t, f ⟨p, d, false⟩ = (t, ⟨p2, d, false⟩) /\ toks (rs.drop p2) = some ts2 /\ rdF d ts [] [] false = some (t, ts2)) /\
 (toks (rs.drop p) = none -> (f ⟨p, d, false⟩).2.bad = true \/ ∃ p2 t, f ⟨p, d, false⟩ = (t, ⟨p2, d, false⟩) /\ toks (rs.drop p2) = none)
include hr in
theorem xlg {f : PS -> T × PS} {d : Int} (hgo : ∀ s, Go1 rs s (f s).2) (H : 10 < d + 1 \/ SimF rs f (d + 1)) (p : Nat) (hp : isPc (pk rs ⟨p, d, false⟩) = true) :
 (∀ ts, toks (rs.drop p) = some ts -> ((xan f rs ⟨p, d, false⟩).2.bad = true /\ ∀ al ps, rdF d ts al ps false = none) \/
   ∃ p2 ts2 t, xan f rs ⟨p, d, false⟩ = (t, ⟨p2, d, false⟩) /\ toks (rs.drop p2) = some ts2 /\ ∀ al ps, rdF d ts al ps false = rdF d ts2 al (ps ++ [t]) false) /\
 (toks (rs.drop p) = none -> (xan f rs ⟨p, d, false⟩).2.bad = true \/ ∃ p2 t, xan f rs ⟨p, d, false⟩ = (t, ⟨p2, d, false⟩) /\ toks (rs.drop p2) = none) := by
 rcases hd : rs.drop p with _ | ⟨r, l⟩
 · rw [xbV d hd] at hp; simp [isPc] at hp
 have hpk : pk rs ⟨p, d, false⟩ = r := xa8 d hd
 have hd1 := (xa5 hd).2.1
 have hnx := xeJ hr (d := d) hd
 rw [hpk] at hp
 simp only [isPc, Bool.and_eq_true, decide_eq_true_eq, Bool.not_eq_true', decide_eq_false_iff_not] at hp
 by_cases h40 : r = 40
 · subst h40
   have ht : tokP (40 :: l) = some (.sg 40, 1) := by rw [xas, if_pos (by omega)]
   have htk : toks (40 :: l) = (toks l).map (.sg 40 :: ·) := xaV ht
   have hatom : xaz f rs ⟨p, d, false⟩ = ((f ⟨p + 1, d + 1, decide (10 < d + 1)⟩).1, ⟨(wt rs 41 (f ⟨p + 1, d + 1, decide (10 < d + 1)⟩).2).pos, (wt rs 41 (f ⟨p + 1, d + 1, decide (10 < d + 1)⟩).2).deep - 1, (wt rs 41 (f ⟨p + 1, d + 1, decide (10 < d + 1)⟩).2).bad⟩) := by
    unfold xaz
    rw [hpk, if_pos rfl, hnx]
    simp
   by_cases hdeep : 10 < d + 1
   · have hb : (xan f rs ⟨p, d, false⟩).2.bad = true := by
      refine xbc ?_
      rw [hatom]
      simp only [hdeep, decide_true]
      exact xel _ ((hgo _).bad rfl)
     refine ⟨fun ts hts => Or.inl ⟨hb, fun al ps => ?_⟩, fun _ => Or.inl hb⟩
     rw [htk, Option.map_eq_some_iff] at hts
     obtain ⟨t2, _, rfl⟩ := hts
     exact xmV hdeep _ _ _ _
   have HF : SimF rs f (d + 1) := by
    rcases H with h | h
    · exact absurd h hdeep
    exact h
   rw [show decide (10 < d + 1) = false by simpa using hdeep] at hatom
   obtain ⟨HA, HB⟩ := HF (p + 1)
   rw [hd1] at HA HB
   refine ⟨fun ts hts => ?_, fun hts => ?_⟩
   · rw [htk, Option.map_eq_some_iff] at hts
     obtain ⟨tl, htl, rfl⟩ := hts
     have hok := xfQ htl
     rcases HA tl htl with ⟨h1, h2⟩ | ⟨p3, t3, t, h1, h2, h3⟩
     · left
       refine ⟨xbc (by rw [hatom]; exact xel _ h1), fun al ps => ?_⟩
       rw [xf0 hdeep _ hok, h2]
     rw [h1] at hatom
     simp only at hatom
     rcases t3 with _ | ⟨u, t4⟩
     · left
       have he := xfg h2
       have hw : (wt rs 41 ⟨p3, d + 1, false⟩).bad = true := wt_no (by rw [xbV _ he]; omega)
       refine ⟨xbc (by rw [hatom]; exact hw), fun al ps => ?_⟩
       rw [xf0 hdeep _ hok, h3]
     obtain ⟨g1, _⟩ := xfZ _ _ _ _ _ _ _ _ hok h3
     rcases g1 with g1 | ⟨r', g1⟩
     · cases g1
     obtain ⟨rfl, rfl⟩ := List.cons.inj g1
     obtain ⟨k, hk, hk2⟩ := xgt h2
     rcases hd3 : rs.drop p3 with _ | ⟨r3, l3⟩
     · rw [hd3] at hk; simp [tokP] at hk
     rw [hd3] at hk hk2
     obtain ⟨rfl, rfl⟩ := tok_sg hk
     have hpk3 : pk rs ⟨p3, d + 1, false⟩ = 41 := xa8 _ hd3
     have hw : wt rs 41 ⟨p3, d + 1, false⟩ = ⟨p3 + 1, d + 1, false⟩ := by unfold wt; rw [if_pos hpk3]
     have ha : xaz f rs ⟨p, d, false⟩ = (t, ⟨p3 + 1, d, false⟩) := by
      rw [hatom, hw]; simp
     have haf := xdX (rs := rs) (lo := true) ha (by rw [hpk]; rfl)
     have hd4 : toks (rs.drop (p3 + 1)) = some t4 := by
      rw [(xa5 hd3).2.1]; simpa using hk2
     rcases haf.a t4 hd4 with ⟨q1, q2⟩ | ⟨p2, ts2, t', q1, q2, q3⟩
     · left
       refine ⟨q1, fun al ps => ?_⟩
       rw [xf0 hdeep _ hok, h3]
       exact q2 al ps
     right
     refine ⟨p2, ts2, t', q1, q2, fun al ps => ?_⟩
     rw [xf0 hdeep _ hok, h3]
     exact q3 al ps
   rw [htk, Option.map_eq_none_iff] at hts
   rcases HB hts with h1 | ⟨p3, t, h1, h2⟩
   · exact Or.inl (xbc (by rw [hatom]; exact xel _ h1))
   rw [h1] at hatom
   simp only at hatom
   rcases hd3 : rs.drop p3 with _ | ⟨r3, l3⟩
   · rw [hd3, xbl] at h2; cases h2
   by_cases h41 : r3 = 41
   · subst h41
     have hpk3 : pk rs ⟨p3, d + 1, false⟩ = 41 := xa8 _ hd3
     have hw : wt rs 41 ⟨p3, d + 1, false⟩ = ⟨p3 + 1, d + 1, false⟩ := by unfold wt; rw [if_pos hpk3]
     have ha : xaz f rs ⟨p, d, false⟩ = (t, ⟨p3 + 1, d, false⟩) := by
      rw [hatom, hw]; simp
     have haf := xdX (rs := rs) (lo := true) ha (by rw [hpk]; rfl)
     have ht3 : tokP (41 :: l3) = some (.sg 41, 1) := by rw [xas, if_pos (by omega)]
     rw [hd3, xaV ht3, Option.map_eq_none_iff] at h2
     exact haf.b (by rw [(xa5 hd3).2.1]; simpa using h2)
   have hw : (wt rs 41 ⟨p3, d + 1, false⟩).bad = true := wt_no (by rw [xa8 _ hd3]; exact h41)
   exact Or.inl (xbc (by rw [hatom]; exact hw))
 have ha := xnZ hr f p d hd h40 hp.2.2 hp.2.1
 cases ht : tokP (r :: l) with
 | none =>
  rw [ht] at ha
  refine ⟨fun ts hts => ?_, fun _ => Or.inl (xbc ha)⟩
  rw [xbN ht] at hts; cases hts
 | some q =>
  obtain ⟨t, k⟩ := q
  rw [ht] at ha
  simp only at ha
  have htk := xaV ht
  rw [<- hd, List.drop_drop] at htk
  rw [hd] at htk
  cases hT : tokT t with
  | none =>
   rw [hT] at ha
   obtain ⟨hb, m, x, rfl⟩ := ha
   refine ⟨fun ts hts => Or.inl ⟨xbc hb, fun al ps => ?_⟩, fun _ => Or.inl (xbc hb)⟩
   rw [htk, Option.map_eq_some_iff] at hts
   obtain ⟨t2, _, rfl⟩ := hts
   exact xk5 _ _ _ _ _ _
  | some x =>
   rw [hT] at ha
   obtain ⟨ha, hlo⟩ := ha
   have haf := xdX (rs := rs) (lo := xfR t) ha (by rw [hpk]; exact hlo)
   refine ⟨fun ts hts => ?_, fun hts => ?_⟩
   · rw [htk, Option.map_eq_some_iff] at hts
     obtain ⟨t2, ht2, rfl⟩ := hts
     rcases haf.a t2 ht2 with ⟨q1, q2⟩ | ⟨p2, ts2, t', q1, q2, q3⟩
     · exact Or.inl ⟨q1, fun al ps => by rw [xk4 hT]; exact q2 al ps⟩
     exact Or.inr ⟨p2, ts2, t', q1, q2, fun al ps => by rw [xk4 hT]; exact q3 al ps⟩
   rw [htk, Option.map_eq_none_iff] at hts
   exact haf.b hts
theorem xft {f : PS -> T × PS} {s : PS} (n : Nat) (l : List T) (h : s.bad = true) : xbn f rs n s l = (l, s) := xfs _ _ (by rw [xiC h]; exact xiZ)
theorem xcU {f : PS -> T × PS} {s : PS} (n : Nat) (l : List T) (h : s.bad = true) : xbo f rs n s l = (l, s) := xdV _ _ (by rw [xiC h]; omega)
include hr in
theorem xlh {f : PS -> T × PS} {d : Int} (hgo : ∀ s, Go1 rs s (f s).2) (H : 10 < d + 1 \/ SimF rs f (d + 1)) : ∀ (n p : Nat) (ps : List T), rs.length + 9 <= n + p ->
 (∀ ts, toks (rs.drop p) = some ts -> ((xbn f rs n ⟨p, d, false⟩ ps).2.bad = true /\ ∀ al, rdF d ts al ps false = none) \/
   ∃ p2 ts2 ps2, xbn f rs n ⟨p, d, false⟩ ps = (ps2, ⟨p2, d, false⟩) /\ toks (rs.drop p2) = some ts2 /\ isPc (pk rs ⟨p2, d, false⟩) = false /\ p <= p2 /\ ∀ al, rdF d ts al ps false = rdF d ts2 al ps2 false) /\
 (toks (rs.drop p) = none -> (xbn f rs n ⟨p, d, false⟩ ps).2.bad = true \/ ∃ p2 ps2, xbn f rs n ⟨p, d, false⟩ ps = (ps2, ⟨p2, d, false⟩) /\ toks (rs.drop p2) = none /\ isPc (pk rs ⟨p2, d, false⟩) = false /\ p <= p2) := by
 intro n
 induction n with
 | zero =>
  intro p ps hn
  have he : rs.drop p = [] := List.drop_eq_nil_of_le (by omega)
  have hi : isPc (pk rs ⟨p, d, false⟩) = false := by rw [xbV d he]; exact xiZ
  exact ⟨fun ts hts => Or.inr ⟨p, ts, ps, rfl, hts, hi, Nat.le_refl _, fun al => rfl⟩, fun hts => Or.inr ⟨p, ps, rfl, hts, hi, Nat.le_refl _⟩⟩
 | succ n ih =>
  intro p ps hn
  cases hi : isPc (pk rs ⟨p, d, false⟩) with
  | false =>
   rw [xfs _ _ hi]
   exact ⟨fun ts hts => Or.inr ⟨p, ts, ps, rfl, hts, hi, Nat.le_refl _, fun al => rfl⟩, fun hts => Or.inr ⟨p, ps, rfl, hts, hi, Nat.le_refl _⟩⟩
  | true =>
   rw [xjM _ _ hi]
   obtain ⟨hA, hB⟩ := xlg hr hgo H p hi
   have hadv := (xd hgo (xf7 hi)).1
   simp only at hadv
   refine ⟨fun ts hts => ?_, fun hts => ?_⟩
   · rcases hA ts hts with ⟨h1, h2⟩ | ⟨p2, ts2, t, h1, h2, h3⟩
     · left
       rw [xft _ _ h1]
       exact ⟨h1, fun al => h2 al ps⟩
     rw [h1] at hadv ⊢
     simp only at hadv ⊢
     rcases (ih p2 (ps ++ [t]) (by omega)).1 ts2 h2 with ⟨g1, g2⟩ | ⟨p3, ts3, ps3, g1, g2, g3, g4, g5⟩
     · exact Or.inl ⟨g1, fun al => by rw [h3]; exact g2 al⟩
     exact Or.inr ⟨p3, ts3, ps3, g1, g2, g3, by omega, fun al => by rw [h3]; exact g5 al⟩
   rcases hB hts with h1 | ⟨p2, t, h1, h2⟩
   · left
     rw [xft _ _ h1]; exact h1
   rw [h1] at hadv ⊢
   simp only at hadv ⊢
   rcases (ih p2 (ps ++ [t]) (by omega)).2 h2 with g1 | ⟨p3, ps3, g1, g2, g3, g4⟩
   · exact Or.inl g1
   exact Or.inr ⟨p3, ps3, g1, g2, g3, by omega⟩
include hr in
theorem xjk {p : Nat} {d : Int} (h : isPc (pk rs ⟨p, d, false⟩) = false) : rs.drop p = [] \/ (∃ l, rs.drop p = 124 :: l) \/ ∃ l, rs.drop p = 41 :: l := by
 rcases hd : rs.drop p with _ | ⟨r, l⟩
 · exact Or.inl rfl
 rw [xa8 d hd] at h
 have h0 := xge hr hd
 simp only [isPc, Bool.and_eq_false_iff, decide_eq_false_iff_not, Bool.not_eq_false', decide_eq_true_eq] at h
 rcases h with h | h | h
 · omega
 · subst h; exact Or.inr (Or.inl ⟨l, rfl⟩)
 subst h; exact Or.inr (Or.inr ⟨l, rfl⟩)
theorem tok_124 (l : List Int) : tokP (124 :: l) = some (.sg 124, 1) := by rw [xas, if_pos (by omega)]
theorem tok_41 (l : List Int) : tokP (41 :: l) = some (.sg 41, 1) := by rw [xas, if_pos (by omega)]
include hr in
theorem xms {f : PS -> T × PS} {d : Int} (hgo : ∀ s, Go1 rs s (f s).2) (H : 10 < d + 1 \/ SimF rs f (d + 1)) : ∀ (n p : Nat) (al ps : List T), rs.length + 9 <= n + p -> isPc (pk rs ⟨p, d, false⟩) = false ->
 (∀ ts, toks (rs.drop p) = some ts -> ((xbo f rs n ⟨p, d, false⟩ (al ++ [xa4 4 ps])).2.bad = true /\ rdF d ts al ps false = none) \/
   ∃ p2 ts2 l2, xbo f rs n ⟨p, d, false⟩ (al ++ [xa4 4 ps]) = (l2, ⟨p2, d, false⟩) /\ toks (rs.drop p2) = some ts2 /\ rdF d ts al ps false = some (xa4 5 l2, ts2)) /\
 (toks (rs.drop p) = none -> (xbo f rs n ⟨p, d, false⟩ (al ++ [xa4 4 ps])).2.bad = true \/ ∃ p2 l2, xbo f rs n ⟨p, d, false⟩ (al ++ [xa4 4 ps]) = (l2, ⟨p2, d, false⟩) /\ toks (rs.drop p2) = none) := by
 intro n
 induction n with
 | zero =>
  intro p al ps hn hi
  have he : rs.drop p = [] := List.drop_eq_nil_of_le (by omega)
  refine ⟨fun ts hts => Or.inr ⟨p, ts, _, rfl, hts, ?_⟩, fun hts => Or.inr ⟨p, _, rfl, hts⟩⟩
  rw [he, xbl] at hts
  obtain rfl := Option.some.inj hts
  rfl
 | succ n ih =>
  intro p al ps hn hi
  rcases xjk hr hi with he | ⟨l, he⟩ | ⟨l, he⟩
  · rw [xdV _ _ (by rw [xbV d he]; omega)]
    refine ⟨fun ts hts => Or.inr ⟨p, ts, _, rfl, hts, ?_⟩, fun hts => Or.inr ⟨p, _, rfl, hts⟩⟩
    rw [he, xbl] at hts
    obtain rfl := Option.some.inj hts
    rfl
  · have h124 : pk rs ⟨p, d, false⟩ = 124 := xa8 d he
    have htk : tk rs 124 ⟨p, d, false⟩ = ⟨p + 1, d, false⟩ := by unfold tk; rw [if_pos h124]
    have hd1 := (xa5 he).2.1
    rw [xkw _ _ h124, htk]
    have htt : toks (rs.drop p) = (toks (rs.drop (p + 1))).map (.sg 124 :: ·) := by
     rw [he, xaV (tok_124 l), hd1]; rfl
    obtain ⟨hA, hB⟩ := xlh hr hgo H (rs.length + 9) (p + 1) [] (by omega)
    refine ⟨fun ts hts => ?_, fun hts => ?_⟩
    · rw [htt, Option.map_eq_some_iff] at hts
      obtain ⟨t1, ht1, rfl⟩ := hts
      rcases hA t1 ht1 with ⟨h1, h2⟩ | ⟨p2, ts2, ps2, h1, h2, h3, h4, h5⟩
      · left
        have hb : (xar f rs ⟨p + 1, d, false⟩).2.bad = true := h1
        rw [xcU _ _ hb]
        exact ⟨hb, by rw [xhH]; exact h2 _⟩
      have hp2 : xar f rs ⟨p + 1, d, false⟩ = (xa4 4 ps2, ⟨p2, d, false⟩) := by unfold xar pcsR; rw [h1]
      rw [hp2]
      simp only
      rcases (ih p2 (al ++ [xa4 4 ps]) ps2 (by omega) h3).1 ts2 h2 with ⟨g1, g2⟩ | ⟨p3, ts3, l3, g1, g2, g3⟩
      · exact Or.inl ⟨g1, by rw [xhH, h5]; exact g2⟩
      exact Or.inr ⟨p3, ts3, l3, g1, g2, by rw [xhH, h5]; exact g3⟩
    rw [htt, Option.map_eq_none_iff] at hts
    rcases hB hts with h1 | ⟨p2, ps2, h1, h2, h3, h4⟩
    · left
      have hb : (xar f rs ⟨p + 1, d, false⟩).2.bad = true := h1
      rw [xcU _ _ hb]; exact hb
    have hp2 : xar f rs ⟨p + 1, d, false⟩ = (xa4 4 ps2, ⟨p2, d, false⟩) := by unfold xar pcsR; rw [h1]
    rw [hp2]
    simp only
    exact (ih p2 (al ++ [xa4 4 ps]) ps2 (by omega) h3).2 h2
  rw [xdV _ _ (by rw [xa8 d he]; omega)]
  refine ⟨fun ts hts => Or.inr ⟨p, ts, _, rfl, hts, ?_⟩, fun hts => Or.inr ⟨p, _, rfl, hts⟩⟩
  rw [he, xaV (tok_41 l), Option.map_eq_some_iff] at hts
  obtain ⟨t1, _, rfl⟩ := hts
  rfl
include hr in
theorem xhs {f : PS -> T × PS} {d : Int} (hgo : ∀ s, Go1 rs s (f s).2) (H : 10 < d + 1 \/ SimF rs f (d + 1)) : SimF rs (xdc f rs) d := by
 intro p
 obtain ⟨hA, hB⟩ := xlh hr hgo H (rs.length + 9) p [] (by omega)
 refine ⟨fun ts hts => ?_, fun hts => ?_⟩
 · rcases hA ts hts with ⟨h1, h2⟩ | ⟨p2, ts2, ps2, h1, h2, h3, h4, h5⟩
   · left
     have hb : (xar f rs ⟨p, d, false⟩).2.bad = true := h1
     refine ⟨?_, h2 _⟩
     unfold xdc altR
     rw [xcU _ _ hb]; exact hb
   have hp2 : xar f rs ⟨p, d, false⟩ = (xa4 4 ps2, ⟨p2, d, false⟩) := by unfold xar pcsR; rw [h1]
   unfold xdc altR
   rw [hp2, h5]
   simp only
   rcases (xms hr hgo H (rs.length + 9) p2 [] ps2 (by omega) h3).1 ts2 h2 with ⟨g1, g2⟩ | ⟨p3, ts3, l3, g1, g2, g3⟩
   · exact Or.inl ⟨g1, g2⟩
   refine Or.inr ⟨p3, ts3, xa4 5 l3, ?_, g2, g3⟩
   rw [List.nil_append] at g1
   rw [g1]
 rcases hB hts with h1 | ⟨p2, ps2, h1, h2, h3, h4⟩
 · left
   have hb : (xar f rs ⟨p, d, false⟩).2.bad = true := h1
   unfold xdc altR
   rw [xcU _ _ hb]; exact hb
 have hp2 : xar f rs ⟨p, d, false⟩ = (xa4 4 ps2, ⟨p2, d, false⟩) := by unfold xar pcsR; rw [h1]
 unfold xdc altR
 rw [hp2]
 simp only
 rcases (xms hr hgo H (rs.length + 9) p2 [] ps2 (by omega) h3).2 h2 with g1 | ⟨p3, l3, g1, g2⟩
 · exact Or.inl g1
 refine Or.inr ⟨p3, xa4 5 l3, ?_, g2⟩
 rw [List.nil_append] at g1
 rw [g1]
include hr in
theorem xn4 : ∀ (n : Nat) (d : Int), d <= 10 -> 10 <= d + n -> SimF rs (alts rs n) d := by
 intro n
 induction n with
 | zero => intro d h1 h2; exact xhs hr (f := fun s => (xa1, s)) (fun s => Go1.refl _ _) (Or.inl (by omega))
 | succ n ih =>
  intro d h1 h2
  refine xhs hr (f := alts rs n) (xgm rs n) ?_
  by_cases h : 10 < d + 1
  · exact Or.inl h
  exact Or.inr (ih (d + 1) (by omega) (by push_cast at h2; omega))
def xe9 (ts : List Tok) : Option T := xaG (ts.length + 1) 0 ts [] [] false
include hr in
theorem xjR : xcV rs = match toks rs with
 | none => (xa1, 15)
 | some ts => match xe9 ts with
  | none => (xa1, 15)
  | some t => (t, 0) := by
 have hd0 : rs.drop 0 = rs := rfl
 obtain ⟨hA, hB⟩ := xn4 hr 11 0 (by omega) (by omega) 0
 rw [hd0] at hA hB
 have hinv := (xgm rs 11 ⟨0, 0, false⟩).inv ⟨by simp, fun _ => by simp⟩
 unfold xcV
 cases ht : toks rs with
 | none =>
  simp only
  rcases hB ht with h1 | ⟨p2, t, h1, h2⟩
  · rw [if_pos (Or.inl h1)]
  rw [h1]
  rw [if_pos]
  refine Or.inr fun (e : p2 = rs.length) => ?_
  rw [e, List.drop_eq_nil_of_le (Nat.le_refl _), xbl] at h2; cases h2
 | some ts =>
  simp only
  have hok := xfQ ht
  rcases hA ts ht with ⟨h1, h2⟩ | ⟨p2, ts2, t, h1, h2, h3⟩
  · rw [if_pos (Or.inl h1)]
    cases hx : xe9 ts with
    | none => rfl
    | some t =>
     have := xkG _ _ _ _ _ _ _ hx [] (Or.inl rfl)
     rw [List.append_nil] at this
     unfold rdF at h2
     rw [h2] at this; cases this
  obtain ⟨g1, l1, g2, _, g3⟩ := xfZ _ _ _ _ _ _ _ _ hok h3
  rw [h1] at hinv ⊢
  rcases g1 with rfl | ⟨r', rfl⟩
  · have he := xfg h2
    rw [List.append_nil] at g2
    subst g2
    rw [List.drop_eq_nil_iff] at he
    have hb := hinv.b rfl
    simp only at hb
    have hx : xe9 ts = some t := g3
    rw [hx, if_neg]
    rintro (h | h)
    · cases h
    exact h (by simp only; omega)
  rw [if_pos]
  · cases hx : xe9 ts with
    | none => rfl
    | some t' =>
     have := xkG _ _ _ _ _ _ _ hx [] (Or.inl rfl)
     rw [List.append_nil] at this
     unfold rdF at h3
     rw [h3] at this
     simp at this
  refine Or.inr fun (e : p2 = rs.length) => ?_
  rw [e, List.drop_eq_nil_of_le (Nat.le_refl _), xbl] at h2; cases h2
end
end Go.Proofs.YtapmdhejgnplaaaGreat
namespace Go.Proofs.YtapmdhejgnplaaaGreat
section
open Go.RowKit
set_option maxRecDepth 100000
end
end Go.Proofs.YtapmdhejgnplaaaGreat
namespace Go.Proofs.YtapmdhejgnplaaaGreat
section
open Go.RowKit
set_option maxRecDepth 100000
theorem xnt (c : Nat) : lenP c <= 4 := by unfold lenP; split <;> (try split) <;> (try split) <;> (try split) <;> omega
theorem xns {c : Nat} (h : lenP c = 1) : c < 128 := by unfold lenP at h; split at h <;> (try split at h) <;> (try split at h) <;> (try split at h) <;> omega
theorem xlc : ∀ (n m : Nat) (l : List UInt8), l.length <= n -> l.length <= m -> ptsP n l = ptsP m l := by
 intro n
 induction n with
 | zero =>
  intro m l hn hm
  obtain rfl : l = [] := List.length_eq_zero_iff.1 (by omega)
  cases m with
  | zero => rfl
  | succ m => rw [ptsP, ptsP, if_pos rfl]
 | succ n ih =>
  intro m l hn hm
  rcases l with _ | ⟨c, l⟩
  · cases m with
    | zero => simp [ptsP]
    | succ m => simp [ptsP]
  obtain ⟨m, rfl⟩ : ∃ k, m = k + 1 := ⟨m - 1, by simp at hm; omega⟩
  rw [ptsP, ptsP]
  simp only [reduceCtorEq, if_false]
  split
  · have := xdy c l
    simp only [List.length_cons] at hn hm
    rw [ih m _ (by rw [List.length_drop, List.length_cons]; omega) (by rw [List.length_drop, List.length_cons]; omega)]
  rfl
theorem xm1 {c : UInt8} {l : List UInt8} : pts (c :: l) = if sizP (getP (c :: l)).1 = ((getP (c :: l)).2 : Int) then (pts ((c :: l).drop (getP (c :: l)).2)).map ((getP (c :: l)).1 :: ·) else none := by
 unfold pts
 rw [show (c :: l).length = l.length + 1 from rfl, ptsP, if_neg (by simp)]
 split
 · have := xdy c l
   rw [xlc l.length _ _ (by rw [List.length_drop, List.length_cons]; omega) (Nat.le_refl _)]
 rfl
end
end Go.Proofs.YtapmdhejgnplaaaGreat
end
namespace Go.Proofs.YtapmdhejgnplaaaGreat
open Go.RowKit
set_option maxRecDepth 100000
end Go.Proofs.YtapmdhejgnplaaaGreat
