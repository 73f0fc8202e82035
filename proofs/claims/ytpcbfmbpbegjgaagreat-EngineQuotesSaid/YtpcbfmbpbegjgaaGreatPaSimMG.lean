/-
  Tokens, the parser's steps, which texts are patterns, how deep parentheses stand: plain Lean.
-/
import Derived.Test.YtpcbfmbpbegjgaaGreatMg9
import Derived.Test.YtpcbfmbpbegjgaaGreatMg11
import Derived.Test.YtpcbfmbpbegjgaaGreatMg2
namespace Go.Proofs.YtpcbfmbpbegjgaaGreat
section
open Go.RowKit
set_option linter.unusedVariables false
set_option linter.unusedSimpArgs false
set_option maxRecDepth 100000

/-- A token: an atom of one point with its set, a sign, a count. -/
inductive Tok where
  | pt (s : List (Int × Int)) : Tok
  | sg (r : Int) : Tok
  | ct (m x : Int) : Tok
def endT (al ps : List T) : T := joinT 5 (al ++ [joinT 4 ps])
def repT (ps : List T) (m x : Int) : List T := ps.dropLast ++ [⟨6, [], m, x, F.ofL [ps.getLast?.getD zeroT]⟩]
/-- Through the tokens up to a closing parenthesis. -/
def rdM : Nat → Int → List Tok → List T → List T → Bool → Option (T × List Tok)
  | 0, _, _, _, _, _ => none
  | n + 1, d, l, al, ps, lo =>
    match l with
    | [] => some (endT al ps, [])
    | .pt s :: r => rdM n d r al (ps ++ [charT s]) true
    | .ct m x :: r => if lo = true then rdM n d r al (repT ps m x) false else none
    | .sg c :: r =>
      if c = 124 then rdM n d r (al ++ [joinT 4 ps]) [] false
      else if c = 94 then rdM n d r al (ps ++ [⟨2, [], 0, 0, .nil⟩]) false
      else if c = 36 then rdM n d r al (ps ++ [⟨3, [], 0, 0, .nil⟩]) false
      else if c = 41 then some (endT al ps, .sg c :: r)
      else if 10 < d + 1 then none
      else match rdM n (d + 1) r [] [] false with
        | some (t, .sg 41 :: r') => rdM n d r' al (ps ++ [t]) true
        | _ => none
/-- What is up to the parenthesis that closes, and what is behind it. -/
def closeT : Nat → List Tok → Option (List Tok × List Tok)
  | _, [] => none
  | k, .sg c :: r =>
    if c = 40 then (closeT (k + 1) r).map fun p => (.sg c :: p.1, p.2)
    else if c = 41 then (if k = 0 then some ([], r) else (closeT (k - 1) r).map fun p => (.sg c :: p.1, p.2))
    else (closeT k r).map fun p => (.sg c :: p.1, p.2)
  | k, .pt s :: r => (closeT k r).map fun p => (.pt s :: p.1, p.2)
  | k, .ct m x :: r => (closeT k r).map fun p => (.ct m x :: p.1, p.2)
/-- A sign that is one. -/
def Tok.ok : Tok → Prop
  | .sg c => c = 124 ∨ c = 94 ∨ c = 36 ∨ c = 41 ∨ c = 40
  | _ => True
def treeM : Nat → Int → List Tok → List T → List T → Bool → Option T
  | 0, _, _, _, _, _ => none
  | n + 1, d, l, al, ps, lo =>
    match l with
    | [] => some (endT al ps)
    | .pt s :: r => treeM n d r al (ps ++ [charT s]) true
    | .ct m x :: r => if lo = true then treeM n d r al (repT ps m x) false else none
    | .sg c :: r =>
      if c = 124 then treeM n d r (al ++ [joinT 4 ps]) [] false
      else if c = 94 then treeM n d r al (ps ++ [⟨2, [], 0, 0, .nil⟩]) false
      else if c = 36 then treeM n d r al (ps ++ [⟨3, [], 0, 0, .nil⟩]) false
      else if c = 41 then none
      else match closeT 0 r with
        | none => none
        | some (l1, r') => if 10 < d + 1 then none else match treeM n (d + 1) l1 [] [] false with
          | none => none
          | some t => treeM n d r' al (ps ++ [t]) true
theorem closeT_split : ∀ (l : List Tok) (k : Nat) (l1 r : List Tok), closeT k l = some (l1, r) → l = l1 ++ .sg 41 :: r := by
  intro l
  induction l with
  | nil => intro k l1 r h; simp [closeT] at h
  | cons t l ih =>
    intro k l1 r h
    cases t with
    | pt s =>
      simp only [closeT, Option.map_eq_some_iff] at h
      obtain ⟨⟨p, q⟩, h1, h2⟩ := h
      obtain ⟨rfl, rfl⟩ := Prod.mk.inj h2
      rw [ih _ _ _ h1]; rfl
    | ct m x =>
      simp only [closeT, Option.map_eq_some_iff] at h
      obtain ⟨⟨p, q⟩, h1, h2⟩ := h
      obtain ⟨rfl, rfl⟩ := Prod.mk.inj h2
      rw [ih _ _ _ h1]; rfl
    | sg c =>
      by_cases h40 : c = 40
      · rw [closeT, if_pos h40, Option.map_eq_some_iff] at h
        obtain ⟨⟨p, q⟩, h1, h2⟩ := h
        obtain ⟨rfl, rfl⟩ := Prod.mk.inj h2
        rw [ih _ _ _ h1]; rfl
      · by_cases h41 : c = 41
        · rw [closeT, if_neg h40, if_pos h41] at h
          by_cases hk : k = 0
          · rw [if_pos hk] at h
            simp only [Option.some.injEq, Prod.mk.injEq] at h; obtain ⟨rfl, rfl⟩ := h; rw [h41]; rfl
          · rw [if_neg hk] at h
            simp only [Option.map_eq_some_iff] at h
            obtain ⟨⟨p, q⟩, h1, h2⟩ := h
            obtain ⟨rfl, rfl⟩ := Prod.mk.inj h2
            rw [ih _ _ _ h1]; rfl
        · rw [closeT, if_neg h40, if_neg h41, Option.map_eq_some_iff] at h
          obtain ⟨⟨p, q⟩, h1, h2⟩ := h
          obtain ⟨rfl, rfl⟩ := Prod.mk.inj h2
          rw [ih _ _ _ h1]; rfl
/-- Parentheses in it stand in pairs. -/
def Bal (l : List Tok) : Prop := ∀ k r, closeT k (l ++ r) = (closeT k r).map fun p => (l ++ p.1, p.2)
theorem Bal.nil : Bal [] := fun k r => by cases h : closeT k r <;> simp [h]
theorem Bal.app {a b : List Tok} (ha : Bal a) (hb : Bal b) : Bal (a ++ b) := fun k r => by
  rw [List.append_assoc, ha, hb]; cases closeT k r <;> simp
theorem Bal.pt (s : List (Int × Int)) : Bal [.pt s] := fun k r => by simp [closeT]
theorem Bal.ct (m x : Int) : Bal [.ct m x] := fun k r => by simp [closeT]
theorem Bal.sg {c : Int} (h1 : c ≠ 40) (h2 : c ≠ 41) : Bal [.sg c] := fun k r => by simp [closeT, h1, h2]
theorem Bal.par {l : List Tok} (h : Bal l) : Bal (.sg 40 :: (l ++ [.sg 41])) := fun k r => by
  have h1 : closeT k (.sg 40 :: (l ++ [.sg 41]) ++ r) = (closeT (k + 1) (l ++ (.sg 41 :: r))).map fun p => (.sg 40 :: p.1, p.2) := by
    simp [closeT]
  rw [h1, h, closeT, if_neg (by omega), if_pos rfl, if_neg (by omega), Nat.add_sub_cancel]
  cases closeT k r <;> simp
theorem Bal.close {l : List Tok} (h : Bal l) (r : List Tok) : closeT 0 (l ++ .sg 41 :: r) = some (l, r) := by
  rw [h, closeT, if_neg (by omega), if_pos rfl, if_pos rfl]; simp
def stopT (r : List Tok) : Prop := r = [] ∨ ∃ r', r = .sg 41 :: r'
theorem rd_tree : ∀ n d l al ps lo t r, (∀ k ∈ l, Tok.ok k) → rdM n d l al ps lo = some (t, r) → stopT r ∧ ∃ l1, l = l1 ++ r ∧ Bal l1 ∧ treeM n d l1 al ps lo = some t := by
  intro n
  induction n with
  | zero => intro d l al ps lo t r _ h; simp [rdM] at h
  | succ n ih =>
    intro d l al ps lo t r hok h
    rcases l with _ | ⟨k, l⟩
    · simp only [rdM, Option.some.injEq, Prod.mk.injEq] at h
      obtain ⟨rfl, rfl⟩ := h
      exact ⟨Or.inl rfl, [], rfl, Bal.nil, rfl⟩
    · have hok2 : ∀ k ∈ l, Tok.ok k := fun x hx => hok x (by simp [hx])
      cases k with
      | pt s =>
        rw [rdM] at h
        obtain ⟨h1, l1, rfl, h3, h4⟩ := ih _ _ _ _ _ _ _ hok2 h
        exact ⟨h1, .pt s :: l1, rfl, (Bal.pt s).app h3, by rw [treeM]; exact h4⟩
      | ct m x =>
        rw [rdM] at h
        by_cases hlo : lo = true
        · simp only [hlo, if_true] at h
          obtain ⟨h1, l1, rfl, h3, h4⟩ := ih _ _ _ _ _ _ _ hok2 h
          exact ⟨h1, .ct m x :: l1, rfl, (Bal.ct m x).app h3, by rw [treeM]; simp only [hlo, if_true]; exact h4⟩
        · simp only [if_neg hlo] at h; cases h
      | sg c =>
        have hc := hok (.sg c) (by simp)
        rw [rdM] at h
        by_cases c1 : c = 124
        · simp only [if_pos c1] at h
          obtain ⟨h1, l1, rfl, h3, h4⟩ := ih _ _ _ _ _ _ _ hok2 h
          exact ⟨h1, .sg c :: l1, rfl, (Bal.sg (by omega) (by omega)).app h3, by rw [treeM]; simp only [if_pos c1]; exact h4⟩
        by_cases c2 : c = 94
        · simp only [if_neg c1, if_pos c2] at h
          obtain ⟨h1, l1, rfl, h3, h4⟩ := ih _ _ _ _ _ _ _ hok2 h
          exact ⟨h1, .sg c :: l1, rfl, (Bal.sg (by omega) (by omega)).app h3, by rw [treeM]; simp only [if_neg c1, if_pos c2]; exact h4⟩
        by_cases c3 : c = 36
        · simp only [if_neg c1, if_neg c2, if_pos c3] at h
          obtain ⟨h1, l1, rfl, h3, h4⟩ := ih _ _ _ _ _ _ _ hok2 h
          exact ⟨h1, .sg c :: l1, rfl, (Bal.sg (by omega) (by omega)).app h3, by rw [treeM]; simp only [if_neg c1, if_neg c2, if_pos c3]; exact h4⟩
        by_cases c4 : c = 41
        · simp only [if_neg c1, if_neg c2, if_neg c3, if_pos c4, Option.some.injEq, Prod.mk.injEq] at h
          obtain ⟨rfl, rfl⟩ := h
          exact ⟨Or.inr ⟨l, by rw [c4]⟩, [], rfl, Bal.nil, rfl⟩
        have c5 : c = 40 := by rcases hc with h | h | h | h | h <;> first | exact h | contradiction
        simp only [if_neg c1, if_neg c2, if_neg c3, if_neg c4] at h
        by_cases hd : 10 < d + 1
        · simp only [if_pos hd] at h; cases h
        · simp only [if_neg hd] at h
          cases hx : rdM n (d + 1) l [] [] false with
          | none => rw [hx] at h; cases h
          | some p =>
            obtain ⟨t1, r1⟩ := p
            rw [hx] at h
            obtain ⟨g1, l1, rfl, g3, g4⟩ := ih _ _ _ _ _ _ _ hok2 hx
            rcases g1 with rfl | ⟨r', rfl⟩
            · simp at h
            · simp only at h
              obtain ⟨h1, l2, rfl, h3, h4⟩ := ih _ _ _ _ _ _ _ (fun x hx => hok2 x (by simp [hx])) h
              refine ⟨h1, .sg 40 :: (l1 ++ [.sg 41]) ++ l2, by rw [c5]; simp, g3.par.app h3, ?_⟩
              have e : (.sg 40 :: (l1 ++ [.sg 41]) ++ l2 : List Tok) = .sg 40 :: (l1 ++ .sg 41 :: l2) := by simp
              rw [e, treeM]
              rw [if_neg (by omega), if_neg (by omega), if_neg (by omega), if_neg (by omega), g3.close, ]
              simp only [if_neg hd, g4]
              exact h4
theorem tree_rd : ∀ n d l al ps lo t, treeM n d l al ps lo = some t → ∀ r, stopT r → rdM n d (l ++ r) al ps lo = some (t, r) := by
  intro n
  induction n with
  | zero => intro d l al ps lo t h; simp [treeM] at h
  | succ n ih =>
    intro d l al ps lo t h r hr
    rcases l with _ | ⟨k, l⟩
    · simp only [treeM, Option.some.injEq] at h
      subst h
      rcases hr with rfl | ⟨r', rfl⟩
      · rfl
      · rfl
    · cases k with
      | pt s => rw [treeM] at h; exact ih _ _ _ _ _ _ h r hr
      | ct m x =>
        rw [treeM] at h
        show (if lo = true then rdM n d (l ++ r) al (repT ps m x) false else none) = _
        by_cases hlo : lo = true
        · simp only [hlo, if_true] at h ⊢; exact ih _ _ _ _ _ _ h r hr
        · simp only [if_neg hlo] at h; cases h
      | sg c =>
        rw [treeM] at h
        rw [List.cons_append, rdM]
        by_cases c1 : c = 124
        · simp only [if_pos c1] at h ⊢; exact ih _ _ _ _ _ _ h r hr
        by_cases c2 : c = 94
        · simp only [if_neg c1, if_pos c2] at h ⊢; exact ih _ _ _ _ _ _ h r hr
        by_cases c3 : c = 36
        · simp only [if_neg c1, if_neg c2, if_pos c3] at h ⊢; exact ih _ _ _ _ _ _ h r hr
        by_cases c4 : c = 41
        · simp only [if_neg c1, if_neg c2, if_neg c3, if_pos c4] at h; cases h
        simp only [if_neg c1, if_neg c2, if_neg c3, if_neg c4] at h ⊢
        cases hx : closeT 0 l with
        | none => rw [hx] at h; cases h
        | some p =>
          obtain ⟨l1, r1⟩ := p
          rw [hx] at h
          simp only at h
          by_cases hd : 10 < d + 1
          · simp only [if_pos hd] at h; cases h
          · simp only [if_neg hd] at h ⊢
            cases hy : treeM n (d + 1) l1 [] [] false with
            | none => rw [hy] at h; cases h
            | some t1 =>
              rw [hy] at h
              simp only at h
              have e := closeT_split _ _ _ _ hx
              have h1 := ih _ _ _ _ _ _ hy (.sg 41 :: (r1 ++ r)) (Or.inr ⟨_, rfl⟩)
              have e2 : l ++ r = l1 ++ .sg 41 :: (r1 ++ r) := by rw [e]; simp
              rw [e2, h1]
              exact ih _ _ _ _ _ _ h r hr
/-- Enough fuel is enough. -/
theorem treeM_fuel : ∀ n m d l al ps lo, l.length < n → l.length < m → treeM n d l al ps lo = treeM m d l al ps lo := by
  intro n
  induction n with
  | zero => intro m d l al ps lo h; omega
  | succ n ih =>
    intro m d l al ps lo hn hm
    obtain ⟨m, rfl⟩ : ∃ k, m = k + 1 := ⟨m - 1, by omega⟩
    rcases l with _ | ⟨k, l⟩
    · rfl
    · simp only [List.length_cons] at hn hm
      cases k with
      | pt s => exact ih _ _ _ _ _ _ (by omega) (by omega)
      | ct m' x =>
        rw [treeM, treeM]
        by_cases hlo : lo = true
        · simp only [hlo, if_true]; exact ih _ _ _ _ _ _ (by omega) (by omega)
        · simp only [if_neg hlo]
      | sg c =>
        rw [treeM, treeM]
        split
        · exact ih _ _ _ _ _ _ (by omega) (by omega)
        split
        · exact ih _ _ _ _ _ _ (by omega) (by omega)
        split
        · exact ih _ _ _ _ _ _ (by omega) (by omega)
        split
        · rfl
        cases hx : closeT 0 l with
        | none => rfl
        | some p =>
          obtain ⟨l1, r1⟩ := p
          have e := closeT_split _ _ _ _ hx
          have hle : l1.length + 1 + r1.length = l.length := by rw [e]; simp; omega
          simp only
          split
          · rfl
          rw [ih m (d + 1) l1 [] [] false (by omega) (by omega)]
          cases treeM m (d + 1) l1 [] [] false with
          | none => rfl
          | some t => exact ih _ _ _ _ _ _ (by omega) (by omega)
theorem rdM_fuel : ∀ n m d l al ps lo, (∀ k ∈ l, Tok.ok k) → l.length < n → l.length < m → rdM n d l al ps lo = rdM m d l al ps lo := by
  intro n
  induction n with
  | zero => intro m d l al ps lo _ h; omega
  | succ n ih =>
    intro m d l al ps lo hok hn hm
    obtain ⟨m, rfl⟩ : ∃ k, m = k + 1 := ⟨m - 1, by omega⟩
    rcases l with _ | ⟨k, l⟩
    · rfl
    · have hok2 : ∀ k ∈ l, Tok.ok k := fun x hx => hok x (by simp [hx])
      simp only [List.length_cons] at hn hm
      cases k with
      | pt s => exact ih _ _ _ _ _ _ hok2 (by omega) (by omega)
      | ct m' x =>
        rw [rdM, rdM]
        by_cases hlo : lo = true
        · simp only [hlo, if_true]; exact ih _ _ _ _ _ _ hok2 (by omega) (by omega)
        · simp only [if_neg hlo]
      | sg c =>
        rw [rdM, rdM]
        split
        · exact ih _ _ _ _ _ _ hok2 (by omega) (by omega)
        split
        · exact ih _ _ _ _ _ _ hok2 (by omega) (by omega)
        split
        · exact ih _ _ _ _ _ _ hok2 (by omega) (by omega)
        split
        · rfl
        split
        · rfl
        rw [ih m (d + 1) l [] [] false hok2 (by omega) (by omega)]
        cases hx : rdM m (d + 1) l [] [] false with
        | none => rfl
        | some p =>
          obtain ⟨t, r1⟩ := p
          obtain ⟨g1, l1, e, _, _⟩ := rd_tree _ _ _ _ _ _ _ _ hok2 hx
          rcases g1 with rfl | ⟨r', rfl⟩
          · rfl
          · have hle : l1.length + 1 + r'.length = l.length := by rw [e]; simp; omega
            exact ih _ _ _ _ _ _ (fun x hx => hok2 x (by rw [e]; simp [hx])) (by omega) (by omega)
end
end Go.Proofs.YtpcbfmbpbegjgaaGreat
namespace Go.Proofs.YtpcbfmbpbegjgaaGreat
section
open Go.RowKit
set_option linter.unusedVariables false
set_option linter.unusedSimpArgs false
set_option maxRecDepth 100000

def escP (r : Int) : Option (List (Int × Int) × Bool) := if isNam r then some (namedL r, false) else if escBad r then none else some ([(escR r, escR r)], true)
def ptP : List Int → Option (List (Int × Int) × Bool × Nat)
  | [] => none
  | r :: l => if r = 92 then (match l with | [] => none | r2 :: _ => (escP r2).map fun p => (p.1, p.2, 2)) else if amg npL r then none else some ([(r, r)], true, 1)
def clG : Nat → Bool → List Int → List (Int × Int) → Nat → Option (List (Int × Int) × Nat)
  | 0, _, _, _, _ => none
  | n + 1, first, l, all, k =>
    if first = false ∧ l.head? = some 93 then some (all, k + 1)
    else match ptP l with
      | none => none
      | some (s, is, a) =>
        if is = true ∧ (l.drop a).head? = some 45 then
          match ptP (l.drop (a + 1)) with
          | none => none
          | some (t, too, b) => if too = false ∨ lo1 t < lo1 s then none else clG n false (l.drop (a + 1 + b)) (all ++ [(lo1 s, lo1 t)]) (k + a + 1 + b)
        else clG n false (l.drop a) (all ++ s) (k + a)
noncomputable def clP (l : List Int) : Option (List (Int × Int) × Nat) :=
  if l.head? = some 94 then (clG (l.length + 1) true (l.drop 1) [] 1).map fun p => (notL p.1, p.2)
  else (clG (l.length + 1) true l [] 0).map fun p => (ofL p.1, p.2)
def num0 : List Int → Int × Nat
  | [] => (0, 0)
  | a :: l => if dig a then (match l with | [] => (a - 48, 1) | b :: _ => if dig b then ((a - 48) * 10 + b - 48, 2) else (a - 48, 1)) else (0, 0)
def numP (l : List Int) : Int × Nat := if 50 < (num0 l).1 then (0, 0) else num0 l
def brP (l : List Int) : Option (Int × Int × Nat) :=
  if (numP l).2 = 0 then none
  else match l.drop (numP l).2 with
    | [] => none
    | c :: l2 =>
      if c = 125 then some ((numP l).1, (numP l).1, (numP l).2 + 1)
      else if c = 44 then
        (match l2 with
        | [] => none
        | d :: _ => if d = 125 then some ((numP l).1, -1, (numP l).2 + 2)
          else if (numP l2).2 = 0 ∨ (numP l2).1 < (numP l).1 then none
          else if (l2.drop (numP l2).2).head? = some 125 then some ((numP l).1, (numP l2).1, (numP l).2 + (numP l2).2 + 2) else none)
      else none
noncomputable def tokP : List Int → Option (Tok × Nat)
  | [] => none
  | r :: l =>
    if r = 124 ∨ r = 40 ∨ r = 41 ∨ r = 94 ∨ r = 36 then some (.sg r, 1)
    else if r = 42 then some (.ct 0 (-1), 1) else if r = 43 then some (.ct 1 (-1), 1) else if r = 63 then some (.ct 0 1, 1)
    else if r = 123 then (brP l).map fun p => (.ct p.1 p.2.1, p.2.2 + 1)
    else if r = 46 then some (.pt [(0, 9), (11, 1114111)], 1)
    else if r = 91 then (clP l).map fun p => (.pt p.1, p.2 + 1)
    else if r = 92 then (match l with | [] => none | r2 :: _ => (escP r2).map fun p => (.pt p.1, 2))
    else if r = 93 ∨ r = 125 then none
    else some (.pt [(r, r)], 1)
noncomputable def toksP : Nat → List Int → Option (List Tok)
  | _, [] => some []
  | 0, _ :: _ => none
  | n + 1, r :: l => match tokP (r :: l) with
    | none => none
    | some (t, k) => (toksP n ((r :: l).drop k)).map (t :: ·)
noncomputable def toks (l : List Int) : Option (List Tok) := toksP l.length l

theorem ptP_cons (r : Int) (l : List Int) : ptP (r :: l) = if r = 92 then (match l with | [] => none | r2 :: _ => (escP r2).map fun p => (p.1, p.2, 2)) else if amg npL r then none else some ([(r, r)], true, 1) := rfl
theorem num0_cons (a : Int) (l : List Int) : num0 (a :: l) = if dig a then (match l with | [] => (a - 48, 1) | b :: _ => if dig b then ((a - 48) * 10 + b - 48, 2) else (a - 48, 1)) else (0, 0) := rfl
theorem tokP_cons (r : Int) (l : List Int) : tokP (r :: l) = if r = 124 ∨ r = 40 ∨ r = 41 ∨ r = 94 ∨ r = 36 then some (.sg r, 1)
    else if r = 42 then some (.ct 0 (-1), 1) else if r = 43 then some (.ct 1 (-1), 1) else if r = 63 then some (.ct 0 1, 1)
    else if r = 123 then (brP l).map fun p => (.ct p.1 p.2.1, p.2.2 + 1)
    else if r = 46 then some (.pt [(0, 9), (11, 1114111)], 1)
    else if r = 91 then (clP l).map fun p => (.pt p.1, p.2 + 1)
    else if r = 92 then (match l with | [] => none | r2 :: _ => (escP r2).map fun p => (.pt p.1, 2))
    else if r = 93 ∨ r = 125 then none
    else some (.pt [(r, r)], 1) := rfl

/-! ### What a token is made of -/
theorem ptP_local {l : List Int} {s : List (Int × Int)} {b : Bool} {a : Nat} (h : ptP l = some (s, b, a)) : 1 ≤ a ∧ a ≤ l.length ∧ ∀ r, ptP (l ++ r) = some (s, b, a) := by
  rcases l with _ | ⟨c, l⟩
  · simp [ptP] at h
  · rw [ptP_cons] at h
    by_cases hc : c = 92
    · rw [if_pos hc] at h
      rcases l with _ | ⟨c2, l⟩
      · simp at h
      · simp only [Option.map_eq_some_iff, Prod.mk.injEq] at h
        obtain ⟨⟨x, y⟩, h1, rfl, rfl, rfl⟩ := h
        refine ⟨by omega, by simp, fun r => ?_⟩
        simp only [List.cons_append, ptP_cons]
        rw [if_pos hc, h1]; rfl
    · rw [if_neg hc] at h
      by_cases hn : amg npL c = true
      · rw [if_pos hn] at h; cases h
      · rw [if_neg hn] at h
        simp only [Option.some.injEq, Prod.mk.injEq] at h
        obtain ⟨rfl, rfl, rfl⟩ := h
        refine ⟨by omega, by simp, fun r => ?_⟩
        simp only [List.cons_append, ptP_cons]
        rw [if_neg hc, if_neg hn]
theorem drop_app {l r : List Int} {a : Nat} (h : a ≤ l.length) : (l ++ r).drop a = l.drop a ++ r := by
  rw [List.drop_append_of_le_length h]
theorem head_app {l r : List Int} {c : Int} (h : l.head? = some c) : (l ++ r).head? = some c := by
  cases l with
  | nil => simp at h
  | cons x l => simpa using h
/-- A class is closed within itself: what is behind it, and how much fuel there is, changes nothing. -/
theorem clG_local : ∀ (n : Nat) (f : Bool) (l : List Int) (all : List (Int × Int)) (k : Nat) (x : List (Int × Int)) (j : Nat), clG n f l all k = some (x, j) → k + 1 ≤ j ∧ j ≤ k + l.length ∧ ∀ r m, l.length + r.length < m → clG m f (l ++ r) all k = some (x, j) := by
  intro n
  induction n with
  | zero => intro f l all k x j h; simp [clG] at h
  | succ n ih =>
    intro f l all k x j h
    rw [clG] at h
    by_cases hs : f = false ∧ l.head? = some 93
    · rw [if_pos hs] at h
      simp only [Option.some.injEq, Prod.mk.injEq] at h
      obtain ⟨rfl, rfl⟩ := h
      have hl : 1 ≤ l.length := by
        rcases l with _ | ⟨c, l⟩
        · simp at hs
        · simp
      refine ⟨by omega, by omega, fun r m hm => ?_⟩
      obtain ⟨m, rfl⟩ : ∃ k, m = k + 1 := ⟨m - 1, by omega⟩
      rw [clG, if_pos ⟨hs.1, head_app hs.2⟩]
    · rw [if_neg hs] at h
      cases hp : ptP l with
      | none => rw [hp] at h; cases h
      | some q =>
        obtain ⟨s, b, a⟩ := q
        rw [hp] at h
        simp only at h
        obtain ⟨ha1, ha2, hpl⟩ := ptP_local hp
        have hns : ∀ r, ¬ (f = false ∧ (l ++ r).head? = some 93) := fun r hh => hs ⟨hh.1, by
          rcases l with _ | ⟨c, l⟩
          · simp at ha2; omega
          · simpa using hh.2⟩
        by_cases hd : b = true ∧ (l.drop a).head? = some 45
        · rw [if_pos hd] at h
          cases hp2 : ptP (l.drop (a + 1)) with
          | none => rw [hp2] at h; cases h
          | some q2 =>
            obtain ⟨t, too, b2⟩ := q2
            rw [hp2] at h
            simp only at h
            obtain ⟨hb1, hb2, hpl2⟩ := ptP_local hp2
            rw [List.length_drop] at hb2
            by_cases hbad : too = false ∨ lo1 t < lo1 s
            · rw [if_pos hbad] at h; cases h
            · rw [if_neg hbad] at h
              obtain ⟨h1, h2, h3⟩ := ih _ _ _ _ _ _ h
              rw [List.length_drop] at h2 h3
              refine ⟨by omega, by omega, fun r m hm => ?_⟩
              obtain ⟨m, rfl⟩ : ∃ k, m = k + 1 := ⟨m - 1, by omega⟩
              rw [clG, if_neg (hns r), hpl r]
              simp only
              rw [drop_app ha2, if_pos ⟨hd.1, head_app hd.2⟩, drop_app (by omega), hpl2 r]
              simp only
              rw [if_neg hbad, drop_app (by omega)]
              exact h3 r m (by omega)
        · rw [if_neg hd] at h
          obtain ⟨h1, h2, h3⟩ := ih _ _ _ _ _ _ h
          rw [List.length_drop] at h2 h3
          have hlt : a < l.length := by omega
          refine ⟨by omega, by omega, fun r m hm => ?_⟩
          obtain ⟨m, rfl⟩ : ∃ k, m = k + 1 := ⟨m - 1, by omega⟩
          rw [clG, if_neg (hns r), hpl r]
          simp only
          have hnd : ¬ (b = true ∧ ((l ++ r).drop a).head? = some 45) := fun hh => hd ⟨hh.1, by
            have h5 := hh.2
            rw [drop_app ha2] at h5
            cases hq : l.drop a with
            | nil => rw [List.drop_eq_nil_iff] at hq; omega
            | cons c l' => rw [hq] at h5; simpa using h5⟩
          rw [if_neg hnd, drop_app ha2]
          exact h3 r m (by omega)
theorem clP_local {l : List Int} {x : List (Int × Int)} {j : Nat} (h : clP l = some (x, j)) : 1 ≤ j ∧ j ≤ l.length ∧ ∀ r, clP (l ++ r) = some (x, j) := by
  unfold clP at h
  by_cases hc : l.head? = some 94
  · rw [if_pos hc] at h
    simp only [Option.map_eq_some_iff, Prod.mk.injEq] at h
    obtain ⟨⟨y, j'⟩, h1, rfl, rfl⟩ := h
    obtain ⟨g1, g2, g3⟩ := clG_local _ _ _ _ _ _ _ h1
    have hl : 1 ≤ l.length := by
      rcases l with _ | ⟨c, l⟩
      · simp at hc
      · simp
    rw [List.length_drop] at g2 g3
    refine ⟨by omega, by omega, fun r => ?_⟩
    unfold clP
    rw [if_pos (head_app hc), drop_app hl, g3 r _ (by simp; omega)]
    rfl
  · rw [if_neg hc] at h
    simp only [Option.map_eq_some_iff, Prod.mk.injEq] at h
    obtain ⟨⟨y, j'⟩, h1, rfl, rfl⟩ := h
    obtain ⟨g1, g2, g3⟩ := clG_local _ _ _ _ _ _ _ h1
    refine ⟨by omega, by omega, fun r => ?_⟩
    unfold clP
    rw [if_neg, g3 r _ (by simp)]
    · rfl
    · intro hh
      rcases l with _ | ⟨c, l⟩
      · simp at g2; omega
      · exact hc (by simpa using hh)
theorem num0_le (l : List Int) : (num0 l).2 ≤ l.length := by
  unfold num0
  rcases l with _ | ⟨a, _ | ⟨b, l⟩⟩
  · simp
  · simp only; split <;> simp
  · simp only; split
    · split <;> simp
    · simp
theorem numP_le (l : List Int) : (numP l).2 ≤ l.length := by
  unfold numP; split
  · simp
  · exact num0_le l
/-- A number that is followed by something. -/
theorem num0_app {l : List Int} (h : (num0 l).2 < l.length) (r : List Int) : num0 (l ++ r) = num0 l := by
  rcases l with _ | ⟨a, _ | ⟨b, l⟩⟩
  · simp at h
  · rw [num0_cons] at h
    by_cases ha : dig a = true
    · rw [if_pos ha] at h; simp at h
    · have ha2 : dig a = false := by simpa using ha
      show num0 (a :: r) = _
      rw [num0_cons, num0_cons, ha2]
      simp
  · rfl
theorem numP_app {l : List Int} (h : (numP l).2 < l.length) (h0 : (numP l).2 ≠ 0) (r : List Int) : numP (l ++ r) = numP l := by
  have hn : ¬ 50 < (num0 l).1 := by
    intro hc; unfold numP at h0; rw [if_pos hc] at h0; simp at h0
  have e : numP l = num0 l := by unfold numP; rw [if_neg hn]
  rw [e] at h ⊢
  have := num0_app h r
  unfold numP
  rw [this, if_neg hn]
theorem brP_local {l : List Int} {a b : Int} {k : Nat} (h : brP l = some (a, b, k)) : 1 ≤ k ∧ k ≤ l.length ∧ ∀ r, brP (l ++ r) = some (a, b, k) := by
  unfold brP at h
  by_cases h0 : (numP l).2 = 0
  · rw [if_pos h0] at h; cases h
  · rw [if_neg h0] at h
    have hle := numP_le l
    cases hd : l.drop (numP l).2 with
    | nil => rw [hd] at h; cases h
    | cons c l2 =>
      rw [hd] at h
      simp only at h
      have hlen : (numP l).2 + (l2.length + 1) = l.length := by
        have := congrArg List.length hd
        rw [List.length_drop, List.length_cons] at this; omega
      have happ : ∀ r, numP (l ++ r) = numP l := numP_app (by omega) h0
      have hdr : ∀ r, (l ++ r).drop (numP l).2 = c :: (l2 ++ r) := fun r => by rw [drop_app hle, hd]; rfl
      by_cases hc : c = 125
      · rw [if_pos hc] at h
        simp only [Option.some.injEq, Prod.mk.injEq] at h
        obtain ⟨rfl, rfl, rfl⟩ := h
        refine ⟨by omega, by omega, fun r => ?_⟩
        unfold brP
        rw [happ, if_neg h0, hdr]
        simp only
        rw [if_pos hc]
      · rw [if_neg hc] at h
        by_cases hc2 : c = 44
        · rw [if_pos hc2] at h
          rcases l2 with _ | ⟨d, l3⟩
          · simp at h
          · simp only at h
            by_cases hd2 : d = 125
            · rw [if_pos hd2] at h
              simp only [Option.some.injEq, Prod.mk.injEq] at h
              obtain ⟨rfl, rfl, rfl⟩ := h
              simp only [List.length_cons] at hlen
              refine ⟨by omega, by omega, fun r => ?_⟩
              unfold brP
              rw [happ, if_neg h0, hdr]
              simp only [List.cons_append]
              rw [if_neg hc, if_pos hc2, if_pos hd2]
            · rw [if_neg hd2] at h
              by_cases hm : (numP (d :: l3)).2 = 0 ∨ (numP (d :: l3)).1 < (numP l).1
              · rw [if_pos hm] at h; cases h
              · rw [if_neg hm] at h
                by_cases he : ((d :: l3).drop (numP (d :: l3)).2).head? = some 125
                · rw [if_pos he] at h
                  simp only [Option.some.injEq, Prod.mk.injEq] at h
                  obtain ⟨rfl, rfl, rfl⟩ := h
                  have hle2 := numP_le (d :: l3)
                  have hlt2 : (numP (d :: l3)).2 < (d :: l3).length := by
                    rcases Nat.lt_or_ge (numP (d :: l3)).2 (d :: l3).length with hh | hh
                    · exact hh
                    · rw [List.drop_eq_nil_of_le hh] at he; simp at he
                  have happ2 := numP_app hlt2 (by omega)
                  refine ⟨by omega, by omega, fun r => ?_⟩
                  unfold brP
                  rw [happ, if_neg h0, hdr]
                  have e2 : numP (d :: (l3 ++ r)) = numP (d :: l3) := happ2 r
                  have e3 : ((d :: (l3 ++ r)).drop (numP (d :: l3)).2).head? = some 125 := by
                    have : (d :: (l3 ++ r)) = (d :: l3) ++ r := rfl
                    rw [this, drop_app hle2]; exact head_app he
                  simp only [List.cons_append]
                  rw [if_neg hc, if_pos hc2, if_neg hd2, e2, if_neg hm, if_pos e3]
                · rw [if_neg he] at h; cases h
        · rw [if_neg hc2] at h; cases h
theorem tokP_local {l : List Int} {t : Tok} {k : Nat} (h : tokP l = some (t, k)) : 1 ≤ k ∧ k ≤ l.length ∧ t.ok ∧ ∀ r, tokP (l ++ r) = some (t, k) := by
  rcases l with _ | ⟨c, l⟩
  · simp [tokP] at h
  · rw [tokP_cons] at h
    have e : ∀ r, tokP (c :: l ++ r) = tokP (c :: (l ++ r)) := fun r => rfl
    by_cases h1 : c = 124 ∨ c = 40 ∨ c = 41 ∨ c = 94 ∨ c = 36
    · rw [if_pos h1] at h
      simp only [Option.some.injEq, Prod.mk.injEq] at h
      obtain ⟨rfl, rfl⟩ := h
      refine ⟨by omega, by simp, ?_, fun r => by rw [e, tokP_cons, if_pos h1]⟩
      show c = 124 ∨ c = 94 ∨ c = 36 ∨ c = 41 ∨ c = 40
      omega
    rw [if_neg h1] at h
    by_cases h2 : c = 42
    · rw [if_pos h2] at h
      simp only [Option.some.injEq, Prod.mk.injEq] at h
      obtain ⟨rfl, rfl⟩ := h
      exact ⟨by omega, by simp, trivial, fun r => by rw [e, tokP_cons, if_neg h1, if_pos h2]⟩
    rw [if_neg h2] at h
    by_cases h3 : c = 43
    · rw [if_pos h3] at h
      simp only [Option.some.injEq, Prod.mk.injEq] at h
      obtain ⟨rfl, rfl⟩ := h
      exact ⟨by omega, by simp, trivial, fun r => by rw [e, tokP_cons, if_neg h1, if_neg h2, if_pos h3]⟩
    rw [if_neg h3] at h
    by_cases h4 : c = 63
    · rw [if_pos h4] at h
      simp only [Option.some.injEq, Prod.mk.injEq] at h
      obtain ⟨rfl, rfl⟩ := h
      exact ⟨by omega, by simp, trivial, fun r => by rw [e, tokP_cons, if_neg h1, if_neg h2, if_neg h3, if_pos h4]⟩
    rw [if_neg h4] at h
    by_cases h5 : c = 123
    · rw [if_pos h5] at h
      simp only [Option.map_eq_some_iff, Prod.mk.injEq] at h
      obtain ⟨⟨a, b, j⟩, g1, rfl, rfl⟩ := h
      obtain ⟨q1, q2, q3⟩ := brP_local g1
      exact ⟨by omega, by simp; omega, trivial, fun r => by rw [e, tokP_cons, if_neg h1, if_neg h2, if_neg h3, if_neg h4, if_pos h5, q3 r]; rfl⟩
    rw [if_neg h5] at h
    by_cases h6 : c = 46
    · rw [if_pos h6] at h
      simp only [Option.some.injEq, Prod.mk.injEq] at h
      obtain ⟨rfl, rfl⟩ := h
      exact ⟨by omega, by simp, trivial, fun r => by rw [e, tokP_cons, if_neg h1, if_neg h2, if_neg h3, if_neg h4, if_neg h5, if_pos h6]⟩
    rw [if_neg h6] at h
    by_cases h7 : c = 91
    · rw [if_pos h7] at h
      simp only [Option.map_eq_some_iff, Prod.mk.injEq] at h
      obtain ⟨⟨a, j⟩, g1, rfl, rfl⟩ := h
      obtain ⟨q1, q2, q3⟩ := clP_local g1
      exact ⟨by omega, by simp; omega, trivial, fun r => by rw [e, tokP_cons, if_neg h1, if_neg h2, if_neg h3, if_neg h4, if_neg h5, if_neg h6, if_pos h7, q3 r]; rfl⟩
    rw [if_neg h7] at h
    by_cases h8 : c = 92
    · rw [if_pos h8] at h
      rcases l with _ | ⟨c2, l⟩
      · simp at h
      · simp only [Option.map_eq_some_iff, Prod.mk.injEq] at h
        obtain ⟨⟨a, b⟩, g1, rfl, rfl⟩ := h
        exact ⟨by omega, by simp, trivial, fun r => by
          show tokP (c :: c2 :: (l ++ r)) = _
          rw [tokP_cons, if_neg h1, if_neg h2, if_neg h3, if_neg h4, if_neg h5, if_neg h6, if_neg h7, if_pos h8]; simp only [g1]; rfl⟩
    rw [if_neg h8] at h
    by_cases h9 : c = 93 ∨ c = 125
    · rw [if_pos h9] at h; cases h
    · rw [if_neg h9] at h
      simp only [Option.some.injEq, Prod.mk.injEq] at h
      obtain ⟨rfl, rfl⟩ := h
      exact ⟨by omega, by simp, trivial, fun r => by rw [e, tokP_cons, if_neg h1, if_neg h2, if_neg h3, if_neg h4, if_neg h5, if_neg h6, if_neg h7, if_neg h8, if_neg h9]⟩
theorem toksP_fuel : ∀ (n m : Nat) (l : List Int), l.length ≤ n → l.length ≤ m → toksP n l = toksP m l := by
  intro n
  induction n with
  | zero =>
    intro m l hn hm
    obtain rfl : l = [] := List.length_eq_zero_iff.1 (by omega)
    cases m <;> rfl
  | succ n ih =>
    intro m l hn hm
    rcases l with _ | ⟨r, l⟩
    · cases m <;> rfl
    · obtain ⟨m, rfl⟩ : ∃ k, m = k + 1 := ⟨m - 1, by simp at hm; omega⟩
      rw [toksP, toksP]
      cases ht : tokP (r :: l) with
      | none => rfl
      | some q =>
        obtain ⟨t, k⟩ := q
        have hk := tokP_local ht
        simp only
        simp only [List.length_cons] at hn hm
        rw [ih m _ (by rw [List.length_drop, List.length_cons]; omega) (by rw [List.length_drop, List.length_cons]; omega)]
theorem toks_nil : toks [] = some [] := rfl
theorem toks_some {l : List Int} {t : Tok} {k : Nat} (h : tokP l = some (t, k)) : toks l = (toks (l.drop k)).map (t :: ·) := by
  rcases l with _ | ⟨r, l⟩
  · simp [tokP] at h
  · have hk := tokP_local h
    unfold toks
    rw [show (r :: l).length = l.length + 1 from rfl, toksP, h]
    simp only
    rw [toksP_fuel l.length _ _ (by rw [List.length_drop, List.length_cons]; omega) (Nat.le_refl _)]
theorem toks_none {r : Int} {l : List Int} (h : tokP (r :: l) = none) : toks (r :: l) = none := by
  unfold toks
  rw [show (r :: l).length = l.length + 1 from rfl, toksP, h]
/-- Tokens of one text behind the other. -/
theorem toks_app : ∀ (n : Nat) (a b : List Int) (ta : List Tok), a.length ≤ n → toks a = some ta → toks (a ++ b) = (toks b).map (ta ++ ·) := by
  intro n
  induction n with
  | zero =>
    intro a b ta hn h
    obtain rfl : a = [] := List.length_eq_zero_iff.1 (by omega)
    rw [toks_nil] at h
    obtain rfl := Option.some.inj h
    simp
  | succ n ih =>
    intro a b ta hn h
    rcases a with _ | ⟨r, a⟩
    · rw [toks_nil] at h
      obtain rfl := Option.some.inj h
      simp
    · cases ht : tokP (r :: a) with
      | none => rw [toks_none ht] at h; cases h
      | some q =>
        obtain ⟨t, k⟩ := q
        obtain ⟨h1, h2, _, h3⟩ := tokP_local ht
        rw [toks_some ht, Option.map_eq_some_iff] at h
        obtain ⟨ts, h4, rfl⟩ := h
        rw [toks_some (h3 b), drop_app h2, ih _ b ts (by rw [List.length_drop]; omega) h4]
        cases toks b <;> rfl
theorem toks_ok : ∀ (n : Nat) (l : List Int) (ts : List Tok), l.length ≤ n → toks l = some ts → ∀ t ∈ ts, t.ok := by
  intro n
  induction n with
  | zero =>
    intro l ts hn h
    obtain rfl : l = [] := List.length_eq_zero_iff.1 (by omega)
    rw [toks_nil] at h
    obtain rfl := Option.some.inj h
    simp
  | succ n ih =>
    intro l ts hn h
    rcases l with _ | ⟨r, l⟩
    · rw [toks_nil] at h
      obtain rfl := Option.some.inj h
      simp
    · cases ht : tokP (r :: l) with
      | none => rw [toks_none ht] at h; cases h
      | some q =>
        obtain ⟨t, k⟩ := q
        obtain ⟨h1, h2, h0, h3⟩ := tokP_local ht
        rw [toks_some ht, Option.map_eq_some_iff] at h
        obtain ⟨ts', h4, rfl⟩ := h
        intro x hx
        rcases List.mem_cons.1 hx with rfl | hx
        · exact h0
        · exact ih _ _ (by rw [List.length_drop]; omega) h4 x hx
end
end Go.Proofs.YtpcbfmbpbegjgaaGreat
namespace Go.Proofs.YtpcbfmbpbegjgaaGreat
section
open Go.RowKit
set_option linter.unusedVariables false
set_option linter.unusedSimpArgs false
set_option maxRecDepth 100000

variable {rs : List Int} (hr : ∀ r ∈ rs, 0 ≤ r ∧ r ≤ 1114111)
theorem pk_nil {p : Nat} (d : Int) (h : rs.drop p = []) : pk rs ⟨p, d, false⟩ = -1 := by
  rw [List.drop_eq_nil_iff] at h
  show rs.getD p (-1) = -1
  rw [List.getD_eq_getElem?_getD, List.getElem?_eq_none h]; rfl
theorem drop_cons {p : Nat} {r : Int} {l : List Int} (h : rs.drop p = r :: l) : p < rs.length ∧ rs.drop (p + 1) = l ∧ rs[p]? = some r := by
  have hp : p < rs.length := by
    rcases Nat.lt_or_ge p rs.length with h1 | h1
    · exact h1
    · rw [List.drop_eq_nil_of_le h1] at h; cases h
  rw [List.drop_eq_getElem_cons hp] at h
  obtain ⟨h1, h2⟩ := List.cons.inj h
  exact ⟨hp, h2, by rw [List.getElem?_eq_getElem hp, h1]⟩
theorem pk_cons {p : Nat} (d : Int) {r : Int} {l : List Int} (h : rs.drop p = r :: l) : pk rs ⟨p, d, false⟩ = r := by
  show rs.getD p (-1) = r
  rw [List.getD_eq_getElem?_getD, (drop_cons h).2.2]; rfl
include hr in
theorem drop_pos {p : Nat} {r : Int} {l : List Int} (h : rs.drop p = r :: l) : 0 ≤ r := (hr r (List.mem_of_getElem? (drop_cons h).2.2)).1
theorem nx_nil {p : Nat} {d : Int} (h : rs.drop p = []) : nx rs ⟨p, d, false⟩ = ⟨p + 1, d, true⟩ := by unfold nx; rw [pk_nil d h]; rfl
include hr in
theorem nx_cons {p : Nat} {d : Int} {r : Int} {l : List Int} (h : rs.drop p = r :: l) : nx rs ⟨p, d, false⟩ = ⟨p + 1, d, false⟩ := nx_ok (by rw [pk_cons d h]; exact drop_pos hr h)
theorem pk_bad {s : PS} (h : s.bad = true) : pk rs s = -1 := by unfold pk; rw [if_pos h]
theorem wt_bad {s : PS} (r : Int) (h : s.bad = true) : (wt rs r s).bad = true := by
  unfold wt; split
  · exact h
  · rfl

include hr in
theorem esc_sim (p : Nat) (d : Int) : match rs.drop p with
    | [] => (escS rs ⟨p, d, false⟩).bad = true
    | r :: _ => match escP r with
      | none => (escS rs ⟨p, d, false⟩).bad = true
      | some (S, b) => escS rs ⟨p, d, false⟩ = ⟨p + 1, d, false⟩ ∧ escL rs ⟨p, d, false⟩ = S ∧ escB rs ⟨p, d, false⟩ = b := by
  cases hd : rs.drop p with
  | nil =>
    simp only
    unfold escS
    rw [pk_nil d hd, nx_nil hd, if_neg (by unfold isNam; omega)]
    rfl
  | cons r l =>
    simp only
    unfold escP escS escL escB
    rw [pk_cons d hd, nx_cons hr hd]
    by_cases hn : isNam r
    · rw [if_pos hn]; simp [hn]
    · rw [if_neg hn]
      cases hb : escBad r with
      | true => simp [hn]
      | false => simp [hn]
include hr in
theorem pt_sim (p : Nat) (d : Int) : match ptP (rs.drop p) with
    | none => (ptS rs ⟨p, d, false⟩).bad = true
    | some (S, b, a) => ptS rs ⟨p, d, false⟩ = ⟨p + a, d, false⟩ ∧ ptL rs ⟨p, d, false⟩ = S ∧ ptB rs ⟨p, d, false⟩ = b := by
  cases hd : rs.drop p with
  | nil =>
    show (ptS rs ⟨p, d, false⟩).bad = true
    unfold ptS
    rw [pk_nil d hd, nx_nil hd, if_neg (by omega)]
    rfl
  | cons r l =>
    rw [ptP_cons]
    by_cases h92 : r = 92
    · rw [if_pos h92]
      have he := esc_sim hr (p + 1) d
      have hd2 := (drop_cons hd).2.1
      rw [hd2] at he
      unfold ptS ptL ptB
      rw [pk_cons d hd, nx_cons hr hd, if_pos h92, if_pos h92, if_pos h92]
      cases l with
      | nil => exact he
      | cons r2 l2 =>
        simp only at he ⊢
        cases hq : escP r2 with
        | none => rw [hq] at he; exact he
        | some q => obtain ⟨S, b⟩ := q; rw [hq] at he; exact he
    · rw [if_neg h92]
      unfold ptS ptL ptB
      rw [pk_cons d hd, nx_cons hr hd, if_neg h92, if_neg h92, if_neg h92]
      cases hb : amg npL r with
      | true => simp
      | false => simp
theorem clsGo_bad (n : Nat) (s : PS) (l : List (Int × Int)) (h : s.bad = true) : (clsGo rs n false s l).2.bad = true := by
  cases n with
  | zero => exact h
  | succ n =>
    rw [clsGo, if_pos ⟨rfl, Or.inl h⟩]
    simp only
    unfold tk
    split <;> exact h
theorem head_drop {p : Nat} {d : Int} {c : Int} (hc : 0 ≤ c) : (rs.drop p).head? = some c ↔ pk rs ⟨p, d, false⟩ = c := by
  cases hd : rs.drop p with
  | nil => rw [pk_nil d hd]; simp; omega
  | cons r l => rw [pk_cons d hd]; simp
theorem parS_of_bad {s : PS} (h : (ptS rs s).bad = true) : (parS rs s).bad = true := by
  have hc : parC rs s = false := by
    unfold parC tkB
    rw [pk_bad h]; simp
  unfold parS
  rw [hc]; exact h
include hr in
theorem cl_sim : ∀ (n : Nat) (f : Bool) (p : Nat) (d : Int) (all : List (Int × Int)) (m k : Nat), rs.length + 2 ≤ n + p → p ≤ rs.length → (rs.drop p).length < m →
    match clG m f (rs.drop p) all k with
    | none => (clsGo rs n f ⟨p, d, false⟩ all).2.bad = true
    | some (x, j) => clsGo rs n f ⟨p, d, false⟩ all = (x, ⟨p + (j - k), d, false⟩) := by
  intro n
  induction n with
  | zero => intro f p d all m k hn hp hm; omega
  | succ n ih =>
    intro f p d all m k hn hp hm
    obtain ⟨m, rfl⟩ : ∃ j, m = j + 1 := ⟨m - 1, by omega⟩
    rw [clG]
    by_cases hs : f = false ∧ (rs.drop p).head? = some 93
    · rw [if_pos hs]
      have h93 : pk rs ⟨p, d, false⟩ = 93 := (head_drop (by omega)).1 hs.2
      simp only
      rw [clsGo, if_pos ⟨hs.1, Or.inr h93⟩]
      unfold tk
      rw [if_pos h93, show k + 1 - k = 1 by omega]
    · rw [if_neg hs]
      have hgo : clsGo rs (n + 1) f ⟨p, d, false⟩ all = clsGo rs n false (parS rs ⟨p, d, false⟩) (all ++ parL rs ⟨p, d, false⟩) := by
        rw [clsGo, if_neg]
        rintro ⟨h1, h2 | h2⟩
        · cases h2
        · exact hs ⟨h1, (head_drop (by omega)).2 h2⟩
      rw [hgo]
      have hpt := pt_sim hr p d
      cases hq : ptP (rs.drop p) with
      | none =>
        rw [hq] at hpt
        simp only at hpt ⊢
        exact clsGo_bad _ _ _ (parS_of_bad hpt)
      | some q =>
        obtain ⟨S, b, a⟩ := q
        rw [hq] at hpt
        simp only at hpt ⊢
        obtain ⟨e1, e2, e3⟩ := hpt
        obtain ⟨ha1, ha2, _⟩ := ptP_local hq
        rw [List.length_drop] at ha2 hm
        by_cases hd : b = true ∧ ((rs.drop p).drop a).head? = some 45
        · rw [if_pos hd]
          have hd2 := hd.2
          rw [List.drop_drop] at hd2
          have h45 : pk rs ⟨p + a, d, false⟩ = 45 := (head_drop (by omega)).1 hd2
          have hC : parC rs ⟨p, d, false⟩ = true := by unfold parC tkB; rw [e1, e3, hd.1, h45]; rfl
          have hP2 : pS2 rs ⟨p, d, false⟩ = ⟨p + a + 1, d, false⟩ := by unfold pS2 tk; rw [e1, if_pos h45]
          have hpt2 := pt_sim hr (p + a + 1) d
          rw [show (rs.drop p).drop (a + 1) = rs.drop (p + a + 1) by rw [List.drop_drop]; congr 1]
          cases hq2 : ptP (rs.drop (p + a + 1)) with
          | none =>
            rw [hq2] at hpt2
            simp only at hpt2 ⊢
            refine clsGo_bad _ _ _ ?_
            unfold parS
            rw [hC]
            simp only [if_true]
            unfold parBd
            rw [hP2, hpt2]; rfl
          | some q2 =>
            obtain ⟨t, too, b2⟩ := q2
            rw [hq2] at hpt2
            simp only at hpt2 ⊢
            obtain ⟨f1, f2, f3⟩ := hpt2
            obtain ⟨hb1, hb2, _⟩ := ptP_local hq2
            rw [List.length_drop] at hb2
            by_cases hbad : too = false ∨ lo1 t < lo1 S
            · rw [if_pos hbad]
              simp only
              refine clsGo_bad _ _ _ ?_
              unfold parS
              rw [hC]
              simp only [if_true]
              unfold parBd
              rw [hP2, f1, f2, f3, e2]
              rcases hbad with h | h
              · rw [h]; rfl
              · simp [h]
            · rw [if_neg hbad]
              have hB : parBd rs ⟨p, d, false⟩ = false := by
                unfold parBd
                rw [hP2, f1, f2, f3, e2]
                have h1 : too = true := by cases too <;> simp_all
                have h2 : ¬ lo1 t < lo1 S := fun h => hbad (Or.inr h)
                rw [h1]; simpa using h2
              have hS : parS rs ⟨p, d, false⟩ = ⟨p + a + 1 + b2, d, false⟩ := by
                unfold parS
                rw [hC, hP2, f1, hB]; rfl
              have hL : parL rs ⟨p, d, false⟩ = [(lo1 S, lo1 t)] := by
                unfold parL
                rw [hC, hB, hP2, f2, e2]; rfl
              rw [hS, hL, show (rs.drop p).drop (a + 1 + b2) = rs.drop (p + a + 1 + b2) by rw [List.drop_drop]; congr 1; omega]
              have h4 := ih false (p + a + 1 + b2) d (all ++ [(lo1 S, lo1 t)]) m (k + a + 1 + b2) (by omega) (by omega) (by rw [List.length_drop]; omega)
              cases hg : clG m false (rs.drop (p + a + 1 + b2)) (all ++ [(lo1 S, lo1 t)]) (k + a + 1 + b2) with
              | none => rw [hg] at h4; exact h4
              | some y =>
                obtain ⟨x, j⟩ := y
                rw [hg] at h4
                simp only at h4 ⊢
                have := (clG_local _ _ _ _ _ _ _ hg).1
                rw [h4]
                congr 2; omega
        · rw [if_neg hd]
          have hC : parC rs ⟨p, d, false⟩ = false := by
            unfold parC tkB
            rw [e1, e3]
            cases hb : b with
            | false => rfl
            | true =>
              simp only [Bool.true_and, decide_eq_false_iff_not]
              intro h45
              exact hd ⟨hb, by rw [List.drop_drop]; exact (head_drop (by omega)).2 h45⟩
          have hS : parS rs ⟨p, d, false⟩ = ⟨p + a, d, false⟩ := by unfold parS; rw [hC]; exact e1
          have hL : parL rs ⟨p, d, false⟩ = S := by unfold parL; rw [hC]; exact e2
          rw [hS, hL, List.drop_drop]
          have h4 := ih false (p + a) d (all ++ S) m (k + a) (by omega) (by omega) (by rw [List.length_drop]; omega)
          cases hg : clG m false (rs.drop (p + a)) (all ++ S) (k + a) with
          | none => rw [hg] at h4; exact h4
          | some y =>
            obtain ⟨x, j⟩ := y
            rw [hg] at h4
            simp only at h4 ⊢
            have := (clG_local _ _ _ _ _ _ _ hg).1
            rw [h4]
            congr 2; omega
include hr in
theorem class_sim (p : Nat) (d : Int) (hp : p ≤ rs.length) : match clP (rs.drop p) with
    | none => (clsR rs ⟨p, d, false⟩).2.bad = true
    | some (x, j) => clsL rs ⟨p, d, false⟩ = x ∧ (clsR rs ⟨p, d, false⟩).2 = ⟨p + j, d, false⟩ := by
  unfold clP
  by_cases hc : (rs.drop p).head? = some 94
  · rw [if_pos hc]
    have h94 : pk rs ⟨p, d, false⟩ = 94 := (head_drop (by omega)).1 hc
    have hlt : p < rs.length := by
      have := (pk_room (rs := rs) (s := ⟨p, d, false⟩) (by rw [h94]; omega)).1; exact this
    have htk : tk rs 94 ⟨p, d, false⟩ = ⟨p + 1, d, false⟩ := by unfold tk; rw [if_pos h94]
    have htb : tkB rs 94 ⟨p, d, false⟩ = true := by unfold tkB; rw [h94]; rfl
    have h1 := cl_sim hr (rs.length + 9) true (p + 1) d [] ((rs.drop p).length + 1) 1 (by omega) (by omega) (by rw [List.length_drop, List.length_drop]; omega)
    rw [show (rs.drop p).drop 1 = rs.drop (p + 1) by rw [List.drop_drop]]
    cases hg : clG ((rs.drop p).length + 1) true (rs.drop (p + 1)) [] 1 with
    | none =>
      rw [hg] at h1
      simp only [Option.map_none] at h1 ⊢
      unfold clsR; rw [htk]; exact h1
    | some y =>
      obtain ⟨x, j⟩ := y
      rw [hg] at h1
      simp only [Option.map_some] at h1 ⊢
      have hR : clsR rs ⟨p, d, false⟩ = (x, ⟨p + 1 + (j - 1), d, false⟩) := by unfold clsR; rw [htk]; exact h1
      have := (clG_local _ _ _ _ _ _ _ hg).1
      refine ⟨by unfold clsL; rw [htb, hR]; rfl, by rw [hR]; simp only; congr 1; omega⟩
  · rw [if_neg hc]
    have h94 : ¬ pk rs ⟨p, d, false⟩ = 94 := fun h => hc ((head_drop (by omega)).2 h)
    have htk : tk rs 94 ⟨p, d, false⟩ = ⟨p, d, false⟩ := by unfold tk; rw [if_neg h94]
    have htb : tkB rs 94 ⟨p, d, false⟩ = false := by unfold tkB; simpa using h94
    have h1 := cl_sim hr (rs.length + 9) true p d [] ((rs.drop p).length + 1) 0 (by omega) hp (by omega)
    cases hg : clG ((rs.drop p).length + 1) true (rs.drop p) [] 0 with
    | none =>
      rw [hg] at h1
      simp only [Option.map_none] at h1 ⊢
      unfold clsR; rw [htk]; exact h1
    | some y =>
      obtain ⟨x, j⟩ := y
      rw [hg] at h1
      simp only [Option.map_some] at h1 ⊢
      have hR : clsR rs ⟨p, d, false⟩ = (x, ⟨p + (j - 0), d, false⟩) := by unfold clsR; rw [htk]; exact h1
      exact ⟨by unfold clsL; rw [htb, hR]; rfl, by rw [hR]; rfl⟩
/-! ### Counts -/
theorem dig_neg : dig (-1) = false := by decide
theorem num_sim (p : Nat) (d : Int) : if (numP (rs.drop p)).2 = 0 then (numS rs ⟨p, d, false⟩).bad = true
    else numS rs ⟨p, d, false⟩ = ⟨p + (numP (rs.drop p)).2, d, false⟩ ∧ numN rs ⟨p, d, false⟩ = (numP (rs.drop p)).1 := by
  cases hd : rs.drop p with
  | nil =>
    have : (numP ([] : List Int)).2 = 0 := rfl
    rw [if_pos this]
    unfold numS
    rw [pk_nil d hd, dig_neg]; rfl
  | cons a l =>
    have hd1 := (drop_cons hd).2.1
    have hpa := pk_cons d hd
    by_cases ha : dig a = true
    · cases l with
      | nil =>
        have h2 : pk rs ⟨p + 1, d, false⟩ = -1 := pk_nil d hd1
        have hn : num0 [a] = (a - 48, 1) := by rw [num0_cons, if_pos ha]
        have ha' : a ≤ 57 := by simp [dig] at ha; omega
        have hP : numP [a] = (a - 48, 1) := by unfold numP; rw [hn, if_neg (by simp only; omega)]
        rw [hP, if_neg (by simp)]
        unfold numS numN
        rw [hpa, ha, if_pos rfl, if_pos rfl, h2, dig_neg]
        simp
      | cons b l2 =>
        have h2 : pk rs ⟨p + 1, d, false⟩ = b := pk_cons d hd1
        by_cases hb : dig b = true
        · have hn : num0 (a :: b :: l2) = ((a - 48) * 10 + b - 48, 2) := by rw [num0_cons, if_pos ha]; simp only; rw [if_pos hb]
          have hN : numN rs ⟨p, d, false⟩ = (a - 48) * 10 + b - 48 := by unfold numN; rw [hpa, ha, if_pos rfl, h2, hb, if_pos rfl]
          by_cases h50 : 50 < (a - 48) * 10 + b - 48
          · have hP : numP (a :: b :: l2) = (0, 0) := by unfold numP; rw [hn, if_pos h50]
            rw [hP, if_pos rfl]
            unfold numS
            rw [hpa, ha, if_pos rfl, h2, hb, if_pos rfl, hN]
            simpa using h50
          · have hP : numP (a :: b :: l2) = ((a - 48) * 10 + b - 48, 2) := by unfold numP; rw [hn, if_neg h50]
            rw [hP, if_neg (by simp)]
            refine ⟨?_, hN⟩
            unfold numS
            rw [hpa, ha, if_pos rfl, h2, hb, if_pos rfl, hN]
            simp; omega
        · have hb' : dig b = false := by simpa using hb
          have hn : num0 (a :: b :: l2) = (a - 48, 1) := by rw [num0_cons, if_pos ha]; simp only; rw [if_neg hb]
          have ha' : a ≤ 57 := by simp [dig] at ha; omega
          have hP : numP (a :: b :: l2) = (a - 48, 1) := by unfold numP; rw [hn, if_neg (by simp only; omega)]
          rw [hP, if_neg (by simp)]
          unfold numS numN
          rw [hpa, ha, if_pos rfl, if_pos rfl, h2, hb']
          simp
    · have ha' : dig a = false := by simpa using ha
      have hn : num0 (a :: l) = (0, 0) := by rw [num0_cons, if_neg ha]
      have hP : numP (a :: l) = (0, 0) := by unfold numP; rw [hn]; rfl
      rw [hP, if_pos rfl]
      unfold numS
      rw [hpa, ha']; rfl
theorem br_sim (p : Nat) (d : Int) : match brP (rs.drop p) with
    | none => (brS rs ⟨p, d, false⟩).bad = true
    | some (a, b, k) => brS rs ⟨p, d, false⟩ = ⟨p + k, d, false⟩ ∧ brA rs ⟨p, d, false⟩ = a ∧ brB rs ⟨p, d, false⟩ = b := by
  have h1 := num_sim (rs := rs) p d
  unfold brP
  by_cases h0 : (numP (rs.drop p)).2 = 0
  · rw [if_pos h0] at h1 ⊢
    simp only
    unfold brS
    rw [pk_bad h1, if_neg (by omega)]
    exact wt_bad _ h1
  · rw [if_neg h0] at h1 ⊢
    obtain ⟨hS, hN⟩ := h1
    obtain ⟨q, hq⟩ : ∃ q, p + (numP (rs.drop p)).2 = q := ⟨_, rfl⟩
    rw [List.drop_drop, hq]
    rw [hq] at hS
    unfold brS brA brB br3
    rw [hS, hN]
    cases hd : rs.drop q with
    | nil =>
      simp only
      rw [pk_nil d hd, if_neg (by omega)]
      unfold wt
      rw [pk_nil d hd, if_neg (by omega)]
    | cons c l2 =>
      have hpc := pk_cons d hd
      have hd1 := (drop_cons hd).2.1
      simp only
      rw [hpc]
      by_cases hc : c = 125
      · rw [if_pos hc, if_neg (by omega), if_neg (by omega)]
        simp only
        unfold wt
        rw [hpc, if_pos hc]
        refine ⟨?_, (by first | rfl | trivial), (by first | rfl | trivial)⟩
        rw [← hq]; congr 1
      · rw [if_neg hc]
        by_cases hc2 : c = 44
        · rw [if_pos hc2, if_pos hc2, if_pos hc2]
          cases l2 with
          | nil =>
            have hp1 : pk rs ⟨q + 1, d, false⟩ = -1 := pk_nil d hd1
            simp only
            rw [hp1, if_neg (by omega)]
            have h2 := num_sim (rs := rs) (q + 1) d
            rw [hd1, if_pos (show (numP ([] : List Int)).2 = 0 from rfl)] at h2
            refine wt_bad _ ?_
            simp [h2]
          | cons e l3 =>
            have hp1 : pk rs ⟨q + 1, d, false⟩ = e := pk_cons d hd1
            simp only
            rw [hp1]
            by_cases he : e = 125
            · rw [if_pos he, if_pos he, if_pos he]
              simp only
              unfold wt
              rw [hp1, if_pos he]
              refine ⟨?_, (by first | rfl | trivial), (by first | rfl | trivial)⟩
              rw [← hq]; congr 1
            · rw [if_neg he, if_neg he, if_neg he]
              have h2 := num_sim (rs := rs) (q + 1) d
              rw [hd1] at h2
              by_cases hm : (numP (e :: l3)).2 = 0
              · rw [if_pos hm] at h2
                rw [if_pos (Or.inl hm)]
                simp only
                refine wt_bad _ ?_
                simp [h2]
              · rw [if_neg hm] at h2
                obtain ⟨hS2, hN2⟩ := h2
                rw [hS2, hN2]
                by_cases hlt : (numP (e :: l3)).1 < (numP (rs.drop p)).1
                · rw [if_pos (Or.inr hlt)]
                  simp only
                  refine wt_bad _ ?_
                  simp [hlt]
                · rw [if_neg (by omega), show decide ((numP (e :: l3)).1 < (numP (rs.drop p)).1) = false by simpa using hlt]
                  have hdd : (e :: l3).drop (numP (e :: l3)).2 = rs.drop (q + 1 + (numP (e :: l3)).2) := by rw [← hd1, List.drop_drop]
                  rw [hdd]
                  simp only [Bool.or_false]
                  by_cases hz : (rs.drop (q + 1 + (numP (e :: l3)).2)).head? = some 125
                  · rw [if_pos hz]
                    have hpz : pk rs ⟨q + 1 + (numP (e :: l3)).2, d, false⟩ = 125 := (head_drop (by omega)).1 hz
                    simp only
                    unfold wt
                    rw [hpz, if_pos rfl]
                    refine ⟨?_, (by first | rfl | trivial), (by first | rfl | trivial)⟩
                    rw [← hq]; simp only [PS.mk.injEq, and_true]; omega
                  · rw [if_neg hz]
                    have hpz : ¬ pk rs ⟨q + 1 + (numP (e :: l3)).2, d, false⟩ = 125 := fun h => hz ((head_drop (by omega)).2 h)
                    simp only
                    unfold wt
                    rw [if_neg hpz]
        · rw [if_neg hc2, if_neg hc2]
          simp only
          unfold wt
          rw [hpc, if_neg hc]
end
end Go.Proofs.YtpcbfmbpbegjgaaGreat
namespace Go.Proofs.YtpcbfmbpbegjgaaGreat
section
open Go.RowKit
set_option linter.unusedVariables false
set_option linter.unusedSimpArgs false
set_option maxRecDepth 100000

def isSg (r : Int) : Prop := r = 46 ∨ r = 94 ∨ r = 36 ∨ r = 124 ∨ r = 40 ∨ r = 41 ∨ r = 91 ∨ r = 93 ∨ r = 123 ∨ r = 125 ∨ r = 42 ∨ r = 43 ∨ r = 63 ∨ r = 92
instance (r : Int) : Decidable (isSg r) := by unfold isSg; infer_instance
theorem amg_sg (r : Int) : amg sgL r = decide (isSg r) := by
  have key : ∀ c : Fin 128, amg sgL (c.val : Int) = decide (isSg (c.val : Int)) := of_decide_eq_true (by kernel_rfl)
  by_cases h : 0 ≤ r ∧ r < 128
  · have := key ⟨r.toNat, by omega⟩
    simpa [Int.toNat_of_nonneg h.1] using this
  · rw [amg_out _ _ h]; symm; simp only [decide_eq_false_iff_not]; unfold isSg; omega
def tokT : Tok → Option T
  | .pt S => some (charT S)
  | .sg c => if c = 94 then some ⟨2, [], 0, 0, .nil⟩ else if c = 36 then some ⟨3, [], 0, 0, .nil⟩ else none
  | .ct _ _ => none
def tokLo : Tok → Bool
  | .pt _ => true
  | _ => false
theorem tok_sg {r : Int} {l : List Int} {c : Int} {k : Nat} (h : tokP (r :: l) = some (.sg c, k)) : r = c ∧ k = 1 := by
  rw [tokP_cons] at h
  split at h
  · simp only [Option.some.injEq, Prod.mk.injEq, Tok.sg.injEq] at h; omega
  repeat' (split at h)
  all_goals first
    | (simp only [Option.some.injEq, Prod.mk.injEq, reduceCtorEq, false_and] at h; done)
    | (simp only [Option.map_eq_some_iff, Prod.mk.injEq, reduceCtorEq, false_and, and_false, exists_false] at h; done)
    | cases h

variable {rs : List Int} (hr : ∀ r ∈ rs, 0 ≤ r ∧ r ≤ 1114111)
include hr in
theorem atom_sim (f : PS → T × PS) (p : Nat) (d : Int) {r : Int} {l : List Int} (hd : rs.drop p = r :: l) (h40 : r ≠ 40) (h41 : r ≠ 41) (h124 : r ≠ 124) :
    match tokP (r :: l) with
    | none => (atomP f rs ⟨p, d, false⟩).2.bad = true
    | some (t, k) => match tokT t with
      | none => (atomP f rs ⟨p, d, false⟩).2.bad = true ∧ ∃ m x, t = .ct m x
      | some x => atomP f rs ⟨p, d, false⟩ = (x, ⟨p + k, d, false⟩) ∧ tokLo t = !(decide (r = 94) || decide (r = 36)) := by
  have hpk : pk rs ⟨p, d, false⟩ = r := pk_cons d hd
  have hnx := nx_cons hr (d := d) hd
  have hd1 := (drop_cons hd).2.1
  have hlt := (drop_cons hd).1
  have h0 := drop_pos hr hd
  have hdef : ∀ (hn : ¬ r = 94 ∧ ¬ r = 36 ∧ ¬ r = 46 ∧ ¬ r = 91 ∧ ¬ r = 92), atomP f rs ⟨p, d, false⟩ = (charT [(r, r)], ⟨p + 1, d, amg sgL r⟩) := fun hn => by
    unfold atomP
    rw [hpk, hnx, if_neg h40, if_neg hn.1, if_neg hn.2.1, if_neg hn.2.2.1, if_neg hn.2.2.2.1, if_neg hn.2.2.2.2]
    simp
  have hsg : isSg r → (¬ r = 94 ∧ ¬ r = 36 ∧ ¬ r = 46 ∧ ¬ r = 91 ∧ ¬ r = 92) → (atomP f rs ⟨p, d, false⟩).2.bad = true := fun h hn => by
    rw [hdef hn, amg_sg]; simpa using h
  rw [tokP_cons]
  by_cases h1 : r = 124 ∨ r = 40 ∨ r = 41 ∨ r = 94 ∨ r = 36
  · rw [if_pos h1]
    simp only [tokT]
    by_cases h94 : r = 94
    · rw [if_pos h94]
      simp only
      refine ⟨?_, by simp [tokLo, h94]⟩
      unfold atomP
      rw [hpk, hnx, if_neg h40, if_pos h94]
    · have h36 : r = 36 := by omega
      rw [if_neg h94, if_pos h36]
      simp only
      refine ⟨?_, by simp [tokLo, h36]⟩
      unfold atomP
      rw [hpk, hnx, if_neg h40, if_neg h94, if_pos h36]
  rw [if_neg h1]
  by_cases h2 : r = 42
  · rw [if_pos h2]; exact ⟨hsg (by unfold isSg; omega) (by omega), _, _, rfl⟩
  rw [if_neg h2]
  by_cases h3 : r = 43
  · rw [if_pos h3]; exact ⟨hsg (by unfold isSg; omega) (by omega), _, _, rfl⟩
  rw [if_neg h3]
  by_cases h4 : r = 63
  · rw [if_pos h4]; exact ⟨hsg (by unfold isSg; omega) (by omega), _, _, rfl⟩
  rw [if_neg h4]
  by_cases h5 : r = 123
  · rw [if_pos h5]
    cases brP l with
    | none => exact hsg (by unfold isSg; omega) (by omega)
    | some q => exact ⟨hsg (by unfold isSg; omega) (by omega), _, _, rfl⟩
  rw [if_neg h5]
  by_cases h6 : r = 46
  · rw [if_pos h6]
    refine ⟨?_, by simp [tokLo]; omega⟩
    unfold atomP
    rw [hpk, hnx, if_neg h40, if_neg (by omega), if_neg (by omega), if_pos h6]
  rw [if_neg h6]
  by_cases h7 : r = 91
  · rw [if_pos h7]
    have hc := class_sim hr (p + 1) d (by omega)
    rw [hd1] at hc
    have ha : atomP f rs ⟨p, d, false⟩ = (charT (clsL rs ⟨p + 1, d, false⟩), (clsR rs ⟨p + 1, d, false⟩).2) := by
      unfold atomP
      rw [hpk, hnx, if_neg h40, if_neg (by omega), if_neg (by omega), if_neg (by omega), if_pos h7]
    cases hq : clP l with
    | none => rw [hq] at hc; simp only [Option.map_none] at hc ⊢; rw [ha]; exact hc
    | some q =>
      obtain ⟨x, j⟩ := q
      rw [hq] at hc
      simp only [Option.map_some, tokT] at hc ⊢
      refine ⟨?_, by simp [tokLo]; omega⟩
      rw [ha, hc.1, hc.2]
      congr 2; omega
  rw [if_neg h7]
  by_cases h8 : r = 92
  · rw [if_pos h8]
    have he := esc_sim hr (p + 1) d
    rw [hd1] at he
    have ha : atomP f rs ⟨p, d, false⟩ = (charT (escL rs ⟨p + 1, d, false⟩), escS rs ⟨p + 1, d, false⟩) := by
      unfold atomP
      rw [hpk, hnx, if_neg h40, if_neg (by omega), if_neg (by omega), if_neg (by omega), if_neg (by omega), if_pos h8]
    cases l with
    | nil => simp only at he ⊢; rw [ha]; exact he
    | cons r2 l2 =>
      simp only at he ⊢
      cases hq : escP r2 with
      | none => rw [hq] at he; simp only [Option.map_none] at he ⊢; rw [ha]; exact he
      | some q =>
        obtain ⟨S, b⟩ := q
        rw [hq] at he
        simp only [Option.map_some, tokT] at he ⊢
        refine ⟨?_, by simp [tokLo]; omega⟩
        rw [ha, he.1, he.2.1]
  rw [if_neg h8]
  by_cases h9 : r = 93 ∨ r = 125
  · rw [if_pos h9]; exact hsg (by unfold isSg; omega) (by omega)
  rw [if_neg h9]
  simp only [tokT]
  refine ⟨?_, by simp [tokLo]; omega⟩
  rw [hdef (by omega), amg_sg, show decide (isSg r) = false by simp only [decide_eq_false_iff_not]; unfold isSg; omega]
theorem cnt_sim (p : Nat) (d : Int) : (∃ m x k, tokP (rs.drop p) = some (.ct m x, k) ∧ cntV rs ⟨p, d, false⟩ = (m, x, true) ∧ cntS rs ⟨p, d, false⟩ = ⟨p + k, d, false⟩) ∨
    (tokP (rs.drop p) = none ∧ rs.drop p ≠ [] ∧ (cntS rs ⟨p, d, false⟩).bad = true) ∨
    ((∀ m x k, tokP (rs.drop p) ≠ some (.ct m x, k)) ∧ (cntV rs ⟨p, d, false⟩).2.2 = false ∧ cntS rs ⟨p, d, false⟩ = ⟨p, d, false⟩) := by
  have hnone : ∀ r, pk rs ⟨p, d, false⟩ = r → r ≠ 63 → r ≠ 43 → r ≠ 42 → r ≠ 123 → (cntV rs ⟨p, d, false⟩).2.2 = false ∧ cntS rs ⟨p, d, false⟩ = ⟨p, d, false⟩ := fun r h a1 a2 a3 a4 => by
    have := cnt_none (rs := rs) (s := ⟨p, d, false⟩) (by rw [h]; exact ⟨a1, a2, a3, a4⟩)
    rw [this.1, this.2]; exact ⟨rfl, rfl⟩
  cases hd : rs.drop p with
  | nil =>
    refine Or.inr (Or.inr ⟨fun m x k => by simp [tokP], hnone _ (pk_nil d hd) (by omega) (by omega) (by omega) (by omega)⟩)
  | cons r l =>
    have hpk : pk rs ⟨p, d, false⟩ = r := pk_cons d hd
    have hd1 := (drop_cons hd).2.1
    rw [tokP_cons]
    by_cases h1 : r = 124 ∨ r = 40 ∨ r = 41 ∨ r = 94 ∨ r = 36
    · rw [if_pos h1]
      exact Or.inr (Or.inr ⟨fun m x k => by simp, hnone r hpk (by omega) (by omega) (by omega) (by omega)⟩)
    rw [if_neg h1]
    by_cases h2 : r = 42
    · rw [if_pos h2]
      refine Or.inl ⟨0, -1, 1, rfl, ?_, ?_⟩
      · unfold cntV; rw [hpk, h2]; rfl
      · unfold cntS; rw [hpk, h2]; rfl
    rw [if_neg h2]
    by_cases h3 : r = 43
    · rw [if_pos h3]
      refine Or.inl ⟨1, -1, 1, rfl, ?_, ?_⟩
      · unfold cntV; rw [hpk, h3]; rfl
      · unfold cntS; rw [hpk, h3]; rfl
    rw [if_neg h3]
    by_cases h4 : r = 63
    · rw [if_pos h4]
      refine Or.inl ⟨0, 1, 1, rfl, ?_, ?_⟩
      · unfold cntV; rw [hpk, h4]; rfl
      · unfold cntS; rw [hpk, h4]; rfl
    rw [if_neg h4]
    by_cases h5 : r = 123
    · rw [if_pos h5]
      have hb := br_sim (rs := rs) (p + 1) d
      rw [hd1] at hb
      have eS : cntS rs ⟨p, d, false⟩ = brS rs ⟨p + 1, d, false⟩ := by unfold cntS; rw [hpk, h5]; rfl
      have eV : cntV rs ⟨p, d, false⟩ = (brA rs ⟨p + 1, d, false⟩, brB rs ⟨p + 1, d, false⟩, true) := by unfold cntV; rw [hpk, h5]; rfl
      cases hq : brP l with
      | none =>
        rw [hq] at hb
        exact Or.inr (Or.inl ⟨rfl, by simp, by rw [eS]; exact hb⟩)
      | some q =>
        obtain ⟨a, b, k⟩ := q
        rw [hq] at hb
        simp only at hb
        refine Or.inl ⟨a, b, k + 1, rfl, ?_, ?_⟩
        · rw [eV, hb.2.1, hb.2.2]
        · rw [eS, hb.1]; congr 1; omega
    rw [if_neg h5]
    refine Or.inr (Or.inr ⟨fun m x k h => ?_, hnone r hpk h4 h3 h2 h5⟩)
    repeat' (split at h)
    all_goals first
      | (simp only [Option.some.injEq, Prod.mk.injEq, reduceCtorEq, false_and] at h; done)
      | (simp only [Option.map_eq_some_iff, Prod.mk.injEq, reduceCtorEq, false_and, and_false, exists_false] at h; done)
      | cases h
end
end Go.Proofs.YtpcbfmbpbegjgaaGreat
namespace Go.Proofs.YtpcbfmbpbegjgaaGreat
section
open Go.RowKit
set_option linter.unusedVariables false
set_option linter.unusedSimpArgs false
set_option maxRecDepth 100000

def rdF (d : Int) (ts : List Tok) (al ps : List T) (lo : Bool) : Option (T × List Tok) := rdM (ts.length + 1) d ts al ps lo
theorem rdF_tok {d : Int} {t : Tok} {x : T} (h : tokT t = some x) (r : List Tok) (al ps : List T) (lo : Bool) : rdF d (t :: r) al ps lo = rdF d r al (ps ++ [x]) (tokLo t) := by
  cases t with
  | pt S => simp only [tokT, Option.some.injEq] at h; subst h; rfl
  | ct m y => simp [tokT] at h
  | sg c =>
    simp only [tokT] at h
    by_cases h94 : c = 94
    · subst h94
      rw [if_pos rfl] at h
      obtain rfl := Option.some.inj h
      rfl
    · rw [if_neg h94] at h
      by_cases h36 : c = 36
      · subst h36
        rw [if_pos rfl] at h
        obtain rfl := Option.some.inj h
        rfl
      · rw [if_neg h36] at h; cases h
theorem rdF_ct (d m x : Int) (r : List Tok) (al ps : List T) (t : T) : rdF d (.ct m x :: r) al (ps ++ [t]) true = rdF d r al (ps ++ [⟨6, [], m, x, F.ofL [t]⟩]) false := by
  show rdM (r.length + 1 + 1) d (.ct m x :: r) al (ps ++ [t]) true = _
  rw [rdM]
  simp only [if_true]
  unfold repT rdF
  simp
theorem rdF_ctf (d m x : Int) (r : List Tok) (al ps : List T) : rdF d (.ct m x :: r) al ps false = none := by
  show rdM (r.length + 1 + 1) d (.ct m x :: r) al ps false = _
  rw [rdM]; simp
theorem rdF_bar (d : Int) (r : List Tok) (al ps : List T) (lo : Bool) : rdF d (.sg 124 :: r) al ps lo = rdF d r (al ++ [joinT 4 ps]) [] false := rfl
theorem rdF_nil (d : Int) (al ps : List T) (lo : Bool) : rdF d [] al ps lo = some (endT al ps, []) := rfl
theorem rdF_end (d : Int) (r : List Tok) (al ps : List T) (lo : Bool) : rdF d (.sg 41 :: r) al ps lo = some (endT al ps, .sg 41 :: r) := rfl
theorem rdF_deep {d : Int} (h : 10 < d + 1) (r : List Tok) (al ps : List T) (lo : Bool) : rdF d (.sg 40 :: r) al ps lo = none := by
  show rdM (r.length + 1 + 1) d (.sg 40 :: r) al ps lo = _
  rw [rdM]
  simp [h]
theorem rdF_par {d : Int} (h : ¬ 10 < d + 1) (r : List Tok) (hok : ∀ k ∈ r, Tok.ok k) (al ps : List T) (lo : Bool) : rdF d (.sg 40 :: r) al ps lo = match rdF (d + 1) r [] [] false with
    | some (t, .sg 41 :: r') => rdF d r' al (ps ++ [t]) true
    | _ => none := by
  show rdM (r.length + 1 + 1) d (.sg 40 :: r) al ps lo = _
  rw [rdM]
  simp only [if_neg h, show ¬ (40 : Int) = 124 by omega, show ¬ (40 : Int) = 94 by omega, show ¬ (40 : Int) = 36 by omega, show ¬ (40 : Int) = 41 by omega, if_false]
  show (match rdF (d + 1) r [] [] false with
    | some (t, .sg 41 :: r') => rdM (r.length + 1) d r' al (ps ++ [t]) true
    | _ => none) = _
  cases hx : rdF (d + 1) r [] [] false with
  | none => rfl
  | some q =>
    obtain ⟨t, r1⟩ := q
    obtain ⟨g1, l1, e, _, _⟩ := rd_tree _ _ _ _ _ _ _ _ hok hx
    rcases g1 with rfl | ⟨r', rfl⟩
    · rfl
    · simp only
      refine rdM_fuel _ _ _ _ _ _ _ (fun x hx => hok x (by rw [e]; simp [hx])) ?_ ?_
      · rw [e]; simp; omega
      · simp
theorem rdF_lo {d : Int} {ts : List Tok} (h : ∀ m x r, ts ≠ .ct m x :: r) (al ps : List T) (a b : Bool) : rdF d ts al ps a = rdF d ts al ps b := by
  cases ts with
  | nil => rfl
  | cons t r =>
    cases t with
    | pt S => rfl
    | ct m x => exact absurd rfl (h m x r)
    | sg c => rfl

variable {rs : List Int} (hr : ∀ r ∈ rs, 0 ≤ r ∧ r ≤ 1114111)
theorem toks_head {l : List Int} {t : Tok} {ts : List Tok} (h : toks l = some (t :: ts)) : ∃ k, tokP l = some (t, k) ∧ toks (l.drop k) = some ts := by
  rcases l with _ | ⟨r, l⟩
  · rw [toks_nil] at h; cases h
  · cases ht : tokP (r :: l) with
    | none => rw [toks_none ht] at h; cases h
    | some q =>
      obtain ⟨u, k⟩ := q
      rw [toks_some ht, Option.map_eq_some_iff] at h
      obtain ⟨ts', h1, h2⟩ := h
      obtain ⟨rfl, rfl⟩ := List.cons.inj h2
      exact ⟨k, rfl, h1⟩
theorem toks_empty {l : List Int} (h : toks l = some []) : l = [] := by
  rcases l with _ | ⟨r, l⟩
  · rfl
  · cases ht : tokP (r :: l) with
    | none => rw [toks_none ht] at h; cases h
    | some q =>
      obtain ⟨u, k⟩ := q
      rw [toks_some ht, Option.map_eq_some_iff] at h
      obtain ⟨ts', h1, h2⟩ := h
      cases h2
theorem toks_okk {l : List Int} {ts : List Tok} (h : toks l = some ts) : ∀ t ∈ ts, t.ok := toks_ok _ _ _ (Nat.le_refl _) h

/-- Behind an atom. -/
structure After (rs : List Int) (f : PS → T × PS) (s : PS) (d : Int) (p1 : Nat) (x : T) (lo : Bool) : Prop where
  a : ∀ t1, toks (rs.drop p1) = some t1 → ((countedP f rs s).2.bad = true ∧ ∀ al ps, rdF d t1 al (ps ++ [x]) lo = none) ∨
    ∃ p2 ts2 t, countedP f rs s = (t, ⟨p2, d, false⟩) ∧ toks (rs.drop p2) = some ts2 ∧ ∀ al ps, rdF d t1 al (ps ++ [x]) lo = rdF d ts2 al (ps ++ [t]) false
  b : toks (rs.drop p1) = none → (countedP f rs s).2.bad = true ∨ ∃ p2 t, countedP f rs s = (t, ⟨p2, d, false⟩) ∧ toks (rs.drop p2) = none
theorem after_atom {f : PS → T × PS} {s : PS} {d : Int} {p1 : Nat} {x : T} {lo : Bool} (ha : atomP f rs s = (x, ⟨p1, d, false⟩)) (hlo : lo = !(decide (pk rs s = 94) || decide (pk rs s = 36))) : After rs f s d p1 x lo := by
  rcases cnt_sim (rs := rs) p1 d with ⟨m, y, k, h1, h2, h3⟩ | ⟨h1, h2, h3⟩ | ⟨h1, h2, h3⟩
  · -- a count
    have hc : countedP f rs s = (⟨6, [], m, y, F.ofL [x]⟩, ⟨p1 + k, d, !lo⟩) := by
      unfold countedP
      rw [ha]
      simp only
      rw [h2, h3, hlo]
      simp
    constructor
    · intro t1 ht
      rw [toks_some h1, Option.map_eq_some_iff] at ht
      obtain ⟨ts2, h4, rfl⟩ := ht
      rw [List.drop_drop] at h4
      cases hl : lo with
      | true => exact Or.inr ⟨p1 + k, ts2, _, by rw [hc, hl]; rfl, h4, fun al ps => rdF_ct _ _ _ _ _ _ _⟩
      | false => exact Or.inl ⟨by rw [hc, hl]; rfl, fun al ps => rdF_ctf _ _ _ _ _ _⟩
    · intro ht
      rw [toks_some h1, Option.map_eq_none_iff, List.drop_drop] at ht
      cases hl : lo with
      | true => exact Or.inr ⟨p1 + k, _, by rw [hc, hl]; rfl, ht⟩
      | false => exact Or.inl (by rw [hc, hl]; rfl)
  · have hb : (countedP f rs s).2.bad = true := by
      unfold countedP
      rw [ha]
      simp only
      split
      · simp [h3]
      · exact h3
    constructor
    · intro t1 ht
      rcases hd : rs.drop p1 with _ | ⟨r, l⟩
      · exact absurd hd h2
      · rw [hd] at h1 ht; rw [toks_none h1] at ht; cases ht
    · intro _; exact Or.inl hb
  · have hc : countedP f rs s = (x, ⟨p1, d, false⟩) := by
      unfold countedP
      rw [ha]
      simp only
      rw [h2, h3]
      simp
    constructor
    · intro t1 ht
      refine Or.inr ⟨p1, t1, x, hc, ht, fun al ps => rdF_lo (fun m y r e => ?_) _ _ _ _⟩
      subst e
      obtain ⟨k, hk, _⟩ := toks_head ht
      exact h1 m y k hk
    · intro ht; exact Or.inr ⟨p1, x, hc, ht⟩
/-- A parser of alternatives at a depth is the machine on tokens. -/
def SimF (rs : List Int) (f : PS → T × PS) (d : Int) : Prop := ∀ p, 
  (∀ ts, toks (rs.drop p) = some ts → ((f ⟨p, d, false⟩).2.bad = true ∧ rdF d ts [] [] false = none) ∨ ∃ p2 ts2 t, f ⟨p, d, false⟩ = (t, ⟨p2, d, false⟩) ∧ toks (rs.drop p2) = some ts2 ∧ rdF d ts [] [] false = some (t, ts2)) ∧
  (toks (rs.drop p) = none → (f ⟨p, d, false⟩).2.bad = true ∨ ∃ p2 t, f ⟨p, d, false⟩ = (t, ⟨p2, d, false⟩) ∧ toks (rs.drop p2) = none)
include hr in
/-- One piece. -/
theorem piece_sim {f : PS → T × PS} {d : Int} (hgo : ∀ s, Go1 rs s (f s).2) (H : 10 < d + 1 ∨ SimF rs f (d + 1)) (p : Nat) (hp : isPc (pk rs ⟨p, d, false⟩) = true) :
    (∀ ts, toks (rs.drop p) = some ts → ((countedP f rs ⟨p, d, false⟩).2.bad = true ∧ ∀ al ps, rdF d ts al ps false = none) ∨
      ∃ p2 ts2 t, countedP f rs ⟨p, d, false⟩ = (t, ⟨p2, d, false⟩) ∧ toks (rs.drop p2) = some ts2 ∧ ∀ al ps, rdF d ts al ps false = rdF d ts2 al (ps ++ [t]) false) ∧
    (toks (rs.drop p) = none → (countedP f rs ⟨p, d, false⟩).2.bad = true ∨ ∃ p2 t, countedP f rs ⟨p, d, false⟩ = (t, ⟨p2, d, false⟩) ∧ toks (rs.drop p2) = none) := by
  rcases hd : rs.drop p with _ | ⟨r, l⟩
  · rw [pk_nil d hd] at hp; simp [isPc] at hp
  have hpk : pk rs ⟨p, d, false⟩ = r := pk_cons d hd
  have hd1 := (drop_cons hd).2.1
  have hnx := nx_cons hr (d := d) hd
  rw [hpk] at hp
  simp only [isPc, Bool.and_eq_true, decide_eq_true_eq, Bool.not_eq_true', decide_eq_false_iff_not] at hp
  by_cases h40 : r = 40
  · subst h40
    have ht : tokP (40 :: l) = some (.sg 40, 1) := by rw [tokP_cons, if_pos (by omega)]
    have htk : toks (40 :: l) = (toks l).map (.sg 40 :: ·) := toks_some ht
    have hatom : atomP f rs ⟨p, d, false⟩ = ((f ⟨p + 1, d + 1, decide (10 < d + 1)⟩).1, ⟨(wt rs 41 (f ⟨p + 1, d + 1, decide (10 < d + 1)⟩).2).pos, (wt rs 41 (f ⟨p + 1, d + 1, decide (10 < d + 1)⟩).2).deep - 1, (wt rs 41 (f ⟨p + 1, d + 1, decide (10 < d + 1)⟩).2).bad⟩) := by
      unfold atomP
      rw [hpk, if_pos rfl, hnx]
      simp
    by_cases hdeep : 10 < d + 1
    · have hb : (countedP f rs ⟨p, d, false⟩).2.bad = true := by
        refine counted_bad ?_
        rw [hatom]
        simp only [hdeep, decide_true]
        exact wt_bad _ ((hgo _).bad rfl)
      refine ⟨fun ts hts => Or.inl ⟨hb, fun al ps => ?_⟩, fun _ => Or.inl hb⟩
      rw [htk, Option.map_eq_some_iff] at hts
      obtain ⟨t2, _, rfl⟩ := hts
      exact rdF_deep hdeep _ _ _ _
    · have HF : SimF rs f (d + 1) := by
        rcases H with h | h
        · exact absurd h hdeep
        · exact h
      rw [show decide (10 < d + 1) = false by simpa using hdeep] at hatom
      obtain ⟨HA, HB⟩ := HF (p + 1)
      rw [hd1] at HA HB
      refine ⟨fun ts hts => ?_, fun hts => ?_⟩
      · rw [htk, Option.map_eq_some_iff] at hts
        obtain ⟨tl, htl, rfl⟩ := hts
        have hok := toks_okk htl
        rcases HA tl htl with ⟨h1, h2⟩ | ⟨p3, t3, t, h1, h2, h3⟩
        · left
          refine ⟨counted_bad (by rw [hatom]; exact wt_bad _ h1), fun al ps => ?_⟩
          rw [rdF_par hdeep _ hok, h2]
        · rw [h1] at hatom
          simp only at hatom
          rcases t3 with _ | ⟨u, t4⟩
          · left
            have he := toks_empty h2
            have hw : (wt rs 41 ⟨p3, d + 1, false⟩).bad = true := wt_no (by rw [pk_nil _ he]; omega)
            refine ⟨counted_bad (by rw [hatom]; exact hw), fun al ps => ?_⟩
            rw [rdF_par hdeep _ hok, h3]
          · obtain ⟨g1, _⟩ := rd_tree _ _ _ _ _ _ _ _ hok h3
            rcases g1 with g1 | ⟨r', g1⟩
            · cases g1
            · obtain ⟨rfl, rfl⟩ := List.cons.inj g1
              obtain ⟨k, hk, hk2⟩ := toks_head h2
              rcases hd3 : rs.drop p3 with _ | ⟨r3, l3⟩
              · rw [hd3] at hk; simp [tokP] at hk
              · rw [hd3] at hk hk2
                obtain ⟨rfl, rfl⟩ := tok_sg hk
                have hpk3 : pk rs ⟨p3, d + 1, false⟩ = 41 := pk_cons _ hd3
                have hw : wt rs 41 ⟨p3, d + 1, false⟩ = ⟨p3 + 1, d + 1, false⟩ := by unfold wt; rw [if_pos hpk3]
                have ha : atomP f rs ⟨p, d, false⟩ = (t, ⟨p3 + 1, d, false⟩) := by
                  rw [hatom, hw]; simp
                have haf := after_atom (rs := rs) (lo := true) ha (by rw [hpk]; rfl)
                have hd4 : toks (rs.drop (p3 + 1)) = some t4 := by
                  rw [(drop_cons hd3).2.1]; simpa using hk2
                rcases haf.a t4 hd4 with ⟨q1, q2⟩ | ⟨p2, ts2, t', q1, q2, q3⟩
                · left
                  refine ⟨q1, fun al ps => ?_⟩
                  rw [rdF_par hdeep _ hok, h3]
                  exact q2 al ps
                · right
                  refine ⟨p2, ts2, t', q1, q2, fun al ps => ?_⟩
                  rw [rdF_par hdeep _ hok, h3]
                  exact q3 al ps
      · rw [htk, Option.map_eq_none_iff] at hts
        rcases HB hts with h1 | ⟨p3, t, h1, h2⟩
        · exact Or.inl (counted_bad (by rw [hatom]; exact wt_bad _ h1))
        · rw [h1] at hatom
          simp only at hatom
          rcases hd3 : rs.drop p3 with _ | ⟨r3, l3⟩
          · rw [hd3, toks_nil] at h2; cases h2
          · by_cases h41 : r3 = 41
            · subst h41
              have hpk3 : pk rs ⟨p3, d + 1, false⟩ = 41 := pk_cons _ hd3
              have hw : wt rs 41 ⟨p3, d + 1, false⟩ = ⟨p3 + 1, d + 1, false⟩ := by unfold wt; rw [if_pos hpk3]
              have ha : atomP f rs ⟨p, d, false⟩ = (t, ⟨p3 + 1, d, false⟩) := by
                rw [hatom, hw]; simp
              have haf := after_atom (rs := rs) (lo := true) ha (by rw [hpk]; rfl)
              have ht3 : tokP (41 :: l3) = some (.sg 41, 1) := by rw [tokP_cons, if_pos (by omega)]
              rw [hd3, toks_some ht3, Option.map_eq_none_iff] at h2
              exact haf.b (by rw [(drop_cons hd3).2.1]; simpa using h2)
            · have hw : (wt rs 41 ⟨p3, d + 1, false⟩).bad = true := wt_no (by rw [pk_cons _ hd3]; exact h41)
              exact Or.inl (counted_bad (by rw [hatom]; exact hw))
  · have ha := atom_sim hr f p d hd h40 hp.2.2 hp.2.1
    cases ht : tokP (r :: l) with
    | none =>
      rw [ht] at ha
      refine ⟨fun ts hts => ?_, fun _ => Or.inl (counted_bad ha)⟩
      rw [toks_none ht] at hts; cases hts
    | some q =>
      obtain ⟨t, k⟩ := q
      rw [ht] at ha
      simp only at ha
      have htk := toks_some ht
      rw [← hd, List.drop_drop] at htk
      rw [hd] at htk
      cases hT : tokT t with
      | none =>
        rw [hT] at ha
        obtain ⟨hb, m, x, rfl⟩ := ha
        refine ⟨fun ts hts => Or.inl ⟨counted_bad hb, fun al ps => ?_⟩, fun _ => Or.inl (counted_bad hb)⟩
        rw [htk, Option.map_eq_some_iff] at hts
        obtain ⟨t2, _, rfl⟩ := hts
        exact rdF_ctf _ _ _ _ _ _
      | some x =>
        rw [hT] at ha
        obtain ⟨ha, hlo⟩ := ha
        have haf := after_atom (rs := rs) (lo := tokLo t) ha (by rw [hpk]; exact hlo)
        refine ⟨fun ts hts => ?_, fun hts => ?_⟩
        · rw [htk, Option.map_eq_some_iff] at hts
          obtain ⟨t2, ht2, rfl⟩ := hts
          rcases haf.a t2 ht2 with ⟨q1, q2⟩ | ⟨p2, ts2, t', q1, q2, q3⟩
          · exact Or.inl ⟨q1, fun al ps => by rw [rdF_tok hT]; exact q2 al ps⟩
          · exact Or.inr ⟨p2, ts2, t', q1, q2, fun al ps => by rw [rdF_tok hT]; exact q3 al ps⟩
        · rw [htk, Option.map_eq_none_iff] at hts
          exact haf.b hts
theorem pcsGo_badS {f : PS → T × PS} {s : PS} (n : Nat) (l : List T) (h : s.bad = true) : pcsGo f rs n s l = (l, s) := pcsGo_stop _ _ (by rw [pk_bad h]; exact isPc_end)
theorem altGo_badS {f : PS → T × PS} {s : PS} (n : Nat) (l : List T) (h : s.bad = true) : altGo f rs n s l = (l, s) := altGo_stop _ _ (by rw [pk_bad h]; omega)
include hr in
theorem pcs_sim {f : PS → T × PS} {d : Int} (hgo : ∀ s, Go1 rs s (f s).2) (H : 10 < d + 1 ∨ SimF rs f (d + 1)) : ∀ (n p : Nat) (ps : List T), rs.length + 9 ≤ n + p →
    (∀ ts, toks (rs.drop p) = some ts → ((pcsGo f rs n ⟨p, d, false⟩ ps).2.bad = true ∧ ∀ al, rdF d ts al ps false = none) ∨
      ∃ p2 ts2 ps2, pcsGo f rs n ⟨p, d, false⟩ ps = (ps2, ⟨p2, d, false⟩) ∧ toks (rs.drop p2) = some ts2 ∧ isPc (pk rs ⟨p2, d, false⟩) = false ∧ p ≤ p2 ∧ ∀ al, rdF d ts al ps false = rdF d ts2 al ps2 false) ∧
    (toks (rs.drop p) = none → (pcsGo f rs n ⟨p, d, false⟩ ps).2.bad = true ∨ ∃ p2 ps2, pcsGo f rs n ⟨p, d, false⟩ ps = (ps2, ⟨p2, d, false⟩) ∧ toks (rs.drop p2) = none ∧ isPc (pk rs ⟨p2, d, false⟩) = false ∧ p ≤ p2) := by
  intro n
  induction n with
  | zero =>
    intro p ps hn
    have he : rs.drop p = [] := List.drop_eq_nil_of_le (by omega)
    have hi : isPc (pk rs ⟨p, d, false⟩) = false := by rw [pk_nil d he]; exact isPc_end
    exact ⟨fun ts hts => Or.inr ⟨p, ts, ps, rfl, hts, hi, Nat.le_refl _, fun al => rfl⟩, fun hts => Or.inr ⟨p, ps, rfl, hts, hi, Nat.le_refl _⟩⟩
  | succ n ih =>
    intro p ps hn
    cases hi : isPc (pk rs ⟨p, d, false⟩) with
    | false =>
      rw [pcsGo_stop _ _ hi]
      exact ⟨fun ts hts => Or.inr ⟨p, ts, ps, rfl, hts, hi, Nat.le_refl _, fun al => rfl⟩, fun hts => Or.inr ⟨p, ps, rfl, hts, hi, Nat.le_refl _⟩⟩
    | true =>
      rw [pcsGo_step _ _ hi]
      obtain ⟨hA, hB⟩ := piece_sim hr hgo H p hi
      have hadv := (countedP_go hgo (isPc_pos hi)).1
      simp only at hadv
      refine ⟨fun ts hts => ?_, fun hts => ?_⟩
      · rcases hA ts hts with ⟨h1, h2⟩ | ⟨p2, ts2, t, h1, h2, h3⟩
        · left
          rw [pcsGo_badS _ _ h1]
          exact ⟨h1, fun al => h2 al ps⟩
        · rw [h1] at hadv ⊢
          simp only at hadv ⊢
          rcases (ih p2 (ps ++ [t]) (by omega)).1 ts2 h2 with ⟨g1, g2⟩ | ⟨p3, ts3, ps3, g1, g2, g3, g4, g5⟩
          · exact Or.inl ⟨g1, fun al => by rw [h3]; exact g2 al⟩
          · exact Or.inr ⟨p3, ts3, ps3, g1, g2, g3, by omega, fun al => by rw [h3]; exact g5 al⟩
      · rcases hB hts with h1 | ⟨p2, t, h1, h2⟩
        · left
          rw [pcsGo_badS _ _ h1]; exact h1
        · rw [h1] at hadv ⊢
          simp only at hadv ⊢
          rcases (ih p2 (ps ++ [t]) (by omega)).2 h2 with g1 | ⟨p3, ps3, g1, g2, g3, g4⟩
          · exact Or.inl g1
          · exact Or.inr ⟨p3, ps3, g1, g2, g3, by omega⟩
include hr in
/-- Where pieces stop. -/
theorem stop_cases {p : Nat} {d : Int} (h : isPc (pk rs ⟨p, d, false⟩) = false) : rs.drop p = [] ∨ (∃ l, rs.drop p = 124 :: l) ∨ ∃ l, rs.drop p = 41 :: l := by
  rcases hd : rs.drop p with _ | ⟨r, l⟩
  · exact Or.inl rfl
  · rw [pk_cons d hd] at h
    have h0 := drop_pos hr hd
    simp only [isPc, Bool.and_eq_false_iff, decide_eq_false_iff_not, Bool.not_eq_false', decide_eq_true_eq] at h
    rcases h with h | h | h
    · omega
    · subst h; exact Or.inr (Or.inl ⟨l, rfl⟩)
    · subst h; exact Or.inr (Or.inr ⟨l, rfl⟩)
theorem tok_124 (l : List Int) : tokP (124 :: l) = some (.sg 124, 1) := by rw [tokP_cons, if_pos (by omega)]
theorem tok_41 (l : List Int) : tokP (41 :: l) = some (.sg 41, 1) := by rw [tokP_cons, if_pos (by omega)]
include hr in
theorem alt_sim {f : PS → T × PS} {d : Int} (hgo : ∀ s, Go1 rs s (f s).2) (H : 10 < d + 1 ∨ SimF rs f (d + 1)) : ∀ (n p : Nat) (al ps : List T), rs.length + 9 ≤ n + p → isPc (pk rs ⟨p, d, false⟩) = false →
    (∀ ts, toks (rs.drop p) = some ts → ((altGo f rs n ⟨p, d, false⟩ (al ++ [joinT 4 ps])).2.bad = true ∧ rdF d ts al ps false = none) ∨
      ∃ p2 ts2 l2, altGo f rs n ⟨p, d, false⟩ (al ++ [joinT 4 ps]) = (l2, ⟨p2, d, false⟩) ∧ toks (rs.drop p2) = some ts2 ∧ rdF d ts al ps false = some (joinT 5 l2, ts2)) ∧
    (toks (rs.drop p) = none → (altGo f rs n ⟨p, d, false⟩ (al ++ [joinT 4 ps])).2.bad = true ∨ ∃ p2 l2, altGo f rs n ⟨p, d, false⟩ (al ++ [joinT 4 ps]) = (l2, ⟨p2, d, false⟩) ∧ toks (rs.drop p2) = none) := by
  intro n
  induction n with
  | zero =>
    intro p al ps hn hi
    have he : rs.drop p = [] := List.drop_eq_nil_of_le (by omega)
    refine ⟨fun ts hts => Or.inr ⟨p, ts, _, rfl, hts, ?_⟩, fun hts => Or.inr ⟨p, _, rfl, hts⟩⟩
    rw [he, toks_nil] at hts
    obtain rfl := Option.some.inj hts
    rfl
  | succ n ih =>
    intro p al ps hn hi
    rcases stop_cases hr hi with he | ⟨l, he⟩ | ⟨l, he⟩
    · rw [altGo_stop _ _ (by rw [pk_nil d he]; omega)]
      refine ⟨fun ts hts => Or.inr ⟨p, ts, _, rfl, hts, ?_⟩, fun hts => Or.inr ⟨p, _, rfl, hts⟩⟩
      rw [he, toks_nil] at hts
      obtain rfl := Option.some.inj hts
      rfl
    · have h124 : pk rs ⟨p, d, false⟩ = 124 := pk_cons d he
      have htk : tk rs 124 ⟨p, d, false⟩ = ⟨p + 1, d, false⟩ := by unfold tk; rw [if_pos h124]
      have hd1 := (drop_cons he).2.1
      rw [altGo_step _ _ h124, htk]
      have htt : toks (rs.drop p) = (toks (rs.drop (p + 1))).map (.sg 124 :: ·) := by
        rw [he, toks_some (tok_124 l), hd1]; rfl
      obtain ⟨hA, hB⟩ := pcs_sim hr hgo H (rs.length + 9) (p + 1) [] (by omega)
      refine ⟨fun ts hts => ?_, fun hts => ?_⟩
      · rw [htt, Option.map_eq_some_iff] at hts
        obtain ⟨t1, ht1, rfl⟩ := hts
        rcases hA t1 ht1 with ⟨h1, h2⟩ | ⟨p2, ts2, ps2, h1, h2, h3, h4, h5⟩
        · left
          have hb : (piecesP f rs ⟨p + 1, d, false⟩).2.bad = true := h1
          rw [altGo_badS _ _ hb]
          exact ⟨hb, by rw [rdF_bar]; exact h2 _⟩
        · have hp2 : piecesP f rs ⟨p + 1, d, false⟩ = (joinT 4 ps2, ⟨p2, d, false⟩) := by unfold piecesP pcsR; rw [h1]
          rw [hp2]
          simp only
          rcases (ih p2 (al ++ [joinT 4 ps]) ps2 (by omega) h3).1 ts2 h2 with ⟨g1, g2⟩ | ⟨p3, ts3, l3, g1, g2, g3⟩
          · exact Or.inl ⟨g1, by rw [rdF_bar, h5]; exact g2⟩
          · exact Or.inr ⟨p3, ts3, l3, g1, g2, by rw [rdF_bar, h5]; exact g3⟩
      · rw [htt, Option.map_eq_none_iff] at hts
        rcases hB hts with h1 | ⟨p2, ps2, h1, h2, h3, h4⟩
        · left
          have hb : (piecesP f rs ⟨p + 1, d, false⟩).2.bad = true := h1
          rw [altGo_badS _ _ hb]; exact hb
        · have hp2 : piecesP f rs ⟨p + 1, d, false⟩ = (joinT 4 ps2, ⟨p2, d, false⟩) := by unfold piecesP pcsR; rw [h1]
          rw [hp2]
          simp only
          exact (ih p2 (al ++ [joinT 4 ps]) ps2 (by omega) h3).2 h2
    · rw [altGo_stop _ _ (by rw [pk_cons d he]; omega)]
      refine ⟨fun ts hts => Or.inr ⟨p, ts, _, rfl, hts, ?_⟩, fun hts => Or.inr ⟨p, _, rfl, hts⟩⟩
      rw [he, toks_some (tok_41 l), Option.map_eq_some_iff] at hts
      obtain ⟨t1, _, rfl⟩ := hts
      rfl
include hr in
theorem altsP_sim {f : PS → T × PS} {d : Int} (hgo : ∀ s, Go1 rs s (f s).2) (H : 10 < d + 1 ∨ SimF rs f (d + 1)) : SimF rs (altsP f rs) d := by
  intro p
  obtain ⟨hA, hB⟩ := pcs_sim hr hgo H (rs.length + 9) p [] (by omega)
  refine ⟨fun ts hts => ?_, fun hts => ?_⟩
  · rcases hA ts hts with ⟨h1, h2⟩ | ⟨p2, ts2, ps2, h1, h2, h3, h4, h5⟩
    · left
      have hb : (piecesP f rs ⟨p, d, false⟩).2.bad = true := h1
      refine ⟨?_, h2 _⟩
      unfold altsP altR
      rw [altGo_badS _ _ hb]; exact hb
    · have hp2 : piecesP f rs ⟨p, d, false⟩ = (joinT 4 ps2, ⟨p2, d, false⟩) := by unfold piecesP pcsR; rw [h1]
      unfold altsP altR
      rw [hp2, h5]
      simp only
      rcases (alt_sim hr hgo H (rs.length + 9) p2 [] ps2 (by omega) h3).1 ts2 h2 with ⟨g1, g2⟩ | ⟨p3, ts3, l3, g1, g2, g3⟩
      · exact Or.inl ⟨g1, g2⟩
      · refine Or.inr ⟨p3, ts3, joinT 5 l3, ?_, g2, g3⟩
        rw [List.nil_append] at g1
        rw [g1]
  · rcases hB hts with h1 | ⟨p2, ps2, h1, h2, h3, h4⟩
    · left
      have hb : (piecesP f rs ⟨p, d, false⟩).2.bad = true := h1
      unfold altsP altR
      rw [altGo_badS _ _ hb]; exact hb
    · have hp2 : piecesP f rs ⟨p, d, false⟩ = (joinT 4 ps2, ⟨p2, d, false⟩) := by unfold piecesP pcsR; rw [h1]
      unfold altsP altR
      rw [hp2]
      simp only
      rcases (alt_sim hr hgo H (rs.length + 9) p2 [] ps2 (by omega) h3).2 h2 with g1 | ⟨p3, l3, g1, g2⟩
      · exact Or.inl g1
      · refine Or.inr ⟨p3, joinT 5 l3, ?_, g2⟩
        rw [List.nil_append] at g1
        rw [g1]
include hr in
theorem alts_sim : ∀ (n : Nat) (d : Int), d ≤ 10 → 10 ≤ d + n → SimF rs (alts rs n) d := by
  intro n
  induction n with
  | zero => intro d h1 h2; exact altsP_sim hr (f := fun s => (zeroT, s)) (fun s => Go1.refl _ _) (Or.inl (by omega))
  | succ n ih =>
    intro d h1 h2
    refine altsP_sim hr (f := alts rs n) (alts_go rs n) ?_
    by_cases h : 10 < d + 1
    · exact Or.inl h
    · exact Or.inr (ih (d + 1) (by omega) (by push_cast at h2; omega))
/-- The tree of tokens. -/
def treeF (ts : List Tok) : Option T := treeM (ts.length + 1) 0 ts [] [] false
include hr in
/-- Which texts are patterns, and their trees. -/
theorem parse_toks : parseR rs = match toks rs with
    | none => (zeroT, 15)
    | some ts => match treeF ts with
      | none => (zeroT, 15)
      | some t => (t, 0) := by
  have hd0 : rs.drop 0 = rs := rfl
  obtain ⟨hA, hB⟩ := alts_sim hr 11 0 (by omega) (by omega) 0
  rw [hd0] at hA hB
  have hinv := (alts_go rs 11 ⟨0, 0, false⟩).inv ⟨by simp, fun _ => by simp⟩
  unfold parseR
  cases ht : toks rs with
  | none =>
    simp only
    rcases hB ht with h1 | ⟨p2, t, h1, h2⟩
    · rw [if_pos (Or.inl h1)]
    · rw [h1]
      rw [if_pos]
      refine Or.inr fun (e : p2 = rs.length) => ?_
      rw [e, List.drop_eq_nil_of_le (Nat.le_refl _), toks_nil] at h2; cases h2
  | some ts =>
    simp only
    have hok := toks_okk ht
    rcases hA ts ht with ⟨h1, h2⟩ | ⟨p2, ts2, t, h1, h2, h3⟩
    · rw [if_pos (Or.inl h1)]
      cases hx : treeF ts with
      | none => rfl
      | some t =>
        have := tree_rd _ _ _ _ _ _ _ hx [] (Or.inl rfl)
        rw [List.append_nil] at this
        unfold rdF at h2
        rw [h2] at this; cases this
    · obtain ⟨g1, l1, g2, _, g3⟩ := rd_tree _ _ _ _ _ _ _ _ hok h3
      rw [h1] at hinv ⊢
      rcases g1 with rfl | ⟨r', rfl⟩
      · have he := toks_empty h2
        rw [List.append_nil] at g2
        subst g2
        rw [List.drop_eq_nil_iff] at he
        have hb := hinv.b rfl
        simp only at hb
        have hx : treeF ts = some t := g3
        rw [hx, if_neg]
        rintro (h | h)
        · cases h
        · exact h (by simp only; omega)
      · rw [if_pos]
        · cases hx : treeF ts with
          | none => rfl
          | some t' =>
            have := tree_rd _ _ _ _ _ _ _ hx [] (Or.inl rfl)
            rw [List.append_nil] at this
            unfold rdF at h3
            rw [h3] at this
            simp at this
        · refine Or.inr fun (e : p2 = rs.length) => ?_
          rw [e, List.drop_eq_nil_of_le (Nat.le_refl _), toks_nil] at h2; cases h2
end
end Go.Proofs.YtpcbfmbpbegjgaaGreat
namespace Go.Proofs.YtpcbfmbpbegjgaaGreat
section
open Go.RowKit
set_option linter.unusedVariables false
set_option linter.unusedSimpArgs false
set_option maxRecDepth 100000

/-! ### On tokens -/
def dpM : List Tok → Int → Int → Int
  | [], _, m => m
  | .sg c :: r, n, m => if c = 40 then dpM r (n + 1) (max m (n + 1)) else if c = 41 then dpM r (n - 1) m else dpM r n m
  | .pt _ :: r, n, m => dpM r n m
  | .ct _ _ :: r, n, m => dpM r n m
/-- A row of tokens that stands h deep. -/
def HtT (l : List Tok) (h : Int) : Prop := 0 ≤ h ∧ ∀ r n m, n ≤ m → dpM (l ++ r) n m = dpM r n (max m (n + h))
theorem HtT.nil : HtT [] 0 := ⟨by omega, fun r n m h => by rw [List.nil_append]; congr 1; omega⟩
theorem HtT.cons {t : Tok} {l : List Tok} {h : Int} (ht : ∀ r n m, dpM (t :: r) n m = dpM r n m) (H : HtT l h) : HtT (t :: l) h := ⟨H.1, fun r n m hn => by rw [List.cons_append, ht, H.2 r n m hn]⟩
theorem HtT.par {l1 l2 : List Tok} {h1 h2 : Int} (H1 : HtT l1 h1) (H2 : HtT l2 h2) : HtT (.sg 40 :: (l1 ++ .sg 41 :: l2)) (max (1 + h1) h2) := by
  refine ⟨by have := H1.1; omega, fun r n m hn => ?_⟩
  have e : (Tok.sg 40 :: (l1 ++ .sg 41 :: l2)) ++ r = .sg 40 :: (l1 ++ (.sg 41 :: (l2 ++ r))) := by simp
  have g1 := H1.1
  have g2 := H2.1
  rw [e, dpM, if_pos rfl, H1.2 _ _ _ (by omega), dpM, if_neg (by omega), if_pos rfl, H2.2 _ _ _ (by omega)]
  congr 1 <;> omega
theorem tree_depth : ∀ (n : Nat) (d : Int) (ts al ps lo t), (∀ k ∈ ts, Tok.ok k) → d ≤ 10 → treeM n d ts al ps lo = some t → ∃ h, HtT ts h ∧ d + h ≤ 10 ∧ ∀ d' : Int, treeM n d' ts al ps lo = if d' + h ≤ 10 ∨ h = 0 then some t else none := by
  intro n
  induction n with
  | zero => intro d ts al ps lo t _ _ h; simp [treeM] at h
  | succ n ih =>
    intro d ts al ps lo t hok hd h
    rcases ts with _ | ⟨k, l⟩
    · refine ⟨0, HtT.nil, by omega, fun d' => ?_⟩
      rw [if_pos (Or.inr rfl)]; exact h
    · have hok2 : ∀ k ∈ l, Tok.ok k := fun x hx => hok x (by simp [hx])
      cases k with
      | pt S =>
        rw [treeM] at h
        obtain ⟨hh, H, g1, g2⟩ := ih _ _ _ _ _ _ hok2 hd h
        exact ⟨hh, H.cons (fun _ _ _ => rfl), g1, fun d' => by rw [treeM]; exact g2 d'⟩
      | ct m x =>
        rw [treeM] at h
        by_cases hlo : lo = true
        · simp only [hlo, if_true] at h
          obtain ⟨hh, H, g1, g2⟩ := ih _ _ _ _ _ _ hok2 hd h
          exact ⟨hh, H.cons (fun _ _ _ => rfl), g1, fun d' => by rw [treeM]; simp only [hlo, if_true]; exact g2 d'⟩
        · simp only [if_neg hlo] at h; cases h
      | sg c =>
        have hc := hok (.sg c) (by simp)
        rw [treeM] at h
        by_cases c1 : c = 124
        · simp only [if_pos c1] at h
          obtain ⟨hh, H, g1, g2⟩ := ih _ _ _ _ _ _ hok2 hd h
          exact ⟨hh, H.cons (fun _ _ _ => by rw [dpM, if_neg (by omega), if_neg (by omega)]), g1, fun d' => by rw [treeM]; simp only [if_pos c1]; exact g2 d'⟩
        by_cases c2 : c = 94
        · simp only [if_neg c1, if_pos c2] at h
          obtain ⟨hh, H, g1, g2⟩ := ih _ _ _ _ _ _ hok2 hd h
          exact ⟨hh, H.cons (fun _ _ _ => by rw [dpM, if_neg (by omega), if_neg (by omega)]), g1, fun d' => by rw [treeM]; simp only [if_neg c1, if_pos c2]; exact g2 d'⟩
        by_cases c3 : c = 36
        · simp only [if_neg c1, if_neg c2, if_pos c3] at h
          obtain ⟨hh, H, g1, g2⟩ := ih _ _ _ _ _ _ hok2 hd h
          exact ⟨hh, H.cons (fun _ _ _ => by rw [dpM, if_neg (by omega), if_neg (by omega)]), g1, fun d' => by rw [treeM]; simp only [if_neg c1, if_neg c2, if_pos c3]; exact g2 d'⟩
        by_cases c4 : c = 41
        · simp only [if_neg c1, if_neg c2, if_neg c3, if_pos c4] at h; cases h
        have c5 : c = 40 := by rcases hc with h | h | h | h | h <;> first | exact h | contradiction
        subst c5
        simp only [if_neg c1, if_neg c2, if_neg c3, if_neg c4] at h
        cases hx : closeT 0 l with
        | none => rw [hx] at h; cases h
        | some p =>
          obtain ⟨l1, r'⟩ := p
          have e := closeT_split _ _ _ _ hx
          rw [hx] at h
          simp only at h
          by_cases hdd : 10 < d + 1
          · simp only [if_pos hdd] at h; cases h
          · simp only [if_neg hdd] at h
            cases hy : treeM n (d + 1) l1 [] [] false with
            | none => rw [hy] at h; cases h
            | some t1 =>
              rw [hy] at h
              simp only at h
              obtain ⟨h1, H1, g1, g2⟩ := ih _ _ _ _ _ _ (fun x hx => hok2 x (by rw [e]; simp [hx])) (by omega) hy
              obtain ⟨h2, H2, g3, g4⟩ := ih _ _ _ _ _ _ (fun x hx => hok2 x (by rw [e]; simp [hx])) hd h
              have p1 := H1.1
              have p2 := H2.1
              refine ⟨max (1 + h1) h2, by rw [e]; exact H1.par H2, by omega, fun d' => ?_⟩
              rw [treeM]
              simp only [if_neg c1, if_neg c2, if_neg c3, if_neg c4, hx]
              rw [g2 (d' + 1)]
              by_cases hd' : 10 < d' + 1
              · rw [if_pos hd', if_neg (by omega)]
              · rw [if_neg hd']
                by_cases q1 : d' + 1 + h1 ≤ 10 ∨ h1 = 0
                · rw [if_pos q1]
                  simp only
                  rw [g4 d']
                  by_cases q2 : d' + h2 ≤ 10 ∨ h2 = 0
                  · rw [if_pos q2, if_pos (by omega)]
                  · rw [if_neg q2, if_neg (by omega)]
                · rw [if_neg q1]
                  simp only
                  rw [if_neg (by omega)]
/-- A row of tokens that is a pattern. -/
structure PatT (ts : List Tok) (t : T) (h : Int) : Prop where
  ok : ∀ k ∈ ts, Tok.ok k
  bal : Bal ts
  ht : HtT ts h
  le : h ≤ 10
  tree : ∀ (n : Nat) (d : Int), ts.length < n → treeM n d ts [] [] false = if d + h ≤ 10 ∨ h = 0 then some t else none
theorem PatT.of {ts : List Tok} {t : T} (hok : ∀ k ∈ ts, Tok.ok k) (h : treeF ts = some t) : ∃ hh, PatT ts t hh := by
  obtain ⟨hh, H, g1, g2⟩ := tree_depth _ _ _ _ _ _ _ hok (by omega) h
  have h1 := tree_rd _ _ _ _ _ _ _ h [] (Or.inl rfl)
  rw [List.append_nil] at h1
  obtain ⟨_, l1, e, hb, _⟩ := rd_tree _ _ _ _ _ _ _ _ hok h1
  rw [List.append_nil] at e
  subst e
  exact ⟨hh, hok, hb, H, by omega, fun n d hn => by rw [treeM_fuel n (ts.length + 1) d ts [] [] false hn (by omega)]; exact g2 d⟩
theorem tree_paren {ts : List Tok} {t : T} {h : Int} (H : PatT ts t h) (n : Nat) (hn : ts.length + 1 ≤ n) (r : List Tok) (al ps : List T) (lo : Bool) :
    treeM (n + 1) 0 (.sg 40 :: (ts ++ .sg 41 :: r)) al ps lo = if h ≤ 9 then treeM n 0 r al (ps ++ [t]) true else none := by
  have h0 := H.ht.1
  rw [treeM]
  simp only [show ¬ (40 : Int) = 124 by omega, show ¬ (40 : Int) = 94 by omega, show ¬ (40 : Int) = 36 by omega, show ¬ (40 : Int) = 41 by omega, if_false, H.bal.close, show ¬ (10 : Int) < 0 + 1 by omega]
  rw [H.tree n (0 + 1) (by omega)]
  by_cases hh : h ≤ 9
  · rw [if_pos (by omega), if_pos hh]
  · rw [if_neg (by omega), if_neg hh]
/-- In parentheses. -/
theorem treeF_z {ts : List Tok} {t : T} {h : Int} (H : PatT ts t h) : treeF (.sg 40 :: (ts ++ [.sg 41])) = if h ≤ 9 then some t else none := by
  unfold treeF
  rw [tree_paren H _ (by simp) [] [] [] false]
  simp [treeM, endT, joinT]
theorem treeF_x {ts tt : List Tok} {a b : T} {h k : Int} (H : PatT ts a h) (K : PatT tt b k) : treeF (.sg 40 :: (ts ++ .sg 41 :: .sg 40 :: (tt ++ [.sg 41]))) = if h ≤ 9 ∧ k ≤ 9 then some ⟨4, [], 0, 0, F.ofL [a, b]⟩ else none := by
  unfold treeF
  obtain ⟨n, hn⟩ : ∃ n, (Tok.sg 40 :: (ts ++ .sg 41 :: .sg 40 :: (tt ++ [.sg 41]))).length = n + 2 ∧ ts.length ≤ n ∧ tt.length + 1 ≤ n := ⟨ts.length + tt.length + 2, by simp; omega, by omega, by omega⟩
  rw [hn.1, tree_paren H _ (by omega) _ [] [] false]
  by_cases h9 : h ≤ 9
  · rw [if_pos h9, tree_paren K (n + 1) (by omega) [] [] _ true]
    by_cases k9 : k ≤ 9
    · rw [if_pos k9, if_pos ⟨h9, k9⟩]; simp [treeM, endT, joinT]
    · rw [if_neg k9, if_neg (by omega)]
  · rw [if_neg h9, if_neg (by omega)]
theorem treeF_y {ts tt : List Tok} {a b : T} {h k : Int} (H : PatT ts a h) (K : PatT tt b k) : treeF (.sg 40 :: (ts ++ .sg 41 :: .sg 124 :: .sg 40 :: (tt ++ [.sg 41]))) = if h ≤ 9 ∧ k ≤ 9 then some ⟨5, [], 0, 0, F.ofL [a, b]⟩ else none := by
  unfold treeF
  obtain ⟨n, hn⟩ : ∃ n, (Tok.sg 40 :: (ts ++ .sg 41 :: .sg 124 :: .sg 40 :: (tt ++ [.sg 41]))).length = n + 3 ∧ ts.length ≤ n ∧ tt.length + 1 ≤ n := ⟨ts.length + tt.length + 2, by simp; omega, by omega, by omega⟩
  rw [hn.1, tree_paren H _ (by omega) _ [] [] false]
  by_cases h9 : h ≤ 9
  · rw [if_pos h9, show treeM (n + 3) 0 (.sg 124 :: .sg 40 :: (tt ++ [.sg 41])) [] ([] ++ [a]) true = treeM (n + 2) 0 (.sg 40 :: (tt ++ [.sg 41])) ([] ++ [joinT 4 ([] ++ [a])]) [] false from rfl, tree_paren K (n + 1) (by omega) [] _ _ false]
    by_cases k9 : k ≤ 9
    · rw [if_pos k9, if_pos ⟨h9, k9⟩]; simp [treeM, endT, joinT]
    · rw [if_neg k9, if_neg (by omega)]
  · rw [if_neg h9, if_neg (by omega)]

/-! ### On texts -/
/-- One pass: 0 outside, 1 behind a backslash, 2 in a class, 3 behind a backslash in a class. -/
def dM : Nat → List Int → Int → Int → Int
  | _, [], _, m => m
  | 0, c :: r, n, m => if c = 92 then dM 1 r n m else if c = 91 then dM 2 r n m else if c = 40 then dM 0 r (n + 1) (max m (n + 1)) else if c = 41 then dM 0 r (n - 1) m else dM 0 r n m
  | 1, _ :: r, n, m => dM 0 r n m
  | 2, c :: r, n, m => if c = 93 then dM 0 r n m else if c = 92 then dM 3 r n m else dM 2 r n m
  | _ + 3, _ :: r, n, m => dM 2 r n m
def neu (c : Int) : Prop := c ≠ 92 ∧ c ≠ 91 ∧ c ≠ 40 ∧ c ≠ 41
theorem dM_neu {c : Int} (h : neu c) (r : List Int) (n m : Int) : dM 0 (c :: r) n m = dM 0 r n m := by
  rw [dM, if_neg h.1, if_neg h.2.1, if_neg h.2.2.1, if_neg h.2.2.2]
theorem dM_neus : ∀ (a : List Int), (∀ c ∈ a, neu c) → ∀ r n m, dM 0 (a ++ r) n m = dM 0 r n m := by
  intro a
  induction a with
  | nil => intro _ r n m; rfl
  | cons c a ih =>
    intro h r n m
    rw [List.cons_append, dM_neu (h c (by simp)), ih (fun x hx => h x (by simp [hx]))]
theorem dM_pt {l : List Int} {s : List (Int × Int)} {b : Bool} {a : Nat} (h : ptP l = some (s, b, a)) (n m : Int) : dM 2 l n m = dM 2 (l.drop a) n m := by
  rcases l with _ | ⟨c, l⟩
  · simp [ptP] at h
  · rw [ptP_cons] at h
    by_cases hc : c = 92
    · rw [if_pos hc] at h
      rcases l with _ | ⟨c2, l⟩
      · cases h
      · simp only [Option.map_eq_some_iff, Prod.mk.injEq] at h
        obtain ⟨⟨x, y⟩, h1, rfl, rfl, rfl⟩ := h
        subst hc
        rfl
    · rw [if_neg hc] at h
      by_cases hn : amg npL c = true
      · rw [if_pos hn] at h; cases h
      · rw [if_neg hn] at h
        simp only [Option.some.injEq, Prod.mk.injEq] at h
        obtain ⟨rfl, rfl, rfl⟩ := h
        have h93 : c ≠ 93 := by rintro rfl; exact hn (by decide +kernel)
        rw [dM, if_neg h93, if_neg hc]; rfl
theorem dM_cl : ∀ (n : Nat) (f : Bool) (l : List Int) (all : List (Int × Int)) (k : Nat) (x : List (Int × Int)) (j : Nat) (a b : Int), clG n f l all k = some (x, j) → dM 2 l a b = dM 0 (l.drop (j - k)) a b := by
  intro n
  induction n with
  | zero => intro f l all k x j a b h; simp [clG] at h
  | succ n ih =>
    intro f l all k x j a b h
    rw [clG] at h
    by_cases hs : f = false ∧ l.head? = some 93
    · rw [if_pos hs] at h
      simp only [Option.some.injEq, Prod.mk.injEq] at h
      obtain ⟨rfl, rfl⟩ := h
      rcases l with _ | ⟨c, l⟩
      · simp at hs
      · obtain rfl : c = 93 := by simpa using hs.2
        rw [show k + 1 - k = 1 by omega]; rfl
    · rw [if_neg hs] at h
      cases hp : ptP l with
      | none => rw [hp] at h; cases h
      | some q =>
        obtain ⟨s, b1, a1⟩ := q
        rw [hp] at h
        simp only at h
        rw [dM_pt hp]
        by_cases hd : b1 = true ∧ (l.drop a1).head? = some 45
        · rw [if_pos hd] at h
          cases hp2 : ptP (l.drop (a1 + 1)) with
          | none => rw [hp2] at h; cases h
          | some q2 =>
            obtain ⟨t, too, b2⟩ := q2
            rw [hp2] at h
            simp only at h
            by_cases hbad : too = false ∨ lo1 t < lo1 s
            · rw [if_pos hbad] at h; cases h
            · rw [if_neg hbad] at h
              have h1 := ih _ _ _ _ _ _ a b h
              have h2 := (clG_local _ _ _ _ _ _ _ h).1
              have h3 : dM 2 (l.drop a1) a b = dM 2 (l.drop (a1 + 1)) a b := by
                rw [← List.drop_drop]
                cases hq : l.drop a1 with
                | nil => rw [hq] at hd; simp at hd
                | cons c l' =>
                  rw [hq] at hd
                  obtain rfl : c = 45 := by simpa using hd.2
                  rw [dM, if_neg (by omega), if_neg (by omega)]; rfl
              rw [h3, dM_pt hp2, List.drop_drop, h1, List.drop_drop]
              congr 2; omega
        · rw [if_neg hd] at h
          have h1 := ih _ _ _ _ _ _ a b h
          have h2 := (clG_local _ _ _ _ _ _ _ h).1
          rw [h1, List.drop_drop]
          congr 2; omega
theorem num_neu (l : List Int) : ∀ c ∈ l.take (numP l).2, neu c := by
  have hdg : ∀ c, dig c = true → neu c := fun c h => by
    simp [dig] at h; unfold neu; omega
  have key : ∀ c ∈ l.take (num0 l).2, neu c := by
    rcases l with _ | ⟨a, _ | ⟨b, l⟩⟩
    · simp
    · rw [num0_cons]
      split
      · rename_i h; intro c hc; simp at hc; subst hc; exact hdg _ h
      · simp
    · rw [num0_cons]
      split
      · rename_i h
        simp only
        split
        · rename_i h2
          intro c hc
          simp at hc
          rcases hc with rfl | rfl
          · exact hdg _ h
          · exact hdg _ h2
        · intro c hc; simp at hc; subst hc; exact hdg _ h
      · simp
  unfold numP
  split
  · simp
  · exact key
theorem dM_br {l : List Int} {a b : Int} {k : Nat} (h : brP l = some (a, b, k)) (n m : Int) : dM 0 l n m = dM 0 (l.drop k) n m := by
  have hsplit : ∀ j, dM 0 l n m = dM 0 (l.take j ++ l.drop j) n m := fun j => by rw [List.take_append_drop]
  have h125 : neu 125 := by unfold neu; omega
  have h44 : neu 44 := by unfold neu; omega
  unfold brP at h
  by_cases h0 : (numP l).2 = 0
  · rw [if_pos h0] at h; cases h
  · rw [if_neg h0] at h
    cases hd : l.drop (numP l).2 with
    | nil => rw [hd] at h; cases h
    | cons c l2 =>
      rw [hd] at h
      simp only at h
      have e1 : dM 0 l n m = dM 0 (c :: l2) n m := by rw [hsplit (numP l).2, dM_neus _ (num_neu l), hd]
      have edrop : ∀ j, l.drop ((numP l).2 + j) = (c :: l2).drop j := fun j => by rw [← hd, List.drop_drop]
      by_cases hc : c = 125
      · rw [if_pos hc] at h
        simp only [Option.some.injEq, Prod.mk.injEq] at h
        obtain ⟨rfl, rfl, rfl⟩ := h
        rw [e1, edrop, hc, dM_neu h125]; rfl
      · rw [if_neg hc] at h
        by_cases hc2 : c = 44
        · rw [if_pos hc2] at h
          rcases l2 with _ | ⟨d, l3⟩
          · cases h
          · simp only at h
            by_cases hd2 : d = 125
            · rw [if_pos hd2] at h
              simp only [Option.some.injEq, Prod.mk.injEq] at h
              obtain ⟨rfl, rfl, rfl⟩ := h
              rw [e1, edrop, hc2, hd2, dM_neu h44, dM_neu h125]; rfl
            · rw [if_neg hd2] at h
              by_cases hm : (numP (d :: l3)).2 = 0 ∨ (numP (d :: l3)).1 < (numP l).1
              · rw [if_pos hm] at h; cases h
              · rw [if_neg hm] at h
                by_cases he : ((d :: l3).drop (numP (d :: l3)).2).head? = some 125
                · rw [if_pos he] at h
                  simp only [Option.some.injEq, Prod.mk.injEq] at h
                  obtain ⟨rfl, rfl, rfl⟩ := h
                  rw [e1, hc2, dM_neu h44]
                  have e2 : dM 0 (d :: l3) n m = dM 0 ((d :: l3).drop (numP (d :: l3)).2) n m := by
                    conv => lhs; rw [← List.take_append_drop (numP (d :: l3)).2 (d :: l3)]
                    rw [dM_neus _ (num_neu _)]
                  rw [e2, show (numP l).2 + (numP (d :: l3)).2 + 2 = (numP l).2 + ((numP (d :: l3)).2 + 2) by omega, edrop]
                  have e3 : (c :: d :: l3).drop ((numP (d :: l3)).2 + 2) = ((d :: l3).drop (numP (d :: l3)).2).drop 1 := by rw [List.drop_drop]; rfl
                  rw [e3]
                  cases hq : (d :: l3).drop (numP (d :: l3)).2 with
                  | nil => rw [hq] at he; cases he
                  | cons z l4 =>
                    rw [hq] at he
                    obtain rfl : z = 125 := by simpa using he
                    rw [dM_neu h125]; rfl
                · rw [if_neg he] at h; cases h
        · rw [if_neg hc2] at h; cases h
/-- A token's own place in it. -/
def dT (t : Tok) (n m : Int) : Int × Int := match t with
  | .sg c => if c = 40 then (n + 1, max m (n + 1)) else if c = 41 then (n - 1, m) else (n, m)
  | _ => (n, m)
theorem dpM_cons (t : Tok) (r : List Tok) (n m : Int) : dpM (t :: r) n m = dpM r (dT t n m).1 (dT t n m).2 := by
  cases t with
  | sg c => simp only [dpM, dT]; split <;> (try split) <;> rfl
  | pt S => rfl
  | ct a b => rfl
theorem dM_tok {l : List Int} {t : Tok} {k : Nat} (h : tokP l = some (t, k)) (n m : Int) : dM 0 l n m = dM 0 (l.drop k) (dT t n m).1 (dT t n m).2 := by
  rcases l with _ | ⟨c, l⟩
  · simp [tokP] at h
  · rw [tokP_cons] at h
    by_cases h1 : c = 124 ∨ c = 40 ∨ c = 41 ∨ c = 94 ∨ c = 36
    · rw [if_pos h1] at h
      simp only [Option.some.injEq, Prod.mk.injEq] at h
      obtain ⟨rfl, rfl⟩ := h
      rw [dM, if_neg (by omega), if_neg (by omega)]
      simp only [dT, List.drop_succ_cons, List.drop_zero]
      by_cases h40 : c = 40
      · rw [if_pos h40, if_pos h40]
      · rw [if_neg h40, if_neg h40]
        by_cases h41 : c = 41
        · rw [if_pos h41, if_pos h41]
        · rw [if_neg h41, if_neg h41]
    rw [if_neg h1] at h
    have hn : c ≠ 91 → c ≠ 92 → neu c := fun a b => by unfold neu; omega
    by_cases h2 : c = 42
    · rw [if_pos h2] at h
      simp only [Option.some.injEq, Prod.mk.injEq] at h
      obtain ⟨rfl, rfl⟩ := h
      rw [dM_neu (hn (by omega) (by omega))]; rfl
    rw [if_neg h2] at h
    by_cases h3 : c = 43
    · rw [if_pos h3] at h
      simp only [Option.some.injEq, Prod.mk.injEq] at h
      obtain ⟨rfl, rfl⟩ := h
      rw [dM_neu (hn (by omega) (by omega))]; rfl
    rw [if_neg h3] at h
    by_cases h4 : c = 63
    · rw [if_pos h4] at h
      simp only [Option.some.injEq, Prod.mk.injEq] at h
      obtain ⟨rfl, rfl⟩ := h
      rw [dM_neu (hn (by omega) (by omega))]; rfl
    rw [if_neg h4] at h
    by_cases h5 : c = 123
    · rw [if_pos h5] at h
      simp only [Option.map_eq_some_iff, Prod.mk.injEq] at h
      obtain ⟨⟨a, b, j⟩, g1, rfl, rfl⟩ := h
      rw [dM_neu (hn (by omega) (by omega)), dM_br g1]; rfl
    rw [if_neg h5] at h
    by_cases h6 : c = 46
    · rw [if_pos h6] at h
      simp only [Option.some.injEq, Prod.mk.injEq] at h
      obtain ⟨rfl, rfl⟩ := h
      rw [dM_neu (hn (by omega) (by omega))]; rfl
    rw [if_neg h6] at h
    by_cases h7 : c = 91
    · rw [if_pos h7] at h
      simp only [Option.map_eq_some_iff, Prod.mk.injEq] at h
      obtain ⟨⟨a, j⟩, g1, rfl, rfl⟩ := h
      rw [dM, if_neg (by omega), if_pos h7]
      show dM 2 l n m = dM 0 (l.drop j) n m
      unfold clP at g1
      by_cases hc : l.head? = some 94
      · rw [if_pos hc] at g1
        simp only [Option.map_eq_some_iff, Prod.mk.injEq] at g1
        obtain ⟨⟨y, j'⟩, g2, _, rfl⟩ := g1
        have hj := (clG_local _ _ _ _ _ _ _ g2).1
        rcases l with _ | ⟨z, l⟩
        · simp at hc
        · obtain rfl : z = 94 := by simpa using hc
          have := dM_cl _ _ _ _ _ _ _ n m g2
          simp only [List.drop_succ_cons, List.drop_zero] at this
          rw [dM, if_neg (by omega), if_neg (by omega), this]
          obtain ⟨i, rfl⟩ : ∃ i, j' = i + 1 := ⟨j' - 1, by omega⟩
          rfl
      · rw [if_neg hc] at g1
        simp only [Option.map_eq_some_iff, Prod.mk.injEq] at g1
        obtain ⟨⟨y, j'⟩, g2, _, rfl⟩ := g1
        exact dM_cl _ _ _ _ _ _ _ n m g2
    rw [if_neg h7] at h
    by_cases h8 : c = 92
    · rw [if_pos h8] at h
      rcases l with _ | ⟨c2, l⟩
      · cases h
      · simp only [Option.map_eq_some_iff, Prod.mk.injEq] at h
        obtain ⟨⟨a, b⟩, g1, rfl, rfl⟩ := h
        subst h8
        rfl
    rw [if_neg h8] at h
    by_cases h9 : c = 93 ∨ c = 125
    · rw [if_pos h9] at h; cases h
    · rw [if_neg h9] at h
      simp only [Option.some.injEq, Prod.mk.injEq] at h
      obtain ⟨rfl, rfl⟩ := h
      rw [dM_neu (hn h7 h8)]; rfl
theorem dM_toks : ∀ (k : Nat) (l : List Int) (ts : List Tok) (n m : Int), l.length ≤ k → toks l = some ts → dM 0 l n m = dpM ts n m := by
  intro k
  induction k with
  | zero =>
    intro l ts n m hk h
    obtain rfl : l = [] := List.length_eq_zero_iff.1 (by omega)
    rw [toks_nil] at h
    obtain rfl := Option.some.inj h
    rfl
  | succ k ih =>
    intro l ts n m hk h
    rcases ts with _ | ⟨t, ts⟩
    · obtain rfl := toks_empty h; rfl
    · obtain ⟨j, h1, h2⟩ := toks_head h
      have hj := tokP_local h1
      rw [dM_tok h1, dpM_cons]
      exact ih _ _ _ _ (by rw [List.length_drop]; omega) h2
end
end Go.Proofs.YtpcbfmbpbegjgaaGreat
namespace Go.Proofs.YtpcbfmbpbegjgaaGreat
section
open Go.RowKit
set_option linter.unusedVariables false
set_option linter.unusedSimpArgs false
set_option maxRecDepth 100000

theorem ptsP_facts' : ∀ (n : Nat) (l : List UInt8) (rs : List Int), ptsP n l = some rs → rs.length ≤ l.length ∧ ∀ r ∈ rs, 0 ≤ r ∧ r ≤ 1114111 := by
  intro n
  induction n with
  | zero => intro l rs h; simp [ptsP] at h; subst h; simp
  | succ n ih =>
    intro l rs h
    rcases l with _ | ⟨c, l⟩
    · simp [ptsP] at h; subst h; simp
    · rw [ptsP, if_neg (by simp)] at h
      by_cases hs : sizP (getP (c :: l)).1 = ((getP (c :: l)).2 : Int)
      · rw [if_pos hs, Option.map_eq_some_iff] at h
        obtain ⟨rs', h1, rfl⟩ := h
        have h2 := ih _ _ h1
        have hp := getP_pos c l
        have hb : isB (getP (c :: l)).1 = true := by
          unfold sizP at hs
          cases hb : isB (getP (c :: l)).1 with
          | true => rfl
          | false => rw [hb] at hs; simp at hs; omega
        have hr : 0 ≤ (getP (c :: l)).1 ∧ (getP (c :: l)).1 ≤ 1114111 := by
          simp [isB] at hb; omega
        refine ⟨?_, ?_⟩
        · have h3 := h2.1
          rw [List.length_drop] at h3
          simp only [List.length_cons] at h3 ⊢; omega
        · intro r hr'
          rcases List.mem_cons.1 hr' with rfl | hr'
          · exact hr
          · exact h2.2 r hr'
      · rw [if_neg hs] at h; cases h
theorem pts_facts0 {l : List UInt8} {rs : List Int} (h : pts l = some rs) : rs.length ≤ l.length ∧ ∀ r ∈ rs, 0 ≤ r ∧ r ≤ 1114111 := ptsP_facts' _ _ _ h
theorem pts_facts' {l : List UInt8} {rs : List Int} (h : pts l = some rs) : ∀ r ∈ rs, 0 ≤ r ∧ r ≤ 1114111 := (pts_facts0 h).2
theorem tailP_hi : ∀ (l : List UInt8) (r x : Nat), tailP r l = some x → ∀ c ∈ l, 128 ≤ c.toNat := by
  intro l
  induction l with
  | nil => intro r x _ c hc; simp at hc
  | cons d l ih =>
    intro r x h c hc
    rw [tailP] at h
    split at h
    · rename_i hd
      rcases List.mem_cons.1 hc with rfl | hc
      · omega
      · exact ih _ _ h c hc
    · cases h
theorem lenP_le (c : Nat) : lenP c ≤ 4 := by unfold lenP; split <;> (try split) <;> (try split) <;> (try split) <;> omega
theorem lenP_one {c : Nat} (h : lenP c = 1) : c < 128 := by unfold lenP at h; split at h <;> (try split at h) <;> (try split at h) <;> (try split at h) <;> omega
/-- A code point that is one, at a text's beginning. -/
theorem getP_valid {c : UInt8} {l : List UInt8} (h : sizP (getP (c :: l)).1 = ((getP (c :: l)).2 : Int)) :
    (∀ b, getP (c :: (l ++ b)) = getP (c :: l)) ∧ (getP (c :: l)).2 ≤ l.length + 1 ∧
    ((c.toNat < 128 ∧ getP (c :: l) = ((c.toNat : Int), 1)) ∨ (128 ≤ (getP (c :: l)).1 ∧ ∀ x ∈ (c :: l).take (getP (c :: l)).2, 128 ≤ x.toNat)) := by
  have h65 : ¬ sizP 65533 = ((1 : Nat) : Int) := by decide
  by_cases h0 : lenP c.toNat = 0 ∨ l.length + 1 < lenP c.toNat
  · rw [getP_eq, if_pos h0] at h; exact absurd h h65
  · have hle : lenP c.toNat - 1 ≤ l.length := by omega
    have e := getP_eq c l
    rw [if_neg h0] at e
    have eb : ∀ b, getP (c :: (l ++ b)) = _ := fun b => getP_eq c (l ++ b)
    cases ht : tailP (headP c) (l.take (lenP c.toNat - 1)) with
    | none => rw [ht] at e; rw [e] at h; exact absurd h h65
    | some r =>
      rw [ht] at e
      simp only at e
      by_cases hs : sizP r = lenP c.toNat
      · rw [if_pos hs] at e
        refine ⟨fun b => ?_, by rw [e]; simp only; omega, ?_⟩
        · rw [e, eb b, if_neg (by simp; omega), List.take_append_of_le_length hle, ht]
          simp only
          rw [if_pos hs]
        · by_cases hc : c.toNat < 128
          · left
            exact ⟨hc, getP_ascii c l hc⟩
          · right
            rw [e]
            have h1 : lenP c.toNat ≠ 1 := fun h1 => hc (lenP_one h1)
            have h2 : 2 ≤ lenP c.toNat := by omega
            refine ⟨?_, fun x hx => ?_⟩
            · simp only
              have hs2 : (2 : Int) ≤ sizP r := by rw [hs]; omega
              unfold sizP at hs2
              split at hs2
              · split at hs2 <;> omega
              · omega
            · simp only at hx
              obtain ⟨k, hk⟩ : ∃ k, lenP c.toNat = k + 1 := ⟨lenP c.toNat - 1, by omega⟩
              rw [hk, List.take_succ_cons] at hx
              rcases List.mem_cons.1 hx with rfl | hx
              · omega
              · exact tailP_hi _ _ _ ht x (by rw [hk]; exact hx)
      · rw [if_neg hs] at e; rw [e] at h; exact absurd h h65
theorem ptsP_fuel : ∀ (n m : Nat) (l : List UInt8), l.length ≤ n → l.length ≤ m → ptsP n l = ptsP m l := by
  intro n
  induction n with
  | zero =>
    intro m l hn hm
    obtain rfl : l = [] := List.length_eq_zero_iff.1 (by omega)
    cases m with
    | zero => rfl
    | succ m => rw [ptsP, ptsP, if_pos rfl]
  | succ n ih =>
    intro m l hn hm
    rcases l with _ | ⟨c, l⟩
    · cases m with
      | zero => simp [ptsP]
      | succ m => simp [ptsP]
    · obtain ⟨m, rfl⟩ : ∃ k, m = k + 1 := ⟨m - 1, by simp at hm; omega⟩
      rw [ptsP, ptsP]
      simp only [reduceCtorEq, if_false]
      split
      · have := getP_pos c l
        simp only [List.length_cons] at hn hm
        rw [ih m _ (by rw [List.length_drop, List.length_cons]; omega) (by rw [List.length_drop, List.length_cons]; omega)]
      · rfl
theorem pts_cons {c : UInt8} {l : List UInt8} : pts (c :: l) = if sizP (getP (c :: l)).1 = ((getP (c :: l)).2 : Int) then (pts ((c :: l).drop (getP (c :: l)).2)).map ((getP (c :: l)).1 :: ·) else none := by
  unfold pts
  rw [show (c :: l).length = l.length + 1 from rfl, ptsP, if_neg (by simp)]
  split
  · have := getP_pos c l
    rw [ptsP_fuel l.length _ _ (by rw [List.length_drop, List.length_cons]; omega) (Nat.le_refl _)]
  · rfl
theorem pts_app : ∀ (n : Nat) (a b : List UInt8) (ra : List Int), a.length ≤ n → pts a = some ra → pts (a ++ b) = (pts b).map (ra ++ ·) := by
  intro n
  induction n with
  | zero =>
    intro a b ra hn h
    obtain rfl : a = [] := List.length_eq_zero_iff.1 (by omega)
    obtain rfl : [] = ra := by simpa [pts, ptsP] using h
    simp
  | succ n ih =>
    intro a b ra hn h
    rcases a with _ | ⟨c, a⟩
    · obtain rfl : [] = ra := by simpa [pts, ptsP] using h
      simp
    · rw [pts_cons] at h
      by_cases hs : sizP (getP (c :: a)).1 = ((getP (c :: a)).2 : Int)
      · rw [if_pos hs, Option.map_eq_some_iff] at h
        obtain ⟨r2, h1, rfl⟩ := h
        obtain ⟨g1, g2, _⟩ := getP_valid hs
        have hpos := (getP_pos c a).1
        rw [List.cons_append, pts_cons, g1 b, if_pos hs, ← List.cons_append, List.drop_append_of_le_length (by simpa using g2)]
        rw [ih _ b r2 (by rw [List.length_drop]; simp only [List.length_cons] at hn ⊢; omega) h1]
        cases pts b <;> rfl
      · rw [if_neg hs] at h; cases h
def mode' (q : Nat) : Nat := if q ≤ 1 then 0 else 2
theorem dM_hi (q : Nat) (hq : q ≤ 3) {c : Int} (h : 128 ≤ c) (r : List Int) (n m : Int) : dM q (c :: r) n m = dM (mode' q) r n m := by
  rcases (by omega : q = 0 ∨ q = 1 ∨ q = 2 ∨ q = 3) with rfl | rfl | rfl | rfl
  · exact dM_neu (by unfold neu; omega) _ _ _
  · rfl
  · rw [dM, if_neg (by omega), if_neg (by omega)]; rfl
  · rfl
theorem mode'_le (q : Nat) : mode' q ≤ 3 ∧ mode' (mode' q) = mode' q := by unfold mode'; split <;> simp
theorem dM_his : ∀ (a : List Int), (∀ c ∈ a, 128 ≤ c) → a ≠ [] → ∀ q, q ≤ 3 → ∀ r n m, dM q (a ++ r) n m = dM (mode' q) r n m := by
  intro a
  induction a with
  | nil => intro _ h; exact absurd rfl h
  | cons c a ih =>
    intro h _ q hq r n m
    rw [List.cons_append, dM_hi q hq (h c (by simp))]
    by_cases ha : a = []
    · subst ha; rfl
    · rw [ih (fun x hx => h x (by simp [hx])) ha _ (mode'_le q).1, (mode'_le q).2]
/-- Octets stand as deep as their code points. -/
theorem dM_pts : ∀ (k : Nat) (l : List UInt8) (rs : List Int), l.length ≤ k → pts l = some rs → ∀ q, q ≤ 3 → ∀ n m, dM q (l.map fun c => (c.toNat : Int)) n m = dM q rs n m := by
  intro k
  induction k with
  | zero =>
    intro l rs hk h q hq n m
    obtain rfl : l = [] := List.length_eq_zero_iff.1 (by omega)
    obtain rfl : [] = rs := by simpa [pts, ptsP] using h
    rfl
  | succ k ih =>
    intro l rs hk h q hq n m
    rcases l with _ | ⟨c, l⟩
    · obtain rfl : [] = rs := by simpa [pts, ptsP] using h
      rfl
    · rw [pts_cons] at h
      by_cases hs : sizP (getP (c :: l)).1 = ((getP (c :: l)).2 : Int)
      · rw [if_pos hs, Option.map_eq_some_iff] at h
        obtain ⟨r2, h1, rfl⟩ := h
        obtain ⟨_, g2, g3⟩ := getP_valid hs
        have hpos := (getP_pos c l).1
        simp only [List.length_cons] at hk
        have hih := ih _ r2 (by rw [List.length_drop, List.length_cons]; omega) h1
        rcases g3 with ⟨hc, he⟩ | ⟨hc, he⟩
        · rw [he] at hih ⊢
          simp only [List.drop_succ_cons, List.drop_zero] at hih
          rw [List.map_cons]
          rcases (by omega : q = 0 ∨ q = 1 ∨ q = 2 ∨ q = 3) with rfl | rfl | rfl | rfl
          · rw [dM, dM]
            rw [hih 1 (by omega), hih 2 (by omega), hih 0 (by omega), hih 0 (by omega), hih 0 (by omega)]
          · rw [dM, dM]; exact hih 0 (by omega) _ _
          · rw [dM, dM, hih 0 (by omega), hih 3 (by omega), hih 2 (by omega)]
          · rw [dM, dM]; exact hih 2 (by omega) _ _
        · rw [dM_hi q hq hc, ← hih _ (mode'_le q).1]
          conv => lhs; rw [← List.take_append_drop (getP (c :: l)).2 (c :: l)]
          rw [List.map_append]
          refine dM_his _ (fun x hx => ?_) ?_ q hq _ _ _
          · obtain ⟨y, hy, rfl⟩ := List.mem_map.1 hx
            have := he y hy; omega
          · intro hh
            have := congrArg List.length hh
            simp only [List.length_map, List.length_take, List.length_cons, List.length_nil] at this
            omega
      · rw [if_neg hs] at h; cases h
/-- How deep a text's parentheses stand. -/
def deepB (l : List UInt8) : Int := dM 0 (l.map fun c => (c.toNat : Int)) 0 0
/-- A text that is a pattern. -/
structure PatB (l : List UInt8) (t : T) : Prop where
  ex : ∃ rs ts, pts l = some rs ∧ toks rs = some ts ∧ PatT ts t (deepB l)
theorem patB {l : List UInt8} {t : T} (h : parseP l = (t, 0)) : PatB l t := by
  unfold parseP at h
  by_cases hl : 200 < l.length
  · rw [if_pos hl] at h; simp at h
  · rw [if_neg hl] at h
    cases hp : pts l with
    | none => rw [hp] at h; simp at h
    | some rs =>
      rw [hp] at h
      simp only at h
      rw [parse_toks (pts_facts' hp)] at h
      cases ht : toks rs with
      | none => rw [ht] at h; simp at h
      | some ts =>
        rw [ht] at h
        simp only at h
        cases hx : treeF ts with
        | none => rw [hx] at h; simp at h
        | some t' =>
          rw [hx] at h
          obtain rfl : t' = t := (Prod.mk.inj h).1
          obtain ⟨hh, H⟩ := PatT.of (toks_okk ht) hx
          have e : deepB l = hh := by
            unfold deepB
            rw [dM_pts _ _ _ (Nat.le_refl _) hp 0 (by omega), dM_toks _ _ _ _ _ (Nat.le_refl _) ht]
            have := H.ht.2 [] 0 0 (by omega)
            rw [List.append_nil] at this
            rw [this]
            have := H.ht.1
            simp only [dpM]; omega
          exact ⟨⟨rs, ts, hp, ht, by rw [e]; exact H⟩⟩
theorem pts_one {c : UInt8} (h : c.toNat < 128) : pts [c] = some [(c.toNat : Int)] := by
  have := pts_ascii (l := [c]) (by simpa using h)
  simpa using this
theorem toks_40 (l : List Int) : toks (40 :: l) = (toks l).map (.sg 40 :: ·) := toks_some (l := 40 :: l) (by rw [tokP_cons, if_pos (by omega)])
theorem toks_41 (l : List Int) : toks (41 :: l) = (toks l).map (.sg 41 :: ·) := toks_some (l := 41 :: l) (by rw [tokP_cons, if_pos (by omega)])
theorem toks_124 (l : List Int) : toks (124 :: l) = (toks l).map (.sg 124 :: ·) := toks_some (l := 124 :: l) (by rw [tokP_cons, if_pos (by omega)])
theorem pts_cons_ascii {c : UInt8} {l : List UInt8} {rs : List Int} (hc : c.toNat < 128) (h : pts l = some rs) : pts (c :: l) = some ((c.toNat : Int) :: rs) := by
  have := pts_app 1 [c] l _ (by simp) (pts_one hc)
  rw [h] at this
  simpa using this
theorem parse_of {l : List UInt8} {rs : List Int} {ts : List Tok} (hl : l.length ≤ 200) (hp : pts l = some rs) (ht : toks rs = some ts) : parseP l = match treeF ts with | none => (zeroT, 15) | some t => (t, 0) := by
  unfold parseP
  rw [if_neg (by omega), hp]
  simp only
  rw [parse_toks (pts_facts' hp), ht]
  all_goals rfl
theorem parts_z {l : List UInt8} {a : T} (h : PatB l a) (hl : l.length ≤ 100) : parseP (40 :: (l ++ [41])) = if deepB l ≤ 9 then (a, 0) else (zeroT, 15) := by
  obtain ⟨rs, ts, h1, h2, H⟩ := h.ex
  have p1 : pts (40 :: (l ++ [41])) = some (40 :: (rs ++ [41])) := pts_cons_ascii (by decide) (by rw [pts_app _ _ _ _ (Nat.le_refl _) h1, pts_one (by decide)]; rfl)
  have t1 : toks (40 :: (rs ++ [41])) = some (.sg 40 :: (ts ++ [.sg 41])) := by
    rw [toks_40, toks_app _ _ _ _ (Nat.le_refl _) h2, toks_41, toks_nil]; rfl
  rw [parse_of (by simp; omega) p1 t1, treeF_z H]
  by_cases hh : deepB l ≤ 9
  · rw [if_pos hh, if_pos hh]
  · rw [if_neg hh, if_neg hh]
theorem parts_x {l m : List UInt8} {a b : T} (h : PatB l a) (g : PatB m b) (hl : l.length ≤ 60) (hm : m.length ≤ 60) : parseP (40 :: (l ++ 41 :: 40 :: (m ++ [41]))) = if deepB l ≤ 9 ∧ deepB m ≤ 9 then (⟨4, [], 0, 0, F.ofL [a, b]⟩, 0) else (zeroT, 15) := by
  obtain ⟨rs, ts, h1, h2, H⟩ := h.ex
  obtain ⟨rm, tm, g1, g2, K⟩ := g.ex
  have p0 : pts (m ++ [41]) = some (rm ++ [41]) := by rw [pts_app _ _ _ _ (Nat.le_refl _) g1, pts_one (by decide)]; rfl
  have p1 : pts (40 :: (l ++ 41 :: 40 :: (m ++ [41]))) = some (40 :: (rs ++ 41 :: 40 :: (rm ++ [41]))) := pts_cons_ascii (by decide) (by rw [pts_app _ _ _ _ (Nat.le_refl _) h1, pts_cons_ascii (by decide) (pts_cons_ascii (by decide) p0)]; rfl)
  have t1 : toks (40 :: (rs ++ 41 :: 40 :: (rm ++ [41]))) = some (.sg 40 :: (ts ++ .sg 41 :: .sg 40 :: (tm ++ [.sg 41]))) := by
    rw [toks_40, toks_app _ _ _ _ (Nat.le_refl _) h2, toks_41, toks_40, toks_app _ _ _ _ (Nat.le_refl _) g2, toks_41, toks_nil]; rfl
  rw [parse_of (by simp; omega) p1 t1, treeF_x H K]
  by_cases hh : deepB l ≤ 9 ∧ deepB m ≤ 9
  · rw [if_pos hh, if_pos hh]
  · rw [if_neg hh, if_neg hh]
theorem parts_y {l m : List UInt8} {a b : T} (h : PatB l a) (g : PatB m b) (hl : l.length ≤ 60) (hm : m.length ≤ 60) : parseP (40 :: (l ++ 41 :: 124 :: 40 :: (m ++ [41]))) = if deepB l ≤ 9 ∧ deepB m ≤ 9 then (⟨5, [], 0, 0, F.ofL [a, b]⟩, 0) else (zeroT, 15) := by
  obtain ⟨rs, ts, h1, h2, H⟩ := h.ex
  obtain ⟨rm, tm, g1, g2, K⟩ := g.ex
  have p0 : pts (m ++ [41]) = some (rm ++ [41]) := by rw [pts_app _ _ _ _ (Nat.le_refl _) g1, pts_one (by decide)]; rfl
  have p1 : pts (40 :: (l ++ 41 :: 124 :: 40 :: (m ++ [41]))) = some (40 :: (rs ++ 41 :: 124 :: 40 :: (rm ++ [41]))) := pts_cons_ascii (by decide) (by rw [pts_app _ _ _ _ (Nat.le_refl _) h1, pts_cons_ascii (by decide) (pts_cons_ascii (by decide) (pts_cons_ascii (by decide) p0))]; rfl)
  have t1 : toks (40 :: (rs ++ 41 :: 124 :: 40 :: (rm ++ [41]))) = some (.sg 40 :: (ts ++ .sg 41 :: .sg 124 :: .sg 40 :: (tm ++ [.sg 41]))) := by
    rw [toks_40, toks_app _ _ _ _ (Nat.le_refl _) h2, toks_41, toks_124, toks_40, toks_app _ _ _ _ (Nat.le_refl _) g2, toks_41, toks_nil]; rfl
  rw [parse_of (by simp; omega) p1 t1, treeF_y H K]
  by_cases hh : deepB l ≤ 9 ∧ deepB m ≤ 9
  · rw [if_pos hh, if_pos hh]
  · rw [if_neg hh, if_neg hh]
end
end Go.Proofs.YtpcbfmbpbegjgaaGreat
