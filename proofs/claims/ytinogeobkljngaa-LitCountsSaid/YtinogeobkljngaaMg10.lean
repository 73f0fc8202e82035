/-
  Several texts in one: The parser's escape, point. The parser's class. The parser's functions on trees as plain words (atom, counted, pieces, alternatives), and where they end.
-/
import Derived.Test.YtinogeobkljngaaMg9
import Derived.Deep.CutBlock
import Derived.Deep.CutRange
import Derived.BigRegion
import Derived.Test.YtinogeobkljngaaMg6
section
namespace Go.Proofs.Ytinogeobkljngaa
open Go.RowKit
set_option linter.unusedVariables false
set_option linter.unusedSimpArgs false
set_option maxRecDepth 100000

theorem ownsRow_keeps {S : Nat → Prop} {w w' : World} {base : Nat} {e : TypeId} {size : Nat} {v : Value} {n : Nat} {xs : List Value} (h : w.ownsRow base e size v n xs) (K : Keeps S w w') (hs : ∀ b, v.ownBlock = some b → ¬ S b) : w'.ownsRow base e size v n xs := by
  refine ⟨h.1, ?_⟩
  rcases h.2 with h0 | ⟨g, cap, cur, rfl, hg, hh, hr⟩
  · exact Or.inl h0
  · exact Or.inr ⟨g, cap, cur, rfl, hg, K.heap hh (hs g rfl), hr⟩
theorem own_fresh {w w' : World} {pb : Nat} {base : Nat} {e : TypeId} {size : Nat} {v : Value} {n : Nat} {xs : List Value} (h : w.ownsRow base e size v n xs) (K : Keeps (OnlyP pb) w w') (hb : pb < base) : w'.ownsRow base e size v n xs :=
  ownsRow_keeps h K (fun b hb' e => by have := ownBlock_base h b hb'; have e : b = pb := e; omega)

def namedL (r : Int) : List (Int × Int) :=
  if r = 100 then [(48, 57)] else if r = 119 then [(48, 57), (65, 90), (95, 95), (97, 122)] else if r = 115 then [(9, 13), (32, 32)]
  else if r = 68 then [(0, 47), (58, 1114111)] else if r = 87 then [(0, 47), (58, 64), (91, 94), (96, 96), (123, 1114111)] else [(0, 8), (14, 31), (33, 1114111)]
def isNam (r : Int) : Prop := r = 100 ∨ r = 119 ∨ r = 115 ∨ r = 68 ∨ r = 87 ∨ r = 83
def sgL : List UInt8 := [46, 94, 36, 124, 40, 41, 91, 93, 123, 125, 42, 43, 63, 92]
def dwL : List UInt8 := [100, 119, 115, 68, 87, 83]
def npL : List UInt8 := [91, 93, 94, 45]
theorem amg_out (al : List UInt8) (r : Int) (h : ¬ (0 ≤ r ∧ r < 128)) : amg al r = false := by
  unfold amg
  rcases (by omega : r < 0 ∨ 0 ≤ r) with h0 | h0
  · rw [show decide (0 ≤ r) = false from by simpa using h0]; rfl
  · rw [show decide (r < 128) = false from by simp; omega]; simp
instance (r : Int) : Decidable (isNam r) := by unfold isNam; infer_instance
theorem amg_dw (r : Int) : amg dwL r = decide (isNam r) := by
  have key : ∀ c : Fin 128, amg dwL (c.val : Int) = decide (isNam (c.val : Int)) := of_decide_eq_true (by kernel_rfl)
  by_cases h : 0 ≤ r ∧ r < 128
  · have := key ⟨r.toNat, by omega⟩
    simpa [Int.toNat_of_nonneg h.1] using this
  · rw [amg_out _ _ h]; symm; simp only [decide_eq_false_iff_not]; unfold isNam; omega
/-- What stands behind a backslash. -/
def escR (r : Int) : Int := if r = 110 then 10 else if r = 114 then 13 else if r = 116 then 9 else r
def escBad (r : Int) : Bool := !(decide (r = 110) || decide (r = 114) || decide (r = 116)) && (!amg sgL r && !decide (r = 45))
def escL (rs : List Int) (s : PS) : List (Int × Int) := if isNam (pk rs s) then namedL (pk rs s) else [(escR (pk rs s), escR (pk rs s))]
def escB (rs : List Int) (s : PS) : Bool := !decide (isNam (pk rs s))
def escS (rs : List Int) (s : PS) : PS :=
  if isNam (pk rs s) then nx rs s else ⟨s.pos + 1, s.deep, (nx rs s).bad || escBad (pk rs s)⟩

/-- The part's end. -/
def ptL (rs : List Int) (s : PS) : List (Int × Int) := if pk rs s = 92 then escL rs (nx rs s) else [(pk rs s, pk rs s)]
def ptB (rs : List Int) (s : PS) : Bool := if pk rs s = 92 then escB rs (nx rs s) else true
def ptS (rs : List Int) (s : PS) : PS := if pk rs s = 92 then escS rs (nx rs s) else ⟨s.pos + 1, s.deep, (nx rs s).bad || amg npL (pk rs s)⟩

end Go.Proofs.Ytinogeobkljngaa
end
section
namespace Go.Proofs.Ytinogeobkljngaa
open Go.RowKit
set_option linter.unusedVariables false
set_option linter.unusedSimpArgs false
set_option maxRecDepth 100000

def lo1 (l : List (Int × Int)) : Int := (l.head?.getD (0, 0)).1
def pS2 (rs : List Int) (s : PS) : PS := tk rs 45 (ptS rs s)
def parC (rs : List Int) (s : PS) : Bool := ptB rs s && tkB rs 45 (ptS rs s)
def parBd (rs : List Int) (s : PS) : Bool := (ptS rs (pS2 rs s)).bad || (!ptB rs (pS2 rs s) || decide (lo1 (ptL rs (pS2 rs s)) < lo1 (ptL rs s)))
/-- One part of a class: a point, or two with a sign between. -/
def parS (rs : List Int) (s : PS) : PS := if parC rs s then ⟨(ptS rs (pS2 rs s)).pos, (ptS rs (pS2 rs s)).deep, parBd rs s⟩ else ptS rs s
def parL (rs : List Int) (s : PS) : List (Int × Int) := if parC rs s && !parBd rs s then [(lo1 (ptL rs s), lo1 (ptL rs (pS2 rs s)))] else ptL rs s
def clsGo (rs : List Int) : Nat → Bool → PS → List (Int × Int) → List (Int × Int) × PS
  | 0, _, s, l => (l, s)
  | n + 1, f, s, l => if f = false ∧ (s.bad = true ∨ pk rs s = 93) then (l, tk rs 93 s) else clsGo rs n false (parS rs s) (l ++ parL rs s)
noncomputable def ofL (l : List (Int × Int)) : List (Int × Int) := by
  classical exact if h : ∃ out, IsOf l out then Classical.choose h else []
noncomputable def notL (l : List (Int × Int)) : List (Int × Int) := by
  classical exact if h : ∃ out, IsNot l out then Classical.choose h else []
theorem ofL_of {l out : List (Int × Int)} (h : IsOf l out) : ofL l = out := by
  unfold ofL
  have hh : ∃ out, IsOf l out := ⟨out, h⟩
  rw [dif_pos hh]
  exact (Classical.choose_spec hh).unique h
theorem notL_of {l out : List (Int × Int)} (h : IsNot l out) : notL l = out := by
  unfold notL
  have hh : ∃ out, IsNot l out := ⟨out, h⟩
  rw [dif_pos hh]
  have h2 := Classical.choose_spec hh
  exact norm_unique _ _ h2.1 h.1 fun r => by rw [h2.2, h.2]
/-- A class, behind its opening sign. -/
def clsR (rs : List Int) (s : PS) : List (Int × Int) × PS := clsGo rs (rs.length + 9) true (tk rs 94 s) []
noncomputable def clsL (rs : List Int) (s : PS) : List (Int × Int) := if tkB rs 94 s then notL (clsR rs s).1 else ofL (clsR rs s).1

theorem tk_pos (rs : List Int) (r : Int) (s : PS) (hr : 0 ≤ r) : s.pos ≤ (tk rs r s).pos ∧ (tk rs r s).pos ≤ s.pos + 1 ∧ (tk rs r s).bad = s.bad ∧ (tk rs r s).deep = s.deep := by
  unfold tk; split <;> simp
theorem nx_bad {rs : List Int} {s : PS} (h : (nx rs s).bad = false) : s.pos + 1 ≤ rs.length ∧ s.bad = false ∧ 0 ≤ pk rs s := by
  unfold nx at h
  simp only [Bool.or_eq_false_iff, decide_eq_false_iff_not] at h
  have := pk_room (rs := rs) (s := s) (by omega)
  exact ⟨by omega, h.1, by omega⟩
theorem escS_pos (rs : List Int) (s : PS) : (escS rs s).pos = s.pos + 1 ∧ (escS rs s).deep = s.deep := by unfold escS; split <;> exact ⟨rfl, rfl⟩
theorem escS_bad {rs : List Int} {s : PS} (h : (escS rs s).bad = false) : (nx rs s).bad = false := by
  unfold escS at h
  split at h
  · exact h
  · simp only [Bool.or_eq_false_iff] at h; exact h.1
theorem ptS_pos (rs : List Int) (s : PS) : s.pos + 1 ≤ (ptS rs s).pos ∧ (ptS rs s).pos ≤ s.pos + 2 ∧ (ptS rs s).deep = s.deep := by
  unfold ptS
  split
  · have := escS_pos rs (nx rs s)
    have e : (nx rs s).pos = s.pos + 1 := rfl
    have e2 : (nx rs s).deep = s.deep := rfl
    rw [this.1, this.2, e, e2]; omega
  · simp
theorem ptS_bad {rs : List Int} {s : PS} (h : (ptS rs s).bad = false) : (ptS rs s).pos ≤ rs.length ∧ s.bad = false := by
  unfold ptS at h ⊢
  split at h
  · rename_i h92
    rw [if_pos h92]
    have h1 := nx_bad (escS_bad h)
    have h2 := nx_bad (rs := rs) (s := s) (by exact h1.2.1)
    exact ⟨by rw [(escS_pos rs _).1]; exact h1.1, h2.2.1⟩
  · rename_i h92
    rw [if_neg h92]
    simp only [Bool.or_eq_false_iff] at h
    have h2 := nx_bad h.1
    exact ⟨h2.1, h2.2.1⟩
theorem parS_pos (rs : List Int) (s : PS) : s.pos + 1 ≤ (parS rs s).pos ∧ (parS rs s).pos ≤ s.pos + 5 ∧ (parS rs s).deep = s.deep := by
  have h1 := ptS_pos rs s
  have h2 := tk_pos rs 45 (ptS rs s) (by omega)
  have h3 := ptS_pos rs (pS2 rs s)
  unfold parS
  split
  · have e : (pS2 rs s).pos = (tk rs 45 (ptS rs s)).pos := rfl
    have e2 : (pS2 rs s).deep = (tk rs 45 (ptS rs s)).deep := rfl
    simp only
    rw [h3.2.2, e2, h2.2.2.2]
    omega
  · omega
theorem parS_bad {rs : List Int} {s : PS} (h : (parS rs s).bad = false) : (parS rs s).pos ≤ rs.length ∧ s.bad = false := by
  unfold parS at h ⊢
  split at h
  · rename_i hc
    rw [if_pos hc]
    simp only [parBd, Bool.or_eq_false_iff] at h
    have h1 := ptS_bad h.1
    refine ⟨h1.1, ?_⟩
    have h2 : (pS2 rs s).bad = (ptS rs s).bad := (tk_pos rs 45 (ptS rs s) (by omega)).2.2.1
    rw [h2] at h1
    exact (ptS_bad h1.2).2
  · rename_i hc
    rw [if_neg hc]
    exact ptS_bad h
theorem namedL_len (r : Int) : 1 ≤ (namedL r).length ∧ (namedL r).length ≤ 5 ∧ ∀ p ∈ namedL r, -1 ≤ p.1 ∧ p.1 ≤ 1114111 ∧ -1 ≤ p.2 ∧ p.2 ≤ 1114111 := by
  unfold namedL
  repeat' split
  all_goals (refine ⟨by simp, by simp, ?_⟩; intro p hp; simp at hp; rcases hp with rfl | rfl | rfl | rfl | rfl <;> simp)

def okP (l : List (Int × Int)) : Prop := ∀ p ∈ l, -1 ≤ p.1 ∧ p.1 ≤ 1114111 ∧ -1 ≤ p.2 ∧ p.2 ≤ 1114111
theorem pk_rng {rs : List Int} (hr : ∀ r ∈ rs, 0 ≤ r ∧ r ≤ 1114111) (s : PS) : -1 ≤ pk rs s ∧ pk rs s ≤ 1114111 := by
  unfold pk
  split
  · omega
  · rw [List.getD_eq_getElem?_getD]
    cases hh : rs[s.pos]? with
    | none => simp
    | some r => have := hr r (List.mem_of_getElem? hh); simp; omega
theorem escR_rng {r : Int} (h : -1 ≤ r ∧ r ≤ 1114111) : -1 ≤ escR r ∧ escR r ≤ 1114111 := by unfold escR; repeat' split <;> omega
theorem escL_len {rs : List Int} (hr : ∀ r ∈ rs, 0 ≤ r ∧ r ≤ 1114111) (s : PS) : 1 ≤ (escL rs s).length ∧ (escL rs s).length ≤ 5 ∧ okP (escL rs s) := by
  unfold escL
  split
  · exact namedL_len _
  · refine ⟨by simp, by simp, fun p hp => ?_⟩
    simp only [List.mem_singleton] at hp; subst hp
    have := escR_rng (pk_rng hr s)
    exact ⟨this.1, this.2, this.1, this.2⟩
theorem ptL_len {rs : List Int} (hr : ∀ r ∈ rs, 0 ≤ r ∧ r ≤ 1114111) (s : PS) : 1 ≤ (ptL rs s).length ∧ (ptL rs s).length ≤ 5 ∧ okP (ptL rs s) := by
  unfold ptL
  split
  · exact escL_len hr _
  · refine ⟨by simp, by simp, fun p hp => ?_⟩
    simp only [List.mem_singleton] at hp; subst hp
    have := pk_rng hr s
    exact ⟨this.1, this.2, this.1, this.2⟩
theorem ptL_one {rs : List Int} {s : PS} (h : ptB rs s = true) : ∃ r, ptL rs s = [(r, r)] := by
  unfold ptB at h
  unfold ptL
  split
  · rename_i h92
    rw [if_pos h92] at h
    unfold escB at h
    simp only [Bool.not_eq_true', decide_eq_false_iff_not] at h
    unfold escL
    rw [if_neg h]; exact ⟨_, rfl⟩
  · exact ⟨_, rfl⟩
theorem parL_len {rs : List Int} (hr : ∀ r ∈ rs, 0 ≤ r ∧ r ≤ 1114111) (s : PS) : (parL rs s).length ≤ 5 ∧ okP (parL rs s) := by
  unfold parL
  split
  · rename_i h
    refine ⟨by simp, fun p hp => ?_⟩
    simp only [List.mem_singleton] at hp; subst hp
    have h0 : ∀ s', -1 ≤ lo1 (ptL rs s') ∧ lo1 (ptL rs s') ≤ 1114111 := fun s' => by
      have h1 := ptL_len hr s'
      unfold lo1
      cases hl : ptL rs s' with
      | nil => simp
      | cons q t => have := h1.2.2 q (by rw [hl]; simp); simp; omega
    exact ⟨(h0 _).1, (h0 _).2, (h0 _).1, (h0 _).2⟩
  · exact ⟨(ptL_len hr s).2.1, (ptL_len hr s).2.2⟩

/-- What stands at the head of the class's loop. -/
structure ClsR (w : World) (pb : Nat) (rv : Value) (rs : List Int) (s0 : PS) (T : List (Int × Int) × PS) (av fv : Value) (wr : World) (f : Bool) (n : Nat) (s : PS) (l : List (Int × Int)) : Prop where
  ef : fv = .bool f
  own : wr.ownsRow w.heap.size 57 2 av l.length (cellsOf 2 encR l)
  pa : PaAt wr pb rv rs s
  k : Keeps (OnlyP pb) w wr
  go : clsGo rs n f s l = T
  n : s0.pos + rs.length + 8 ≤ s.pos + n
  len : l.length + 5 * s0.pos ≤ 5 * s.pos
  ok : okP l
  p1 : s.pos ≤ s0.pos + rs.length + 5
  p2 : s.bad = false ∨ f = true → s.pos ≤ s0.pos + rs.length
def posOf (w : World) (pb : Nat) : Nat := match w.cell? ⟨pb, 1, none⟩ with | some (.int _ n) => n.toNat | _ => 0
theorem posOf_eq {w : World} {pb : Nat} {rv : Value} {rs : List Int} {s : PS} (h : PaAt w pb rv rs s) : posOf w pb = s.pos := by
  unfold posOf; rw [h.c1]; simp
theorem ClsR.out {w : World} {pb : Nat} {rv : Value} {rs : List Int} {s0 : PS} {T : List (Int × Int) × PS} {av fv : Value} {wr : World} {n : Nat} {s : PS} {l : List (Int × Int)} (h : ClsR w pb rv rs s0 T av fv wr false n s l) (hx : s.bad = true ∨ pk rs s = 93) : T = (l, tk rs 93 s) := by
  have := h.go
  have hn := h.n
  have h1 := h.p1
  obtain ⟨m, rfl⟩ : ∃ m, n = m + 1 := ⟨n - 1, by omega⟩
  rw [clsGo, if_pos ⟨rfl, hx⟩] at this
  exact this.symm
def entB (rs : List Int) (f : Bool) (s : PS) : Prop := f = true ∨ (s.bad = false ∧ ¬ pk rs s = 93)
theorem ClsR.next {w : World} {pb : Nat} {rv : Value} {rs : List Int} {s0 : PS} {T : List (Int × Int) × PS} {av fv : Value} {wr : World} {n : Nat} {f : Bool} {s : PS} {l : List (Int × Int)} (h : ClsR w pb rv rs s0 T av fv wr f n s l) (hx : entB rs f s)
    (av' : Value) (w' : World) (ho : w'.ownsRow w.heap.size 57 2 av' (l ++ parL rs s).length (cellsOf 2 encR (l ++ parL rs s))) (hp : PaAt w' pb rv rs (parS rs s)) (hk : Keeps (OnlyP pb) w w') :
    ∃ n, ClsR w pb rv rs s0 T av' (.bool false) w' false n (parS rs s) (l ++ parL rs s) := by
  have hgo := h.go
  have hn := h.n
  have h1 := h.p1
  have hl := h.len
  have h2 : s.pos ≤ s0.pos + rs.length := h.p2 (by rcases (show f = true ∨ (s.bad = false ∧ ¬ pk rs s = 93) from hx) with h3 | h3; exact Or.inr h3; exact Or.inl h3.1)
  have h4 := parS_pos rs s
  have h5 := parL_len h.pa.rng s
  obtain ⟨m, rfl⟩ : ∃ m, n = m + 1 := ⟨n - 1, by omega⟩
  rw [clsGo, if_neg (by rcases (show f = true ∨ (s.bad = false ∧ ¬ pk rs s = 93) from hx) with h3 | h3; (rw [h3]; simp); (rw [h3.1]; simp; exact fun _ => h3.2))] at hgo
  refine ⟨m, rfl, ho, hp, hk, hgo, by omega, by simp; omega, ?_, by omega, fun hb => ?_⟩
  · intro p hp
    rcases List.mem_append.1 hp with h6 | h6
    · exact h.ok p h6
    · exact h5.2 p h6
  · rcases hb with hb | hb
    · have := (parS_bad hb).1; omega
    · cases hb

theorem cells_one (l : List (Int × Int)) : ∀ u ∈ cellsOf 2 encR l, u.oneCell' = true := by
  intro u hu
  obtain ⟨j, hj⟩ := List.getElem?_of_mem hu
  obtain ⟨x, _, rfl⟩ := cellsOf_inv 2 (by omega) encR l j u hj
  unfold encR; split <;> rfl
theorem own_cells {w : World} {base g : Nat} {T : TypeId} {n cap : Nat} {l : List (Int × Int)} (h : w.ownsRow base T 2 (.slice (some ⟨g, 0, none⟩) n cap) n (cellsOf 2 encR l)) (hn : l.length = n) :
    ∀ j u, (cellsOf 2 encR l)[j]? = some u → w.cell? ((⟨g, 0, none⟩ : Addr).add j) = some u := by
  intro j u hj
  have hlt : j < (cellsOf 2 encR l).length := (List.getElem?_eq_some_iff.1 hj).1
  rw [cellsOf_length, hn] at hlt
  have := h.cellAt j hlt
  rw [hj] at this
  have e : (⟨g, 0, none⟩ : Addr).add j = ⟨g, j, none⟩ := by unfold Addr.add; split <;> simp_all
  rw [e]; exact this
theorem ptL_open {w : World} {base : Nat} {T : TypeId} {u : Value} {n : Nat} {l : List (Int × Int)} (h : w.ownsRow base T 2 u n (cellsOf 2 encR l)) (hn : 0 < n) : ∃ g cap, u = .slice (some ⟨g, 0, none⟩) n cap ∧ base ≤ g ∧ g < w.heap.size := by
  obtain ⟨g, cap, rfl, h1, h2⟩ := ownsRow_some h hn
  exact ⟨g, cap, rfl, h1, h2⟩
end Go.Proofs.Ytinogeobkljngaa
end
section
namespace Go.Proofs.Ytinogeobkljngaa
open Go.RowKit
set_option linter.unusedVariables false
set_option linter.unusedSimpArgs false
set_option maxRecDepth 100000

/-! ### The parser's functions on trees -/
noncomputable def atomP (alts : PS → T × PS) (rs : List Int) (s : PS) : T × PS :=
  if pk rs s = 40 then
    ((alts ⟨s.pos + 1, s.deep + 1, (nx rs s).bad || decide (10 < s.deep + 1)⟩).1,
      ⟨(wt rs 41 (alts ⟨s.pos + 1, s.deep + 1, (nx rs s).bad || decide (10 < s.deep + 1)⟩).2).pos, (wt rs 41 (alts ⟨s.pos + 1, s.deep + 1, (nx rs s).bad || decide (10 < s.deep + 1)⟩).2).deep - 1, (wt rs 41 (alts ⟨s.pos + 1, s.deep + 1, (nx rs s).bad || decide (10 < s.deep + 1)⟩).2).bad⟩)
  else if pk rs s = 94 then (⟨2, [], 0, 0, .nil⟩, nx rs s)
  else if pk rs s = 36 then (⟨3, [], 0, 0, .nil⟩, nx rs s)
  else if pk rs s = 46 then (charT [(0, 9), (11, 1114111)], nx rs s)
  else if pk rs s = 91 then (charT (clsL rs (nx rs s)), (clsR rs (nx rs s)).2)
  else if pk rs s = 92 then (charT (escL rs (nx rs s)), escS rs (nx rs s))
  else (charT [(pk rs s, pk rs s)], ⟨s.pos + 1, s.deep, (nx rs s).bad || amg sgL (pk rs s)⟩)
noncomputable def countedP (alts : PS → T × PS) (rs : List Int) (s : PS) : T × PS :=
  if (cntV rs (atomP alts rs s).2).2.2 then
    (⟨6, [], (cntV rs (atomP alts rs s).2).1, (cntV rs (atomP alts rs s).2).2.1, F.ofL [(atomP alts rs s).1]⟩,
      ⟨(cntS rs (atomP alts rs s).2).pos, (cntS rs (atomP alts rs s).2).deep, (cntS rs (atomP alts rs s).2).bad || (decide (pk rs s = 94) || decide (pk rs s = 36))⟩)
  else ((atomP alts rs s).1, cntS rs (atomP alts rs s).2)
/-- Does a piece stand here? -/
def isPc (r : Int) : Bool := decide (0 ≤ r) && (!decide (r = 124) && !decide (r = 41))
noncomputable def pcsGo (alts : PS → T × PS) (rs : List Int) : Nat → PS → List T → List T × PS
  | 0, s, l => (l, s)
  | n + 1, s, l => if isPc (pk rs s) then pcsGo alts rs n (countedP alts rs s).2 (l ++ [(countedP alts rs s).1]) else (l, s)
noncomputable def pcsR (alts : PS → T × PS) (rs : List Int) (s : PS) : List T × PS := pcsGo alts rs (rs.length + 9) s []
noncomputable def piecesP (alts : PS → T × PS) (rs : List Int) (s : PS) : T × PS := (joinT 4 (pcsR alts rs s).1, (pcsR alts rs s).2)
noncomputable def altGo (alts : PS → T × PS) (rs : List Int) : Nat → PS → List T → List T × PS
  | 0, s, l => (l, s)
  | n + 1, s, l => if pk rs s = 124 then altGo alts rs n (piecesP alts rs (tk rs 124 s)).2 (l ++ [(piecesP alts rs (tk rs 124 s)).1]) else (l, s)
noncomputable def altR (alts : PS → T × PS) (rs : List Int) (s : PS) : List T × PS := altGo alts rs (rs.length + 9) (piecesP alts rs s).2 [(piecesP alts rs s).1]
noncomputable def altsP (alts : PS → T × PS) (rs : List Int) (s : PS) : T × PS := (joinT 5 (altR alts rs s).1, (altR alts rs s).2)
noncomputable def alts (rs : List Int) : Nat → PS → T × PS
  | 0 => altsP (fun s => (zeroT, s)) rs
  | n + 1 => altsP (alts rs n) rs

/-! ### Where they end -/
/-- The place is within the text, or it has failed not far behind its end. -/
structure Inv (rs : List Int) (s : PS) : Prop where
  a : s.pos ≤ rs.length + 20
  b : s.bad = false → s.pos ≤ rs.length
/-- From s to s'. -/
structure Go1 (rs : List Int) (s s' : PS) : Prop where
  pos : s.pos ≤ s'.pos
  deep : s'.deep = s.deep
  bad : s.bad = true → s'.bad = true
  inv : Inv rs s → Inv rs s'
theorem Go1.refl (rs : List Int) (s : PS) : Go1 rs s s := ⟨Nat.le_refl _, rfl, id, id⟩
theorem Go1.trans {rs : List Int} {a b c : PS} (h : Go1 rs a b) (k : Go1 rs b c) : Go1 rs a c := ⟨Nat.le_trans h.pos k.pos, k.deep.trans h.deep, fun x => k.bad (h.bad x), fun x => k.inv (h.inv x)⟩
theorem tk_go (rs : List Int) (r : Int) (s : PS) (hr : 0 ≤ r) : Go1 rs s (tk rs r s) := by
  unfold tk
  split
  · rename_i h
    have := pk_room (rs := rs) (s := s) (by omega)
    exact ⟨by simp, rfl, fun h => h, fun hi => ⟨by simp; omega, fun _ => by simp; omega⟩⟩
  · exact Go1.refl _ _
theorem wt_go (rs : List Int) (r : Int) (s : PS) (hr : 0 ≤ r) : Go1 rs s (wt rs r s) := by
  unfold wt
  split
  · rename_i h
    have := pk_room (rs := rs) (s := s) (by omega)
    exact ⟨by simp, rfl, fun h => h, fun hi => ⟨by simp; omega, fun _ => by simp; omega⟩⟩
  · exact ⟨Nat.le_refl _, rfl, fun _ => rfl, fun hi => ⟨hi.a, fun h => by cases h⟩⟩
theorem numS_go (rs : List Int) (s : PS) : Go1 rs s (numS rs s) := by
  unfold numS
  split
  · rename_i h
    have h0 : 0 ≤ pk rs s := by simp [dig] at h; omega
    have := pk_room h0
    split
    · rename_i h2
      have h3 : 0 ≤ pk rs ⟨s.pos + 1, s.deep, s.bad⟩ := by simp [dig] at h2; omega
      have h4 := (pk_room h3).1
      simp only at h4
      exact ⟨by simp, rfl, fun h => by simp [h], fun hi => ⟨by simp; omega, fun _ => by simp; omega⟩⟩
    · exact ⟨by simp, rfl, fun h => h, fun hi => ⟨by simp; omega, fun _ => by simp; omega⟩⟩
  · exact ⟨Nat.le_refl _, rfl, fun _ => rfl, fun hi => ⟨hi.a, fun h => by cases h⟩⟩
theorem or_go (rs : List Int) (s : PS) (x : Bool) : Go1 rs s ⟨s.pos, s.deep, s.bad || x⟩ :=
  ⟨Nat.le_refl _, rfl, fun h => by simp [h], fun hi => ⟨hi.a, fun h => by simp at h; exact hi.b h.1⟩⟩
theorem one_go {rs : List Int} {s : PS} (h0 : 0 ≤ pk rs s) : Go1 rs s ⟨s.pos + 1, s.deep, s.bad⟩ := by
  have := pk_room h0
  exact ⟨by simp, rfl, fun h => h, fun hi => ⟨by simp; omega, fun _ => by simp; omega⟩⟩
theorem brS_go (rs : List Int) (s : PS) : Go1 rs s (brS rs s) := by
  unfold brS
  have h1 := numS_go rs s
  split
  · rename_i h
    have h2 : Go1 rs (numS rs s) (br3 rs s) := one_go (by omega)
    split
    · exact (h1.trans h2).trans (wt_go _ _ _ (by omega))
    · have h3 := numS_go rs (br3 rs s)
      exact (((h1.trans h2).trans h3).trans (or_go _ _ _)).trans (wt_go _ _ _ (by omega))
  · exact h1.trans (wt_go _ _ _ (by omega))
theorem cntS_go (rs : List Int) (s : PS) : Go1 rs s (cntS rs s) := by
  unfold cntS
  split
  · rename_i h; exact one_go (by omega)
  · split
    · rename_i h; exact (one_go (by omega)).trans (brS_go _ _)
    · exact Go1.refl _ _
theorem nx_ok {rs : List Int} {s : PS} (h : 0 ≤ pk rs s) : nx rs s = ⟨s.pos + 1, s.deep, s.bad⟩ := by
  unfold nx
  rw [show decide (pk rs s < 0) = false by simp; omega]
  simp
theorem clsGo_go (rs : List Int) : ∀ n f s l, (f = true → s.bad = false) → Inv rs s → s.pos ≤ (clsGo rs n f s l).2.pos ∧ (clsGo rs n f s l).2.deep = s.deep ∧ Inv rs (clsGo rs n f s l).2 := by
  intro n
  induction n with
  | zero => intro f s l _ hi; exact ⟨Nat.le_refl _, rfl, hi⟩
  | succ n ih =>
    intro f s l hf hi
    unfold clsGo
    split
    · have := tk_go rs 93 s (by omega)
      exact ⟨this.pos, this.deep, this.inv hi⟩
    · rename_i hc
      have hb : s.bad = false := by
        cases f with
        | true => exact hf rfl
        | false =>
          cases hs : s.bad with
          | false => rfl
          | true => exact absurd ⟨rfl, Or.inl hs⟩ hc
      have h1 := parS_pos rs s
      have h2 := hi.b hb
      have h3 := ih false (parS rs s) (l ++ parL rs s) (fun h => by cases h) ⟨by omega, fun hb => (parS_bad hb).1⟩
      exact ⟨by omega, h3.2.1.trans h1.2.2, h3.2.2⟩
theorem clsR_go {rs : List Int} {s : PS} (hb : s.bad = false) (hi : Inv rs s) : s.pos ≤ (clsR rs s).2.pos ∧ (clsR rs s).2.deep = s.deep ∧ Inv rs (clsR rs s).2 := by
  unfold clsR
  have h1 := tk_go rs 94 s (by omega)
  have h2 := clsGo_go rs (rs.length + 9) true (tk rs 94 s) [] (fun _ => by rw [(tk_pos rs 94 s (by omega)).2.2.1]; exact hb) (h1.inv hi)
  exact ⟨Nat.le_trans h1.pos h2.1, h2.2.1.trans h1.deep, h2.2.2⟩
theorem atomP_go {alts : PS → T × PS} {rs : List Int} (ha : ∀ s, Go1 rs s (alts s).2) {s : PS} (h : 0 ≤ pk rs s) : s.pos + 1 ≤ (atomP alts rs s).2.pos ∧ (atomP alts rs s).2.deep = s.deep ∧ Inv rs (atomP alts rs s).2 := by
  have hr := pk_room h
  have hn := nx_ok h
  have hi : Inv rs (nx rs s) := by rw [hn]; exact ⟨by simp; omega, fun _ => by simp; omega⟩
  have hnb : (nx rs s).bad = false := by rw [hn]; exact hr.2
  have hnp : (nx rs s).pos = s.pos + 1 := by rw [hn]
  have hnd : (nx rs s).deep = s.deep := by rw [hn]
  unfold atomP
  split
  · have h1 := ha ⟨s.pos + 1, s.deep + 1, (nx rs s).bad || decide (10 < s.deep + 1)⟩
    have h2 := wt_go rs 41 (alts ⟨s.pos + 1, s.deep + 1, (nx rs s).bad || decide (10 < s.deep + 1)⟩).2 (by omega)
    have h3 := h1.trans h2
    have h4 : Inv rs ⟨s.pos + 1, s.deep + 1, (nx rs s).bad || decide (10 < s.deep + 1)⟩ := ⟨by simp; omega, fun _ => by simp; omega⟩
    have h5 := h3.inv h4
    exact ⟨h3.pos, by simp only; rw [h3.deep]; simp, h5.a, h5.b⟩
  split
  · exact ⟨by rw [hnp]; exact Nat.le_refl _, hnd, hi⟩
  split
  · exact ⟨by rw [hnp]; exact Nat.le_refl _, hnd, hi⟩
  split
  · exact ⟨by rw [hnp]; exact Nat.le_refl _, hnd, hi⟩
  split
  · have := clsR_go hnb hi
    exact ⟨by rw [hnp] at this; exact this.1, this.2.1.trans hnd, this.2.2⟩
  split
  · have := escS_pos rs (nx rs s)
    refine ⟨by simp only; rw [this.1, hnp]; omega, this.2.trans hnd, by simp only; rw [this.1, hnp]; omega, fun hb => ?_⟩
    have hb := nx_bad (escS_bad hb)
    simp only; rw [this.1]; exact hb.1
  · exact ⟨by simp, rfl, by simp; omega, fun _ => by simp; omega⟩
theorem countedP_go {alts : PS → T × PS} {rs : List Int} (ha : ∀ s, Go1 rs s (alts s).2) {s : PS} (h : 0 ≤ pk rs s) : s.pos + 1 ≤ (countedP alts rs s).2.pos ∧ (countedP alts rs s).2.deep = s.deep ∧ Inv rs (countedP alts rs s).2 := by
  have h1 := atomP_go ha h
  have h2 := cntS_go rs (atomP alts rs s).2
  unfold countedP
  split
  · have h3 := h2.trans (or_go rs _ (decide (pk rs s = 94) || decide (pk rs s = 36)))
    exact ⟨Nat.le_trans h1.1 h3.pos, h3.deep.trans h1.2.1, h3.inv h1.2.2⟩
  · exact ⟨Nat.le_trans h1.1 h2.pos, h2.deep.trans h1.2.1, h2.inv h1.2.2⟩
theorem counted_go1 {alts : PS → T × PS} {rs : List Int} (ha : ∀ s, Go1 rs s (alts s).2) {s : PS} (h : 0 ≤ pk rs s) : Go1 rs s (countedP alts rs s).2 := by
  have h1 := countedP_go ha h
  exact ⟨by omega, h1.2.1, fun hb => (by rw [(pk_room h).2] at hb; cases hb), fun _ => h1.2.2⟩
theorem isPc_pos {r : Int} (h : isPc r = true) : 0 ≤ r := by simp [isPc] at h; exact h.1
theorem pcsGo_go {alts : PS → T × PS} {rs : List Int} (ha : ∀ s, Go1 rs s (alts s).2) : ∀ n s l, Go1 rs s (pcsGo alts rs n s l).2 := by
  intro n
  induction n with
  | zero => intro s l; exact Go1.refl _ _
  | succ n ih =>
    intro s l
    unfold pcsGo
    split
    · rename_i h
      exact (counted_go1 ha (isPc_pos h)).trans (ih _ _)
    · exact Go1.refl _ _
theorem piecesP_go {alts : PS → T × PS} {rs : List Int} (ha : ∀ s, Go1 rs s (alts s).2) (s : PS) : Go1 rs s (piecesP alts rs s).2 := pcsGo_go ha _ _ _
theorem altGo_go {alts : PS → T × PS} {rs : List Int} (ha : ∀ s, Go1 rs s (alts s).2) : ∀ n s l, Go1 rs s (altGo alts rs n s l).2 := by
  intro n
  induction n with
  | zero => intro s l; exact Go1.refl _ _
  | succ n ih =>
    intro s l
    unfold altGo
    split
    · exact ((tk_go rs 124 s (by omega)).trans (piecesP_go ha _)).trans (ih _ _)
    · exact Go1.refl _ _
theorem altsP_go {alts : PS → T × PS} {rs : List Int} (ha : ∀ s, Go1 rs s (alts s).2) (s : PS) : Go1 rs s (altsP alts rs s).2 := (piecesP_go ha s).trans (altGo_go ha _ _ _)
theorem alts_go (rs : List Int) : ∀ n s, Go1 rs s (alts rs n s).2 := by
  intro n
  induction n with
  | zero => exact fun s => altsP_go (fun s => Go1.refl _ _) s
  | succ n ih => exact fun s => altsP_go ih s
end Go.Proofs.Ytinogeobkljngaa
end
