/-
  The parser's class.
-/
import Derived.Test.YtapmdhejgnplaaaGreatMg10
import Derived.Deep.CutBlock
import Derived.Deep.CutRange
import Derived.BigRegion
namespace Go.Proofs.YtapmdhejgnplaaaGreat
open Go.RowKit Go.Proofs.Tryz
set_option linter.unusedVariables false
set_option linter.unusedSimpArgs false
set_option maxRecDepth 100000
set_option maxHeartbeats 4000000
def lo1 (l : LI) : Int := (l.head?.getD (0, 0)).1
def pS2 (rs : List Int) (s : PS) : PS := tk rs 45 (ptS rs s)
def parC (rs : List Int) (s : PS) : Bool := ptB rs s && tkB rs 45 (ptS rs s)
def xbR (rs : List Int) (s : PS) : Bool := (ptS rs (pS2 rs s)).bad || (!ptB rs (pS2 rs s) || decide (lo1 (ptL rs (pS2 rs s)) < lo1 (ptL rs s)))
def parS (rs : List Int) (s : PS) : PS := if parC rs s then ⟨(ptS rs (pS2 rs s)).pos, (ptS rs (pS2 rs s)).deep, xbR rs s⟩ else ptS rs s
def parL (rs : List Int) (s : PS) : LI := if parC rs s && !xbR rs s then [(lo1 (ptL rs s), lo1 (ptL rs (pS2 rs s)))] else ptL rs s
def xb2 (rs : List Int) : Nat -> Bool -> PS -> LI -> LI × PS
 | 0, _, s, l => (l, s)
 | n + 1, f, s, l => if f = false /\ (s.bad = true \/ pk rs s = 93) then (l, tk rs 93 s) else xb2 rs n false (parS rs s) (l ++ parL rs s)
noncomputable def ofL (l : LI) : LI := by
 classical exact if h : ∃ out, IsOf l out then Classical.choose h else []
noncomputable def notL (l : LI) : LI := by
 classical exact if h : ∃ out, xe8 l out then Classical.choose h else []
theorem xfw {l out : LI} (h : IsOf l out) : ofL l = out := by
 unfold ofL
 have hh : ∃ out, IsOf l out := ⟨out, h⟩
 rw [dif_pos hh]
 exact (Classical.choose_spec hh).unique h
theorem xeK {l out : LI} (h : xe8 l out) : notL l = out := by
 unfold notL
 have hh : ∃ out, xe8 l out := ⟨out, h⟩
 rw [dif_pos hh]
 have h2 := Classical.choose_spec hh
 exact xa3 _ _ h2.1 h.1 fun r => by rw [h2.2, h.2]
def clsR (rs : List Int) (s : PS) : LI × PS := xb2 rs (rs.length + 9) true (tk rs 94 s) []
noncomputable def clsL (rs : List Int) (s : PS) : LI := if tkB rs 94 s then notL (clsR rs s).1 else ofL (clsR rs s).1
theorem xfh (rs : List Int) (r : Int) (s : PS) (hr : 0 <= r) : s.pos <= (tk rs r s).pos /\ (tk rs r s).pos <= s.pos + 1 /\ (tk rs r s).bad = s.bad /\ (tk rs r s).deep = s.deep := by
 unfold tk; split <;> simp
theorem xiM {rs : List Int} {s : PS} (h : (nx rs s).bad = false) : s.pos + 1 <= rs.length /\ s.bad = false /\ 0 <= pk rs s := by
 unfold nx at h
 simp only [Bool.or_eq_false_iff, decide_eq_false_iff_not] at h
 have := xaK (rs := rs) (s := s) (by omega)
 exact ⟨by omega, h.1, by omega⟩
theorem xef (rs : List Int) (s : PS) : (escS rs s).pos = s.pos + 1 /\ (escS rs s).deep = s.deep := by unfold escS; split <;> exact ⟨rfl, rfl⟩
theorem xi5 {rs : List Int} {s : PS} (h : (escS rs s).bad = false) : (nx rs s).bad = false := by
 unfold escS at h
 split at h
 · exact h
 simp only [Bool.or_eq_false_iff] at h; exact h.1
theorem xdJ (rs : List Int) (s : PS) : s.pos + 1 <= (ptS rs s).pos /\ (ptS rs s).pos <= s.pos + 2 /\ (ptS rs s).deep = s.deep := by
 unfold ptS
 split
 · have := xef rs (nx rs s)
   have e : (nx rs s).pos = s.pos + 1 := rfl
   have e2 : (nx rs s).deep = s.deep := rfl
   rw [this.1, this.2, e, e2]; omega
 simp
theorem xhL {rs : List Int} {s : PS} (h : (ptS rs s).bad = false) : (ptS rs s).pos <= rs.length /\ s.bad = false := by
 unfold ptS at h ⊢
 split at h
 · rename_i h92
   rw [if_pos h92]
   have h1 := xiM (xi5 h)
   have h2 := xiM (rs := rs) (s := s) (by exact h1.2.1)
   exact ⟨by rw [(xef rs _).1]; exact h1.1, h2.2.1⟩
 rename_i h92
 rw [if_neg h92]
 simp only [Bool.or_eq_false_iff] at h
 have h2 := xiM h.1
 exact ⟨h2.1, h2.2.1⟩
theorem xa2 (rs : List Int) (s : PS) : s.pos + 1 <= (parS rs s).pos /\ (parS rs s).pos <= s.pos + 5 /\ (parS rs s).deep = s.deep := by
 have h1 := xdJ rs s
 have h2 := xfh rs 45 (ptS rs s) (by omega)
 have h3 := xdJ rs (pS2 rs s)
 unfold parS
 split
 · have e : (pS2 rs s).pos = (tk rs 45 (ptS rs s)).pos := rfl
   have e2 : (pS2 rs s).deep = (tk rs 45 (ptS rs s)).deep := rfl
   simp only
   rw [h3.2.2, e2, h2.2.2.2]
   omega
 omega
theorem xiE {rs : List Int} {s : PS} (h : (parS rs s).bad = false) : (parS rs s).pos <= rs.length /\ s.bad = false := by
 unfold parS at h ⊢
 split at h
 · rename_i hc
   rw [if_pos hc]
   simp only [xbR, Bool.or_eq_false_iff] at h
   have h1 := xhL h.1
   refine ⟨h1.1, ?_⟩
   have h2 : (pS2 rs s).bad = (ptS rs s).bad := (xfh rs 45 (ptS rs s) (by omega)).2.2.1
   rw [h2] at h1
   exact (xhL h1.2).2
 rename_i hc
 rw [if_neg hc]
 exact xhL h
theorem xj0 (r : Int) : 1 <= (xav r).length /\ (xav r).length <= 5 /\ ∀ p ∈ xav r, -1 <= p.1 /\ p.1 <= 1114111 /\ -1 <= p.2 /\ p.2 <= 1114111 := by
 unfold xav
 repeat' split
 all_goals (refine ⟨by simp, by simp, ?_⟩; intro p hp; simp at hp; rcases hp with rfl | rfl | rfl | rfl | rfl <;> simp)
def okP (l : LI) : Prop := ∀ p ∈ l, -1 <= p.1 /\ p.1 <= 1114111 /\ -1 <= p.2 /\ p.2 <= 1114111
theorem xoj {rs : List Int} (hr : ∀ r ∈ rs, 0 <= r /\ r <= 1114111) (s : PS) : -1 <= pk rs s /\ pk rs s <= 1114111 := by
 unfold pk
 split
 · omega
 rw [List.getD_eq_getElem?_getD]
 cases hh : rs[s.pos]? with
 | none => simp
 | some r => have := hr r (List.mem_of_getElem? hh); simp; omega
theorem xnK {r : Int} (h : -1 <= r /\ r <= 1114111) : -1 <= escR r /\ escR r <= 1114111 := by unfold escR; repeat' split <;> omega
theorem xgb {rs : List Int} (hr : ∀ r ∈ rs, 0 <= r /\ r <= 1114111) (s : PS) : 1 <= (escL rs s).length /\ (escL rs s).length <= 5 /\ okP (escL rs s) := by
 unfold escL
 split
 · exact xj0 _
 refine ⟨by simp, by simp, fun p hp => ?_⟩
 simp only [List.mem_singleton] at hp; subst hp
 have := xnK (xoj hr s)
 exact ⟨this.1, this.2, this.1, this.2⟩
theorem xcZ {rs : List Int} (hr : ∀ r ∈ rs, 0 <= r /\ r <= 1114111) (s : PS) : 1 <= (ptL rs s).length /\ (ptL rs s).length <= 5 /\ okP (ptL rs s) := by
 unfold ptL
 split
 · exact xgb hr _
 refine ⟨by simp, by simp, fun p hp => ?_⟩
 simp only [List.mem_singleton] at hp; subst hp
 have := xoj hr s
 exact ⟨this.1, this.2, this.1, this.2⟩
theorem xf5 {rs : List Int} {s : PS} (h : ptB rs s = true) : ∃ r, ptL rs s = [(r, r)] := by
 unfold ptB at h
 unfold ptL
 split
 · rename_i h92
   rw [if_pos h92] at h
   unfold escB at h
   simp only [Bool.not_eq_true', decide_eq_false_iff_not] at h
   unfold escL
   rw [if_neg h]; exact ⟨_, rfl⟩
 exact ⟨_, rfl⟩
theorem xiF {rs : List Int} (hr : ∀ r ∈ rs, 0 <= r /\ r <= 1114111) (s : PS) : (parL rs s).length <= 5 /\ okP (parL rs s) := by
 unfold parL
 split
 · rename_i h
   refine ⟨by simp, fun p hp => ?_⟩
   simp only [List.mem_singleton] at hp; subst hp
   have h0 : ∀ s', -1 <= lo1 (ptL rs s') /\ lo1 (ptL rs s') <= 1114111 := fun s' => by
    have h1 := xcZ hr s'
    unfold lo1
    cases hl : ptL rs s' with
    | nil => simp
    | cons q t => have := h1.2.2 q (by rw [hl]; simp); simp; omega
   exact ⟨(h0 _).1, (h0 _).2, (h0 _).1, (h0 _).2⟩
 exact ⟨(xcZ hr s).2.1, (xcZ hr s).2.2⟩
structure ClsR (w : World) (pb : Nat) (rv : Value) (rs : List Int) (s0 : PS) (T : LI × PS) (av fv : Value) (wr : World) (f : Bool) (n : Nat) (s : PS) (l : LI) : Prop where
 ef : fv = .bool f
 own : wr.ownsRow w.heap.size 180 2 av l.length (cellsOf 2 encR l)
 pa : PaAt wr pb rv rs s
 k : xaa (xam pb) w wr
 go : xb2 rs n f s l = T
 n : s0.pos + rs.length + 8 <= s.pos + n
 len : l.length + 5 * s0.pos <= 5 * s.pos
 ok : okP l
 p1 : s.pos <= s0.pos + rs.length + 5
 p2 : s.bad = false \/ f = true -> s.pos <= s0.pos + rs.length
def xle (w : World) (pb : Nat) : Nat := match w.cell? ⟨pb, 1, none⟩ with | some (.int _ n) => n.toNat | _ => 0
theorem xaT {w : World} {pb : Nat} {rv : Value} {rs : List Int} {s : PS} (h : PaAt w pb rv rs s) : xle w pb = s.pos := by
 unfold xle; rw [h.c1]; simp
theorem ClsR.out {w : World} {pb : Nat} {rv : Value} {rs : List Int} {s0 : PS} {T : LI × PS} {av fv : Value} {wr : World} {n : Nat} {s : PS} {l : LI} (h : ClsR w pb rv rs s0 T av fv wr false n s l) (hx : s.bad = true \/ pk rs s = 93) : T = (l, tk rs 93 s) := by
 have := h.go
 have hn := h.n
 have h1 := h.p1
 obtain ⟨m, rfl⟩ : ∃ m, n = m + 1 := ⟨n - 1, by omega⟩
 rw [xb2, if_pos ⟨rfl, hx⟩] at this
 exact this.symm
def entB (rs : List Int) (f : Bool) (s : PS) : Prop := f = true \/ (s.bad = false /\ ¬ pk rs s = 93)
theorem ClsR.next {w : World} {pb : Nat} {rv : Value} {rs : List Int} {s0 : PS} {T : LI × PS} {av fv : Value} {wr : World} {n : Nat} {f : Bool} {s : PS} {l : LI} (h : ClsR w pb rv rs s0 T av fv wr f n s l) (hx : entB rs f s)
 (av' : Value) (w' : World) (ho : w'.ownsRow w.heap.size 180 2 av' (l ++ parL rs s).length (cellsOf 2 encR (l ++ parL rs s))) (hp : PaAt w' pb rv rs (parS rs s)) (hk : xaa (xam pb) w w') :
 ∃ n, ClsR w pb rv rs s0 T av' (.bool false) w' false n (parS rs s) (l ++ parL rs s) := by
 have hgo := h.go
 have hn := h.n
 have h1 := h.p1
 have hl := h.len
 have h2 : s.pos <= s0.pos + rs.length := h.p2 (by rcases (show f = true \/ (s.bad = false /\ ¬ pk rs s = 93) from hx) with h3 | h3; exact Or.inr h3; exact Or.inl h3.1)
 have h4 := xa2 rs s
 have h5 := xiF h.pa.rng s
 obtain ⟨m, rfl⟩ : ∃ m, n = m + 1 := ⟨n - 1, by omega⟩
 rw [xb2, if_neg (by rcases (show f = true \/ (s.bad = false /\ ¬ pk rs s = 93) from hx) with h3 | h3; (rw [h3]; simp); (rw [h3.1]; simp; exact fun _ => h3.2))] at hgo
 refine ⟨m, rfl, ho, hp, hk, hgo, by omega, by simp; omega, ?_, by omega, fun hb => ?_⟩
 · intro p hp
   rcases List.mem_append.1 hp with h6 | h6
   · exact h.ok p h6
   exact h5.2 p h6
 rcases hb with hb | hb
 · have := (xiE hb).1; omega
 cases hb
theorem xaU (l : LI) : ∀ u ∈ cellsOf 2 encR l, u.oneCell' = true := by
 intro u hu
 obtain ⟨j, hj⟩ := List.getElem?_of_mem hu
 obtain ⟨x, _, rfl⟩ := xe2 2 (by omega) encR l j u hj
 unfold encR; split <;> rfl
theorem xaE {w : World} {base g : Nat} {T : TypeId} {n cap : Nat} {l : LI} (h : w.ownsRow base T 2 (.slice (some ⟨g, 0, none⟩) n cap) n (cellsOf 2 encR l)) (hn : l.length = n) :
 ∀ j u, (cellsOf 2 encR l)[j]? = some u -> w.cell? ((⟨g, 0, none⟩ : Addr).add j) = some u := by
 intro j u hj
 have hlt : j < (cellsOf 2 encR l).length := (List.getElem?_eq_some_iff.1 hj).1
 rw [xai, hn] at hlt
 have := h.cellAt j hlt
 rw [hj] at this
 have e : (⟨g, 0, none⟩ : Addr).add j = ⟨g, j, none⟩ := by unfold Addr.add; split <;> simp_all
 rw [e]; exact this
theorem xea {w : World} {base : Nat} {T : TypeId} {u : Value} {n : Nat} {l : LI} (h : w.ownsRow base T 2 u n (cellsOf 2 encR l)) (hn : 0 < n) : ∃ g cap, u = .slice (some ⟨g, 0, none⟩) n cap /\ base <= g /\ g < w.heap.size := by
 obtain ⟨g, cap, rfl, h1, h2⟩ := xbA h hn
 exact ⟨g, cap, rfl, h1, h2⟩
theorem xmc (w : World) (pb : Nat) (rv : Value) (rs : List Int) (s : PS) (h : PaAt w pb rv rs s) (hl : rs.length <= 10000) (hp : s.pos <= 10000) :
 Calls prog 134 #[.pointer (some ⟨pb, 0, none⟩)] w fun e w' => ∃ u, e = .returned u /\
  w'.ownsRow w.heap.size 180 2 u (clsL rs s).length (cellsOf 2 encR (clsL rs s)) /\ xaa (xam pb) w w' /\ PaAt w' pb rv rs (clsR rs s).2 /\ Norm (clsL rs s) := by
 have hpb := h.lt
 obtain ⟨i0, hi, hz0, hz1, hz2⟩ := info_parts xaO
 have HT := xa (xbU w pb rv rs s 94 h (by omega))
 have hps := xfh rs 94 s (by omega)
 have HRB := xa h.rb
 have HL : Hid (clsL rs s = if tkB rs 94 s then notL (clsR rs s).1 else ofL (clsR rs s).1) := xa rfl
 have HR : Hid (clsR rs s = xb2 rs (rs.length + 9) true (tk rs 94 s) []) := xa rfl
 generalize clsL rs s = L at *
 generalize clsR rs s = T at *
 generalize tk rs 94 s = s0 at *
 generalize tkB rs 94 s = q at *
 clear h
 go_enter func134, ntmps134
 go_wp2_with fail
 refine HT.out.mono ?_
 rintro e w1 ⟨rfl, h1, k1⟩
 have H1 := xa h1
 have K1 := xa k1
 clear h1 k1
 go_wp2_with fail
 go_loopw [4, 5] (fun av fv wr => ∃ f n s l, ClsR w pb rv rs s0 T av fv wr f n s l) (fun _ _ wr => s0.pos + rs.length + 6 - xle wr pb)
 case atStart => exact ⟨true, _, s0, [], rfl, World.ownsRow_nil _ _ _ _, H1.out, K1.out, HR.out.symm, by omega, by simp, (fun p hp => by cases hp), by omega, fun _ => by omega⟩
 case round =>
  obtain ⟨f, n, s', l, hC⟩ := hrel
  have HC := xa hC
  have hpo := xaT hC.pa
  have Hpo := xa hpo
  have hp1 := hC.p1
  have hln := hC.len
  have hp2 : s'.pos + 2 <= 1000000 := by omega
  obtain rfl := hC.ef
  have OW := xa hC.own
  have KK := xa hC.k
  have HP := xa hC.pa
  obtain ⟨va, vc, rfl⟩ := xad hC.own
  clear hC hpo
  cases f with
  | true =>
   have hx : entB rs true s' := Or.inl rfl
   go_wp2_with fail
   refine (xdk _ _ _ _ s' HP.out hp2).mono ?_
   rintro e w2 ⟨u, rfl, ho2, h2, k2⟩
   have hpW : pb < wr.heap.size := HP.out.lt
   have hsW := KK.out.size
   have hs2 := k2.size
   have hpl := xcZ HP.out.rng s'
   obtain ⟨N, hN⟩ : ∃ N, (ptL rs s').length = N := ⟨_, rfl⟩
   rw [hN] at ho2 hpl
   obtain ⟨g, uc, rfl, hg1, hg2⟩ := xea ho2 (by omega)
   have OU := xa ho2
   have H2 := xa h2
   have K2 := xa (KK.out.trans k2)
   have OA : Hid (w2.ownsRow w.heap.size 180 2 (.slice va l.length vc) l.length (cellsOf 2 encR l)) := xa (xaH OW.out k2 hpb)
   have hav : ∀ b, (Value.slice va l.length vc).ownBlock = some b -> b < wr.heap.size := xaM OW.out
   have Hav := xa hav
   have HN := xa hN
   obtain ⟨b, hB⟩ : ∃ b, ptB rs s' = b := ⟨_, rfl⟩
   rw [hB]
   have HB := xa hB
   clear ho2 h2 k2 hav hN hB
   cases b with
   | false =>
    have eS : Hid (parS rs s' = ptS rs s') := xa (by unfold parS parC; rw [HB.out]; rfl)
    have eL : Hid (parL rs s' = ptL rs s') := xa (by unfold parL parC; rw [HB.out]; rfl)
    have HO : Hid (w2.ownsRow wr.heap.size 180 2 (.slice (some ⟨g, 0, none⟩) N uc) N (cellsOf 2 encR (parL rs s'))) := xa (by rw [eL.out]; exact OU.out)
    have HLN : Hid ((parL rs s').length = N) := xa (by rw [eL.out]; exact HN.out)
    have HC2 : Hid (PaAt w2 pb rv rs (parS rs s')) := xa (by rw [eS.out]; exact H2.out)
    have HKC : Hid (xaa (fun b => b = pb \/ wr.heap.size <= b) w2 w2) := xa (xaa.refl _ _)
    have hsc := (HKC.out).size
    have OA2 : Hid (w2.ownsRow w.heap.size 180 2 (.slice va l.length vc) l.length (cellsOf 2 encR l)) := xa (xag OA.out HKC.out (fun b hb => by
     have h1 := xab OA.out b hb; have h2 := Hav.out b hb; rintro (h3 | h3); omega; omega))
    have KC : Hid (xaa (xam pb) w w2) := xa (K2.out.trans2 HKC.out (fun b hb e => by rcases e with e | e; exact e; omega))
    have hap : pb < w2.heap.size := HC2.out.lt
    go_wp2_with (at_builtin; refine wpList_append_own _ rfl (.tmp 79) (.tmp 80) 70 rfl w.heap.size 180 i0 _ 2 16 underlying70 hi hz0 hz1 hz2 rfl (by decide) _ _ _ rfl OA2.out ⟨g, 0, none⟩ N uc (cellsOf 2 encR (parL rs s')) rfl (by rw [xai, HLN.out]) (xaE HO.out HLN.out) (xaU _) (by unfold maxLen; omega) (by omega) (by omega) ?_)
    intro v' w9 hown' hgrow _
    have hk5 : xaa (fun b => w.heap.size <= b) w2 w9 := (xaa.refl _ _).grown hgrow (fun b hb => Or.inl (xab OA2.out b hb))
    have H5 : Hid (PaAt w9 pb rv rs (parS rs s')) := xa (HC2.out.keeps hk5 (by omega) (fun b hb e => by have := HRB.out b hb; omega))
    have K5 : Hid (xaa (xam pb) w w9) := xa (KC.out.trans2 hk5 (fun b hb e => by omega))
    have O5 : Hid (w9.ownsRow w.heap.size 180 2 v' (l ++ parL rs s').length (cellsOf 2 encR (l ++ parL rs s'))) := xa (by
     rw [xah, List.length_append, HLN.out]; exact hown')
    clear hown' hgrow hk5
    go_wp2_with fail
    obtain ⟨n5, h5⟩ := HC.out.next hx _ _ O5.out H5.out K5.out
    have h6 := xaT H5.out
    have h7 := (xa2 rs s').1
    have h8 := HC.out.n
    have h9 := Hpo.out
    have h10 : s'.pos <= s0.pos + rs.length := HC.out.p2 (by rcases hx with h3 | h3; exact Or.inr h3; exact Or.inl h3.1)
    go_roundw
    case rel => exact ⟨_, _, _, _, h5⟩
    case measure => omega
   | true =>
    go_wp2_with fail
    have h3p := xdJ rs s'
    refine (xbU _ _ _ _ (ptS rs s') 45 H2.out (by omega)).mono ?_
    rintro e w3 ⟨rfl, h3, k3⟩
    have hs3 := k3.size
    obtain ⟨c, hC⟩ : ∃ c, tkB rs 45 (ptS rs s') = c := ⟨_, rfl⟩
    rw [hC]
    have HCb := xa hC
    have H3 : Hid (PaAt w3 pb rv rs (pS2 rs s')) := xa h3
    have OU3 := xa (xaH OU.out k3 hpW)
    have K3 := xa k3
    clear hC h3 k3
    cases c with
    | false =>
     have eT : tk rs 45 (ptS rs s') = ptS rs s' := by unfold tk; rw [if_neg]; have := HCb.out; unfold tkB at this; simpa using this
     have eS : Hid (parS rs s' = pS2 rs s') := xa (by unfold parS parC pS2; rw [HB.out, HCb.out, eT]; rfl)
     have eL : Hid (parL rs s' = ptL rs s') := xa (by unfold parL parC; rw [HB.out, HCb.out]; rfl)
     clear eT
     have HO : Hid (w3.ownsRow wr.heap.size 180 2 (.slice (some ⟨g, 0, none⟩) N uc) N (cellsOf 2 encR (parL rs s'))) := xa (by rw [eL.out]; exact OU3.out)
     have HLN : Hid ((parL rs s').length = N) := xa (by rw [eL.out]; exact HN.out)
     have HC2 : Hid (PaAt w3 pb rv rs (parS rs s')) := xa (by rw [eS.out]; exact H3.out)
     have HKC : Hid (xaa (fun b => b = pb \/ wr.heap.size <= b) w2 w3) := xa (K3.out.mono (fun b _ e => Or.inl e))
     have hsc := (HKC.out).size
     have OA2 : Hid (w3.ownsRow w.heap.size 180 2 (.slice va l.length vc) l.length (cellsOf 2 encR l)) := xa (xag OA.out HKC.out (fun b hb => by
      have h1 := xab OA.out b hb; have h2 := Hav.out b hb; rintro (h3 | h3); omega; omega))
     have KC : Hid (xaa (xam pb) w w3) := xa (K2.out.trans2 HKC.out (fun b hb e => by rcases e with e | e; exact e; omega))
     have hap : pb < w3.heap.size := HC2.out.lt
     go_wp2_with (at_builtin; refine wpList_append_own _ rfl (.tmp 79) (.tmp 80) 70 rfl w.heap.size 180 i0 _ 2 16 underlying70 hi hz0 hz1 hz2 rfl (by decide) _ _ _ rfl OA2.out ⟨g, 0, none⟩ N uc (cellsOf 2 encR (parL rs s')) rfl (by rw [xai, HLN.out]) (xaE HO.out HLN.out) (xaU _) (by unfold maxLen; omega) (by omega) (by omega) ?_)
     intro v' w9 hown' hgrow _
     have hk5 : xaa (fun b => w.heap.size <= b) w3 w9 := (xaa.refl _ _).grown hgrow (fun b hb => Or.inl (xab OA2.out b hb))
     have H5 : Hid (PaAt w9 pb rv rs (parS rs s')) := xa (HC2.out.keeps hk5 (by omega) (fun b hb e => by have := HRB.out b hb; omega))
     have K5 : Hid (xaa (xam pb) w w9) := xa (KC.out.trans2 hk5 (fun b hb e => by omega))
     have O5 : Hid (w9.ownsRow w.heap.size 180 2 v' (l ++ parL rs s').length (cellsOf 2 encR (l ++ parL rs s'))) := xa (by
      rw [xah, List.length_append, HLN.out]; exact hown')
     clear hown' hgrow hk5
     go_wp2_with fail
     obtain ⟨n5, h5⟩ := HC.out.next hx _ _ O5.out H5.out K5.out
     have h6 := xaT H5.out
     have h7 := (xa2 rs s').1
     have h8 := HC.out.n
     have h9 := Hpo.out
     have h10 : s'.pos <= s0.pos + rs.length := HC.out.p2 (by rcases hx with h3 | h3; exact Or.inr h3; exact Or.inl h3.1)
     go_roundw
     case rel => exact ⟨_, _, _, _, h5⟩
     case measure => omega
    | true =>
     have h3q := xfh rs 45 (ptS rs s') (by omega)
     have e4 : (pS2 rs s').pos <= (ptS rs s').pos + 1 := h3q.2.1
     have hq4 := xdJ rs (pS2 rs s')
     have hq5 := xcZ HP.out.rng (pS2 rs s')
     go_wp2_with fail
     refine (xdk _ _ _ _ (pS2 rs s') H3.out (by omega)).mono ?_
     rintro e w4 ⟨u4, rfl, ho4, h4, k4⟩
     have hs4 := k4.size
     obtain ⟨g4, c4, rfl, hg3, hg4⟩ := xea ho4 (by omega)
     have OU4 := xa (xaH OU3.out k4 hpW)
     obtain ⟨r1, hr1⟩ := xf5 HB.out
     have HR1 := xa hr1
     have x0 : w4.cell? ⟨g, 0, none⟩ = some (.int .i64 r1) := xaE OU4.out HN.out 0 (.int .i64 r1) (by rw [hr1]; rfl)
     have x1 : w4.cell? ⟨g, 1, none⟩ = some (.int .i64 r1) := xaE OU4.out HN.out 1 (.int .i64 r1) (by rw [hr1]; rfl)
     have xf := OU4.out.frozenAt 1
     have c3 := h4.c3
     have f3 := h4.fr 3
     obtain ⟨bd, hbd⟩ : ∃ b, (ptS rs (pS2 rs s')).bad = b := ⟨_, rfl⟩
     obtain ⟨b2, hb2⟩ : ∃ b, ptB rs (pS2 rs s') = b := ⟨_, rfl⟩
     rw [hbd] at c3
     rw [hb2]
     have Hbd := xa hbd
     have Hb2 := xa hb2
     have H4 := xa h4
     have K4 := xa k4
     have O4 := xa ho4
     clear hbd hb2 h4 k4 ho4 hr1
     cases bd with
     | true =>
      go_wp2_with fail
      go_region
      generalize hW5 : (w4.setCell ⟨pb, 3, none⟩ (.bool true)).drew = w5
      have H6 : Hid (PaAt w5 pb rv rs ⟨(ptS rs (pS2 rs s')).pos, (ptS rs (pS2 rs s')).deep, true⟩) := xa (by rw [<- hW5]; exact (H4.out.setBad true).keepsF ((xaa.refl _ _).drew))
      have KW : Hid (xaa (xam pb) w4 w5) := xa (by rw [<- hW5]; exact ((xaa.refl (xam pb) _).set (p := ⟨pb, 3, none⟩) rfl _).drew)
      have OU5 := xa (xaH OU4.out KW.out hpW)
      have hs5 := KW.out.size
      have zc := H6.out.c3
      clear hW5
      have eB : xbR rs s' = true := by unfold xbR; rw [Hbd.out]; rfl
      have eS : Hid (parS rs s' = ⟨(ptS rs (pS2 rs s')).pos, (ptS rs (pS2 rs s')).deep, true⟩) := xa (by unfold parS parC; rw [HB.out, HCb.out, eB]; rfl)
      have eL : Hid (parL rs s' = ptL rs s') := xa (by unfold parL; rw [eB]; simp)
      clear eB
      have HO : Hid (w5.ownsRow wr.heap.size 180 2 (.slice (some ⟨g, 0, none⟩) N uc) N (cellsOf 2 encR (parL rs s'))) := xa (by rw [eL.out]; exact OU5.out)
      have HLN : Hid ((parL rs s').length = N) := xa (by rw [eL.out]; exact HN.out)
      have HC2 : Hid (PaAt w5 pb rv rs (parS rs s')) := xa (by rw [eS.out]; exact H6.out)
      have HKC : Hid (xaa (fun b => b = pb \/ wr.heap.size <= b) w2 w5) := xa (((K3.out.trans K4.out).trans KW.out).mono (fun b _ e => Or.inl e))
      have hsc := (HKC.out).size
      have OA2 : Hid (w5.ownsRow w.heap.size 180 2 (.slice va l.length vc) l.length (cellsOf 2 encR l)) := xa (xag OA.out HKC.out (fun b hb => by
       have h1 := xab OA.out b hb; have h2 := Hav.out b hb; rintro (h3 | h3); omega; omega))
      have KC : Hid (xaa (xam pb) w w5) := xa (K2.out.trans2 HKC.out (fun b hb e => by rcases e with e | e; exact e; omega))
      have hap : pb < w5.heap.size := HC2.out.lt
      go_wp2_with (at_builtin; refine wpList_append_own _ rfl (.tmp 79) (.tmp 80) 70 rfl w.heap.size 180 i0 _ 2 16 underlying70 hi hz0 hz1 hz2 rfl (by decide) _ _ _ rfl OA2.out ⟨g, 0, none⟩ N uc (cellsOf 2 encR (parL rs s')) rfl (by rw [xai, HLN.out]) (xaE HO.out HLN.out) (xaU _) (by unfold maxLen; omega) (by omega) (by omega) ?_)
      intro v' w9 hown' hgrow _
      have hk5 : xaa (fun b => w.heap.size <= b) w5 w9 := (xaa.refl _ _).grown hgrow (fun b hb => Or.inl (xab OA2.out b hb))
      have H5 : Hid (PaAt w9 pb rv rs (parS rs s')) := xa (HC2.out.keeps hk5 (by omega) (fun b hb e => by have := HRB.out b hb; omega))
      have K5 : Hid (xaa (xam pb) w w9) := xa (KC.out.trans2 hk5 (fun b hb e => by omega))
      have O5 : Hid (w9.ownsRow w.heap.size 180 2 v' (l ++ parL rs s').length (cellsOf 2 encR (l ++ parL rs s'))) := xa (by
       rw [xah, List.length_append, HLN.out]; exact hown')
      clear hown' hgrow hk5
      go_wp2_with fail
      obtain ⟨n5, h5⟩ := HC.out.next hx _ _ O5.out H5.out K5.out
      have h6 := xaT H5.out
      have h7 := (xa2 rs s').1
      have h8 := HC.out.n
      have h9 := Hpo.out
      have h10 : s'.pos <= s0.pos + rs.length := HC.out.p2 (by rcases hx with h3 | h3; exact Or.inr h3; exact Or.inl h3.1)
      go_roundw
      case rel => exact ⟨_, _, _, _, h5⟩
      case measure => omega
     | false =>
      cases b2 with
      | false =>
       go_wp2_with fail
       go_region
       generalize hW5 : (w4.setCell ⟨pb, 3, none⟩ (.bool true)).drew = w5
       have H6 : Hid (PaAt w5 pb rv rs ⟨(ptS rs (pS2 rs s')).pos, (ptS rs (pS2 rs s')).deep, true⟩) := xa (by rw [<- hW5]; exact (H4.out.setBad true).keepsF ((xaa.refl _ _).drew))
       have KW : Hid (xaa (xam pb) w4 w5) := xa (by rw [<- hW5]; exact ((xaa.refl (xam pb) _).set (p := ⟨pb, 3, none⟩) rfl _).drew)
       have OU5 := xa (xaH OU4.out KW.out hpW)
       have hs5 := KW.out.size
       have zc := H6.out.c3
       clear hW5
       have eB : xbR rs s' = true := by unfold xbR; rw [Hb2.out]; simp
       have eS : Hid (parS rs s' = ⟨(ptS rs (pS2 rs s')).pos, (ptS rs (pS2 rs s')).deep, true⟩) := xa (by unfold parS parC; rw [HB.out, HCb.out, eB]; rfl)
       have eL : Hid (parL rs s' = ptL rs s') := xa (by unfold parL; rw [eB]; simp)
       clear eB
       have HO : Hid (w5.ownsRow wr.heap.size 180 2 (.slice (some ⟨g, 0, none⟩) N uc) N (cellsOf 2 encR (parL rs s'))) := xa (by rw [eL.out]; exact OU5.out)
       have HLN : Hid ((parL rs s').length = N) := xa (by rw [eL.out]; exact HN.out)
       have HC2 : Hid (PaAt w5 pb rv rs (parS rs s')) := xa (by rw [eS.out]; exact H6.out)
       have HKC : Hid (xaa (fun b => b = pb \/ wr.heap.size <= b) w2 w5) := xa (((K3.out.trans K4.out).trans KW.out).mono (fun b _ e => Or.inl e))
       have hsc := (HKC.out).size
       have OA2 : Hid (w5.ownsRow w.heap.size 180 2 (.slice va l.length vc) l.length (cellsOf 2 encR l)) := xa (xag OA.out HKC.out (fun b hb => by
        have h1 := xab OA.out b hb; have h2 := Hav.out b hb; rintro (h3 | h3); omega; omega))
       have KC : Hid (xaa (xam pb) w w5) := xa (K2.out.trans2 HKC.out (fun b hb e => by rcases e with e | e; exact e; omega))
       have hap : pb < w5.heap.size := HC2.out.lt
       go_wp2_with (at_builtin; refine wpList_append_own _ rfl (.tmp 79) (.tmp 80) 70 rfl w.heap.size 180 i0 _ 2 16 underlying70 hi hz0 hz1 hz2 rfl (by decide) _ _ _ rfl OA2.out ⟨g, 0, none⟩ N uc (cellsOf 2 encR (parL rs s')) rfl (by rw [xai, HLN.out]) (xaE HO.out HLN.out) (xaU _) (by unfold maxLen; omega) (by omega) (by omega) ?_)
       intro v' w9 hown' hgrow _
       have hk5 : xaa (fun b => w.heap.size <= b) w5 w9 := (xaa.refl _ _).grown hgrow (fun b hb => Or.inl (xab OA2.out b hb))
       have H5 : Hid (PaAt w9 pb rv rs (parS rs s')) := xa (HC2.out.keeps hk5 (by omega) (fun b hb e => by have := HRB.out b hb; omega))
       have K5 : Hid (xaa (xam pb) w w9) := xa (KC.out.trans2 hk5 (fun b hb e => by omega))
       have O5 : Hid (w9.ownsRow w.heap.size 180 2 v' (l ++ parL rs s').length (cellsOf 2 encR (l ++ parL rs s'))) := xa (by
        rw [xah, List.length_append, HLN.out]; exact hown')
       clear hown' hgrow hk5
       go_wp2_with fail
       obtain ⟨n5, h5⟩ := HC.out.next hx _ _ O5.out H5.out K5.out
       have h6 := xaT H5.out
       have h7 := (xa2 rs s').1
       have h8 := HC.out.n
       have h9 := Hpo.out
       have h10 : s'.pos <= s0.pos + rs.length := HC.out.p2 (by rcases hx with h3 | h3; exact Or.inr h3; exact Or.inl h3.1)
       go_roundw
       case rel => exact ⟨_, _, _, _, h5⟩
       case measure => omega
      | true =>
       obtain ⟨r2, hr2⟩ := xf5 Hb2.out
       rw [hr2] at O4 ⊢
       have y0 : w4.cell? ⟨g4, 0, none⟩ = some (.int .i64 r2) := xaE O4.out rfl 0 (.int .i64 r2) rfl
       by_cases hlt : r2 < r1
       · go_wp2_with fail
         go_region
         generalize hW5 : (w4.setCell ⟨pb, 3, none⟩ (.bool true)).drew = w5
         have H6 : Hid (PaAt w5 pb rv rs ⟨(ptS rs (pS2 rs s')).pos, (ptS rs (pS2 rs s')).deep, true⟩) := xa (by rw [<- hW5]; exact (H4.out.setBad true).keepsF ((xaa.refl _ _).drew))
         have KW : Hid (xaa (xam pb) w4 w5) := xa (by rw [<- hW5]; exact ((xaa.refl (xam pb) _).set (p := ⟨pb, 3, none⟩) rfl _).drew)
         have OU5 := xa (xaH OU4.out KW.out hpW)
         have hs5 := KW.out.size
         have zc := H6.out.c3
         clear hW5
         have eB : xbR rs s' = true := by unfold xbR; rw [HR1.out, hr2]; simp [lo1, hlt]
         have eS : Hid (parS rs s' = ⟨(ptS rs (pS2 rs s')).pos, (ptS rs (pS2 rs s')).deep, true⟩) := xa (by unfold parS parC; rw [HB.out, HCb.out, eB]; rfl)
         have eL : Hid (parL rs s' = ptL rs s') := xa (by unfold parL; rw [eB]; simp)
         clear eB
         have HO : Hid (w5.ownsRow wr.heap.size 180 2 (.slice (some ⟨g, 0, none⟩) N uc) N (cellsOf 2 encR (parL rs s'))) := xa (by rw [eL.out]; exact OU5.out)
         have HLN : Hid ((parL rs s').length = N) := xa (by rw [eL.out]; exact HN.out)
         have HC2 : Hid (PaAt w5 pb rv rs (parS rs s')) := xa (by rw [eS.out]; exact H6.out)
         have HKC : Hid (xaa (fun b => b = pb \/ wr.heap.size <= b) w2 w5) := xa (((K3.out.trans K4.out).trans KW.out).mono (fun b _ e => Or.inl e))
         have hsc := (HKC.out).size
         have OA2 : Hid (w5.ownsRow w.heap.size 180 2 (.slice va l.length vc) l.length (cellsOf 2 encR l)) := xa (xag OA.out HKC.out (fun b hb => by
          have h1 := xab OA.out b hb; have h2 := Hav.out b hb; rintro (h3 | h3); omega; omega))
         have KC : Hid (xaa (xam pb) w w5) := xa (K2.out.trans2 HKC.out (fun b hb e => by rcases e with e | e; exact e; omega))
         have hap : pb < w5.heap.size := HC2.out.lt
         go_wp2_with (at_builtin; refine wpList_append_own _ rfl (.tmp 79) (.tmp 80) 70 rfl w.heap.size 180 i0 _ 2 16 underlying70 hi hz0 hz1 hz2 rfl (by decide) _ _ _ rfl OA2.out ⟨g, 0, none⟩ N uc (cellsOf 2 encR (parL rs s')) rfl (by rw [xai, HLN.out]) (xaE HO.out HLN.out) (xaU _) (by unfold maxLen; omega) (by omega) (by omega) ?_)
         intro v' w9 hown' hgrow _
         have hk5 : xaa (fun b => w.heap.size <= b) w5 w9 := (xaa.refl _ _).grown hgrow (fun b hb => Or.inl (xab OA2.out b hb))
         have H5 : Hid (PaAt w9 pb rv rs (parS rs s')) := xa (HC2.out.keeps hk5 (by omega) (fun b hb e => by have := HRB.out b hb; omega))
         have K5 : Hid (xaa (xam pb) w w9) := xa (KC.out.trans2 hk5 (fun b hb e => by omega))
         have O5 : Hid (w9.ownsRow w.heap.size 180 2 v' (l ++ parL rs s').length (cellsOf 2 encR (l ++ parL rs s'))) := xa (by
          rw [xah, List.length_append, HLN.out]; exact hown')
         clear hown' hgrow hk5
         go_wp2_with fail
         obtain ⟨n5, h5⟩ := HC.out.next hx _ _ O5.out H5.out K5.out
         have h6 := xaT H5.out
         have h7 := (xa2 rs s').1
         have h8 := HC.out.n
         have h9 := Hpo.out
         have h10 : s'.pos <= s0.pos + rs.length := HC.out.p2 (by rcases hx with h3 | h3; exact Or.inr h3; exact Or.inl h3.1)
         go_roundw
         case rel => exact ⟨_, _, _, _, h5⟩
         case measure => omega
       have hlt2 : decide (r2 < r1) = false := by simpa using hlt
       go_wp2_with fail
       go_region
       generalize hW5 : (w4.setCell ⟨pb, 3, none⟩ (.bool false)).drew = w5
       have H6 : Hid (PaAt w5 pb rv rs ⟨(ptS rs (pS2 rs s')).pos, (ptS rs (pS2 rs s')).deep, false⟩) := xa (by rw [<- hW5]; exact (H4.out.setBad false).keepsF ((xaa.refl _ _).drew))
       have KW : Hid (xaa (xam pb) w4 w5) := xa (by rw [<- hW5]; exact ((xaa.refl (xam pb) _).set (p := ⟨pb, 3, none⟩) rfl _).drew)
       have OU5 := xa (xaH OU4.out KW.out hpW)
       have hs5 := KW.out.size
       have zc := H6.out.c3
       clear hW5
       have eB : xbR rs s' = false := by unfold xbR; rw [Hbd.out, Hb2.out, HR1.out, hr2]; exact hlt2
       have eS : Hid (parS rs s' = ⟨(ptS rs (pS2 rs s')).pos, (ptS rs (pS2 rs s')).deep, false⟩) := xa (by unfold parS parC; rw [HB.out, HCb.out, eB]; rfl)
       have eL : Hid (parL rs s' = [(r1, r2)]) := xa (by unfold parL parC; rw [eB, HB.out, HCb.out, HR1.out, hr2]; rfl)
       clear eB
       obtain rfl : 1 = N := by have := HN.out; rw [HR1.out] at this; exact this
       have z0 : w5.cell? ⟨g4, 0, none⟩ = some (.int .i64 r2) := KW.out.cell y0 (by show ¬ g4 = pb; omega)
       have z1 : w5.cell? ⟨g, 1, none⟩ = some (.int .i64 r1) := KW.out.cell x1 (by show ¬ g = pb; omega)
       have zf : w5.frozen? ⟨g, 1, none⟩ = false := OU5.out.frozenAt 1
       have zc := H6.out.c3
       have kg : xaa (fun b => b = g) w5 (w5.setCell ⟨g, 1, none⟩ (.int .i64 r2)) := (xaa.refl (fun b => b = g) _).set (p := ⟨g, 1, none⟩) rfl _
       have HLN : Hid ((parL rs s').length = 1) := xa (by rw [eL.out]; rfl)
       have HO : Hid ((w5.setCell ⟨g, 1, none⟩ (.int .i64 r2)).ownsRow wr.heap.size 180 2 (.slice (some ⟨g, 0, none⟩) 1 uc) 1 (cellsOf 2 encR (parL rs s'))) := xa (by
        have h := (World.ownsRow.stored OU5.out 1 (.int .i64 r2)).1
        rw [HR1.out] at h
        rw [eL.out]; exact h)
       have HC2 : Hid (PaAt (w5.setCell ⟨g, 1, none⟩ (.int .i64 r2)) pb rv rs (parS rs s')) := xa (by rw [eS.out]; exact H6.out.keeps kg (by show ¬ pb = g; omega) (fun b hb e => by have h1 := HRB.out b hb; have e : b = g := e; omega))
       have HKC : Hid (xaa (fun b => b = pb \/ wr.heap.size <= b) w2 (w5.setCell ⟨g, 1, none⟩ (.int .i64 r2))) := xa ((((K3.out.trans K4.out).trans KW.out).mono (T := fun b => b = pb \/ wr.heap.size <= b) (fun b _ e => Or.inl e)).trans2 kg (fun b _ e => Or.inr (by have e : b = g := e; omega)))
       clear kg
       have hsc := (HKC.out).size
       have OA2 : Hid ((w5.setCell ⟨g, 1, none⟩ (.int .i64 r2)).ownsRow w.heap.size 180 2 (.slice va l.length vc) l.length (cellsOf 2 encR l)) := xa (xag OA.out HKC.out (fun b hb => by
        have h1 := xab OA.out b hb; have h2 := Hav.out b hb; rintro (h3 | h3); omega; omega))
       have KC : Hid (xaa (xam pb) w (w5.setCell ⟨g, 1, none⟩ (.int .i64 r2))) := xa (K2.out.trans2 HKC.out (fun b hb e => by rcases e with e | e; exact e; omega))
       have hap : pb < (w5.setCell ⟨g, 1, none⟩ (.int .i64 r2)).heap.size := HC2.out.lt
       go_wp2_with (at_builtin; refine wpList_append_own _ rfl (.tmp 79) (.tmp 80) 70 rfl w.heap.size 180 i0 _ 2 16 underlying70 hi hz0 hz1 hz2 rfl (by decide) _ _ _ rfl OA2.out ⟨g, 0, none⟩ 1 uc (cellsOf 2 encR (parL rs s')) rfl (by rw [xai, HLN.out]) (xaE HO.out HLN.out) (xaU _) (by unfold maxLen; omega) (by omega) (by omega) ?_)
       intro v' w9 hown' hgrow _
       have hk5 : xaa (fun b => w.heap.size <= b) (w5.setCell ⟨g, 1, none⟩ (.int .i64 r2)) w9 := (xaa.refl _ _).grown hgrow (fun b hb => Or.inl (xab OA2.out b hb))
       have H5 : Hid (PaAt w9 pb rv rs (parS rs s')) := xa (HC2.out.keeps hk5 (by omega) (fun b hb e => by have := HRB.out b hb; omega))
       have K5 : Hid (xaa (xam pb) w w9) := xa (KC.out.trans2 hk5 (fun b hb e => by omega))
       have O5 : Hid (w9.ownsRow w.heap.size 180 2 v' (l ++ parL rs s').length (cellsOf 2 encR (l ++ parL rs s'))) := xa (by
        rw [xah, List.length_append, HLN.out]; exact hown')
       clear hown' hgrow hk5
       go_wp2_with fail
       obtain ⟨n5, h5⟩ := HC.out.next hx _ _ O5.out H5.out K5.out
       have h6 := xaT H5.out
       have h7 := (xa2 rs s').1
       have h8 := HC.out.n
       have h9 := Hpo.out
       have h10 : s'.pos <= s0.pos + rs.length := HC.out.p2 (by rcases hx with h3 | h3; exact Or.inr h3; exact Or.inl h3.1)
       go_roundw
       case rel => exact ⟨_, _, _, _, h5⟩
       case measure => omega
  | false =>
   obtain ⟨bd0, hbd0⟩ : ∃ b, s'.bad = b := ⟨_, rfl⟩
   have c30 := HP.out.c3
   rw [hbd0] at c30
   have Hbd0 := xa hbd0
   clear hbd0
   cases bd0 with
   | true =>
    have eTk : Hid (tk rs 93 s' = s') := xa (by unfold tk; rw [if_neg]; unfold pk; rw [Hbd0.out]; simp)
    have PX : Hid (PaAt wr pb rv rs (tk rs 93 s')) := xa (by rw [eTk.out]; exact HP.out)
    have OX := OW
    have KX := KK
    have hTT := HC.out.out (Or.inl Hbd0.out)
    have HT1 := xa (congrArg Prod.fst hTT)
    have HT2 := xa (congrArg Prod.snd hTT)
    have HOk := xa HC.out.ok
    have hRS : RSl wr (.slice va l.length vc) l := ⟨SlOf.ofOwn OX.out (by omega), fun p hp => by have := HOk.out p hp; unfold in64; omega⟩
    have HRS := xa hRS
    clear hTT hRS
    cases q with
    | true =>
     go_wp2_with fail
     refine (xdL l _ _ HRS.out (by omega)).mono ?_
     rintro e w7 ⟨u, out, rfl, ho7, hr7, hl7⟩
     have R7 := xa hr7
     have O7 := xa ho7
     clear hr7 ho7
     go_wp2
     go_ret
     have eL : L = out := by rw [HL.out, HT1.out]; rw [if_pos trivial]; exact xeK O7.out
     refine ⟨u, rfl, ?_, KX.out.trans (R7.out.2.mono (fun _ _ e => e.elim)), ?_, ?_⟩
     · rw [eL]; exact xak R7.out.1 KX.out.size
     · rw [HT2.out]; exact PX.out.keepsF R7.out.2
     rw [eL]; exact O7.out.1
    | false =>
     go_wp2_with fail
     refine (xc0 l _ _ HRS.out (by omega)).mono ?_
     rintro e w7 ⟨u, out, rfl, ho7, hr7, hl7⟩
     have R7 := xa hr7
     have O7 := xa ho7
     clear hr7 ho7
     go_wp2
     go_ret
     have eL : L = out := by rw [HL.out, HT1.out, if_neg (by simp)]; exact xfw O7.out
     refine ⟨u, rfl, ?_, KX.out.trans (R7.out.2.mono (fun _ _ e => e.elim)), ?_, ?_⟩
     · rw [eL]; exact xak R7.out.1 KX.out.size
     · rw [HT2.out]; exact PX.out.keepsF R7.out.2
     rw [eL]; exact O7.out.1
   | false =>
    go_wp2_with fail
    refine (xbU _ _ _ _ s' 93 HP.out (by omega)).mono ?_
    rintro e wB ⟨rfl, hB1, kB⟩
    obtain ⟨c0, hC0⟩ : ∃ c, tkB rs 93 s' = c := ⟨_, rfl⟩
    rw [hC0]
    have HC0 := xa hC0
    have OX : Hid (wB.ownsRow w.heap.size 180 2 (.slice va l.length vc) l.length (cellsOf 2 encR l)) := xa (xaH OW.out kB hpb)
    have KX := xa (KK.out.trans kB)
    have PX := xa hB1
    clear hC0 hB1 kB
    cases c0 with
    | true =>
     have hTT := HC.out.out (Or.inr (by have := HC0.out; unfold tkB at this; simpa using this))
     have HT1 := xa (congrArg Prod.fst hTT)
     have HT2 := xa (congrArg Prod.snd hTT)
     have HOk := xa HC.out.ok
     have hRS : RSl wB (.slice va l.length vc) l := ⟨SlOf.ofOwn OX.out (by omega), fun p hp => by have := HOk.out p hp; unfold in64; omega⟩
     have HRS := xa hRS
     clear hTT hRS
     cases q with
     | true =>
      go_wp2_with fail
      refine (xdL l _ _ HRS.out (by omega)).mono ?_
      rintro e w7 ⟨u, out, rfl, ho7, hr7, hl7⟩
      have R7 := xa hr7
      have O7 := xa ho7
      clear hr7 ho7
      go_wp2
      go_ret
      have eL : L = out := by rw [HL.out, HT1.out]; rw [if_pos trivial]; exact xeK O7.out
      refine ⟨u, rfl, ?_, KX.out.trans (R7.out.2.mono (fun _ _ e => e.elim)), ?_, ?_⟩
      · rw [eL]; exact xak R7.out.1 KX.out.size
      · rw [HT2.out]; exact PX.out.keepsF R7.out.2
      rw [eL]; exact O7.out.1
     | false =>
      go_wp2_with fail
      refine (xc0 l _ _ HRS.out (by omega)).mono ?_
      rintro e w7 ⟨u, out, rfl, ho7, hr7, hl7⟩
      have R7 := xa hr7
      have O7 := xa ho7
      clear hr7 ho7
      go_wp2
      go_ret
      have eL : L = out := by rw [HL.out, HT1.out, if_neg (by simp)]; exact xfw O7.out
      refine ⟨u, rfl, ?_, KX.out.trans (R7.out.2.mono (fun _ _ e => e.elim)), ?_, ?_⟩
      · rw [eL]; exact xak R7.out.1 KX.out.size
      · rw [HT2.out]; exact PX.out.keepsF R7.out.2
      rw [eL]; exact O7.out.1
    | false =>
     have hx : entB rs false s' := Or.inr ⟨Hbd0.out, by have := HC0.out; unfold tkB at this; simpa using this⟩
     have HP : Hid (PaAt wB pb rv rs s') := xa (by have := PX.out; unfold tk at this; rw [if_neg (by have := HC0.out; unfold tkB at this; simpa using this)] at this; exact this)
     have OW := OX
     have KK := KX
     go_wp2_with fail
     refine (xdk _ _ _ _ s' HP.out hp2).mono ?_
     rintro e w2 ⟨u, rfl, ho2, h2, k2⟩
     have hpW : pb < wB.heap.size := HP.out.lt
     have hsW := KK.out.size
     have hs2 := k2.size
     have hpl := xcZ HP.out.rng s'
     obtain ⟨N, hN⟩ : ∃ N, (ptL rs s').length = N := ⟨_, rfl⟩
     rw [hN] at ho2 hpl
     obtain ⟨g, uc, rfl, hg1, hg2⟩ := xea ho2 (by omega)
     have OU := xa ho2
     have H2 := xa h2
     have K2 := xa (KK.out.trans k2)
     have OA : Hid (w2.ownsRow w.heap.size 180 2 (.slice va l.length vc) l.length (cellsOf 2 encR l)) := xa (xaH OW.out k2 hpb)
     have hav : ∀ b, (Value.slice va l.length vc).ownBlock = some b -> b < wB.heap.size := xaM OW.out
     have Hav := xa hav
     have HN := xa hN
     obtain ⟨b, hB⟩ : ∃ b, ptB rs s' = b := ⟨_, rfl⟩
     rw [hB]
     have HB := xa hB
     clear ho2 h2 k2 hav hN hB
     cases b with
     | false =>
      have eS : Hid (parS rs s' = ptS rs s') := xa (by unfold parS parC; rw [HB.out]; rfl)
      have eL : Hid (parL rs s' = ptL rs s') := xa (by unfold parL parC; rw [HB.out]; rfl)
      have HO : Hid (w2.ownsRow wB.heap.size 180 2 (.slice (some ⟨g, 0, none⟩) N uc) N (cellsOf 2 encR (parL rs s'))) := xa (by rw [eL.out]; exact OU.out)
      have HLN : Hid ((parL rs s').length = N) := xa (by rw [eL.out]; exact HN.out)
      have HC2 : Hid (PaAt w2 pb rv rs (parS rs s')) := xa (by rw [eS.out]; exact H2.out)
      have HKC : Hid (xaa (fun b => b = pb \/ wB.heap.size <= b) w2 w2) := xa (xaa.refl _ _)
      have hsc := (HKC.out).size
      have OA2 : Hid (w2.ownsRow w.heap.size 180 2 (.slice va l.length vc) l.length (cellsOf 2 encR l)) := xa (xag OA.out HKC.out (fun b hb => by
       have h1 := xab OA.out b hb; have h2 := Hav.out b hb; rintro (h3 | h3); omega; omega))
      have KC : Hid (xaa (xam pb) w w2) := xa (K2.out.trans2 HKC.out (fun b hb e => by rcases e with e | e; exact e; omega))
      have hap : pb < w2.heap.size := HC2.out.lt
      go_wp2_with (at_builtin; refine wpList_append_own _ rfl (.tmp 79) (.tmp 80) 70 rfl w.heap.size 180 i0 _ 2 16 underlying70 hi hz0 hz1 hz2 rfl (by decide) _ _ _ rfl OA2.out ⟨g, 0, none⟩ N uc (cellsOf 2 encR (parL rs s')) rfl (by rw [xai, HLN.out]) (xaE HO.out HLN.out) (xaU _) (by unfold maxLen; omega) (by omega) (by omega) ?_)
      intro v' w9 hown' hgrow _
      have hk5 : xaa (fun b => w.heap.size <= b) w2 w9 := (xaa.refl _ _).grown hgrow (fun b hb => Or.inl (xab OA2.out b hb))
      have H5 : Hid (PaAt w9 pb rv rs (parS rs s')) := xa (HC2.out.keeps hk5 (by omega) (fun b hb e => by have := HRB.out b hb; omega))
      have K5 : Hid (xaa (xam pb) w w9) := xa (KC.out.trans2 hk5 (fun b hb e => by omega))
      have O5 : Hid (w9.ownsRow w.heap.size 180 2 v' (l ++ parL rs s').length (cellsOf 2 encR (l ++ parL rs s'))) := xa (by
       rw [xah, List.length_append, HLN.out]; exact hown')
      clear hown' hgrow hk5
      go_wp2_with fail
      obtain ⟨n5, h5⟩ := HC.out.next hx _ _ O5.out H5.out K5.out
      have h6 := xaT H5.out
      have h7 := (xa2 rs s').1
      have h8 := HC.out.n
      have h9 := Hpo.out
      have h10 : s'.pos <= s0.pos + rs.length := HC.out.p2 (by rcases hx with h3 | h3; exact Or.inr h3; exact Or.inl h3.1)
      go_roundw
      case rel => exact ⟨_, _, _, _, h5⟩
      case measure => omega
     | true =>
      go_wp2_with fail
      have h3p := xdJ rs s'
      refine (xbU _ _ _ _ (ptS rs s') 45 H2.out (by omega)).mono ?_
      rintro e w3 ⟨rfl, h3, k3⟩
      have hs3 := k3.size
      obtain ⟨c, hC⟩ : ∃ c, tkB rs 45 (ptS rs s') = c := ⟨_, rfl⟩
      rw [hC]
      have HCb := xa hC
      have H3 : Hid (PaAt w3 pb rv rs (pS2 rs s')) := xa h3
      have OU3 := xa (xaH OU.out k3 hpW)
      have K3 := xa k3
      clear hC h3 k3
      cases c with
      | false =>
       have eT : tk rs 45 (ptS rs s') = ptS rs s' := by unfold tk; rw [if_neg]; have := HCb.out; unfold tkB at this; simpa using this
       have eS : Hid (parS rs s' = pS2 rs s') := xa (by unfold parS parC pS2; rw [HB.out, HCb.out, eT]; rfl)
       have eL : Hid (parL rs s' = ptL rs s') := xa (by unfold parL parC; rw [HB.out, HCb.out]; rfl)
       clear eT
       have HO : Hid (w3.ownsRow wB.heap.size 180 2 (.slice (some ⟨g, 0, none⟩) N uc) N (cellsOf 2 encR (parL rs s'))) := xa (by rw [eL.out]; exact OU3.out)
       have HLN : Hid ((parL rs s').length = N) := xa (by rw [eL.out]; exact HN.out)
       have HC2 : Hid (PaAt w3 pb rv rs (parS rs s')) := xa (by rw [eS.out]; exact H3.out)
       have HKC : Hid (xaa (fun b => b = pb \/ wB.heap.size <= b) w2 w3) := xa (K3.out.mono (fun b _ e => Or.inl e))
       have hsc := (HKC.out).size
       have OA2 : Hid (w3.ownsRow w.heap.size 180 2 (.slice va l.length vc) l.length (cellsOf 2 encR l)) := xa (xag OA.out HKC.out (fun b hb => by
        have h1 := xab OA.out b hb; have h2 := Hav.out b hb; rintro (h3 | h3); omega; omega))
       have KC : Hid (xaa (xam pb) w w3) := xa (K2.out.trans2 HKC.out (fun b hb e => by rcases e with e | e; exact e; omega))
       have hap : pb < w3.heap.size := HC2.out.lt
       go_wp2_with (at_builtin; refine wpList_append_own _ rfl (.tmp 79) (.tmp 80) 70 rfl w.heap.size 180 i0 _ 2 16 underlying70 hi hz0 hz1 hz2 rfl (by decide) _ _ _ rfl OA2.out ⟨g, 0, none⟩ N uc (cellsOf 2 encR (parL rs s')) rfl (by rw [xai, HLN.out]) (xaE HO.out HLN.out) (xaU _) (by unfold maxLen; omega) (by omega) (by omega) ?_)
       intro v' w9 hown' hgrow _
       have hk5 : xaa (fun b => w.heap.size <= b) w3 w9 := (xaa.refl _ _).grown hgrow (fun b hb => Or.inl (xab OA2.out b hb))
       have H5 : Hid (PaAt w9 pb rv rs (parS rs s')) := xa (HC2.out.keeps hk5 (by omega) (fun b hb e => by have := HRB.out b hb; omega))
       have K5 : Hid (xaa (xam pb) w w9) := xa (KC.out.trans2 hk5 (fun b hb e => by omega))
       have O5 : Hid (w9.ownsRow w.heap.size 180 2 v' (l ++ parL rs s').length (cellsOf 2 encR (l ++ parL rs s'))) := xa (by
        rw [xah, List.length_append, HLN.out]; exact hown')
       clear hown' hgrow hk5
       go_wp2_with fail
       obtain ⟨n5, h5⟩ := HC.out.next hx _ _ O5.out H5.out K5.out
       have h6 := xaT H5.out
       have h7 := (xa2 rs s').1
       have h8 := HC.out.n
       have h9 := Hpo.out
       have h10 : s'.pos <= s0.pos + rs.length := HC.out.p2 (by rcases hx with h3 | h3; exact Or.inr h3; exact Or.inl h3.1)
       go_roundw
       case rel => exact ⟨_, _, _, _, h5⟩
       case measure => omega
      | true =>
       have h3q := xfh rs 45 (ptS rs s') (by omega)
       have e4 : (pS2 rs s').pos <= (ptS rs s').pos + 1 := h3q.2.1
       have hq4 := xdJ rs (pS2 rs s')
       have hq5 := xcZ HP.out.rng (pS2 rs s')
       go_wp2_with fail
       refine (xdk _ _ _ _ (pS2 rs s') H3.out (by omega)).mono ?_
       rintro e w4 ⟨u4, rfl, ho4, h4, k4⟩
       have hs4 := k4.size
       obtain ⟨g4, c4, rfl, hg3, hg4⟩ := xea ho4 (by omega)
       have OU4 := xa (xaH OU3.out k4 hpW)
       obtain ⟨r1, hr1⟩ := xf5 HB.out
       have HR1 := xa hr1
       have x0 : w4.cell? ⟨g, 0, none⟩ = some (.int .i64 r1) := xaE OU4.out HN.out 0 (.int .i64 r1) (by rw [hr1]; rfl)
       have x1 : w4.cell? ⟨g, 1, none⟩ = some (.int .i64 r1) := xaE OU4.out HN.out 1 (.int .i64 r1) (by rw [hr1]; rfl)
       have xf := OU4.out.frozenAt 1
       have c3 := h4.c3
       have f3 := h4.fr 3
       obtain ⟨bd, hbd⟩ : ∃ b, (ptS rs (pS2 rs s')).bad = b := ⟨_, rfl⟩
       obtain ⟨b2, hb2⟩ : ∃ b, ptB rs (pS2 rs s') = b := ⟨_, rfl⟩
       rw [hbd] at c3
       rw [hb2]
       have Hbd := xa hbd
       have Hb2 := xa hb2
       have H4 := xa h4
       have K4 := xa k4
       have O4 := xa ho4
       clear hbd hb2 h4 k4 ho4 hr1
       cases bd with
       | true =>
        go_wp2_with fail
        go_region
        generalize hW5 : (w4.setCell ⟨pb, 3, none⟩ (.bool true)).drew = w5
        have H6 : Hid (PaAt w5 pb rv rs ⟨(ptS rs (pS2 rs s')).pos, (ptS rs (pS2 rs s')).deep, true⟩) := xa (by rw [<- hW5]; exact (H4.out.setBad true).keepsF ((xaa.refl _ _).drew))
        have KW : Hid (xaa (xam pb) w4 w5) := xa (by rw [<- hW5]; exact ((xaa.refl (xam pb) _).set (p := ⟨pb, 3, none⟩) rfl _).drew)
        have OU5 := xa (xaH OU4.out KW.out hpW)
        have hs5 := KW.out.size
        have zc := H6.out.c3
        clear hW5
        have eB : xbR rs s' = true := by unfold xbR; rw [Hbd.out]; rfl
        have eS : Hid (parS rs s' = ⟨(ptS rs (pS2 rs s')).pos, (ptS rs (pS2 rs s')).deep, true⟩) := xa (by unfold parS parC; rw [HB.out, HCb.out, eB]; rfl)
        have eL : Hid (parL rs s' = ptL rs s') := xa (by unfold parL; rw [eB]; simp)
        clear eB
        have HO : Hid (w5.ownsRow wB.heap.size 180 2 (.slice (some ⟨g, 0, none⟩) N uc) N (cellsOf 2 encR (parL rs s'))) := xa (by rw [eL.out]; exact OU5.out)
        have HLN : Hid ((parL rs s').length = N) := xa (by rw [eL.out]; exact HN.out)
        have HC2 : Hid (PaAt w5 pb rv rs (parS rs s')) := xa (by rw [eS.out]; exact H6.out)
        have HKC : Hid (xaa (fun b => b = pb \/ wB.heap.size <= b) w2 w5) := xa (((K3.out.trans K4.out).trans KW.out).mono (fun b _ e => Or.inl e))
        have hsc := (HKC.out).size
        have OA2 : Hid (w5.ownsRow w.heap.size 180 2 (.slice va l.length vc) l.length (cellsOf 2 encR l)) := xa (xag OA.out HKC.out (fun b hb => by
         have h1 := xab OA.out b hb; have h2 := Hav.out b hb; rintro (h3 | h3); omega; omega))
        have KC : Hid (xaa (xam pb) w w5) := xa (K2.out.trans2 HKC.out (fun b hb e => by rcases e with e | e; exact e; omega))
        have hap : pb < w5.heap.size := HC2.out.lt
        go_wp2_with (at_builtin; refine wpList_append_own _ rfl (.tmp 79) (.tmp 80) 70 rfl w.heap.size 180 i0 _ 2 16 underlying70 hi hz0 hz1 hz2 rfl (by decide) _ _ _ rfl OA2.out ⟨g, 0, none⟩ N uc (cellsOf 2 encR (parL rs s')) rfl (by rw [xai, HLN.out]) (xaE HO.out HLN.out) (xaU _) (by unfold maxLen; omega) (by omega) (by omega) ?_)
        intro v' w9 hown' hgrow _
        have hk5 : xaa (fun b => w.heap.size <= b) w5 w9 := (xaa.refl _ _).grown hgrow (fun b hb => Or.inl (xab OA2.out b hb))
        have H5 : Hid (PaAt w9 pb rv rs (parS rs s')) := xa (HC2.out.keeps hk5 (by omega) (fun b hb e => by have := HRB.out b hb; omega))
        have K5 : Hid (xaa (xam pb) w w9) := xa (KC.out.trans2 hk5 (fun b hb e => by omega))
        have O5 : Hid (w9.ownsRow w.heap.size 180 2 v' (l ++ parL rs s').length (cellsOf 2 encR (l ++ parL rs s'))) := xa (by
         rw [xah, List.length_append, HLN.out]; exact hown')
        clear hown' hgrow hk5
        go_wp2_with fail
        obtain ⟨n5, h5⟩ := HC.out.next hx _ _ O5.out H5.out K5.out
        have h6 := xaT H5.out
        have h7 := (xa2 rs s').1
        have h8 := HC.out.n
        have h9 := Hpo.out
        have h10 : s'.pos <= s0.pos + rs.length := HC.out.p2 (by rcases hx with h3 | h3; exact Or.inr h3; exact Or.inl h3.1)
        go_roundw
        case rel => exact ⟨_, _, _, _, h5⟩
        case measure => omega
       | false =>
        cases b2 with
        | false =>
         go_wp2_with fail
         go_region
         generalize hW5 : (w4.setCell ⟨pb, 3, none⟩ (.bool true)).drew = w5
         have H6 : Hid (PaAt w5 pb rv rs ⟨(ptS rs (pS2 rs s')).pos, (ptS rs (pS2 rs s')).deep, true⟩) := xa (by rw [<- hW5]; exact (H4.out.setBad true).keepsF ((xaa.refl _ _).drew))
         have KW : Hid (xaa (xam pb) w4 w5) := xa (by rw [<- hW5]; exact ((xaa.refl (xam pb) _).set (p := ⟨pb, 3, none⟩) rfl _).drew)
         have OU5 := xa (xaH OU4.out KW.out hpW)
         have hs5 := KW.out.size
         have zc := H6.out.c3
         clear hW5
         have eB : xbR rs s' = true := by unfold xbR; rw [Hb2.out]; simp
         have eS : Hid (parS rs s' = ⟨(ptS rs (pS2 rs s')).pos, (ptS rs (pS2 rs s')).deep, true⟩) := xa (by unfold parS parC; rw [HB.out, HCb.out, eB]; rfl)
         have eL : Hid (parL rs s' = ptL rs s') := xa (by unfold parL; rw [eB]; simp)
         clear eB
         have HO : Hid (w5.ownsRow wB.heap.size 180 2 (.slice (some ⟨g, 0, none⟩) N uc) N (cellsOf 2 encR (parL rs s'))) := xa (by rw [eL.out]; exact OU5.out)
         have HLN : Hid ((parL rs s').length = N) := xa (by rw [eL.out]; exact HN.out)
         have HC2 : Hid (PaAt w5 pb rv rs (parS rs s')) := xa (by rw [eS.out]; exact H6.out)
         have HKC : Hid (xaa (fun b => b = pb \/ wB.heap.size <= b) w2 w5) := xa (((K3.out.trans K4.out).trans KW.out).mono (fun b _ e => Or.inl e))
         have hsc := (HKC.out).size
         have OA2 : Hid (w5.ownsRow w.heap.size 180 2 (.slice va l.length vc) l.length (cellsOf 2 encR l)) := xa (xag OA.out HKC.out (fun b hb => by
          have h1 := xab OA.out b hb; have h2 := Hav.out b hb; rintro (h3 | h3); omega; omega))
         have KC : Hid (xaa (xam pb) w w5) := xa (K2.out.trans2 HKC.out (fun b hb e => by rcases e with e | e; exact e; omega))
         have hap : pb < w5.heap.size := HC2.out.lt
         go_wp2_with (at_builtin; refine wpList_append_own _ rfl (.tmp 79) (.tmp 80) 70 rfl w.heap.size 180 i0 _ 2 16 underlying70 hi hz0 hz1 hz2 rfl (by decide) _ _ _ rfl OA2.out ⟨g, 0, none⟩ N uc (cellsOf 2 encR (parL rs s')) rfl (by rw [xai, HLN.out]) (xaE HO.out HLN.out) (xaU _) (by unfold maxLen; omega) (by omega) (by omega) ?_)
         intro v' w9 hown' hgrow _
         have hk5 : xaa (fun b => w.heap.size <= b) w5 w9 := (xaa.refl _ _).grown hgrow (fun b hb => Or.inl (xab OA2.out b hb))
         have H5 : Hid (PaAt w9 pb rv rs (parS rs s')) := xa (HC2.out.keeps hk5 (by omega) (fun b hb e => by have := HRB.out b hb; omega))
         have K5 : Hid (xaa (xam pb) w w9) := xa (KC.out.trans2 hk5 (fun b hb e => by omega))
         have O5 : Hid (w9.ownsRow w.heap.size 180 2 v' (l ++ parL rs s').length (cellsOf 2 encR (l ++ parL rs s'))) := xa (by
          rw [xah, List.length_append, HLN.out]; exact hown')
         clear hown' hgrow hk5
         go_wp2_with fail
         obtain ⟨n5, h5⟩ := HC.out.next hx _ _ O5.out H5.out K5.out
         have h6 := xaT H5.out
         have h7 := (xa2 rs s').1
         have h8 := HC.out.n
         have h9 := Hpo.out
         have h10 : s'.pos <= s0.pos + rs.length := HC.out.p2 (by rcases hx with h3 | h3; exact Or.inr h3; exact Or.inl h3.1)
         go_roundw
         case rel => exact ⟨_, _, _, _, h5⟩
         case measure => omega
        | true =>
         obtain ⟨r2, hr2⟩ := xf5 Hb2.out
         rw [hr2] at O4 ⊢
         have y0 : w4.cell? ⟨g4, 0, none⟩ = some (.int .i64 r2) := xaE O4.out rfl 0 (.int .i64 r2) rfl
         by_cases hlt : r2 < r1
         · go_wp2_with fail
           go_region
           generalize hW5 : (w4.setCell ⟨pb, 3, none⟩ (.bool true)).drew = w5
           have H6 : Hid (PaAt w5 pb rv rs ⟨(ptS rs (pS2 rs s')).pos, (ptS rs (pS2 rs s')).deep, true⟩) := xa (by rw [<- hW5]; exact (H4.out.setBad true).keepsF ((xaa.refl _ _).drew))
           have KW : Hid (xaa (xam pb) w4 w5) := xa (by rw [<- hW5]; exact ((xaa.refl (xam pb) _).set (p := ⟨pb, 3, none⟩) rfl _).drew)
           have OU5 := xa (xaH OU4.out KW.out hpW)
           have hs5 := KW.out.size
           have zc := H6.out.c3
           clear hW5
           have eB : xbR rs s' = true := by unfold xbR; rw [HR1.out, hr2]; simp [lo1, hlt]
           have eS : Hid (parS rs s' = ⟨(ptS rs (pS2 rs s')).pos, (ptS rs (pS2 rs s')).deep, true⟩) := xa (by unfold parS parC; rw [HB.out, HCb.out, eB]; rfl)
           have eL : Hid (parL rs s' = ptL rs s') := xa (by unfold parL; rw [eB]; simp)
           clear eB
           have HO : Hid (w5.ownsRow wB.heap.size 180 2 (.slice (some ⟨g, 0, none⟩) N uc) N (cellsOf 2 encR (parL rs s'))) := xa (by rw [eL.out]; exact OU5.out)
           have HLN : Hid ((parL rs s').length = N) := xa (by rw [eL.out]; exact HN.out)
           have HC2 : Hid (PaAt w5 pb rv rs (parS rs s')) := xa (by rw [eS.out]; exact H6.out)
           have HKC : Hid (xaa (fun b => b = pb \/ wB.heap.size <= b) w2 w5) := xa (((K3.out.trans K4.out).trans KW.out).mono (fun b _ e => Or.inl e))
           have hsc := (HKC.out).size
           have OA2 : Hid (w5.ownsRow w.heap.size 180 2 (.slice va l.length vc) l.length (cellsOf 2 encR l)) := xa (xag OA.out HKC.out (fun b hb => by
            have h1 := xab OA.out b hb; have h2 := Hav.out b hb; rintro (h3 | h3); omega; omega))
           have KC : Hid (xaa (xam pb) w w5) := xa (K2.out.trans2 HKC.out (fun b hb e => by rcases e with e | e; exact e; omega))
           have hap : pb < w5.heap.size := HC2.out.lt
           go_wp2_with (at_builtin; refine wpList_append_own _ rfl (.tmp 79) (.tmp 80) 70 rfl w.heap.size 180 i0 _ 2 16 underlying70 hi hz0 hz1 hz2 rfl (by decide) _ _ _ rfl OA2.out ⟨g, 0, none⟩ N uc (cellsOf 2 encR (parL rs s')) rfl (by rw [xai, HLN.out]) (xaE HO.out HLN.out) (xaU _) (by unfold maxLen; omega) (by omega) (by omega) ?_)
           intro v' w9 hown' hgrow _
           have hk5 : xaa (fun b => w.heap.size <= b) w5 w9 := (xaa.refl _ _).grown hgrow (fun b hb => Or.inl (xab OA2.out b hb))
           have H5 : Hid (PaAt w9 pb rv rs (parS rs s')) := xa (HC2.out.keeps hk5 (by omega) (fun b hb e => by have := HRB.out b hb; omega))
           have K5 : Hid (xaa (xam pb) w w9) := xa (KC.out.trans2 hk5 (fun b hb e => by omega))
           have O5 : Hid (w9.ownsRow w.heap.size 180 2 v' (l ++ parL rs s').length (cellsOf 2 encR (l ++ parL rs s'))) := xa (by
            rw [xah, List.length_append, HLN.out]; exact hown')
           clear hown' hgrow hk5
           go_wp2_with fail
           obtain ⟨n5, h5⟩ := HC.out.next hx _ _ O5.out H5.out K5.out
           have h6 := xaT H5.out
           have h7 := (xa2 rs s').1
           have h8 := HC.out.n
           have h9 := Hpo.out
           have h10 : s'.pos <= s0.pos + rs.length := HC.out.p2 (by rcases hx with h3 | h3; exact Or.inr h3; exact Or.inl h3.1)
           go_roundw
           case rel => exact ⟨_, _, _, _, h5⟩
           case measure => omega
         have hlt2 : decide (r2 < r1) = false := by simpa using hlt
         go_wp2_with fail
         go_region
         generalize hW5 : (w4.setCell ⟨pb, 3, none⟩ (.bool false)).drew = w5
         have H6 : Hid (PaAt w5 pb rv rs ⟨(ptS rs (pS2 rs s')).pos, (ptS rs (pS2 rs s')).deep, false⟩) := xa (by rw [<- hW5]; exact (H4.out.setBad false).keepsF ((xaa.refl _ _).drew))
         have KW : Hid (xaa (xam pb) w4 w5) := xa (by rw [<- hW5]; exact ((xaa.refl (xam pb) _).set (p := ⟨pb, 3, none⟩) rfl _).drew)
         have OU5 := xa (xaH OU4.out KW.out hpW)
         have hs5 := KW.out.size
         have zc := H6.out.c3
         clear hW5
         have eB : xbR rs s' = false := by unfold xbR; rw [Hbd.out, Hb2.out, HR1.out, hr2]; exact hlt2
         have eS : Hid (parS rs s' = ⟨(ptS rs (pS2 rs s')).pos, (ptS rs (pS2 rs s')).deep, false⟩) := xa (by unfold parS parC; rw [HB.out, HCb.out, eB]; rfl)
         have eL : Hid (parL rs s' = [(r1, r2)]) := xa (by unfold parL parC; rw [eB, HB.out, HCb.out, HR1.out, hr2]; rfl)
         clear eB
         obtain rfl : 1 = N := by have := HN.out; rw [HR1.out] at this; exact this
         have z0 : w5.cell? ⟨g4, 0, none⟩ = some (.int .i64 r2) := KW.out.cell y0 (by show ¬ g4 = pb; omega)
         have z1 : w5.cell? ⟨g, 1, none⟩ = some (.int .i64 r1) := KW.out.cell x1 (by show ¬ g = pb; omega)
         have zf : w5.frozen? ⟨g, 1, none⟩ = false := OU5.out.frozenAt 1
         have zc := H6.out.c3
         have kg : xaa (fun b => b = g) w5 (w5.setCell ⟨g, 1, none⟩ (.int .i64 r2)) := (xaa.refl (fun b => b = g) _).set (p := ⟨g, 1, none⟩) rfl _
         have HLN : Hid ((parL rs s').length = 1) := xa (by rw [eL.out]; rfl)
         have HO : Hid ((w5.setCell ⟨g, 1, none⟩ (.int .i64 r2)).ownsRow wB.heap.size 180 2 (.slice (some ⟨g, 0, none⟩) 1 uc) 1 (cellsOf 2 encR (parL rs s'))) := xa (by
          have h := (World.ownsRow.stored OU5.out 1 (.int .i64 r2)).1
          rw [HR1.out] at h
          rw [eL.out]; exact h)
         have HC2 : Hid (PaAt (w5.setCell ⟨g, 1, none⟩ (.int .i64 r2)) pb rv rs (parS rs s')) := xa (by rw [eS.out]; exact H6.out.keeps kg (by show ¬ pb = g; omega) (fun b hb e => by have h1 := HRB.out b hb; have e : b = g := e; omega))
         have HKC : Hid (xaa (fun b => b = pb \/ wB.heap.size <= b) w2 (w5.setCell ⟨g, 1, none⟩ (.int .i64 r2))) := xa ((((K3.out.trans K4.out).trans KW.out).mono (T := fun b => b = pb \/ wB.heap.size <= b) (fun b _ e => Or.inl e)).trans2 kg (fun b _ e => Or.inr (by have e : b = g := e; omega)))
         clear kg
         have hsc := (HKC.out).size
         have OA2 : Hid ((w5.setCell ⟨g, 1, none⟩ (.int .i64 r2)).ownsRow w.heap.size 180 2 (.slice va l.length vc) l.length (cellsOf 2 encR l)) := xa (xag OA.out HKC.out (fun b hb => by
          have h1 := xab OA.out b hb; have h2 := Hav.out b hb; rintro (h3 | h3); omega; omega))
         have KC : Hid (xaa (xam pb) w (w5.setCell ⟨g, 1, none⟩ (.int .i64 r2))) := xa (K2.out.trans2 HKC.out (fun b hb e => by rcases e with e | e; exact e; omega))
         have hap : pb < (w5.setCell ⟨g, 1, none⟩ (.int .i64 r2)).heap.size := HC2.out.lt
         go_wp2_with (at_builtin; refine wpList_append_own _ rfl (.tmp 79) (.tmp 80) 70 rfl w.heap.size 180 i0 _ 2 16 underlying70 hi hz0 hz1 hz2 rfl (by decide) _ _ _ rfl OA2.out ⟨g, 0, none⟩ 1 uc (cellsOf 2 encR (parL rs s')) rfl (by rw [xai, HLN.out]) (xaE HO.out HLN.out) (xaU _) (by unfold maxLen; omega) (by omega) (by omega) ?_)
         intro v' w9 hown' hgrow _
         have hk5 : xaa (fun b => w.heap.size <= b) (w5.setCell ⟨g, 1, none⟩ (.int .i64 r2)) w9 := (xaa.refl _ _).grown hgrow (fun b hb => Or.inl (xab OA2.out b hb))
         have H5 : Hid (PaAt w9 pb rv rs (parS rs s')) := xa (HC2.out.keeps hk5 (by omega) (fun b hb e => by have := HRB.out b hb; omega))
         have K5 : Hid (xaa (xam pb) w w9) := xa (KC.out.trans2 hk5 (fun b hb e => by omega))
         have O5 : Hid (w9.ownsRow w.heap.size 180 2 v' (l ++ parL rs s').length (cellsOf 2 encR (l ++ parL rs s'))) := xa (by
          rw [xah, List.length_append, HLN.out]; exact hown')
         clear hown' hgrow hk5
         go_wp2_with fail
         obtain ⟨n5, h5⟩ := HC.out.next hx _ _ O5.out H5.out K5.out
         have h6 := xaT H5.out
         have h7 := (xa2 rs s').1
         have h8 := HC.out.n
         have h9 := Hpo.out
         have h10 : s'.pos <= s0.pos + rs.length := HC.out.p2 (by rcases hx with h3 | h3; exact Or.inr h3; exact Or.inl h3.1)
         go_roundw
         case rel => exact ⟨_, _, _, _, h5⟩
         case measure => omega
end Go.Proofs.YtapmdhejgnplaaaGreat
