/-
  The document's tokens: where they lie in memory.
-/
import Derived.Test.YtapmdhejgnplaaaGreatPaSimMG
import Derived.Test.YtapmdhejgnplaaaGreatMg9
import Derived.BigQuiet
import Derived.Deep.QuietTactic
import Derived.IntWalk
import Derived.Handy
import Derived.Test.YtapmdhejgnplaaaGreatMg12
import Derived.Maps.AppendAt
import Derived.Deep.AppendLies
import Derived.BigRegion
namespace Go.Proofs.YtapmdhejgnplaaaGreat
open Go.RowKit Go.Proofs.Tryz
set_option linter.unusedVariables false
set_option linter.unusedSimpArgs false
set_option maxRecDepth 100000
set_option maxHeartbeats 16000000
structure TV where
 k : Int
 r : Int
 sv : Value
 m : Int
 x : Int
def encK (v : TV) (j : Nat) : Value := if j = 0 then .int .i64 v.k else if j = 1 then .int .i64 v.r else if j = 2 then v.sv else if j = 3 then .int .i64 v.m else .int .i64 v.x
def TV.val (v : TV) : Value := .agg #[.int .i64 v.k, .int .i64 v.r, v.sv, .int .i64 v.m, .int .i64 v.x]
theorem xkg (v : TV) : (List.range 5).map (encK v) = [.int .i64 v.k, .int .i64 v.r, v.sv, .int .i64 v.m, .int .i64 v.x] := rfl
def KAt (w : World) (P : Nat -> Prop) (v : TV) : Tok -> Prop
 | .pt s => v.k = 0 /\ RSl w v.sv s /\ ∀ b, v.sv.ownBlock = some b -> P b
 | .sg c => v = ⟨1, c, .slice none 0 0, 0, 0⟩
 | .ct m x => v = ⟨2, 0, .slice none 0 0, m, x⟩ /\ in64 m /\ in64 x
theorem KAt.form {w : World} {P : Nat -> Prop} {v : TV} {t : Tok} (h : KAt w P v t) : ∃ a n c, v.sv = .slice a n c := by
 cases t with
 | pt s => obtain ⟨a, c, e⟩ := h.2.1.form; exact ⟨a, _, c, e⟩
 | sg c => rw [show v = _ from h]; exact ⟨_, _, _, rfl⟩
 | ct m x => rw [h.1]; exact ⟨_, _, _, rfl⟩
theorem KAt.keepsTo {S P Q : Nat -> Prop} {w w' : World} {v : TV} {t : Tok} (h : KAt w P v t) (K : xaa S w w') (hs : ∀ b, P b -> ¬ S b) (hq : ∀ b, P b -> Q b) : KAt w' Q v t := by
 cases t with
 | pt s => exact ⟨h.1, h.2.1.keeps K (fun b hb => hs b (h.2.2 b hb)), fun b hb => hq b (h.2.2 b hb)⟩
 | sg c => exact h
 | ct m x => exact h
structure KsAt (w : World) (D : Nat -> Prop) (v : Value) (vs : List TV) (ts : List Tok) : Prop where
 row : SlOf 5 encK w v vs
 len : vs.length = ts.length
 tok : ∀ (i : Nat) (x : TV) (t : Tok), vs[i]? = some x -> ts[i]? = some t -> KAt w D x t
theorem KsAt.keep {w w' : World} {D : Nat -> Prop} {v : Value} {vs : List TV} {ts : List Tok} (h : KsAt w D v vs ts) (K : KF w w') : KsAt w' D v vs ts :=
 ⟨h.row.keep K, h.len, fun i x t hx ht => (h.tok i x t hx ht).keepsTo K (fun _ _ => id) (fun b hb => hb)⟩
theorem KsAt.form {w : World} {D : Nat -> Prop} {v : Value} {vs : List TV} {ts : List Tok} (h : KsAt w D v vs ts) : ∃ a cap, v = .slice a ts.length cap := by
 obtain ⟨a, cap, e⟩ := h.row.form
 exact ⟨a, cap, by rw [e, h.len]⟩
theorem KsAt.at {w : World} {D : Nat -> Prop} {n cap : Nat} {a : Option Addr} {vs : List TV} {ts : List Tok} (h : KsAt w D (.slice a n cap) vs ts) {i : Nat} {t : Tok} (ht : ts[i]? = some t) :
 ∃ b off k r d e f m x, a = some ⟨b, off, none⟩ /\ KAt w D ⟨k, r, .slice d e f, m, x⟩ t /\ b < w.heap.size /\
 w.cell? ⟨b, off + i * 5, none⟩ = some (.int .i64 k) /\ w.cell? ⟨b, off + i * 5 + 1, none⟩ = some (.int .i64 r) /\ w.cell? ⟨b, off + i * 5 + 2, none⟩ = some (.slice d e f) /\ w.cell? ⟨b, off + i * 5 + 3, none⟩ = some (.int .i64 m) /\ w.cell? ⟨b, off + i * 5 + 4, none⟩ = some (.int .i64 x) := by
 have hi : i < ts.length := (List.getElem?_eq_some_iff.1 ht).1
 have hl := h.len
 obtain ⟨⟨k, r, sv, m, x⟩, hx⟩ : ∃ x, vs[i]? = some x := ⟨_, List.getElem?_eq_getElem (by omega)⟩
 have hk := h.tok i _ t hx ht
 obtain ⟨d, e, f, hs⟩ := hk.form
 obtain rfl := hs
 obtain ⟨a', cap', e', _, _, hc⟩ := h.row
 obtain ⟨rfl, _, rfl⟩ := Value.slice.inj e'
 obtain ⟨b, off, rfl, hcc⟩ := hc (by omega)
 have x0 := hcc i _ hx 0 (by omega)
 have x1 := hcc i _ hx 1 (by omega)
 have x2 := hcc i _ hx 2 (by omega)
 have x3 := hcc i _ hx 3 (by omega)
 have x4 := hcc i _ hx 4 (by omega)
 simp only [encK] at x0 x1 x2 x3 x4
 exact ⟨b, off, k, r, d, e, f, m, x, rfl, hk, xal x0, by simpa using x0, by simpa using x1, by simpa using x2, by simpa using x3, by simpa using x4⟩
theorem KsAt.part {w : World} {D : Nat -> Prop} {b off n cap : Nat} {vs : List TV} {ts : List Tok} (h : KsAt w D (.slice (some ⟨b, off, none⟩) n cap) vs ts) (i c : Nat) (hc : i + c <= n) :
 KsAt w D (.slice (some ⟨b, off + i * 5, none⟩) c (cap - i)) ((vs.drop i).take c) ((ts.drop i).take c) := by
 obtain ⟨a', cap', e', hcap, hl2, hcc⟩ := h.row
 obtain ⟨e1, rfl, rfl⟩ := Value.slice.inj e'
 subst e1
 have hl := h.len
 have hlen : ((vs.drop i).take c).length = c := by simp; omega
 refine ⟨⟨_, _, by rw [hlen], ⟨by rw [hlen]; omega, fun h => by cases h⟩, by omega, fun h0 => ?_⟩, by simp; omega, fun j x t hx ht => ?_⟩
 · obtain ⟨b', off', e1, hc'⟩ := hcc (by omega)
   injection e1 with e1
   injection e1 with e1 e2
   subst e1 e2
   refine ⟨_, _, rfl, fun j x hx k hk => ?_⟩
   rw [List.getElem?_take] at hx
   split at hx
   · rw [List.getElem?_drop] at hx
     have := hc' (i + j) x hx k hk
     rw [show off + i * 5 + j * 5 + k = off + (i + j) * 5 + k by omega]; exact this
   cases hx
 rw [List.getElem?_take] at hx ht
 split at hx
 · rename_i hj
   rw [if_pos hj] at ht
   rw [List.getElem?_drop] at hx ht
   exact h.tok _ _ _ hx ht
 cases hx
def cloZ : Nat -> List Tok -> Int -> Int
 | _, [], _ => -1
 | d, .sg c :: r, i => if c = 40 then cloZ (d + 1) r (i + 1) else if c = 41 then (if d = 1 then i else cloZ (d - 1) r (i + 1)) else cloZ d r (i + 1)
 | d, .pt _ :: r, i => cloZ d r (i + 1)
 | d, .ct _ _ :: r, i => cloZ d r (i + 1)
theorem cloZ_eq : ∀ (l : List Tok) (d : Nat) (i : Int), cloZ (d + 1) l i = match xaD d l with | none => -1 | some (p, _) => i + p.length := by
 intro l
 induction l with
 | nil => intro d i; simp [cloZ, xaD]
 | cons t l ih =>
  intro d i
  have step : ∀ (k : Nat) (t : Tok), (match (xaD k l).map (fun p => (t :: p.1, p.2)) with | none => (-1 : Int) | some (p, _) => i + p.length) = match xaD k l with | none => -1 | some (p, _) => i + 1 + p.length := by
   intro k t
   rcases xaD k l with _ | ⟨p, q⟩
   · rfl
   show i + ((t :: p).length : Int) = i + 1 + (p.length : Int)
   rw [List.length_cons]; push_cast; omega
  cases t with
  | pt s => simp only [cloZ, xaD]; rw [ih, step]
  | ct m x => simp only [cloZ, xaD]; rw [ih, step]
  | sg c =>
   simp only [cloZ, xaD]
   by_cases h40 : c = 40
   · rw [if_pos h40, if_pos h40, ih, step]
   rw [if_neg h40, if_neg h40]
   by_cases h41 : c = 41
   · rw [if_pos h41, if_pos h41]
     by_cases hd : d = 0
     · subst hd; simp
     rw [if_neg (by omega), if_neg hd, step]
     obtain ⟨d', rfl⟩ : ∃ d', d = d' + 1 := ⟨d - 1, by omega⟩
     exact ih d' (i + 1)
   rw [if_neg h41, if_neg h41, ih, step]
def CloR (G : Int) (ts : List Tok) (at0 : Nat) (w : World) (dv iv : Value) (wr : World) : Prop :=
 ∃ d i : Nat, dv = .int .i64 d /\ iv = .int .i64 i /\ (d = 0 /\ i = at0 \/ 1 <= d) /\ d <= i /\ i <= ts.length /\ KF w wr /\ cloZ d (ts.drop i) i = G
theorem xh5 {ts : List Tok} {i : Nat} {t : Tok} (h : ts[i]? = some t) : ts.drop i = t :: ts.drop (i + 1) := by
 obtain ⟨h1, h2⟩ := List.getElem?_eq_some_iff.1 h
 rw [List.drop_eq_getElem_cons h1, h2]
theorem xgi {G : Int} {ts : List Tok} {at0 d i : Nat} {w wr : World} {t : Tok} {dv iv : Value} (ha : ts[at0]? = some (.sg 40)) (ht : ts[i]? = some t) (hne : t ≠ .sg 40) (hd : d = 0 /\ i = at0 \/ 1 <= d) (hdi : d <= i) (hi : i < ts.length) (hK : KF w wr)
 (hz : cloZ d (ts.drop (i + 1)) ((i : Int) + 1) = G) (e1 : dv = .int .i64 d) (e2 : iv = .int .i64 ((i + 1 : Nat) : Int)) : CloR G ts at0 w dv iv wr := by
 refine ⟨d, i + 1, e1, e2, ?_, by omega, by omega, hK, by rw [<- hz]; push_cast; rfl⟩
 rcases hd with ⟨_, h⟩ | h
 · rw [h, ha] at ht; exact absurd (Option.some.inj ht).symm hne
 exact Or.inr h
theorem xm (D : Nat -> Prop) (v : Value) (vs : List TV) (ts : List Tok) (at0 : Nat) (w : World) (h : KsAt w D v vs ts) (hl : ts.length <= 1000) (ha : ts[at0]? = some (.sg 40)) :
 Calls prog 69 #[v, .int .i64 at0] w fun e w' => e = .returned (.int .i64 (cloZ 1 (ts.drop (at0 + 1)) ((at0 : Int) + 1))) /\ KF w w' := by
 obtain ⟨a, cap, rfl⟩ := h.form
 have hat : at0 < ts.length := (List.getElem?_eq_some_iff.1 ha).1
 obtain ⟨G, hG⟩ : ∃ G, cloZ 1 (ts.drop (at0 + 1)) ((at0 : Int) + 1) = G := ⟨_, rfl⟩
 have HG : Hid (cloZ 0 (ts.drop at0) (at0 : Int) = G) := xa (by rw [xh5 ha]; simp only [cloZ]; exact hG)
 have HA := xa ha
 have HH := xa h
 rw [hG]
 clear hG ha h
 go_enter func69, ntmps69
 go_wp2_with fail
 go_loopw [5, 6] (fun dv iv wr => CloR G ts at0 w dv iv wr) (fun _ iv _ => ts.length + 1 - (intOf iv).toNat)
 case atStart => exact ⟨0, at0, rfl, rfl, Or.inl ⟨rfl, rfl⟩, by omega, by omega, xaa.refl _ _, HG.out⟩
 case round =>
  obtain ⟨d, i, rfl, rfl, hd, hdi, hi, hK, hz⟩ := hrel
  have HK := xa hK
  have HZ := xa hz
  have Hd := xa hd
  clear hK hz hd
  by_cases hil : i < ts.length
  · obtain ⟨t, ht⟩ : ∃ t, ts[i]? = some t := ⟨_, List.getElem?_eq_getElem hil⟩
    have HZ2 := xa (show cloZ d (t :: ts.drop (i + 1)) i = G by rw [<- xh5 ht]; exact HZ.out)
    obtain ⟨b, off, k, r, sd, se, sf, m, x, rfl, hk, hlt, x0, x1, x2, x3, x4⟩ := (HH.out.keep HK.out).at ht
    have HT := xa ht
    have hid : decide ((i : Int) < (ts.length : Int)) = true := by simpa using hil
    have hid0 : (i : Int) < (ts.length : Int) := by omega
    clear ht x2 x3 x4
    cases t with
    | pt s =>
     obtain ⟨rfl, _⟩ := hk
     go_wp2
     go_roundw
     case rel => exact xgi HA.out HT.out (fun e => by cases e) Hd.out hdi hil HK.out (by have e := HZ2.out; simp only [cloZ] at e; exact e) (by go_num) (by go_num)
     case measure => simp [intOf]; omega
    | ct mm xx =>
     obtain ⟨hk, _⟩ := hk
     obtain ⟨rfl, rfl, _, _⟩ := TV.mk.inj hk
     clear hk
     go_wp2
     go_roundw
     case rel => exact xgi HA.out HT.out (fun e => by cases e) Hd.out hdi hil HK.out (by have e := HZ2.out; simp only [cloZ] at e; exact e) (by go_num) (by go_num)
     case measure => simp [intOf]; omega
    | sg c =>
     obtain ⟨rfl, rfl, _, _⟩ := TV.mk.inj hk
     clear hk
     by_cases h40 : r = 40
     · subst h40
       go_wp2
       go_roundw
       case rel => exact ⟨d + 1, i + 1, by go_num, by go_num, Or.inr (by omega), by omega, by omega, HK.out, by have e := HZ2.out; simp only [cloZ, if_true] at e; rw [<- e]; push_cast; rfl⟩
       case measure => simp [intOf]; omega
     have g40 : (r == 40) = false := beq_eq_false_iff_ne.2 h40
     by_cases h41 : r = 41
     · subst h41
       have hd1 : 1 <= d := by
        rcases Hd.out with ⟨_, h⟩ | h
        · have := HT.out; rw [h, HA.out] at this; cases this
        exact h
       by_cases hd : d = 1
       · subst hd
         have E : Hid (G = i) := xa (by have e := HZ2.out; simp only [cloZ] at e; rw [if_neg (by decide)] at e; exact e.symm)
         clear HZ2 HZ
         go_wp2
         go_ret
         exact ⟨by rw [E.out]; rfl, HK.out⟩
       obtain ⟨y, rfl⟩ : ∃ y, d = y + 1 := ⟨d - 1, by omega⟩
       have gd : ((y : Int) == 0) = false := beq_eq_false_iff_ne.2 (by omega)
       have gw : IntKind.i64.wrap (((y + 1 : Nat) : Int) - 1) = (y : Int) := by rw [show ((y + 1 : Nat) : Int) - 1 = (y : Int) by omega]; exact IntWalk.i64_in _ (by omega)
       go_wp2
       go_roundw
       case rel => exact ⟨y, i + 1, by go_num, by go_num, Or.inr (by omega), by omega, by omega, HK.out, by have e := HZ2.out; simp only [cloZ] at e; rw [if_neg (by decide), if_pos trivial, if_neg hd] at e; rw [<- e]; push_cast; rfl⟩
       case measure => simp [intOf]; omega
     have g41 : (r == 41) = false := beq_eq_false_iff_ne.2 h41
     go_wp2
     go_roundw
     case rel => exact xgi HA.out HT.out (fun e => h40 (by injection e)) Hd.out hdi hil HK.out (by have e := HZ2.out; simp only [cloZ] at e; rw [if_neg h40, if_neg h41] at e; exact e) (by go_num) (by go_num)
     case measure => simp [intOf]; omega
  obtain rfl : i = ts.length := by omega
  have hid : decide ((ts.length : Int) < (ts.length : Int)) = false := by simp
  have E : Hid (G = -1) := xa (by have e := HZ.out; rw [List.drop_eq_nil_of_le (Nat.le_refl _)] at e; cases d <;> simpa [cloZ] using e.symm)
  clear HZ
  go_wp2
  go_ret
  exact ⟨by rw [E.out]; rfl, HK.out⟩
theorem xfV (op : Int) (kv : Value) (vs : List NV) (l : List T) (P : Nat -> Prop) (w : World) (hk : SlOf 5 encN w kv vs) (hf : FAt w P (F.ofL l) vs) (hb : ∀ b, kv.ownBlock = some b -> P b) :
 Calls prog 68 #[.int .i64 op, kv] w fun e w' => ∃ v : NV, e = .returned v.val /\ TAt w' P v (xa4 op l) /\ KF w w' := by
 have hlen := hf.len
 obtain ⟨a, cap, rfl⟩ := hk.form
 rcases l with _ | ⟨t, _ | ⟨t2, l⟩⟩
 · obtain rfl : vs = [] := List.length_eq_zero_iff.1 hlen
   go_enter func68, ntmps68
   go_wp2_with fail
   go_returns
   exact ⟨⟨0, .slice none 0 0, 0, 0, .slice none 0 0⟩, rfl, TAt.zero _ _, KI.out⟩
 · obtain ⟨v, rfl⟩ : ∃ v, vs = [v] := List.length_eq_one_iff.1 hlen
   obtain ⟨v', vs', he, ht, _⟩ := FAt.cons_iff.1 hf
   obtain ⟨rfl, rfl⟩ := List.cons.inj he
   obtain ⟨b, off, rfl, hc⟩ := (by obtain ⟨a', cap', he, _, _, hc⟩ := hk; obtain ⟨rfl, _, rfl⟩ := Value.slice.inj he; exact hc (by simp) : ∃ b off, a = some ⟨b, off, none⟩ /\ ∀ i x, [v][i]? = some x -> ∀ j, j < 5 -> w.cell? ⟨b, off + i * 5 + j, none⟩ = some (encN x j))
   have x0 : w.cell? ⟨b, off, none⟩ = some (.int .i64 v.op) := by simpa [encN] using hc 0 v rfl 0 (by omega)
   have x1 : w.cell? ⟨b, off + 1, none⟩ = some v.sv := by simpa [encN] using hc 0 v rfl 1 (by omega)
   have x2 : w.cell? ⟨b, off + 2, none⟩ = some (.int .i64 v.mn) := by simpa [encN] using hc 0 v rfl 2 (by omega)
   have x3 : w.cell? ⟨b, off + 3, none⟩ = some (.int .i64 v.mx) := by simpa [encN] using hc 0 v rfl 3 (by omega)
   have x4 : w.cell? ⟨b, off + 4, none⟩ = some v.kv := by simpa [encN] using hc 0 v rfl 4 (by omega)
   clear hc
   have hlt : b < w.heap.size := xal x0
   obtain ⟨vo, vsv, vm, vx, vk⟩ := v
   obtain ⟨a1, c1, e1⟩ := ht.set.form
   obtain ⟨ks, hks, _⟩ := ht.kids
   obtain ⟨a2, c2, e2⟩ := hks.form
   obtain rfl := e1
   obtain rfl := e2
   generalize ks.length = n2 at *
   generalize t.set.length = n1 at *
   have HT := xa ht
   clear ht hf hk hb hks
   go_enter func68, ntmps68
   go_wp2_with fail
   go_returns
   have K : KF w (w.alloc (.cells #[.int .i64 vo, .slice a1 n1 c1, .int .i64 vm, .int .i64 vx, .slice a2 n2 c2] 73)) := KI.out
   exact ⟨_, rfl, HT.out.keepsTo K (fun _ _ => id) (fun _ h => h), K⟩
 have hl2 : 2 <= vs.length := by rw [hlen]; simp
 have HK := xa hk
 have HF := xa hf
 have HB := xa hb
 have g1 : ((vs.length : Int) == 0) = false := beq_eq_false_iff_ne.2 (by omega)
 have g2 : ((vs.length : Int) == 1) = false := beq_eq_false_iff_ne.2 (by omega)
 clear hk hf hb hlen hl2
 generalize vs.length = N at *
 go_enter func68, ntmps68
 go_wp2_with fail
 go_returns
 have K : KF w (w.alloc (.cells #[.int .i64 op, .slice none 0 0, .int .i64 0, .int .i64 0, .slice a N cap] 73)) := KI.out
 exact ⟨⟨op, .slice none 0 0, 0, 0, _⟩, rfl, ⟨rfl, rfl, rfl, xbp, xbp, ⟨SlOf.nil _ _ _, fun p hp => by cases hp⟩, fun b hb => by simp [Value.ownBlock] at hb, ⟨_, HK.out.keep K, HF.out.keepsTo K (fun _ _ => id) (fun _ h => h)⟩, HB.out⟩, K⟩
def Bt (w w' : World) : Nat -> Prop := fun b => w.heap.size <= b /\ b < w'.heap.size
def xdd (w : World) (pb : Nat) (rv : Value) (rs : List Int) (r : T × PS) (e : Ending) (w' : World) : Prop :=
 ∃ v : NV, e = .returned v.val /\ TAt w' (Bt w w') v r.1 /\ PaAt w' pb rv rs r.2 /\ xaa (xam pb) w w'
def AltC (f : PS -> T × PS) (rs : List Int) (C : PS -> Prop) : Prop :=
 ∀ (w : World) (pb : Nat) (rv : Value) (s : PS), PaAt w pb rv rs s -> Inv rs s -> C s -> Calls prog 71 #[.pointer (some ⟨pb, 0, none⟩)] w (xdd w pb rv rs (f s))
structure xmy (f : PS -> T × PS) (rs : List Int) (C D : PS -> Prop) : Prop where
 go : ∀ s, Go1 rs s (f s).2
 alt : AltC f rs C
 cd : ∀ s, D s -> s.bad = false -> C ⟨s.pos + 1, s.deep + 1, decide (10 < s.deep + 1)⟩
 dd : ∀ s s', D s -> Go1 rs s s' -> D s'
 dp : ∀ s, D s -> 0 <= s.deep /\ s.deep <= 100
 len : rs.length <= 9000
theorem NV.form {w : World} {P : Nat -> Prop} {v : NV} {t : T} (h : TAt w P v t) : ∃ o a1 n1 c1 m x a2 n2 c2, v = ⟨o, .slice a1 n1 c1, m, x, .slice a2 n2 c2⟩ := by
 obtain ⟨a1, n1, c1, a2, c2, e1, e2, _⟩ := h.krow
 obtain ⟨o, s, m, x, k⟩ := v
 obtain rfl := e1
 obtain rfl := e2
 exact ⟨_, _, _, _, _, _, _, _, _, rfl⟩
def st5 (W : World) (B : Nat) (a b c d e : Value) : World := ((((W.setCell ⟨B, 0, none⟩ a).setCell ⟨B, 1, none⟩ b).setCell ⟨B, 2, none⟩ c).setCell ⟨B, 3, none⟩ d).setCell ⟨B, 4, none⟩ e
theorem xap (W : World) (B : Nat) {o0 o1 o2 o3 o4 : Value} (h0 : W.cell? ⟨B, 0, none⟩ = some o0) (h1 : W.cell? ⟨B, 1, none⟩ = some o1) (h2 : W.cell? ⟨B, 2, none⟩ = some o2) (h3 : W.cell? ⟨B, 3, none⟩ = some o3) (h4 : W.cell? ⟨B, 4, none⟩ = some o4) (a b c d e : Value) :
 (st5 W B a b c d e).cell? ⟨B, 0, none⟩ = some a /\ (st5 W B a b c d e).cell? ⟨B, 1, none⟩ = some b /\ (st5 W B a b c d e).cell? ⟨B, 2, none⟩ = some c /\ (st5 W B a b c d e).cell? ⟨B, 3, none⟩ = some d /\ (st5 W B a b c d e).cell? ⟨B, 4, none⟩ = some e /\
  xaa (fun x => x = B) W (st5 W B a b c d e) := by
 unfold st5
 refine ⟨?_, ?_, ?_, ?_, ?_, by (repeat' (with_reducible first | exact xaa.refl _ _ | assumption | refine xaa.drawN ?_ _ | refine xaa.drew ?_ | refine xaa.setCell ?_ ?_ _ | refine xaa.alloc ?_ _)) <;> (first | exact Or.inr (Nat.le_refl _) | exact Or.inl rfl | exact Or.inl (Or.inl rfl) | exact Or.inl (Or.inr rfl) | (right; simp; done) | (right; simp; omega))⟩
 · rw [xae (by simp), xae (by simp), xae (by simp), xae (by simp)]; exact xaw h0
 · rw [xae (by simp), xae (by simp), xae (by simp)]; exact xaw (by rw [xae (by simp)]; exact h1)
 · rw [xae (by simp), xae (by simp)]; exact xaw (by rw [xae (by simp), xae (by simp)]; exact h2)
 · rw [xae (by simp)]; exact xaw (by rw [xae (by simp), xae (by simp), xae (by simp)]; exact h3)
 exact xaw (by rw [xae (by simp), xae (by simp), xae (by simp), xae (by simp)]; exact h4)
theorem xks {f : PS -> T × PS} {rs : List Int} {C D : PS -> Prop} (H : xmy f rs C D) (w : World) (pb : Nat) (rv : Value) (s : PS) (h : PaAt w pb rv rs s) (hi : Inv rs s) (hd : D s) (hr : pk rs s = 40) :
 Calls prog 119 #[.pointer (some ⟨pb, 0, none⟩)] w (xdd w pb rv rs (xaz f rs s)) := by
 have hpb := h.lt
 have hbad : s.bad = false := (xaK (rs := rs) (s := s) (by omega)).2
 have hpos := (xaK (rs := rs) (s := s) (by omega)).1
 have hnx : nx rs s = ⟨s.pos + 1, s.deep, false⟩ := by rw [xjU (by omega), hbad]
 have hdp := H.dp s hd
 have hlen := H.len
 have hcd := H.cd s hd hbad
 obtain ⟨s2, hs2⟩ : ∃ s2, (⟨s.pos + 1, s.deep + 1, decide (10 < s.deep + 1)⟩ : PS) = s2 := ⟨_, rfl⟩
 have hinv2 : Inv rs s2 := by rw [<- hs2]; exact ⟨by simp; omega, fun _ => by simp; omega⟩
 have hg := H.go s2
 have hE : Hid (xaz f rs s = ((f s2).1, ⟨(wt rs 41 (f s2).2).pos, (wt rs 41 (f s2).2).deep - 1, (wt rs 41 (f s2).2).bad⟩)) := by
  have : (⟨s.pos + 1, s.deep + 1, (nx rs s).bad || decide (10 < s.deep + 1)⟩ : PS) = s2 := by rw [hnx, <- hs2]; simp
  unfold xaz
  rw [if_pos hr, this]; exact xa rfl
 rw [hE.out]
 have hwt := xgq rs 41 (f s2).2 (by omega)
 have hdeep : (wt rs 41 (f s2).2).deep = s.deep + 1 := by rw [hwt.deep, hg.deep, <- hs2]
 have hpos3 := (hwt.inv (hg.inv hinv2)).a
 have hpos2 := (hg.inv hinv2).a
 have HA := xa (fun (W : World) (hW : PaAt W pb rv rs s2) => H.alt W pb rv s2 hW hinv2 (by rw [<- hs2]; exact hcd))
 obtain ⟨F1, hF1⟩ : ∃ x, (f s2).1 = x := ⟨_, rfl⟩
 obtain ⟨S1, hS1⟩ : ∃ x, (f s2).2 = x := ⟨_, rfl⟩
 rw [hF1, hS1]
 rw [hS1] at hdeep hpos3 hpos2
 have HF1 := xa hF1
 have HS1 := xa hS1
 have HS2 := xa hs2
 have HN := xa (fun (W : World) (hW : PaAt W pb rv rs s) => xbJ W pb rv rs s hW (by have := H.len; omega))
 have HH := xa h
 have w1 : IntKind.i64.wrap (s.deep + 1) = s.deep + 1 := IntWalk.i64_in _ (by omega)
 have w2 : IntKind.i64.wrap s.deep = s.deep := IntWalk.i64_in _ (by omega)
 have Hnx := xa hnx
 have Hdeep := xa hdeep
 clear hE hcd hinv2 hg hwt hF1 hS1 hs2 h hd hi hnx hdeep
 obtain ⟨p, d, b⟩ := s
 simp only at hbad hpos hdp w1 w2
 subst hbad
 go_enter func119, ntmps119
 go_wp2_with fail
 refine (HN.out _ (HH.out.keepsF (KI.out))).mono ?_
 rintro e w3 ⟨rfl, h3, k3⟩
 rw [hr]
 rw [Hnx.out] at h3
 have c2 := h3.c2
 have f2 := h3.fr 2
 have h4 := h3.setDeep (d + 1)
 have c3 := h4.c3
 have f3 := h4.fr 3
 have c2' := h4.c2
 have h5 := h4.setBad (decide (10 < d + 1))
 simp only at c2 c3 c2' h5
 rw [HS2.out] at h5
 have H5 := xa h5
 have K5 := xa ((k3.set (p := ⟨pb, 2, none⟩) rfl (.int .i64 (d + 1))).set (p := ⟨pb, 3, none⟩) rfl (.bool (decide (10 < d + 1))))
 clear h3 h4 h5 k3
 go_wp2_with fail
 refine (HA.out _ H5.out).mono ?_
 rintro e w6 ⟨v, rfl, hv, h6, k6⟩
 obtain ⟨o, a1, n1, c1, m, x, a2, n2, cc2, rfl⟩ := NV.form hv
 rw [HF1.out] at hv
 rw [HS1.out] at h6
 unfold NV.val
 have HV := xa hv
 have H6 := xa h6
 have K6 := xa (K5.out.trans k6)
 have hsz5 := K5.out.size
 have hsz6 := k6.size
 simp at hsz5 hsz6
 clear hv h6 k6
 have HW := xa (fun (W : World) (hW : PaAt W pb rv rs S1) => xcL W pb rv rs S1 41 hW (by omega))
 go_wp2_with fail
 refine (HW.out _ (H6.out.keepsF (KI.out))).mono ?_
 rintro e w7 ⟨rfl, h7, k7⟩
 have K7a : xaa (xam pb) (w.alloc (.cells #[.int .i64 0, .slice none 0 0, .int .i64 0, .int .i64 0, .slice none 0 0] 73)) w7 := (K6.out.alloc _).trans k7
 have hne1 : ¬ (w.heap.size = pb) := by omega
 have hne2 : ¬ (pb = w.heap.size) := by omega
 have hne3 : ¬ (w6.heap.size = pb) := by omega
 have hne4 : ¬ (pb = w6.heap.size) := by omega
 have y0 : w7.cell? ⟨w.heap.size, 0, none⟩ = some (.int .i64 0) := K7a.cell (by simp [go_sem]) hne1
 have y1 : w7.cell? ⟨w.heap.size, 1, none⟩ = some (.slice none 0 0) := K7a.cell (by simp [go_sem]) hne1
 have y2 : w7.cell? ⟨w.heap.size, 2, none⟩ = some (.int .i64 0) := K7a.cell (by simp [go_sem]) hne1
 have y3 : w7.cell? ⟨w.heap.size, 3, none⟩ = some (.int .i64 0) := K7a.cell (by simp [go_sem]) hne1
 have y4 : w7.cell? ⟨w.heap.size, 4, none⟩ = some (.slice none 0 0) := K7a.cell (by simp [go_sem]) hne1
 have q0 : w7.frozen? ⟨w.heap.size, 0, none⟩ = false := K7a.frozen (by simp [go_sem]) (by simp) hne1
 have q1 : w7.frozen? ⟨w.heap.size, 1, none⟩ = false := K7a.frozen (by simp [go_sem]) (by simp) hne1
 have q2 : w7.frozen? ⟨w.heap.size, 2, none⟩ = false := K7a.frozen (by simp [go_sem]) (by simp) hne1
 have q3 : w7.frozen? ⟨w.heap.size, 3, none⟩ = false := K7a.frozen (by simp [go_sem]) (by simp) hne1
 have q4 : w7.frozen? ⟨w.heap.size, 4, none⟩ = false := K7a.frozen (by simp [go_sem]) (by simp) hne1
 have z0 : w7.cell? ⟨w6.heap.size, 0, none⟩ = some (.int .i64 o) := k7.cell (by simp [go_sem]) hne3
 have z1 : w7.cell? ⟨w6.heap.size, 1, none⟩ = some (.slice a1 n1 c1) := k7.cell (by simp [go_sem]) hne3
 have z2 : w7.cell? ⟨w6.heap.size, 2, none⟩ = some (.int .i64 m) := k7.cell (by simp [go_sem]) hne3
 have z3 : w7.cell? ⟨w6.heap.size, 3, none⟩ = some (.int .i64 x) := k7.cell (by simp [go_sem]) hne3
 have z4 : w7.cell? ⟨w6.heap.size, 4, none⟩ = some (.slice a2 n2 cc2) := k7.cell (by simp [go_sem]) hne3
 have e2 := h7.c2
 rw [Hdeep.out] at e2
 have g2 := h7.fr 2
 have h8 := h7.setDeep d
 have HD8 := xa h8
 have K7 : Hid (xaa (xam pb) w w7) := xa (xaa.trans (KI.out) K7a)
 have k7b : xaa (fun b => b = pb \/ b = w.heap.size) w6 w7 := xaa.trans ((xaa.refl _ _).alloc _) (k7.mono (fun b _ e => Or.inl e))
 have K7b := xa k7b
 clear h7 h8 k7 K7a k7b
 go_wp2_with fail
 obtain ⟨wE, hWE⟩ : ∃ W, st5 (w7.setCell ⟨pb, 2, none⟩ (.int .i64 d)) w.heap.size (.int .i64 o) (.slice a1 n1 c1) (.int .i64 m) (.int .i64 x) (.slice a2 n2 cc2) = W := ⟨_, rfl⟩
 obtain ⟨r0, r1, r2, r3, r4, kE⟩ := xap (w7.setCell ⟨pb, 2, none⟩ (.int .i64 d)) w.heap.size (by rw [xae (by simp [hne2])]; exact y0) (by rw [xae (by simp [hne2])]; exact y1) (by rw [xae (by simp [hne2])]; exact y2) (by rw [xae (by simp [hne2])]; exact y3) (by rw [xae (by simp [hne2])]; exact y4) (.int .i64 o) (.slice a1 n1 c1) (.int .i64 m) (.int .i64 x) (.slice a2 n2 cc2)
 rw [hWE] at r0 r1 r2 r3 r4 kE
 unfold st5 at hWE
 rw [hWE]
 have HKE := xa kE
 clear kE hWE y0 y1 y2 y3 y4 z0 z1 z2 z3 z4
 refine bodyPost_ret (by simp [results, results119, go_sem, r0, r1, r2, r3, r4]; try rfl) rfl ?_
 have k8 : xaa (fun b => b = pb \/ b = w.heap.size) w6 wE := (K7b.out.set (p := ⟨pb, 2, none⟩) (Or.inl rfl) _).trans (HKE.out.mono (fun b _ e => Or.inr e))
 have hszE := k8.size
 refine ⟨⟨o, .slice a1 n1 c1, m, x, .slice a2 n2 cc2⟩, rfl, ?_, ?_, ?_⟩
 · refine HV.out.keepsTo k8 ?_ ?_
   · rintro b ⟨hb1, hb2⟩ hb3
     simp at hb1
     rcases hb3 with hb3 | hb3 <;> omega
   rintro b ⟨hb1, hb2⟩
   simp at hb1
   exact ⟨by omega, by omega⟩
 · have := HD8.out.keeps HKE.out hne2 (fun b hb e => by have := HH.out.rb b hb; omega)
   rw [show (wt rs 41 S1).deep - 1 = d by rw [Hdeep.out]; omega]
   exact this
 exact (K7.out.set (p := ⟨pb, 2, none⟩) rfl _).trans2 HKE.out (fun b hb e => by omega)
theorem xaC {w wX : World} {pb : Nat} (K : xaa (xam pb) (w.alloc (.cells #[.int .i64 0, .slice none 0 0, .int .i64 0, .int .i64 0, .slice none 0 0] 73)) wX) (hpb : pb < w.heap.size) :
 (wX.cell? ⟨w.heap.size, 0, none⟩ = some (.int .i64 0) /\ wX.cell? ⟨w.heap.size, 1, none⟩ = some (.slice none 0 0) /\ wX.cell? ⟨w.heap.size, 2, none⟩ = some (.int .i64 0) /\ wX.cell? ⟨w.heap.size, 3, none⟩ = some (.int .i64 0) /\ wX.cell? ⟨w.heap.size, 4, none⟩ = some (.slice none 0 0)) /\
 (wX.frozen? ⟨w.heap.size, 0, none⟩ = false /\ wX.frozen? ⟨w.heap.size, 1, none⟩ = false /\ wX.frozen? ⟨w.heap.size, 2, none⟩ = false /\ wX.frozen? ⟨w.heap.size, 3, none⟩ = false /\ wX.frozen? ⟨w.heap.size, 4, none⟩ = false) := by
 have hne1 : ¬ (w.heap.size = pb) := by omega
 exact ⟨⟨K.cell (by simp [go_sem]) hne1, K.cell (by simp [go_sem]) hne1, K.cell (by simp [go_sem]) hne1, K.cell (by simp [go_sem]) hne1, K.cell (by simp [go_sem]) hne1⟩,
  K.frozen (by simp [go_sem]) (by simp) hne1, K.frozen (by simp [go_sem]) (by simp) hne1, K.frozen (by simp [go_sem]) (by simp) hne1, K.frozen (by simp [go_sem]) (by simp) hne1, K.frozen (by simp [go_sem]) (by simp) hne1⟩
theorem xaF {w wX wE : World} {pb : Nat} {rv : Value} {rs : List Int} {s' : PS} {t : T} {v : NV} (hpb : pb < w.heap.size) (hrb : ∀ b, rv.ownBlock = some b -> b < w.heap.size)
 (K : xaa (xam pb) (w.alloc (.cells #[.int .i64 0, .slice none 0 0, .int .i64 0, .int .i64 0, .slice none 0 0] 73)) wX) (hP : PaAt wX pb rv rs s')
 (hT : TAt wX (fun b => w.heap.size < b /\ b < wX.heap.size) v t) (kE : xaa (fun b => b = w.heap.size) wX wE) : xdd w pb rv rs (t, s') (.returned v.val) wE := by
 have hs := K.size
 simp at hs
 have hs2 := kE.size
 refine ⟨v, rfl, hT.keepsTo kE (fun b hb e => by omega) (fun b hb => ⟨by omega, by omega⟩), hP.keeps kE (by omega) (fun b hb e => by have := hrb b hb; omega), ?_⟩
 exact (xaa.trans (KI.out) K).trans2 kE (fun b hb e => by omega)
theorem xeh {w' : World} {lo : Nat} {u : Value} {L : LI} (h : w'.ownsRow lo 180 2 u L.length (cellsOf 2 encR L)) (hl : L.length <= 4611686018427387904) (hr : ∀ p ∈ L, in64 p.1 /\ in64 p.2) :
 TAt w' (fun b => lo <= b /\ b < w'.heap.size) ⟨1, u, 0, 0, .slice none 0 0⟩ (xbw L) := by
 exact ⟨rfl, rfl, rfl, xbp, xbp, ⟨SlOf.ofOwn h hl, hr⟩, fun b hb => ⟨xab h b hb, xaM h b hb⟩, ⟨[], SlOf.nil _ _ _, rfl⟩, fun b hb => by simp [Value.ownBlock] at hb⟩
theorem xnd {l : LI} (h : Norm l) : l.length <= 1114112 := by
 have h1 := (xen l h).2
 have h2 : ∀ l : LI, (∀ p ∈ l, p.1 <= p.2) -> (l.length : Int) <= sumR l := by
  intro l
  induction l with
  | nil => intro _; simp [xmM]
  | cons p l ih =>
   intro hp
   have h3 := ih (fun q hq => hp q (by simp [hq]))
   have h4 := hp p (by simp)
   rw [xeo]; simp; omega
 have h5 := h2 l (fun p hp => (h.rng p hp).2.1)
 omega
def xdC (f : PS -> T × PS) (rs : List Int) (w : World) (pb : Nat) (rv : Value) (s : PS) : Prop :=
 Calls prog 119 #[.pointer (some ⟨pb, 0, none⟩)] w (xdd w pb rv rs (xaz f rs s))
theorem xkv {f : PS -> T × PS} {rs : List Int} (hlen : rs.length <= 9000) (w : World) (pb : Nat) (rv : Value) (s : PS) (h : PaAt w pb rv rs s) (hr : pk rs s = 94) : xdC f rs w pb rv s := by
 have hpb := h.lt
 have hpos := (xaK (rs := rs) (s := s) (by omega)).1
 unfold xdC
 rw [show xaz f rs s = (⟨2, [], 0, 0, .nil⟩, nx rs s) by unfold xaz; rw [if_neg (by omega), if_pos hr]]
 have HN := xa (fun (W : World) (hW : PaAt W pb rv rs s) => xbJ W pb rv rs s hW (by omega))
 have HH := xa h
 clear h
 go_enter func119, ntmps119
 go_wp2_with fail
 refine (HN.out _ (HH.out.keepsF (KI.out))).mono ?_
 rintro e w3 ⟨rfl, h3, k3⟩
 rw [hr]
 obtain ⟨⟨y0, y1, y2, y3, y4⟩, q0, q1, q2, q3, q4⟩ := xaC k3 hpb
 have H3 := xa h3
 have K3 := xa k3
 have hs3 := k3.size
 simp at hs3
 clear h3 k3
 go_wp2_with fail
 obtain ⟨wE, hWE⟩ : ∃ W, st5 (w3) w.heap.size (.int .i64 2) (.slice none 0 0) (.int .i64 0) (.int .i64 0) (.slice none 0 0) = W := ⟨_, rfl⟩
 obtain ⟨r0, r1, r2, r3, r4, kE⟩ := xap (w3) w.heap.size y0 y1 y2 y3 y4 (.int .i64 2) (.slice none 0 0) (.int .i64 0) (.int .i64 0) (.slice none 0 0)
 rw [hWE] at r0 r1 r2 r3 r4 kE
 unfold st5 at hWE
 rw [hWE]
 have HKE := xa kE
 clear kE hWE y0 y1 y2 y3 y4
 refine bodyPost_ret (by simp [results, results119, go_sem, r0, r1, r2, r3, r4]; try rfl) rfl ?_
 exact xaF (v := ⟨2, .slice none 0 0, 0, 0, .slice none 0 0⟩) hpb HH.out.rb K3.out H3.out ⟨rfl, rfl, rfl, xbp, xbp, ⟨SlOf.nil _ _ _, fun p hp => by cases hp⟩, fun b hb => by simp [Value.ownBlock] at hb, ⟨[], SlOf.nil _ _ _, rfl⟩, fun b hb => by simp [Value.ownBlock] at hb⟩ HKE.out
theorem xn1 {f : PS -> T × PS} {rs : List Int} (hlen : rs.length <= 9000) (w : World) (pb : Nat) (rv : Value) (s : PS) (h : PaAt w pb rv rs s) (hr : pk rs s = 36) : xdC f rs w pb rv s := by
 have hpb := h.lt
 have hpos := (xaK (rs := rs) (s := s) (by omega)).1
 unfold xdC
 rw [show xaz f rs s = (⟨3, [], 0, 0, .nil⟩, nx rs s) by unfold xaz; rw [if_neg (by omega), if_neg (by omega), if_pos hr]]
 have HN := xa (fun (W : World) (hW : PaAt W pb rv rs s) => xbJ W pb rv rs s hW (by omega))
 have HH := xa h
 clear h
 go_enter func119, ntmps119
 go_wp2_with fail
 refine (HN.out _ (HH.out.keepsF (KI.out))).mono ?_
 rintro e w3 ⟨rfl, h3, k3⟩
 rw [hr]
 obtain ⟨⟨y0, y1, y2, y3, y4⟩, q0, q1, q2, q3, q4⟩ := xaC k3 hpb
 have H3 := xa h3
 have K3 := xa k3
 have hs3 := k3.size
 simp at hs3
 clear h3 k3
 go_wp2_with fail
 obtain ⟨wE, hWE⟩ : ∃ W, st5 (w3) w.heap.size (.int .i64 3) (.slice none 0 0) (.int .i64 0) (.int .i64 0) (.slice none 0 0) = W := ⟨_, rfl⟩
 obtain ⟨r0, r1, r2, r3, r4, kE⟩ := xap (w3) w.heap.size y0 y1 y2 y3 y4 (.int .i64 3) (.slice none 0 0) (.int .i64 0) (.int .i64 0) (.slice none 0 0)
 rw [hWE] at r0 r1 r2 r3 r4 kE
 unfold st5 at hWE
 rw [hWE]
 have HKE := xa kE
 clear kE hWE y0 y1 y2 y3 y4
 refine bodyPost_ret (by simp [results, results119, go_sem, r0, r1, r2, r3, r4]; try rfl) rfl ?_
 exact xaF (v := ⟨3, .slice none 0 0, 0, 0, .slice none 0 0⟩) hpb HH.out.rb K3.out H3.out ⟨rfl, rfl, rfl, xbp, xbp, ⟨SlOf.nil _ _ _, fun p hp => by cases hp⟩, fun b hb => by simp [Value.ownBlock] at hb, ⟨[], SlOf.nil _ _ _, rfl⟩, fun b hb => by simp [Value.ownBlock] at hb⟩ HKE.out
theorem xn2 {f : PS -> T × PS} {rs : List Int} (hlen : rs.length <= 9000) (w : World) (pb : Nat) (rv : Value) (s : PS) (h : PaAt w pb rv rs s) (hr : pk rs s = 46) : xdC f rs w pb rv s := by
 have hpb := h.lt
 have hpos := (xaK (rs := rs) (s := s) (by omega)).1
 unfold xdC
 rw [show xaz f rs s = (xbw [(0, 9), (11, 1114111)], nx rs s) by unfold xaz; rw [if_neg (by omega), if_neg (by omega), if_neg (by omega), if_pos hr]]
 have HN := xa (fun (W : World) (hW : PaAt W pb rv rs s) => xbJ W pb rv rs s hW (by omega))
 have HH := xa h
 clear h
 go_enter func119, ntmps119
 go_wp2_with fail
 refine (HN.out _ (HH.out.keepsF (KI.out))).mono ?_
 rintro e w3 ⟨rfl, h3, k3⟩
 rw [hr]
 have H3 := xa h3
 have K3 := xa k3
 have hs3 := k3.size
 simp at hs3
 clear h3 k3
 go_wp2_with fail
 refine (xeI _ _).mono ?_
 rintro e w4 ⟨u4, rfl, h4⟩
 have R4 := xa (h4.read (by simp) (by intro p hp; simp at hp; subst hp; unfold in64; simp))
 have K4 := xa h4.2
 obtain ⟨ua, uc, rfl⟩ := xad h4.1
 clear h4
 go_wp2_with fail
 refine (xdL [(10, 10)] _ _ R4.out (by simp)).mono ?_
 rintro e w5 ⟨u5, out, rfl, hno, h5, hl5⟩
 obtain rfl : out = [(0, 9), (11, 1114111)] := xa3 _ _ hno.1 (by simp [Norm]) (fun r => by
  rw [hno.2]; apply Bool.eq_iff_iff.2; simp [has, mem, xaZ]; omega)
 obtain ⟨sa, sc, rfl⟩ := xad h5.1
 have hs4 := K4.out.size
 have hs5 := h5.2.size
 have KS : Hid (xaa (xam pb) (w.alloc (.cells #[.int .i64 0, .slice none 0 0, .int .i64 0, .int .i64 0, .slice none 0 0] 73)) w5) := xa (K3.out.trans ((K4.out.trans h5.2).mono (fun _ _ e => e.elim)))
 have HPS := xa (H3.out.keepsF (K4.out.trans h5.2))
 have HTS : Hid (TAt w5 (fun b => w.heap.size < b /\ b < w5.heap.size) ⟨1, .slice sa 2 sc, 0, 0, .slice none 0 0⟩ (xbw [(0, 9), (11, 1114111)])) := xa ((xeh h5.1 (by simp) (xiT hno.1)).keepsTo (xaa.refl (fun _ => False) _) (fun _ _ => id) (fun b hb => ⟨by have := hb.1; omega, hb.2⟩))
 clear hno h5 hl5
 simp only [List.length_cons, List.length_nil, Nat.zero_add]
 obtain ⟨sn, hsn⟩ : ∃ n, (2 : Nat) = n := ⟨_, rfl⟩
 simp only [Nat.reduceAdd, hsn] at HTS ⊢
 clear hsn
 go_wp2_with fail
 refine (xeg sa sn sc _).mono ?_
 rintro e w9 ⟨rfl, k9⟩
 have KX := xa (KS.out.trans (k9.mono (T := xam pb) (fun _ _ e => e.elim)))
 have HPX := xa (HPS.out.keepsF k9)
 have HTX := xa (HTS.out.keepsTo (Q := fun b => w.heap.size < b /\ b < w9.heap.size) k9 (fun _ _ => id) (fun b hb => ⟨hb.1, by have := k9.size; omega⟩))
 obtain ⟨⟨y0, y1, y2, y3, y4⟩, q0, q1, q2, q3, q4⟩ := xaC KX.out hpb
 clear k9
 unfold NV.val
 go_wp2_with fail
 obtain ⟨wE, hWE⟩ : ∃ W, st5 (w9) w.heap.size (.int .i64 1) (.slice sa sn sc) (.int .i64 0) (.int .i64 0) (.slice none 0 0) = W := ⟨_, rfl⟩
 obtain ⟨r0, r1, r2, r3, r4, kE⟩ := xap (w9) w.heap.size y0 y1 y2 y3 y4 (.int .i64 1) (.slice sa sn sc) (.int .i64 0) (.int .i64 0) (.slice none 0 0)
 rw [hWE] at r0 r1 r2 r3 r4 kE
 unfold st5 at hWE
 rw [hWE]
 have HKE := xa kE
 clear kE hWE y0 y1 y2 y3 y4
 refine bodyPost_ret (by simp [results, results119, go_sem, r0, r1, r2, r3, r4]; try rfl) rfl ?_
 exact xaF (v := ⟨1, .slice sa sn sc, 0, 0, .slice none 0 0⟩) hpb HH.out.rb KX.out HPX.out HTX.out HKE.out
theorem xku {f : PS -> T × PS} {rs : List Int} (hlen : rs.length <= 9000) (w : World) (pb : Nat) (rv : Value) (s : PS) (h : PaAt w pb rv rs s) (hr : pk rs s = 91) : xdC f rs w pb rv s := by
 have hpb := h.lt
 have hpos := (xaK (rs := rs) (s := s) (by omega)).1
 unfold xdC
 rw [show xaz f rs s = (xbw (clsL rs (nx rs s)), (clsR rs (nx rs s)).2) by unfold xaz; rw [if_neg (by omega), if_neg (by omega), if_neg (by omega), if_neg (by omega), if_pos hr]]
 have HN := xa (fun (W : World) (hW : PaAt W pb rv rs s) => xbJ W pb rv rs s hW (by omega))
 have HH := xa h
 clear h
 have hnx : (nx rs s).pos = s.pos + 1 := by rw [xjU (by omega)]
 have hpn : (nx rs s).pos <= 10000 := by omega
 obtain ⟨s1, hs1⟩ : ∃ x, nx rs s = x := ⟨_, rfl⟩
 rw [hs1] at hpn
 rw [hs1] at HN ⊢
 clear hnx hs1
 go_enter func119, ntmps119
 go_wp2_with fail
 refine (HN.out _ (HH.out.keepsF (KI.out))).mono ?_
 rintro e w3 ⟨rfl, h3, k3⟩
 rw [hr]
 have H3 := xa h3
 have K3 := xa k3
 have hs3 := k3.size
 simp at hs3
 clear h3 k3
 go_wp2_with fail
 refine (xmc _ _ _ _ _ H3.out (by omega) hpn).mono ?_
 rintro e w5 ⟨u5, rfl, h5, k5, hp5, hno⟩
 obtain ⟨sa, sc, rfl⟩ := xad h5
 have hs5 := k5.size
 have KS := xa (K3.out.trans k5)
 have HPS := xa hp5
 have HTS : Hid (TAt w5 (fun b => w.heap.size < b /\ b < w5.heap.size) ⟨1, .slice sa (clsL rs s1).length sc, 0, 0, .slice none 0 0⟩ (xbw (clsL rs s1))) := xa ((xeh h5 (by have := xnd hno; omega) (xiT hno)).keepsTo (xaa.refl (fun _ => False) _) (fun _ _ => id) (fun b hb => ⟨by have := hb.1; omega, hb.2⟩))
 clear hno h5 k5 hp5
 obtain ⟨sn, hsn⟩ : ∃ n, (clsL rs s1).length = n := ⟨_, rfl⟩
 rw [hsn] at HTS ⊢
 clear hsn
 go_wp2_with fail
 refine (xeg sa sn sc _).mono ?_
 rintro e w9 ⟨rfl, k9⟩
 have KX := xa (KS.out.trans (k9.mono (T := xam pb) (fun _ _ e => e.elim)))
 have HPX := xa (HPS.out.keepsF k9)
 have HTX := xa (HTS.out.keepsTo (Q := fun b => w.heap.size < b /\ b < w9.heap.size) k9 (fun _ _ => id) (fun b hb => ⟨hb.1, by have := k9.size; omega⟩))
 obtain ⟨⟨y0, y1, y2, y3, y4⟩, q0, q1, q2, q3, q4⟩ := xaC KX.out hpb
 clear k9
 unfold NV.val
 go_wp2_with fail
 obtain ⟨wE, hWE⟩ : ∃ W, st5 (w9) w.heap.size (.int .i64 1) (.slice sa sn sc) (.int .i64 0) (.int .i64 0) (.slice none 0 0) = W := ⟨_, rfl⟩
 obtain ⟨r0, r1, r2, r3, r4, kE⟩ := xap (w9) w.heap.size y0 y1 y2 y3 y4 (.int .i64 1) (.slice sa sn sc) (.int .i64 0) (.int .i64 0) (.slice none 0 0)
 rw [hWE] at r0 r1 r2 r3 r4 kE
 unfold st5 at hWE
 rw [hWE]
 have HKE := xa kE
 clear kE hWE y0 y1 y2 y3 y4
 refine bodyPost_ret (by simp [results, results119, go_sem, r0, r1, r2, r3, r4]; try rfl) rfl ?_
 exact xaF (v := ⟨1, .slice sa sn sc, 0, 0, .slice none 0 0⟩) hpb HH.out.rb KX.out HPX.out HTX.out HKE.out
theorem xn0 {f : PS -> T × PS} {rs : List Int} (hlen : rs.length <= 9000) (w : World) (pb : Nat) (rv : Value) (s : PS) (h : PaAt w pb rv rs s) (hr : pk rs s = 92) : xdC f rs w pb rv s := by
 have hpb := h.lt
 have hpos := (xaK (rs := rs) (s := s) (by omega)).1
 unfold xdC
 rw [show xaz f rs s = (xbw (escL rs (nx rs s)), escS rs (nx rs s)) by unfold xaz; rw [if_neg (by omega), if_neg (by omega), if_neg (by omega), if_neg (by omega), if_neg (by omega), if_pos hr]]
 have HN := xa (fun (W : World) (hW : PaAt W pb rv rs s) => xbJ W pb rv rs s hW (by omega))
 have HH := xa h
 clear h
 have hnx : (nx rs s).pos = s.pos + 1 := by rw [xjU (by omega)]
 have hpn : (nx rs s).pos + 1 <= 1000000 := by omega
 obtain ⟨s1, hs1⟩ : ∃ x, nx rs s = x := ⟨_, rfl⟩
 rw [hs1] at hpn
 rw [hs1] at HN ⊢
 clear hnx hs1
 go_enter func119, ntmps119
 go_wp2_with fail
 refine (HN.out _ (HH.out.keepsF (KI.out))).mono ?_
 rintro e w3 ⟨rfl, h3, k3⟩
 rw [hr]
 have H3 := xa h3
 have K3 := xa k3
 have hs3 := k3.size
 simp at hs3
 clear h3 k3
 go_wp2_with fail
 refine (xfF _ _ _ _ _ H3.out hpn).mono ?_
 rintro e w5 ⟨u5, rfl, h5, hp5, k5⟩
 have hel := xgb HH.out.rng s1
 obtain ⟨sa, sc, rfl⟩ := xad h5
 have hs5 := k5.size
 have KS := xa (K3.out.trans k5)
 have HPS := xa hp5
 have HTS : Hid (TAt w5 (fun b => w.heap.size < b /\ b < w5.heap.size) ⟨1, .slice sa (escL rs s1).length sc, 0, 0, .slice none 0 0⟩ (xbw (escL rs s1))) := xa ((xeh h5 (by omega) (fun p hp => by have := hel.2.2 p hp; unfold in64; omega)).keepsTo (xaa.refl (fun _ => False) _) (fun _ _ => id) (fun b hb => ⟨by have := hb.1; omega, hb.2⟩))
 clear hel h5 k5 hp5
 obtain ⟨sn, hsn⟩ : ∃ n, (escL rs s1).length = n := ⟨_, rfl⟩
 rw [hsn] at HTS ⊢
 clear hsn
 go_wp2_with fail
 refine (xeg sa sn sc _).mono ?_
 rintro e w9 ⟨rfl, k9⟩
 have KX := xa (KS.out.trans (k9.mono (T := xam pb) (fun _ _ e => e.elim)))
 have HPX := xa (HPS.out.keepsF k9)
 have HTX := xa (HTS.out.keepsTo (Q := fun b => w.heap.size < b /\ b < w9.heap.size) k9 (fun _ _ => id) (fun b hb => ⟨hb.1, by have := k9.size; omega⟩))
 obtain ⟨⟨y0, y1, y2, y3, y4⟩, q0, q1, q2, q3, q4⟩ := xaC KX.out hpb
 clear k9
 unfold NV.val
 go_wp2_with fail
 obtain ⟨wE, hWE⟩ : ∃ W, st5 (w9) w.heap.size (.int .i64 1) (.slice sa sn sc) (.int .i64 0) (.int .i64 0) (.slice none 0 0) = W := ⟨_, rfl⟩
 obtain ⟨r0, r1, r2, r3, r4, kE⟩ := xap (w9) w.heap.size y0 y1 y2 y3 y4 (.int .i64 1) (.slice sa sn sc) (.int .i64 0) (.int .i64 0) (.slice none 0 0)
 rw [hWE] at r0 r1 r2 r3 r4 kE
 unfold st5 at hWE
 rw [hWE]
 have HKE := xa kE
 clear kE hWE y0 y1 y2 y3 y4
 refine bodyPost_ret (by simp [results, results119, go_sem, r0, r1, r2, r3, r4]; try rfl) rfl ?_
 exact xaF (v := ⟨1, .slice sa sn sc, 0, 0, .slice none 0 0⟩) hpb HH.out.rb KX.out HPX.out HTX.out HKE.out
theorem xkt {f : PS -> T × PS} {rs : List Int} (hlen : rs.length <= 9000) (w : World) (pb : Nat) (rv : Value) (s : PS) (h : PaAt w pb rv rs s) (hr : 0 <= pk rs s /\ pk rs s ≠ 40 /\ pk rs s ≠ 94 /\ pk rs s ≠ 36 /\ pk rs s ≠ 46 /\ pk rs s ≠ 91 /\ pk rs s ≠ 92) : xdC f rs w pb rv s := by
 have hpb := h.lt
 have hpos := (xaK (rs := rs) (s := s) (by omega)).1
 unfold xdC
 rw [show xaz f rs s = (xbw [(pk rs s, pk rs s)], ⟨s.pos + 1, s.deep, (nx rs s).bad || amg sgL (pk rs s)⟩) by unfold xaz; rw [if_neg hr.2.1, if_neg hr.2.2.1, if_neg hr.2.2.2.1, if_neg hr.2.2.2.2.1, if_neg hr.2.2.2.2.2.1, if_neg hr.2.2.2.2.2.2]]
 have HN := xa (fun (W : World) (hW : PaAt W pb rv rs s) => xbJ W pb rv rs s hW (by omega))
 have HH := xa h
 clear h
 have hb : s.bad = false := (xaK (rs := rs) (s := s) (by omega)).2
 have hnx : nx rs s = ⟨s.pos + 1, s.deep, false⟩ := by rw [xjU (by omega), hb]
 rw [hnx] at HN ⊢
 have hle := xlf HH.out
 obtain ⟨h0, m1, m2, m3, m4, m5, m6⟩ := hr
 have f1 : (pk rs s == 40) = false := by simpa using m1
 have f2 : (pk rs s == 94) = false := by simpa using m2
 have f3 : (pk rs s == 36) = false := by simpa using m3
 have f4 : (pk rs s == 46) = false := by simpa using m4
 have f5 : (pk rs s == 91) = false := by simpa using m5
 have f6 : (pk rs s == 92) = false := by simpa using m6
 have HG : Hid (∀ W, Calls prog 136 #[.string ⟨#[46, 94, 36, 124, 40, 41, 91, 93, 123, 125, 42, 43, 63, 92]⟩, .int .i64 (pk rs s)] W fun e w' => e = .returned (.bool (amg sgL (pk rs s))) /\ W = w') := xa (fun W => xcH ⟨#[46, 94, 36, 124, 40, 41, 91, 93, 123, 125, 42, 43, 63, 92]⟩ (pk rs s) W)
 obtain ⟨q, hq⟩ : ∃ q, amg sgL (pk rs s) = q := ⟨_, rfl⟩
 rw [hq] at HG ⊢
 clear hq hnx m1 m2 m3 m4 m5 m6
 simp only [Bool.false_or]
 generalize pk rs s = r at *
 go_enter func119, ntmps119
 go_wp2_with fail
 refine (HN.out _ (HH.out.keepsF (KI.out))).mono ?_
 rintro e w3 ⟨rfl, h3, k3⟩
 have c3 := h3.c3
 have r3 := h3.fr 3
 have hb3 := h3.lt
 simp only at c3
 have H3 := xa h3
 have K3 := xa k3
 have hs3 := k3.size
 simp at hs3
 clear h3 k3
 go_wp2_with fail
 refine (HG.out _).mono ?_
 rintro e w4 ⟨rfl, rfl⟩
 have HP4 : Hid (PaAt (w3.setCell ⟨pb, 3, none⟩ (.bool q)) pb rv rs ⟨s.pos + 1, s.deep, q⟩) := xa (H3.out.setBad q)
 have K4 := xa (K3.out.set (p := ⟨pb, 3, none⟩) rfl (.bool q))
 go_wp2_with fail
 refine (xeI _ _).mono ?_
 rintro e w5 ⟨u5, rfl, h5⟩
 obtain ⟨sa, sc, rfl⟩ := xad h5.1
 have hs5 := h5.2.size
 have hs4 := K4.out.size
 simp at hs4
 have KS : Hid (xaa (xam pb) (w.alloc (.cells #[.int .i64 0, .slice none 0 0, .int .i64 0, .int .i64 0, .slice none 0 0] 73)) w5) := xa (K4.out.trans (h5.2.mono (fun _ _ e => e.elim)))
 have HPS := xa (HP4.out.keepsF h5.2)
 have HTS : Hid (TAt w5 (fun b => w.heap.size < b /\ b < w5.heap.size) ⟨1, .slice sa 1 sc, 0, 0, .slice none 0 0⟩ (xbw [(r, r)])) := xa ((xeh h5.1 (by simp) (by intro p hp; simp at hp; subst hp; unfold in64; simp only; omega)).keepsTo (xaa.refl (fun _ => False) _) (fun _ _ => id) (fun b hb => ⟨by have := hb.1; simp at this; omega, hb.2⟩))
 clear h5
 obtain ⟨sn, hsn⟩ : ∃ n, (1 : Nat) = n := ⟨_, rfl⟩
 simp only [List.length_cons, List.length_nil, Nat.zero_add, hsn] at HTS ⊢
 clear hsn
 go_wp2_with fail
 refine (xeg sa sn sc _).mono ?_
 rintro e w9 ⟨rfl, k9⟩
 have KX := xa (KS.out.trans (k9.mono (T := xam pb) (fun _ _ e => e.elim)))
 have HPX := xa (HPS.out.keepsF k9)
 have HTX := xa (HTS.out.keepsTo (Q := fun b => w.heap.size < b /\ b < w9.heap.size) k9 (fun _ _ => id) (fun b hb => ⟨hb.1, by have := k9.size; omega⟩))
 obtain ⟨⟨y0, y1, y2, y3, y4⟩, q0, q1, q2, q3, q4⟩ := xaC KX.out hpb
 clear k9
 unfold NV.val
 go_wp2_with fail
 obtain ⟨wE, hWE⟩ : ∃ W, st5 (w9) w.heap.size (.int .i64 1) (.slice sa sn sc) (.int .i64 0) (.int .i64 0) (.slice none 0 0) = W := ⟨_, rfl⟩
 obtain ⟨r0, r1, r2, r3, r4, kE⟩ := xap (w9) w.heap.size y0 y1 y2 y3 y4 (.int .i64 1) (.slice sa sn sc) (.int .i64 0) (.int .i64 0) (.slice none 0 0)
 rw [hWE] at r0 r1 r2 r3 r4 kE
 unfold st5 at hWE
 rw [hWE]
 have HKE := xa kE
 clear kE hWE y0 y1 y2 y3 y4
 refine bodyPost_ret (by simp [results, results119, go_sem, r0, r1, r2, r3, r4]; try rfl) rfl ?_
 exact xaF (v := ⟨1, .slice sa sn sc, 0, 0, .slice none 0 0⟩) hpb HH.out.rb KX.out HPX.out HTX.out HKE.out
theorem xn3 {f : PS -> T × PS} {rs : List Int} {C D : PS -> Prop} (H : xmy f rs C D) (w : World) (pb : Nat) (rv : Value) (s : PS) (h : PaAt w pb rv rs s) (hi : Inv rs s) (hd : D s) (hr : 0 <= pk rs s) : xdC f rs w pb rv s := by
 by_cases h1 : pk rs s = 40
 · exact xks H w pb rv s h hi hd h1
 by_cases h2 : pk rs s = 94
 · exact xkv H.len w pb rv s h h2
 by_cases h3 : pk rs s = 36
 · exact xn1 H.len w pb rv s h h3
 by_cases h4 : pk rs s = 46
 · exact xn2 H.len w pb rv s h h4
 by_cases h5 : pk rs s = 91
 · exact xku H.len w pb rv s h h5
 by_cases h6 : pk rs s = 92
 · exact xn0 H.len w pb rv s h h6
 exact xkt H.len w pb rv s h ⟨hr, h1, h2, h3, h4, h5, h6⟩
def Kq (lo : Nat) (D : Nat -> Prop) (hs : Nat) (oa op : Option Nat) : Nat -> Prop := fun b => (D b \/ lo < b /\ b < hs) /\ oa ≠ some b /\ op ≠ some b
structure xaJ (w wr : World) (D : Nat -> Prop) (av : Value) (al : List T) (us : List NV) (pv : Value) (ps : List T) (vs : List NV) : Prop where
 aown : wr.ownsRow (w.heap.size + 1) 73 5 av al.length (cellsOf 5 encN us)
 pown : wr.ownsRow (w.heap.size + 1) 73 5 pv ps.length (cellsOf 5 encN vs)
 sep : ∀ b, av.ownBlock = some b -> pv.ownBlock = some b -> False
 akids : FAt wr (Kq w.heap.size D wr.heap.size av.ownBlock pv.ownBlock) (F.ofL al) us
 pkids : FAt wr (Kq w.heap.size D wr.heap.size av.ownBlock pv.ownBlock) (F.ofL ps) vs
 keep : KF (w.alloc (.cells #[.int .i64 0, .slice none 0 0, .int .i64 0, .int .i64 0, .slice none 0 0] 73)) wr
theorem xaJ.size {w wr : World} {D : Nat -> Prop} {av pv : Value} {al ps : List T} {us vs : List NV} (h : xaJ w wr D av al us pv ps vs) : w.heap.size < wr.heap.size := by
 have := h.keep.size; simp at this; omega
theorem xaJ.start {w wr : World} (D : Nat -> Prop) (K : KF (w.alloc (.cells #[.int .i64 0, .slice none 0 0, .int .i64 0, .int .i64 0, .slice none 0 0] 73)) wr) : xaJ w wr D (.slice none 0 0) [] [] (.slice none 0 0) [] [] :=
 ⟨World.ownsRow_nil _ _ _ _, World.ownsRow_nil _ _ _ _, fun b hb => by simp [Value.ownBlock] at hb, rfl, rfl, K⟩
theorem xaJ.old {w wr : World} {D : Nat -> Prop} {av pv : Value} {al ps : List T} {us vs : List NV} (h : xaJ w wr D av al us pv ps vs) (hD : ∀ b, D b -> b < w.heap.size) {b : Nat} (hb : D b) (hs : Nat) : Kq w.heap.size D hs av.ownBlock pv.ownBlock b :=
 ⟨Or.inl hb, fun e => by have := xab h.aown b e; have := hD b hb; omega, fun e => by have := xab h.pown b e; have := hD b hb; omega⟩
theorem xaJ.new {w wr : World} {D : Nat -> Prop} {av pv : Value} {al ps : List T} {us vs : List NV} (h : xaJ w wr D av al us pv ps vs) {b hs : Nat} (h1 : wr.heap.size <= b) (h2 : b < hs) : Kq w.heap.size D hs av.ownBlock pv.ownBlock b :=
 ⟨Or.inr ⟨by have := h.size; omega, h2⟩, fun e => by have := xaM h.aown b e; omega, fun e => by have := xaM h.pown b e; omega⟩
theorem xaJ.keepF {w wr w' : World} {D : Nat -> Prop} {av pv : Value} {al ps : List T} {us vs : List NV} (h : xaJ w wr D av al us pv ps vs) (K : KF wr w') : xaJ w w' D av al us pv ps vs :=
 ⟨xag h.aown K (fun _ _ => id), xag h.pown K (fun _ _ => id), h.sep, h.akids.keepsTo K (fun _ _ => id) (fun b hb => ⟨hb.1.imp id (fun x => ⟨x.1, Nat.lt_of_lt_of_le x.2 K.size⟩), hb.2⟩),
  h.pkids.keepsTo K (fun _ _ => id) (fun b hb => ⟨hb.1.imp id (fun x => ⟨x.1, Nat.lt_of_lt_of_le x.2 K.size⟩), hb.2⟩), h.keep.trans K⟩
theorem xaJ.symm {w wr : World} {D : Nat -> Prop} {av pv : Value} {al ps : List T} {us vs : List NV} (h : xaJ w wr D av al us pv ps vs) : xaJ w wr D pv ps vs av al us :=
 ⟨h.pown, h.aown, fun b x y => h.sep b y x, h.pkids.keepsTo (xaa.refl (fun _ => False) _) (fun _ _ => id) (fun b hb => ⟨hb.1, hb.2.2, hb.2.1⟩), h.akids.keepsTo (xaa.refl (fun _ => False) _) (fun _ _ => id) (fun b hb => ⟨hb.1, hb.2.2, hb.2.1⟩), h.keep⟩
theorem xaJ.dropP {w wr : World} {D : Nat -> Prop} {av pv : Value} {al ps : List T} {us vs : List NV} (h : xaJ w wr D av al us pv ps vs) : xaJ w wr D av al us (.slice none 0 0) [] [] :=
 ⟨h.aown, World.ownsRow_nil _ _ _ _, fun b x y => by simp [Value.ownBlock] at y, h.akids.keepsTo (xaa.refl (fun _ => False) _) (fun _ _ => id) (fun b hb => ⟨hb.1, hb.2.1, by simp [Value.ownBlock]⟩), rfl, h.keep⟩
theorem xdb (v : NV) : [Value.int .i64 v.op, v.sv, .int .i64 v.mn, .int .i64 v.mx, v.kv] = cellsOf 5 encN [v] := by simp [cellsOf, xfG]
theorem xaJ.push {w wr wP w9 : World} {D : Nat -> Prop} {av pv v' : Value} {al ps : List T} {us vs : List NV} {v : NV} {t : T} (hD : ∀ b, D b -> b < w.heap.size) (h : xaJ w wr D av al us pv ps vs) (K : KF wr wP)
 (hT : TAt wP (Kq w.heap.size D wP.heap.size av.ownBlock pv.ownBlock) v t) (hown : w9.ownsRow (w.heap.size + 1) 73 5 v' (ps.length + 1) (cellsOf 5 encN vs ++ [Value.int .i64 v.op, v.sv, .int .i64 v.mn, .int .i64 v.mx, v.kv]))
 (hg : wP.grownBy w9 pv.ownBlock) {H : Nat} (hloc : v'.ownBlock = pv.ownBlock \/ v'.ownBlock = some H) (hH : wP.heap.size <= H) : xaJ w w9 D av al us v' (ps ++ [t]) (vs ++ [v]) := by
 have hP := h.keepF K
 have k9 : xaa (fun b => pv.ownBlock = some b) wP w9 := (xaa.refl _ _).grown hg (fun b hb => Or.inl hb)
 have hs9 := k9.size
 have hsz := hP.size
 have e1 : ∀ b, Kq w.heap.size D wP.heap.size av.ownBlock pv.ownBlock b -> Kq w.heap.size D w9.heap.size av.ownBlock v'.ownBlock b := fun b hb => ⟨hb.1.imp id (fun x => ⟨x.1, by omega⟩), hb.2.1, fun e => by
  rcases hloc with h1 | h1
  · exact hb.2.2 (h1 ▸ e)
  rw [h1] at e
  have := Option.some.inj e
  rcases hb.1 with h2 | ⟨_, h2⟩
  · have := hD b h2; omega
  omega⟩
 refine ⟨xag hP.aown k9 (fun b x y => hP.sep b x y), ?_, fun b x y => ?_, hP.akids.keepsTo k9 (fun b hb e => hb.2.2 e) e1, ?_, ?_⟩
 · rw [List.length_append, xah, <- xdb]; exact hown
 · rcases hloc with h1 | h1
   · exact hP.sep b x (h1 ▸ y)
   rw [h1] at y
   have := Option.some.inj y
   have := xaM hP.aown b x
   omega
 · exact FAt.snoc (hP.pkids.keepsTo k9 (fun b hb e => hb.2.2 e) e1) (hT.keepsTo k9 (fun b hb e => hb.2.2 e) e1)
 exact hP.keep.trans2 k9 (fun b hb e => by have := xab hP.pown b e; simp at hb; omega)
theorem xaJ.slofP {w wr : World} {D : Nat -> Prop} {av pv : Value} {al ps : List T} {us vs : List NV} (h : xaJ w wr D av al us pv ps vs) (hl : ps.length <= 1000000) : SlOf 5 encN wr pv vs :=
 SlOf.ofOwn (by have := h.pown; rwa [<- h.pkids.len] at this) (by rw [h.pkids.len]; omega)
theorem xaJ.pvc_le {w wr : World} {D : Nat -> Prop} {n c : Nat} {av : Value} {pa : Option Addr} {al ps : List T} {us vs : List NV} (h : xaJ w wr D av al us (.slice pa n c) ps vs) : n <= c := by
 rcases h.pown.2 with ⟨e, _⟩ | ⟨g, cap, cur, e, _, _, h1, _⟩
 · injection e with _ e1 e2; omega
 injection e with _ e1 e2; omega
theorem FAt.init {w : World} {P : Nat -> Prop} {t : T} {v : NV} : ∀ {l : List T} {vs : List NV}, FAt w P (F.ofL (l ++ [t])) (vs ++ [v]) -> FAt w P (F.ofL l) vs /\ TAt w P v t := by
 intro l
 induction l with
 | nil =>
  intro vs h
  obtain ⟨v', vs', e, h1, h2⟩ := FAt.cons_iff.1 h
  have h3 : vs' = [] := h2
  subst h3
  cases vs with
  | nil => obtain rfl := (List.cons.inj e).1; exact ⟨rfl, h1⟩
  | cons a b => have := (List.cons.inj e).2; simp at this
 | cons u l ih =>
  intro vs h
  obtain ⟨v', vs', e, h1, h2⟩ := FAt.cons_iff.1 h
  cases vs with
  | nil =>
   have h3 := (List.cons.inj e).2
   have := h2.len
   rw [<- h3] at this
   simp at this
  | cons a b =>
   obtain ⟨rfl, rfl⟩ := List.cons.inj e
   obtain ⟨h4, h5⟩ := ih h2
   exact ⟨FAt.cons_iff.2 ⟨_, _, rfl, h1, h4⟩, h5⟩
theorem xm9 {w : World} {b1 b2 : Nat} {e : TypeId} {size : Nat} {v : Value} {n : Nat} {xs : List Value} (h : w.ownsRow b1 e size v n xs) (hb : b2 <= b1) : w.ownsRow b2 e size v n xs := by
 refine ⟨h.1, ?_⟩
 rcases h.2 with h2 | ⟨g, cap, cur, h2, h3, h4⟩
 · exact Or.inl h2
 exact Or.inr ⟨g, cap, cur, h2, Nat.le_trans hb h3, h4⟩
theorem xaJ.count {w wr wA w2 : World} {D : Nat -> Prop} {av pv : Value} {al ps0 : List T} {us vs0 : List NV} {tn : T} {vn : NV} (hD : ∀ b, D b -> b < w.heap.size) (hR : xaJ w wr D av al us pv (ps0 ++ [tn]) (vs0 ++ [vn])) (KA : KF wr wA) (K2 : KF wA w2)
 {g2 cap2 g77 N : Nat} {XS : List Value} {mm xx : Int} (hm : in64 mm) (hx : in64 xx) (hN : N = ps0.length + 1) (hXS : XS = cellsOf 5 encN vs0)
 (hown2 : w2.ownsRow wA.heap.size 73 5 (.slice (some ⟨g2, 0, none⟩) N cap2) N (XS ++ [.int .i64 6, .slice none 0 0, .int .i64 mm, .int .i64 xx, .slice (some ⟨g77, 0, none⟩) 1 1]))
 (hk : ∀ j, j < 5 -> w2.cell? ⟨g77, j, none⟩ = some (encN vn j)) (h77 : wA.heap.size <= g77) (hne : g2 ≠ g77) :
 xaJ w w2 D av al us (.slice (some ⟨g2, 0, none⟩) N cap2) (ps0 ++ [⟨6, [], mm, xx, F.ofL [tn]⟩]) (vs0 ++ [⟨6, .slice none 0 0, mm, xx, .slice (some ⟨g77, 0, none⟩) 1 1⟩]) := by
 have h2 := xab hown2 g2 rfl
 have h3 := xaM hown2 g2 rfl
 have h4 : g77 < w2.heap.size := xal (hk 0 (by omega))
 have hsz := hR.size
 have hs1 := KA.size
 have hs2 := K2.size
 have K := KA.trans K2
 have hW := hR.keepF K
 subst hN
 subst hXS
 obtain ⟨hF, hT⟩ := FAt.init hR.pkids
 have e1 : ∀ b, Kq w.heap.size D wr.heap.size av.ownBlock pv.ownBlock b -> Kq w.heap.size D w2.heap.size av.ownBlock (Value.slice (some ⟨g2, 0, none⟩) (ps0.length + 1) cap2).ownBlock b := fun b hb => ⟨hb.1.imp id (fun x => ⟨x.1, by omega⟩), hb.2.1, fun e => by
  have e : g2 = b := Option.some.inj e
  rcases hb.1 with h | ⟨_, h⟩
  · have := hD b h; omega
  omega⟩
 have hTn : TAt w2 (Kq w.heap.size D w2.heap.size av.ownBlock (Value.slice (some ⟨g2, 0, none⟩) (ps0.length + 1) cap2).ownBlock) ⟨6, .slice none 0 0, mm, xx, .slice (some ⟨g77, 0, none⟩) 1 1⟩ ⟨6, [], mm, xx, F.ofL [tn]⟩ := by
  refine ⟨rfl, rfl, rfl, hm, hx, ⟨SlOf.nil _ _ _, fun p hp => by cases hp⟩, fun b hb => by simp [Value.ownBlock] at hb, ⟨[vn], ⟨_, 1, rfl, ⟨by simp, fun h => by cases h⟩, by simp, fun _ => ⟨g77, 0, rfl, fun i x hx j hj => ?_⟩⟩, FAt.cons_iff.2 ⟨vn, [], rfl, hT.keepsTo K (fun _ _ => id) e1, rfl⟩⟩, fun b hb => ?_⟩
  · rcases i with _ | i
    · obtain rfl : vn = x := by simpa using hx
      simpa using hk j hj
    simp at hx
  have e : g77 = b := Option.some.inj hb
  subst e
  exact ⟨Or.inr ⟨by omega, h4⟩, fun e => by have := xaM hR.aown _ e; omega, fun e => hne (Option.some.inj e)⟩
 refine ⟨hW.aown, ?_, fun b x y => ?_, hR.akids.keepsTo K (fun _ _ => id) e1, FAt.snoc (hF.keepsTo K (fun _ _ => id) e1) hTn, hW.keep⟩
 · rw [List.length_append, xah, <- xdb]; exact xm9 hown2 (by omega)
 have h5 := xaM hR.aown b x
 have h6 : g2 = b := Option.some.inj y
 omega
theorem xbm {w : World} {base H : Nat} (hb : base <= w.heap.size) (hH : w.heap.size = H) : (w.alloc (.cells #[] 73)).ownsRow base 73 5 (.slice (some ⟨H, 0, none⟩) 0 0) 0 [] := by
 subst hH
 exact ⟨rfl, Or.inr ⟨w.heap.size, 0, _, rfl, hb, heap_alloc_new w _, Nat.le_refl _, by unfold maxLen; decide, rfl, rfl⟩⟩
theorem xlC {W : World} {G : Nat} {v0 v1 v2 v3 v4 : Value} (h0 : W.cell? ⟨G, 0, none⟩ = some v0) (h1 : W.cell? ⟨G, 1, none⟩ = some v1) (h2 : W.cell? ⟨G, 2, none⟩ = some v2) (h3 : W.cell? ⟨G, 3, none⟩ = some v3) (h4 : W.cell? ⟨G, 4, none⟩ = some v4) :
 ∀ j u, [v0, v1, v2, v3, v4][j]? = some u -> W.cell? ((⟨G, 0, none⟩ : Addr).add j) = some u := by
 intro j u hj
 have hadd : (⟨G, 0, none⟩ : Addr).add j = ⟨G, j, none⟩ := by unfold Addr.add; split <;> simp_all
 rw [hadd]
 match j, hj with
 | 0, hj => simp at hj; subst hj; exact h0
 | 1, hj => simp at hj; subst hj; exact h1
 | 2, hj => simp at hj; subst hj; exact h2
 | 3, hj => simp at hj; subst hj; exact h3
 | 4, hj => simp at hj; subst hj; exact h4
 | j + 5, hj => simp at hj
theorem xao {W w2 : World} {row : Option Nat} {a : Addr} {v : Value} (hg : W.grownBy w2 row) (h1 : a.block < W.heap.size) (h2 : some a.block ≠ row) (h : W.cell? a = some v) : w2.cell? a = some v := by
 rw [World.grownBy.cell_far hg a h1 h2]; exact h
theorem k5 {W : World} {G : Nat} {o m x : Int} {s k : Value} (h0 : W.cell? ⟨G, 0, none⟩ = some (.int .i64 o)) (h1 : W.cell? ⟨G, 1, none⟩ = some s) (h2 : W.cell? ⟨G, 2, none⟩ = some (.int .i64 m)) (h3 : W.cell? ⟨G, 3, none⟩ = some (.int .i64 x)) (h4 : W.cell? ⟨G, 4, none⟩ = some k) :
 ∀ j, j < 5 -> W.cell? ⟨G, j, none⟩ = some (encN ⟨o, s, m, x, k⟩ j) := by
 intro j hj
 match j, hj with
 | 0, _ => exact h0
 | 1, _ => exact h1
 | 2, _ => exact h2
 | 3, _ => exact h3
 | 4, _ => exact h4
theorem xg2 {W w2 : World} {row : Option Nat} {G : Nat} {v : NV} (h : ∀ j, j < 5 -> W.cell? ⟨G, j, none⟩ = some (encN v j)) (hg : W.grownBy w2 row) (hne : row ≠ some G) : ∀ j, j < 5 -> w2.cell? ⟨G, j, none⟩ = some (encN v j) := by
 intro j hj
 rw [World.grownBy.cell_far hg ⟨G, j, none⟩ (xal (h j hj)) (fun e => hne e.symm)]
 exact h j hj
theorem xaJ.news0 {w wr W : World} {D : Nat -> Prop} {n c g : Nat} {av : Value} {al ps0 : List T} {us vs0 : List NV} {tn : T} {vn : NV} (hR : xaJ w wr D av al us (.slice (some ⟨g, 0, none⟩) n c) (ps0 ++ [tn]) (vs0 ++ [vn])) (K : KF wr W) :
 ∀ j u, (cellsOf 5 encN vs0)[j]? = some u -> W.cell? ((⟨g, 0, none⟩ : Addr).add j) = some u := by
 intro j u hj
 have hadd : (⟨g, 0, none⟩ : Addr).add j = ⟨g, j, none⟩ := by unfold Addr.add; split <;> simp_all
 rw [hadd]
 have hl := hR.pkids.len
 obtain ⟨_, _, e⟩ := xad hR.pown
 obtain ⟨_, rfl, _⟩ := Value.slice.inj e
 simp at hl
 have hjl : j < vs0.length * 5 := by rw [<- xai 5 encN vs0]; exact (List.getElem?_eq_some_iff.1 hj).1
 refine K.cell ?_ id
 rw [hR.pown.cellAt j (by simp; omega), xah, List.getElem?_append_left (by rw [xai]; omega), hj]
theorem xlr {w : World} {P : Nat -> Prop} : ∀ {l : List T} {vs : List NV}, FAt w P (F.ofL l) vs -> ∀ u ∈ cellsOf 5 encN vs, u.oneCell' = true := by
 intro l
 induction l with
 | nil => intro vs h u hu; have h : vs = [] := h; subst h; simp [cellsOf] at hu
 | cons t l ih =>
  intro vs h u hu
  obtain ⟨v, vs', rfl, h1, h2⟩ := FAt.cons_iff.1 h
  rw [show v :: vs' = [v] ++ vs' from rfl, xah, List.mem_append] at hu
  rcases hu with hu | hu
  · obtain ⟨o, a1, n1, c1, m, x, a2, n2, c2, rfl⟩ := NV.form h1
    rw [<- xdb] at hu
    simp at hu
    rcases hu with rfl | rfl | rfl | rfl | rfl <;> rfl
  exact ih h2 u hu
def xkz (w : World) (D : Nat -> Prop) (G : Option T) (e : Ending) (w' : World) : Prop :=
 match G with
 | none => e = .returned (.tuple #[NV.val ⟨0, .slice none 0 0, 0, 0, .slice none 0 0⟩, .bool false]) /\ KF w w'
 | some t => ∃ v : NV, e = .returned (.tuple #[v.val, .bool true]) /\ TAt w' (fun b => D b \/ w.heap.size <= b /\ b < w'.heap.size) v t /\ KF w w'
def TrR (G : Option T) (n : Nat) (d : Int) (ts : List Tok) (D : Nat -> Prop) (w : World) (av pv lov iv : Value) (wr : World) : Prop :=
 ∃ m i al us ps vs lo, iv = .int .i64 (i : Nat) /\ lov = .bool lo /\ xaJ w wr D av al us pv ps vs /\ (lo = true -> ps ≠ []) /\ al.length <= i /\ ps.length <= i /\ m <= n /\
  ((i <= ts.length /\ ts.length < m + i /\ xaG m d (ts.drop i) al ps lo = G) \/ (i = ts.length + 1 /\ G = some (xa4 5 al)))
theorem xmH (n : Nat) (d : Int) (s : LI) (r : List Tok) (al ps : List T) (lo : Bool) : xaG (n + 1) d (.pt s :: r) al ps lo = xaG n d r al (ps ++ [xbw s]) true := rfl
theorem xfP (n : Nat) (d m x : Int) (r : List Tok) (al ps : List T) (lo : Bool) : xaG (n + 1) d (.ct m x :: r) al ps lo = if lo = true then xaG n d r al (repT ps m x) false else none := rfl
theorem xkL (n : Nat) (d : Int) (al ps : List T) (lo : Bool) : xaG (n + 1) d [] al ps lo = some (xa4 5 (al ++ [xa4 4 ps])) := rfl
theorem xkM (n : Nat) (d : Int) (r : List Tok) (al ps : List T) (lo : Bool) : xaG (n + 1) d (.sg 124 :: r) al ps lo = xaG n d r (al ++ [xa4 4 ps]) [] false := rfl
theorem xmI (n : Nat) (d : Int) (r : List Tok) (al ps : List T) (lo : Bool) : xaG (n + 1) d (.sg 94 :: r) al ps lo = xaG n d r al (ps ++ [⟨2, [], 0, 0, .nil⟩]) false := rfl
theorem xmK (n : Nat) (d : Int) (r : List Tok) (al ps : List T) (lo : Bool) : xaG (n + 1) d (.sg 36 :: r) al ps lo = xaG n d r al (ps ++ [⟨3, [], 0, 0, .nil⟩]) false := rfl
theorem xmJ (n : Nat) (d : Int) (r : List Tok) (al ps : List T) (lo : Bool) : xaG (n + 1) d (.sg 41 :: r) al ps lo = none := rfl
theorem xio (n : Nat) (d : Int) (r : List Tok) (al ps : List T) (lo : Bool) : xaG (n + 1) d (.sg 40 :: r) al ps lo = (match xaD 0 r with
 | none => none
 | some (l1, r') => if 10 < d + 1 then none else match xaG n (d + 1) l1 [] [] false with
  | none => none
  | some t => xaG n d r' al (ps ++ [t]) true) := rfl
theorem xcY {G : Option T} {n m i j : Nat} {d : Int} {ts : List Tok} {D : Nat -> Prop} {w w9 : World} {av pv lov iv : Value} {al ps : List T} {us vs : List NV} {lo : Bool} (hR : xaJ w w9 D av al us pv ps vs) (hm : m + 1 <= n) (hi : ts.length < m + 1 + i) (hij : i < j) (hj : j <= ts.length)
 (hG : xaG m d (ts.drop j) al ps lo = G) (hlo : lo = true -> ps ≠ []) (ha : al.length <= j) (hp : ps.length <= j) (e1 : iv = .int .i64 (j : Nat)) (e2 : lov = .bool lo) : TrR G n d ts D w av pv lov iv w9 :=
 ⟨m, j, al, us, ps, vs, lo, e1, e2, hR, hlo, ha, hp, by omega, Or.inl ⟨hj, by omega, hG⟩⟩
theorem TAt.bare (w : World) (P : Nat -> Prop) (op : Int) : TAt w P ⟨op, .slice none 0 0, 0, 0, .slice none 0 0⟩ ⟨op, [], 0, 0, .nil⟩ :=
 ⟨rfl, rfl, rfl, xbp, xbp, ⟨SlOf.nil _ _ _, fun p hp => by cases hp⟩, fun b hb => by simp [Value.ownBlock] at hb, ⟨[], SlOf.nil _ _ _, rfl⟩, fun b hb => by simp [Value.ownBlock] at hb⟩
theorem TAt.char {w : World} {P : Nat -> Prop} {sv : Value} {s : LI} (h : RSl w sv s) (hb : ∀ b, sv.ownBlock = some b -> P b) : TAt w P ⟨1, sv, 0, 0, .slice none 0 0⟩ (xbw s) :=
 ⟨rfl, rfl, rfl, xbp, xbp, h, hb, ⟨[], SlOf.nil _ _ _, rfl⟩, fun b hb => by simp [Value.ownBlock] at hb⟩
theorem xbM (w : World) (o : Obj) (cs : List Value) (ty : TypeId) : ∀ j u, cs[j]? = some u -> ((w.alloc o).alloc (.cells cs.toArray ty)).cell? ((⟨w.heap.size + 1, 0, none⟩ : Addr).add j) = some u := by
 intro j u h
 have := xaq (w.alloc o) cs ty j u h
 simpa using this
def altC : List Cd -> Nat -> Nat -> List Ins
 | [], _, _ => []
 | [p], b, _ => p.1 b
 | p :: p2 :: r, b, E => ⟨2, [], b + 1, b + p.2 + 2⟩ :: (p.1 (b + 1) ++ ⟨2, [], E, E⟩ :: altC (p2 :: r) (b + p.2 + 2) E)
def altN : List Cd -> Nat
 | [] => 0
 | [p] => p.2
 | p :: p2 :: r => p.2 + 2 + altN (p2 :: r)
theorem xjg : ∀ (q : List Cd), (∀ p ∈ q, ∀ b, (p.1 b).length = p.2) -> ∀ b E, (altC q b E).length = altN q
 | [], _, _, _ => rfl
 | [p], h, b, _ => h p (by simp) b
 | p :: p2 :: r, h, b, E => by
  simp only [altC, altN, List.length_cons, List.length_append, h p (by simp), xjg (p2 :: r) (fun x hx => h x (by simp [hx]))]
  omega
theorem xmu : ∀ (q : List Cd), (∀ p ∈ q, ∀ (b k : Nat) (i : Ins), (p.1 b)[k]? = some i -> okG b (b + p.2) i) -> (∀ p ∈ q, ∀ b, (p.1 b).length = p.2) -> ∀ (b E k : Nat) (i : Ins), b + altN q <= E -> (altC q b E)[k]? = some i -> okG b E i
 | [], _, _, _, _, _, _, _, h => by simp [altC] at h
 | [p], hq, _, b, E, k, i, hE, h => (hq p (by simp) b k i h).mono (Nat.le_refl _) hE
 | p :: p2 :: r, hq, hl, b, E, k, i, hE, h => by
  simp only [altN] at hE
  rw [altC] at h
  rcases k with _ | k
  · obtain rfl : (⟨2, [], b + 1, b + p.2 + 2⟩ : Ins) = i := by simpa using h
    exact Or.inr ⟨rfl, ⟨by simp, by simp; omega⟩, by simp; omega, by simp; omega⟩
  rw [List.getElem?_cons_succ] at h
  rcases xdU h with h | ⟨_, h⟩
  · exact (hq p (by simp) (b + 1) k i h).mono (by omega) (by omega)
  generalize k - (p.1 (b + 1)).length = k' at h
  rcases k' with _ | k'
  · obtain rfl : (⟨2, [], E, E⟩ : Ins) = i := by simpa using h
    exact Or.inr ⟨rfl, ⟨by simp; omega, by simp⟩, by simp; omega, by simp⟩
  rw [List.getElem?_cons_succ] at h
  exact (xmu (p2 :: r) (fun x hx => hq x (by simp [hx])) (fun x hx => hl x (by simp [hx])) (b + p.2 + 2) E k' i (by omega) h).mono (by omega) (Nat.le_refl _)
def xcv (es : List Nat) (E : Nat) (l : List Ins) : List Ins := es.foldl (fun l e => l.set e ⟨2, [], E, E⟩) l
theorem xeD : ∀ (es : List Nat) (E : Nat) (l : List Ins), (xcv es E l).length = l.length
 | [], _, _ => rfl
 | e :: es, E, l => by
  show (xcv es E (l.set e _)).length = _
  rw [xeD es E, List.length_set]
theorem xeE : ∀ (es : List Nat) (E : Nat) (l m : List Ins), (∀ e ∈ es, e < l.length) -> xcv es E (l ++ m) = xcv es E l ++ m
 | [], _, _, _, _ => rfl
 | e :: es, E, l, m, h => by
  show xcv es E ((l ++ m).set e _) = xcv es E (l.set e _) ++ m
  rw [List.set_append_left _ _ (h e (by simp)), xeE es E _ m (fun x hx => by rw [List.length_set]; exact h x (by simp [hx]))]
theorem xjP (es : List Nat) (e E : Nat) (l : List Ins) : xcv (es ++ [e]) E l = (xcv es E l).set e ⟨2, [], E, E⟩ := by
 unfold xcv; rw [List.foldl_append]; rfl
theorem xjO (es : List Nat) (E : Nat) (l c : List Ins) (y : Nat) (h : ∀ e ∈ es, e < l.length) : xcv (es ++ [l.length + 1 + c.length]) E (l ++ ⟨2, [], l.length + 1, y⟩ :: (c ++ [⟨2, [], 0, 0⟩])) = xcv es E l ++ ⟨2, [], l.length + 1, y⟩ :: (c ++ [⟨2, [], E, E⟩]) := by
 rw [xjP, xeE es E l _ h, List.set_append_right _ _ (by rw [xeD]; omega), xeD, show l.length + 1 + c.length - l.length = c.length + 1 by omega, List.set_cons_succ, List.set_append_right _ _ (Nat.le_refl _), Nat.sub_self]
 rfl
def ownN (w : World) (v : Value) (l : List Nat) : Prop := w.ownsRow 0 3 1 v l.length (l.map fun n : Nat => Value.int .i64 (n : Int))
structure MkE (B : Nat -> Prop) (w : World) (mb : Nat) (is : List Ins) (ev : Value) (es : List Nat) : Prop where
 mkr : MkAt (fun b => B b /\ ev.ownBlock ≠ some b) w mb is
 row : ownN w ev es
 eB : ∀ b, ev.ownBlock = some b -> B b
theorem MkE.keepsF {B : Nat -> Prop} {w w' : World} {mb : Nat} {is : List Ins} {ev : Value} {es : List Nat} (h : MkE B w mb is ev es) (K : KF w w') : MkE B w' mb is ev es :=
 ⟨h.mkr.keepsF K, xag h.row K (fun _ _ => id), h.eB⟩
theorem MkE.next {B : Nat -> Prop} {w w' : World} {mb : Nat} {is is' : List Ins} {ev : Value} {es : List Nat} (h : MkE B w mb is ev es) (hmb : ¬ B mb) (hM : MkAt (fun b => B b /\ ev.ownBlock ≠ some b) w' mb is') (K : xaa (fun b => b = mb \/ (B b /\ ev.ownBlock ≠ some b)) w w') : MkE B w' mb is' ev es :=
 ⟨hM, xag h.row K (fun b e x => by
  rcases x with x | x
  · exact hmb (x ▸ h.eB b e)
  exact x.2 e), h.eB⟩
theorem MkE.push {B : Nat -> Prop} {w wA w1 : World} {mb g cap : Nat} {is : List Ins} {ev : Value} {es : List Nat} {e : Nat} (h : MkE B w mb is ev es) (hmb : ¬ B mb) (hb : ∀ b, w.heap.size <= b -> B b) (KA : KF w wA)
 (hown : w1.ownsRow 0 3 1 (.slice (some ⟨g, 0, none⟩) (es.length + 1) cap) (es.length + 1) ((es.map fun n : Nat => Value.int .i64 (n : Int)) ++ [.int .i64 (e : Int)])) (hg : wA.grownBy w1 ev.ownBlock) (hat : ev.ownBlock = some g \/ g = wA.heap.size) :
 MkE B w1 mb is (.slice (some ⟨g, 0, none⟩) (es.length + 1) cap) (es ++ [e]) /\ xaa (fun b => b = mb \/ B b) w w1 := by
 have k1 : xaa (fun b => ev.ownBlock = some b) wA w1 := (xaa.refl _ _).grown hg (fun b hb => Or.inl hb)
 have hs := KA.size
 have hM1 := (h.mkr.keepsF KA).keepsS k1 (fun e => hmb (h.eB _ e)) (fun b hb e => hb.2 e)
 have hgB : B g := by
  rcases hat with x | x
  · exact h.eB g x
  exact hb g (by omega)
 refine ⟨⟨?_, ?_, fun b e => by have h9 : g = b := Option.some.inj e; rw [<- h9]; exact hgB⟩, (KA.mono (fun _ _ e => e.elim)).trans2 k1 (fun b hb e => Or.inr (h.eB b e))⟩
 · rcases hat with x | x
   · exact hM1.mono (fun b hb => ⟨hb.1, fun e => hb.2 (by have h9 : g = b := Option.some.inj e; rw [<- h9]; exact x)⟩)
   have hA := (h.mkr.keepsF KA).but (fun b => g = b) (fun b e => by omega)
   refine (hA.keepsS k1 (fun e => hmb (h.eB _ e)) (fun b hb e => hb.1.2 e)).mono (fun b hb => ⟨hb.1.1, fun e => hb.2 (Option.some.inj e)⟩)
 unfold ownN
 simpa using hown
def AlsR (B : Nat -> Prop) (n mb : Nat) (q : List Cd) (is : List Ins) (w : World) (iv ev : Value) (wr : World) : Prop :=
 ∃ (i : Nat) (is' : List Ins) (es : List Nat), iv = .int .i64 i /\ i < n /\ es.length <= i /\ MkE B wr mb is' ev es /\ is'.length + altN (q.drop i) = is.length + altN q /\ (∀ e ∈ es, e < is'.length /\ ∃ x y, is'[e]? = some ⟨2, [], x, y⟩) /\ (∀ E, xcv es E is' ++ altC (q.drop i) is'.length E = is ++ altC q is.length E) /\ xaa (fun b => b = mb \/ B b) w wr
def EndR (B : Nat -> Prop) (mb E : Nat) (es : List Nat) (R : List Ins) (ev : Value) (w : World) (iv : Value) (wr : World) : Prop :=
 ∃ (j : Nat) (is' : List Ins), iv = .int .i64 j /\ j <= es.length /\ MkE B wr mb is' ev es /\ is'.length = E /\ (∀ e ∈ es.drop j, e < E /\ ∃ x y, is'[e]? = some ⟨2, [], x, y⟩) /\ xcv (es.drop j) E is' = R /\ xaa (fun b => b = mb \/ B b) w wr
theorem xmt : ∀ (q : List Cd), 2 * (q.length - 1) <= altN q
 | [] => by simp
 | [p] => by simp
 | p :: p2 :: r => by
  have := xmt (p2 :: r)
  simp only [altN, List.length_cons] at this ⊢; omega
theorem MkE.stored {B : Nat -> Prop} {w w' : World} {mb g n cap : Nat} {is is' : List Ins} {ivs : List IV} {ev : Value} {es : List Nat} (h : MkE B w mb is ev es) (hO : MkO (fun b => B b /\ ev.ownBlock ≠ some b) w' mb is' g n cap ivs) (K : xaa (fun b => b = g) w w') : MkE B w' mb is' ev es /\ xaa (fun b => b = mb \/ B b) w w' :=
 ⟨⟨hO.at, xag h.row K (fun b e x => hO.gB.2 (by rw [<- x]; exact e)), h.eB⟩, K.mono (fun b _ e => Or.inr (by rw [e]; exact hO.gB.1))⟩
theorem xno (L : List T) (q : List Cd) (hq : q.length = L.length) (h0 : 0 < L.length) (ih : ∀ (i : Nat) (k : T) (p : Cd), L[i]? = some k -> q[i]? = some p -> xbS k p.1 p.2) (P B : Nat -> Prop) (a : Option Addr) (c mb : Nat) (w0 w : World) (is : List Ins) (ha : KRow w0 P a L) (k0 : KF w0 w) (hmb1 : w0.heap.size <= mb)
 (hmb : ¬ B mb) (hb : ∀ b, w.heap.size <= b -> B b) (hB : ∀ b, B b -> w0.heap.size <= b) (hn : is.length + altN q <= 2500) (hM : MkAt B w mb is) :
 Calls prog 95 #[.pointer (some ⟨mb, 0, none⟩), .slice a L.length c] w fun e w' => NdE B mb (is ++ altC q is.length (is.length + altN q)) w e w' := by
 obtain ⟨i0, hi0, hz0, hz1, hz2⟩ := info_parts xdx
 have hqn := xmt q
 rw [hq] at hqn
 have HM := xa hM
 have HA := xa ha
 have IH := xa ih
 have K0 := xa k0
 have HN := xa hq
 have HB := xa hB
 have Hb := xa hb
 obtain ⟨R, hR⟩ : ∃ R : Nat -> List Ins, ∀ E, is ++ altC q is.length E = R E := ⟨fun E => is ++ altC q is.length E, fun _ => rfl⟩
 obtain ⟨EE, hEE⟩ : ∃ E, is.length + altN q = E := ⟨_, rfl⟩
 have HR := xa hR
 have hw0 := k0.size
 have HEE := xa hEE
 rw [hR, hEE]
 clear ha k0 hM ih hR hq hB hb hEE
 go_enter func95, ntmps95
 go_wp2_with fail
 go_loopw [4, 12] (fun ev iv wr => AlsR B L.length mb q is w iv ev wr) (fun _ iv _ => L.length - (intOf iv).toNat)
 case atStart => exact ⟨0, is, [], rfl, h0, Nat.le_refl _, ⟨HM.out.mono (fun b hb => ⟨hb, by simp [Value.ownBlock]⟩), ⟨rfl, Or.inl ⟨rfl, rfl⟩⟩, fun b e => by simp [Value.ownBlock] at e⟩, rfl, fun e he => by simp at he, fun E => rfl, xaa.refl _ _⟩
 case round =>
  obtain ⟨i, is', es, rfl, hi, hesl, hE, hlen, hes, hpat, hk⟩ := hrel
  have HE := xa hE
  have HPat := xa hpat
  have HKr := xa hk
  have HEs := xa hes
  obtain ⟨ea, ec, rfl⟩ := xad hE.row
  have hsw := hk.size
  have K0r : Hid (KF w0 wr) := xa (K0.out.trans2 hk (fun b hb e => by
   rcases e with e | e
   · omega
   have := HB.out b e; omega))
  clear hE hpat hk hes
  obtain ⟨k, hki⟩ : ∃ k, L[i]? = some k := ⟨_, List.getElem?_eq_getElem hi⟩
  obtain ⟨p, hpi⟩ : ∃ p, q[i]? = some p := ⟨_, List.getElem?_eq_getElem (by rw [HN.out]; exact hi)⟩
  obtain ⟨b, off, uo, d1, f1, g1, um, ux, d2, f2, g2, rfl, hu, hlt0, x0, x1, x2, x3, x4⟩ := HA.out.kid K0r.out hki
  have hlt : b < wr.heap.size := xal x0
  have HNG := xa (IH.out i k p hki hpi)
  have Hu := xa hu
  obtain ⟨B2, hB2⟩ : ∃ B2 : Nat -> Prop, B2 = fun b => (B b /\ (Value.slice ea es.length ec).ownBlock ≠ some b) /\ ¬ b = wr.heap.size := ⟨_, rfl⟩
  have b2a : ¬ B2 mb := by rw [hB2]; exact fun h => hmb h.1.1
  have b2b : ∀ b, wr.heap.size < b -> B2 b := fun b h => by rw [hB2]; exact ⟨⟨Hb.out b (by omega), fun e => by have := xaM HE.out.row b e; omega⟩, by omega⟩
  have b2c : ∀ b, B2 b -> w0.heap.size <= b := fun b h => by rw [hB2] at h; exact HB.out b h.1.1
  have b2d : ¬ B2 wr.heap.size := by rw [hB2]; exact fun h => h.2 rfl
  have b2e : ∀ b, B2 b -> B b /\ (Value.slice ea es.length ec).ownBlock ≠ some b := fun b h => by rw [hB2] at h; exact h.1
  have hmw : mb < wr.heap.size := HE.out.mkr.lt
  have M0 : Hid (MkAt B2 (wr.alloc (.cells #[.int .i64 uo, .slice d1 f1 g1, .int .i64 um, .int .i64 ux, .slice d2 f2 g2] 73)) mb is') := xa (by
   rw [hB2]
   exact (HE.out.mkr.but (fun b => b = wr.heap.size) (fun b e => by omega)).keepsF ((xaa.refl _ _).alloc _))
  clear hB2 hu
  have ka : KF wr (wr.alloc (.cells #[.int .i64 uo, .slice d1 f1 g1, .int .i64 um, .int .i64 ux, .slice d2 f2 g2] 73)) := (xaa.refl _ _).alloc _
  have KA := xa ka
  have hsa : (wr.alloc (.cells #[.int .i64 uo, .slice d1 f1 g1, .int .i64 um, .int .i64 ux, .slice d2 f2 g2] 73)).heap.size = wr.heap.size + 1 := by simp
  have K0a := xa (K0r.out.trans ka)
  have hdi := xeV hpi
  clear ka
  by_cases hl : i + 1 = L.length
  · have g3 : ((i : Int) == (L.length : Int) - 1) = true := beq_iff_eq.2 (by omega)
    have hd1 : q.drop i = [p] := by rw [hdi, List.drop_eq_nil_of_le (by rw [HN.out]; omega)]
    rw [hd1] at hlen
    simp only [altN] at hlen
    have HP2 : Hid (∀ E, xcv es E is' ++ p.1 is'.length = R E) := xa (fun E => by have h := HPat.out E; rw [hd1] at h; rw [<- HR.out E]; exact h)
    have HL := xa (HNG.out.len is'.length)
    have HS := xa (HNG.out.run P B2 ⟨uo, .slice d1 f1 g1, um, ux, .slice d2 f2 g2⟩ w0 _ mb is' Hu.out K0a.out hmb1 b2a (fun b h => b2b b (by omega)) b2c (by omega) M0.out)
    unfold NV.val at HS
    clear hki hpi hdi hd1 HPat
    go_wp2_with fail
    refine HS.out.mono ?_
    rintro e w2 ⟨rfl, h2, k2⟩
    have hE2 : MkE B w2 mb (is' ++ p.1 is'.length) (.slice ea es.length ec) es := (HE.out.keepsF KA.out).next hmb (h2.mono b2e) (k2.mono (fun b _ e => e.imp id (b2e b)))
    have K2 : Hid (xaa (fun b => b = mb \/ B b) w w2) := xa ((HKr.out.trans2 KA.out (fun _ _ e => e.elim)).trans2 k2 (fun b _ e => e.imp id (fun h => (b2e b h).1)))
    have HE2 := xa hE2
    have HR2 : Hid (xcv es EE (is' ++ p.1 is'.length) = R EE) := xa (by rw [xeE es EE is' _ (fun e he => (HEs.out e he).1)]; exact HP2.out EE)
    have HL2 : Hid ((is' ++ p.1 is'.length).length = EE) := xa (by rw [List.length_append, HL.out, <- HEE.out]; omega)
    have HEs2 : Hid (∀ e ∈ es, e < EE /\ ∃ x y, (is' ++ p.1 is'.length)[e]? = some ⟨2, [], x, y⟩) := xa (fun e he => by
     obtain ⟨h1, x, y, h2⟩ := HEs.out e he
     exact ⟨by rw [<- HL2.out, List.length_append]; omega, x, y, by rw [List.getElem?_append_left h1]; exact h2⟩)
    clear h2 k2 hE2 HS x0 x1 x2 x3 x4
    go_wp2_with fail
    go_loopw [50] (fun iv wr => EndR B mb EE es (R EE) (.slice ea es.length ec) w iv wr) (fun iv _ => es.length - (intOf iv).toNat)
    case atStart => exact ⟨0, _, rfl, Nat.zero_le _, HE2.out, HL2.out, by rw [List.drop_zero]; exact HEs2.out, HR2.out, K2.out⟩
    case round =>
     clear HE2 HL2 HEs2 HR2 K2
     obtain ⟨j, is2, rfl, hj, hE, hL2, hes2, hp2, hk⟩ := hrel
     have HE3 := xa hE
     have HK3 := xa hk
     have HP3 := xa hp2
     have HS3 := xa hes2
     clear hE hk hp2 hes2
     by_cases hjl : j < es.length
     · obtain ⟨e, he⟩ : ∃ e, es[j]? = some e := ⟨_, List.getElem?_eq_getElem hjl⟩
       have hdr : es.drop j = e :: es.drop (j + 1) := by
        obtain ⟨h1, h2⟩ := List.getElem?_eq_some_iff.1 he
        rw [List.drop_eq_getElem_cons h1, h2]
       obtain ⟨hel, x, y, hex⟩ := HS3.out e (by rw [hdr]; simp)
       obtain ⟨ge, gcap, hgv, _, _⟩ := (HE3.out.row).form (by omega)
       obtain ⟨rfl, _, rfl⟩ := Value.slice.inj hgv
       have ce : wr.cell? ⟨ge, j, none⟩ = some (.int .i64 (e : Int)) := by
        have hr := HE3.out.row
        unfold ownN at hr
        rw [hr.cellAt j (by omega), List.getElem?_map, he]; rfl
       obtain ⟨g, cap, ivs, hO⟩ := HE3.out.mkr.mko (by omega)
       rw [hL2] at hO
       obtain ⟨iv, hiv⟩ := hO.last (k := e) hel
       have c0 : wr.cell? ⟨mb, 0, none⟩ = some (.slice (some ⟨g, 0, none⟩) EE cap) := by rw [Lib.cell_of_heap hO.bk]; rfl
       have y2 := hO.cell hiv (j := 2) (by omega)
       have y3 := hO.cell hiv (j := 3) (by omega)
       have z2 := hO.own.frozenAt (e * 4 + 2)
       have z3 := hO.own.frozenAt (e * 4 + 3)
       have hgm : g ≠ mb := fun h => hmb (h ▸ hO.gB.1)
       have hmg : mb ≠ g := fun h => hgm h.symm
       have hgg : g ≠ ge := fun h => hO.gB.2 (by rw [h]; rfl)
       have hXY := (hO.setXY (fun h => hmb h.1) hiv hex EE EE).1
       have HXY := xa hXY
       have u2 : encP iv 2 = .int .i64 iv.x := rfl
       have u3 : encP iv 3 = .int .i64 iv.y := rfl
       rw [u2] at y2
       rw [u3] at y3
       have hEp : xcv (es.drop (j + 1)) EE (is2.set e ⟨2, [], EE, EE⟩) = R EE := by rw [<- HP3.out, hdr]; rfl
       have HEp := xa hEp
       have HS4 : Hid (∀ e' ∈ es.drop (j + 1), e' < EE /\ ∃ x y, (is2.set e ⟨2, [], EE, EE⟩)[e']? = some ⟨2, [], x, y⟩) := xa (fun e' he' => by
        obtain ⟨h1, x', y', h2⟩ := HS3.out e' (by rw [hdr]; simp [he'])
        refine ⟨h1, ?_⟩
        rw [List.getElem?_set]
        by_cases h : e = e'
        · subst h
          rw [if_pos rfl, if_pos (by rw [hL2]; exact h1)]
          exact ⟨_, _, rfl⟩
        rw [if_neg h]; exact ⟨x', y', h2⟩)
       have KG : Hid (xaa (fun b => b = g) wr ((wr.setCell ⟨g, e * 4 + 2, none⟩ (.int .i64 (EE : Int))).setCell ⟨g, e * 4 + 3, none⟩ (.int .i64 (EE : Int)))) := xa (((xaa.refl (fun b => b = g) wr).set (p := ⟨g, e * 4 + 2, none⟩) rfl _).set (p := ⟨g, e * 4 + 3, none⟩) rfl _)
       clear hXY hO hiv hex he hdr hEp u2 u3 hgv HP3 HS3
       go_wp2_with fail
       go_region
       all_goals
        go_wp2
        go_roundw
        case rel =>
         obtain ⟨ivs', hM⟩ := HXY.out
         obtain ⟨q1, q2⟩ := HE3.out.stored hM KG.out
         exact ⟨j + 1, is2.set e ⟨2, [], EE, EE⟩, by go_num, by omega, q1.keepsF (xaa.refl (fun _ => False) _).drew, by rw [List.length_set]; exact hL2, HS4.out, HEp.out, (HK3.out.trans q2).drew⟩
        case measure => simp [intOf]; omega
     obtain rfl : j = es.length := by omega
     have HF : Hid (is2 = R EE) := xa (by have h := HP3.out; rw [List.drop_length] at h; exact h)
     have HM3 := xa (HE3.out.mkr.mono (C := B) (fun b h => h.1))
     go_wp2
     go_end0
     exact ⟨rfl, by rw [<- HF.out]; exact HM3.out, HK3.out⟩
  have g3 : ((i : Int) == (L.length : Int) - 1) = false := beq_eq_false_iff_ne.2 (by omega)
  obtain ⟨p2, hp2⟩ : ∃ p2, q[i + 1]? = some p2 := ⟨_, List.getElem?_eq_getElem (by rw [HN.out]; omega)⟩
  have hd2 : q.drop i = p :: p2 :: q.drop (i + 1 + 1) := by rw [hdi, xeV hp2]
  have hd3 : q.drop (i + 1) = p2 :: q.drop (i + 1 + 1) := xeV hp2
  rw [hd2] at hlen
  simp only [altN] at hlen
  have HL := xa (fun b => HNG.out.len b)
  have HSp := xa (xcR B2 mb is' _ M0.out b2a (fun b h => b2b b (by omega)) (by omega))
  have z0 : (wr.alloc (.cells #[.int .i64 uo, .slice d1 f1 g1, .int .i64 um, .int .i64 ux, .slice d2 f2 g2] 73)).cell? ⟨wr.heap.size, 0, none⟩ = some (.int .i64 uo) := by simp [go_sem]
  have z1 : (wr.alloc (.cells #[.int .i64 uo, .slice d1 f1 g1, .int .i64 um, .int .i64 ux, .slice d2 f2 g2] 73)).cell? ⟨wr.heap.size, 1, none⟩ = some (.slice d1 f1 g1) := by simp [go_sem]
  have z2 : (wr.alloc (.cells #[.int .i64 uo, .slice d1 f1 g1, .int .i64 um, .int .i64 ux, .slice d2 f2 g2] 73)).cell? ⟨wr.heap.size, 2, none⟩ = some (.int .i64 um) := by simp [go_sem]
  have z3 : (wr.alloc (.cells #[.int .i64 uo, .slice d1 f1 g1, .int .i64 um, .int .i64 ux, .slice d2 f2 g2] 73)).cell? ⟨wr.heap.size, 3, none⟩ = some (.int .i64 ux) := by simp [go_sem]
  have z4 : (wr.alloc (.cells #[.int .i64 uo, .slice d1 f1 g1, .int .i64 um, .int .i64 ux, .slice d2 f2 g2] 73)).cell? ⟨wr.heap.size, 4, none⟩ = some (.slice d2 f2 g2) := by simp [go_sem]
  have Z0 := xa z0
  have Z1 := xa z1
  have Z2 := xa z2
  have Z3 := xa z3
  have Z4 := xa z4
  have hfar : ¬ (wr.heap.size = mb \/ B2 wr.heap.size) := fun h => by
   rcases h with h | h
   · omega
   exact b2d h
  have hfal : ¬ (fun b => b = mb \/ B2 b) wr.heap.size := hfar
  clear z0 z1 z2 z3 z4 hki hpi hdi hp2 M0
  go_wp2_with fail
  refine HSp.out.mono ?_
  rintro e w2 ⟨rfl, h2, k2⟩
  have hs2 := k2.size
  rw [hsa] at hs2
  have z0 := k2.cell Z0.out hfal
  have z1 := k2.cell Z1.out hfal
  have z2 := k2.cell Z2.out hfal
  have z3 := k2.cell Z3.out hfal
  have z4 := k2.cell Z4.out hfal
  have K02 : KF w0 w2 := K0a.out.trans2 k2 (fun b hb e => by
   rcases e with e | e
   · omega
   have := b2c b e; omega)
  have hLs : (is' ++ [(⟨2, [], is'.length + 1, 0⟩ : Ins)]).length = is'.length + 1 := by simp
  have hrun := HNG.out.run P B2 ⟨uo, .slice d1 f1 g1, um, ux, .slice d2 f2 g2⟩ w0 w2 mb _ Hu.out K02 hmb1 b2a (fun b h => b2b b (by omega)) b2c (by rw [hLs]; omega) h2
  rw [hLs] at hrun
  have HS := xa hrun
  unfold NV.val at HS
  have K2 := xa k2
  clear h2 k2 K02 hrun HSp
  go_wp2_with fail
  refine HS.out.mono ?_
  rintro e w3 ⟨rfl, h3, k3⟩
  have hs3 := k3.size
  have K3 := xa (K2.out.trans k3)
  obtain ⟨cc, hcc⟩ : ∃ cc, p.1 (is'.length + 1) = cc := ⟨_, rfl⟩
  have hccl : cc.length = p.2 := by rw [<- hcc]; exact HL.out _
  rw [hcc] at h3
  have HCC := xa hcc
  have hL3 : (is' ++ [(⟨2, [], is'.length + 1, 0⟩ : Ins)] ++ cc).length = is'.length + 1 + cc.length := by simp; omega
  have hJ := xgQ B2 mb 0 _ w3 h3 b2a (fun b h => b2b b (by omega)) (by rw [hL3]; omega) (by omega)
  rw [hL3] at hJ
  have HJ := xa hJ
  clear h3 k3 hJ hcc HS z0 z1 z2 z3 z4 K2
  go_wp2_with fail
  refine HJ.out.mono ?_
  rintro e w4 ⟨rfl, h4, k4⟩
  have k24 := K3.out.trans k4
  have hE4 : MkE B w4 mb (is' ++ [(⟨2, [], is'.length + 1, 0⟩ : Ins)] ++ cc ++ [⟨2, [], 0, 0⟩]) (.slice ea es.length ec) es := (HE.out.keepsF KA.out).next hmb (h4.mono b2e) (k24.mono (fun b _ e => e.imp id (b2e b)))
  have HE4 := xa hE4
  have K4 : Hid (xaa (fun b => b = mb \/ B b) w w4) := xa ((HKr.out.trans2 KA.out (fun _ _ e => e.elim)).trans2 k24 (fun b _ e => e.imp id (fun h => (b2e b h).1)))
  have hs4 := k4.size
  clear h4 k4 k24 hE4 HJ K3
  go_wp2_with (at_builtin; refine wpList_append_lies _ rfl (.tmp 30) (.tmp 33) 23 rfl 0 3 i0 (.int .i64 0) 1 8 underlying23 hi0 hz0 hz1 hz2 rfl (by decide) _ es.length _ rfl (xac HE4.out.row _) ⟨w4.heap.size, 0, none⟩ 1 1 [.int .i64 ((is'.length : Int) + 1 + (p.2 : Int))] rfl rfl (by exact xaq _ [_] _) (by simp [Value.oneCell']) (by decide) (by unfold maxLen; omega) (by omega) (Nat.zero_le _) _ rfl ?_)
  intro ge gcap w5 hown5 hgrow5 hat5 hlt5
  rw [show ((is'.length : Int) + 1 + (p.2 : Int)) = ((is'.length + 1 + p.2 : Nat) : Int) by omega] at hown5
  obtain ⟨hE5, k5⟩ := HE4.out.push hmb (fun b h => Hb.out b (by have := K4.out.size; omega)) ((xaa.refl (fun _ => False) w4).alloc _) hown5 hgrow5 (hat5.imp id (fun h => by rw [h]; simp))
  obtain ⟨is5, his5⟩ : ∃ l, l = is' ++ [(⟨2, [], is'.length + 1, 0⟩ : Ins)] ++ cc ++ [⟨2, [], 0, 0⟩] := ⟨_, rfl⟩
  rw [<- his5] at hE5
  have hl5 : is5.length = is'.length + p.2 + 2 := by rw [his5]; simp; omega
  have hx5 : is5[is'.length]? = some ⟨2, [], is'.length + 1, 0⟩ := by rw [his5]; simp
  have hset : is5.set is'.length ⟨2, [], is'.length + 1, is5.length⟩ = is' ++ ⟨2, [], is'.length + 1, is5.length⟩ :: (cc ++ [⟨2, [], 0, 0⟩]) := by
   rw [hl5, his5]
   simp [List.set_append_right]
  obtain ⟨g, cap, ivs, hO⟩ := hE5.mkr.mko (by omega)
  obtain ⟨iv, hiv⟩ := hO.last (k := is'.length) (by omega)
  have c0 : w5.cell? ⟨mb, 0, none⟩ = some (.slice (some ⟨g, 0, none⟩) is5.length cap) := by rw [Lib.cell_of_heap hO.bk]; rfl
  have y3 := hO.cell hiv (j := 3) (by omega)
  have f3 := hO.own.frozenAt (is'.length * 4 + 3)
  have hgm : g ≠ mb := fun h => hmb (h ▸ hO.gB.1)
  have hmg : mb ≠ g := fun h => hgm h.symm
  have hXY := (hO.setXY (fun h => hmb h.1) hiv hx5 0 is5.length).2.2
  simp only [hset] at hXY
  have HXY := xa hXY
  have e3 : encP iv 3 = .int .i64 iv.y := rfl
  rw [e3] at y3
  have KG : Hid (xaa (fun b => b = g) w5 (w5.setCell ⟨g, is'.length * 4 + 3, none⟩ (.int .i64 (is5.length : Int)))) := xa ((xaa.refl (fun b => b = g) w5).set (p := ⟨g, is'.length * 4 + 3, none⟩) rfl _)
  have HE5 := xa hE5
  have K5 := xa (K4.out.trans k5)
  have HPs : Hid (∀ E, xcv (es ++ [is'.length + 1 + p.2]) E (is' ++ ⟨2, [], is'.length + 1, is5.length⟩ :: (cc ++ [⟨2, [], 0, 0⟩])) ++ altC (q.drop (i + 1)) (is' ++ (⟨2, [], is'.length + 1, is5.length⟩ : Ins) :: (cc ++ [⟨2, [], 0, 0⟩])).length E = is ++ altC q is.length E) := xa (fun E => by
   rw [show is'.length + 1 + p.2 = is'.length + 1 + cc.length by omega, xjO es E is' cc is5.length (fun e he => (HEs.out e he).1), <- HPat.out E, hd2, hd3, altC, HCC.out]
   have : (is' ++ (⟨2, [], is'.length + 1, is5.length⟩ : Ins) :: (cc ++ [⟨2, [], 0, 0⟩])).length = is'.length + p.2 + 2 := by simp; omega
   rw [this, hl5]
   simp)
  have HEs5 : Hid (∀ e ∈ es ++ [is'.length + 1 + p.2], e < (is' ++ (⟨2, [], is'.length + 1, is5.length⟩ : Ins) :: (cc ++ [⟨2, [], 0, 0⟩])).length /\ ∃ x y, (is' ++ (⟨2, [], is'.length + 1, is5.length⟩ : Ins) :: (cc ++ [⟨2, [], 0, 0⟩]))[e]? = some ⟨2, [], x, y⟩) := xa (fun e he => by
   rcases List.mem_append.1 he with he | he
   · obtain ⟨h1, x, y, h2⟩ := HEs.out e he
     exact ⟨by rw [List.length_append]; omega, x, y, by rw [List.getElem?_append_left h1]; exact h2⟩
   obtain rfl : e = is'.length + 1 + p.2 := by simpa using he
   refine ⟨by simp; omega, 0, 0, ?_⟩
   rw [List.getElem?_append_right (by omega), show is'.length + 1 + p.2 - is'.length = cc.length + 1 by omega, List.getElem?_cons_succ, List.getElem?_append_right (Nat.le_refl _), Nat.sub_self]
   rfl)
  have HLn : Hid ((is' ++ (⟨2, [], is'.length + 1, is5.length⟩ : Ins) :: (cc ++ [⟨2, [], 0, 0⟩])).length + altN (q.drop (i + 1)) = is.length + altN q) := xa (by rw [hd3]; simp; omega)
  have hl5a : is'.length < is5.length := by omega
  have hl5b : is5.length <= 2500 := by omega
  clear hl5
  clear hown5 hgrow5 hat5 hE5 k5 his5 hx5 hset hO hiv hXY e3 HPat HEs hd2 hd3 HE4
  go_wp2_with fail
  go_region
  all_goals
   go_wp2
   go_roundw
   case rel =>
    obtain ⟨ivs', hM⟩ := HXY.out
    obtain ⟨q1, q2⟩ := HE5.out.stored hM KG.out
    exact ⟨i + 1, _, es ++ [is'.length + 1 + p.2], by go_num, by omega, by simp; omega, by have := q1.keepsF (xaa.refl (fun _ => False) _).drew; simpa using this, HLn.out, HEs5.out, HPs.out, (K5.out.trans q2).drew⟩
   case measure => simp [intOf]; omega
end Go.Proofs.YtapmdhejgnplaaaGreat
