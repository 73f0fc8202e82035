/-
  Several texts in one: The document's tokens: where they lie in memory. The document's tokens in rows; where a parenthesis is closed; one node. The parser's atom, given its alternatives.
-/
import Derived.Test.YtbifklibdkjbeaaGreatDoorPaSimMG
import Derived.Test.YtbifklibdkjbeaaGreatDoorMg4
import Derived.BigQuiet
import Derived.Deep.QuietTactic
import Derived.IntWalk
import Derived.Handy
import Derived.Test.YtbifklibdkjbeaaGreatDoorMg10
import Derived.Test.YtbifklibdkjbeaaGreatDoorMg9
namespace Go.Proofs.YtbifklibdkjbeaaGreatDoor
open Go.RowKit
set_option linter.unusedVariables false
set_option linter.unusedSimpArgs false
set_option maxRecDepth 100000
set_option maxHeartbeats 8000000
structure TV where
 k : Int
 r : Int
 sv : Value
 m : Int
 x : Int
def encK (v : TV) (j : Nat) : Value := if j = 0 then .int .i64 v.k else if j = 1 then .int .i64 v.r else if j = 2 then v.sv else if j = 3 then .int .i64 v.m else .int .i64 v.x
def TV.val (v : TV) : Value := .agg #[.int .i64 v.k, .int .i64 v.r, v.sv, .int .i64 v.m, .int .i64 v.x]
theorem xka (v : TV) : (List.range 5).map (encK v) = [.int .i64 v.k, .int .i64 v.r, v.sv, .int .i64 v.m, .int .i64 v.x] := rfl
def KAt (w : World) (P : Nat → Prop) (v : TV) : Tok → Prop
 | .pt s => v.k = 0 ∧ RSl w v.sv s ∧ ∀ b, v.sv.ownBlock = some b → P b
 | .sg c => v = ⟨1, c, .slice none 0 0, 0, 0⟩
 | .ct m x => v = ⟨2, 0, .slice none 0 0, m, x⟩ ∧ in64 m ∧ in64 x
theorem KAt.form {w : World} {P : Nat → Prop} {v : TV} {t : Tok} (h : KAt w P v t) : ∃ a n c, v.sv = .slice a n c := by
 cases t with
 | pt s => obtain ⟨a, c, e⟩ := h.2.1.form; exact ⟨a, _, c, e⟩
 | sg c => rw [show v = _ from h]; exact ⟨_, _, _, rfl⟩
 | ct m x => rw [h.1]; exact ⟨_, _, _, rfl⟩
theorem KAt.keepsTo {S P Q : Nat → Prop} {w w' : World} {v : TV} {t : Tok} (h : KAt w P v t) (K : xa S w w') (hs : ∀ b, P b → ¬ S b) (hq : ∀ b, P b → Q b) : KAt w' Q v t := by
 cases t with
 | pt s => exact ⟨h.1, h.2.1.keeps K (fun b hb => hs b (h.2.2 b hb)), fun b hb => hq b (h.2.2 b hb)⟩
 | sg c => exact h
 | ct m x => exact h
structure KsAt (w : World) (D : Nat → Prop) (v : Value) (vs : List TV) (ts : List Tok) : Prop where
 row : SlOf 5 encK w v vs
 len : vs.length = ts.length
 tok : ∀ (i : Nat) (x : TV) (t : Tok), vs[i]? = some x → ts[i]? = some t → KAt w D x t
theorem KsAt.keep {w w' : World} {D : Nat → Prop} {v : Value} {vs : List TV} {ts : List Tok} (h : KsAt w D v vs ts) (K : xa (fun _ => False) w w') : KsAt w' D v vs ts :=
 ⟨h.row.keep K, h.len, fun i x t hx ht => (h.tok i x t hx ht).keepsTo K (fun _ _ => id) (fun b hb => hb)⟩
theorem KsAt.form {w : World} {D : Nat → Prop} {v : Value} {vs : List TV} {ts : List Tok} (h : KsAt w D v vs ts) : ∃ a cap, v = .slice a ts.length cap := by
 obtain ⟨a, cap, e⟩ := h.row.form
 exact ⟨a, cap, by rw [e, h.len]⟩
theorem KsAt.at {w : World} {D : Nat → Prop} {n cap : Nat} {a : Option Addr} {vs : List TV} {ts : List Tok} (h : KsAt w D (.slice a n cap) vs ts) {i : Nat} {t : Tok} (ht : ts[i]? = some t) :
 ∃ b off k r d e f m x, a = some ⟨b, off, none⟩ ∧ KAt w D ⟨k, r, .slice d e f, m, x⟩ t ∧ b < w.heap.size ∧
 w.cell? ⟨b, off + i * 5, none⟩ = some (.int .i64 k) ∧ w.cell? ⟨b, off + i * 5 + 1, none⟩ = some (.int .i64 r) ∧ w.cell? ⟨b, off + i * 5 + 2, none⟩ = some (.slice d e f) ∧ w.cell? ⟨b, off + i * 5 + 3, none⟩ = some (.int .i64 m) ∧ w.cell? ⟨b, off + i * 5 + 4, none⟩ = some (.int .i64 x) := by
 have hi : i < ts.length := (List.getElem?_eq_some_iff.1 ht).1
 have hl := h.len
 obtain ⟨⟨k, r, sv, m, x⟩, hx⟩ : ∃ x, vs[i]? = some x := ⟨_, List.getElem?_eq_getElem (by omega)⟩
 have hk := h.tok i _ t hx ht
 obtain ⟨d, e, f, hs⟩ := hk.form
 obtain rfl := hs
 obtain ⟨a', cap', e', _, _, hc⟩ := h.row
 obtain ⟨rfl, _, rfl⟩ := Value.slice.inj e'
 obtain ⟨b, off, rfl, hcc⟩ := hc (by omega)
 have x0 := hcc i _ hx 0 (by omega)
 have x1 := hcc i _ hx 1 (by omega)
 have x2 := hcc i _ hx 2 (by omega)
 have x3 := hcc i _ hx 3 (by omega)
 have x4 := hcc i _ hx 4 (by omega)
 simp only [encK] at x0 x1 x2 x3 x4
 exact ⟨b, off, k, r, d, e, f, m, x, rfl, hk, xay x0, by simpa using x0, by simpa using x1, by simpa using x2, by simpa using x3, by simpa using x4⟩
theorem KsAt.part {w : World} {D : Nat → Prop} {b off n cap : Nat} {vs : List TV} {ts : List Tok} (h : KsAt w D (.slice (some ⟨b, off, none⟩) n cap) vs ts) (i c : Nat) (hc : i + c ≤ n) :
 KsAt w D (.slice (some ⟨b, off + i * 5, none⟩) c (cap - i)) ((vs.drop i).take c) ((ts.drop i).take c) := by
 obtain ⟨a', cap', e', hcap, hl2, hcc⟩ := h.row
 obtain ⟨e1, rfl, rfl⟩ := Value.slice.inj e'
 subst e1
 have hl := h.len
 have hlen : ((vs.drop i).take c).length = c := by simp; omega
 refine ⟨⟨_, _, by rw [hlen], ⟨by rw [hlen]; omega, fun h => by cases h⟩, by omega, fun h0 => ?_⟩, by simp; omega, fun j x t hx ht => ?_⟩
 · obtain ⟨b', off', e1, hc'⟩ := hcc (by omega)
   injection e1 with e1
   injection e1 with e1 e2
   subst e1 e2
   refine ⟨_, _, rfl, fun j x hx k hk => ?_⟩
   rw [List.getElem?_take] at hx
   split at hx
   · rw [List.getElem?_drop] at hx
     have := hc' (i + j) x hx k hk
     rw [show off + i * 5 + j * 5 + k = off + (i + j) * 5 + k by omega]; exact this
   cases hx
 rw [List.getElem?_take] at hx ht
 split at hx
 · rename_i hj
   rw [if_pos hj] at ht
   rw [List.getElem?_drop] at hx ht
   exact h.tok _ _ _ hx ht
 cases hx
def cloZ : Nat → List Tok → Int → Int
 | _, [], _ => -1
 | d, .sg c :: r, i => if c = 40 then cloZ (d + 1) r (i + 1) else if c = 41 then (if d = 1 then i else cloZ (d - 1) r (i + 1)) else cloZ d r (i + 1)
 | d, .pt _ :: r, i => cloZ d r (i + 1)
 | d, .ct _ _ :: r, i => cloZ d r (i + 1)
theorem cloZ_eq : ∀ (l : List Tok) (d : Nat) (i : Int), cloZ (d + 1) l i = match xaB d l with | none => -1 | some (p, _) => i + p.length := by
 intro l
 induction l with
 | nil => intro d i; simp [cloZ, xaB]
 | cons t l ih =>
  intro d i
  have step : ∀ (k : Nat) (t : Tok), (match (xaB k l).map (fun p => (t :: p.1, p.2)) with | none => (-1 : Int) | some (p, _) => i + p.length) = match xaB k l with | none => -1 | some (p, _) => i + 1 + p.length := by
   intro k t
   rcases xaB k l with _ | ⟨p, q⟩
   · rfl
   show i + ((t :: p).length : Int) = i + 1 + (p.length : Int)
   rw [List.length_cons]; push_cast; omega
  cases t with
  | pt s => simp only [cloZ, xaB]; rw [ih, step]
  | ct m x => simp only [cloZ, xaB]; rw [ih, step]
  | sg c =>
   simp only [cloZ, xaB]
   by_cases h40 : c = 40
   · rw [if_pos h40, if_pos h40, ih, step]
   rw [if_neg h40, if_neg h40]
   by_cases h41 : c = 41
   · rw [if_pos h41, if_pos h41]
     by_cases hd : d = 0
     · subst hd; simp
     rw [if_neg (by omega), if_neg hd, step]
     obtain ⟨d', rfl⟩ : ∃ d', d = d' + 1 := ⟨d - 1, by omega⟩
     exact ih d' (i + 1)
   rw [if_neg h41, if_neg h41, ih, step]
def CloR (G : Int) (ts : List Tok) (at0 : Nat) (w : World) (dv iv : Value) (wr : World) : Prop :=
 ∃ d i : Nat, dv = .int .i64 d ∧ iv = .int .i64 i ∧ (d = 0 ∧ i = at0 ∨ 1 ≤ d) ∧ d ≤ i ∧ i ≤ ts.length ∧ xa (fun _ => False) w wr ∧ cloZ d (ts.drop i) i = G
theorem xh1 {ts : List Tok} {i : Nat} {t : Tok} (h : ts[i]? = some t) : ts.drop i = t :: ts.drop (i + 1) := by
 obtain ⟨h1, h2⟩ := List.getElem?_eq_some_iff.1 h
 rw [List.drop_eq_getElem_cons h1, h2]
theorem xgj {G : Int} {ts : List Tok} {at0 d i : Nat} {w wr : World} {t : Tok} {dv iv : Value} (ha : ts[at0]? = some (.sg 40)) (ht : ts[i]? = some t) (hne : t ≠ .sg 40) (hd : d = 0 ∧ i = at0 ∨ 1 ≤ d) (hdi : d ≤ i) (hi : i < ts.length) (hK : xa (fun _ => False) w wr)
 (hz : cloZ d (ts.drop (i + 1)) ((i : Int) + 1) = G) (e1 : dv = .int .i64 d) (e2 : iv = .int .i64 ((i + 1 : Nat) : Int)) : CloR G ts at0 w dv iv wr := by
 refine ⟨d, i + 1, e1, e2, ?_, by omega, by omega, hK, by rw [← hz]; push_cast; rfl⟩
 rcases hd with ⟨_, h⟩ | h
 · rw [h, ha] at ht; exact absurd (Option.some.inj ht).symm hne
 exact Or.inr h
theorem xmi (D : Nat → Prop) (v : Value) (vs : List TV) (ts : List Tok) (at0 : Nat) (w : World) (h : KsAt w D v vs ts) (hl : ts.length ≤ 1000) (ha : ts[at0]? = some (.sg 40)) :
 Calls Tryz.prog 152 #[v, .int .i64 at0] w fun e w' => e = .returned (.int .i64 (cloZ 1 (ts.drop (at0 + 1)) ((at0 : Int) + 1))) ∧ xa (fun _ => False) w w' := by
 obtain ⟨a, cap, rfl⟩ := h.form
 have hat : at0 < ts.length := (List.getElem?_eq_some_iff.1 ha).1
 obtain ⟨G, hG⟩ : ∃ G, cloZ 1 (ts.drop (at0 + 1)) ((at0 : Int) + 1) = G := ⟨_, rfl⟩
 have HG : Hid (cloZ 0 (ts.drop at0) (at0 : Int) = G) := xoo (by rw [xh1 ha]; simp only [cloZ]; exact hG)
 have HA := xoo ha
 have HH := xoo h
 rw [hG]
 clear hG ha h
 go_enter Tryz.func152, Tryz.ntmps152
 go_wp2_with fail
 go_loopw [5, 6] (fun dv iv wr => CloR G ts at0 w dv iv wr) (fun _ iv _ => ts.length + 1 - (intOf iv).toNat)
 case atStart => exact ⟨0, at0, rfl, rfl, Or.inl ⟨rfl, rfl⟩, by omega, by omega, xa.refl _ _, HG.out⟩
 case round =>
  obtain ⟨d, i, rfl, rfl, hd, hdi, hi, hK, hz⟩ := hrel
  have HK := xoo hK
  have HZ := xoo hz
  have Hd := xoo hd
  clear hK hz hd
  by_cases hil : i < ts.length
  · obtain ⟨t, ht⟩ : ∃ t, ts[i]? = some t := ⟨_, List.getElem?_eq_getElem hil⟩
    have HZ2 := xoo (show cloZ d (t :: ts.drop (i + 1)) i = G by rw [← xh1 ht]; exact HZ.out)
    obtain ⟨b, off, k, r, sd, se, sf, m, x, rfl, hk, hlt, x0, x1, x2, x3, x4⟩ := (HH.out.keep HK.out).at ht
    have HT := xoo ht
    have hid : decide ((i : Int) < (ts.length : Int)) = true := by simpa using hil
    have hid0 : (i : Int) < (ts.length : Int) := by omega
    clear ht x2 x3 x4
    cases t with
    | pt s =>
     obtain ⟨rfl, _⟩ := hk
     go_wp2_with fail
     go_roundw
     case rel => exact xgj HA.out HT.out (fun e => by cases e) Hd.out hdi hil HK.out (by have e := HZ2.out; simp only [cloZ] at e; exact e) (by go_num) (by go_num)
     case measure => simp [intOf]; omega
    | ct mm xx =>
     obtain ⟨hk, _⟩ := hk
     obtain ⟨rfl, rfl, _, _⟩ := TV.mk.inj hk
     clear hk
     go_wp2_with fail
     go_roundw
     case rel => exact xgj HA.out HT.out (fun e => by cases e) Hd.out hdi hil HK.out (by have e := HZ2.out; simp only [cloZ] at e; exact e) (by go_num) (by go_num)
     case measure => simp [intOf]; omega
    | sg c =>
     obtain ⟨rfl, rfl, _, _⟩ := TV.mk.inj hk
     clear hk
     by_cases h40 : r = 40
     · subst h40
       go_wp2_with fail
       go_roundw
       case rel => exact ⟨d + 1, i + 1, by go_num, by go_num, Or.inr (by omega), by omega, by omega, HK.out, by have e := HZ2.out; simp only [cloZ, if_true] at e; rw [← e]; push_cast; rfl⟩
       case measure => simp [intOf]; omega
     have g40 : (r == 40) = false := beq_eq_false_iff_ne.2 h40
     by_cases h41 : r = 41
     · subst h41
       have hd1 : 1 ≤ d := by
        rcases Hd.out with ⟨_, h⟩ | h
        · have := HT.out; rw [h, HA.out] at this; cases this
        exact h
       by_cases hd : d = 1
       · subst hd
         have E : Hid (G = i) := xoo (by have e := HZ2.out; simp only [cloZ] at e; rw [if_neg (by decide)] at e; exact e.symm)
         clear HZ2 HZ
         go_wp2_with fail
         go_ret
         exact ⟨by rw [E.out]; rfl, HK.out⟩
       obtain ⟨y, rfl⟩ : ∃ y, d = y + 1 := ⟨d - 1, by omega⟩
       have gd : ((y : Int) == 0) = false := beq_eq_false_iff_ne.2 (by omega)
       have gw : IntKind.i64.wrap (((y + 1 : Nat) : Int) - 1) = (y : Int) := by rw [show ((y + 1 : Nat) : Int) - 1 = (y : Int) by omega]; exact IntWalk.i64_in _ (by omega)
       go_wp2_with fail
       go_roundw
       case rel => exact ⟨y, i + 1, by go_num, by go_num, Or.inr (by omega), by omega, by omega, HK.out, by have e := HZ2.out; simp only [cloZ] at e; rw [if_neg (by decide), if_pos trivial, if_neg hd] at e; rw [← e]; push_cast; rfl⟩
       case measure => simp [intOf]; omega
     have g41 : (r == 41) = false := beq_eq_false_iff_ne.2 h41
     go_wp2_with fail
     go_roundw
     case rel => exact xgj HA.out HT.out (fun e => h40 (by injection e)) Hd.out hdi hil HK.out (by have e := HZ2.out; simp only [cloZ] at e; rw [if_neg h40, if_neg h41] at e; exact e) (by go_num) (by go_num)
     case measure => simp [intOf]; omega
  obtain rfl : i = ts.length := by omega
  have hid : decide ((ts.length : Int) < (ts.length : Int)) = false := by simp
  have E : Hid (G = -1) := xoo (by have e := HZ.out; rw [List.drop_eq_nil_of_le (Nat.le_refl _)] at e; cases d <;> simpa [cloZ] using e.symm)
  clear HZ
  go_wp2_with fail
  go_ret
  exact ⟨by rw [E.out]; rfl, HK.out⟩
theorem xfW (op : Int) (kv : Value) (vs : List NV) (l : List T) (P : Nat → Prop) (w : World) (hk : SlOf 5 encN w kv vs) (hf : FAt w P (F.ofL l) vs) (hb : ∀ b, kv.ownBlock = some b → P b) :
 Calls Tryz.prog 151 #[.int .i64 op, kv] w fun e w' => ∃ v : NV, e = .returned v.val ∧ TAt w' P v (xa6 op l) ∧ xa (fun _ => False) w w' := by
 have hlen := hf.len
 obtain ⟨a, cap, rfl⟩ := hk.form
 rcases l with _ | ⟨t, _ | ⟨t2, l⟩⟩
 · obtain rfl : vs = [] := List.length_eq_zero_iff.1 hlen
   go_enter Tryz.func151, Tryz.ntmps151
   go_wp2_with fail
   go_returns
   exact ⟨⟨0, .slice none 0 0, 0, 0, .slice none 0 0⟩, rfl, TAt.zero _ _, KI.out⟩
 · obtain ⟨v, rfl⟩ : ∃ v, vs = [v] := List.length_eq_one_iff.1 hlen
   obtain ⟨v', vs', he, ht, _⟩ := FAt.cons_iff.1 hf
   obtain ⟨rfl, rfl⟩ := List.cons.inj he
   obtain ⟨b, off, rfl, hc⟩ := (by obtain ⟨a', cap', he, _, _, hc⟩ := hk; obtain ⟨rfl, _, rfl⟩ := Value.slice.inj he; exact hc (by simp) : ∃ b off, a = some ⟨b, off, none⟩ ∧ ∀ i x, [v][i]? = some x → ∀ j, j < 5 → w.cell? ⟨b, off + i * 5 + j, none⟩ = some (encN x j))
   have x0 : w.cell? ⟨b, off, none⟩ = some (.int .i64 v.op) := by simpa [encN] using hc 0 v rfl 0 (by omega)
   have x1 : w.cell? ⟨b, off + 1, none⟩ = some v.sv := by simpa [encN] using hc 0 v rfl 1 (by omega)
   have x2 : w.cell? ⟨b, off + 2, none⟩ = some (.int .i64 v.mn) := by simpa [encN] using hc 0 v rfl 2 (by omega)
   have x3 : w.cell? ⟨b, off + 3, none⟩ = some (.int .i64 v.mx) := by simpa [encN] using hc 0 v rfl 3 (by omega)
   have x4 : w.cell? ⟨b, off + 4, none⟩ = some v.kv := by simpa [encN] using hc 0 v rfl 4 (by omega)
   clear hc
   have hlt : b < w.heap.size := xay x0
   obtain ⟨vo, vsv, vm, vx, vk⟩ := v
   obtain ⟨a1, c1, e1⟩ := ht.set.form
   obtain ⟨ks, hks, _⟩ := ht.kids
   obtain ⟨a2, c2, e2⟩ := hks.form
   obtain rfl := e1
   obtain rfl := e2
   generalize ks.length = n2 at *
   generalize t.set.length = n1 at *
   have HT := xoo ht
   clear ht hf hk hb hks
   go_enter Tryz.func151, Tryz.ntmps151
   go_wp2_with fail
   go_returns
   have K : xa (fun _ => False) w (w.alloc (.cells #[.int .i64 vo, .slice a1 n1 c1, .int .i64 vm, .int .i64 vx, .slice a2 n2 c2] 154)) := KI.out
   exact ⟨_, rfl, HT.out.keepsTo K (fun _ _ => id) (fun _ h => h), K⟩
 have hl2 : 2 ≤ vs.length := by rw [hlen]; simp
 have HK := xoo hk
 have HF := xoo hf
 have HB := xoo hb
 have g1 : ((vs.length : Int) == 0) = false := beq_eq_false_iff_ne.2 (by omega)
 have g2 : ((vs.length : Int) == 1) = false := beq_eq_false_iff_ne.2 (by omega)
 clear hk hf hb hlen hl2
 generalize vs.length = N at *
 go_enter Tryz.func151, Tryz.ntmps151
 go_wp2_with fail
 go_returns
 have K : xa (fun _ => False) w (w.alloc (.cells #[.int .i64 op, .slice none 0 0, .int .i64 0, .int .i64 0, .slice a N cap] 154)) := KI.out
 exact ⟨⟨op, .slice none 0 0, 0, 0, _⟩, rfl, ⟨rfl, rfl, rfl, xbr, xbr, ⟨SlOf.nil _ _ _, fun p hp => by cases hp⟩, fun b hb => by simp [Value.ownBlock] at hb, ⟨_, HK.out.keep K, HF.out.keepsTo K (fun _ _ => id) (fun _ h => h)⟩, HB.out⟩, K⟩
def Bt (w w' : World) : Nat → Prop := fun b => w.heap.size ≤ b ∧ b < w'.heap.size
def xda (w : World) (pb : Nat) (rv : Value) (rs : List Int) (r : T × PS) (e : Ending) (w' : World) : Prop :=
 ∃ v : NV, e = .returned v.val ∧ TAt w' (Bt w w') v r.1 ∧ PaAt w' pb rv rs r.2 ∧ xa (xaj pb) w w'
def AltC (f : PS → T × PS) (rs : List Int) (C : PS → Prop) : Prop :=
 ∀ (w : World) (pb : Nat) (rv : Value) (s : PS), PaAt w pb rv rs s → Inv rs s → C s → Calls Tryz.prog 128 #[.pointer (some ⟨pb, 0, none⟩)] w (xda w pb rv rs (f s))
structure xmE (f : PS → T × PS) (rs : List Int) (C D : PS → Prop) : Prop where
 go : ∀ s, Go1 rs s (f s).2
 alt : AltC f rs C
 cd : ∀ s, D s → s.bad = false → C ⟨s.pos + 1, s.deep + 1, decide (10 < s.deep + 1)⟩
 dd : ∀ s s', D s → Go1 rs s s' → D s'
 dp : ∀ s, D s → 0 ≤ s.deep ∧ s.deep ≤ 100
 len : rs.length ≤ 9000
theorem NV.form {w : World} {P : Nat → Prop} {v : NV} {t : T} (h : TAt w P v t) : ∃ o a1 n1 c1 m x a2 n2 c2, v = ⟨o, .slice a1 n1 c1, m, x, .slice a2 n2 c2⟩ := by
 obtain ⟨a1, n1, c1, a2, c2, e1, e2, _⟩ := h.krow
 obtain ⟨o, s, m, x, k⟩ := v
 obtain rfl := e1
 obtain rfl := e2
 exact ⟨_, _, _, _, _, _, _, _, _, rfl⟩
def st5 (W : World) (B : Nat) (a b c d e : Value) : World := ((((W.setCell ⟨B, 0, none⟩ a).setCell ⟨B, 1, none⟩ b).setCell ⟨B, 2, none⟩ c).setCell ⟨B, 3, none⟩ d).setCell ⟨B, 4, none⟩ e
theorem xam (W : World) (B : Nat) {o0 o1 o2 o3 o4 : Value} (h0 : W.cell? ⟨B, 0, none⟩ = some o0) (h1 : W.cell? ⟨B, 1, none⟩ = some o1) (h2 : W.cell? ⟨B, 2, none⟩ = some o2) (h3 : W.cell? ⟨B, 3, none⟩ = some o3) (h4 : W.cell? ⟨B, 4, none⟩ = some o4) (a b c d e : Value) :
 (st5 W B a b c d e).cell? ⟨B, 0, none⟩ = some a ∧ (st5 W B a b c d e).cell? ⟨B, 1, none⟩ = some b ∧ (st5 W B a b c d e).cell? ⟨B, 2, none⟩ = some c ∧ (st5 W B a b c d e).cell? ⟨B, 3, none⟩ = some d ∧ (st5 W B a b c d e).cell? ⟨B, 4, none⟩ = some e ∧
  xa (fun x => x = B) W (st5 W B a b c d e) := by
 unfold st5
 refine ⟨?_, ?_, ?_, ?_, ?_, by (repeat' (with_reducible first | exact xa.refl _ _ | assumption | refine xa.drawN ?_ _ | refine xa.drew ?_ | refine xa.setCell ?_ ?_ _ | refine xa.alloc ?_ _)) <;> (first | exact Or.inr (Nat.le_refl _) | exact Or.inl rfl | exact Or.inl (Or.inl rfl) | exact Or.inl (Or.inr rfl) | (right; simp; done) | (right; simp; omega))⟩
 · rw [xaf (by simp), xaf (by simp), xaf (by simp), xaf (by simp)]; exact xaL h0
 · rw [xaf (by simp), xaf (by simp), xaf (by simp)]; exact xaL (by rw [xaf (by simp)]; exact h1)
 · rw [xaf (by simp), xaf (by simp)]; exact xaL (by rw [xaf (by simp), xaf (by simp)]; exact h2)
 · rw [xaf (by simp)]; exact xaL (by rw [xaf (by simp), xaf (by simp), xaf (by simp)]; exact h3)
 exact xaL (by rw [xaf (by simp), xaf (by simp), xaf (by simp), xaf (by simp)]; exact h4)
theorem xkk {f : PS → T × PS} {rs : List Int} {C D : PS → Prop} (H : xmE f rs C D) (w : World) (pb : Nat) (rv : Value) (s : PS) (h : PaAt w pb rv rs s) (hi : Inv rs s) (hd : D s) (hr : pk rs s = 40) :
 Calls Tryz.prog 218 #[.pointer (some ⟨pb, 0, none⟩)] w (xda w pb rv rs (xav f rs s)) := by
 have hpb := h.lt
 have hbad : s.bad = false := (xaJ (rs := rs) (s := s) (by omega)).2
 have hpos := (xaJ (rs := rs) (s := s) (by omega)).1
 have hnx : nx rs s = ⟨s.pos + 1, s.deep, false⟩ := by rw [xjR (by omega), hbad]
 have hdp := H.dp s hd
 have hlen := H.len
 have hcd := H.cd s hd hbad
 obtain ⟨s2, hs2⟩ : ∃ s2, (⟨s.pos + 1, s.deep + 1, decide (10 < s.deep + 1)⟩ : PS) = s2 := ⟨_, rfl⟩
 have hinv2 : Inv rs s2 := by rw [← hs2]; exact ⟨by simp; omega, fun _ => by simp; omega⟩
 have hg := H.go s2
 have hE : Hid (xav f rs s = ((f s2).1, ⟨(wt rs 41 (f s2).2).pos, (wt rs 41 (f s2).2).deep - 1, (wt rs 41 (f s2).2).bad⟩)) := by
  have : (⟨s.pos + 1, s.deep + 1, (nx rs s).bad || decide (10 < s.deep + 1)⟩ : PS) = s2 := by rw [hnx, ← hs2]; simp
  unfold xav
  rw [if_pos hr, this]; exact xoo rfl
 rw [hE.out]
 have hwt := xgu rs 41 (f s2).2 (by omega)
 have hdeep : (wt rs 41 (f s2).2).deep = s.deep + 1 := by rw [hwt.deep, hg.deep, ← hs2]
 have hpos3 := (hwt.inv (hg.inv hinv2)).a
 have hpos2 := (hg.inv hinv2).a
 have HA := xoo (fun (W : World) (hW : PaAt W pb rv rs s2) => H.alt W pb rv s2 hW hinv2 (by rw [← hs2]; exact hcd))
 obtain ⟨F1, hF1⟩ : ∃ x, (f s2).1 = x := ⟨_, rfl⟩
 obtain ⟨S1, hS1⟩ : ∃ x, (f s2).2 = x := ⟨_, rfl⟩
 rw [hF1, hS1]
 rw [hS1] at hdeep hpos3 hpos2
 have HF1 := xoo hF1
 have HS1 := xoo hS1
 have HS2 := xoo hs2
 have HN := xoo (fun (W : World) (hW : PaAt W pb rv rs s) => xbK W pb rv rs s hW (by have := H.len; omega))
 have HH := xoo h
 have w1 : IntKind.i64.wrap (s.deep + 1) = s.deep + 1 := IntWalk.i64_in _ (by omega)
 have w2 : IntKind.i64.wrap s.deep = s.deep := IntWalk.i64_in _ (by omega)
 have Hnx := xoo hnx
 have Hdeep := xoo hdeep
 clear hE hcd hinv2 hg hwt hF1 hS1 hs2 h hd hi hnx hdeep
 obtain ⟨p, d, b⟩ := s
 simp only at hbad hpos hdp w1 w2
 subst hbad
 go_enter Tryz.func218, Tryz.ntmps218
 go_wp2_with fail
 refine (HN.out _ (HH.out.keepsF (KI.out))).mono ?_
 rintro e w3 ⟨rfl, h3, k3⟩
 rw [hr]
 rw [Hnx.out] at h3
 have c2 := h3.c2
 have f2 := h3.fr 2
 have h4 := h3.setDeep (d + 1)
 have c3 := h4.c3
 have f3 := h4.fr 3
 have c2' := h4.c2
 have h5 := h4.setBad (decide (10 < d + 1))
 simp only at c2 c3 c2' h5
 rw [HS2.out] at h5
 have H5 := xoo h5
 have K5 := xoo ((k3.set (p := ⟨pb, 2, none⟩) rfl (.int .i64 (d + 1))).set (p := ⟨pb, 3, none⟩) rfl (.bool (decide (10 < d + 1))))
 clear h3 h4 h5 k3
 go_wp2_with fail
 refine (HA.out _ H5.out).mono ?_
 rintro e w6 ⟨v, rfl, hv, h6, k6⟩
 obtain ⟨o, a1, n1, c1, m, x, a2, n2, cc2, rfl⟩ := NV.form hv
 rw [HF1.out] at hv
 rw [HS1.out] at h6
 unfold NV.val
 have HV := xoo hv
 have H6 := xoo h6
 have K6 := xoo (K5.out.trans k6)
 have hsz5 := K5.out.size
 have hsz6 := k6.size
 simp at hsz5 hsz6
 clear hv h6 k6
 have HW := xoo (fun (W : World) (hW : PaAt W pb rv rs S1) => xcJ W pb rv rs S1 41 hW (by omega))
 go_wp2_with fail
 refine (HW.out _ (H6.out.keepsF (KI.out))).mono ?_
 rintro e w7 ⟨rfl, h7, k7⟩
 have K7a : xa (xaj pb) (w.alloc (.cells #[.int .i64 0, .slice none 0 0, .int .i64 0, .int .i64 0, .slice none 0 0] 154)) w7 := (K6.out.alloc _).trans k7
 have hne1 : ¬ (w.heap.size = pb) := by omega
 have hne2 : ¬ (pb = w.heap.size) := by omega
 have hne3 : ¬ (w6.heap.size = pb) := by omega
 have hne4 : ¬ (pb = w6.heap.size) := by omega
 have y0 : w7.cell? ⟨w.heap.size, 0, none⟩ = some (.int .i64 0) := K7a.cell (by simp [go_sem]) hne1
 have y1 : w7.cell? ⟨w.heap.size, 1, none⟩ = some (.slice none 0 0) := K7a.cell (by simp [go_sem]) hne1
 have y2 : w7.cell? ⟨w.heap.size, 2, none⟩ = some (.int .i64 0) := K7a.cell (by simp [go_sem]) hne1
 have y3 : w7.cell? ⟨w.heap.size, 3, none⟩ = some (.int .i64 0) := K7a.cell (by simp [go_sem]) hne1
 have y4 : w7.cell? ⟨w.heap.size, 4, none⟩ = some (.slice none 0 0) := K7a.cell (by simp [go_sem]) hne1
 have q0 : w7.frozen? ⟨w.heap.size, 0, none⟩ = false := K7a.frozen (by simp [go_sem]) (by simp) hne1
 have q1 : w7.frozen? ⟨w.heap.size, 1, none⟩ = false := K7a.frozen (by simp [go_sem]) (by simp) hne1
 have q2 : w7.frozen? ⟨w.heap.size, 2, none⟩ = false := K7a.frozen (by simp [go_sem]) (by simp) hne1
 have q3 : w7.frozen? ⟨w.heap.size, 3, none⟩ = false := K7a.frozen (by simp [go_sem]) (by simp) hne1
 have q4 : w7.frozen? ⟨w.heap.size, 4, none⟩ = false := K7a.frozen (by simp [go_sem]) (by simp) hne1
 have z0 : w7.cell? ⟨w6.heap.size, 0, none⟩ = some (.int .i64 o) := k7.cell (by simp [go_sem]) hne3
 have z1 : w7.cell? ⟨w6.heap.size, 1, none⟩ = some (.slice a1 n1 c1) := k7.cell (by simp [go_sem]) hne3
 have z2 : w7.cell? ⟨w6.heap.size, 2, none⟩ = some (.int .i64 m) := k7.cell (by simp [go_sem]) hne3
 have z3 : w7.cell? ⟨w6.heap.size, 3, none⟩ = some (.int .i64 x) := k7.cell (by simp [go_sem]) hne3
 have z4 : w7.cell? ⟨w6.heap.size, 4, none⟩ = some (.slice a2 n2 cc2) := k7.cell (by simp [go_sem]) hne3
 have e2 := h7.c2
 rw [Hdeep.out] at e2
 have g2 := h7.fr 2
 have h8 := h7.setDeep d
 have HD8 := xoo h8
 have K7 : Hid (xa (xaj pb) w w7) := xoo (xa.trans (KI.out) K7a)
 have k7b : xa (fun b => b = pb ∨ b = w.heap.size) w6 w7 := xa.trans ((xa.refl _ _).alloc _) (k7.mono (fun b _ e => Or.inl e))
 have K7b := xoo k7b
 clear h7 h8 k7 K7a k7b
 go_wp2_with fail
 obtain ⟨wE, hWE⟩ : ∃ W, st5 (w7.setCell ⟨pb, 2, none⟩ (.int .i64 d)) w.heap.size (.int .i64 o) (.slice a1 n1 c1) (.int .i64 m) (.int .i64 x) (.slice a2 n2 cc2) = W := ⟨_, rfl⟩
 obtain ⟨r0, r1, r2, r3, r4, kE⟩ := xam (w7.setCell ⟨pb, 2, none⟩ (.int .i64 d)) w.heap.size (by rw [xaf (by simp [hne2])]; exact y0) (by rw [xaf (by simp [hne2])]; exact y1) (by rw [xaf (by simp [hne2])]; exact y2) (by rw [xaf (by simp [hne2])]; exact y3) (by rw [xaf (by simp [hne2])]; exact y4) (.int .i64 o) (.slice a1 n1 c1) (.int .i64 m) (.int .i64 x) (.slice a2 n2 cc2)
 rw [hWE] at r0 r1 r2 r3 r4 kE
 unfold st5 at hWE
 rw [hWE]
 have HKE := xoo kE
 clear kE hWE y0 y1 y2 y3 y4 z0 z1 z2 z3 z4
 refine bodyPost_ret (by simp [results, Tryz.results218, go_sem, r0, r1, r2, r3, r4]; try rfl) rfl ?_
 have k8 : xa (fun b => b = pb ∨ b = w.heap.size) w6 wE := (K7b.out.set (p := ⟨pb, 2, none⟩) (Or.inl rfl) _).trans (HKE.out.mono (fun b _ e => Or.inr e))
 have hszE := k8.size
 refine ⟨⟨o, .slice a1 n1 c1, m, x, .slice a2 n2 cc2⟩, rfl, ?_, ?_, ?_⟩
 · refine HV.out.keepsTo k8 ?_ ?_
   · rintro b ⟨hb1, hb2⟩ hb3
     simp at hb1
     rcases hb3 with hb3 | hb3 <;> omega
   rintro b ⟨hb1, hb2⟩
   simp at hb1
   exact ⟨by omega, by omega⟩
 · have := HD8.out.keeps HKE.out hne2 (fun b hb e => by have := HH.out.rb b hb; omega)
   rw [show (wt rs 41 S1).deep - 1 = d by rw [Hdeep.out]; omega]
   exact this
 exact (K7.out.set (p := ⟨pb, 2, none⟩) rfl _).trans2 HKE.out (fun b hb e => by omega)
end Go.Proofs.YtbifklibdkjbeaaGreatDoor
