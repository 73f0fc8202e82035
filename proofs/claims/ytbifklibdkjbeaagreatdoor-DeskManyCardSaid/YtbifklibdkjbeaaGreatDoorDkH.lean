/-
  The walk of desk.Do: whatever deeds, one after the other. No condition.
-/
import Derived.Test.YtbifklibdkjbeaaGreatDoorDkL
namespace Go.Proofs.YtbifklibdkjbeaaGreatDoor
open Go.RowKit Go.WideMaps Go.Maps
set_option linter.unusedVariables false
set_option linter.unusedSimpArgs false
set_option maxRecDepth 100000

def zeroJ : JV := ⟨none, 0, 0, none, 0, 0, 0, 0, 0, [], 0, 0, 0, 0, 0, 0, 0, 0, 0, 0, 0⟩
/-- A deed's job: the least one where it starts a run. -/
def jobOf (d : Int × Int) : JV := if d.1 = 0 then leastJ else zeroJ
/-- A row of deeds. -/
def DsAt (w : World) (pb : Nat) (ds : List (Int × Int)) : Prop := ∀ i d, ds[i]? = some d → ∀ j v, (dCs d.1 d.2 (jobOf d)).toList[j]? = some v → w.cell? ⟨pb, i * 22 + j, none⟩ = some v
def ocsL (os : List (Int × Int × Int)) : List Value := os.flatMap fun o => ocL o.1 o.2.1 o.2.2
/-- What Do answers. -/
def DoE (db mb : Nat) (k : Int) (sts : Nat → D27) (ds : List (Int × Int)) (S0 : Nat → Prop) (w : World) (e : Ending) (w' : World) : Prop :=
  ∃ u os m S, e = .returned u ∧ w'.ownsRow w.heap.size 72 4 u ds.length (ocsL os) ∧ os.length = ds.length ∧ (∀ j d o, ds[j]? = some d → os[j]? = some o → okO (sts j) d o.1 o.2.1 o.2.2) ∧ WS w' db mb k (sts ds.length) m S ∧
    (∀ b, S b → S0 b ∨ w.heap.size ≤ b) ∧ Keeps (fun b => b = db ∨ b = mb ∨ S0 b) w w'
structure DoI (db mb : Nat) (k : Int) (sts : Nat → D27) (ds : List (Int × Int)) (S0 : Nat → Prop) (w : World) (i : Nat) (ov : Value) (wr : World) (os : List (Int × Int × Int)) (m : Int → Value) (S : Nat → Prop) : Prop where
  own : wr.ownsRow w.heap.size 72 4 ov i (ocsL os)
  len : os.length = i
  ok : ∀ j d o, ds[j]? = some d → os[j]? = some o → okO (sts j) d o.1 o.2.1 o.2.2
  ws : WS wr db mb k (sts i) m S
  foot : ∀ b, S b → S0 b ∨ w.heap.size ≤ b
  apart : ∀ b, ov.ownBlock = some b → ¬ S b
  ka : Keeps (fun b => b = db ∨ b = mb ∨ S0 b) w wr
theorem nxt_with {k : Int} {s s' : D27} {kd r : Int} (hn : nxt k s (kd, r) = some s') (h0 : kd ≠ 0) (hk : r ∈ s.ks) : r = k := by
  simp only [nxt, if_neg h0] at hn
  split at hn
  · split at hn
    · rename_i h; exact h.1
    · cases hn
  · cases hn
theorem nxt_none {k : Int} {s s' : D27} {kd r : Int} (hn : nxt k s (kd, r) = some s') (h0 : kd ≠ 0) (hk : ¬ r ∈ s.ks) : s' = s := by
  simp only [nxt, if_neg h0, if_neg hk] at hn
  split at hn
  · exact (Option.some.inj hn).symm
  · cases hn
theorem dCs_one (kd rn : Int) (J : JV) : (dCs kd rn J).all (·.oneCell') = true := by simp [dCs, Value.oneCell']
theorem dCs_job (kd rn : Int) (J : JV) (j : Nat) (v : Value) (h : (jCs J).toList[j]? = some v) : (dCs kd rn J)[5 + j]? = some v := by
  have e : (dCs kd rn J).toList = [.int .i64 kd, .int .i64 rn, .int .i64 0, .string ⟨#[]⟩, .slice none 0 0] ++ (jCs J).toList := rfl
  rw [← Array.getElem?_toList, e, List.getElem?_append_right (by simp)]
  simpa using h
theorem ownsRow_keepsK {S : Nat → Prop} {w w' : World} {base : Nat} {e : TypeId} {size : Nat} {v : Value} {n : Nat} {xs : List Value} (h : w.ownsRow base e size v n xs) (K : Keeps S w w') (hs : ∀ b, v.ownBlock = some b → ¬ S b) : w'.ownsRow base e size v n xs := by
  refine ⟨h.1, ?_⟩
  rcases h.2 with h2 | ⟨g, cap, cur, rfl, hb, hg, rest⟩
  · exact Or.inl h2
  · exact Or.inr ⟨g, cap, cur, rfl, hb, K.heap hg (hs g rfl), rest⟩
theorem copy_deed (w : World) (DD z : Array Value) (t : TypeId) (w' : World) (h : (w.alloc (.cells z t)).setRow w.heap.size DD = w') : w'.heap[w.heap.size]? = some (.cells DD t (0, 0)) ∧ Keeps (fun _ => False) w w' ∧ w'.heap.size = w.heap.size + 1 := by
  subst h
  refine ⟨setRow_heap _ _ _ _ _ _ (heap_alloc_new w _), ?_, by simp⟩
  exact ((Keeps.refl (fun _ => False) w).alloc (.cells z t)).trans2 (T := fun b => b = w.heap.size) (keeps_row _ _ _) (fun b hb e => by omega)
section
variable {db mb : Nat} {k : Int} {sts : Nat → D27} {ds : List (Int × Int)} {S0 : Nat → Prop} {w : World} {i : Nat} {ov : Value} {wr : World} {os : List (Int × Int × Int)} {m : Int → Value} {S : Nat → Prop}
theorem doi_own (hI : DoI db mb k sts ds S0 w i ov wr os m S) (hlt : db < w.heap.size ∧ mb < w.heap.size) {wq w3 : World} (hQ : Keeps (fun _ => False) wr wq) (hk : Keeps (fun b => b = db ∨ b = mb ∨ S b) wq w3) : w3.ownsRow w.heap.size 72 4 ov i (ocsL os) :=
  ownsRow_keepsK (ownsRow_keepsK hI.own hQ (fun _ _ => id)) hk (fun b hb e => by
    have hb2 := ownBlock_base hI.own b hb
    rcases e with e | e | e
    · omega
    · omega
    · exact hI.apart b hb e)
theorem doi_step (hI : DoI db mb k sts ds S0 w i ov wr os m S) (hlt : db < w.heap.size ∧ mb < w.heap.size) {wq w3 : World} (hQ : Keeps (fun _ => False) wr wq) {d : Int × Int} (hd : ds[i]? = some d) {c n q : Int} {m' : Int → Value} {S' : Nat → Prop} (hok : okO (sts i) d c n q)
    (hws : WS w3 db mb k (sts (i + 1)) m' S') (hf : ∀ b, S' b → S b ∨ (wq.heap.size ≤ b ∧ b < w3.heap.size)) (hk : Keeps (fun b => b = db ∨ b = mb ∨ S b) wq w3) {v' : Value} {w5 : World}
    (h1 : w5.ownsRow w.heap.size 72 4 v' (i + 1) (ocsL os ++ ocL c n q)) (hg : (w3.alloc (.cells (ocL c n q).toArray 72)).grownBy w5 ov.ownBlock) (hfr : ∀ b, v'.ownBlock = some b → ov.ownBlock = some b ∨ w3.heap.size ≤ b) :
    DoI db mb k sts ds S0 w (i + 1) v' w5 (os ++ [(c, n, q)]) m' S' := by
  have s1 := hI.ka.size
  have s2 := hQ.size
  have s3 := hk.size
  have hov : ∀ b, ov.ownBlock = some b → w.heap.size ≤ b ∧ b < wr.heap.size ∧ ¬ S b := fun b hb => ⟨ownBlock_base hI.own b hb, by
    rcases hI.own.2 with ⟨e, _⟩ | ⟨g, cap, cur, e, _, hh, _⟩
    · rw [e] at hb; simp [Value.ownBlock] at hb
    · rw [e] at hb; simp [Value.ownBlock] at hb; subst hb; exact (Array.getElem?_eq_some_iff.1 hh).1, hI.apart b hb⟩
  have hg2 : Keeps (fun b => ov.ownBlock = some b) w3 w5 := ((Keeps.refl (fun b => ov.ownBlock = some b) w3).alloc _).grown hg (fun b hb => Or.inl hb)
  have hno : ∀ b, S' b → ov.ownBlock ≠ some b := fun b hb e => by
    obtain ⟨o1, o2, o3⟩ := hov b e
    rcases hf b hb with h | h
    · exact o3 h
    · omega
  refine ⟨?_, by simp [hI.len], ?_, hws.keeps hg2 (fun e => ?_) (fun e => ?_) (fun b hb => hno b hb), fun b hb => ?_, fun b hb hb' => ?_, ?_⟩
  · have : ocsL (os ++ [(c, n, q)]) = ocsL os ++ ocL c n q := by simp [ocsL]
    rw [this]; exact h1
  · intro j d' o hj ho
    rcases Nat.lt_or_ge j os.length with hjl | hjl
    · rw [List.getElem?_append_left hjl] at ho
      exact hI.ok j d' o hj ho
    · have hj0 : j = os.length := by
        have := (List.getElem?_eq_some_iff.1 ho).1
        simp at this; omega
      subst hj0
      rw [List.getElem?_append_right (Nat.le_refl _)] at ho
      simp at ho
      rw [hI.len] at hj ⊢
      rw [hd] at hj
      cases hj
      subst ho
      exact hok
  · have := (hov _ e).1; omega
  · have := (hov _ e).1; omega
  · rcases hf b hb with h | h
    · exact hI.foot b h
    · exact Or.inr (by omega)
  · rcases hfr b hb with h | h
    · exact hno b hb' h
    · rcases hf b hb' with h2 | h2
      · have := (hI.ws.foot b h2).1; omega
      · omega
  · refine ((hI.ka.trans2 hQ (fun _ _ h => h.elim)).trans2 hk (fun b hb e => ?_)).trans2 hg2 (fun b hb e => ?_)
    · rcases e with e | e | e
      · exact Or.inl e
      · exact Or.inr (Or.inl e)
      · rcases hI.foot b e with h | h
        · exact Or.inr (Or.inr h)
        · omega
    · have := (hov b e).1; omega
end
set_option maxHeartbeats 8000000 in
theorem do_any (db mb : Nat) (k : Int) (sts : Nat → D27) (ds : List (Int × Int)) (m0 : Int → Value) (S0 : Nat → Prop) (pb : Nat) (w : World) (h : WS w db mb k (sts 0) m0 S0) (hds : DsAt w pb ds) (hpb : pb ≠ db ∧ pb ≠ mb ∧ ¬ S0 pb) (hl : ds.length ≤ 1000)
    (hn : ∀ i d, ds[i]? = some d → nxt k (sts i) d = some (sts (i + 1)) ∧ 0 ≤ d.2 ∧ d.2 ≤ 1000 ∧ 0 ≤ d.1 ∧ d.1 ≤ 8) :
    Calls Tryz.prog 24 #[.pointer (some ⟨db, 0, none⟩), .slice (some ⟨pb, 0, none⟩) ds.length ds.length] w (DoE db mb k sts ds S0 w) := by
  have hlt := h.dk.dk.lt
  have hlm := h.dk.mp.lt
  have Hin := Lib.hid hn
  have Hds := Lib.hid hds
  have Hpb := Lib.hid hpb
  have Hlt := Lib.hid (And.intro hlt hlm)
  have H0 : Hid (DoI db mb k sts ds S0 w 0 (.slice none 0 0) w [] m0 S0) := Lib.hid ⟨World.ownsRow_nil _ _ _ _, rfl, (fun j d o _ e => by simp at e), h, fun b hb => Or.inl hb, fun b hb => by simp [Value.ownBlock] at hb, Keeps.refl _ _⟩
  clear h hds hpb hn hlt hlm
  unfold DoE
  go_enter Tryz.func24, Tryz.ntmps24
  go_wp2_with fail
  go_loopw [5, 11] (fun ov iv wr => ∃ i os m S, iv = .int .i64 ((i : Nat) : Int) ∧ i ≤ ds.length ∧ DoI db mb k sts ds S0 w i ov wr os m S) (fun _ iv _ => ds.length - (intOf iv).toNat)
  case atStart => exact ⟨0, [], m0, S0, rfl, Nat.zero_le _, H0.out⟩
  case round =>
    obtain ⟨i, os, m, S, rfl, hi, hI⟩ := hrel
    have HI := Lib.hid hI
    clear hI
    by_cases hlt : i < ds.length
    · obtain ⟨kd, rn, hd⟩ : ∃ kd rn, ds[i]? = some (kd, rn) := ⟨_, _, List.getElem?_eq_getElem hlt⟩
      have hN : Hid (nxt k (sts i) (kd, rn) = some (sts (i + 1)) ∧ 0 ≤ rn ∧ rn ≤ 1000 ∧ 0 ≤ kd ∧ kd ≤ 8) := Lib.hid (Hin.out i (kd, rn) hd)
      have hC : ∀ j v, (dCs kd rn (jobOf (kd, rn))).toList[j]? = some v → wr.cell? ⟨pb, i * 22 + j, none⟩ = some v := fun j v hv => HI.out.ka.cell (Hds.out i (kd, rn) hd j v hv) (fun e => by rcases e with e | e | e; exact Hpb.out.1 e; exact Hpb.out.2.1 e; exact Hpb.out.2.2 e)
      have hLd : ∀ j v, (dCs kd rn (jobOf (kd, rn))).toList[j]? = some v → wr.cell? ((⟨pb, i * 22, none⟩ : Addr).add j) = some v := fun j v hv => by
        rw [show ((⟨pb, i * 22, none⟩ : Addr).add j) = ⟨pb, i * 22 + j, none⟩ by unfold Addr.add; simp]
        exact hC j v hv
      have HLd := Lib.hid hLd
      have hsz : (Tryz.prog.info? 70).map (·.size) = some (dCs kd rn (jobOf (kd, rn))).toList.length := dCs_size _ _ _
      have hsz2 := dCs_size kd rn (jobOf (kd, rn))
      have hone := dCs_one kd rn (jobOf (kd, rn))
      have hss : (dCs kd rn (jobOf (kd, rn))).size = 22 := rfl
      have q0 : (dCs kd rn (jobOf (kd, rn)))[0]? = some (.int .i64 kd) := rfl
      have q1 : (dCs kd rn (jobOf (kd, rn)))[1]? = some (.int .i64 rn) := rfl
      have qj : ∀ j v, (jCs (jobOf (kd, rn))).toList[j]? = some v → (dCs kd rn (jobOf (kd, rn)))[5 + j]? = some v := dCs_job kd rn (jobOf (kd, rn))
      have HQ := Lib.hid (And.intro q0 (And.intro q1 qj))
      have HDC : Hid (dCs kd rn (jobOf (kd, rn)) = dCs kd rn (jobOf (kd, rn))) := Lib.hid rfl
      clear hC hLd q0 q1 qj
      generalize hDD : dCs kd rn (jobOf (kd, rn)) = DD at *
      go_upto_region 4 with fail
      go_upto_region 5 with (first
        | (refine wpList_load_list rfl 70 (.tmp 13) rfl ⟨pb, i * 22, none⟩ rfl DD.toList _ HLd.out Tryz.underlying70 rfl hsz ?_)
        | (refine wpList_store_row rfl 70 (.tmp 7) (.tmp 14) rfl wr.heap.size DD rfl rfl 70 _ (heap_alloc_new _ _) hsz2 (by rw [hss]; rfl) hone ?_))
      generalize hwq : World.setRow _ wr.heap.size DD = wq at *
      obtain ⟨hq, KQ, sq⟩ := copy_deed _ _ _ _ _ hwq
      have e0 : wq.cell? ⟨wr.heap.size, 0, none⟩ = some (.int .i64 kd) := by rw [cell_block hq]; exact HQ.out.1
      have e1 : wq.cell? ⟨wr.heap.size, 1, none⟩ = some (.int .i64 rn) := by rw [cell_block hq]; exact HQ.out.2.1
      have hWS := HI.out.ws.keeps KQ id id (fun _ _ => id)
      have HWS := Lib.hid hWS
      have HRun := Lib.hid (desk_run db mb _ _ m rn wq hWS.dk (by have := hN.out; omega) (by have := hN.out; omega))
      have hk0 : ¬ kd < 0 := by have := hN.out; omega
      have hk8 : ¬ 8 < kd := by have := hN.out; omega
      have HW := Lib.hid hq
      have HKQ := Lib.hid KQ
      clear hWS hq KQ hwq
      go_upto_region 5 with fail
      go_upto_region 7 with (refine HRun.out.mono ?_; rintro e w2 ⟨rfl, rfl⟩)
      by_cases h0 : kd = 0
      · subst h0
        have hLJ : ∀ j v, (jCs leastJ).toList[j]? = some v → w2.cell? ((⟨wr.heap.size, 5, none⟩ : Addr).add j) = some v := fun j v hv => by
          rw [show ((⟨wr.heap.size, 5, none⟩ : Addr).add j) = ⟨wr.heap.size, 5 + j, none⟩ by unfold Addr.add; simp, cell_block HW.out]
          exact HQ.out.2.2 j v hv
        have HLJ := Lib.hid hLJ
        have hszJ : (Tryz.prog.info? 28).map (·.size) = some (jCs leastJ).toList.length := job_size leastJ
        have HSt : Hid (Calls Tryz.prog 46 #[.pointer (some ⟨db, 0, none⟩), .agg (jCs leastJ).toList.toArray] w2 (DeedR db mb k (sts i) (0, rn) (sts (i + 1)) S w2)) := Lib.hid (by rw [Array.toArray_toList]; exact start_deed db mb k _ _ rn m S w2 HWS.out hN.out.1)
        generalize (if rn ∈ (sts i).ks then m rn else Value.pointer none) = rq at *
        generalize leastJ = J0 at *
        clear hLJ
        go_upto_region 10 with fail
        go_wp2_with (refine wpList_load_list rfl 28 (.tmp 45) rfl ⟨wr.heap.size, 5, none⟩ rfl (jCs J0).toList _ HLJ.out Tryz.underlying28 rfl hszJ ?_)
        refine HSt.out.mono ?_
        rintro e w3 ⟨c, n, q, m', S', rfl, hok, hws, hf, hkp⟩
        have HF := Lib.hid (And.intro hok (And.intro hws (And.intro hf hkp)))
        have HOwn := Lib.hid (doi_own HI.out Hlt.out HKQ.out hkp)
        have HSz := Lib.hid (Nat.le_trans (Nat.le_trans HI.out.ka.size HKQ.out.size) hkp.size)
        clear hok hws hf hkp e0 e1
        unfold ocV
        go_wp2_with (at_builtin; refine wpList_one_oc rfl _ _ rfl w.heap.size u5 (ocsL os) i c n q rfl HOwn.out rfl (by omega) HSz.out ?_)
        intro v' w5 h1 hg hfr
        have HT := Lib.hid (doi_step HI.out Hlt.out HKQ.out hd HF.out.1 HF.out.2.1 HF.out.2.2.1 HF.out.2.2.2 h1 hg hfr)
        clear h1 hg hfr
        go_wp2_with fail
        go_roundw
        case rel => exact ⟨i + 1, _, m', S', by go_num, by omega, HT.out⟩
        case measure => (simp [intOf] <;> omega)
      · have hz : (kd == 0) = false := by simpa using h0
        by_cases hk : rn ∈ (sts i).ks
        · obtain ⟨x, y, hp⟩ : ∃ x y, m rn = .pointer (some ⟨x, y, none⟩) := by
            have hkk := nxt_with hN.out.1 h0 hk
            subst hkk
            obtain ⟨_, _, _, ρ, _, _, _, h4, _⟩ := HWS.out.run hk
            exact ⟨_, _, h4⟩
          have HSt : Hid (Calls Tryz.prog 47 #[.pointer (some ⟨db, 0, none⟩), .pointer (some ⟨x, y, none⟩), .agg DD] w2 (DeedR db mb k (sts i) (kd, rn) (sts (i + 1)) S w2)) := Lib.hid (by rw [← hp, ← hDD]; exact with_deed db mb k _ _ kd _ m S w2 HWS.out rn hk h0 hN.out.1)
          rw [if_pos hk, hp]
          clear hp h0
          go_upto_region 6 with fail
          go_wp2_with (refine wpList_load_row rfl 70 (.tmp 7) rfl wr.heap.size rfl 70 DD (0, 0) _ HW.out Tryz.underlying70 rfl hsz2 ?_)
          refine HSt.out.mono ?_
          rintro e w3 ⟨c, n, q, m', S', rfl, hok, hws, hf, hkp⟩
          have HF := Lib.hid (And.intro hok (And.intro hws (And.intro hf hkp)))
          have HOwn := Lib.hid (doi_own HI.out Hlt.out HKQ.out hkp)
          have HSz := Lib.hid (Nat.le_trans (Nat.le_trans HI.out.ka.size HKQ.out.size) hkp.size)
          clear hok hws hf hkp e0 e1
          unfold ocV
          go_wp2_with (at_builtin; refine wpList_one_oc rfl _ _ rfl w.heap.size u5 (ocsL os) i c n q rfl HOwn.out rfl (by omega) HSz.out ?_)
          intro v' w5 h1 hg hfr
          have HT := Lib.hid (doi_step HI.out Hlt.out HKQ.out hd HF.out.1 HF.out.2.1 HF.out.2.2.1 HF.out.2.2.2 h1 hg hfr)
          clear h1 hg hfr
          go_wp2_with fail
          go_roundw
          case rel => exact ⟨i + 1, _, m', S', by go_num, by omega, HT.out⟩
          case measure => (simp [intOf] <;> omega)
        · have HSt : Hid (Calls Tryz.prog 45 #[.int .i64 19] w2 (DeedR db mb k (sts i) (kd, rn) (sts (i + 1)) S w2)) := Lib.hid ((desk_just 19 w2).mono (by
            rintro e w' ⟨rfl, K⟩
            exact ⟨19, 0, 0, m, S, rfl, by simp [okO, h0, hk], by rw [nxt_none hN.out.1 h0 hk]; exact HWS.out.keeps K id id (fun _ _ => id), fun b hb => Or.inl hb, K.mono (fun _ _ h => h.elim)⟩))
          rw [if_neg hk]
          clear h0
          go_upto_region 12 with fail
          go_wp2_with fail
          refine HSt.out.mono ?_
          rintro e w3 ⟨c, n, q, m', S', rfl, hok, hws, hf, hkp⟩
          have HF := Lib.hid (And.intro hok (And.intro hws (And.intro hf hkp)))
          have HOwn := Lib.hid (doi_own HI.out Hlt.out HKQ.out hkp)
          have HSz := Lib.hid (Nat.le_trans (Nat.le_trans HI.out.ka.size HKQ.out.size) hkp.size)
          clear hok hws hf hkp e0 e1
          unfold ocV
          go_wp2_with (at_builtin; refine wpList_one_oc rfl _ _ rfl w.heap.size u5 (ocsL os) i c n q rfl HOwn.out rfl (by omega) HSz.out ?_)
          intro v' w5 h1 hg hfr
          have HT := Lib.hid (doi_step HI.out Hlt.out HKQ.out hd HF.out.1 HF.out.2.1 HF.out.2.2.1 HF.out.2.2.2 h1 hg hfr)
          clear h1 hg hfr
          go_wp2_with fail
          go_roundw
          case rel => exact ⟨i + 1, _, m', S', by go_num, by omega, HT.out⟩
          case measure => (simp [intOf] <;> omega)
    · have : i = ds.length := by omega
      subst this
      go_wp2_with fail
      go_ret
      exact ⟨_, os, m, S, rfl, HI.out.own, HI.out.len, HI.out.ok, HI.out.ws, HI.out.foot, HI.out.ka⟩
end Go.Proofs.YtbifklibdkjbeaaGreatDoor
