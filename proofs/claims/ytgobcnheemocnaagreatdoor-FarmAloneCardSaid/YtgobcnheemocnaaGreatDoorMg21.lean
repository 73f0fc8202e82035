/-
  Several texts in one: FarmAlone's walk. No condition. FarmAlone, whatever texts and picks come in. No condition. Texts and picks that came in, opened. No condition. Slices that are read: 'SlOf k enc w v l': in the world w the value v is a slice whose elements, of k cells each, are those of the list l. code.Is, Size, length: what they compute; the code point at a text's beginning, in plain Lean. code.length, code.Get: what they compute.
-/
import Derived.Test.YtgobcnheemocnaaGreatDoorMg17
import Derived.Test.YtgobcnheemocnaaGreatDoorFbWG
import Derived.Test.YtgobcnheemocnaaGreatDoorEvFaG
import Derived.Test.YtgobcnheemocnaaGreatDoorFbOG
import Derived.Test.YtgobcnheemocnaaGreatDoorMg15
import Derived.Test.YtgobcnheemocnaaGreatDoorMg14
import Derived.Deep.Slices
import Derived.ChangeArms
import Derived.Test.YtgobcnheemocnaaGreatDoorMg1
import Derived.Test.YtgobcnheemocnaaGreatDoorProg
import Derived.Laws.BitsAllLaws
import Derived.Outline
section
namespace Go.Proofs.YtgobcnheemocnaaGreatDoor
open Go
open Go.RowKit
set_option linter.unusedVariables false
set_option linter.unusedSimpArgs false
set_option maxRecDepth 100000

theorem itL_at : ∀ (M : List Itm) (k : Nat) (h : k < M.length) (j : Nat) (u : Value), (itC M[k]).toList[j]? = some u → (itL M)[k * 7 + j]? = some u
  | [], k, h, _, _, _ => absurd h (Nat.not_lt_zero _)
  | x :: M, 0, _, j, u, hj => by
    have : itL (x :: M) = (itC x).toList ++ itL M := by simp [itL]
    rw [this, List.getElem?_append_left (by have := (List.getElem?_eq_some_iff.1 hj).1; simpa using this)]
    simpa using hj
  | x :: M, k + 1, h, j, u, hj => by
    have : itL (x :: M) = (itC x).toList ++ itL M := by simp [itL]
    rw [this, List.getElem?_append_right (by simp [itC]; omega), show (k + 1) * 7 + j - (itC x).toList.length = k * 7 + j by simp [itC]; omega]
    exact itL_at M k (by simpa using h) j u hj
theorem addr0 (g k : Nat) : (⟨g, 0, none⟩ : Addr).add k = ⟨g, k, none⟩ := by unfold Addr.add; split <;> simp_all
theorem job_one : jobA.toArray.all (·.oneCell') = true := by simp [jobA, Value.oneCell']
theorem job_size : (Tryz.prog.info? 28).map (·.size) = some jobA.toArray.size := by
  have h : (Tryz.prog.info? 28).map (·.size) = some 17 := by kernel_rfl
  exact h
theorem PkAt.own {w : World} {v : Value} {l : List Int} (h : PkAt w v l) : l ≠ [] → ∀ b, v.ownBlock = some b → b < w.heap.size := by
  intro hne b hb
  obtain ⟨a, c, rfl, hk⟩ := h
  obtain ⟨x, r, rfl⟩ := List.exists_cons_of_ne_nil hne
  obtain ⟨b', off, rfl, h1, _⟩ := hk 0 x rfl
  obtain rfl : b' = b := Option.some.inj hb
  exact lt_of_cell h1
theorem TxAt.own {w : World} {v : Value} {l : List ByteArray} (h : TxAt w v l) {w' : World} {S : Nat → Prop} (K : Keeps S w w') (hs : ∀ b, b < w.heap.size → ¬ S b) : TxAt w' v l := by
  obtain ⟨a, c, rfl, hc, hh⟩ := h
  refine ⟨a, c, rfl, hc, fun h0 => ?_⟩
  obtain ⟨b, off, rfl, hk⟩ := hh h0
  exact ⟨b, off, rfl, fun k s hks => K.cell (hk k s hks) (hs b (lt_of_cell (hk k s hks)))⟩
theorem PkAt.up {w : World} {v : Value} {l : List Int} (h : PkAt w v l) {w' : World} {S : Nat → Prop} (K : Keeps S w w') (hs : ∀ b, b < w.heap.size → ¬ S b) : PkAt w' v l :=
  h.keeps K fun hne b hb => hs b (h.own hne b hb)
theorem its_ok {l : List ByteArray} (hs : smallB l = true) : l.length ≤ 20 ∧ ItOk (itsN l l.length) := by
  unfold smallB at hs
  simp only [Bool.and_eq_true, decide_eq_true_eq, List.all_eq_true] at hs
  refine ⟨hs.1, fun k x hx => ?_⟩
  have hk : k < l.length := by
    rcases Nat.lt_or_ge k l.length with h | h
    · exact h
    · rw [List.getElem?_eq_none (by rw [itsN_len]; exact h)] at hx; cases hx
  unfold itsN at hx
  simp [hk] at hx
  subst hx
  exact ⟨rfl, by simp [itOf], hs.2 _ (List.getElem_mem hk), rfl⟩
/-- What stands behind Run, as the law looks at it. -/
structure LawIs (n : Nat) (O : Nat → Prop) (w0 w : World) (rb : Nat) (I : Ids) (a : Option Addr) (c : Nat) (T : List Itm) (mo : Int) : Prop where
  c0 : w.cell? ⟨rb, 0, none⟩ = some (.pointer (some ⟨I.p, 0, none⟩))
  c1 : w.cell? ⟨rb, 1, none⟩ = some (.pointer (some ⟨I.f, 0, none⟩))
  c3 : w.cell? ⟨rb, 3, none⟩ = some (.pointer (some ⟨I.b, 0, none⟩))
  c4 : w.cell? ⟨rb, 4, none⟩ = some (.pointer (some ⟨I.t, 0, none⟩))
  t1 : w.cell? ⟨I.t, 1, none⟩ = some (.slice a n c)
  tc : ∀ (k : Nat), k < n → ∃ g, a = some ⟨g, 0, none⟩ ∧ n ≤ c ∧ w.cell? ⟨g, k * 7, none⟩ = some (.int .i64 k)
  om : n = 0 ∧ mo = 0 ∨ 1 ≤ n ∧ mo = 1
  hm : AskF w 11 I.f (.int .i64 mo)
  hd : ∀ W, Keeps (fun _ => False) w W → Calls Tryz.prog 10 #[.pointer (some ⟨rb, 0, none⟩)] W fun e w' => e = .returned (.bool true) ∧ Keeps (fun _ => False) W w'
  kp : Keeps (fun b => ¬ O b) w0 w
theorem LawIs.of {L : List Itm} {wb w0 w : World} {rb : Nat} {I : Ids} {col col' : Nat → Nat} {g : Gh} {n' : Nat} (hR : RigIs L wb w0 rb I col) (h : FLo I L (fun b => b < wb.heap.size ∨ b = rb) w0 w col' g n') (ht : g.tv = true) :
    ∃ a c T mo, LawIs L.length (fun b => b < wb.heap.size ∨ b = rb) w0 w rb I a c T mo := by
  obtain ⟨hj, hlo⟩ := h
  obtain ⟨ok, hs, hgi, ⟨sn, s0, s1, hp⟩, ⟨x, hwk, hwx⟩, hfm, ⟨sb, y, b0, b1, hpb, hy⟩, ⟨M, htk, hM, hMn⟩⟩ := hj
  obtain ⟨i, c, st, pa, pb, go, wo, tv⟩ := g
  obtain rfl : tv = true := ht
  obtain rfl : wo = true := ok.tv rfl
  obtain ⟨rfl, rfl⟩ : go = true ∧ st = 0 := ok.wo rfl
  obtain ⟨rfl, rfl⟩ : i = L.length ∧ pa = false := ok.go rfl
  have hc : c = L.length := by have : c + b2n false = L.length := ok.c; simpa [b2n] using this
  subst hc
  have hML : M.length = L.length := by rw [hM]; simp [Gh.t]
  have kR : ∀ o v, w0.cell? ⟨rb, o, none⟩ = some v → w.cell? ⟨rb, o, none⟩ = some v := fun o v hv => hs.kp.cell hv (fun hn => hn (Or.inr rfl))
  obtain ⟨v, hb, hgot, hgS⟩ := htk.hd
  obtain ⟨ga, gc, rfl⟩ := ownsRow_slice hgot
  have hF : ∀ {S : Nat → Prop}, ∀ b, S b → ¬ (fun _ : Nat => False) b := fun b _ => id
  have hmo : (Gh.mo ⟨L.length, L.length, 0, false, pb, true, true, true⟩ = 0 ∨ Gh.mo ⟨L.length, L.length, 0, false, pb, true, true, true⟩ = 1) := by unfold Gh.mo; split <;> simp
  refine ⟨ga, gc, M, Gh.mo ⟨L.length, L.length, 0, false, pb, true, true, true⟩, kR _ _ hR.c0, kR _ _ hR.c1, kR _ _ hR.c3, kR _ _ hR.c4, ?_, fun k hk => ?_, ?_, fun W K => fmost_any (hfm.pass K id), fun W K => ?_, hs.kp⟩
  · rw [cell_block hb, ← hML]; rfl
  · rcases hgot.2 with ⟨_, h0⟩ | ⟨g, cap, cur, e, _, _, hcl, _⟩
    · rw [hML] at h0; omega
    · cases e
      refine ⟨g, rfl, by omega, ?_⟩
      have hkM : k < M.length := by omega
      have hx := hMn k M[k] (List.getElem?_eq_getElem hkM)
      have hcell := hgot.cells (g := g) rfl (k * 7 + 0) (.int .i64 M[k].n) (itL_at M k hkM 0 _ rfl)
      rw [addr0, hx] at hcell
      exact hcell
  · have hlo0 : Gh.lo ⟨L.length, L.length, 0, false, pb, true, true, true⟩ = (L.length : Int) := if_neg (by show ¬ (0 : Int) = 1; decide)
    unfold Gh.mo
    rw [hlo0]
    by_cases h0 : L.length = 0
    · left; exact ⟨h0, if_pos (by omega)⟩
    · right; exact ⟨by omega, if_neg (by omega)⟩
  · have hpl := hs.pl.keeps K hF
    have hwk' := hwk.pass K id
    have hfm' := hfm.pass K id
    refine done_any W rb I.p I.f I.b I.l _ hmo ⟨K.cell (kR _ _ hR.c0) id, K.cell (kR _ _ hR.c1) id, K.cell (kR _ _ hR.c3) id, K.cell hs.ln id, hpl.jb 15 _ rfl, Keeps.refl _ _⟩ (fun W' K' => ?_) (fun W' K' => closed_any _ _ _ _ _ _ ((hpb.keeps K hF).keeps K' hF)) (fun W' K' => (fslips_any _ _ _ (hpl.keeps K' hF)).mono fun e w' ⟨a, b⟩ => ⟨a, by subst b; exact Keeps.refl _ _⟩) (fun W' K' => fopen_any (hfm'.pass K' id)) (fun W' K' => fmost_any (hfm'.pass K' id)) (fun W' K' => holds_any (hfm'.pass K' id) (K'.cell (K.cell hs.rc id) id) hR.cp (hwk'.pass K' id))
    have := lover_any ((hlo.keeps K hF).keeps K' hF) (x0 := true) (x1 := true) (x2 := true) (fun W2 K2 => gover_any (((hgi.keeps K hF).keeps K' hF).keeps K2 hF)) (fun W2 K2 => sover_any ((hwk'.pass K' id).pass K2 id)) (fun W2 K2 => tover_any (((htk.keeps K hF).keeps K' hF).keeps K2 hF))
    exact this
end Go.Proofs.YtgobcnheemocnaaGreatDoor
end
section
namespace Go.Proofs.YtgobcnheemocnaaGreatDoor
open Go
open Go.RowKit
set_option linter.unusedVariables false
set_option linter.unusedSimpArgs false
set_option maxRecDepth 100000

set_option maxHeartbeats 4000000 in
theorem law_yes (l : List ByteArray) (ps : List Int) (v pv : Value) (w : World) (ht : TxAt w v l) (hp : PkAt w pv ps) (hs : smallB l = true) (hps : ps.length ≤ 300) (HE : ∀ W x S, ObS en0 W (.pointer (some ⟨x, 0, none⟩)) S → Answers W x) :
    Calls Tryz.prog 3 #[v, pv] w fun e w' => e = .returned (.bool true) ∧ Keeps (fun _ => False) w w' := by
  obtain ⟨hl20, hok⟩ := its_ok hs
  have hLl : (itsN l l.length).length = l.length := itsN_len l l.length
  obtain ⟨va, vc, rfl⟩ : ∃ a c, v = .slice a l.length c := by obtain ⟨a, c, e, _⟩ := ht; exact ⟨a, c, e⟩
  obtain ⟨qa, qc, rfl⟩ : ∃ a c, pv = .slice a ps.length c := by obtain ⟨a, c, e, _⟩ := hp; exact ⟨a, c, e⟩
  have p1 : ¬ (300 : Int) < (ps.length : Int) := by omega
  have p2 : (ps.length : Int) ≤ 300 := by omega
  have H0 := Lib.hid (And.intro ht (And.intro hp (And.intro hs (And.intro hl20 (And.intro hok (And.intro hLl hps))))))
  have HEh := Lib.hid HE
  clear ht hp hs hps hl20 hok hLl HE
  go_enter Tryz.func3, Tryz.ntmps3
  go_wp2_with fail
  refine (awake22 _).mono ?_
  rintro e w1 ⟨rfl, k1⟩
  have HS := Lib.hid (small_any l _ w1 (H0.out.1.own k1 (fun _ _ => id)))
  rw [H0.out.2.2.1] at HS
  go_wp2_with fail
  refine HS.out.mono ?_
  rintro e w2 ⟨rfl, k2⟩
  have HK2 := Lib.hid (k1.trans k2)
  clear k1 k2 HS
  have HP := Lib.hid (plain_any w2)
  go_wp2_with fail
  refine HP.out.mono ?_
  rintro e w3 ⟨rfl, k3⟩
  have HK3 := Lib.hid (HK2.out.trans k3)
  clear k3 HK2 HP
  go_wp2_with (refine wpList_store_row rfl 28 (.tmp 5) (.tmp 22) rfl w3.heap.size jobA.toArray rfl rfl 28 _ (heap_alloc_new _ _) job_size rfl job_one ?_)
  generalize hw4 : World.setRow _ _ _ = w4
  have hj4 : w4.heap[w3.heap.size]? = some (.cells jobA.toArray 28 (0, 0)) := by rw [← hw4]; exact setRow_heap _ _ _ _ _ _ (heap_alloc_new _ _)
  have k34 : Keeps (fun _ => False) w3 w4 := by
    rw [← hw4]
    exact ((Keeps.refl (fun _ => False) w3).alloc _).trans2 (T := fun k => k = w3.heap.size) ⟨rfl, rfl, rfl, by simp, fun k hk hs => setRow_other _ _ _ _ hs⟩ (fun i hi e => by omega)
  have HK4 := Lib.hid (HK3.out.trans k34)
  have HI := Lib.hid (items_any l _ w4 (H0.out.1.own HK4.out (fun _ _ => id)) H0.out.2.2.2.1)
  have HJ4 := Lib.hid hj4
  clear hw4 hj4 k34 HK3
  go_wp2_with fail
  refine HI.out.mono ?_
  rintro e w5 ⟨u, rfl, hu⟩
  obtain ⟨ua, uc, rfl⟩ : ∃ a c, u = .slice a l.length c := by obtain ⟨a, c, e⟩ := ownsRow_slice hu.1; exact ⟨a, c, by rw [e, H0.out.2.2.2.2.2.1]⟩
  have HK5 := Lib.hid (HK4.out.trans hu.2)
  have HJ5 := Lib.hid (hu.2.heap HJ4.out id)
  have HB := Lib.hid (built_any (itsN l l.length) _ w5 w4 hu (by rw [H0.out.2.2.2.2.2.1]; exact H0.out.2.2.2.1))
  clear hu HI HJ4 HK4
  go_wp2_with (refine wpList_load_row rfl 28 (.tmp 5) rfl w3.heap.size rfl 28 jobA.toArray (0, 0) _ HJ5.out Tryz.underlying28 rfl job_size ?_)
  refine HB.out.mono ?_
  rintro e w6 ⟨rb, I, col, rfl, hR⟩
  have c0 := hR.c0
  have cl := hR.j.s.ln
  have K56 := hR.kp
  have HRn := Lib.hid (lo_run (n := 0) _ ps H0.out.2.2.2.2.2.2 ((H0.out.2.1.up HK5.out (fun _ _ => id)).up K56 (fun _ _ => id)) (fun hne b hb => Or.inl ((H0.out.2.1.up HK5.out (fun _ _ => id)).own hne b hb)) ⟨hR.j, hR.lo⟩ (by omega) (by rw [H0.out.2.2.2.2.2.1]; exact H0.out.2.2.2.1) H0.out.2.2.2.2.1 (fun W S => HEh.out W I.x S))
  have HR := Lib.hid hR
  clear hR K56 HB HJ5
  go_wp2_with fail
  refine HRn.out.mono ?_
  rintro e w7 ⟨k, rfl, col', g', n', hf, htv⟩
  obtain ⟨ga, gc, T, mo, hLw⟩ := LawIs.of HR.out hf htv
  rw [H0.out.2.2.2.2.2.1] at hLw
  have HK7 : Hid (Keeps (fun _ => False) w w7) := Lib.hid ((HK5.out.trans HR.out.kp).trans2 hLw.kp (fun i hi e => e (Or.inl (Nat.lt_of_lt_of_le hi HK5.out.size))))
  have HL := Lib.hid hLw
  clear hLw hf htv HRn HR c0 cl
  go_wp2_with fail
  go_loopw [8] (fun iv wr => ∃ m : Nat, m ≤ l.length ∧ iv = .int .i64 m ∧ Keeps (fun _ => False) w7 wr) (fun iv _ => l.length - (intOf iv).toNat)
  case atStart => exact ⟨0, Nat.zero_le _, rfl, Keeps.refl _ _⟩
  case round =>
    obtain ⟨m, hm, rfl, kr⟩ := hrel
    have x4 := kr.cell HL.out.c4 id
    have x1 := kr.cell HL.out.t1 id
    have HKr := Lib.hid kr
    clear kr
    by_cases hlt : m < l.length
    · obtain ⟨g, e, hcap, hcell⟩ := HL.out.tc m hlt
      subst e
      have xc := HKr.out.cell hcell id
      have hlt2 : (m : Int) < (l.length : Int) := by omega
      have hm20 : m < 20 := by have := H0.out.2.2.2.1; omega
      go_wp2_with fail
      go_roundw
      case rel => exact ⟨m + 1, by omega, by go_num, HKr.out⟩
      case measure => (simp [intOf] <;> omega)
    · obtain rfl : m = l.length := by omega
      have hlt2 : ¬ (l.length : Int) < (l.length : Int) := by omega
      have HD := Lib.hid (HL.out.hd wr HKr.out)
      have hF : ∀ W, Keeps (fun _ => False) wr W → W.cell? ⟨rb, 4, none⟩ = some (.pointer (some ⟨I.t, 0, none⟩)) ∧ W.cell? ⟨I.t, 1, none⟩ = some (.slice ga l.length gc) ∧ W.cell? ⟨rb, 1, none⟩ = some (.pointer (some ⟨I.f, 0, none⟩)) := fun W K => ⟨K.cell x4 id, K.cell x1 id, K.cell (HKr.out.cell HL.out.c1 id) id⟩
      have HFh := Lib.hid hF
      have hmo := HL.out.om
      clear hF
      go_wp2_with fail
      refine HD.out.mono ?_
      rintro e w8 ⟨rfl, k8⟩
      obtain ⟨y4, y1, y5⟩ := HFh.out w8 k8
      have HM := Lib.hid (HL.out.hm w8 (HKr.out.trans k8))
      have HK8 := Lib.hid (HK7.out.trans (HKr.out.trans k8))
      clear k8 HD
      rcases hmo with ⟨h0, rfl⟩ | ⟨h1, rfl⟩
      · have h0' : (l.length : Int) = 0 := by omega
        go_wp2_with fail
        refine HM.out.mono ?_
        rintro e w9 ⟨rfl, k9⟩
        go_wp2_with fail
        go_ret
        exact ⟨rfl, HK8.out.trans k9⟩
      · have h1' : (1 : Int) ≤ (l.length : Int) := by omega
        go_wp2_with fail
        refine HM.out.mono ?_
        rintro e w9 ⟨rfl, k9⟩
        go_wp2_with fail
        all_goals
          go_ret
          refine ⟨?_, HK8.out.trans k9⟩
        · rfl
        · have e : (l.length : Int) = 1 := by omega
          show Ending.returned (Value.bool ((1 : Int) == (l.length : Int))) = _
          rw [e]; rfl
/-- Texts that are too long, or too many picks: the first look alone. -/
theorem law_no (l : List ByteArray) (ps : List Int) (v pv : Value) (w : World) (ht : TxAt w v l) (hp : PkAt w pv ps) (hs : smallB l = false ∨ ¬ ps.length ≤ 300) :
    Calls Tryz.prog 3 #[v, pv] w fun e w' => e = .returned (.bool true) ∧ Keeps (fun _ => False) w w' := by
  obtain ⟨va, vc, rfl⟩ : ∃ a c, v = .slice a l.length c := by obtain ⟨a, c, e, _⟩ := ht; exact ⟨a, c, e⟩
  obtain ⟨qa, qc, rfl⟩ : ∃ a c, pv = .slice a ps.length c := by obtain ⟨a, c, e, _⟩ := hp; exact ⟨a, c, e⟩
  have H0 := Lib.hid (And.intro ht hs)
  clear ht hp hs
  cases hb : smallB l with
  | false =>
    have HB := Lib.hid hb
    clear hb
    go_enter Tryz.func3, Tryz.ntmps3
    go_wp2_with fail
    refine (awake22 _).mono ?_
    rintro e w1 ⟨rfl, k1⟩
    have HS := Lib.hid (small_any l _ w1 (H0.out.1.own k1 (fun _ _ => id)))
    rw [HB.out] at HS
    go_wp2_with fail
    refine HS.out.mono ?_
    rintro e w2 ⟨rfl, k2⟩
    go_wp2_with fail
    refine (awake22 _).mono ?_
    rintro e w3 ⟨rfl, k3⟩
    go_wp2_with fail
    go_ret
    exact ⟨rfl, (k1.trans k2).trans k3⟩
  | true =>
    have p1 : (300 : Int) < (ps.length : Int) := by
      rcases H0.out.2 with h | h
      · rw [hb] at h; cases h
      · omega
    have HB := Lib.hid hb
    clear hb
    go_enter Tryz.func3, Tryz.ntmps3
    go_wp2_with fail
    refine (awake22 _).mono ?_
    rintro e w1 ⟨rfl, k1⟩
    have HS := Lib.hid (small_any l _ w1 (H0.out.1.own k1 (fun _ _ => id)))
    rw [HB.out] at HS
    go_wp2_with fail
    refine HS.out.mono ?_
    rintro e w2 ⟨rfl, k2⟩
    go_wp2_with fail
    refine (awake22 _).mono ?_
    rintro e w3 ⟨rfl, k3⟩
    go_wp2_with fail
    go_ret
    exact ⟨rfl, (k1.trans k2).trans k3⟩
end Go.Proofs.YtgobcnheemocnaaGreatDoor
end
section
namespace Go.Proofs.YtgobcnheemocnaaGreatDoor
open Go
open Go.RowKit
set_option linter.unusedVariables false
set_option linter.unusedSimpArgs false
set_option maxRecDepth 100000

section
variable {H : Type} {enc : TypeId × Value → H} {w : World} {base : Nat} {spare : Nat → Bool} {held : Bool}
theorem spot_none {a : Addr} {n : Nat} {V : Nat → Value} (h0 : 0 < n) (h : ∀ i, i < n → w.cell? (a.add i) = some (V i)) : ∃ b off, a = ⟨b, off, none⟩ ∧ ∀ i, i < n → w.cell? ⟨b, off + i, none⟩ = some (V i) := by
  obtain ⟨b, off, spot⟩ := a
  have h1 := h 0 h0
  have hsp : spot = none := by simpa [Addr.add] using World.cell?_spot h1
  subst hsp
  refine ⟨b, off, rfl, fun i hi => ?_⟩
  have := h i hi
  have hadd : (⟨b, off, none⟩ : Addr).add i = ⟨b, off + i, none⟩ := by unfold Addr.add; split <;> simp_all
  rwa [hadd] at this
def strOf : Value → ByteArray
  | .string s => s
  | _ => ⟨#[]⟩
theorem strs_open {a : Option Addr} {len cap : Nat} {x : DataW H × List MemPlace}
    (h : ∃ fuel, DataW.trod enc Tryz.prog w base spare held fuel 22 (Value.slice a len cap).cells.toList = some x) :
    ∃ l : List ByteArray, l.length = len ∧ TxAt w (.slice a len cap) l := by
  obtain ⟨fuel, hf⟩ := h
  rcases Deep.open_slice1 Tryz.underlying22 (by kernel_rfl) hf with ⟨hcs, _⟩ | ⟨a', len', cap', m, n, V, D, Pl, hcs, _, hlc, hcm, hm, _, hx⟩
  · simp [Value.cells] at hcs
    obtain ⟨rfl, rfl, rfl⟩ := hcs
    exact ⟨[], rfl, ⟨none, 0, rfl, by simp, fun h => by simp at h⟩⟩
  · simp [Value.cells] at hcs
    obtain ⟨rfl, rfl, rfl⟩ := hcs
    have hlm : len ≤ m := by rw [hm]; split <;> omega
    have hv : ∀ i, i < len → V i = .string (strOf (V i)) := fun i hi => by
      obtain ⟨_, h2⟩ := hx i (by omega)
      obtain ⟨s, e, _, _⟩ := DataW.trod_string Tryz.underlying9 h2
      have e : V i = .string s := by simpa using e
      rw [e]; rfl
    refine ⟨(List.range len).map fun i => strOf (V i), by simp, ⟨some a', cap, by simp, by simpa using hlc, fun h0 => ?_⟩⟩
    obtain ⟨b, off, rfl, hc⟩ := spot_none (by simpa using h0) (fun i hi => (hx i (by omega)).1 : ∀ i, i < len → _)
    refine ⟨b, off, rfl, fun k s hk => ?_⟩
    have hi : k < len := by
      rcases Nat.lt_or_ge k len with h | h
      · exact h
      · rw [List.getElem?_eq_none (by simpa using h)] at hk; cases hk
    simp [hi] at hk
    subst hk
    rw [hc k hi]; exact congrArg some (hv k hi)
def intV : Value → Int
  | .int _ n => n
  | _ => 0
theorem picks_open {a : Option Addr} {len cap : Nat} {x : DataW H × List MemPlace}
    (h : ∃ fuel, DataW.trod enc Tryz.prog w base spare held fuel 23 (Value.slice a len cap).cells.toList = some x) :
    ∃ l : List Int, l.length = len ∧ PkAt w (.slice a len cap) l := by
  obtain ⟨fuel, hf⟩ := h
  rcases Deep.open_slice1 Tryz.underlying23 (by kernel_rfl) hf with ⟨hcs, _⟩ | ⟨a', len', cap', m, n, V, D, Pl, hcs, _, hlc, hcm, hm, _, hx⟩
  · simp [Value.cells] at hcs
    obtain ⟨rfl, rfl, rfl⟩ := hcs
    exact ⟨[], rfl, ⟨none, 0, rfl, fun k q hk => by simp at hk⟩⟩
  · simp [Value.cells] at hcs
    obtain ⟨rfl, rfl, rfl⟩ := hcs
    have hlm : len ≤ m := by rw [hm]; split <;> omega
    have hv : ∀ i, i < len → V i = .int .i64 (intV (V i)) ∧ -9223372036854775808 ≤ intV (V i) ∧ intV (V i) ≤ 9223372036854775807 := fun i hi => by
      obtain ⟨_, h2⟩ := hx i (by omega)
      obtain ⟨p, e, _, r⟩ := DataW.trod_int Tryz.underlying3 h2
      have e : V i = .int .i64 p := by simpa using e
      have e1 : IntKind.i64.min = -9223372036854775808 := by decide
      have e2 : IntKind.i64.max = 9223372036854775807 := by decide
      simp [Lit.wf] at r
      rw [e]
      refine ⟨rfl, ?_, ?_⟩ <;> (show _ ≤ _; simp only [intV]; omega)
    refine ⟨(List.range len).map fun i => intV (V i), by simp, ⟨some a', cap, by simp, fun k q hk => ?_⟩⟩
    have hi : k < len := by
      rcases Nat.lt_or_ge k len with h | h
      · exact h
      · rw [List.getElem?_eq_none (by simpa using h)] at hk; cases hk
    obtain ⟨b, off, rfl, hc⟩ := spot_none (by omega) (fun i hi => (hx i (by omega)).1 : ∀ i, i < len → _)
    simp [hi] at hk
    subst hk
    refine ⟨b, off, rfl, ?_, (hv k hi).2⟩
    rw [hc k hi]; exact congrArg some (hv k hi).1
end
end Go.Proofs.YtgobcnheemocnaaGreatDoor
end
section
namespace Go.Proofs.YtgobcnheemocnaaGreatDoor
open Go.RowKit
set_option linter.unusedVariables false
set_option linter.unusedSimpArgs false

def SlOf {α : Type} (k : Nat) (enc : α → Nat → Value) (w : World) (v : Value) (l : List α) : Prop :=
  ∃ a cap, v = .slice a l.length cap ∧ (l.length ≤ cap ∧ (a = none → cap = 0)) ∧ l.length ≤ 4611686018427387904 ∧
    (0 < l.length → ∃ b off, a = some ⟨b, off, none⟩ ∧ ∀ i x, l[i]? = some x → ∀ j, j < k → w.cell? ⟨b, off + i * k + j, none⟩ = some (enc x j))

theorem SlOf.keeps {α : Type} {k : Nat} {enc : α → Nat → Value} {S : Nat → Prop} {w w' : World} {v : Value} {l : List α} (h : SlOf k enc w v l) (K : Keeps S w w') (hs : ∀ b, v.ownBlock = some b → ¬ S b) : SlOf k enc w' v l := by
  obtain ⟨a, cap, rfl, hl, hl2, hc⟩ := h
  refine ⟨a, cap, rfl, hl, hl2, fun h0 => ?_⟩
  obtain ⟨b, off, rfl, hcc⟩ := hc h0
  exact ⟨b, off, rfl, fun i x hx j hj => K.cell (hcc i x hx j hj) (hs b rfl)⟩
theorem SlOf.keep {α : Type} {k : Nat} {enc : α → Nat → Value} {w w' : World} {v : Value} {l : List α} (h : SlOf k enc w v l) (K : Keeps (fun _ => False) w w') : SlOf k enc w' v l := h.keeps K (fun _ _ => id)
theorem SlOf.nil {α : Type} (k : Nat) (enc : α → Nat → Value) (w : World) : SlOf k enc w (.slice none 0 0) [] := ⟨none, 0, rfl, ⟨Nat.le_refl _, fun _ => rfl⟩, by simp, fun h => by simp at h⟩

/-- The cells of a list, one behind the other. -/
def cellsOf {α : Type} (k : Nat) (enc : α → Nat → Value) (l : List α) : List Value := l.flatMap fun x => (List.range k).map (enc x)
theorem cellsOf_append {α : Type} (k : Nat) (enc : α → Nat → Value) (l m : List α) : cellsOf k enc (l ++ m) = cellsOf k enc l ++ cellsOf k enc m := by simp [cellsOf]
/-- An integer of 64 bits. -/
def in64 (n : Int) : Prop := -9223372036854775808 ≤ n ∧ n ≤ 9223372036854775807
end Go.Proofs.YtgobcnheemocnaaGreatDoor
end
section
namespace Go.Proofs.YtgobcnheemocnaaGreatDoor
open Go.RowKit
set_option linter.unusedVariables false
set_option linter.unusedSimpArgs false
set_option maxRecDepth 100000

def isB (r : Int) : Bool := decide (0 ≤ r) && decide (r ≤ 1114111) && (decide (r < 55296) || decide (57344 ≤ r))
def sizP (r : Int) : Int := if isB r then (if r < 128 then 1 else if r < 2048 then 2 else if r < 65536 then 3 else 4) else 0
def lenP (c : Nat) : Nat := if c < 128 then 1 else if 194 ≤ c ∧ c < 224 then 2 else if 224 ≤ c ∧ c < 240 then 3 else if 240 ≤ c ∧ c < 245 then 4 else 0

theorem is_any (r : Int) (w : World) : Calls Tryz.prog 61 #[.int .i64 r] w fun e w' => e = .returned (.bool (isB r)) ∧ w = w' := by
  by_cases h0 : 0 ≤ r
  · by_cases h1 : r ≤ 1114111
    · have g0 : decide (0 ≤ r) = true := by simpa using h0
      have g1 : decide (r ≤ 1114111) = true := by simpa using h1
      by_cases h2 : r < 55296
      · have e : isB r = true := by simp [isB, h0, h1, h2]
        have g2 : decide (r < 55296) = true := by simpa using h2
        rw [e]
        go_enter Tryz.func61, Tryz.ntmps61
        go_wp2_with fail
        go_ret
        exact ⟨rfl, rfl⟩
      · have g2 : decide (r < 55296) = false := by simp; omega
        by_cases h3 : 57344 ≤ r
        · have e : isB r = true := by simp [isB, h0, h1, h3]
          have g3 : decide (57344 ≤ r) = true := by simpa using h3
          rw [e]
          go_enter Tryz.func61, Tryz.ntmps61
          go_wp2_with fail
          go_ret
          exact ⟨rfl, rfl⟩
        · have e : isB r = false := by simp [isB, h2]; omega
          have g3 : decide (57344 ≤ r) = false := by simp; omega
          rw [e]
          go_enter Tryz.func61, Tryz.ntmps61
          go_wp2_with fail
          go_ret
          exact ⟨rfl, rfl⟩
    · have e : isB r = false := by simp [isB]; omega
      have g0 : decide (0 ≤ r) = true := by simpa using h0
      have g1 : decide (r ≤ 1114111) = false := by simp; omega
      rw [e]
      go_enter Tryz.func61, Tryz.ntmps61
      go_wp2_with fail
      go_ret
      exact ⟨rfl, rfl⟩
  · have e : isB r = false := by simp [isB]; omega
    have g0 : decide (0 ≤ r) = false := by simp; omega
    rw [e]
    go_enter Tryz.func61, Tryz.ntmps61
    go_wp2_with fail
    go_ret
    exact ⟨rfl, rfl⟩

theorem size_any (r : Int) (w : World) : Calls Tryz.prog 73 #[.int .i64 r] w fun e w' => e = .returned (.int .i64 (sizP r)) ∧ w = w' := by
  have HI := Lib.hid (fun W => is_any r W)
  have He : Hid (sizP r = if isB r then (if r < 128 then 1 else if r < 2048 then 2 else if r < 65536 then 3 else 4) else 0) := Lib.hid rfl
  generalize sizP r = q at He
  cases hb : isB r with
  | false =>
    rw [hb] at HI He
    simp only [Bool.false_eq_true, if_false] at He
    clear hb
    go_enter Tryz.func73, Tryz.ntmps73
    go_wp2_with fail
    refine (HI.out _).mono ?_
    rintro e w1 ⟨rfl, rfl⟩
    go_wp2_with fail
    go_ret
    exact ⟨by rw [He.out]; rfl, rfl⟩
  | true =>
    rw [hb] at HI He
    simp only [if_true] at He
    clear hb
    by_cases h1 : r < 128
    · have E : Hid (q = 1) := Lib.hid (by rw [He.out, if_pos h1])
      clear He
      go_enter Tryz.func73, Tryz.ntmps73
      go_wp2_with fail
      refine (HI.out _).mono ?_
      rintro e w1 ⟨rfl, rfl⟩
      go_wp2_with fail
      go_ret
      exact ⟨by rw [E.out]; rfl, rfl⟩
    · have g1 : decide (r < 128) = false := by simp; omega
      by_cases h2 : r < 2048
      · have E : Hid (q = 2) := Lib.hid (by rw [He.out, if_neg h1, if_pos h2])
        clear He
        go_enter Tryz.func73, Tryz.ntmps73
        go_wp2_with fail
        refine (HI.out _).mono ?_
        rintro e w1 ⟨rfl, rfl⟩
        go_wp2_with fail
        go_ret
        exact ⟨by rw [E.out]; rfl, rfl⟩
      · have g2 : decide (r < 2048) = false := by simp; omega
        by_cases h3 : r < 65536
        · have E : Hid (q = 3) := Lib.hid (by rw [He.out, if_neg h1, if_neg h2, if_pos h3])
          clear He
          go_enter Tryz.func73, Tryz.ntmps73
          go_wp2_with fail
          refine (HI.out _).mono ?_
          rintro e w1 ⟨rfl, rfl⟩
          go_wp2_with fail
          go_ret
          exact ⟨by rw [E.out]; rfl, rfl⟩
        · have g3 : decide (r < 65536) = false := by simp; omega
          have E : Hid (q = 4) := Lib.hid (by rw [He.out, if_neg h1, if_neg h2, if_neg h3])
          clear He
          go_enter Tryz.func73, Tryz.ntmps73
          go_wp2_with fail
          refine (HI.out _).mono ?_
          rintro e w1 ⟨rfl, rfl⟩
          go_wp2_with fail
          go_ret
          exact ⟨by rw [E.out]; rfl, rfl⟩
end Go.Proofs.YtgobcnheemocnaaGreatDoor
end
section
namespace Go.Proofs.YtgobcnheemocnaaGreatDoor
open Go.RowKit
set_option linter.unusedVariables false
set_option linter.unusedSimpArgs false
set_option maxRecDepth 100000

theorem ofInt_i64 (a : Nat) (ha : a < 9223372036854775808) : (BitVec.ofInt 64 (a : Int)).toNat = a := by
  rw [BitVec.ofInt_natCast, BitVec.toNat_ofNat]; exact Nat.mod_eq_of_lt (by omega)
theorem or_64 (a b : Nat) (ha : a < 1099511627776) (hb : b < 64) : bits .or .i64 ((a : Int) * 64) (b : Int) = (a : Int) * 64 + b := by
  have e : (a : Int) * 64 = ((a * 64 : Nat) : Int) := by omega
  rw [e]
  show IntKind.i64.wrap ((BitVec.ofInt 64 ((a * 64 : Nat) : Int) ||| BitVec.ofInt 64 (b : Int)).toNat : Int) = _
  rw [BitVec.toNat_or, ofInt_i64 _ (by omega), ofInt_i64 _ (by omega)]
  have h := Nat.shiftLeft_add_eq_or_of_lt (i := 6) (show b < 2 ^ 6 by omega) a
  rw [Nat.shiftLeft_eq] at h
  rw [show a * 64 = a * 2 ^ 6 by omega, ← h, IntKind.wrap_i64]
  omega
theorem and_pow (n k : Nat) (hk : k < 16) (hn : n < 256) : bits .and .i64 (n : Int) ((2 ^ k - 1 : Nat) : Int) = ((n % 2 ^ k : Nat) : Int) := by
  have hp : 2 ^ k ≤ 2 ^ 16 := Nat.pow_le_pow_right (by omega) (by omega)
  show IntKind.i64.wrap ((BitVec.ofInt 64 (n : Int) &&& BitVec.ofInt 64 ((2 ^ k - 1 : Nat) : Int)).toNat : Int) = _
  rw [BitVec.toNat_and, ofInt_i64 _ (by omega), ofInt_i64 _ (by omega), Nat.and_two_pow_sub_one_eq_mod, IntKind.wrap_i64]
  have : n % 2 ^ k ≤ n := Nat.mod_le _ _
  omega

def tailP (r : Nat) : List UInt8 → Option Nat
  | [] => some r
  | c :: l => if c.toNat / 64 = 2 then tailP (r * 64 + c.toNat % 64) l else none
def headP (c : UInt8) : Nat := if 1 < lenP c.toNat then c.toNat % 2 ^ (7 - lenP c.toNat) else c.toNat
def getP : List UInt8 → Int × Nat
  | [] => (65533, 0)
  | c :: l => if lenP c.toNat = 0 ∨ l.length + 1 < lenP c.toNat then (65533, 1) else
    match tailP (headP c) (l.take (lenP c.toNat - 1)) with
    | none => (65533, 1)
    | some r => if sizP r = lenP c.toNat then (r, lenP c.toNat) else (65533, 1)

theorem length_any (c : Nat) (w : World) (hc : c < 256) : Calls Tryz.prog 99 #[.int .u8 (c : Int)] w fun e w' => e = .returned (.int .i64 (lenP c)) ∧ w = w' := by
  have He : Hid (lenP c = if c < 128 then 1 else if 194 ≤ c ∧ c < 224 then 2 else if 224 ≤ c ∧ c < 240 then 3 else if 240 ≤ c ∧ c < 245 then 4 else 0) := Lib.hid rfl
  generalize lenP c = q at *
  have gg : (c < 128 ∧ q = 1) ∨ (128 ≤ c ∧ c < 194 ∧ q = 0) ∨ (194 ≤ c ∧ c < 224 ∧ q = 2) ∨ (224 ≤ c ∧ c < 240 ∧ q = 3) ∨ (240 ≤ c ∧ c < 245 ∧ q = 4) ∨ (245 ≤ c ∧ q = 0) := by
    have h := He.out
    split at h
    · left; omega
    · split at h
      · omega
      · split at h
        · omega
        · split at h <;> omega
  clear He
  rcases gg with ⟨h1, rfl⟩ | ⟨h1, h2, rfl⟩ | ⟨h1, h2, rfl⟩ | ⟨h1, h2, rfl⟩ | ⟨h1, h2, rfl⟩ | ⟨h1, rfl⟩
  · have g1 : decide ((c : Int) < 128) = true := by simp; omega
    go_enter Tryz.func99, Tryz.ntmps99
    go_wp2_with fail
    go_ret
    exact ⟨rfl, rfl⟩
  all_goals
    have g1 : decide ((c : Int) < 128) = false := by simp; omega
    obtain ⟨b1, e1⟩ : ∃ b, decide ((194 : Int) ≤ (c : Int)) = b := ⟨_, rfl⟩
    obtain ⟨b2, e2⟩ : ∃ b, decide ((c : Int) < 224) = b := ⟨_, rfl⟩
    obtain ⟨b3, e3⟩ : ∃ b, decide ((224 : Int) ≤ (c : Int)) = b := ⟨_, rfl⟩
    obtain ⟨b4, e4⟩ : ∃ b, decide ((c : Int) < 240) = b := ⟨_, rfl⟩
    obtain ⟨b5, e5⟩ : ∃ b, decide ((240 : Int) ≤ (c : Int)) = b := ⟨_, rfl⟩
    obtain ⟨b6, e6⟩ : ∃ b, decide ((c : Int) < 245) = b := ⟨_, rfl⟩
    cases b1 <;> cases b2 <;> cases b3 <;> cases b4 <;> cases b5 <;> cases b6 <;> first | (exfalso; simp at e1 e2 e3 e4 e5 e6; omega) | skip
    all_goals
      go_enter Tryz.func99, Tryz.ntmps99
      go_wp2_with fail
      go_ret
      exact ⟨rfl, rfl⟩
end Go.Proofs.YtgobcnheemocnaaGreatDoor
end
