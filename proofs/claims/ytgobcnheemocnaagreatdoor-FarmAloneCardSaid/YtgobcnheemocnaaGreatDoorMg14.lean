/-
  Several texts in one: The loom's Run: steps while one is ready. No condition but what a step brings. The loom: Add, Names. No condition. The loom at three tasks: Names; a loom that has its three tasks. No condition. FarmAlone's plant as feed.New leaves it: the plant, its loom, its tree, apart. No condition. Keep; NewStage; a worker's Enter; a farm's small functions. No condition. FarmAlone: feed.New and engine.Compile as contracts; Itoa of nought. No condition.
-/
import Derived.Test.YtgobcnheemocnaaGreatDoorMg13
import Derived.Deep.LoopGhost
section
namespace Go.Proofs.YtgobcnheemocnaaGreatDoor
open Go.RowKit
set_option linter.unusedVariables false
set_option linter.unusedSimpArgs false
set_option maxRecDepth 100000

/-- A row of picks: its cells, within an int's ends. -/
def PkAt (w : World) (v : Value) (l : List Int) : Prop := ∃ a c, v = .slice a l.length c ∧ ∀ (k : Nat) (q : Int), l[k]? = some q → ∃ b off, a = some ⟨b, off, none⟩ ∧ w.cell? ⟨b, off + k, none⟩ = some (.int .i64 q) ∧ -9223372036854775808 ≤ q ∧ q ≤ 9223372036854775807
set_option maxHeartbeats 8000000 in
theorem lrun_any (lb : Nat) (pv : Value) (ps : List Int) (hps : ps.length ≤ 300) (I : Nat → World → Prop) (Fin : World → Prop) (hP : ∀ m W, I m W → PkAt W pv ps)
    (hS : ∀ m W (p : Int), I m W → -9223372036854775808 ≤ p → p ≤ 9223372036854775807 → Calls Tryz.prog 18 #[.pointer (some ⟨lb, 0, none⟩), .int .i64 p] W fun e w' => (∃ (q : Int) (m' : Nat), e = .returned (.tuple #[.int .i64 q, .bool true]) ∧ m' < m ∧ I m' w') ∨ (e = .returned (.tuple #[.int .i64 0, .bool false]) ∧ Fin w'))
    (m : Nat) (hm : m ≤ 5000) (w : World) (h : I m w) :
    Calls Tryz.prog 9 #[.pointer (some ⟨lb, 0, none⟩), pv] w fun e w' => ∃ k : Int, e = .returned (.int .i64 k) ∧ Fin w' := by
  obtain ⟨pa, pc, rfl, _⟩ := hP m w h
  have HP := Lib.hid hP
  have HS := Lib.hid hS
  have HI := Lib.hid h
  have hps2 : (ps.length : Int) ≤ 300 := by omega
  clear hP hS h
  go_enter Tryz.func9, Tryz.ntmps9
  go_wp2_with fail
  go_loopw [5, 6] (fun sv iv wr => ∃ k j : Nat, sv = .int .i64 k ∧ iv = .int .i64 k ∧ I j wr ∧ k + j ≤ m) (fun sv _ _ => m + 1 - (intOf sv).toNat)
  case atStart => exact ⟨0, m, rfl, rfl, HI.out, by omega⟩
  case round =>
    obtain ⟨k, j, rfl, rfl, hI, hkj⟩ := hrel
    obtain ⟨a0, c0, e0, hc⟩ := HP.out j wr hI
    obtain ⟨rfl, _, rfl⟩ := Value.slice.inj e0
    have hk1 : (k : Int) < 100000 := by omega
    by_cases hlt : k < ps.length
    · obtain ⟨b, off, rfl, hcell, hq1, hq2⟩ := hc k ps[k] (List.getElem?_eq_getElem hlt)
      have HC := Lib.hid (HS.out j wr ps[k] hI hq1 hq2)
      generalize ps[k] = q at *
      have hlt2 : (k : Int) < (ps.length : Int) := by omega
      clear hc e0
      go_wp2_with fail
      refine HC.out.mono ?_
      rintro e w1 (⟨q2, m2, rfl, hm2, hI2⟩ | ⟨rfl, hF⟩)
      · go_wp2_with fail
        go_roundw
        · exact ⟨k + 1, m2, rfl, rfl, hI2, by omega⟩
        · simp [intOf]; omega
      · go_wp2_with fail
        go_ret
        exact ⟨_, rfl, hF⟩
    · have HC := Lib.hid (HS.out j wr ((k : Int) - ps.length) hI (by omega) (by omega))
      have hlt2 : ¬ (k : Int) < (ps.length : Int) := by omega
      have hlt3 : (ps.length : Int) ≤ (k : Int) := by omega
      clear hc e0
      go_wp2_with fail
      refine HC.out.mono ?_
      rintro e w1 (⟨q2, m2, rfl, hm2, hI2⟩ | ⟨rfl, hF⟩)
      · go_wp2_with fail
        go_roundw
        · exact ⟨k + 1, m2, rfl, rfl, hI2, by omega⟩
        · simp [intOf]; omega
      · go_wp2_with fail
        go_ret
        exact ⟨_, rfl, hF⟩
end Go.Proofs.YtgobcnheemocnaaGreatDoor
end
section
namespace Go.Proofs.YtgobcnheemocnaaGreatDoor
open Go.RowKit
set_option linter.unusedVariables false
set_option linter.unusedSimpArgs false
set_option maxRecDepth 100000

/-- append of one cell on a row of one's own: the new block is the old one or a new one. -/
theorem run_one (w : World) (t ty e : TypeId) (i0 : TypeInfo) (z : Value) (bytes : Nat) (ht : Tryz.prog.underlying t = some (.slice e)) (hi : Tryz.prog.info? e = some i0) (hz0 : i0.zero = some z) (hz1 : i0.size = 1) (hz2 : i0.bytes = bytes) (hzs : z.cells.size = 1) (hby : bytes ≤ 1000)
    (v : Value) (n : Nat) (us : List Value) (q : Value) (hown : w.ownsRow 0 e 1 v n us) (hn : n ≤ 200000) (hq : q.oneCell' = true) (A : Nat) (hA : ∀ (j : Nat) (u : Value), [q][j]? = some u → w.cell? ((⟨A, 0, none⟩ : Addr).add j) = some u) :
    ∃ v' w', (Builtin.append_ #[t, t] ty #[v, .slice (some ⟨A, 0, none⟩) 1 1]).run Tryz.prog w = .ok v' w' ∧ w'.ownsRow 0 e 1 v' (n + 1) (us ++ [q]) ∧ (∀ b, v'.ownBlock = some b → v.ownBlock = some b ∨ w.heap.size ≤ b ∧ b < w'.heap.size) ∧ Keeps (fun k => v.ownBlock = some k) w w' := by
  have hone : ∀ u ∈ [q], u.oneCell' = true := by intro u hu; simp at hu; subst hu; exact hq
  have hb1 : (n + 1) * bytes ≤ 140737488355328 := Nat.le_trans (Nat.mul_le_mul_left _ hby) (by omega)
  have hb2 : (0 + 1) * bytes ≤ 140737488355328 := by omega
  obtain ⟨v', w', hr, h2, h3, _⟩ := run_append_own (P := Tryz.prog) w 0 t ty e i0 _ 1 bytes ht hi hz0 hz1 hz2 hzs (by decide) v n us hown ⟨A, 0, none⟩ 1 1 [q] rfl hA hone (by unfold maxLen; omega) hb1 (Nat.zero_le _)
  refine ⟨v', w', hr, h2, fun b hb => ?_, (Keeps.refl _ _).grown h3 fun k hk => Or.inl hk⟩
  have hlt : b < w'.heap.size := by
    rcases h2.2 with ⟨e, _⟩ | ⟨g, cap, cur, rfl, _, hg, _⟩
    · rw [e] at hb; cases hb
    · obtain rfl : g = b := Option.some.inj hb
      exact (Array.getElem?_eq_some_iff.1 hg).1
  have hl := hown.1
  rcases hown.2 with ⟨e1, h0⟩ | ⟨g, cap, cur, e1, hbg, hg, hnc, hcm, hcs, htake⟩
  · subst e1
    subst h0
    have hown1 : w.ownsRow w.heap.size e 1 (.slice none 0 0) 0 us := ⟨hl, Or.inl ⟨rfl, rfl⟩⟩
    obtain ⟨v2, w2, hr2, h5, _, _⟩ := run_append_own (P := Tryz.prog) w w.heap.size t ty e i0 _ 1 bytes ht hi hz0 hz1 hz2 hzs (by decide) (.slice none 0 0) 0 us hown1 ⟨A, 0, none⟩ 1 1 [q] rfl hA hone (by unfold maxLen; omega) hb2 (Nat.le_refl _)
    rw [hr] at hr2
    cases hr2
    exact Or.inr ⟨ownBlock_base h5 b hb, hlt⟩
  · subst e1
    by_cases hroom : n + 1 ≤ cap
    · have hfit : n * i0.size + [q].length ≤ cur.size := by rw [hcs, hz1]; simp; omega
      have hr2 := run_append_room (P := Tryz.prog) w t ty e i0 ht hi g n cap cur hg ⟨A, 0, none⟩ 1 1 [q] (by rw [hz1]; rfl) hA hone hroom hfit
      rw [hr] at hr2
      cases hr2
      exact Or.inl hb
    · have hr2 := run_append_grow (P := Tryz.prog) w t ty e i0 _ ht hi hz0 ⟨g, 0, none⟩ n cap us (by rw [hz1]; exact hl) (hown.cells (g := g) rfl) ⟨A, 0, none⟩ 1 1 [q] (by rw [hz1]; rfl) hA (by omega) (by omega) (by rw [hz2]; exact growslice_fits (by omega) hb1)
      rw [hr] at hr2
      cases hr2
      have : w.heap.size = b := by simpa [Value.ownBlock] using hb
      exact Or.inr ⟨by omega, hlt⟩
theorem wpList_one {w : World} {ops : Array Oper} {rest : List Oper} {o : Oper} {a : Act} {Q : Exit → Act → World → Prop} (t e : TypeId) (i0 : TypeInfo) (z : Value) (bytes : Nat) (ht : Tryz.prog.underlying t = some (.slice e)) (hi : Tryz.prog.info? e = some i0) (hz0 : i0.zero = some z) (hz1 : i0.size = 1) (hz2 : i0.bytes = bytes) (hzs : z.cells.size = 1) (hby : bytes ≤ 1000)
    (hgd : o.guard = none) (s x : Operand)
    (ho : o.op = .call { callee := .builtin .append, args := #[s, x], argTypes := #[t, t] }) (v : Value) (n : Nat) (us : List Value) (q : Value) (hs : a.eval s = v) (hown : w.ownsRow 0 e 1 v n us) (hn : n ≤ 200000) (hq : q.oneCell' = true)
    (hx : a.eval x = .slice (some ⟨w.heap.size, 0, none⟩) 1 1)
    (h : ∀ v' w', w'.ownsRow 0 e 1 v' (n + 1) (us ++ [q]) → (∀ b, v'.ownBlock = some b → v.ownBlock = some b ∨ w.heap.size ≤ b ∧ b < w'.heap.size) → Keeps (fun k => v.ownBlock = some k) w w' → wpList Tryz.prog ops Q rest (a.put o.dst v') w') :
    wpList Tryz.prog ops Q (o :: rest) a (w.alloc (.cells #[q] e)) := by
  obtain ⟨v', w', hr, h1, h2, h3⟩ := run_one (w.alloc (.cells #[q] e)) t o.type e i0 z bytes ht hi hz0 hz1 hz2 hzs hby v n us q (ownsRow_alloc hown _) hn hq w.heap.size (cells_new w [q] _)
  refine wpList_plain hgd fun _ hK => ?_
  unfold Oper.wp execOp
  simp only [ho, resolve, invoke, builtin, Sem.run_bind, Sem.run_pure, Result.andThen_ok, List.map_toArray, List.map_cons, List.map_nil, hs, hx, hr]
  refine hK _ _ (h v' w' h1 (fun b hb => ?_) (((Keeps.refl (fun k => v.ownBlock = some k) w).alloc _).trans h3))
  rcases h2 b hb with e | ⟨e1, e2⟩
  · exact Or.inl e
  · exact Or.inr ⟨by simp at e1; omega, e2⟩
theorem info_task : (Tryz.prog.info? 94).map (fun i => (i.zero, i.size, i.bytes)) = some (some .nilIface, 1, 16) := by kernel_rfl
/-- A loom that has not gone yet, and its tasks. -/
structure LoG (w : World) (lb : Nat) (S : Nat → Prop) (ts : List Value) : Prop where
  hd : ∃ v fz, Thw fz ∧ w.heap[lb]? = some (.cells #[v, .slice none 0 0] 97 fz) ∧ w.ownsRow 0 94 1 v ts.length ts ∧ ∀ g, v.ownBlock = some g → S g ∧ g ≠ lb
  sb : S lb
theorem LoG.keeps {S T : Nat → Prop} {w w' : World} {lb : Nat} {ts : List Value} (h : LoG w lb S ts) (K : Keeps T w w') (hs : ∀ b, S b → ¬ T b) : LoG w' lb S ts := by
  obtain ⟨v, fz, hfz, h1, h2, h3⟩ := h.hd
  refine ⟨⟨v, fz, hfz, K.heap h1 (hs _ h.sb), ⟨h2.1, ?_⟩, h3⟩, h.sb⟩
  rcases h2.2 with h0 | ⟨g, cap, cur, rfl, hg, hh, hq⟩
  · exact Or.inl h0
  · exact Or.inr ⟨g, cap, cur, rfl, hg, K.heap hh (hs _ (h3 g rfl).1), hq⟩
theorem LoG.mono {S T : Nat → Prop} {w : World} {lb : Nat} {ts : List Value} (h : LoG w lb S ts) (hs : ∀ b, S b → T b) : LoG w lb T ts := by
  obtain ⟨v, fz, hfz, h1, h2, h3⟩ := h.hd
  exact ⟨⟨v, fz, hfz, h1, h2, fun g hg => ⟨hs _ (h3 g hg).1, (h3 g hg).2⟩⟩, hs _ h.sb⟩
theorem LoG.low {S : Nat → Prop} {w : World} {lb : Nat} {ts : List Value} (h : LoG w lb S ts) : LoG w lb (fun k => S k ∧ k < w.heap.size) ts := by
  obtain ⟨v, fz, hfz, h1, h2, h3⟩ := h.hd
  refine ⟨⟨v, fz, hfz, h1, h2, fun g hg => ⟨⟨(h3 g hg).1, ?_⟩, (h3 g hg).2⟩⟩, h.sb, (Array.getElem?_eq_some_iff.1 h1).1⟩
  rcases h2.2 with ⟨e, _⟩ | ⟨g', cap, cur, rfl, _, hg', _⟩
  · rw [e] at hg; cases hg
  · obtain rfl : g' = g := Option.some.inj hg
    exact (Array.getElem?_eq_some_iff.1 hg').1
set_option maxHeartbeats 4000000 in
theorem add_any (lb : Nat) (S : Nat → Prop) (ts : List Value) (ty : TypeId) (x : Value) (w : World) (h : LoG w lb S ts) (hl : ts.length ≤ 10) :
    Calls Tryz.prog 15 #[.pointer (some ⟨lb, 0, none⟩), .iface ty x] w fun e w' => e = .returned (.int .i64 ts.length) ∧ LoG w' lb (GrP S w w') (ts ++ [.iface ty x]) ∧ Keeps S w w' := by
  obtain ⟨v, fz, hfz, hd, hown, hS⟩ := h.hd
  have HZ := Lib.hid hfz
  clear hfz
  obtain ⟨i0, hi, hz0, hz1, hz2⟩ := info_parts info_task
  have x0 : w.cell? ⟨lb, 0, none⟩ = some v := by rw [cell_block hd]; rfl
  have hlt : lb < w.heap.size := (Array.getElem?_eq_some_iff.1 hd).1
  have H := Lib.hid (And.intro hd (And.intro hown (And.intro hS (And.intro h.sb hlt))))
  have HI := Lib.hid (And.intro hi (And.intro hz0 (And.intro hz1 hz2)))
  have hl2 : ts.length ≤ 200000 := by omega
  have HL := Lib.hid hl2
  clear h hd hown hS hi hz0 hz1 hz2 hlt hl2
  go_enter Tryz.func15, Tryz.ntmps15
  go_wp2_with (refine wpList_one 95 94 i0 _ 16 Tryz.underlying95 HI.out.1 HI.out.2.1 HI.out.2.2.1 HI.out.2.2.2 rfl (by decide) rfl (.tmp 11) (.tmp 13) rfl v ts.length ts (.iface ty x) rfl H.out.2.1 HL.out rfl rfl ?_)
  intro v' w1 ho hf hk
  obtain ⟨hd, _, hS, hsb, hlt⟩ := H.out
  obtain ⟨va, vc, rfl⟩ := ownsRow_slice ho
  have hd1 := hk.heap hd (fun e => (hS _ e).2 rfl)
  have f0 : w1.frozen? ⟨lb, 0, none⟩ = false := frozen_thw hd1 HZ.out 0 (by decide)
  have x1 : w1.cell? ⟨lb, 0, none⟩ = some v := by rw [cell_block hd1]; rfl
  have hd2 := cellQ_setF 0 (.slice va (ts.length + 1) vc) hd1
  have k2 := setQ w1 lb 0 (.slice va (ts.length + 1) vc)
  have y0 : (w1.setCell ⟨lb, 0, none⟩ (.slice va (ts.length + 1) vc)).cell? ⟨lb, 0, none⟩ = some (.slice va (ts.length + 1) vc) := by rw [cell_block hd2]; rfl
  have hz := k2.size
  have hfr : ∀ b, (Value.slice va (ts.length + 1) vc).ownBlock = some b → GrP S w (w1.setCell ⟨lb, 0, none⟩ (.slice va (ts.length + 1) vc)) b ∧ b ≠ lb := fun b hb => by
    rcases hf b hb with e | ⟨e1, e2⟩
    · exact ⟨Or.inl (hS b e).1, (hS b e).2⟩
    · exact ⟨Or.inr ⟨e1, by omega⟩, by omega⟩
  have HF := Lib.hid (show LoG (w1.setCell ⟨lb, 0, none⟩ (.slice va (ts.length + 1) vc)) lb (GrP S w (w1.setCell ⟨lb, 0, none⟩ (.slice va (ts.length + 1) vc))) (ts ++ [.iface ty x]) ∧ Keeps S w (w1.setCell ⟨lb, 0, none⟩ (.slice va (ts.length + 1) vc)) from by
    refine ⟨⟨⟨_, fz, HZ.out, hd2, ?_, hfr⟩, Or.inl hsb⟩, (hk.mono fun k _ e => (hS k e).1).trans (k2.mono fun k _ e => by rw [e]; exact hsb)⟩
    have e : (ts ++ [Value.iface ty x]).length = ts.length + 1 := by simp
    rw [e]
    refine ⟨ho.1, ?_⟩
    rcases ho.2 with h0 | ⟨g2, cap, cur, e, hg2, hh, hq⟩
    · exact Or.inl h0
    · refine Or.inr ⟨g2, cap, cur, e, hg2, k2.heap hh (fun e2 => ?_), hq⟩
      injection e with e _ _
      subst e
      exact (hfr g2 rfl).2 e2)
  clear hd hS hsb hlt hd1 hd2 k2 hz hfr H ho hf hk
  go_wp2_with fail
  go_ret
  exact ⟨rfl, HF.out⟩
end Go.Proofs.YtgobcnheemocnaaGreatDoor
end
section
namespace Go.Proofs.YtgobcnheemocnaaGreatDoor
open Go.RowKit
set_option linter.unusedVariables false
set_option linter.unusedSimpArgs false
set_option maxRecDepth 100000

theorem info_strF : (Tryz.prog.info? 9).map (fun i => (i.zero, i.size, i.bytes)) = some (some (.string ⟨#[]⟩), 1, 16) := by kernel_rfl
theorem wpList_one_strF {w : World} {ops : Array Oper} {rest : List Oper} {o : Oper} {a : Act} {Q : Exit → Act → World → Prop} (hgd : o.guard = none) (s x : Operand)
    (ho : o.op = .call { callee := .builtin .append, args := #[s, x], argTypes := #[22, 22] })
    (W0 : World) (v : Value) (n : Nat) (xs : List Value) (b : ByteArray) (hs : a.eval s = v) (hown : w.ownsRow W0.heap.size 9 1 v n xs)
    (hx : a.eval x = .slice (some ⟨w.heap.size, 0, none⟩) 1 1) (hl : n ≤ 100000) (hk : Keeps (fun _ => False) W0 w)
    (h : ∀ v' w', w'.ownsRow W0.heap.size 9 1 v' (n + 1) (xs ++ [.string b]) → Keeps (fun _ => False) W0 w' → wpList Tryz.prog ops Q rest (a.put o.dst v') w') :
    wpList Tryz.prog ops Q (o :: rest) a (w.alloc (.cells #[.string b] 9)) := by
  obtain ⟨i0, hi, hz0, hz1, hz2⟩ := info_parts info_strF
  have hsz := hk.size
  refine wpList_append_own _ hgd s x 22 ho W0.heap.size 9 i0 _ 1 16 Tryz.underlying22 hi hz0 hz1 hz2 rfl (by decide) v _ xs hs (ownsRow_alloc hown _) ⟨w.heap.size, 0, none⟩ 1 1 [.string b] hx rfl (cells_new w [Value.string b] _) (by intro u hu; simp at hu; subst hu; rfl) (by unfold maxLen; omega) (by omega) (by simp; omega) (fun v' w' h1 h2 _ => h v' w' (by simpa using h1) ?_)
  exact (hk.alloc (.cells #[.string b] 9)).trans2 ((Keeps.refl (fun b => W0.heap.size ≤ b) _).grown h2 (fun b hb => Or.inl (ownBlock_base hown b hb))) (fun i hi e => by omega)
/-- A row of n texts, one's own. -/
def RoS (W0 : World) (n : Nat) (v : Value) (w : World) : Prop := (∃ xs, w.ownsRow W0.heap.size 9 1 v n xs) ∧ Keeps (fun _ => False) W0 w
theorem RoS.keeps {W0 w w' : World} {n : Nat} {v : Value} (h : RoS W0 n v w) (k : Keeps (fun _ => False) w w') : RoS W0 n v w' := by
  obtain ⟨⟨xs, h1⟩, h2⟩ := h
  refine ⟨⟨xs, h1.1, ?_⟩, h2.trans k⟩
  rcases h1.2 with h0 | ⟨g, cap, cur, rfl, hg, hh, hq⟩
  · exact Or.inl h0
  · exact Or.inr ⟨g, cap, cur, rfl, hg, k.heap hh id, hq⟩
theorem LoG.at {w : World} {lb gb wb tb : Nat} {S : Nat → Prop} (h : LoG w lb S [gvV gb, wvV wb, tvV tb]) : LoAt w lb gb wb tb S 0 := by
  obtain ⟨v, fz, hfz, hd, hown, hS⟩ := h.hd
  have hown' := hown
  rcases hown.2 with ⟨_, e⟩ | ⟨g, cap, cur, rfl, _, hg, hc, hm, hz, ht⟩
  · simp at e
  · have hcc := hown'.cells (g := g) rfl
    have c0 : w.cell? ⟨g, 0, none⟩ = some (gvV gb) := hcc 0 _ rfl
    have c1 : w.cell? ⟨g, 1, none⟩ = some (wvV wb) := hcc 1 _ rfl
    have c2 : w.cell? ⟨g, 2, none⟩ = some (tvV tb) := hcc 2 _ rfl
    exact ⟨⟨g, cap, _, [], fz, hfz, hd, hc, c0, c1, c2, (hS g rfl).1, (hS g rfl).2, World.ownsRow_nil _ _ _ _, fun b hb => by simp [Value.ownBlock] at hb⟩, h.sb⟩
section
variable {w : World} {lb gb wb tb : Nat} {S : Nat → Prop} {n : Nat}
/-- A task's name: it reads alone. -/
def Named (f : FuncId) (p : Nat) (w : World) : Prop := ∀ W, Keeps (fun _ => False) w W → Calls Tryz.prog f #[.pointer (some ⟨p, 0, none⟩)] W fun e w' => (∃ s, e = .returned (.string s)) ∧ Keeps (fun _ => False) W w'
set_option maxHeartbeats 8000000 in
theorem names_any (h : LoAt w lb gb wb tb S n) (h0 : Named 206 gb w) (h1 : Named 223 wb w) (h2 : Named 199 tb w) :
    Calls Tryz.prog 17 #[.pointer (some ⟨lb, 0, none⟩)] w fun e w' => (∃ a c, e = .returned (.slice a 3 c)) ∧ Keeps (fun _ => False) w w' := by
  obtain ⟨r, c, uv, us, fz, hfz, hd, hc, k0, k1, k2, _⟩ := h.hd
  have l0 : w.cell? ⟨lb, 0, none⟩ = some (.slice (some ⟨r, 0, none⟩) 3 c) := by rw [cell_block hd]; rfl
  unfold gvV at k0
  unfold wvV at k1
  unfold tvV at k2
  have HK0 := Lib.hid k0
  have HK1 := Lib.hid k1
  have HK2 := Lib.hid k2
  have HN0 := Lib.hid h0
  have HN1 := Lib.hid h1
  have HN2 := Lib.hid h2
  have HB0 : Hid (RoS w 0 (.slice none 0 0) w) := Lib.hid ⟨⟨[], World.ownsRow_nil _ _ _ _⟩, Keeps.refl _ _⟩
  clear h h0 h1 h2 hd k0 k1 k2
  go_enter Tryz.func17, Tryz.ntmps17
  go_wp2_with fail
  refine wp_loop_rounds 4 ?_
  rw [rounds_succ]
  have q0 := HB0.out.2.cell HK0.out id
  go_wp2_with fail
  refine (HN0.out w HB0.out.2).mono ?_
  rintro e wa0 ⟨⟨s0, rfl⟩, ka⟩
  have HX0 := Lib.hid (HB0.out.keeps ka)
  obtain ⟨xs0, hx⟩ := HX0.out.1
  have HY0 := Lib.hid hx
  clear ka hx q0 HB0
  go_wp2_with (refine wpList_one_strF rfl (.tmp 15) (.tmp 18) rfl w _ 0 xs0 s0 rfl HY0.out rfl (by decide) HX0.out.2 ?_)
  intro v1 wb1 y1 y2
  obtain ⟨a1, c1, rfl⟩ := ownsRow_slice y1
  have HB1 : Hid (RoS w 1 (.slice a1 1 c1) wb1) := Lib.hid ⟨⟨_, y1⟩, y2⟩
  clear y1 y2 HX0 HY0
  go_wp2_with fail
  rw [rounds_succ]
  have q1 := HB1.out.2.cell HK1.out id
  go_wp2_with fail
  refine (HN1.out wb1 HB1.out.2).mono ?_
  rintro e wa1 ⟨⟨s1, rfl⟩, ka⟩
  have HX1 := Lib.hid (HB1.out.keeps ka)
  obtain ⟨xs1, hx⟩ := HX1.out.1
  have HY1 := Lib.hid hx
  clear ka hx q1 HB1
  go_wp2_with (refine wpList_one_strF rfl (.tmp 15) (.tmp 18) rfl w _ 1 xs1 s1 rfl HY1.out rfl (by decide) HX1.out.2 ?_)
  intro v2 wb2 y1 y2
  obtain ⟨a2, c2, rfl⟩ := ownsRow_slice y1
  have HB2 : Hid (RoS w 2 (.slice a2 2 c2) wb2) := Lib.hid ⟨⟨_, y1⟩, y2⟩
  clear y1 y2 HX1 HY1
  go_wp2_with fail
  rw [rounds_succ]
  have q2 := HB2.out.2.cell HK2.out id
  go_wp2_with fail
  refine (HN2.out wb2 HB2.out.2).mono ?_
  rintro e wa2 ⟨⟨s2, rfl⟩, ka⟩
  have HX2 := Lib.hid (HB2.out.keeps ka)
  obtain ⟨xs2, hx⟩ := HX2.out.1
  have HY2 := Lib.hid hx
  clear ka hx q2 HB2
  go_wp2_with (refine wpList_one_strF rfl (.tmp 15) (.tmp 18) rfl w _ 2 xs2 s2 rfl HY2.out rfl (by decide) HX2.out.2 ?_)
  intro v3 wb3 y1 y2
  obtain ⟨a3, c3, rfl⟩ := ownsRow_slice y1
  have HB3 : Hid (RoS w 3 (.slice a3 3 c3) wb3) := Lib.hid ⟨⟨_, y1⟩, y2⟩
  clear y1 y2 HX2 HY2
  go_wp2_with fail
  rw [rounds_succ]
  go_wp2_with fail
  go_ret
  exact ⟨⟨_, _, rfl⟩, HB3.out.2⟩
end
end Go.Proofs.YtgobcnheemocnaaGreatDoor
end
section
namespace Go.Proofs.YtgobcnheemocnaaGreatDoor
open Go
open Go.RowKit
set_option linter.unusedVariables false
set_option linter.unusedSimpArgs false
set_option maxRecDepth 1000000

noncomputable section
def offO (k : Nat) : OSt → OSt
  | some (p, H) => some (p, H.set k none)
  | none => none
def idO : OSt → Nat
  | some ((i, _), _) => i
  | none => 0
def elemO : OSt → Option (Nat × TypeId)
  | some ((i, 0), H) => match H.get i with
    | some ⟨cs, t, true⟩ => some (cs.length, t)
    | _ => none
  | _ => none
end
theorem pl_tree2 : (lookT (offO (idO pl0) (subO 21 pl0))).isSome = true := by kernel_rfl
theorem pl_loomT : elemO (subO 19 pl0) = some (2, 97) := by kernel_rfl
theorem HOK.off {ρ : Rho} {H : AH} {w : World} (h : HOK ρ H w) (k : Nat) : HOK ρ (H.set k none) w := by
  have g : ∀ id b, (H.set k none).get id = some b → H.get id = some b ∧ id ≠ k := fun id b hb => by
    rw [AH.get_set] at hb
    split at hb
    · cases hb
    · exact ⟨hb, by assumption⟩
  exact ⟨fun id b hb => h.lt id b (g id b hb).1, fun id id' b b' h1 h2 e => h.inj id id' b b' (g _ _ h1).1 (g _ _ h2).1 e, fun id b hb => h.row id b (g id b hb).1⟩
theorem ObS.subOff {st : OSt} {w : World} {b : Nat} {S : Nat → Prop} {k : Nat} {n : Nat} {vs : List Value} (h : ObS st w (.pointer (some ⟨b, 0, none⟩)) S) (hl : litsO n st = some vs) (hs : (subO k st).isSome = true) :
    ∃ rp, w.cell? ⟨b, k, none⟩ = some rp ∧ ObS (offO (idO st) (subO k st)) w rp (fun c => S c ∧ c ≠ b) := by
  obtain ⟨i, o, H, ρ, rfl, hH, hi, hp, hS⟩ := h
  unfold litsO at hl
  split at hl
  · rename_i i' H' he
    obtain ⟨⟨rfl, rfl⟩, rfl⟩ : (i = i' ∧ o = 0) ∧ H = H' := by simpa using he
    split at hl
    · rename_i cs el hb
      have b0 : ρ.base i = 0 := by
        obtain ⟨cs, fz, hlz⟩ := hH.row i _ hb
        exact (hlz.whole rfl).1
      obtain rfl : b = ρ.blk i := by simpa [b0] using hp
      unfold subO at hs ⊢
      simp only [hb] at hs ⊢
      split at hs
      · rename_i j o2 hj
        obtain ⟨u, hu, hlt, hd⟩ := lies_cell hH hb (i := k) (x := .ptr j o2) hj
        rw [b0, Nat.zero_add] at hu
        refine ⟨u, hu, ⟨j, o2, H.set i none, ρ, rfl, hH.off i, hlt, hd, fun id b2 hb2 => ?_⟩⟩
        rw [AH.get_set] at hb2
        split at hb2
        · cases hb2
        · rename_i hne
          exact ⟨hS id b2 hb2, fun e => hne (hH.inj _ _ _ _ hb2 hb e)⟩
      · cases hs
    · cases hl
  · cases hl
theorem ObS.two {st : OSt} {w : World} {rp : Value} {S : Nat → Prop} {T : TypeId} {x y : Value} (h : ObS st w rp S) (hl : litsO 2 st = some [x, y]) (he : elemO st = some (2, T)) :
    ∃ b fz, rp = .pointer (some ⟨b, 0, none⟩) ∧ S b ∧ Thw fz ∧ w.heap[b]? = some (.cells #[x, y] T fz) := by
  obtain ⟨b, rfl, hSb, hc, _⟩ := h.lits hl
  obtain ⟨i, o, H, ρ, rfl, hH, hi, hp, hS⟩ := h
  unfold elemO at he
  split at he
  · rename_i i' H' he2
    obtain ⟨⟨rfl, rfl⟩, rfl⟩ : (i = i' ∧ o = 0) ∧ H = H' := by simpa using he2
    split at he
    · rename_i cs t hb
      obtain ⟨hcl, rfl⟩ : cs.length = 2 ∧ t = T := by simpa using he
      obtain ⟨ds, fz, hlz⟩ := hH.row i _ hb
      have b0 := (hlz.whole rfl).1
      have hsz := (hlz.whole rfl).2
      obtain rfl : b = ρ.blk i := by simpa [b0] using hp
      have hh := hlz.heap
      have h0 := hc 0 x rfl
      have h1 := hc 1 y rfl
      rw [cell_block hh] at h0 h1
      simp only at hsz
      rw [hcl] at hsz
      have hd : ds = #[x, y] := by
        apply Array.ext
        · simpa using hsz
        · intro j h2 h3
          have : j = 0 ∨ j = 1 := by simp at h3; omega
          rcases this with rfl | rfl
          · simpa using (Array.getElem?_eq_some_iff.1 h0).2
          · simpa using (Array.getElem?_eq_some_iff.1 h1).2
      subst hd
      refine ⟨ρ.blk i, fz, rfl, hSb, ?_, hh⟩
      have := hlz.thaw
      unfold Thw
      simpa using this
    · cases he
  · cases he
/-- The plant behind feed.New, its loom apart. -/
structure PlN (w : World) (pb lb : Nat) (S : Nat → Prop) : Prop where
  jb : ∀ (k : Nat) (v : Value), jobA[k]? = some v → w.cell? ⟨pb, k, none⟩ = some v
  tr : ∃ tb rb ro kb ko, w.cell? ⟨pb, 21, none⟩ = some (.pointer (some ⟨tb, 0, none⟩)) ∧ TrAt w tb rb ro kb ko 0 0 ∧ (S tb ∧ tb ≠ pb) ∧ (S rb ∧ rb ≠ pb) ∧ (S kb ∧ kb ≠ pb)
  c23 : w.cell? ⟨pb, 23, none⟩ = some (.int .i64 0)
  c24 : w.cell? ⟨pb, 24, none⟩ = some (.slice none 0 0)
  f24 : w.frozen? ⟨pb, 24, none⟩ = false
  c19 : w.cell? ⟨pb, 19, none⟩ = some (.pointer (some ⟨lb, 0, none⟩))
  sb : S pb
theorem PlN.keeps {S T : Nat → Prop} {w w' : World} {pb lb : Nat} (h : PlN w pb lb S) (K : Keeps T w w') (hs : ∀ b, S b → ¬ T b) : PlN w' pb lb S := by
  obtain ⟨tb, rb, ro, kb, ko, h1, h2, s1, s2, s3⟩ := h.tr
  exact ⟨fun k v hk => K.cell (h.jb k v hk) (hs _ h.sb), ⟨tb, rb, ro, kb, ko, K.cell h1 (hs _ h.sb), h2.keeps K (hs _ s1.1) (hs _ s2.1) (hs _ s3.1), s1, s2, s3⟩, K.cell h.c23 (hs _ h.sb), K.cell h.c24 (hs _ h.sb), K.frozen h.f24 (lt_of_cell (a := ⟨pb, 24, none⟩) h.c24) (hs _ h.sb), K.cell h.c19 (hs _ h.sb), h.sb⟩
theorem PlN.low {w : World} {pb lb : Nat} {S : Nat → Prop} (h : PlN w pb lb S) : PlN w pb lb (fun k => S k ∧ k < w.heap.size) := by
  obtain ⟨tb, rb, ro, kb, ko, h1, h2, s1, s2, s3⟩ := h.tr
  obtain ⟨cap, _, g1⟩ := h2.hd
  exact ⟨h.jb, ⟨tb, rb, ro, kb, ko, h1, h2, ⟨⟨s1.1, lt_of_cell g1⟩, s1.2⟩, ⟨⟨s2.1, lt_of_cell h2.x0⟩, s2.2⟩, ⟨⟨s3.1, lt_of_cell h2.kk⟩, s3.2⟩⟩, h.c23, h.c24, h.f24, h.c19, ⟨h.sb, lt_of_cell h.c24⟩⟩
/-- The plant with other holders. -/
theorem PlN.set24 {w : World} {pb lb : Nat} {S : Nat → Prop} (h : PlN w pb lb S) (v : Value) : PlF (w.setCell ⟨pb, 24, none⟩ v) pb S := by
  obtain ⟨tb, rb, ro, kb, ko, h1, h2, s1, s2, s3⟩ := h.tr
  have g : ∀ k, k ≠ 24 → (w.setCell ⟨pb, 24, none⟩ v).cell? ⟨pb, k, none⟩ = w.cell? ⟨pb, k, none⟩ := fun k hk => cell_set_other (fun e => hk (by injection e with _ e _; exact e.symm))
  have K := setQ w pb 24 v
  refine ⟨fun k u hk => ?_, ⟨tb, rb, ro, kb, ko, (g 21 (by decide)).trans h1, h2.keeps K s1.2 s2.2 s3.2, s1.1, s2.1, s3.1⟩, (g 23 (by decide)).trans h.c23, h.sb⟩
  rw [g k (fun e => by subst e; simp [jobA] at hk)]
  exact h.jb k u hk
theorem plant_at {w : World} {rp : Value} {S : Nat → Prop} (h : ObS pl0 w rp S) : ∃ pb lb, rp = .pointer (some ⟨pb, 0, none⟩) ∧ S lb ∧ PlN w pb lb (fun k => S k ∧ k ≠ lb) ∧ LoG w lb (fun k => k = lb) [] := by
  obtain ⟨pb, rfl, hpb, hj, _⟩ := h.lits pl_job
  obtain ⟨c24, f24⟩ := h.lit1 pl_holders
  have c23 := (h.lit1 pl_slips).1
  obtain ⟨lp, c19, hlo⟩ := h.sub pl_job (k := 19) (by kernel_rfl)
  obtain ⟨lb, fz, rfl, hlb, hfz, hlh⟩ := hlo.two pl_loom pl_loomT
  obtain ⟨tp, c21, htr⟩ := h.subOff pl_job (k := 21) (by kernel_rfl)
  obtain ⟨tb, rb, ro, kb, ko, rfl, ht, t1, t2, t3⟩ := tree_atG pl_tree2 htr
  have l0 : ∀ o v, w.cell? ⟨lb, o, none⟩ = some v → v = .slice none 0 0 := fun o v hv => by
    rw [cell_block hlh] at hv
    match o, hv with
    | 0, hv => simpa using hv.symm
    | 1, hv => simpa using hv.symm
    | o + 2, hv => simp at hv
  have n1 : tb ≠ lb := fun e => by
    obtain ⟨cap, _, hd⟩ := ht.hd
    rw [e] at hd
    have := l0 _ _ hd
    simp at this
  have n2 : rb ≠ lb := fun e => by
    have hd := ht.x0
    rw [e] at hd
    have := l0 _ _ hd
    simp at this
  have n3 : kb ≠ lb := fun e => by
    have hd := ht.kk
    rw [e] at hd
    have := l0 _ _ hd
    simp at this
  have n4 : pb ≠ lb := fun e => by
    have hd := hj 16 _ rfl
    rw [e] at hd
    have := l0 _ _ hd
    simp at this
  exact ⟨pb, lb, rfl, hlb, ⟨hj, ⟨tb, rb, ro, kb, ko, c21, ht, ⟨⟨t1.1, n1⟩, t1.2⟩, ⟨⟨t2.1, n2⟩, t2.2⟩, ⟨⟨t3.1, n3⟩, t3.2⟩⟩, c23, c24, f24, c19, ⟨hpb, n4⟩⟩, ⟨_, fz, hfz, hlh, World.ownsRow_nil _ _ _ _, fun g hg => by simp [Value.ownBlock] at hg⟩, rfl⟩
end Go.Proofs.YtgobcnheemocnaaGreatDoor
end
section
namespace Go.Proofs.YtgobcnheemocnaaGreatDoor
open Go
open Go.RowKit
set_option linter.unusedVariables false
set_option linter.unusedSimpArgs false
set_option maxRecDepth 100000

theorem info_hold : (Tryz.prog.info? 151).map (fun i => (i.zero, i.size, i.bytes)) = some (some .nilIface, 1, 16) := by kernel_rfl
section
variable {w : World} {wb pb ob fb xb ab lb : Nat} {nm : ByteArray} {who : Int} {ov : Bool} {st : Int} {x : Itm} {al : Value} {op mo lo le : Int} {S Sp : Nat → Prop}
set_option maxHeartbeats 4000000 in
theorem keep_any (ty : TypeId) (y : Value) (h : PlN w pb lb Sp) :
    Calls Tryz.prog 38 #[.pointer (some ⟨pb, 0, none⟩), .iface ty y] w fun e w' => e = .returned (.tuple #[]) ∧ PlF w' pb Sp ∧ w'.cell? ⟨pb, 19, none⟩ = some (.pointer (some ⟨lb, 0, none⟩)) ∧ Keeps (fun k => k = pb) w w' := by
  obtain ⟨i0, hi, hz0, hz1, hz2⟩ := info_parts info_hold
  have c24 := h.c24
  have HI := Lib.hid (And.intro hi (And.intro hz0 (And.intro hz1 hz2)))
  have H := Lib.hid h
  clear h hi hz0 hz1 hz2
  go_enter Tryz.func38, Tryz.ntmps38
  go_wp2_with (refine wpList_one 39 151 i0 _ 16 Tryz.underlying39 HI.out.1 HI.out.2.1 HI.out.2.2.1 HI.out.2.2.2 rfl (by decide) rfl (.tmp 8) (.tmp 10) rfl (.slice none 0 0) 0 [] (.iface ty y) rfl (World.ownsRow_nil _ _ _ _) (by decide) rfl rfl ?_)
  intro v' w1 ho hf hk
  obtain ⟨va, vc, rfl⟩ := ownsRow_slice ho
  have K0 : Keeps (fun _ => False) w w1 := hk.mono fun _ _ e => by simp [Value.ownBlock] at e
  have h1 := H.out.keeps K0 (fun _ _ => id)
  have x24 := h1.c24
  have f24 := h1.f24
  have HF := Lib.hid (And.intro (h1.set24 (.slice va 1 vc)) (And.intro ((cell_set_other (by simp)).trans h1.c19 : (w1.setCell ⟨pb, 24, none⟩ (.slice va 1 vc)).cell? ⟨pb, 19, none⟩ = some (.pointer (some ⟨lb, 0, none⟩))) ((K0.mono (T := fun k => k = pb) fun _ _ e => e.elim).trans (setQ w1 pb 24 (.slice va 1 vc)))))
  clear h1 K0 ho hf hk H
  go_wp2_with fail
  go_end0
  exact ⟨rfl, HF.out⟩
theorem newStage_any (w : World) (nm : ByteArray) :
    Calls Tryz.prog 35 #[.pointer (some ⟨pb, 0, none⟩), .string nm, .pointer (some ⟨ob, 0, none⟩)] w fun e w' => e = .returned (.agg #[.pointer (some ⟨pb, 0, none⟩), .string nm, .int .i64 (-1), .pointer (some ⟨ob, 0, none⟩), .bool false]) ∧ Keeps (fun _ => False) w w' := by
  go_enter Tryz.func35, Tryz.ntmps35
  go_wp2_with fail
  have hd : (w.alloc (Obj.cells #[.pointer (some ⟨pb, 0, none⟩), .string nm, .int .i64 (-1), .pointer (some ⟨ob, 0, none⟩), .bool false] 102)).heap[w.heap.size]? = some (.cells #[.pointer (some ⟨pb, 0, none⟩), .string nm, .int .i64 (-1), .pointer (some ⟨ob, 0, none⟩), .bool false] 102 (0, 0)) := heap_alloc_new _ _
  have k := (Keeps.refl (fun _ => False) w).alloc (Obj.cells #[.pointer (some ⟨pb, 0, none⟩), .string nm, .int .i64 (-1), .pointer (some ⟨ob, 0, none⟩), .bool false] 102)
  generalize w.alloc (Obj.cells #[.pointer (some ⟨pb, 0, none⟩), .string nm, .int .i64 (-1), .pointer (some ⟨ob, 0, none⟩), .bool false] 102) = w1 at hd k ⊢
  have r0 : w1.cell? ⟨w.heap.size, 0, none⟩ = some (.pointer (some ⟨pb, 0, none⟩)) := by rw [cell_block hd]; rfl
  have r1 : w1.cell? ⟨w.heap.size, 1, none⟩ = some (.string nm) := by rw [cell_block hd]; rfl
  have r2 : w1.cell? ⟨w.heap.size, 2, none⟩ = some (.int .i64 (-1)) := by rw [cell_block hd]; rfl
  have r3 : w1.cell? ⟨w.heap.size, 3, none⟩ = some (.pointer (some ⟨ob, 0, none⟩)) := by rw [cell_block hd]; rfl
  have r4 : w1.cell? ⟨w.heap.size, 4, none⟩ = some (.bool false) := by rw [cell_block hd]; rfl
  refine bodyPost_ret (by simp [results, Tryz.results35, go_sem, r0, r1, r2, r3, r4]; try rfl) rfl ?_
  exact ⟨rfl, k⟩
set_option maxHeartbeats 4000000 in
theorem enter_any {ts : List Value} (h : WkAt w wb pb ob fb nm who ov st x) (hl : LoG w lb S ts) (hc : w.cell? ⟨pb, 19, none⟩ = some (.pointer (some ⟨lb, 0, none⟩))) (hs : ¬ S wb) (hts : ts.length ≤ 10) :
    Calls Tryz.prog 37 #[.pointer (some ⟨wb, 0, none⟩), wvV wb] w fun e w' => e = .returned (.int .i64 ts.length) ∧ WkAt w' wb pb ob fb nm ts.length ov st x ∧ LoG w' lb (GrP S w w') (ts ++ [wvV wb]) ∧ Keeps (fun k => k = wb ∨ S k) w w' := by
  obtain ⟨c0, _⟩ := h.c
  have HC := Lib.hid (add_any lb S ts 100 (.pointer (some ⟨wb, 0, none⟩)) w hl hts)
  have H := Lib.hid (And.intro h hs)
  have hlt : wb < w.heap.size := (Array.getElem?_eq_some_iff.1 h).1
  have HLT := Lib.hid hlt
  clear h hl hs hlt
  unfold wvV at HC ⊢
  go_enter Tryz.func37, Tryz.ntmps37
  go_wp2_with fail
  refine HC.out.mono ?_
  rintro e w1 ⟨rfl, hl1, k1⟩
  have h1 : WkAt w1 wb pb ob fb nm who ov st x := k1.heap H.out.1 H.out.2
  obtain ⟨_, d2, _, _, _, _, df⟩ := WkAt.c h1
  have f2 := df 2
  have h2 : WkAt (w1.setCell ⟨wb, 2, none⟩ (.int .i64 ts.length)) wb pb ob fb nm ts.length ov st x := cellQ_set 2 (.int .i64 ts.length) h1
  have k2 := setQ w1 wb 2 (.int .i64 ts.length)
  have e2 := (WkAt.c h2).2.1
  have HF := Lib.hid (And.intro h2 (And.intro ((hl1.keeps k2 (fun b hb e => by
    rcases hb with hb | ⟨hb1, _⟩
    · exact H.out.2 (e ▸ hb)
    · have e : b = wb := e
      have := HLT.out
      omega)).mono (T := GrP S w (w1.setCell ⟨wb, 2, none⟩ (.int .i64 ts.length))) (fun b hb => hb.elim Or.inl (fun e => Or.inr ⟨e.1, Nat.lt_of_lt_of_le e.2 k2.size⟩))) ((k1.mono (T := fun k => k = wb ∨ S k) fun _ _ e => Or.inr e).trans (k2.mono fun _ _ e => Or.inl e))))
  clear hl1 k1 h1 df h2 k2 H HC
  go_wp2_with fail
  go_ret
  exact ⟨rfl, HF.out⟩
theorem fopen_any (hf : FmAt w fb pb xb ab al op mo lo le) : Calls Tryz.prog 22 #[.pointer (some ⟨fb, 0, none⟩)] w fun e w' => e = .returned (.int .i64 op) ∧ Keeps (fun _ => False) w w' := by
  obtain ⟨_, _, _, c4, _⟩ := hf.c
  clear hf
  go_enter Tryz.func22, Tryz.ntmps22
  go_wp2_with fail
  go_ret
  exact ⟨rfl, Keeps.refl _ _⟩
theorem fmost_any (hf : FmAt w fb pb xb ab al op mo lo le) : Calls Tryz.prog 11 #[.pointer (some ⟨fb, 0, none⟩)] w fun e w' => e = .returned (.int .i64 mo) ∧ Keeps (fun _ => False) w w' := by
  obtain ⟨_, _, _, _, c5, _⟩ := hf.c
  clear hf
  go_enter Tryz.func11, Tryz.ntmps11
  go_wp2_with fail
  go_ret
  exact ⟨rfl, Keeps.refl _ _⟩
end
end Go.Proofs.YtgobcnheemocnaaGreatDoor
end
section
namespace Go.Proofs.YtgobcnheemocnaaGreatDoor
open Go
open Go.RowKit
set_option linter.unusedVariables false
set_option linter.unusedSimpArgs false
set_option maxRecDepth 1000000

theorem mkT_ok {P : Program} (hn : okNG P = true) (hm : P.follows .mixedOrders = true) (f : FuncId) (vs : List Value) (h : (mkT P f vs).isSome = true) (w : World) :
    Calls P f vs.toArray w fun e w' => ∃ rp, e = .returned (.tuple #[rp, .int .i64 0]) ∧ ObS (mkT P f vs) w' rp (fun b => w.heap.size ≤ b ∧ b < w'.heap.size) ∧ Keeps (fun _ => False) w w' := by
  obtain ⟨st, hst⟩ := Option.isSome_iff_exists.1 h
  have hst2 := hst
  unfold mkT at hst2
  split at hst2
  · rename_i xs ha
    split at hst2
    · rename_i i o H' hc
      obtain rfl : ((i, o), H') = st := by simpa using hst2
      have hH0 : HOK ⟨fun _ => 0, fun _ => 0, fun _ => 0⟩ AH.empty w := ⟨fun _ _ h => by simp [AH.empty, AH.get, Tr.getR_eq, Tr.get] at h, fun _ _ _ _ h => by simp [AH.empty, AH.get, Tr.getR_eq, Tr.get] at h, fun _ _ h => by simp [AH.empty, AH.get, Tr.getR_eq, Tr.get] at h⟩
      refine (call_sound (okNG_of hn) hm _ _ xs _ _ _ hc _ w vs.toArray hH0 (litArgs_den ha)).mono ?_
      rintro e w' ⟨ρ', ⟨u, rfl, hd⟩, hH, hK⟩
      obtain ⟨⟨us⟩, rfl, hd⟩ := hd
      match us, hd with
      | [a, b], hd =>
        obtain ⟨⟨hi, rfl⟩, hb, _⟩ : (i < H'.next ∧ a = _) ∧ AC.den ρ' H'.next (.lit (.int .i64 0)) b ∧ True := hd
        obtain rfl := hb.1
        refine ⟨_, rfl, ⟨i, o, H', ρ', hst, hH, hi, rfl, fun id b hb => ⟨?_, hH.lt_size hb⟩⟩, hK.os, hK.tape, hK.output, hK.size, fun k hk _ => hK.frame k hk fun id b hb => by simp [AH.empty, AH.get, Tr.getR_eq, Tr.get] at hb⟩
        rcases hK.come id b hb with h | ⟨id0, b0, h, _⟩
        · exact h
        · simp [AH.empty, AH.get, Tr.getR_eq, Tr.get] at h
    · simp at hst2
  · simp at hst2
noncomputable def en0 : OSt := mkT Tryz.prog 34 [.string ⟨#[97]⟩]
theorem en_some : (mkT Tryz.prog 34 [.string ⟨#[97]⟩]).isSome = true := by kernel_rfl
theorem pl_some : (mkT Tryz.prog 13 [.agg jobA.toArray]).isSome = true := by kernel_rfl
theorem okNG_D : okNG Tryz.prog = true := by kernel_rfl
theorem en_lits : litsO 0 en0 = some [] := by kernel_rfl
theorem ecompile0_any (w : World) : Calls Tryz.prog 34 #[.string ⟨#[97]⟩] w fun e w' => ∃ xb : Nat, e = .returned (.tuple #[.pointer (some ⟨xb, 0, none⟩), .int .i64 0]) ∧ ObS en0 w' (.pointer (some ⟨xb, 0, none⟩)) (fun b => w.heap.size ≤ b ∧ b < w'.heap.size) ∧ Keeps (fun _ => False) w w' := by
  refine (mkT_ok okNG_D (by kernel_rfl) _ _ en_some w).mono ?_
  rintro e w' ⟨rp, rfl, hO, k⟩
  obtain ⟨xb, rfl, _⟩ := ObS.lits (st := en0) hO en_lits
  exact ⟨xb, rfl, hO, k⟩
theorem feedNew_any (w : World) : Calls Tryz.prog 13 #[.agg jobA.toArray] w fun e w' => ∃ pb lb, e = .returned (.tuple #[.pointer (some ⟨pb, 0, none⟩), .int .i64 0]) ∧ PlN w' pb lb (fun b => (w.heap.size ≤ b ∧ b < w'.heap.size) ∧ b ≠ lb) ∧ LoG w' lb (fun k => k = lb) [] ∧ w.heap.size ≤ lb ∧ Keeps (fun _ => False) w w' := by
  refine (mkT_ok okNG_D (by kernel_rfl) _ _ pl_some w).mono ?_
  rintro e w' ⟨rp, rfl, hO, k⟩
  obtain ⟨pb, lb, rfl, hl, hp, hg⟩ := plant_at hO
  exact ⟨pb, lb, rfl, hp, hg, hl.1, k⟩
def isStr : Value → Bool
  | .string s => Nat.ble s.size 100
  | _ => false
theorem itoa0_any (w : World) : Calls Tryz.prog 36 #[.int .i64 0] w fun e w' => (∃ s : ByteArray, e = .returned (.string s) ∧ s.size ≤ 100) ∧ Keeps (fun _ => False) w w' := by
  refine (call_lit okNG_D (by kernel_rfl) 3000 36 #[.int .i64 0] isStr ⟨_, rfl, by kernel_rfl⟩ w).mono ?_
  rintro e w' ⟨⟨v, rfl, hv⟩, k⟩
  cases v with
  | string s => exact ⟨⟨s, rfl, Nat.le_of_ble_eq_true hv⟩, k⟩
  | _ => cases hv
end Go.Proofs.YtgobcnheemocnaaGreatDoor
end
