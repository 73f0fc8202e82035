/-
  The reference's Put.
-/
import Derived.Test.YtibfioekmpnkgaaRefGive
import Derived.Test.YtibfioekmpnkgaaRefBase
namespace Go.Proofs.Ytibfioekmpnkgaa
open Go.RowKit
set_option linter.unusedVariables false
set_option linter.unusedSimpArgs false
set_option maxRecDepth 100000

/-- The items ahead of a ticket, and the others. -/
def ahead (n : Int) (ws : List ItemV) : List ItemV := ws.takeWhile fun y => decide (y.N < n)
def behind (n : Int) (ws : List ItemV) : List ItemV := ws.dropWhile fun y => decide (y.N < n)
theorem ahead_at (n : Int) (ws : List ItemV) (i : Nat) (hi : i ≤ ws.length) (h1 : ∀ y ∈ ws.take i, y.N < n) (h2 : ∀ y, ws[i]? = some y → ¬ y.N < n) : ahead n ws = ws.take i ∧ behind n ws = ws.drop i := by
  induction ws generalizing i with
  | nil => simp [ahead, behind]
  | cons y ws ih =>
    cases i with
    | zero =>
      have := h2 y rfl
      simp [ahead, behind, List.takeWhile_cons, List.dropWhile_cons, this]
    | succ i =>
      have hy := h1 y (by simp)
      have := ih i (by simpa using hi) (fun z hz => h1 z (by simp [hz])) (fun z hz => h2 z (by simpa using hz))
      simp [ahead, behind, List.takeWhile_cons, List.dropWhile_cons, hy] at this ⊢
      exact this
/-- What the reference's Put answers, and what it then has. -/
def putR (nx k : Nat) (ws : List ItemV) (n : Int) : Int := if n < nx then 2 else if (k : Int) ≤ n - nx then 16 else match behind n ws with | [] => 0 | y :: _ => if y.N = n then 2 else 0
def putL (nx k : Nat) (ws : List ItemV) (x : ItemV) : List ItemV := if putR nx k ws x.N = 0 then ahead x.N ws ++ [x] ++ behind x.N ws else ws

def X (x : ItemV) : Obj := .cells #[.int .i64 x.N, .int .i64 x.Buf, .int .i64 x.RN, .int .i64 x.RA, .string x.text, .slice x.ha x.hl x.hc, .int .i64 x.err] 34

theorem refPut_early (A : Nat → Prop) (w : World) (wb k nx : Nat) (ws : List ItemV) (x : ItemV) (h : RefAt A w wb k nx ws) (hk : k ≤ 64) (hnx : nx ≤ 1000000) (hx : x.N ≤ 9223372036854775807) (he : x.N < nx ∨ (k : Int) ≤ x.N - nx) :
    Calls Try.prog 18 #[.pointer (some ⟨wb, 0, none⟩), x.val] w fun e w' => e = .returned (.int .i64 (putR nx k ws x.N)) ∧ Keeps (fun _ => False) w w' := by
  have c1 : ∀ o, (w.alloc o).cell? ⟨wb, 1, none⟩ = _ := alloc_cell h.c1
  have c2 : ∀ o, (w.alloc o).cell? ⟨wb, 2, none⟩ = _ := alloc_cell h.c2
  obtain ⟨N, B, R, AT, T, ha, hl', hc', er⟩ := x
  have x0 : (w.alloc (.cells #[.int .i64 N, .int .i64 B, .int .i64 R, .int .i64 AT, .string T, .slice ha hl' hc', .int .i64 er] 34)).cell? ⟨w.heap.size, 0, none⟩ = some (.int .i64 N) := by rw [cell_new]; rfl
  simp only [ItemV.val] at *
  by_cases h1 : N < nx
  · have HV := Lib.hid (show putR nx k ws N = 2 by simp [putR, h1])
    have h1' : decide (N < (nx : Int)) = true := by simpa using h1
    clear he
    go_enter Try.func18, Try.ntmps18
    go_wp2_with fail
    go_quiet (fail)
    go_wp2_with fail
    go_ret
    exact ⟨by rw [HV.out]; rfl, ((Keeps.refl _ _).alloc _).drawN _⟩
  · have h2 : (k : Int) ≤ N - nx := by omega
    have HV := Lib.hid (show putR nx k ws N = 16 by simp [putR, h1, h2])
    have h1' : decide (N < (nx : Int)) = false := by simpa using h1
    have hw' : wrap64 (N - nx) = N - nx := by unfold wrap64; omega
    have h2' : decide ((k : Int) ≤ N - nx) = true := by simpa using h2
    clear he
    go_enter Try.func18, Try.ntmps18
    go_wp2_with fail
    go_quiet (fail)
    go_wp2_with fail
    go_quiet (fail)
    go_wp2_with fail
    go_ret
    exact ⟨by rw [HV.out]; rfl, by (repeat' (with_reducible first | exact Keeps.refl _ _ | assumption | refine Keeps.drawN ?_ _ | refine Keeps.drew ?_ | refine Keeps.setCell ?_ ?_ _ | refine Keeps.alloc ?_ _)) <;> (first | exact Or.inr (Nat.le_refl _) | exact Or.inl rfl | exact Or.inl (Or.inl rfl) | exact Or.inl (Or.inr rfl) | (right; simp; done) | (right; simp; omega))⟩

theorem info_item' : (Try.prog.info? 34).map (fun i => (i.zero, i.size, i.bytes)) = some (some (.agg #[.int .i64 0, .int .i64 0, .int .i64 0, .int .i64 0, .string ⟨#[]⟩, .slice none 0 0, .int .i64 0]), 7, 80) := by kernel_rfl
theorem item_one (l : List ItemV) : ∀ u ∈ cellsOf 7 ItemV.cell l, u.oneCell' = true := by
  intro u hu
  unfold cellsOf at hu
  rw [List.mem_flatMap] at hu
  obtain ⟨x, _, hx⟩ := hu
  simp [List.range_succ, ItemV.cell, plc] at hx
  rcases hx with rfl | rfl | rfl | rfl | rfl | rfl | rfl <;> rfl
theorem wpList_append_itm {w : World} {ops : Array Oper} {rest : List Oper} {o : Oper} {a : Act} {Q : Exit → Act → World → Prop} (hgd : o.guard = none) (s x : Operand)
    (ho : o.op = .call { callee := .builtin .append, args := #[s, x], argTypes := #[41, 41] })
    (base : Nat) (v : Value) (n : Nat) (xs : List Value) (hs : a.eval s = v) (hown : w.ownsRow base 34 7 v n xs)
    (xv : Value) (l : List ItemV) (hx : a.eval x = xv) (hr : SlOf 7 ItemV.cell w xv l) (h63 : n + l.length ≤ 1000000) (hbase : base ≤ w.heap.size)
    (h : ∀ v' w', w'.ownsRow base 34 7 v' (n + l.length) (xs ++ cellsOf 7 ItemV.cell l) → w.grownBy w' v.ownBlock → wpList Try.prog ops Q rest (a.put o.dst v') w') : wpList Try.prog ops Q (o :: rest) a w := by
  obtain ⟨i0, hi, hz0, hz1, hz2⟩ := info_parts info_item'
  rcases hr.news (by omega) with ⟨rfl, rfl⟩ | ⟨ad, c, rfl, hnews⟩
  · refine wpList_append_own_none hgd s x 41 ho base 34 i0 7 Try.underlying41 hi v n xs hs hown hx (hs ▸ h v w ?_ ?_)
    · simpa [cellsOf] using hown
    · exact ⟨rfl, rfl, rfl, Nat.le_refl _, fun _ _ _ => rfl⟩
  · exact wpList_append_own _ hgd s x 41 ho base 34 i0 _ 7 80 Try.underlying41 hi hz0 hz1 hz2 rfl (by decide) v n xs hs hown ad _ c _ hx (cellsOf_length _ _ _) hnews (item_one _) (by unfold maxLen; omega) (by omega) hbase
      (fun v' w' h1 h2 _ => h v' w' h1 h2)

theorem put_fin {A : Nat → Prop} {w : World} {wb k nx : Nat} {ws : List ItemV} (h : RefAt A w wb k nx ws) (w5 : World) (K : Keeps (fun _ => False) w w5) (v' : Value) (ws' : List ItemV) (hs : SlOf 7 ItemV.cell w5 v' ws') (hb : ∀ b, v'.ownBlock = some b → w.heap.size ≤ b) :
    RefAt A (w5.setCell ⟨wb, 0, none⟩ v') wb k nx ws' := by
  have hlt := h.lt
  have h5 := h.keeps K (fun _ h => h.elim)
  obtain ⟨L, hL, _⟩ := h5.ex
  have n01 : (⟨wb, 0, none⟩ : Addr) ≠ ⟨wb, 1, none⟩ := by intro e; simp at e
  have n02 : (⟨wb, 0, none⟩ : Addr) ≠ ⟨wb, 2, none⟩ := by intro e; simp at e
  have K1 : Keeps (fun b => b = wb) w5 (w5.setCell ⟨wb, 0, none⟩ v') := by (repeat' (with_reducible first | exact Keeps.refl _ _ | assumption | refine Keeps.drawN ?_ _ | refine Keeps.drew ?_ | refine Keeps.setCell ?_ ?_ _ | refine Keeps.alloc ?_ _)) <;> (first | exact Or.inr (Nat.le_refl _) | exact Or.inl rfl | exact Or.inl (Or.inl rfl) | exact Or.inl (Or.inr rfl) | (right; simp; done) | (right; simp; omega))
  have hsz := K1.size
  refine ⟨⟨v', cell_set_same hL, hs.keeps K1 (fun b e => by have := hb b e; omega), fun b e => ⟨by have := hb b e; omega, fun hA => by have := h.old b hA; have := hb b e; omega⟩⟩, ?_, ?_, Nat.lt_of_lt_of_le h5.lt hsz, fun o => by rw [frozen_set]; exact h5.fr o, h.wa, fun b hA => Nat.lt_of_lt_of_le (h5.old b hA) hsz⟩
  · rw [cell_set_other n01]; exact h5.c1
  · rw [cell_set_other n02]; exact h5.c2

theorem SlOf.dropI {w : World} {b off n cap : Nat} {ws : List ItemV} (h : SlOf 7 ItemV.cell w (.slice (some ⟨b, off, none⟩) n cap) ws) (i : Nat) (hi : i ≤ n) (hc : ¬ cap = i) :
    SlOf 7 ItemV.cell w (.slice (some ⟨b, off + i * 7, none⟩) (n - i) (cap - i)) (ws.drop i) := by
  obtain ⟨a, c, e, ⟨hl, hn⟩, hl2, hcc⟩ := h
  injection e with e1 e2 e3
  subst e1 e2 e3
  refine ⟨_, _, by rw [List.length_drop], ⟨by rw [List.length_drop]; omega, (fun h => by cases h)⟩, by rw [List.length_drop]; omega, fun h0 => ⟨b, off + i * 7, rfl, fun j x hx q hq => ?_⟩⟩
  rw [List.length_drop] at h0
  obtain ⟨b', off', e', hx'⟩ := hcc (by omega)
  injection e' with e'
  injection e' with e1 e2 _
  subst e1 e2
  rw [List.getElem?_drop] at hx
  have := hx' (i + j) x hx q hq
  rw [show off + i * 7 + j * 7 + q = off + (i + j) * 7 + q by omega]; exact this

def PutR (w1 : World) (ws : List ItemV) (N : Int) (v iv : Value) (wr : World) : Prop :=
  ∃ i : Nat, iv = .int .i64 i ∧ i ≤ ws.length ∧ (∀ y ∈ ws.take i, y.N < N) ∧ wr.ownsRow w1.heap.size 34 7 v i (cellsOf 7 ItemV.cell (ws.take i)) ∧ Keeps (fun _ => False) w1 wr

set_option maxHeartbeats 2000000 in
theorem refPut_late (A : Nat → Prop) (w : World) (wb k nx : Nat) (ws : List ItemV) (x : ItemV) (h : RefAt A w wb k nx ws) (hk : k ≤ 64) (hnx : nx ≤ 1000000) (hx : x.N ≤ 9223372036854775807) (h1 : ¬ x.N < nx) (h2 : ¬ (k : Int) ≤ x.N - nx) (hws : ws.length ≤ 1000) :
    Calls Try.prog 18 #[.pointer (some ⟨wb, 0, none⟩), x.val] w fun e w' => e = .returned (.int .i64 (putR nx k ws x.N)) ∧ RefAt A w' wb k nx (putL nx k ws x) ∧ Keeps (fun b => b = wb) w w' := by
  have c1 : ∀ o, (w.alloc o).cell? ⟨wb, 1, none⟩ = _ := alloc_cell h.c1
  have c2 : ∀ o, (w.alloc o).cell? ⟨wb, 2, none⟩ = _ := alloc_cell h.c2
  obtain ⟨N, B, R, AT, T, ha, hl', hc', er⟩ := x
  have K1 := (Keeps.refl (fun _ => False) w).alloc (.cells #[.int .i64 N, .int .i64 B, .int .i64 R, .int .i64 AT, .string T, .slice ha hl' hc', .int .i64 er] 34)
  have x0 : (w.alloc (.cells #[.int .i64 N, .int .i64 B, .int .i64 R, .int .i64 AT, .string T, .slice ha hl' hc', .int .i64 er] 34)).cell? ⟨w.heap.size, 0, none⟩ = some (.int .i64 N) := by rw [cell_new]; rfl
  have x1 : (w.alloc (.cells #[.int .i64 N, .int .i64 B, .int .i64 R, .int .i64 AT, .string T, .slice ha hl' hc', .int .i64 er] 34)).cell? ⟨w.heap.size, 1, none⟩ = some (.int .i64 B) := by rw [cell_new]; rfl
  have x2 : (w.alloc (.cells #[.int .i64 N, .int .i64 B, .int .i64 R, .int .i64 AT, .string T, .slice ha hl' hc', .int .i64 er] 34)).cell? ⟨w.heap.size, 2, none⟩ = some (.int .i64 R) := by rw [cell_new]; rfl
  have x3 : (w.alloc (.cells #[.int .i64 N, .int .i64 B, .int .i64 R, .int .i64 AT, .string T, .slice ha hl' hc', .int .i64 er] 34)).cell? ⟨w.heap.size, 3, none⟩ = some (.int .i64 AT) := by rw [cell_new]; rfl
  have x4 : (w.alloc (.cells #[.int .i64 N, .int .i64 B, .int .i64 R, .int .i64 AT, .string T, .slice ha hl' hc', .int .i64 er] 34)).cell? ⟨w.heap.size, 4, none⟩ = some (.string T) := by rw [cell_new]; rfl
  have x5 : (w.alloc (.cells #[.int .i64 N, .int .i64 B, .int .i64 R, .int .i64 AT, .string T, .slice ha hl' hc', .int .i64 er] 34)).cell? ⟨w.heap.size, 5, none⟩ = some (.slice ha hl' hc') := by rw [cell_new]; rfl
  have x6 : (w.alloc (.cells #[.int .i64 N, .int .i64 B, .int .i64 R, .int .i64 AT, .string T, .slice ha hl' hc', .int .i64 er] 34)).cell? ⟨w.heap.size, 6, none⟩ = some (.int .i64 er) := by rw [cell_new]; rfl
  simp only [ItemV.val] at *
  obtain ⟨i0, hi, hz0, hz1, hz2⟩ := info_parts info_item'
  have h1' : decide (N < (nx : Int)) = false := by simpa using h1
  have hw' : wrap64 (N - nx) = N - nx := by unfold wrap64; omega
  have h2' : decide ((k : Int) ≤ N - nx) = false := by simpa using h2
  have Hh := Lib.hid h
  have Hn1 := Lib.hid h1
  have Hn2 := Lib.hid h2
  clear h
  go_enter Try.func18, Try.ntmps18
  go_wp2_with fail
  go_quiet (fail)
  revert nq
  intro nqa
  go_wp2_with fail
  go_quiet (fail)
  go_wp2_with fail
  have K1 : Keeps (fun _ => False) w (((w.alloc (.cells #[.int .i64 N, .int .i64 B, .int .i64 R, .int .i64 AT, .string T, .slice ha hl' hc', .int .i64 er] 34)).drewN nqa).drewN nq) := (K1.drawN _).drawN _
  have x0 : (((w.alloc (.cells #[.int .i64 N, .int .i64 B, .int .i64 R, .int .i64 AT, .string T, .slice ha hl' hc', .int .i64 er] 34)).drewN nqa).drewN nq).cell? ⟨w.heap.size, 0, none⟩ = some (.int .i64 N) := x0
  have x1 : (((w.alloc (.cells #[.int .i64 N, .int .i64 B, .int .i64 R, .int .i64 AT, .string T, .slice ha hl' hc', .int .i64 er] 34)).drewN nqa).drewN nq).cell? ⟨w.heap.size, 1, none⟩ = some (.int .i64 B) := x1
  have x2 : (((w.alloc (.cells #[.int .i64 N, .int .i64 B, .int .i64 R, .int .i64 AT, .string T, .slice ha hl' hc', .int .i64 er] 34)).drewN nqa).drewN nq).cell? ⟨w.heap.size, 2, none⟩ = some (.int .i64 R) := x2
  have x3 : (((w.alloc (.cells #[.int .i64 N, .int .i64 B, .int .i64 R, .int .i64 AT, .string T, .slice ha hl' hc', .int .i64 er] 34)).drewN nqa).drewN nq).cell? ⟨w.heap.size, 3, none⟩ = some (.int .i64 AT) := x3
  have x4 : (((w.alloc (.cells #[.int .i64 N, .int .i64 B, .int .i64 R, .int .i64 AT, .string T, .slice ha hl' hc', .int .i64 er] 34)).drewN nqa).drewN nq).cell? ⟨w.heap.size, 4, none⟩ = some (.string T) := x4
  have x5 : (((w.alloc (.cells #[.int .i64 N, .int .i64 B, .int .i64 R, .int .i64 AT, .string T, .slice ha hl' hc', .int .i64 er] 34)).drewN nqa).drewN nq).cell? ⟨w.heap.size, 5, none⟩ = some (.slice ha hl' hc') := x5
  have x6 : (((w.alloc (.cells #[.int .i64 N, .int .i64 B, .int .i64 R, .int .i64 AT, .string T, .slice ha hl' hc', .int .i64 er] 34)).drewN nqa).drewN nq).cell? ⟨w.heap.size, 6, none⟩ = some (.int .i64 er) := x6
  generalize hw1 : (((w.alloc (.cells #[.int .i64 N, .int .i64 B, .int .i64 R, .int .i64 AT, .string T, .slice ha hl' hc', .int .i64 er] 34)).drewN nqa).drewN nq) = w1 at *
  clear hw1
  have hR1 := Hh.out.keeps K1 (fun _ h => h.elim)
  have hsz1 := K1.size
  obtain ⟨L, hL1, hs1, hLb⟩ := hR1.ex
  obtain ⟨a, cap, rfl, hlc, hc⟩ := itm_cells hs1
  have Hc := Lib.hid hc
  clear hc c1 c2
  go_loopw [5, 6] (fun v iv wr => PutR w1 ws N v iv wr) (fun _ iv _ => ws.length - (intOf iv).toNat)
  case atStart => exact ⟨0, rfl, Nat.zero_le _, by simp, World.ownsRow_nil _ _ _ _, Keeps.refl _ _⟩
  case round =>
    obtain ⟨i, rfl, hik, hlow, hown, hkr⟩ := hrel
    have Hlow := Lib.hid hlow
    clear hlow
    have hLr := hkr.cell hL1 id
    have x0 := hkr.cell x0 id
    have x1 := hkr.cell x1 id
    have x2 := hkr.cell x2 id
    have x3 := hkr.cell x3 id
    have x4 := hkr.cell x4 id
    have x5 := hkr.cell x5 id
    have x6 := hkr.cell x6 id
    have hsz := hkr.size
    by_cases hil : i < ws.length
    · obtain ⟨b, off, rfl, hcc⟩ := Hc.out (by omega)
      obtain ⟨y, hy⟩ : ∃ y, ws[i]? = some y := ⟨_, List.getElem?_eq_getElem hil⟩
      obtain ⟨yN, yB, yR, yA, yT, yha, yhl, yhc, ye⟩ := y
      have y0 : wr.cell? ⟨b, off + i * 7, none⟩ = some (.int .i64 yN) := hkr.cell (hcc i _ hy 0 (by omega)) id
      have y1 : wr.cell? ⟨b, off + i * 7 + 1, none⟩ = some (.int .i64 yB) := hkr.cell (hcc i _ hy 1 (by omega)) id
      have y2 : wr.cell? ⟨b, off + i * 7 + 2, none⟩ = some (.int .i64 yR) := hkr.cell (hcc i _ hy 2 (by omega)) id
      have y3 : wr.cell? ⟨b, off + i * 7 + 3, none⟩ = some (.int .i64 yA) := hkr.cell (hcc i _ hy 3 (by omega)) id
      have y4 : wr.cell? ⟨b, off + i * 7 + 4, none⟩ = some (.string yT) := hkr.cell (hcc i _ hy 4 (by omega)) id
      have y5 : wr.cell? ⟨b, off + i * 7 + 5, none⟩ = some (.slice yha yhl yhc) := hkr.cell (hcc i _ hy 5 (by omega)) id
      have y6 : wr.cell? ⟨b, off + i * 7 + 6, none⟩ = some (.int .i64 ye) := hkr.cell (hcc i _ hy 6 (by omega)) id
      have hsn := take_snoc_of' hy
      have Hy := Lib.hid hy
      clear hcc hy
      have hld : decide ((i : Int) < (ws.length : Int)) = true := by simp; omega
      have hld2 : (i : Int) < (ws.length : Int) := by omega
      by_cases hlt : yN < N
      · have hlt' : decide (yN < N) = true := by simpa using hlt
        go_wp2_with fail
        go_quiet (fail)
        go_wp2_with (at_builtin; refine wpList_append_own _ rfl (.tmp 46) (.tmp 54) 41 rfl w1.heap.size 34 i0 _ 7 80 Try.underlying41 hi hz0 hz1 hz2 rfl (by decide) _ _ _ rfl (ownsRow_alloc (ownsRow_drawN hown _) _) ⟨wr.heap.size, 0, none⟩ 1 1 [.int .i64 yN, .int .i64 yB, .int .i64 yR, .int .i64 yA, .string yT, .slice yha yhl yhc, .int .i64 ye] rfl rfl (by exact cells_new _ [_, _, _, _, _, _, _] _) ?d2 ?d3 ?d4 ?d5 ?_)
        case d2 => first | exact ⟨rfl, rfl, rfl, rfl, rfl, rfl, rfl⟩ | (intro u hu; simp at hu; rcases hu with rfl | rfl | rfl | rfl | rfl | rfl | rfl <;> rfl)
        case d3 => unfold maxLen; omega
        case d4 => omega
        case d5 => first | omega | (simp; omega)
        intro v2 w2 hown2 hgrow2 _
        have hO : PutR w1 ws N v2 (.int .i64 ((i + 1 : Nat) : Int)) w2 := by
          refine ⟨i + 1, rfl, by omega, ?_, ?_, ((hkr.drawN _).alloc _).grown hgrow2 (fun b hb => Or.inr (ownBlock_base hown b hb))⟩
          · intro z hz
            rw [hsn] at hz
            rcases List.mem_append.1 hz with hz | hz
            · exact Hlow.out z hz
            · simp at hz; subst hz; exact hlt
          · rw [hsn, cellsOf_append]; simpa [cellsOf, List.range_succ, ItemV.cell, plc] using hown2
        clear hown hown2 hgrow2 hsn hkr y0 y1 y2 y3 y4 y5 y6 x0 x1 x2 x3 x4 x5 x6 hLr
        have hO' := Lib.hid hO
        clear hO
        go_wp2_with fail
        go_roundw
        case rel => obtain ⟨j, e, r⟩ := hO'.out; exact ⟨j, by rw [← e]; go_num, r⟩
        case measure => simp [intOf]; omega
      · have hlt' : decide (yN < N) = false := by simpa using hlt
        obtain ⟨eA, eB⟩ := ahead_at N ws i hik Hlow.out (fun z hz => by rw [Hy.out] at hz; obtain rfl := Option.some.inj hz; exact hlt)
        have eB' : behind N ws = ⟨yN, yB, yR, yA, yT, yha, yhl, yhc, ye⟩ :: ws.drop (i + 1) := by
          rw [eB, List.drop_eq_getElem_cons hil]
          congr 1
          exact (List.getElem?_eq_some_iff.1 Hy.out).2
        by_cases heq : yN = N
        · have HV := Lib.hid (show putR nx k ws N = 2 by unfold putR; rw [if_neg (by omega), if_neg (by omega), eB']; simp [heq])
          have hq1 : (yN == N) = true := by simpa using heq
          clear eA eB eB' hsn
          go_wp2_with fail
          go_quiet (fail)
          go_wp2_with fail
          go_quiet (fail)
          go_wp2_with fail
          go_ret
          have KF : ∀ n m, Keeps (fun _ => False) w ((wr.drewN n).drewN m) := fun n m => ((K1.trans hkr).drawN n).drawN m
          refine ⟨by rw [HV.out]; rfl, ?_, (KF _ _).mono (fun _ _ h => h.elim)⟩
          have : putL nx k ws ⟨N, B, R, AT, T, ha, hl', hc', er⟩ = ws := by unfold putL; rw [if_neg (by rw [HV.out]; omega)]
          rw [this]
          exact Hh.out.keeps (KF _ _) (fun _ h => h.elim)
        · have HV := Lib.hid (show putR nx k ws N = 0 by unfold putR; rw [if_neg (by omega), if_neg (by omega), eB']; simp [heq])
          have hq1 : (yN == N) = false := by simpa using heq
          have HL := Lib.hid (show putL nx k ws ⟨N, B, R, AT, T, ha, hl', hc', er⟩ = ws.take i ++ [⟨N, B, R, AT, T, ha, hl', hc', er⟩] ++ ws.drop i by unfold putL; rw [if_pos HV.out, eA, eB])
          clear eA eB eB' hsn
          go_wp2_with fail
          go_quiet (fail)
          revert nq
          intro nqa
          go_wp2_with fail
          go_quiet (fail)
          have hownq : ((wr.drewN nqa).drewN nq).ownsRow w1.heap.size 34 7 u5 i (cellsOf 7 ItemV.cell (ws.take i)) := hown
          have hkq : Keeps (fun _ => False) w1 ((wr.drewN nqa).drewN nq) := (hkr.drawN _).drawN _
          have x0 : ((wr.drewN nqa).drewN nq).cell? ⟨w.heap.size, 0, none⟩ = some (.int .i64 N) := x0
          have x1 : ((wr.drewN nqa).drewN nq).cell? ⟨w.heap.size, 1, none⟩ = some (.int .i64 B) := x1
          have x2 : ((wr.drewN nqa).drewN nq).cell? ⟨w.heap.size, 2, none⟩ = some (.int .i64 R) := x2
          have x3 : ((wr.drewN nqa).drewN nq).cell? ⟨w.heap.size, 3, none⟩ = some (.int .i64 AT) := x3
          have x4 : ((wr.drewN nqa).drewN nq).cell? ⟨w.heap.size, 4, none⟩ = some (.string T) := x4
          have x5 : ((wr.drewN nqa).drewN nq).cell? ⟨w.heap.size, 5, none⟩ = some (.slice ha hl' hc') := x5
          have x6 : ((wr.drewN nqa).drewN nq).cell? ⟨w.heap.size, 6, none⟩ = some (.int .i64 er) := x6
          have hsq : w1.heap.size ≤ ((wr.drewN nqa).drewN nq).heap.size := hsz
          generalize hwq : (wr.drewN nqa).drewN nq = wq at *
          clear hwq
          go_wp2_with (at_builtin; refine wpList_append_own _ rfl (.tmp 78) (.tmp 80) 41 rfl w1.heap.size 34 i0 _ 7 80 Try.underlying41 hi hz0 hz1 hz2 rfl (by decide) _ _ _ rfl (ownsRow_alloc hownq _) ⟨wq.heap.size, 0, none⟩ 1 1 [.int .i64 N, .int .i64 B, .int .i64 R, .int .i64 AT, .string T, .slice ha hl' hc', .int .i64 er] rfl rfl (by exact cells_new _ [_, _, _, _, _, _, _] _) ?e2 ?e3 ?e4 ?e5 ?_)
          case e2 => first | exact ⟨rfl, rfl, rfl, rfl, rfl, rfl, rfl⟩ | (intro u hu; simp at hu; rcases hu with rfl | rfl | rfl | rfl | rfl | rfl | rfl <;> rfl)
          case e3 => unfold maxLen; omega
          case e4 => omega
          case e5 => first | omega | (simp; omega)
          intro v2 w2 hown2 hgrow2 _
          have hk2 : Keeps (fun _ => False) w1 w2 := (hkq.alloc _).grown hgrow2 (fun b hb => Or.inr (ownBlock_base hownq b hb))
          have ho2 : w2.ownsRow w1.heap.size 34 7 v2 (i + 1) (cellsOf 7 ItemV.cell (ws.take i ++ [⟨N, B, R, AT, T, ha, hl', hc', er⟩])) := by
            rw [cellsOf_append]; simpa [cellsOf, List.range_succ, ItemV.cell, plc] using hown2
          clear hown hown2 hgrow2 hownq hkq hkr
          have hR2 := Lib.hid (Hh.out.keeps (K1.trans hk2) (fun _ h => h.elim))
          have hL2 := hk2.cell hL1 id
          have hs2 := hs1.keep hk2
          have hz2' := hk2.size
          have hfr2 := hR2.out.fr
          obtain ⟨v2a, v2c, rfl⟩ := ownsRow_slice ho2
          clear x0 x1 x2 x3 x4 x5 x6
          have hci : ¬ cap = i := by omega
          have HR := SlOf.dropI hs2 i hik hci
          go_wp2_with (at_builtin; refine wpList_append_itm rfl (.tmp 83) (.tmp 89) rfl w1.heap.size _ _ _ rfl ho2 _ (ws.drop i) rfl HR ?f2 hz2' ?_)
          case f2 => rw [List.length_drop]; omega
          intro v3 w3 hown3 hgrow3
          have hk3 : Keeps (fun _ => False) w w3 := (K1.trans hk2).grown hgrow3 (fun b hb => Or.inr (by have := ownBlock_base ho2 b hb; omega))
          have hs3 : SlOf 7 ItemV.cell w3 v3 (ws.take i ++ [⟨N, B, R, AT, T, ha, hl', hc', er⟩] ++ ws.drop i) := SlOf.ofOwn (by rw [cellsOf_append, show (ws.take i ++ [(⟨N, B, R, AT, T, ha, hl', hc', er⟩ : ItemV)] ++ ws.drop i).length = i + 1 + (ws.length - i) by simp <;> omega]; exact hown3) (by simp; omega)
          have hb3 : ∀ b, v3.ownBlock = some b → w.heap.size ≤ b := fun b hb => by have := ownBlock_base hown3 b hb; omega
          have hR3 := Hh.out.keeps hk3 (fun _ h => h.elim)
          obtain ⟨L3, hL3, _⟩ := hR3.ex
          have hf3 := hR3.fr
          obtain ⟨v3a, v3c, rfl⟩ := ownsRow_slice hown3
          clear hown3 hgrow3 hL2 hfr2 hL1 hLr HR hs2 ho2 hs1 hR1
          go_wp2_with fail
          go_ret
          exact ⟨by rw [HV.out]; rfl, by rw [HL.out]; exact put_fin Hh.out w3 hk3 _ _ hs3 hb3, Keeps.set (S := fun b => b = wb) (hk3.mono (fun _ _ h => h.elim)) rfl _⟩
    · obtain rfl : ws.length = i := by omega
      obtain ⟨eA, eB⟩ := ahead_at N ws ws.length (Nat.le_refl _) Hlow.out (fun z hz => by simp at hz)
      rw [List.drop_length] at eB
      have HV := Lib.hid (show putR nx k ws N = 0 by unfold putR; rw [if_neg (by omega), if_neg (by omega), eB])
      have HL := Lib.hid (show putL nx k ws ⟨N, B, R, AT, T, ha, hl', hc', er⟩ = ws.take ws.length ++ [⟨N, B, R, AT, T, ha, hl', hc', er⟩] ++ ws.drop ws.length by unfold putL; rw [if_pos HV.out, eA, eB, List.drop_length])
      clear eA eB Hlow
      have hld : decide ((ws.length : Int) < (ws.length : Int)) = false := by simp
      go_wp2_with fail
      go_quiet (fail)
      revert nq
      intro nqa
      go_wp2_with fail
      go_quiet (fail)
      have hownq : ((wr.drewN nqa).drewN nq).ownsRow w1.heap.size 34 7 u5 ws.length (cellsOf 7 ItemV.cell (ws.take ws.length)) := hown
      have hkq : Keeps (fun _ => False) w1 ((wr.drewN nqa).drewN nq) := (hkr.drawN _).drawN _
      have x0 : ((wr.drewN nqa).drewN nq).cell? ⟨w.heap.size, 0, none⟩ = some (.int .i64 N) := x0
      have x1 : ((wr.drewN nqa).drewN nq).cell? ⟨w.heap.size, 1, none⟩ = some (.int .i64 B) := x1
      have x2 : ((wr.drewN nqa).drewN nq).cell? ⟨w.heap.size, 2, none⟩ = some (.int .i64 R) := x2
      have x3 : ((wr.drewN nqa).drewN nq).cell? ⟨w.heap.size, 3, none⟩ = some (.int .i64 AT) := x3
      have x4 : ((wr.drewN nqa).drewN nq).cell? ⟨w.heap.size, 4, none⟩ = some (.string T) := x4
      have x5 : ((wr.drewN nqa).drewN nq).cell? ⟨w.heap.size, 5, none⟩ = some (.slice ha hl' hc') := x5
      have x6 : ((wr.drewN nqa).drewN nq).cell? ⟨w.heap.size, 6, none⟩ = some (.int .i64 er) := x6
      have hsq : w1.heap.size ≤ ((wr.drewN nqa).drewN nq).heap.size := hsz
      generalize hwq : (wr.drewN nqa).drewN nq = wq at *
      clear hwq
      go_wp2_with (at_builtin; refine wpList_append_own _ rfl (.tmp 78) (.tmp 80) 41 rfl w1.heap.size 34 i0 _ 7 80 Try.underlying41 hi hz0 hz1 hz2 rfl (by decide) _ _ _ rfl (ownsRow_alloc hownq _) ⟨wq.heap.size, 0, none⟩ 1 1 [.int .i64 N, .int .i64 B, .int .i64 R, .int .i64 AT, .string T, .slice ha hl' hc', .int .i64 er] rfl rfl (by exact cells_new _ [_, _, _, _, _, _, _] _) ?e2 ?e3 ?e4 ?e5 ?_)
      case e2 => first | exact ⟨rfl, rfl, rfl, rfl, rfl, rfl, rfl⟩ | (intro u hu; simp at hu; rcases hu with rfl | rfl | rfl | rfl | rfl | rfl | rfl <;> rfl)
      case e3 => unfold maxLen; omega
      case e4 => omega
      case e5 => first | omega | (simp; omega)
      intro v2 w2 hown2 hgrow2 _
      have hk2 : Keeps (fun _ => False) w1 w2 := (hkq.alloc _).grown hgrow2 (fun b hb => Or.inr (ownBlock_base hownq b hb))
      have ho2 : w2.ownsRow w1.heap.size 34 7 v2 (ws.length + 1) (cellsOf 7 ItemV.cell (ws.take ws.length ++ [⟨N, B, R, AT, T, ha, hl', hc', er⟩])) := by
        rw [cellsOf_append]; simpa [cellsOf, List.range_succ, ItemV.cell, plc] using hown2
      clear hown hown2 hgrow2 hownq hkq hkr
      have hR2 := Lib.hid (Hh.out.keeps (K1.trans hk2) (fun _ h => h.elim))
      have hL2 := hk2.cell hL1 id
      have hs2 := hs1.keep hk2
      have hz2' := hk2.size
      have hfr2 := hR2.out.fr
      obtain ⟨v2a, v2c, rfl⟩ := ownsRow_slice ho2
      clear x0 x1 x2 x3 x4 x5 x6
      rcases a with _ | ad
      · obtain rfl : cap = 0 := by obtain ⟨_, _, e, ⟨_, hn⟩, _⟩ := hs2; injection e with e1 e2 e3; rw [e3]; exact hn e1.symm
        have HR : SlOf 7 ItemV.cell w2 (.slice none 0 0) (ws.drop ws.length) := by rw [List.drop_length]; exact SlOf.nil _ _ _
        go_wp2_with (at_builtin; refine wpList_append_itm rfl (.tmp 83) (.tmp 89) rfl w1.heap.size _ _ _ rfl ho2 _ (ws.drop ws.length) rfl HR ?f2 hz2' ?_)
        case f2 => rw [List.length_drop]; omega
        intro v3 w3 hown3 hgrow3
        have hk3 : Keeps (fun _ => False) w w3 := (K1.trans hk2).grown hgrow3 (fun b hb => Or.inr (by have := ownBlock_base ho2 b hb; omega))
        have hs3 : SlOf 7 ItemV.cell w3 v3 (ws.take ws.length ++ [⟨N, B, R, AT, T, ha, hl', hc', er⟩] ++ ws.drop ws.length) := SlOf.ofOwn (by rw [List.take_length, List.drop_length, cellsOf_append, show (ws ++ [(⟨N, B, R, AT, T, ha, hl', hc', er⟩ : ItemV)] ++ ([] : List ItemV)).length = ws.length + 1 by simp]; exact hown3) (by simp; omega)
        have hb3 : ∀ b, v3.ownBlock = some b → w.heap.size ≤ b := fun b hb => by have := ownBlock_base hown3 b hb; omega
        have hR3 := Hh.out.keeps hk3 (fun _ h => h.elim)
        obtain ⟨L3, hL3, _⟩ := hR3.ex
        have hf3 := hR3.fr
        obtain ⟨v3a, v3c, rfl⟩ := ownsRow_slice hown3
        clear hown3 hgrow3 hL2 hfr2 hL1 hLr HR hs2 ho2 hs1 hR1
        go_wp2_with fail
        go_ret
        exact ⟨by rw [HV.out]; rfl, by rw [HL.out]; exact put_fin Hh.out w3 hk3 _ _ hs3 hb3, Keeps.set (S := fun b => b = wb) (hk3.mono (fun _ _ h => h.elim)) rfl _⟩
      · by_cases hci : cap = ws.length
        · skip
          have HR : SlOf 7 ItemV.cell w2 (.slice (some ad) 0 0) (ws.drop ws.length) := by rw [List.drop_length]; exact ⟨_, 0, rfl, ⟨Nat.le_refl _, (fun h => by cases h)⟩, by simp, fun h => by simp at h⟩
          go_wp2_with (at_builtin; refine wpList_append_itm rfl (.tmp 83) (.tmp 89) rfl w1.heap.size _ _ _ rfl ho2 _ (ws.drop ws.length) rfl HR ?f2 hz2' ?_)
          case f2 => rw [List.length_drop]; omega
          intro v3 w3 hown3 hgrow3
          have hk3 : Keeps (fun _ => False) w w3 := (K1.trans hk2).grown hgrow3 (fun b hb => Or.inr (by have := ownBlock_base ho2 b hb; omega))
          have hs3 : SlOf 7 ItemV.cell w3 v3 (ws.take ws.length ++ [⟨N, B, R, AT, T, ha, hl', hc', er⟩] ++ ws.drop ws.length) := SlOf.ofOwn (by rw [List.take_length, List.drop_length, cellsOf_append, show (ws ++ [(⟨N, B, R, AT, T, ha, hl', hc', er⟩ : ItemV)] ++ ([] : List ItemV)).length = ws.length + 1 by simp]; exact hown3) (by simp; omega)
          have hb3 : ∀ b, v3.ownBlock = some b → w.heap.size ≤ b := fun b hb => by have := ownBlock_base hown3 b hb; omega
          have hR3 := Hh.out.keeps hk3 (fun _ h => h.elim)
          obtain ⟨L3, hL3, _⟩ := hR3.ex
          have hf3 := hR3.fr
          obtain ⟨v3a, v3c, rfl⟩ := ownsRow_slice hown3
          clear hown3 hgrow3 hL2 hfr2 hL1 hLr HR hs2 ho2 hs1 hR1
          go_wp2_with fail
          go_ret
          exact ⟨by rw [HV.out]; rfl, by rw [HL.out]; exact put_fin Hh.out w3 hk3 _ _ hs3 hb3, Keeps.set (S := fun b => b = wb) (hk3.mono (fun _ _ h => h.elim)) rfl _⟩
        · skip
          have HR : SlOf 7 ItemV.cell w2 (.slice (some (ad.add (ws.length * 7))) 0 (cap - ws.length)) (ws.drop ws.length) := by rw [List.drop_length]; exact ⟨_, _, rfl, ⟨by simp, (fun h => by cases h)⟩, by simp, fun h => by simp at h⟩
          go_wp2_with (at_builtin; refine wpList_append_itm rfl (.tmp 83) (.tmp 89) rfl w1.heap.size _ _ _ rfl ho2 _ (ws.drop ws.length) rfl HR ?f2 hz2' ?_)
          case f2 => rw [List.length_drop]; omega
          intro v3 w3 hown3 hgrow3
          have hk3 : Keeps (fun _ => False) w w3 := (K1.trans hk2).grown hgrow3 (fun b hb => Or.inr (by have := ownBlock_base ho2 b hb; omega))
          have hs3 : SlOf 7 ItemV.cell w3 v3 (ws.take ws.length ++ [⟨N, B, R, AT, T, ha, hl', hc', er⟩] ++ ws.drop ws.length) := SlOf.ofOwn (by rw [List.take_length, List.drop_length, cellsOf_append, show (ws ++ [(⟨N, B, R, AT, T, ha, hl', hc', er⟩ : ItemV)] ++ ([] : List ItemV)).length = ws.length + 1 by simp]; exact hown3) (by simp; omega)
          have hb3 : ∀ b, v3.ownBlock = some b → w.heap.size ≤ b := fun b hb => by have := ownBlock_base hown3 b hb; omega
          have hR3 := Hh.out.keeps hk3 (fun _ h => h.elim)
          obtain ⟨L3, hL3, _⟩ := hR3.ex
          have hf3 := hR3.fr
          obtain ⟨v3a, v3c, rfl⟩ := ownsRow_slice hown3
          clear hown3 hgrow3 hL2 hfr2 hL1 hLr HR hs2 ho2 hs1 hR1
          go_wp2_with fail
          go_ret
          exact ⟨by rw [HV.out]; rfl, by rw [HL.out]; exact put_fin Hh.out w3 hk3 _ _ hs3 hb3, Keeps.set (S := fun b => b = wb) (hk3.mono (fun _ _ h => h.elim)) rfl _⟩
end Go.Proofs.Ytibfioekmpnkgaa
