/-
  Several texts in one: For the laws on sets: the law's own awake, ranges that are new, ranges that came in. The named sets: plain words and the walk of the document's own 'Named'. The walk of set.Named. parse.among, parse.one. The parser's escape, point.
-/
import Derived.Test.YtpcbfmbpbegjgaaGreatMg4
import Derived.Deep.SlicePairs
import Derived.ChangeArms
import Derived.Deep.RegionHeld3
import Derived.Deep.Cut
import Derived.Deep.CutRange
import Derived.Test.YtpcbfmbpbegjgaaGreatMg3
import Derived.Test.YtpcbfmbpbegjgaaGreatShelf
import Derived.Lib.Bytealg
section
namespace Go.Proofs.YtpcbfmbpbegjgaaGreat
open Go.RowKit
set_option linter.unusedVariables false
set_option linter.unusedSimpArgs false
set_option maxRecDepth 100000

theorem rsl_new (w : World) (l : List (Int × Int)) (n : Nat) (hn : l.length = n) (T : TypeId) (hl : l.length ≤ 1000) (h : ∀ p ∈ l, in64 p.1 ∧ in64 p.2) : RSl (w.alloc (.cells (cellsOf 2 encR l).toArray T)) (.slice (some ⟨w.heap.size, 0, none⟩) n n) l := by
  subst hn
  refine ⟨⟨_, _, rfl, ⟨Nat.le_refl _, (fun h => by cases h)⟩, by omega, fun h0 => ⟨_, 0, rfl, fun i x hx j hj => ?_⟩⟩, h⟩
  rw [cell_new]
  have := cellsOf_get 2 encR l i x hx j hj
  simpa using this

theorem wpList_append_rsl {w : World} {ops : Array Oper} {rest : List Oper} {o : Oper} {a : Act} {Q : Exit → Act → World → Prop} (hgd : o.guard = none) (s x : Operand)
    (ho : o.op = .call { callee := .builtin .append, args := #[s, x], argTypes := #[24, 24] })
    (base : Nat) (v : Value) (n : Nat) (xs : List Value) (hs : a.eval s = v) (hown : w.ownsRow base 87 2 v n xs)
    (xv : Value) (l : List (Int × Int)) (hx : a.eval x = xv) (hr : RSl w xv l) (h63 : n + l.length ≤ 1000000) (hbase : base ≤ w.heap.size)
    (h : ∀ v' w', w'.ownsRow base 87 2 v' (n + l.length) (xs ++ cellsOf 2 encR l) → w.grownBy w' v.ownBlock → wpList Tryz.prog ops Q rest (a.put o.dst v') w') : wpList Tryz.prog ops Q (o :: rest) a w := by
  obtain ⟨i0, hi, hz0, hz1, hz2⟩ := info_parts info_range
  rcases hr.1.news (by omega) with ⟨rfl, rfl⟩ | ⟨ad, c, rfl, hnews⟩
  · refine wpList_append_own_none hgd s x 24 ho base 87 i0 2 Tryz.underlying24 hi v n xs hs hown hx (hs ▸ h v w ?_ ?_)
    · simpa [cellsOf] using hown
    · exact ⟨rfl, rfl, rfl, Nat.le_refl _, fun _ _ _ => rfl⟩
  · exact wpList_append_own _ hgd s x 24 ho base 87 i0 _ 2 16 Tryz.underlying24 hi hz0 hz1 hz2 rfl (by decide) v n xs hs hown ad _ c _ hx (cellsOf_length _ _ _) hnews (encR_one _) (by unfold maxLen; omega) (by omega) hbase
      (fun v' w' h1 h2 _ => h v' w' h1 h2)

theorem rsl_open {H : Type} {enc : TypeId × Value → H} {w : World} {base : Nat} {spare : Nat → Bool} {held : Bool} {a : Option Addr} {len cap : Nat} {x : DataW H × List MemPlace} (hl : len ≤ 100)
    (h : ∃ fuel, DataW.trod enc Tryz.prog w base spare held fuel 24 (Value.slice a len cap).cells.toList = some x) : ∃ l : List (Int × Int), l.length = len ∧ RSl w (.slice a len cap) l := by
  obtain ⟨fuel, hf⟩ := h
  rcases Deep.open_slice_pairs Tryz.underlying24 Tryz.underlying87 (by kernel_rfl) rfl rfl (by kernel_rfl) (by kernel_rfl) hf with ⟨hcs, _⟩ | ⟨a', len', cap', m, n, V0, V1, D0, D1, P0, P1, hcs, _, hlc, hcm, hm, _, hx⟩
  · simp [Value.cells] at hcs
    obtain ⟨rfl, rfl, rfl⟩ := hcs
    exact ⟨[], rfl, SlOf.nil _ _ _, by simp⟩
  · simp [Value.cells] at hcs
    obtain ⟨rfl, rfl, rfl⟩ := hcs
    have hlm : len ≤ m := by rw [hm]; split <;> omega
    have hv : ∀ i, i < len → ∃ x y : Int, V0 i = .int .i64 x ∧ V1 i = .int .i64 y ∧ in64 x ∧ in64 y := by
      intro i hi
      obtain ⟨_, _, h0, h1⟩ := hx i (by omega)
      obtain ⟨x, e0, _, w0⟩ := DataW.trod_int Tryz.underlying3 h0
      obtain ⟨y, e1, _, w1⟩ := DataW.trod_int Tryz.underlying3 h1
      simp [Lit.wf, IntKind.min, IntKind.max, IntKind.signed, IntKind.bits] at w0 w1
      simp at e0 e1
      exact ⟨x, y, e0, e1, by unfold in64; omega, by unfold in64; omega⟩
    have hsp : len ≠ 0 → a'.spot = none := by
      intro hne
      have h1 := (hx 0 (by omega)).1
      simpa [Addr.add] using World.cell?_spot h1
    refine ⟨(List.range len).map fun i => (intOf (V0 i), intOf (V1 i)), by simp, ⟨some a', cap, by simp, ⟨by simpa using hlc, (fun h => by cases h)⟩, by simp; omega, fun h0 => ?_⟩, ?_⟩
    · obtain ⟨b, off, spot⟩ := a'
      simp at h0
      have := hsp (by omega)
      simp at this
      subst this
      refine ⟨b, off, rfl, fun i p hp j hj => ?_⟩
      have hi : i < len := by
        rcases Nat.lt_or_ge i len with h | h
        · exact h
        · rw [List.getElem?_eq_none (by simpa using h)] at hp; cases hp
      simp [hi] at hp
      subst hp
      obtain ⟨x, y, e0, e1, _, _⟩ := hv i hi
      obtain ⟨c0, c1, _, _⟩ := hx i (by omega)
      have hadd : ∀ k, (⟨b, off, none⟩ : Addr).add k = ⟨b, off + k, none⟩ := by intro k; unfold Addr.add; split <;> simp_all
      rw [hadd] at c0 c1
      have : j = 0 ∨ j = 1 := by omega
      rcases this with rfl | rfl
      · rw [Nat.add_zero, c0, e0]; rfl
      · rw [Nat.add_assoc, c1, e1]; rfl
    · intro p hp
      obtain ⟨i, hi, rfl⟩ := List.mem_map.1 hp
      obtain ⟨x, y, e0, e1, a0, a1⟩ := hv i (by simpa using hi)
      simp only [e0, e1]
      exact ⟨a0, a1⟩
end Go.Proofs.YtpcbfmbpbegjgaaGreat
end
section
namespace Go.Proofs.YtpcbfmbpbegjgaaGreat
open Go.RowKit
set_option linter.unusedVariables false
set_option linter.unusedSimpArgs false
set_option maxRecDepth 100000

def digB (r : Int) : Bool := decide (48 ≤ r) && decide (r ≤ 57)
def wrdB (r : Int) : Bool := digB r || (decide (65 ≤ r) && decide (r ≤ 90)) || (decide (97 ≤ r) && decide (r ≤ 122)) || decide (r = 95)
def spcB (r : Int) : Bool := decide (r = 32) || (decide (9 ≤ r) && decide (r ≤ 13))
/-- What a name says of a number, and whether it is a name. -/
def namB (c r : Int) : Bool :=
  if c = 100 then digB r else if c = 119 then wrdB r else if c = 115 then spcB r else if c = 68 then !digB r else if c = 87 then !wrdB r else if c = 83 then !spcB r else false
def okN (c : Int) : Bool := decide (c = 100) || decide (c = 119) || decide (c = 115) || decide (c = 68) || decide (c = 87) || decide (c = 83)

structure FinN (r : Int) (d w s : Bool) : Prop where
  a1 : namB 100 r = d ∧ okN 100 = true
  a2 : namB 119 r = w ∧ okN 119 = true
  a3 : namB 115 r = s ∧ okN 115 = true
  a4 : namB 68 r = !d ∧ okN 68 = true
  a5 : namB 87 r = !w ∧ okN 87 = true
  a6 : namB 83 r = !s ∧ okN 83 = true
  a7 : ∀ c : Int, c ≠ 100 → c ≠ 119 → c ≠ 115 → c ≠ 68 → c ≠ 87 → c ≠ 83 → namB c r = false ∧ okN c = false
theorem fin_named (r : Int) {d w s : Bool} (hd : digB r = d) (hw : wrdB r = w) (hs : spcB r = s) : FinN r d w s := by
  subst hd hw hs
  exact ⟨⟨rfl, rfl⟩, ⟨rfl, rfl⟩, ⟨rfl, rfl⟩, ⟨rfl, rfl⟩, ⟨rfl, rfl⟩, ⟨rfl, rfl⟩, fun c h1 h2 h3 h4 h5 h6 => ⟨by simp [namB, h1, h2, h3, h4, h5, h6], by simp [okN, h1, h2, h3, h4, h5, h6]⟩⟩
end Go.Proofs.YtpcbfmbpbegjgaaGreat
end
section
namespace Go.Proofs.YtpcbfmbpbegjgaaGreat
open Go.RowKit
set_option linter.unusedVariables false
set_option linter.unusedSimpArgs false
set_option maxRecDepth 100000

theorem bits_other : ∀ c : Fin 256, okN (c.val : Int) = false → (bits BinOp.or IntKind.u8 (c.val : Int) 32 == 119) = false ∧ (bits BinOp.or IntKind.u8 (c.val : Int) 32 == 100) = false ∧ (bits BinOp.or IntKind.u8 (c.val : Int) 32 == 115) = false := of_decide_eq_true (by kernel_rfl)
theorem setNamed_other (c : Int) (w : World) (h0 : 0 ≤ c) (h1 : c ≤ 255) (hn : okN c = false) :
    Calls Tryz.prog 133 #[.int .u8 c] w fun e w' => e = .returned (.tuple #[.slice none 0 0, .bool false]) ∧ w' = w := by
  obtain ⟨b1, b2, b3⟩ := bits_other ⟨c.toNat, by omega⟩ (by simpa [Int.toNat_of_nonneg h0] using hn)
  simp only [Int.toNat_of_nonneg h0] at b1 b2 b3
  go_enter Tryz.func133, Tryz.ntmps133
  go_wp2_with fail
  go_ret2
  exact ⟨rfl, rfl⟩

set_option maxHeartbeats 2000000 in
theorem setNamed_119 (w : World) :
    Calls Tryz.prog 133 #[.int .u8 119] w fun e w' => ∃ u out, e = .returned (.tuple #[u, .bool true]) ∧ IsOf [(65, 90), (97, 122), (95, 95), (48, 57)] out ∧ ROwn w w' u out ∧ out.length ≤ 5 := by
  obtain ⟨i0, hi, hz0, hz1, hz2⟩ := info_parts info_range
  have hb : bits BinOp.or IntKind.u8 119 32 = 119 := by kernel_rfl
  go_enter Tryz.func133, Tryz.ntmps133
  go_wp2_with (at_builtin; refine wpList_append_own _ rfl (.tmp 13) (.tmp 17) 24 rfl w.heap.size 87 i0 _ 2 16 Tryz.underlying24 hi hz0 hz1 hz2 rfl (by decide) (.slice none 0 0) 0 [] rfl (World.ownsRow_nil _ _ _ _) ⟨w.heap.size, 0, none⟩ 3 3 [.int .i64 65, .int .i64 90, .int .i64 97, .int .i64 122, .int .i64 95, .int .i64 95] rfl rfl (by exact cells_new _ [_, _, _, _, _, _] _) ?c2 ?c3 ?c4 ?c5 ?_)
  case c2 => first | (intro u hu; simp at hu; rcases hu with rfl | rfl | rfl | rfl | rfl | rfl <;> rfl) | exact ⟨rfl, rfl, rfl, rfl, rfl, rfl⟩
  case c3 => unfold maxLen; omega
  case c4 => omega
  case c5 => simp
  intro v' w2 hown' hgrow' _
  have hk : Keeps (fun _ => False) w w2 := ((Keeps.refl _ _).alloc _).grown hgrow' (fun b hb => by cases hb)
  have ho3 : w2.ownsRow w.heap.size 87 2 v' 3 (cellsOf 2 encR [(65, 90), (97, 122), (95, 95)]) := by simpa [cellsOf, encR, List.range_succ] using hown'
  have hsz := hk.size
  obtain ⟨va, vc, rfl⟩ := ownsRow_slice ho3
  clear hown' hgrow'
  go_wp2_with (at_builtin; refine wpList_append_own _ rfl (.tmp 19) (.tmp 21) 24 rfl w.heap.size 87 i0 _ 2 16 Tryz.underlying24 hi hz0 hz1 hz2 rfl (by decide) _ 3 _ rfl (ownsRow_alloc ho3 _) ⟨w2.heap.size, 0, none⟩ 1 1 [.int .i64 48, .int .i64 57] rfl rfl (by exact cells_new _ [_, _] _) ?d2 ?d3 ?d4 ?d5 ?_)
  case d2 => first | (intro u hu; simp at hu; rcases hu with rfl | rfl <;> rfl) | exact ⟨rfl, rfl⟩
  case d3 => unfold maxLen; omega
  case d4 => omega
  case d5 => simp; omega
  intro v'' w2' hown'' hgrow'' _
  have hr : RSl w2' v'' [(65, 90), (97, 122), (95, 95), (48, 57)] := ⟨SlOf.ofOwn (by simpa [cellsOf, encR, List.range_succ] using hown'') (by simp), by simp [in64]⟩
  have hk : Keeps (fun _ => False) w w2' := (hk.alloc _).grown hgrow'' (fun b hb => Or.inr (ownBlock_base ho3 b hb))
  clear hown'' hgrow'' ho3
  go_wp2_with fail
  refine (of_walk [(65, 90), (97, 122), (95, 95), (48, 57)] _ _ hr (by simp)).mono ?_
  rintro e w3 ⟨u, out, rfl, hof, hown, hlo⟩
  simp only [List.length_cons, List.length_nil] at hlo
  go_wp2_with fail
  go_ret2
  exact ⟨u, out, rfl, hof, ⟨ownsRow_base hown.1 hk.size, hk.trans hown.2⟩, by omega⟩

set_option maxHeartbeats 2000000 in
theorem setNamed_100 (w : World) :
    Calls Tryz.prog 133 #[.int .u8 100] w fun e w' => ∃ u out, e = .returned (.tuple #[u, .bool true]) ∧ IsOf [(48, 57)] out ∧ ROwn w w' u out ∧ out.length ≤ 5 := by
  obtain ⟨i0, hi, hz0, hz1, hz2⟩ := info_parts info_range
  have hb : bits BinOp.or IntKind.u8 100 32 = 100 := by kernel_rfl
  go_enter Tryz.func133, Tryz.ntmps133
  go_wp2_with (at_builtin; refine wpList_append_own _ rfl (.tmp 19) (.tmp 21) 24 rfl w.heap.size 87 i0 _ 2 16 Tryz.underlying24 hi hz0 hz1 hz2 rfl (by decide) (.slice none 0 0) 0 [] rfl (World.ownsRow_nil _ _ _ _) ⟨w.heap.size, 0, none⟩ 1 1 [.int .i64 48, .int .i64 57] rfl rfl (by exact cells_new _ [_, _] _) ?c2 ?c3 ?c4 ?c5 ?_)
  case c2 => first | (intro u hu; simp at hu; rcases hu with rfl | rfl <;> rfl) | exact ⟨rfl, rfl⟩
  case c3 => unfold maxLen; omega
  case c4 => omega
  case c5 => simp
  intro v' w2 hown' hgrow' _
  have hr : RSl w2 v' [(48, 57)] := ⟨SlOf.ofOwn (by simpa [cellsOf, encR, List.range_succ] using hown') (by simp), by simp [in64]⟩
  have hk : Keeps (fun _ => False) w w2 := ((Keeps.refl _ _).alloc _).grown hgrow' (fun b hb => by cases hb)
  clear hown' hgrow'
  go_wp2_with fail
  refine (of_walk [(48, 57)] _ _ hr (by simp)).mono ?_
  rintro e w3 ⟨u, out, rfl, hof, hown, hlo⟩
  simp only [List.length_cons, List.length_nil] at hlo
  go_wp2_with fail
  go_ret2
  exact ⟨u, out, rfl, hof, ⟨ownsRow_base hown.1 hk.size, hk.trans hown.2⟩, by omega⟩

set_option maxHeartbeats 2000000 in
theorem setNamed_115 (w : World) :
    Calls Tryz.prog 133 #[.int .u8 115] w fun e w' => ∃ u out, e = .returned (.tuple #[u, .bool true]) ∧ IsOf [(9, 13), (32, 32)] out ∧ ROwn w w' u out ∧ out.length ≤ 5 := by
  obtain ⟨i0, hi, hz0, hz1, hz2⟩ := info_parts info_range
  have hb : bits BinOp.or IntKind.u8 115 32 = 115 := by kernel_rfl
  go_enter Tryz.func133, Tryz.ntmps133
  go_wp2_with (at_builtin; refine wpList_append_own _ rfl (.tmp 23) (.tmp 26) 24 rfl w.heap.size 87 i0 _ 2 16 Tryz.underlying24 hi hz0 hz1 hz2 rfl (by decide) (.slice none 0 0) 0 [] rfl (World.ownsRow_nil _ _ _ _) ⟨w.heap.size, 0, none⟩ 2 2 [.int .i64 9, .int .i64 13, .int .i64 32, .int .i64 32] rfl rfl (by exact cells_new _ [_, _, _, _] _) ?c2 ?c3 ?c4 ?c5 ?_)
  case c2 => first | (intro u hu; simp at hu; rcases hu with rfl | rfl | rfl | rfl <;> rfl) | exact ⟨rfl, rfl, rfl, rfl⟩
  case c3 => unfold maxLen; omega
  case c4 => omega
  case c5 => simp
  intro v' w2 hown' hgrow' _
  have hr : RSl w2 v' [(9, 13), (32, 32)] := ⟨SlOf.ofOwn (by simpa [cellsOf, encR, List.range_succ] using hown') (by simp), by simp [in64]⟩
  have hk : Keeps (fun _ => False) w w2 := ((Keeps.refl _ _).alloc _).grown hgrow' (fun b hb => by cases hb)
  clear hown' hgrow'
  go_wp2_with fail
  refine (of_walk [(9, 13), (32, 32)] _ _ hr (by simp)).mono ?_
  rintro e w3 ⟨u, out, rfl, hof, hown, hlo⟩
  simp only [List.length_cons, List.length_nil] at hlo
  go_wp2_with fail
  go_ret2
  exact ⟨u, out, rfl, hof, ⟨ownsRow_base hown.1 hk.size, hk.trans hown.2⟩, by omega⟩

set_option maxHeartbeats 2000000 in
theorem setNamed_87 (w : World) :
    Calls Tryz.prog 133 #[.int .u8 87] w fun e w' => ∃ u out, e = .returned (.tuple #[u, .bool true]) ∧ IsNot [(65, 90), (97, 122), (95, 95), (48, 57)] out ∧ ROwn w w' u out ∧ out.length ≤ 5 := by
  obtain ⟨i0, hi, hz0, hz1, hz2⟩ := info_parts info_range
  have hb : bits BinOp.or IntKind.u8 87 32 = 119 := by kernel_rfl
  go_enter Tryz.func133, Tryz.ntmps133
  go_wp2_with (at_builtin; refine wpList_append_own _ rfl (.tmp 13) (.tmp 17) 24 rfl w.heap.size 87 i0 _ 2 16 Tryz.underlying24 hi hz0 hz1 hz2 rfl (by decide) (.slice none 0 0) 0 [] rfl (World.ownsRow_nil _ _ _ _) ⟨w.heap.size, 0, none⟩ 3 3 [.int .i64 65, .int .i64 90, .int .i64 97, .int .i64 122, .int .i64 95, .int .i64 95] rfl rfl (by exact cells_new _ [_, _, _, _, _, _] _) ?c2 ?c3 ?c4 ?c5 ?_)
  case c2 => first | (intro u hu; simp at hu; rcases hu with rfl | rfl | rfl | rfl | rfl | rfl <;> rfl) | exact ⟨rfl, rfl, rfl, rfl, rfl, rfl⟩
  case c3 => unfold maxLen; omega
  case c4 => omega
  case c5 => simp
  intro v' w2 hown' hgrow' _
  have hk : Keeps (fun _ => False) w w2 := ((Keeps.refl _ _).alloc _).grown hgrow' (fun b hb => by cases hb)
  have ho3 : w2.ownsRow w.heap.size 87 2 v' 3 (cellsOf 2 encR [(65, 90), (97, 122), (95, 95)]) := by simpa [cellsOf, encR, List.range_succ] using hown'
  have hsz := hk.size
  obtain ⟨va, vc, rfl⟩ := ownsRow_slice ho3
  clear hown' hgrow'
  go_wp2_with (at_builtin; refine wpList_append_own _ rfl (.tmp 19) (.tmp 21) 24 rfl w.heap.size 87 i0 _ 2 16 Tryz.underlying24 hi hz0 hz1 hz2 rfl (by decide) _ 3 _ rfl (ownsRow_alloc ho3 _) ⟨w2.heap.size, 0, none⟩ 1 1 [.int .i64 48, .int .i64 57] rfl rfl (by exact cells_new _ [_, _] _) ?d2 ?d3 ?d4 ?d5 ?_)
  case d2 => first | (intro u hu; simp at hu; rcases hu with rfl | rfl <;> rfl) | exact ⟨rfl, rfl⟩
  case d3 => unfold maxLen; omega
  case d4 => omega
  case d5 => simp; omega
  intro v'' w2' hown'' hgrow'' _
  have hr : RSl w2' v'' [(65, 90), (97, 122), (95, 95), (48, 57)] := ⟨SlOf.ofOwn (by simpa [cellsOf, encR, List.range_succ] using hown'') (by simp), by simp [in64]⟩
  have hk : Keeps (fun _ => False) w w2' := (hk.alloc _).grown hgrow'' (fun b hb => Or.inr (ownBlock_base ho3 b hb))
  clear hown'' hgrow'' ho3
  go_wp2_with fail
  refine (not_any [(65, 90), (97, 122), (95, 95), (48, 57)] _ _ hr (by simp)).mono ?_
  rintro e w3 ⟨u, out, rfl, hof, hown, hlo⟩
  simp only [List.length_cons, List.length_nil] at hlo
  go_wp2_with fail
  go_ret2
  exact ⟨u, out, rfl, hof, ⟨ownsRow_base hown.1 hk.size, hk.trans hown.2⟩, by omega⟩

set_option maxHeartbeats 2000000 in
theorem setNamed_68 (w : World) :
    Calls Tryz.prog 133 #[.int .u8 68] w fun e w' => ∃ u out, e = .returned (.tuple #[u, .bool true]) ∧ IsNot [(48, 57)] out ∧ ROwn w w' u out ∧ out.length ≤ 5 := by
  obtain ⟨i0, hi, hz0, hz1, hz2⟩ := info_parts info_range
  have hb : bits BinOp.or IntKind.u8 68 32 = 100 := by kernel_rfl
  go_enter Tryz.func133, Tryz.ntmps133
  go_wp2_with (at_builtin; refine wpList_append_own _ rfl (.tmp 19) (.tmp 21) 24 rfl w.heap.size 87 i0 _ 2 16 Tryz.underlying24 hi hz0 hz1 hz2 rfl (by decide) (.slice none 0 0) 0 [] rfl (World.ownsRow_nil _ _ _ _) ⟨w.heap.size, 0, none⟩ 1 1 [.int .i64 48, .int .i64 57] rfl rfl (by exact cells_new _ [_, _] _) ?c2 ?c3 ?c4 ?c5 ?_)
  case c2 => first | (intro u hu; simp at hu; rcases hu with rfl | rfl <;> rfl) | exact ⟨rfl, rfl⟩
  case c3 => unfold maxLen; omega
  case c4 => omega
  case c5 => simp
  intro v' w2 hown' hgrow' _
  have hr : RSl w2 v' [(48, 57)] := ⟨SlOf.ofOwn (by simpa [cellsOf, encR, List.range_succ] using hown') (by simp), by simp [in64]⟩
  have hk : Keeps (fun _ => False) w w2 := ((Keeps.refl _ _).alloc _).grown hgrow' (fun b hb => by cases hb)
  clear hown' hgrow'
  go_wp2_with fail
  refine (not_any [(48, 57)] _ _ hr (by simp)).mono ?_
  rintro e w3 ⟨u, out, rfl, hof, hown, hlo⟩
  simp only [List.length_cons, List.length_nil] at hlo
  go_wp2_with fail
  go_ret2
  exact ⟨u, out, rfl, hof, ⟨ownsRow_base hown.1 hk.size, hk.trans hown.2⟩, by omega⟩

set_option maxHeartbeats 2000000 in
theorem setNamed_83 (w : World) :
    Calls Tryz.prog 133 #[.int .u8 83] w fun e w' => ∃ u out, e = .returned (.tuple #[u, .bool true]) ∧ IsNot [(9, 13), (32, 32)] out ∧ ROwn w w' u out ∧ out.length ≤ 5 := by
  obtain ⟨i0, hi, hz0, hz1, hz2⟩ := info_parts info_range
  have hb : bits BinOp.or IntKind.u8 83 32 = 115 := by kernel_rfl
  go_enter Tryz.func133, Tryz.ntmps133
  go_wp2_with (at_builtin; refine wpList_append_own _ rfl (.tmp 23) (.tmp 26) 24 rfl w.heap.size 87 i0 _ 2 16 Tryz.underlying24 hi hz0 hz1 hz2 rfl (by decide) (.slice none 0 0) 0 [] rfl (World.ownsRow_nil _ _ _ _) ⟨w.heap.size, 0, none⟩ 2 2 [.int .i64 9, .int .i64 13, .int .i64 32, .int .i64 32] rfl rfl (by exact cells_new _ [_, _, _, _] _) ?c2 ?c3 ?c4 ?c5 ?_)
  case c2 => first | (intro u hu; simp at hu; rcases hu with rfl | rfl | rfl | rfl <;> rfl) | exact ⟨rfl, rfl, rfl, rfl⟩
  case c3 => unfold maxLen; omega
  case c4 => omega
  case c5 => simp
  intro v' w2 hown' hgrow' _
  have hr : RSl w2 v' [(9, 13), (32, 32)] := ⟨SlOf.ofOwn (by simpa [cellsOf, encR, List.range_succ] using hown') (by simp), by simp [in64]⟩
  have hk : Keeps (fun _ => False) w w2 := ((Keeps.refl _ _).alloc _).grown hgrow' (fun b hb => by cases hb)
  clear hown' hgrow'
  go_wp2_with fail
  refine (not_any [(9, 13), (32, 32)] _ _ hr (by simp)).mono ?_
  rintro e w3 ⟨u, out, rfl, hof, hown, hlo⟩
  simp only [List.length_cons, List.length_nil] at hlo
  go_wp2_with fail
  go_ret2
  exact ⟨u, out, rfl, hof, ⟨ownsRow_base hown.1 hk.size, hk.trans hown.2⟩, by omega⟩
end Go.Proofs.YtpcbfmbpbegjgaaGreat
end
section
namespace Go.Proofs.YtpcbfmbpbegjgaaGreat
open Go.RowKit
set_option linter.unusedVariables false
set_option linter.unusedSimpArgs false
set_option maxRecDepth 100000

/-- Is a code point one of an alphabet? -/
def amg (al : List UInt8) (r : Int) : Bool := decide (0 ≤ r) && decide (r < 128) && decide (0 ≤ Lib.indexByte al r.toNat.toUInt8)

theorem among_any (al : ByteArray) (r : Int) (w : World) : Calls Tryz.prog 118 #[.string al, .int .i64 r] w fun e w' => e = .returned (.bool (amg al.data.toList r)) ∧ w = w' := by
  by_cases h0 : 0 ≤ r
  · have g0 : decide (0 ≤ r) = true := by simpa using h0
    by_cases h1 : r < 128
    · have g1 : decide (r < 128) = true := by simpa using h1
      have HI := Lib.hid (fun W => Tryz.strings_IndexByte al r W)
      by_cases h2 : 0 ≤ Lib.indexByte al.data.toList r.toNat.toUInt8
      · have e : amg al.data.toList r = true := by simp [amg, h0, h1, h2]
        rw [e]
        generalize Lib.indexByte al.data.toList r.toNat.toUInt8 = q at *
        go_enter Tryz.func118, Tryz.ntmps118
        go_wp2_with fail
        refine (HI.out _).mono ?_
        rintro e w1 ⟨rfl, rfl⟩
        go_wp2_with fail
        go_ret
        exact ⟨rfl, rfl⟩
      · have e : amg al.data.toList r = false := by simp [amg, h2]
        have g2 : decide (0 ≤ Lib.indexByte al.data.toList r.toNat.toUInt8) = false := by simpa using h2
        rw [e]
        generalize Lib.indexByte al.data.toList r.toNat.toUInt8 = q at *
        go_enter Tryz.func118, Tryz.ntmps118
        go_wp2_with fail
        refine (HI.out _).mono ?_
        rintro e w1 ⟨rfl, rfl⟩
        go_wp2_with fail
        go_ret
        exact ⟨rfl, rfl⟩
    · have e : amg al.data.toList r = false := by simp [amg, h1]
      have g1 : decide (r < 128) = false := by simpa using h1
      rw [e]
      go_enter Tryz.func118, Tryz.ntmps118
      go_wp2_with fail
      go_ret
      exact ⟨rfl, rfl⟩
  · have e : amg al.data.toList r = false := by simp [amg, h0]
    have g0 : decide (0 ≤ r) = false := by simpa using h0
    rw [e]
    go_enter Tryz.func118, Tryz.ntmps118
    go_wp2_with fail
    go_ret
    exact ⟨rfl, rfl⟩

theorem one_any (r : Int) (w : World) : Calls Tryz.prog 115 #[.int .i64 r] w fun e w' => e = .returned (.slice (some ⟨w.heap.size, 0, none⟩) 1 1) ∧ ROwn w w' (.slice (some ⟨w.heap.size, 0, none⟩) 1 1) [(r, r)] := by
  go_enter Tryz.func115, Tryz.ntmps115
  go_wp2_with fail
  go_ret
  refine ⟨rfl, ⟨rfl, Or.inr ⟨w.heap.size, 1, _, rfl, Nat.le_refl _, heap_alloc_new w _, Nat.le_refl _, by unfold maxLen; decide, rfl, rfl⟩⟩, (Keeps.refl _ _).alloc _⟩
end Go.Proofs.YtpcbfmbpbegjgaaGreat
end
section
namespace Go.Proofs.YtpcbfmbpbegjgaaGreat
open Go.RowKit
set_option linter.unusedVariables false
set_option linter.unusedSimpArgs false
set_option maxRecDepth 100000

theorem ownsRow_keeps {S : Nat → Prop} {w w' : World} {base : Nat} {e : TypeId} {size : Nat} {v : Value} {n : Nat} {xs : List Value} (h : w.ownsRow base e size v n xs) (K : Keeps S w w') (hs : ∀ b, v.ownBlock = some b → ¬ S b) : w'.ownsRow base e size v n xs := by
  refine ⟨h.1, ?_⟩
  rcases h.2 with h0 | ⟨g, cap, cur, rfl, hg, hh, hr⟩
  · exact Or.inl h0
  · exact Or.inr ⟨g, cap, cur, rfl, hg, K.heap hh (hs g rfl), hr⟩
theorem own_fresh {w w' : World} {pb : Nat} {base : Nat} {e : TypeId} {size : Nat} {v : Value} {n : Nat} {xs : List Value} (h : w.ownsRow base e size v n xs) (K : Keeps (OnlyP pb) w w') (hb : pb < base) : w'.ownsRow base e size v n xs :=
  ownsRow_keeps h K (fun b hb' e => by have := ownBlock_base h b hb'; have e : b = pb := e; omega)

theorem one_u (r : Int) (w : World) : Calls Tryz.prog 115 #[.int .i64 r] w fun e w' => ∃ u, e = .returned u ∧ ROwn w w' u [(r, r)] :=
  (one_any r w).mono (fun e w1 h => ⟨_, h.1, h.2⟩)
def namedL (r : Int) : List (Int × Int) :=
  if r = 100 then [(48, 57)] else if r = 119 then [(48, 57), (65, 90), (95, 95), (97, 122)] else if r = 115 then [(9, 13), (32, 32)]
  else if r = 68 then [(0, 47), (58, 1114111)] else if r = 87 then [(0, 47), (58, 64), (91, 94), (96, 96), (123, 1114111)] else [(0, 8), (14, 31), (33, 1114111)]
def isNam (r : Int) : Prop := r = 100 ∨ r = 119 ∨ r = 115 ∨ r = 68 ∨ r = 87 ∨ r = 83
def sgL : List UInt8 := [46, 94, 36, 124, 40, 41, 91, 93, 123, 125, 42, 43, 63, 92]
def dwL : List UInt8 := [100, 119, 115, 68, 87, 83]
def npL : List UInt8 := [91, 93, 94, 45]
theorem amg_out (al : List UInt8) (r : Int) (h : ¬ (0 ≤ r ∧ r < 128)) : amg al r = false := by
  unfold amg
  rcases (by omega : r < 0 ∨ 0 ≤ r) with h0 | h0
  · rw [show decide (0 ≤ r) = false from by simpa using h0]; rfl
  · rw [show decide (r < 128) = false from by simp; omega]; simp
instance (r : Int) : Decidable (isNam r) := by unfold isNam; infer_instance
theorem amg_dw (r : Int) : amg dwL r = decide (isNam r) := by
  have key : ∀ c : Fin 128, amg dwL (c.val : Int) = decide (isNam (c.val : Int)) := of_decide_eq_true (by kernel_rfl)
  by_cases h : 0 ≤ r ∧ r < 128
  · have := key ⟨r.toNat, by omega⟩
    simpa [Int.toNat_of_nonneg h.1] using this
  · rw [amg_out _ _ h]; symm; simp only [decide_eq_false_iff_not]; unfold isNam; omega
theorem named_any (r : Int) (w : World) (h : isNam r) :
    Calls Tryz.prog 133 #[.int .u8 r] w fun e w' => ∃ u, e = .returned (.tuple #[u, .bool true]) ∧ ROwn w w' u (namedL r) ∧ (namedL r).length ≤ 5 := by
  rcases h with rfl | rfl | rfl | rfl | rfl | rfl
  · refine (setNamed_100 w).mono ?_
    rintro e w1 ⟨u, out, rfl, ho, hr, hl⟩
    obtain rfl : out = namedL 100 := norm_unique _ _ ho.1 (by simp [namedL, Norm]) (fun r => by
      rw [ho.2]; apply Bool.eq_iff_iff.2; simp [has, mem, inAll, namedL]; omega)
    exact ⟨u, rfl, hr, hl⟩
  · refine (setNamed_119 w).mono ?_
    rintro e w1 ⟨u, out, rfl, ho, hr, hl⟩
    obtain rfl : out = namedL 119 := norm_unique _ _ ho.1 (by simp [namedL, Norm]) (fun r => by
      rw [ho.2]; apply Bool.eq_iff_iff.2; simp [has, mem, inAll, namedL]; omega)
    exact ⟨u, rfl, hr, hl⟩
  · refine (setNamed_115 w).mono ?_
    rintro e w1 ⟨u, out, rfl, ho, hr, hl⟩
    obtain rfl : out = namedL 115 := norm_unique _ _ ho.1 (by simp [namedL, Norm]) (fun r => by
      rw [ho.2]; apply Bool.eq_iff_iff.2; simp [has, mem, inAll, namedL]; omega)
    exact ⟨u, rfl, hr, hl⟩
  · refine (setNamed_68 w).mono ?_
    rintro e w1 ⟨u, out, rfl, ho, hr, hl⟩
    obtain rfl : out = namedL 68 := norm_unique _ _ ho.1 (by simp [namedL, Norm]) (fun r => by
      rw [ho.2]; apply Bool.eq_iff_iff.2; simp [has, mem, inAll, namedL]; omega)
    exact ⟨u, rfl, hr, hl⟩
  · refine (setNamed_87 w).mono ?_
    rintro e w1 ⟨u, out, rfl, ho, hr, hl⟩
    obtain rfl : out = namedL 87 := norm_unique _ _ ho.1 (by simp [namedL, Norm]) (fun r => by
      rw [ho.2]; apply Bool.eq_iff_iff.2; simp [has, mem, inAll, namedL]; omega)
    exact ⟨u, rfl, hr, hl⟩
  · refine (setNamed_83 w).mono ?_
    rintro e w1 ⟨u, out, rfl, ho, hr, hl⟩
    obtain rfl : out = namedL 83 := norm_unique _ _ ho.1 (by simp [namedL, Norm]) (fun r => by
      rw [ho.2]; apply Bool.eq_iff_iff.2; simp [has, mem, inAll, namedL]; omega)
    exact ⟨u, rfl, hr, hl⟩

/-- What stands behind a backslash. -/
def escR (r : Int) : Int := if r = 110 then 10 else if r = 114 then 13 else if r = 116 then 9 else r
def escBad (r : Int) : Bool := !(decide (r = 110) || decide (r = 114) || decide (r = 116)) && (!amg sgL r && !decide (r = 45))
def escL (rs : List Int) (s : PS) : List (Int × Int) := if isNam (pk rs s) then namedL (pk rs s) else [(escR (pk rs s), escR (pk rs s))]
def escB (rs : List Int) (s : PS) : Bool := !decide (isNam (pk rs s))
def escS (rs : List Int) (s : PS) : PS :=
  if isNam (pk rs s) then nx rs s else ⟨s.pos + 1, s.deep, (nx rs s).bad || escBad (pk rs s)⟩

set_option maxHeartbeats 4000000 in
theorem escape_any (w : World) (pb : Nat) (rv : Value) (rs : List Int) (s : PS) (h : PaAt w pb rv rs s) (hp : s.pos + 1 ≤ 1000000) :
    Calls Tryz.prog 117 #[.pointer (some ⟨pb, 0, none⟩)] w fun e w' => ∃ u, e = .returned (.tuple #[u, .bool (escB rs s)]) ∧
      w'.ownsRow w.heap.size 87 2 u (escL rs s).length (cellsOf 2 encR (escL rs s)) ∧ PaAt w' pb rv rs (escS rs s) ∧ Keeps (OnlyP pb) w w' := by
  have hpb := h.lt
  have HN := Lib.hid (next_any w pb rv rs s h hp)
  have hr := pk_le h
  clear h
  by_cases hn : isNam (pk rs s)
  · have hL : Hid (escL rs s = namedL (pk rs s)) := Lib.hid (if_pos hn)
    have hB : Hid (escB rs s = false) := Lib.hid (by simp [escB, hn])
    have hS : Hid (escS rs s = nx rs s) := Lib.hid (if_pos hn)
    have hA : amg dwL (pk rs s) = true := by rw [amg_dw]; simpa using hn
    have HA := Lib.hid (fun W => among_any ⟨#[100, 119, 115, 68, 87, 83]⟩ (pk rs s) W)
    have hA2 : amg (#[100, 119, 115, 68, 87, 83] : Array UInt8).toList (pk rs s) = true := hA
    have HM := Lib.hid (fun W => named_any (pk rs s) W hn)
    have hw8 : IntKind.u8.wrap (pk rs s) = pk rs s := by rcases hn with e | e | e | e | e | e <;> rw [e] <;> rfl
    rw [hA2] at HA
    clear hA hA2 hn
    generalize pk rs s = r at *
    go_enter Tryz.func117, Tryz.ntmps117
    go_wp2_with fail
    refine HN.out.mono ?_
    rintro e w1 ⟨rfl, h1, k1⟩
    have H1 := Lib.hid h1
    have K1 := Lib.hid k1
    clear h1 k1
    go_wp2_with fail
    refine (HA.out _).mono ?_
    rintro e w2 ⟨rfl, rfl⟩
    go_wp2_with fail
    refine (HM.out _).mono ?_
    rintro e w3 ⟨u, rfl, hr3, hl3⟩
    have R3 := Lib.hid hr3
    clear hr3
    go_wp2_with fail
    go_ret2
    refine ⟨u, by rw [hB.out]; rfl, ?_, ?_, K1.out.trans (R3.out.2.mono (fun _ _ e => e.elim))⟩
    · rw [hL.out]; exact ownsRow_base R3.out.1 K1.out.size
    · rw [hS.out]; exact H1.out.keepsF R3.out.2
  · have hB : Hid (escB rs s = true) := Lib.hid (by simp [escB, hn])
    have hA2 : amg (#[100, 119, 115, 68, 87, 83] : Array UInt8).toList (pk rs s) = false := by
      show amg dwL _ = _
      rw [amg_dw]; simpa using hn
    have HA := Lib.hid (fun W => among_any ⟨#[100, 119, 115, 68, 87, 83]⟩ (pk rs s) W)
    have HG := Lib.hid (fun W => among_any ⟨#[46, 94, 36, 124, 40, 41, 91, 93, 123, 125, 42, 43, 63, 92]⟩ (pk rs s) W)
    rw [hA2] at HA
    have hL : Hid (escL rs s = [(escR (pk rs s), escR (pk rs s))]) := Lib.hid (if_neg hn)
    have hS : Hid (escS rs s = ⟨s.pos + 1, s.deep, (nx rs s).bad || escBad (pk rs s)⟩) := Lib.hid (if_neg hn)
    have hnx : Hid (nx rs s = ⟨s.pos + 1, s.deep, (nx rs s).bad⟩) := Lib.hid rfl
    generalize nx rs s = s1 at *
    generalize pk rs s = r at *
    clear hA2 hn
    by_cases h110 : r = 110
    · subst h110
      replace hS : Hid (escS rs s = s1) := Lib.hid (by rw [hS.out, hnx.out]; simp [escBad])
      replace hL : Hid (escL rs s = [(10, 10)]) := hL
      clear HG
      go_enter Tryz.func117, Tryz.ntmps117
      go_wp2_with fail
      refine HN.out.mono ?_
      rintro e w1 ⟨rfl, h1, k1⟩
      have c3 := h1.c3
      have f3 := h1.fr 3
      have hb1 := h1.lt
      have H1 := Lib.hid h1
      have K1 := Lib.hid k1
      clear h1 k1
      go_wp2_with fail
      refine (HA.out _).mono ?_
      rintro e w2 ⟨rfl, rfl⟩
      go_wp2_with fail
      refine (one_u _ _).mono ?_
      rintro e w3 ⟨u, rfl, hr3⟩
      have R3 := Lib.hid hr3
      clear hr3
      go_wp2_with fail
      go_ret2
      refine ⟨u, by rw [hB.out]; rfl, ?_, ?_, K1.out.trans (R3.out.2.mono (fun _ _ e => e.elim))⟩
      · rw [hL.out]; exact ownsRow_base R3.out.1 (K1.out.size)
      · rw [hS.out]; exact (H1.out).keepsF R3.out.2
    by_cases h114 : r = 114
    · subst h114
      replace hS : Hid (escS rs s = s1) := Lib.hid (by rw [hS.out, hnx.out]; simp [escBad])
      replace hL : Hid (escL rs s = [(13, 13)]) := hL
      clear HG
      go_enter Tryz.func117, Tryz.ntmps117
      go_wp2_with fail
      refine HN.out.mono ?_
      rintro e w1 ⟨rfl, h1, k1⟩
      have c3 := h1.c3
      have f3 := h1.fr 3
      have hb1 := h1.lt
      have H1 := Lib.hid h1
      have K1 := Lib.hid k1
      clear h1 k1
      go_wp2_with fail
      refine (HA.out _).mono ?_
      rintro e w2 ⟨rfl, rfl⟩
      go_wp2_with fail
      refine (one_u _ _).mono ?_
      rintro e w3 ⟨u, rfl, hr3⟩
      have R3 := Lib.hid hr3
      clear hr3
      go_wp2_with fail
      go_ret2
      refine ⟨u, by rw [hB.out]; rfl, ?_, ?_, K1.out.trans (R3.out.2.mono (fun _ _ e => e.elim))⟩
      · rw [hL.out]; exact ownsRow_base R3.out.1 (K1.out.size)
      · rw [hS.out]; exact (H1.out).keepsF R3.out.2
    by_cases h116 : r = 116
    · subst h116
      replace hS : Hid (escS rs s = s1) := Lib.hid (by rw [hS.out, hnx.out]; simp [escBad])
      replace hL : Hid (escL rs s = [(9, 9)]) := hL
      clear HG
      go_enter Tryz.func117, Tryz.ntmps117
      go_wp2_with fail
      refine HN.out.mono ?_
      rintro e w1 ⟨rfl, h1, k1⟩
      have c3 := h1.c3
      have f3 := h1.fr 3
      have hb1 := h1.lt
      have H1 := Lib.hid h1
      have K1 := Lib.hid k1
      clear h1 k1
      go_wp2_with fail
      refine (HA.out _).mono ?_
      rintro e w2 ⟨rfl, rfl⟩
      go_wp2_with fail
      refine (one_u _ _).mono ?_
      rintro e w3 ⟨u, rfl, hr3⟩
      have R3 := Lib.hid hr3
      clear hr3
      go_wp2_with fail
      go_ret2
      refine ⟨u, by rw [hB.out]; rfl, ?_, ?_, K1.out.trans (R3.out.2.mono (fun _ _ e => e.elim))⟩
      · rw [hL.out]; exact ownsRow_base R3.out.1 (K1.out.size)
      · rw [hS.out]; exact (H1.out).keepsF R3.out.2
    have hR : escR r = r := by unfold escR; rw [if_neg h110, if_neg h114, if_neg h116]
    have hBd : escBad r = (!amg sgL r && !decide (r = 45)) := by unfold escBad; simp [h110, h114, h116]
    rw [hR] at hL
    rw [hBd] at hS
    have HG' : Hid (∀ W, Calls Tryz.prog 118 #[.string ⟨#[46, 94, 36, 124, 40, 41, 91, 93, 123, 125, 42, 43, 63, 92]⟩, .int .i64 r] W fun e w' => e = .returned (.bool (amg sgL r)) ∧ W = w') := HG
    clear HG hR hBd
    have g110 : (r == 110) = false := by simpa using h110
    have g114 : (r == 114) = false := by simpa using h114
    have g116 : (r == 116) = false := by simpa using h116
    clear h110 h114 h116
    obtain ⟨bd, hbd⟩ : ∃ b, s1.bad = b := ⟨_, rfl⟩
    have Hbd := Lib.hid hbd
    rw [hbd] at hS
    clear hbd
    cases bd with
    | true =>
      replace hS : Hid (escS rs s = ⟨s.pos + 1, s.deep, true⟩) := Lib.hid (by rw [hS.out]; rfl)
      go_enter Tryz.func117, Tryz.ntmps117
      go_wp2_with fail
      refine HN.out.mono ?_
      rintro e w1 ⟨rfl, h1, k1⟩
      have c3 := h1.c3
      have f3 := h1.fr 3
      rw [Hbd.out] at c3
      have hb1 := h1.lt
      have H1 := Lib.hid h1
      have K1 := Lib.hid k1
      clear h1 k1
      go_wp2_with fail
      refine (HA.out _).mono ?_
      rintro e w2 ⟨rfl, rfl⟩
      have H2 : Hid (PaAt (w1.setCell ⟨pb, 3, none⟩ (.bool true)) pb rv rs ⟨s.pos + 1, s.deep, true⟩) := by have := H1.out.setBad true; rw [hnx.out] at this; exact Lib.hid this
      go_wp2_with fail
      refine (one_u _ _).mono ?_
      rintro e w3 ⟨u, rfl, hr3⟩
      have R3 := Lib.hid hr3
      clear hr3
      go_wp2_with fail
      go_ret2
      refine ⟨u, by rw [hB.out]; rfl, ?_, ?_, (K1.out.set (p := ⟨pb, 3, none⟩) rfl (.bool true)).trans (R3.out.2.mono (fun _ _ e => e.elim))⟩
      · rw [hL.out]; exact ownsRow_base R3.out.1 ((K1.out.set (p := ⟨pb, 3, none⟩) rfl (.bool true)).size)
      · rw [hS.out]; exact (H2.out).keepsF R3.out.2
    | false =>
      cases hq : amg sgL r with
      | true =>
        rw [hq] at HG'
        replace hS : Hid (escS rs s = ⟨s.pos + 1, s.deep, false⟩) := Lib.hid (by rw [hS.out, hq]; rfl)
        go_enter Tryz.func117, Tryz.ntmps117
        go_wp2_with fail
        refine HN.out.mono ?_
        rintro e w1 ⟨rfl, h1, k1⟩
        have c3 := h1.c3
        have f3 := h1.fr 3
        rw [Hbd.out] at c3
        have hb1 := h1.lt
        have H1 := Lib.hid h1
        have K1 := Lib.hid k1
        clear h1 k1
        go_wp2_with fail
        refine (HA.out _).mono ?_
        rintro e w2 ⟨rfl, rfl⟩
        have H2 : Hid (PaAt (w1.setCell ⟨pb, 3, none⟩ (.bool false)) pb rv rs ⟨s.pos + 1, s.deep, false⟩) := by have := H1.out.setBad false; rw [hnx.out] at this; exact Lib.hid this
        go_wp2_with fail
        refine (HG'.out _).mono ?_
        rintro e w2 ⟨rfl, rfl⟩
        go_wp2_with fail
        refine (one_u _ _).mono ?_
        rintro e w3 ⟨u, rfl, hr3⟩
        have R3 := Lib.hid hr3
        clear hr3
        go_wp2_with fail
        go_ret2
        refine ⟨u, by rw [hB.out]; rfl, ?_, ?_, (K1.out.set (p := ⟨pb, 3, none⟩) rfl (.bool false)).trans (R3.out.2.mono (fun _ _ e => e.elim))⟩
        · rw [hL.out]; exact ownsRow_base R3.out.1 ((K1.out.set (p := ⟨pb, 3, none⟩) rfl (.bool false)).size)
        · rw [hS.out]; exact (H2.out).keepsF R3.out.2
      | false =>
        rw [hq] at HG'
        by_cases h45 : r = 45
        · replace hS : Hid (escS rs s = ⟨s.pos + 1, s.deep, false⟩) := Lib.hid (by rw [hS.out, hq]; simp [h45])
          subst h45
          go_enter Tryz.func117, Tryz.ntmps117
          go_wp2_with fail
          refine HN.out.mono ?_
          rintro e w1 ⟨rfl, h1, k1⟩
          have c3 := h1.c3
          have f3 := h1.fr 3
          rw [Hbd.out] at c3
          have hb1 := h1.lt
          have H1 := Lib.hid h1
          have K1 := Lib.hid k1
          clear h1 k1
          go_wp2_with fail
          refine (HA.out _).mono ?_
          rintro e w2 ⟨rfl, rfl⟩
          have H2 : Hid (PaAt (w1.setCell ⟨pb, 3, none⟩ (.bool false)) pb rv rs ⟨s.pos + 1, s.deep, false⟩) := by have := H1.out.setBad false; rw [hnx.out] at this; exact Lib.hid this
          go_wp2_with fail
          refine (HG'.out _).mono ?_
          rintro e w2 ⟨rfl, rfl⟩
          go_wp2_with fail
          refine (one_u _ _).mono ?_
          rintro e w3 ⟨u, rfl, hr3⟩
          have R3 := Lib.hid hr3
          clear hr3
          go_wp2_with fail
          go_ret2
          refine ⟨u, by rw [hB.out]; rfl, ?_, ?_, (K1.out.set (p := ⟨pb, 3, none⟩) rfl (.bool false)).trans (R3.out.2.mono (fun _ _ e => e.elim))⟩
          · rw [hL.out]; exact ownsRow_base R3.out.1 ((K1.out.set (p := ⟨pb, 3, none⟩) rfl (.bool false)).size)
          · rw [hS.out]; exact (H2.out).keepsF R3.out.2
        · replace hS : Hid (escS rs s = ⟨s.pos + 1, s.deep, true⟩) := Lib.hid (by rw [hS.out, hq]; simp [h45])
          have g45 : (r != 45) = true := by simp only [bne_iff_ne, ne_eq]; exact h45
          clear h45
          go_enter Tryz.func117, Tryz.ntmps117
          go_wp2_with fail
          refine HN.out.mono ?_
          rintro e w1 ⟨rfl, h1, k1⟩
          have c3 := h1.c3
          have f3 := h1.fr 3
          rw [Hbd.out] at c3
          have hb1 := h1.lt
          have H1 := Lib.hid h1
          have K1 := Lib.hid k1
          clear h1 k1
          go_wp2_with fail
          refine (HA.out _).mono ?_
          rintro e w2 ⟨rfl, rfl⟩
          have H2 : Hid (PaAt (w1.setCell ⟨pb, 3, none⟩ (.bool true)) pb rv rs ⟨s.pos + 1, s.deep, true⟩) := by have := H1.out.setBad true; rw [hnx.out] at this; exact Lib.hid this
          go_wp2_with fail
          refine (HG'.out _).mono ?_
          rintro e w2 ⟨rfl, rfl⟩
          go_wp2_with fail
          refine (one_u _ _).mono ?_
          rintro e w3 ⟨u, rfl, hr3⟩
          have R3 := Lib.hid hr3
          clear hr3
          go_wp2_with fail
          go_ret2
          refine ⟨u, by rw [hB.out]; rfl, ?_, ?_, (K1.out.set (p := ⟨pb, 3, none⟩) rfl (.bool true)).trans (R3.out.2.mono (fun _ _ e => e.elim))⟩
          · rw [hL.out]; exact ownsRow_base R3.out.1 ((K1.out.set (p := ⟨pb, 3, none⟩) rfl (.bool true)).size)
          · rw [hS.out]; exact (H2.out).keepsF R3.out.2

/-- The part's end. -/
def ptL (rs : List Int) (s : PS) : List (Int × Int) := if pk rs s = 92 then escL rs (nx rs s) else [(pk rs s, pk rs s)]
def ptB (rs : List Int) (s : PS) : Bool := if pk rs s = 92 then escB rs (nx rs s) else true
def ptS (rs : List Int) (s : PS) : PS := if pk rs s = 92 then escS rs (nx rs s) else ⟨s.pos + 1, s.deep, (nx rs s).bad || amg npL (pk rs s)⟩

set_option maxHeartbeats 4000000 in
theorem point_any (w : World) (pb : Nat) (rv : Value) (rs : List Int) (s : PS) (h : PaAt w pb rv rs s) (hp : s.pos + 2 ≤ 1000000) :
    Calls Tryz.prog 132 #[.pointer (some ⟨pb, 0, none⟩)] w fun e w' => ∃ u, e = .returned (.tuple #[u, .bool (ptB rs s)]) ∧
      w'.ownsRow w.heap.size 87 2 u (ptL rs s).length (cellsOf 2 encR (ptL rs s)) ∧ PaAt w' pb rv rs (ptS rs s) ∧ Keeps (OnlyP pb) w w' := by
  have hpb := h.lt
  have HN := Lib.hid (next_any w pb rv rs s h (by omega))
  clear h
  have hnp : (nx rs s).pos + 1 ≤ 1000000 := by show s.pos + 1 + 1 ≤ 1000000; omega
  by_cases hn : pk rs s = 92
  · have hL : Hid (ptL rs s = escL rs (nx rs s)) := Lib.hid (if_pos hn)
    have hB : Hid (ptB rs s = escB rs (nx rs s)) := Lib.hid (if_pos hn)
    have hS : Hid (ptS rs s = escS rs (nx rs s)) := Lib.hid (if_pos hn)
    rw [hn] at HN
    clear hn
    go_enter Tryz.func132, Tryz.ntmps132
    go_wp2_with fail
    refine HN.out.mono ?_
    rintro e w1 ⟨rfl, h1, k1⟩
    have H1 := Lib.hid h1
    have K1 := Lib.hid k1
    clear h1 k1
    go_wp2_with fail
    refine (escape_any _ _ _ _ _ H1.out hnp).mono ?_
    rintro e w2 ⟨u, rfl, ho2, h2, k2⟩
    have R2 := Lib.hid ho2
    have H2 := Lib.hid h2
    have K2 := Lib.hid k2
    clear ho2 h2 k2
    go_wp2_with fail
    go_ret2
    exact ⟨u, by rw [hB.out]; rfl, by rw [hL.out]; exact ownsRow_base R2.out K1.out.size, by rw [hS.out]; exact H2.out, K1.out.trans K2.out⟩
  · have hL : Hid (ptL rs s = [(pk rs s, pk rs s)]) := Lib.hid (if_neg hn)
    have hB : Hid (ptB rs s = true) := Lib.hid (if_neg hn)
    have hS : Hid (ptS rs s = ⟨s.pos + 1, s.deep, (nx rs s).bad || amg npL (pk rs s)⟩) := Lib.hid (if_neg hn)
    have hnx : Hid (nx rs s = ⟨s.pos + 1, s.deep, (nx rs s).bad⟩) := Lib.hid rfl
    have HG : Hid (∀ W, Calls Tryz.prog 118 #[.string ⟨#[91, 93, 94, 45]⟩, .int .i64 (pk rs s)] W fun e w' => e = .returned (.bool (amg npL (pk rs s))) ∧ W = w') := Lib.hid (fun W => among_any ⟨#[91, 93, 94, 45]⟩ (pk rs s) W)
    generalize nx rs s = s1 at *
    generalize pk rs s = r at *
    obtain ⟨bd, hbd⟩ : ∃ b, s1.bad = b := ⟨_, rfl⟩
    have Hbd := Lib.hid hbd
    rw [hbd] at hS
    clear hbd
    cases bd with
    | true =>
      replace hS : Hid (ptS rs s = ⟨s.pos + 1, s.deep, true⟩) := Lib.hid (by rw [hS.out]; rfl)
      go_enter Tryz.func132, Tryz.ntmps132
      go_wp2_with fail
      refine HN.out.mono ?_
      rintro e w1 ⟨rfl, h1, k1⟩
      have c3 := h1.c3
      have f3 := h1.fr 3
      rw [Hbd.out] at c3
      have hb1 := h1.lt
      have H1 := Lib.hid h1
      have K1 := Lib.hid k1
      clear h1 k1
      have H2 : Hid (PaAt (w1.setCell ⟨pb, 3, none⟩ (.bool true)) pb rv rs ⟨s.pos + 1, s.deep, true⟩) := by have := H1.out.setBad true; rw [hnx.out] at this; exact Lib.hid this
      go_wp2_with fail
      refine (one_u _ _).mono ?_
      rintro e w3 ⟨u, rfl, hr3⟩
      have R3 := Lib.hid hr3
      clear hr3
      go_wp2_with fail
      go_ret2
      refine ⟨u, by rw [hB.out]; rfl, ?_, ?_, (K1.out.set (p := ⟨pb, 3, none⟩) rfl (.bool true)).trans (R3.out.2.mono (fun _ _ e => e.elim))⟩
      · rw [hL.out]; exact ownsRow_base R3.out.1 (K1.out.set (p := ⟨pb, 3, none⟩) rfl (.bool true)).size
      · rw [hS.out]; exact H2.out.keepsF R3.out.2
    | false =>
      generalize amg npL r = q at *
      replace hS : Hid (ptS rs s = ⟨s.pos + 1, s.deep, q⟩) := Lib.hid (by rw [hS.out]; rfl)
      go_enter Tryz.func132, Tryz.ntmps132
      go_wp2_with fail
      refine HN.out.mono ?_
      rintro e w1 ⟨rfl, h1, k1⟩
      have c3 := h1.c3
      have f3 := h1.fr 3
      rw [Hbd.out] at c3
      have hb1 := h1.lt
      have H1 := Lib.hid h1
      have K1 := Lib.hid k1
      clear h1 k1
      have H2 : Hid (PaAt (w1.setCell ⟨pb, 3, none⟩ (.bool q)) pb rv rs ⟨s.pos + 1, s.deep, q⟩) := by have := H1.out.setBad q; rw [hnx.out] at this; exact Lib.hid this
      go_wp2_with fail
      refine (HG.out _).mono ?_
      rintro e w2 ⟨rfl, rfl⟩
      go_wp2_with fail
      refine (one_u _ _).mono ?_
      rintro e w3 ⟨u, rfl, hr3⟩
      have R3 := Lib.hid hr3
      clear hr3
      go_wp2_with fail
      go_ret2
      refine ⟨u, by rw [hB.out]; rfl, ?_, ?_, (K1.out.set (p := ⟨pb, 3, none⟩) rfl (.bool q)).trans (R3.out.2.mono (fun _ _ e => e.elim))⟩
      · rw [hL.out]; exact ownsRow_base R3.out.1 (K1.out.set (p := ⟨pb, 3, none⟩) rfl (.bool q)).size
      · rw [hS.out]; exact H2.out.keepsF R3.out.2
end Go.Proofs.YtpcbfmbpbegjgaaGreat
end
