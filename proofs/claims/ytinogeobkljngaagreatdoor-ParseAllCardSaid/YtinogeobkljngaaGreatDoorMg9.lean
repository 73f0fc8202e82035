/-
  Several texts in one: The walk of set.Named. parse.among, parse.one.
-/
import Derived.Test.YtinogeobkljngaaGreatDoorMg8
import Derived.Test.YtinogeobkljngaaGreatDoorMg5
import Derived.Test.YtinogeobkljngaaGreatDoorShelf
section
namespace Go.Proofs.YtinogeobkljngaaGreatDoor
open Go.RowKit
set_option linter.unusedVariables false
set_option linter.unusedSimpArgs false
set_option maxRecDepth 100000

theorem bits_other : ∀ c : Fin 256, okN (c.val : Int) = false → (bits BinOp.or IntKind.u8 (c.val : Int) 32 == 119) = false ∧ (bits BinOp.or IntKind.u8 (c.val : Int) 32 == 100) = false ∧ (bits BinOp.or IntKind.u8 (c.val : Int) 32 == 115) = false := of_decide_eq_true (by kernel_rfl)
theorem setNamed_other (c : Int) (w : World) (h0 : 0 ≤ c) (h1 : c ≤ 255) (hn : okN c = false) :
    Calls Tryz.prog 77 #[.int .u8 c] w fun e w' => e = .returned (.tuple #[.slice none 0 0, .bool false]) ∧ w' = w := by
  obtain ⟨b1, b2, b3⟩ := bits_other ⟨c.toNat, by omega⟩ (by simpa [Int.toNat_of_nonneg h0] using hn)
  simp only [Int.toNat_of_nonneg h0] at b1 b2 b3
  go_enter Tryz.func77, Tryz.ntmps77
  go_wp2_with fail
  go_ret2
  exact ⟨rfl, rfl⟩

set_option maxHeartbeats 2000000 in
theorem setNamed_119 (w : World) :
    Calls Tryz.prog 77 #[.int .u8 119] w fun e w' => ∃ u out, e = .returned (.tuple #[u, .bool true]) ∧ IsOf [(65, 90), (97, 122), (95, 95), (48, 57)] out ∧ ROwn w w' u out ∧ out.length ≤ 5 := by
  obtain ⟨i0, hi, hz0, hz1, hz2⟩ := info_parts info_range
  have hb : bits BinOp.or IntKind.u8 119 32 = 119 := by kernel_rfl
  go_enter Tryz.func77, Tryz.ntmps77
  go_wp2_with (at_builtin; refine wpList_append_own _ rfl (.tmp 13) (.tmp 17) 23 rfl w.heap.size 61 i0 _ 2 16 Tryz.underlying23 hi hz0 hz1 hz2 rfl (by decide) (.slice none 0 0) 0 [] rfl (World.ownsRow_nil _ _ _ _) ⟨w.heap.size, 0, none⟩ 3 3 [.int .i64 65, .int .i64 90, .int .i64 97, .int .i64 122, .int .i64 95, .int .i64 95] rfl rfl (by exact cells_new _ [_, _, _, _, _, _] _) ?c2 ?c3 ?c4 ?c5 ?_)
  case c2 => first | (intro u hu; simp at hu; rcases hu with rfl | rfl | rfl | rfl | rfl | rfl <;> rfl) | exact ⟨rfl, rfl, rfl, rfl, rfl, rfl⟩
  case c3 => unfold maxLen; omega
  case c4 => omega
  case c5 => simp
  intro v' w2 hown' hgrow' _
  have hk : Keeps (fun _ => False) w w2 := ((Keeps.refl _ _).alloc _).grown hgrow' (fun b hb => by cases hb)
  have ho3 : w2.ownsRow w.heap.size 61 2 v' 3 (cellsOf 2 encR [(65, 90), (97, 122), (95, 95)]) := by simpa [cellsOf, encR, List.range_succ] using hown'
  have hsz := hk.size
  obtain ⟨va, vc, rfl⟩ := ownsRow_slice ho3
  clear hown' hgrow'
  go_wp2_with (at_builtin; refine wpList_append_own _ rfl (.tmp 19) (.tmp 21) 23 rfl w.heap.size 61 i0 _ 2 16 Tryz.underlying23 hi hz0 hz1 hz2 rfl (by decide) _ 3 _ rfl (ownsRow_alloc ho3 _) ⟨w2.heap.size, 0, none⟩ 1 1 [.int .i64 48, .int .i64 57] rfl rfl (by exact cells_new _ [_, _] _) ?d2 ?d3 ?d4 ?d5 ?_)
  case d2 => first | (intro u hu; simp at hu; rcases hu with rfl | rfl <;> rfl) | exact ⟨rfl, rfl⟩
  case d3 => unfold maxLen; omega
  case d4 => omega
  case d5 => simp; omega
  intro v'' w2' hown'' hgrow'' _
  have hr : RSl w2' v'' [(65, 90), (97, 122), (95, 95), (48, 57)] := ⟨SlOf.ofOwn (by simpa [cellsOf, encR, List.range_succ] using hown'') (by simp), by simp [in64]⟩
  have hk : Keeps (fun _ => False) w w2' := (hk.alloc _).grown hgrow'' (fun b hb => Or.inr (ownBlock_base ho3 b hb))
  clear hown'' hgrow'' ho3
  go_wp2_with fail
  refine (of_walk [(65, 90), (97, 122), (95, 95), (48, 57)] _ _ hr (by simp)).mono ?_
  rintro e w3 ⟨u, out, rfl, hof, hown, hlo⟩
  simp only [List.length_cons, List.length_nil] at hlo
  go_wp2_with fail
  go_ret2
  exact ⟨u, out, rfl, hof, ⟨ownsRow_base hown.1 hk.size, hk.trans hown.2⟩, by omega⟩

set_option maxHeartbeats 2000000 in
theorem setNamed_100 (w : World) :
    Calls Tryz.prog 77 #[.int .u8 100] w fun e w' => ∃ u out, e = .returned (.tuple #[u, .bool true]) ∧ IsOf [(48, 57)] out ∧ ROwn w w' u out ∧ out.length ≤ 5 := by
  obtain ⟨i0, hi, hz0, hz1, hz2⟩ := info_parts info_range
  have hb : bits BinOp.or IntKind.u8 100 32 = 100 := by kernel_rfl
  go_enter Tryz.func77, Tryz.ntmps77
  go_wp2_with (at_builtin; refine wpList_append_own _ rfl (.tmp 19) (.tmp 21) 23 rfl w.heap.size 61 i0 _ 2 16 Tryz.underlying23 hi hz0 hz1 hz2 rfl (by decide) (.slice none 0 0) 0 [] rfl (World.ownsRow_nil _ _ _ _) ⟨w.heap.size, 0, none⟩ 1 1 [.int .i64 48, .int .i64 57] rfl rfl (by exact cells_new _ [_, _] _) ?c2 ?c3 ?c4 ?c5 ?_)
  case c2 => first | (intro u hu; simp at hu; rcases hu with rfl | rfl <;> rfl) | exact ⟨rfl, rfl⟩
  case c3 => unfold maxLen; omega
  case c4 => omega
  case c5 => simp
  intro v' w2 hown' hgrow' _
  have hr : RSl w2 v' [(48, 57)] := ⟨SlOf.ofOwn (by simpa [cellsOf, encR, List.range_succ] using hown') (by simp), by simp [in64]⟩
  have hk : Keeps (fun _ => False) w w2 := ((Keeps.refl _ _).alloc _).grown hgrow' (fun b hb => by cases hb)
  clear hown' hgrow'
  go_wp2_with fail
  refine (of_walk [(48, 57)] _ _ hr (by simp)).mono ?_
  rintro e w3 ⟨u, out, rfl, hof, hown, hlo⟩
  simp only [List.length_cons, List.length_nil] at hlo
  go_wp2_with fail
  go_ret2
  exact ⟨u, out, rfl, hof, ⟨ownsRow_base hown.1 hk.size, hk.trans hown.2⟩, by omega⟩

set_option maxHeartbeats 2000000 in
theorem setNamed_115 (w : World) :
    Calls Tryz.prog 77 #[.int .u8 115] w fun e w' => ∃ u out, e = .returned (.tuple #[u, .bool true]) ∧ IsOf [(9, 13), (32, 32)] out ∧ ROwn w w' u out ∧ out.length ≤ 5 := by
  obtain ⟨i0, hi, hz0, hz1, hz2⟩ := info_parts info_range
  have hb : bits BinOp.or IntKind.u8 115 32 = 115 := by kernel_rfl
  go_enter Tryz.func77, Tryz.ntmps77
  go_wp2_with (at_builtin; refine wpList_append_own _ rfl (.tmp 23) (.tmp 26) 23 rfl w.heap.size 61 i0 _ 2 16 Tryz.underlying23 hi hz0 hz1 hz2 rfl (by decide) (.slice none 0 0) 0 [] rfl (World.ownsRow_nil _ _ _ _) ⟨w.heap.size, 0, none⟩ 2 2 [.int .i64 9, .int .i64 13, .int .i64 32, .int .i64 32] rfl rfl (by exact cells_new _ [_, _, _, _] _) ?c2 ?c3 ?c4 ?c5 ?_)
  case c2 => first | (intro u hu; simp at hu; rcases hu with rfl | rfl | rfl | rfl <;> rfl) | exact ⟨rfl, rfl, rfl, rfl⟩
  case c3 => unfold maxLen; omega
  case c4 => omega
  case c5 => simp
  intro v' w2 hown' hgrow' _
  have hr : RSl w2 v' [(9, 13), (32, 32)] := ⟨SlOf.ofOwn (by simpa [cellsOf, encR, List.range_succ] using hown') (by simp), by simp [in64]⟩
  have hk : Keeps (fun _ => False) w w2 := ((Keeps.refl _ _).alloc _).grown hgrow' (fun b hb => by cases hb)
  clear hown' hgrow'
  go_wp2_with fail
  refine (of_walk [(9, 13), (32, 32)] _ _ hr (by simp)).mono ?_
  rintro e w3 ⟨u, out, rfl, hof, hown, hlo⟩
  simp only [List.length_cons, List.length_nil] at hlo
  go_wp2_with fail
  go_ret2
  exact ⟨u, out, rfl, hof, ⟨ownsRow_base hown.1 hk.size, hk.trans hown.2⟩, by omega⟩

set_option maxHeartbeats 2000000 in
theorem setNamed_87 (w : World) :
    Calls Tryz.prog 77 #[.int .u8 87] w fun e w' => ∃ u out, e = .returned (.tuple #[u, .bool true]) ∧ IsNot [(65, 90), (97, 122), (95, 95), (48, 57)] out ∧ ROwn w w' u out ∧ out.length ≤ 5 := by
  obtain ⟨i0, hi, hz0, hz1, hz2⟩ := info_parts info_range
  have hb : bits BinOp.or IntKind.u8 87 32 = 119 := by kernel_rfl
  go_enter Tryz.func77, Tryz.ntmps77
  go_wp2_with (at_builtin; refine wpList_append_own _ rfl (.tmp 13) (.tmp 17) 23 rfl w.heap.size 61 i0 _ 2 16 Tryz.underlying23 hi hz0 hz1 hz2 rfl (by decide) (.slice none 0 0) 0 [] rfl (World.ownsRow_nil _ _ _ _) ⟨w.heap.size, 0, none⟩ 3 3 [.int .i64 65, .int .i64 90, .int .i64 97, .int .i64 122, .int .i64 95, .int .i64 95] rfl rfl (by exact cells_new _ [_, _, _, _, _, _] _) ?c2 ?c3 ?c4 ?c5 ?_)
  case c2 => first | (intro u hu; simp at hu; rcases hu with rfl | rfl | rfl | rfl | rfl | rfl <;> rfl) | exact ⟨rfl, rfl, rfl, rfl, rfl, rfl⟩
  case c3 => unfold maxLen; omega
  case c4 => omega
  case c5 => simp
  intro v' w2 hown' hgrow' _
  have hk : Keeps (fun _ => False) w w2 := ((Keeps.refl _ _).alloc _).grown hgrow' (fun b hb => by cases hb)
  have ho3 : w2.ownsRow w.heap.size 61 2 v' 3 (cellsOf 2 encR [(65, 90), (97, 122), (95, 95)]) := by simpa [cellsOf, encR, List.range_succ] using hown'
  have hsz := hk.size
  obtain ⟨va, vc, rfl⟩ := ownsRow_slice ho3
  clear hown' hgrow'
  go_wp2_with (at_builtin; refine wpList_append_own _ rfl (.tmp 19) (.tmp 21) 23 rfl w.heap.size 61 i0 _ 2 16 Tryz.underlying23 hi hz0 hz1 hz2 rfl (by decide) _ 3 _ rfl (ownsRow_alloc ho3 _) ⟨w2.heap.size, 0, none⟩ 1 1 [.int .i64 48, .int .i64 57] rfl rfl (by exact cells_new _ [_, _] _) ?d2 ?d3 ?d4 ?d5 ?_)
  case d2 => first | (intro u hu; simp at hu; rcases hu with rfl | rfl <;> rfl) | exact ⟨rfl, rfl⟩
  case d3 => unfold maxLen; omega
  case d4 => omega
  case d5 => simp; omega
  intro v'' w2' hown'' hgrow'' _
  have hr : RSl w2' v'' [(65, 90), (97, 122), (95, 95), (48, 57)] := ⟨SlOf.ofOwn (by simpa [cellsOf, encR, List.range_succ] using hown'') (by simp), by simp [in64]⟩
  have hk : Keeps (fun _ => False) w w2' := (hk.alloc _).grown hgrow'' (fun b hb => Or.inr (ownBlock_base ho3 b hb))
  clear hown'' hgrow'' ho3
  go_wp2_with fail
  refine (not_any [(65, 90), (97, 122), (95, 95), (48, 57)] _ _ hr (by simp)).mono ?_
  rintro e w3 ⟨u, out, rfl, hof, hown, hlo⟩
  simp only [List.length_cons, List.length_nil] at hlo
  go_wp2_with fail
  go_ret2
  exact ⟨u, out, rfl, hof, ⟨ownsRow_base hown.1 hk.size, hk.trans hown.2⟩, by omega⟩

set_option maxHeartbeats 2000000 in
theorem setNamed_68 (w : World) :
    Calls Tryz.prog 77 #[.int .u8 68] w fun e w' => ∃ u out, e = .returned (.tuple #[u, .bool true]) ∧ IsNot [(48, 57)] out ∧ ROwn w w' u out ∧ out.length ≤ 5 := by
  obtain ⟨i0, hi, hz0, hz1, hz2⟩ := info_parts info_range
  have hb : bits BinOp.or IntKind.u8 68 32 = 100 := by kernel_rfl
  go_enter Tryz.func77, Tryz.ntmps77
  go_wp2_with (at_builtin; refine wpList_append_own _ rfl (.tmp 19) (.tmp 21) 23 rfl w.heap.size 61 i0 _ 2 16 Tryz.underlying23 hi hz0 hz1 hz2 rfl (by decide) (.slice none 0 0) 0 [] rfl (World.ownsRow_nil _ _ _ _) ⟨w.heap.size, 0, none⟩ 1 1 [.int .i64 48, .int .i64 57] rfl rfl (by exact cells_new _ [_, _] _) ?c2 ?c3 ?c4 ?c5 ?_)
  case c2 => first | (intro u hu; simp at hu; rcases hu with rfl | rfl <;> rfl) | exact ⟨rfl, rfl⟩
  case c3 => unfold maxLen; omega
  case c4 => omega
  case c5 => simp
  intro v' w2 hown' hgrow' _
  have hr : RSl w2 v' [(48, 57)] := ⟨SlOf.ofOwn (by simpa [cellsOf, encR, List.range_succ] using hown') (by simp), by simp [in64]⟩
  have hk : Keeps (fun _ => False) w w2 := ((Keeps.refl _ _).alloc _).grown hgrow' (fun b hb => by cases hb)
  clear hown' hgrow'
  go_wp2_with fail
  refine (not_any [(48, 57)] _ _ hr (by simp)).mono ?_
  rintro e w3 ⟨u, out, rfl, hof, hown, hlo⟩
  simp only [List.length_cons, List.length_nil] at hlo
  go_wp2_with fail
  go_ret2
  exact ⟨u, out, rfl, hof, ⟨ownsRow_base hown.1 hk.size, hk.trans hown.2⟩, by omega⟩

set_option maxHeartbeats 2000000 in
theorem setNamed_83 (w : World) :
    Calls Tryz.prog 77 #[.int .u8 83] w fun e w' => ∃ u out, e = .returned (.tuple #[u, .bool true]) ∧ IsNot [(9, 13), (32, 32)] out ∧ ROwn w w' u out ∧ out.length ≤ 5 := by
  obtain ⟨i0, hi, hz0, hz1, hz2⟩ := info_parts info_range
  have hb : bits BinOp.or IntKind.u8 83 32 = 115 := by kernel_rfl
  go_enter Tryz.func77, Tryz.ntmps77
  go_wp2_with (at_builtin; refine wpList_append_own _ rfl (.tmp 23) (.tmp 26) 23 rfl w.heap.size 61 i0 _ 2 16 Tryz.underlying23 hi hz0 hz1 hz2 rfl (by decide) (.slice none 0 0) 0 [] rfl (World.ownsRow_nil _ _ _ _) ⟨w.heap.size, 0, none⟩ 2 2 [.int .i64 9, .int .i64 13, .int .i64 32, .int .i64 32] rfl rfl (by exact cells_new _ [_, _, _, _] _) ?c2 ?c3 ?c4 ?c5 ?_)
  case c2 => first | (intro u hu; simp at hu; rcases hu with rfl | rfl | rfl | rfl <;> rfl) | exact ⟨rfl, rfl, rfl, rfl⟩
  case c3 => unfold maxLen; omega
  case c4 => omega
  case c5 => simp
  intro v' w2 hown' hgrow' _
  have hr : RSl w2 v' [(9, 13), (32, 32)] := ⟨SlOf.ofOwn (by simpa [cellsOf, encR, List.range_succ] using hown') (by simp), by simp [in64]⟩
  have hk : Keeps (fun _ => False) w w2 := ((Keeps.refl _ _).alloc _).grown hgrow' (fun b hb => by cases hb)
  clear hown' hgrow'
  go_wp2_with fail
  refine (not_any [(9, 13), (32, 32)] _ _ hr (by simp)).mono ?_
  rintro e w3 ⟨u, out, rfl, hof, hown, hlo⟩
  simp only [List.length_cons, List.length_nil] at hlo
  go_wp2_with fail
  go_ret2
  exact ⟨u, out, rfl, hof, ⟨ownsRow_base hown.1 hk.size, hk.trans hown.2⟩, by omega⟩
end Go.Proofs.YtinogeobkljngaaGreatDoor
end
section
namespace Go.Proofs.YtinogeobkljngaaGreatDoor
open Go.RowKit
set_option linter.unusedVariables false
set_option linter.unusedSimpArgs false
set_option maxRecDepth 100000

/-- Is a code point one of an alphabet? -/
def amg (al : List UInt8) (r : Int) : Bool := decide (0 ≤ r) && decide (r < 128) && decide (0 ≤ Lib.indexByte al r.toNat.toUInt8)

theorem among_any (al : ByteArray) (r : Int) (w : World) : Calls Tryz.prog 66 #[.string al, .int .i64 r] w fun e w' => e = .returned (.bool (amg al.data.toList r)) ∧ w = w' := by
  by_cases h0 : 0 ≤ r
  · have g0 : decide (0 ≤ r) = true := by simpa using h0
    by_cases h1 : r < 128
    · have g1 : decide (r < 128) = true := by simpa using h1
      have HI := Lib.hid (fun W => Tryz.strings_IndexByte al r W)
      by_cases h2 : 0 ≤ Lib.indexByte al.data.toList r.toNat.toUInt8
      · have e : amg al.data.toList r = true := by simp [amg, h0, h1, h2]
        rw [e]
        generalize Lib.indexByte al.data.toList r.toNat.toUInt8 = q at *
        go_enter Tryz.func66, Tryz.ntmps66
        go_wp2_with fail
        refine (HI.out _).mono ?_
        rintro e w1 ⟨rfl, rfl⟩
        go_wp2_with fail
        go_ret
        exact ⟨rfl, rfl⟩
      · have e : amg al.data.toList r = false := by simp [amg, h2]
        have g2 : decide (0 ≤ Lib.indexByte al.data.toList r.toNat.toUInt8) = false := by simpa using h2
        rw [e]
        generalize Lib.indexByte al.data.toList r.toNat.toUInt8 = q at *
        go_enter Tryz.func66, Tryz.ntmps66
        go_wp2_with fail
        refine (HI.out _).mono ?_
        rintro e w1 ⟨rfl, rfl⟩
        go_wp2_with fail
        go_ret
        exact ⟨rfl, rfl⟩
    · have e : amg al.data.toList r = false := by simp [amg, h1]
      have g1 : decide (r < 128) = false := by simpa using h1
      rw [e]
      go_enter Tryz.func66, Tryz.ntmps66
      go_wp2_with fail
      go_ret
      exact ⟨rfl, rfl⟩
  · have e : amg al.data.toList r = false := by simp [amg, h0]
    have g0 : decide (0 ≤ r) = false := by simpa using h0
    rw [e]
    go_enter Tryz.func66, Tryz.ntmps66
    go_wp2_with fail
    go_ret
    exact ⟨rfl, rfl⟩

theorem one_any (r : Int) (w : World) : Calls Tryz.prog 63 #[.int .i64 r] w fun e w' => e = .returned (.slice (some ⟨w.heap.size, 0, none⟩) 1 1) ∧ ROwn w w' (.slice (some ⟨w.heap.size, 0, none⟩) 1 1) [(r, r)] := by
  go_enter Tryz.func63, Tryz.ntmps63
  go_wp2_with fail
  go_ret
  refine ⟨rfl, ⟨rfl, Or.inr ⟨w.heap.size, 1, _, rfl, Nat.le_refl _, heap_alloc_new w _, Nat.le_refl _, by unfold maxLen; decide, rfl, rfl⟩⟩, (Keeps.refl _ _).alloc _⟩
end Go.Proofs.YtinogeobkljngaaGreatDoor
end
