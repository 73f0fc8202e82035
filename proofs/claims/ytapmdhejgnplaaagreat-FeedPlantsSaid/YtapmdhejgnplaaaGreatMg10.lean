/-
  The walks of set.Count, Only, Not.
-/
import Derived.Test.YtapmdhejgnplaaaGreatMg9
import Derived.Deep.SlicePairs
import Derived.ChangeArms
import Derived.Deep.RegionHeld3
import Derived.Deep.Cut
import Derived.Deep.CutRange
import Derived.Test.YtapmdhejgnplaaaGreatShelf
import Derived.Lib.Bytealg
namespace Go.Proofs.YtapmdhejgnplaaaGreat
open Go.RowKit Go.Proofs.Tryz
set_option linter.unusedVariables false
set_option linter.unusedSimpArgs false
set_option maxRecDepth 100000
set_option maxHeartbeats 4000000
theorem xiL (l : LI) (v : Value) (w : World) (h : RSl w v l) (hl : l.length <= 100000) :
 Calls prog 74 #[v] w fun e w' => ∃ (out : LI) (x : Int) (ok : Bool), e = .returned (.tuple #[.int .i64 x, .bool ok]) /\ IsOf l out /\ (ok = true -> out = [(x, x)]) /\ (ok = false -> x = 0 /\ ∀ y, out ≠ [(y, y)]) /\ KF w w' := by
 go_enter func74, ntmps74
 go_wp2_with fail
 refine (xc0 l v _ h hl).mono ?_
 rintro e w1 ⟨u, out, rfl, hof, hown, hlo⟩
 have hS := hown.read (by omega) (xiT hof.1)
 obtain ⟨a, cap, rfl, hl1, hcl⟩ := hS.cells
 clear hS
 have hkw := hown.2
 clear hown
 by_cases h1 : out.length = 1
 · obtain ⟨p, rfl⟩ : ∃ p, out = [p] := List.length_eq_one_iff.1 h1
   obtain ⟨b, off, rfl, hcc⟩ := hcl (by simp)
   obtain ⟨c0, c1, _, _⟩ := hcc 0 p rfl
   clear hcc hcl h1
   simp only [List.length_cons, List.length_nil, Nat.zero_add, Nat.zero_mul, Nat.add_zero] at *
   by_cases hpq : p.1 = p.2
   · have hd : (p.1 != p.2) = false := by simp [hpq]
     have Hpq := xa hpq
     clear hpq
     go_wp2_with fail
     go_quiet (fail)
     go_wp2
     go_ret2
     exact ⟨[p], p.1, true, rfl, hof, fun _ => by rw [show p = (p.1, p.1) from Prod.ext rfl Hpq.out.symm], (fun h => by cases h), hkw.drawN _⟩
   have hd : (p.1 != p.2) = true := by simp [hpq]
   have Hpq := xa hpq
   clear hpq
   go_wp2_with fail
   go_quiet (fail)
   go_wp2
   go_ret2
   exact ⟨[p], 0, false, rfl, hof, (fun h => by cases h), fun _ => ⟨rfl, fun y e => Hpq.out (by have := List.cons.inj e; rw [this.1])⟩, hkw.drawN _⟩
 have hd : ((out.length : Int) != 1) = true := by simp; omega
 have Hn := xa h1
 clear h1 hcl
 go_wp2_with fail
 go_quiet (fail)
 go_wp2
 go_ret2
 exact ⟨out, 0, false, rfl, hof, (fun h => by cases h), fun _ => ⟨rfl, fun y e => Hn.out (by rw [e]; rfl)⟩, hkw.drawN _⟩


theorem xgw (w : World) :
 Calls prog 151 #[.int .u8 119] w fun e w' => ∃ u out, e = .returned (.tuple #[u, .bool true]) /\ IsOf [(65, 90), (97, 122), (95, 95), (48, 57)] out /\ ROwn w w' u out /\ out.length <= 5 := by
 obtain ⟨i0, hi, hz0, hz1, hz2⟩ := info_parts xaO
 have hb : bits BinOp.or IntKind.u8 119 32 = 119 := by kernel_rfl
 go_enter func151, ntmps151
 go_wp2_with (at_builtin; refine wpList_append_own _ rfl (.tmp 13) (.tmp 17) 70 rfl w.heap.size 180 i0 _ 2 16 underlying70 hi hz0 hz1 hz2 rfl (by decide) (.slice none 0 0) 0 [] rfl (World.ownsRow_nil _ _ _ _) ⟨w.heap.size, 0, none⟩ 3 3 [.int .i64 65, .int .i64 90, .int .i64 97, .int .i64 122, .int .i64 95, .int .i64 95] rfl rfl (by exact xaq _ [_, _, _, _, _, _] _) ?c2 ?c3 ?c4 ?c5 ?_)
 case c2 => first | (intro u hu; simp at hu; rcases hu with rfl | rfl | rfl | rfl | rfl | rfl <;> rfl) | exact ⟨rfl, rfl, rfl, rfl, rfl, rfl⟩
 case c3 => unfold maxLen; omega
 case c4 => omega
 case c5 => simp
 intro v' w2 hown' hgrow' _
 have hk : KF w w2 := ((xaa.refl _ _).alloc _).grown hgrow' (fun b hb => by cases hb)
 have ho3 : w2.ownsRow w.heap.size 180 2 v' 3 (cellsOf 2 encR [(65, 90), (97, 122), (95, 95)]) := by simpa [cellsOf, encR, List.range_succ] using hown'
 have hsz := hk.size
 obtain ⟨va, vc, rfl⟩ := xad ho3
 clear hown' hgrow'
 go_wp2_with (at_builtin; refine wpList_append_own _ rfl (.tmp 19) (.tmp 21) 70 rfl w.heap.size 180 i0 _ 2 16 underlying70 hi hz0 hz1 hz2 rfl (by decide) _ 3 _ rfl (xac ho3 _) ⟨w2.heap.size, 0, none⟩ 1 1 [.int .i64 48, .int .i64 57] rfl rfl (by exact xaq _ [_, _] _) ?d2 ?d3 ?d4 ?d5 ?_)
 case d2 => first | (intro u hu; simp at hu; rcases hu with rfl | rfl <;> rfl) | exact ⟨rfl, rfl⟩
 case d3 => unfold maxLen; omega
 case d4 => omega
 case d5 => simp; omega
 intro v'' w2' hown'' hgrow'' _
 have hr : RSl w2' v'' [(65, 90), (97, 122), (95, 95), (48, 57)] := ⟨SlOf.ofOwn (by simpa [cellsOf, encR, List.range_succ] using hown'') (by simp), by simp [in64]⟩
 have hk : KF w w2' := (hk.alloc _).grown hgrow'' (fun b hb => Or.inr (xab ho3 b hb))
 clear hown'' hgrow'' ho3
 go_wp2_with fail
 refine (xc0 [(65, 90), (97, 122), (95, 95), (48, 57)] _ _ hr (by simp)).mono ?_
 rintro e w3 ⟨u, out, rfl, hof, hown, hlo⟩
 simp only [List.length_cons, List.length_nil] at hlo
 go_wp2
 go_ret2
 exact ⟨u, out, rfl, hof, ⟨xak hown.1 hk.size, hk.trans hown.2⟩, by omega⟩
theorem xgy (w : World) :
 Calls prog 151 #[.int .u8 100] w fun e w' => ∃ u out, e = .returned (.tuple #[u, .bool true]) /\ IsOf [(48, 57)] out /\ ROwn w w' u out /\ out.length <= 5 := by
 obtain ⟨i0, hi, hz0, hz1, hz2⟩ := info_parts xaO
 have hb : bits BinOp.or IntKind.u8 100 32 = 100 := by kernel_rfl
 go_enter func151, ntmps151
 go_wp2_with (at_builtin; refine wpList_append_own _ rfl (.tmp 19) (.tmp 21) 70 rfl w.heap.size 180 i0 _ 2 16 underlying70 hi hz0 hz1 hz2 rfl (by decide) (.slice none 0 0) 0 [] rfl (World.ownsRow_nil _ _ _ _) ⟨w.heap.size, 0, none⟩ 1 1 [.int .i64 48, .int .i64 57] rfl rfl (by exact xaq _ [_, _] _) ?c2 ?c3 ?c4 ?c5 ?_)
 case c2 => first | (intro u hu; simp at hu; rcases hu with rfl | rfl <;> rfl) | exact ⟨rfl, rfl⟩
 case c3 => unfold maxLen; omega
 case c4 => omega
 case c5 => simp
 intro v' w2 hown' hgrow' _
 have hr : RSl w2 v' [(48, 57)] := ⟨SlOf.ofOwn (by simpa [cellsOf, encR, List.range_succ] using hown') (by simp), by simp [in64]⟩
 have hk : KF w w2 := ((xaa.refl _ _).alloc _).grown hgrow' (fun b hb => by cases hb)
 clear hown' hgrow'
 go_wp2_with fail
 refine (xc0 [(48, 57)] _ _ hr (by simp)).mono ?_
 rintro e w3 ⟨u, out, rfl, hof, hown, hlo⟩
 simp only [List.length_cons, List.length_nil] at hlo
 go_wp2
 go_ret2
 exact ⟨u, out, rfl, hof, ⟨xak hown.1 hk.size, hk.trans hown.2⟩, by omega⟩
theorem xgx (w : World) :
 Calls prog 151 #[.int .u8 115] w fun e w' => ∃ u out, e = .returned (.tuple #[u, .bool true]) /\ IsOf [(9, 13), (32, 32)] out /\ ROwn w w' u out /\ out.length <= 5 := by
 obtain ⟨i0, hi, hz0, hz1, hz2⟩ := info_parts xaO
 have hb : bits BinOp.or IntKind.u8 115 32 = 115 := by kernel_rfl
 go_enter func151, ntmps151
 go_wp2_with (at_builtin; refine wpList_append_own _ rfl (.tmp 23) (.tmp 26) 70 rfl w.heap.size 180 i0 _ 2 16 underlying70 hi hz0 hz1 hz2 rfl (by decide) (.slice none 0 0) 0 [] rfl (World.ownsRow_nil _ _ _ _) ⟨w.heap.size, 0, none⟩ 2 2 [.int .i64 9, .int .i64 13, .int .i64 32, .int .i64 32] rfl rfl (by exact xaq _ [_, _, _, _] _) ?c2 ?c3 ?c4 ?c5 ?_)
 case c2 => first | (intro u hu; simp at hu; rcases hu with rfl | rfl | rfl | rfl <;> rfl) | exact ⟨rfl, rfl, rfl, rfl⟩
 case c3 => unfold maxLen; omega
 case c4 => omega
 case c5 => simp
 intro v' w2 hown' hgrow' _
 have hr : RSl w2 v' [(9, 13), (32, 32)] := ⟨SlOf.ofOwn (by simpa [cellsOf, encR, List.range_succ] using hown') (by simp), by simp [in64]⟩
 have hk : KF w w2 := ((xaa.refl _ _).alloc _).grown hgrow' (fun b hb => by cases hb)
 clear hown' hgrow'
 go_wp2_with fail
 refine (xc0 [(9, 13), (32, 32)] _ _ hr (by simp)).mono ?_
 rintro e w3 ⟨u, out, rfl, hof, hown, hlo⟩
 simp only [List.length_cons, List.length_nil] at hlo
 go_wp2
 go_ret2
 exact ⟨u, out, rfl, hof, ⟨xak hown.1 hk.size, hk.trans hown.2⟩, by omega⟩
theorem xhC (w : World) :
 Calls prog 151 #[.int .u8 87] w fun e w' => ∃ u out, e = .returned (.tuple #[u, .bool true]) /\ xe8 [(65, 90), (97, 122), (95, 95), (48, 57)] out /\ ROwn w w' u out /\ out.length <= 5 := by
 obtain ⟨i0, hi, hz0, hz1, hz2⟩ := info_parts xaO
 have hb : bits BinOp.or IntKind.u8 87 32 = 119 := by kernel_rfl
 go_enter func151, ntmps151
 go_wp2_with (at_builtin; refine wpList_append_own _ rfl (.tmp 13) (.tmp 17) 70 rfl w.heap.size 180 i0 _ 2 16 underlying70 hi hz0 hz1 hz2 rfl (by decide) (.slice none 0 0) 0 [] rfl (World.ownsRow_nil _ _ _ _) ⟨w.heap.size, 0, none⟩ 3 3 [.int .i64 65, .int .i64 90, .int .i64 97, .int .i64 122, .int .i64 95, .int .i64 95] rfl rfl (by exact xaq _ [_, _, _, _, _, _] _) ?c2 ?c3 ?c4 ?c5 ?_)
 case c2 => first | (intro u hu; simp at hu; rcases hu with rfl | rfl | rfl | rfl | rfl | rfl <;> rfl) | exact ⟨rfl, rfl, rfl, rfl, rfl, rfl⟩
 case c3 => unfold maxLen; omega
 case c4 => omega
 case c5 => simp
 intro v' w2 hown' hgrow' _
 have hk : KF w w2 := ((xaa.refl _ _).alloc _).grown hgrow' (fun b hb => by cases hb)
 have ho3 : w2.ownsRow w.heap.size 180 2 v' 3 (cellsOf 2 encR [(65, 90), (97, 122), (95, 95)]) := by simpa [cellsOf, encR, List.range_succ] using hown'
 have hsz := hk.size
 obtain ⟨va, vc, rfl⟩ := xad ho3
 clear hown' hgrow'
 go_wp2_with (at_builtin; refine wpList_append_own _ rfl (.tmp 19) (.tmp 21) 70 rfl w.heap.size 180 i0 _ 2 16 underlying70 hi hz0 hz1 hz2 rfl (by decide) _ 3 _ rfl (xac ho3 _) ⟨w2.heap.size, 0, none⟩ 1 1 [.int .i64 48, .int .i64 57] rfl rfl (by exact xaq _ [_, _] _) ?d2 ?d3 ?d4 ?d5 ?_)
 case d2 => first | (intro u hu; simp at hu; rcases hu with rfl | rfl <;> rfl) | exact ⟨rfl, rfl⟩
 case d3 => unfold maxLen; omega
 case d4 => omega
 case d5 => simp; omega
 intro v'' w2' hown'' hgrow'' _
 have hr : RSl w2' v'' [(65, 90), (97, 122), (95, 95), (48, 57)] := ⟨SlOf.ofOwn (by simpa [cellsOf, encR, List.range_succ] using hown'') (by simp), by simp [in64]⟩
 have hk : KF w w2' := (hk.alloc _).grown hgrow'' (fun b hb => Or.inr (xab ho3 b hb))
 clear hown'' hgrow'' ho3
 go_wp2_with fail
 refine (xdL [(65, 90), (97, 122), (95, 95), (48, 57)] _ _ hr (by simp)).mono ?_
 rintro e w3 ⟨u, out, rfl, hof, hown, hlo⟩
 simp only [List.length_cons, List.length_nil] at hlo
 go_wp2
 go_ret2
 exact ⟨u, out, rfl, hof, ⟨xak hown.1 hk.size, hk.trans hown.2⟩, by omega⟩
theorem xhE (w : World) :
 Calls prog 151 #[.int .u8 68] w fun e w' => ∃ u out, e = .returned (.tuple #[u, .bool true]) /\ xe8 [(48, 57)] out /\ ROwn w w' u out /\ out.length <= 5 := by
 obtain ⟨i0, hi, hz0, hz1, hz2⟩ := info_parts xaO
 have hb : bits BinOp.or IntKind.u8 68 32 = 100 := by kernel_rfl
 go_enter func151, ntmps151
 go_wp2_with (at_builtin; refine wpList_append_own _ rfl (.tmp 19) (.tmp 21) 70 rfl w.heap.size 180 i0 _ 2 16 underlying70 hi hz0 hz1 hz2 rfl (by decide) (.slice none 0 0) 0 [] rfl (World.ownsRow_nil _ _ _ _) ⟨w.heap.size, 0, none⟩ 1 1 [.int .i64 48, .int .i64 57] rfl rfl (by exact xaq _ [_, _] _) ?c2 ?c3 ?c4 ?c5 ?_)
 case c2 => first | (intro u hu; simp at hu; rcases hu with rfl | rfl <;> rfl) | exact ⟨rfl, rfl⟩
 case c3 => unfold maxLen; omega
 case c4 => omega
 case c5 => simp
 intro v' w2 hown' hgrow' _
 have hr : RSl w2 v' [(48, 57)] := ⟨SlOf.ofOwn (by simpa [cellsOf, encR, List.range_succ] using hown') (by simp), by simp [in64]⟩
 have hk : KF w w2 := ((xaa.refl _ _).alloc _).grown hgrow' (fun b hb => by cases hb)
 clear hown' hgrow'
 go_wp2_with fail
 refine (xdL [(48, 57)] _ _ hr (by simp)).mono ?_
 rintro e w3 ⟨u, out, rfl, hof, hown, hlo⟩
 simp only [List.length_cons, List.length_nil] at hlo
 go_wp2
 go_ret2
 exact ⟨u, out, rfl, hof, ⟨xak hown.1 hk.size, hk.trans hown.2⟩, by omega⟩
theorem xhD (w : World) :
 Calls prog 151 #[.int .u8 83] w fun e w' => ∃ u out, e = .returned (.tuple #[u, .bool true]) /\ xe8 [(9, 13), (32, 32)] out /\ ROwn w w' u out /\ out.length <= 5 := by
 obtain ⟨i0, hi, hz0, hz1, hz2⟩ := info_parts xaO
 have hb : bits BinOp.or IntKind.u8 83 32 = 115 := by kernel_rfl
 go_enter func151, ntmps151
 go_wp2_with (at_builtin; refine wpList_append_own _ rfl (.tmp 23) (.tmp 26) 70 rfl w.heap.size 180 i0 _ 2 16 underlying70 hi hz0 hz1 hz2 rfl (by decide) (.slice none 0 0) 0 [] rfl (World.ownsRow_nil _ _ _ _) ⟨w.heap.size, 0, none⟩ 2 2 [.int .i64 9, .int .i64 13, .int .i64 32, .int .i64 32] rfl rfl (by exact xaq _ [_, _, _, _] _) ?c2 ?c3 ?c4 ?c5 ?_)
 case c2 => first | (intro u hu; simp at hu; rcases hu with rfl | rfl | rfl | rfl <;> rfl) | exact ⟨rfl, rfl, rfl, rfl⟩
 case c3 => unfold maxLen; omega
 case c4 => omega
 case c5 => simp
 intro v' w2 hown' hgrow' _
 have hr : RSl w2 v' [(9, 13), (32, 32)] := ⟨SlOf.ofOwn (by simpa [cellsOf, encR, List.range_succ] using hown') (by simp), by simp [in64]⟩
 have hk : KF w w2 := ((xaa.refl _ _).alloc _).grown hgrow' (fun b hb => by cases hb)
 clear hown' hgrow'
 go_wp2_with fail
 refine (xdL [(9, 13), (32, 32)] _ _ hr (by simp)).mono ?_
 rintro e w3 ⟨u, out, rfl, hof, hown, hlo⟩
 simp only [List.length_cons, List.length_nil] at hlo
 go_wp2
 go_ret2
 exact ⟨u, out, rfl, hof, ⟨xak hown.1 hk.size, hk.trans hown.2⟩, by omega⟩
def amg (al : List UInt8) (r : Int) : Bool := decide (0 <= r) && decide (r < 128) && decide (0 <= Lib.indexByte al r.toNat.toUInt8)
theorem xcH (al : ByteArray) (r : Int) (w : World) : Calls prog 136 #[.string al, .int .i64 r] w fun e w' => e = .returned (.bool (amg al.data.toList r)) /\ w = w' := by
 by_cases h0 : 0 <= r
 · have g0 : decide (0 <= r) = true := by simpa using h0
   by_cases h1 : r < 128
   · have g1 : decide (r < 128) = true := by simpa using h1
     have HI := xa (fun W => Tryz.strings_IndexByte al r W)
     by_cases h2 : 0 <= Lib.indexByte al.data.toList r.toNat.toUInt8
     · have e : amg al.data.toList r = true := by simp [amg, h0, h1, h2]
       rw [e]
       generalize Lib.indexByte al.data.toList r.toNat.toUInt8 = q at *
       go_enter func136, ntmps136
       go_wp2_with fail
       refine (HI.out _).mono ?_
       rintro e w1 ⟨rfl, rfl⟩
       go_wp2
       go_ret
       exact ⟨rfl, rfl⟩
     have e : amg al.data.toList r = false := by simp [amg, h2]
     have g2 : decide (0 <= Lib.indexByte al.data.toList r.toNat.toUInt8) = false := by simpa using h2
     rw [e]
     generalize Lib.indexByte al.data.toList r.toNat.toUInt8 = q at *
     go_enter func136, ntmps136
     go_wp2_with fail
     refine (HI.out _).mono ?_
     rintro e w1 ⟨rfl, rfl⟩
     go_wp2
     go_ret
     exact ⟨rfl, rfl⟩
   have e : amg al.data.toList r = false := by simp [amg, h1]
   have g1 : decide (r < 128) = false := by simpa using h1
   rw [e]
   go_enter func136, ntmps136
   go_wp2
   go_ret
   exact ⟨rfl, rfl⟩
 have e : amg al.data.toList r = false := by simp [amg, h0]
 have g0 : decide (0 <= r) = false := by simpa using h0
 rw [e]
 go_enter func136, ntmps136
 go_wp2
 go_ret
 exact ⟨rfl, rfl⟩
theorem one_any (r : Int) (w : World) : Calls prog 133 #[.int .i64 r] w fun e w' => e = .returned (.slice (some ⟨w.heap.size, 0, none⟩) 1 1) /\ ROwn w w' (.slice (some ⟨w.heap.size, 0, none⟩) 1 1) [(r, r)] := by
 go_enter func133, ntmps133
 go_wp2
 go_ret
 refine ⟨rfl, ⟨rfl, Or.inr ⟨w.heap.size, 1, _, rfl, Nat.le_refl _, heap_alloc_new w _, Nat.le_refl _, by unfold maxLen; decide, rfl, rfl⟩⟩, (xaa.refl _ _).alloc _⟩
theorem xaH {w w' : World} {pb : Nat} {base : Nat} {e : TypeId} {size : Nat} {v : Value} {n : Nat} {xs : List Value} (h : w.ownsRow base e size v n xs) (K : xaa (xam pb) w w') (hb : pb < base) : w'.ownsRow base e size v n xs :=
 xag h K (fun b hb' e => by have := xab h b hb'; have e : b = pb := e; omega)
theorem xeI (r : Int) (w : World) : Calls prog 133 #[.int .i64 r] w fun e w' => ∃ u, e = .returned u /\ ROwn w w' u [(r, r)] :=
 (one_any r w).mono (fun e w1 h => ⟨_, h.1, h.2⟩)
def xav (r : Int) : LI :=
 if r = 100 then [(48, 57)] else if r = 119 then [(48, 57), (65, 90), (95, 95), (97, 122)] else if r = 115 then [(9, 13), (32, 32)]
 else if r = 68 then [(0, 47), (58, 1114111)] else if r = 87 then [(0, 47), (58, 64), (91, 94), (96, 96), (123, 1114111)] else [(0, 8), (14, 31), (33, 1114111)]
def xcz (r : Int) : Prop := r = 100 \/ r = 119 \/ r = 115 \/ r = 68 \/ r = 87 \/ r = 83
def sgL : List UInt8 := [46, 94, 36, 124, 40, 41, 91, 93, 123, 125, 42, 43, 63, 92]
def dwL : List UInt8 := [100, 119, 115, 68, 87, 83]
def npL : List UInt8 := [91, 93, 94, 45]
theorem xgl (al : List UInt8) (r : Int) (h : ¬ (0 <= r /\ r < 128)) : amg al r = false := by
 unfold amg
 rcases (by omega : r < 0 \/ 0 <= r) with h0 | h0
 · rw [show decide (0 <= r) = false from by simpa using h0]; rfl
 rw [show decide (r < 128) = false from by simp; omega]; simp
instance (r : Int) : Decidable (xcz r) := by unfold xcz; infer_instance
theorem xoB (r : Int) : amg dwL r = decide (xcz r) := by
 have key : ∀ c : Fin 128, amg dwL (c.val : Int) = decide (xcz (c.val : Int)) := of_decide_eq_true (by kernel_rfl)
 by_cases h : 0 <= r /\ r < 128
 · have := key ⟨r.toNat, by omega⟩
   simpa [Int.toNat_of_nonneg h.1] using this
 rw [xgl _ _ h]; symm; simp only [decide_eq_false_iff_not]; unfold xcz; omega
theorem xlG (r : Int) (w : World) (h : xcz r) :
 Calls prog 151 #[.int .u8 r] w fun e w' => ∃ u, e = .returned (.tuple #[u, .bool true]) /\ ROwn w w' u (xav r) /\ (xav r).length <= 5 := by
 rcases h with rfl | rfl | rfl | rfl | rfl | rfl
 · refine (xgy w).mono ?_
   rintro e w1 ⟨u, out, rfl, ho, hr, hl⟩
   obtain rfl : out = xav 100 := xa3 _ _ ho.1 (by simp [xav, Norm]) (fun r => by
    rw [ho.2]; apply Bool.eq_iff_iff.2; simp [has, mem, xaZ, xav]; omega)
   exact ⟨u, rfl, hr, hl⟩
 · refine (xgw w).mono ?_
   rintro e w1 ⟨u, out, rfl, ho, hr, hl⟩
   obtain rfl : out = xav 119 := xa3 _ _ ho.1 (by simp [xav, Norm]) (fun r => by
    rw [ho.2]; apply Bool.eq_iff_iff.2; simp [has, mem, xaZ, xav]; omega)
   exact ⟨u, rfl, hr, hl⟩
 · refine (xgx w).mono ?_
   rintro e w1 ⟨u, out, rfl, ho, hr, hl⟩
   obtain rfl : out = xav 115 := xa3 _ _ ho.1 (by simp [xav, Norm]) (fun r => by
    rw [ho.2]; apply Bool.eq_iff_iff.2; simp [has, mem, xaZ, xav]; omega)
   exact ⟨u, rfl, hr, hl⟩
 · refine (xhE w).mono ?_
   rintro e w1 ⟨u, out, rfl, ho, hr, hl⟩
   obtain rfl : out = xav 68 := xa3 _ _ ho.1 (by simp [xav, Norm]) (fun r => by
    rw [ho.2]; apply Bool.eq_iff_iff.2; simp [has, mem, xaZ, xav]; omega)
   exact ⟨u, rfl, hr, hl⟩
 · refine (xhC w).mono ?_
   rintro e w1 ⟨u, out, rfl, ho, hr, hl⟩
   obtain rfl : out = xav 87 := xa3 _ _ ho.1 (by simp [xav, Norm]) (fun r => by
    rw [ho.2]; apply Bool.eq_iff_iff.2; simp [has, mem, xaZ, xav]; omega)
   exact ⟨u, rfl, hr, hl⟩
 refine (xhD w).mono ?_
 rintro e w1 ⟨u, out, rfl, ho, hr, hl⟩
 obtain rfl : out = xav 83 := xa3 _ _ ho.1 (by simp [xav, Norm]) (fun r => by
  rw [ho.2]; apply Bool.eq_iff_iff.2; simp [has, mem, xaZ, xav]; omega)
 exact ⟨u, rfl, hr, hl⟩
def escR (r : Int) : Int := if r = 110 then 10 else if r = 114 then 13 else if r = 116 then 9 else r
def xcp (r : Int) : Bool := !(decide (r = 110) || decide (r = 114) || decide (r = 116)) && (!amg sgL r && !decide (r = 45))
def escL (rs : List Int) (s : PS) : LI := if xcz (pk rs s) then xav (pk rs s) else [(escR (pk rs s), escR (pk rs s))]
def escB (rs : List Int) (s : PS) : Bool := !decide (xcz (pk rs s))
def escS (rs : List Int) (s : PS) : PS :=
 if xcz (pk rs s) then nx rs s else ⟨s.pos + 1, s.deep, (nx rs s).bad || xcp (pk rs s)⟩
theorem xfF (w : World) (pb : Nat) (rv : Value) (rs : List Int) (s : PS) (h : PaAt w pb rv rs s) (hp : s.pos + 1 <= 1000000) :
 Calls prog 135 #[.pointer (some ⟨pb, 0, none⟩)] w fun e w' => ∃ u, e = .returned (.tuple #[u, .bool (escB rs s)]) /\
  w'.ownsRow w.heap.size 180 2 u (escL rs s).length (cellsOf 2 encR (escL rs s)) /\ PaAt w' pb rv rs (escS rs s) /\ xaa (xam pb) w w' := by
 have hpb := h.lt
 have HN := xa (xbJ w pb rv rs s h hp)
 have hr := xlf h
 clear h
 by_cases hn : xcz (pk rs s)
 · have hL : Hid (escL rs s = xav (pk rs s)) := xa (if_pos hn)
   have hB : Hid (escB rs s = false) := xa (by simp [escB, hn])
   have hS : Hid (escS rs s = nx rs s) := xa (if_pos hn)
   have hA : amg dwL (pk rs s) = true := by rw [xoB]; simpa using hn
   have HA := xa (fun W => xcH ⟨#[100, 119, 115, 68, 87, 83]⟩ (pk rs s) W)
   have hA2 : amg (#[100, 119, 115, 68, 87, 83] : Array UInt8).toList (pk rs s) = true := hA
   have HM := xa (fun W => xlG (pk rs s) W hn)
   have hw8 : IntKind.u8.wrap (pk rs s) = pk rs s := by rcases hn with e | e | e | e | e | e <;> rw [e] <;> rfl
   rw [hA2] at HA
   clear hA hA2 hn
   generalize pk rs s = r at *
   go_enter func135, ntmps135
   go_wp2_with fail
   refine HN.out.mono ?_
   rintro e w1 ⟨rfl, h1, k1⟩
   have H1 := xa h1
   have K1 := xa k1
   clear h1 k1
   go_wp2_with fail
   refine (HA.out _).mono ?_
   rintro e w2 ⟨rfl, rfl⟩
   go_wp2_with fail
   refine (HM.out _).mono ?_
   rintro e w3 ⟨u, rfl, hr3, hl3⟩
   have R3 := xa hr3
   clear hr3
   go_wp2
   go_ret2
   refine ⟨u, by rw [hB.out]; rfl, ?_, ?_, K1.out.trans (R3.out.2.mono (fun _ _ e => e.elim))⟩
   · rw [hL.out]; exact xak R3.out.1 K1.out.size
   rw [hS.out]; exact H1.out.keepsF R3.out.2
 have hB : Hid (escB rs s = true) := xa (by simp [escB, hn])
 have hA2 : amg (#[100, 119, 115, 68, 87, 83] : Array UInt8).toList (pk rs s) = false := by
  show amg dwL _ = _
  rw [xoB]; simpa using hn
 have HA := xa (fun W => xcH ⟨#[100, 119, 115, 68, 87, 83]⟩ (pk rs s) W)
 have HG := xa (fun W => xcH ⟨#[46, 94, 36, 124, 40, 41, 91, 93, 123, 125, 42, 43, 63, 92]⟩ (pk rs s) W)
 rw [hA2] at HA
 have hL : Hid (escL rs s = [(escR (pk rs s), escR (pk rs s))]) := xa (if_neg hn)
 have hS : Hid (escS rs s = ⟨s.pos + 1, s.deep, (nx rs s).bad || xcp (pk rs s)⟩) := xa (if_neg hn)
 have hnx : Hid (nx rs s = ⟨s.pos + 1, s.deep, (nx rs s).bad⟩) := xa rfl
 generalize nx rs s = s1 at *
 generalize pk rs s = r at *
 clear hA2 hn
 by_cases h110 : r = 110
 · subst h110
   replace hS : Hid (escS rs s = s1) := xa (by rw [hS.out, hnx.out]; simp [xcp])
   replace hL : Hid (escL rs s = [(10, 10)]) := hL
   clear HG
   go_enter func135, ntmps135
   go_wp2_with fail
   refine HN.out.mono ?_
   rintro e w1 ⟨rfl, h1, k1⟩
   have c3 := h1.c3
   have f3 := h1.fr 3
   have hb1 := h1.lt
   have H1 := xa h1
   have K1 := xa k1
   clear h1 k1
   go_wp2_with fail
   refine (HA.out _).mono ?_
   rintro e w2 ⟨rfl, rfl⟩
   go_wp2_with fail
   refine (xeI _ _).mono ?_
   rintro e w3 ⟨u, rfl, hr3⟩
   have R3 := xa hr3
   clear hr3
   go_wp2
   go_ret2
   refine ⟨u, by rw [hB.out]; rfl, ?_, ?_, K1.out.trans (R3.out.2.mono (fun _ _ e => e.elim))⟩
   · rw [hL.out]; exact xak R3.out.1 (K1.out.size)
   rw [hS.out]; exact (H1.out).keepsF R3.out.2
 by_cases h114 : r = 114
 · subst h114
   replace hS : Hid (escS rs s = s1) := xa (by rw [hS.out, hnx.out]; simp [xcp])
   replace hL : Hid (escL rs s = [(13, 13)]) := hL
   clear HG
   go_enter func135, ntmps135
   go_wp2_with fail
   refine HN.out.mono ?_
   rintro e w1 ⟨rfl, h1, k1⟩
   have c3 := h1.c3
   have f3 := h1.fr 3
   have hb1 := h1.lt
   have H1 := xa h1
   have K1 := xa k1
   clear h1 k1
   go_wp2_with fail
   refine (HA.out _).mono ?_
   rintro e w2 ⟨rfl, rfl⟩
   go_wp2_with fail
   refine (xeI _ _).mono ?_
   rintro e w3 ⟨u, rfl, hr3⟩
   have R3 := xa hr3
   clear hr3
   go_wp2
   go_ret2
   refine ⟨u, by rw [hB.out]; rfl, ?_, ?_, K1.out.trans (R3.out.2.mono (fun _ _ e => e.elim))⟩
   · rw [hL.out]; exact xak R3.out.1 (K1.out.size)
   rw [hS.out]; exact (H1.out).keepsF R3.out.2
 by_cases h116 : r = 116
 · subst h116
   replace hS : Hid (escS rs s = s1) := xa (by rw [hS.out, hnx.out]; simp [xcp])
   replace hL : Hid (escL rs s = [(9, 9)]) := hL
   clear HG
   go_enter func135, ntmps135
   go_wp2_with fail
   refine HN.out.mono ?_
   rintro e w1 ⟨rfl, h1, k1⟩
   have c3 := h1.c3
   have f3 := h1.fr 3
   have hb1 := h1.lt
   have H1 := xa h1
   have K1 := xa k1
   clear h1 k1
   go_wp2_with fail
   refine (HA.out _).mono ?_
   rintro e w2 ⟨rfl, rfl⟩
   go_wp2_with fail
   refine (xeI _ _).mono ?_
   rintro e w3 ⟨u, rfl, hr3⟩
   have R3 := xa hr3
   clear hr3
   go_wp2
   go_ret2
   refine ⟨u, by rw [hB.out]; rfl, ?_, ?_, K1.out.trans (R3.out.2.mono (fun _ _ e => e.elim))⟩
   · rw [hL.out]; exact xak R3.out.1 (K1.out.size)
   rw [hS.out]; exact (H1.out).keepsF R3.out.2
 have hR : escR r = r := by unfold escR; rw [if_neg h110, if_neg h114, if_neg h116]
 have hBd : xcp r = (!amg sgL r && !decide (r = 45)) := by unfold xcp; simp [h110, h114, h116]
 rw [hR] at hL
 rw [hBd] at hS
 have HG' : Hid (∀ W, Calls prog 136 #[.string ⟨#[46, 94, 36, 124, 40, 41, 91, 93, 123, 125, 42, 43, 63, 92]⟩, .int .i64 r] W fun e w' => e = .returned (.bool (amg sgL r)) /\ W = w') := HG
 clear HG hR hBd
 have g110 : (r == 110) = false := by simpa using h110
 have g114 : (r == 114) = false := by simpa using h114
 have g116 : (r == 116) = false := by simpa using h116
 clear h110 h114 h116
 obtain ⟨bd, hbd⟩ : ∃ b, s1.bad = b := ⟨_, rfl⟩
 have Hbd := xa hbd
 rw [hbd] at hS
 clear hbd
 cases bd with
 | true =>
  replace hS : Hid (escS rs s = ⟨s.pos + 1, s.deep, true⟩) := xa (by rw [hS.out]; rfl)
  go_enter func135, ntmps135
  go_wp2_with fail
  refine HN.out.mono ?_
  rintro e w1 ⟨rfl, h1, k1⟩
  have c3 := h1.c3
  have f3 := h1.fr 3
  rw [Hbd.out] at c3
  have hb1 := h1.lt
  have H1 := xa h1
  have K1 := xa k1
  clear h1 k1
  go_wp2_with fail
  refine (HA.out _).mono ?_
  rintro e w2 ⟨rfl, rfl⟩
  have H2 : Hid (PaAt (w1.setCell ⟨pb, 3, none⟩ (.bool true)) pb rv rs ⟨s.pos + 1, s.deep, true⟩) := by have := H1.out.setBad true; rw [hnx.out] at this; exact xa this
  go_wp2_with fail
  refine (xeI _ _).mono ?_
  rintro e w3 ⟨u, rfl, hr3⟩
  have R3 := xa hr3
  clear hr3
  go_wp2
  go_ret2
  refine ⟨u, by rw [hB.out]; rfl, ?_, ?_, (K1.out.set (p := ⟨pb, 3, none⟩) rfl (.bool true)).trans (R3.out.2.mono (fun _ _ e => e.elim))⟩
  · rw [hL.out]; exact xak R3.out.1 ((K1.out.set (p := ⟨pb, 3, none⟩) rfl (.bool true)).size)
  rw [hS.out]; exact (H2.out).keepsF R3.out.2
 | false =>
  cases hq : amg sgL r with
  | true =>
   rw [hq] at HG'
   replace hS : Hid (escS rs s = ⟨s.pos + 1, s.deep, false⟩) := xa (by rw [hS.out, hq]; rfl)
   go_enter func135, ntmps135
   go_wp2_with fail
   refine HN.out.mono ?_
   rintro e w1 ⟨rfl, h1, k1⟩
   have c3 := h1.c3
   have f3 := h1.fr 3
   rw [Hbd.out] at c3
   have hb1 := h1.lt
   have H1 := xa h1
   have K1 := xa k1
   clear h1 k1
   go_wp2_with fail
   refine (HA.out _).mono ?_
   rintro e w2 ⟨rfl, rfl⟩
   have H2 : Hid (PaAt (w1.setCell ⟨pb, 3, none⟩ (.bool false)) pb rv rs ⟨s.pos + 1, s.deep, false⟩) := by have := H1.out.setBad false; rw [hnx.out] at this; exact xa this
   go_wp2_with fail
   refine (HG'.out _).mono ?_
   rintro e w2 ⟨rfl, rfl⟩
   go_wp2_with fail
   refine (xeI _ _).mono ?_
   rintro e w3 ⟨u, rfl, hr3⟩
   have R3 := xa hr3
   clear hr3
   go_wp2
   go_ret2
   refine ⟨u, by rw [hB.out]; rfl, ?_, ?_, (K1.out.set (p := ⟨pb, 3, none⟩) rfl (.bool false)).trans (R3.out.2.mono (fun _ _ e => e.elim))⟩
   · rw [hL.out]; exact xak R3.out.1 ((K1.out.set (p := ⟨pb, 3, none⟩) rfl (.bool false)).size)
   rw [hS.out]; exact (H2.out).keepsF R3.out.2
  | false =>
   rw [hq] at HG'
   by_cases h45 : r = 45
   · replace hS : Hid (escS rs s = ⟨s.pos + 1, s.deep, false⟩) := xa (by rw [hS.out, hq]; simp [h45])
     subst h45
     go_enter func135, ntmps135
     go_wp2_with fail
     refine HN.out.mono ?_
     rintro e w1 ⟨rfl, h1, k1⟩
     have c3 := h1.c3
     have f3 := h1.fr 3
     rw [Hbd.out] at c3
     have hb1 := h1.lt
     have H1 := xa h1
     have K1 := xa k1
     clear h1 k1
     go_wp2_with fail
     refine (HA.out _).mono ?_
     rintro e w2 ⟨rfl, rfl⟩
     have H2 : Hid (PaAt (w1.setCell ⟨pb, 3, none⟩ (.bool false)) pb rv rs ⟨s.pos + 1, s.deep, false⟩) := by have := H1.out.setBad false; rw [hnx.out] at this; exact xa this
     go_wp2_with fail
     refine (HG'.out _).mono ?_
     rintro e w2 ⟨rfl, rfl⟩
     go_wp2_with fail
     refine (xeI _ _).mono ?_
     rintro e w3 ⟨u, rfl, hr3⟩
     have R3 := xa hr3
     clear hr3
     go_wp2
     go_ret2
     refine ⟨u, by rw [hB.out]; rfl, ?_, ?_, (K1.out.set (p := ⟨pb, 3, none⟩) rfl (.bool false)).trans (R3.out.2.mono (fun _ _ e => e.elim))⟩
     · rw [hL.out]; exact xak R3.out.1 ((K1.out.set (p := ⟨pb, 3, none⟩) rfl (.bool false)).size)
     rw [hS.out]; exact (H2.out).keepsF R3.out.2
   replace hS : Hid (escS rs s = ⟨s.pos + 1, s.deep, true⟩) := xa (by rw [hS.out, hq]; simp [h45])
   have g45 : (r != 45) = true := by simp only [bne_iff_ne, ne_eq]; exact h45
   clear h45
   go_enter func135, ntmps135
   go_wp2_with fail
   refine HN.out.mono ?_
   rintro e w1 ⟨rfl, h1, k1⟩
   have c3 := h1.c3
   have f3 := h1.fr 3
   rw [Hbd.out] at c3
   have hb1 := h1.lt
   have H1 := xa h1
   have K1 := xa k1
   clear h1 k1
   go_wp2_with fail
   refine (HA.out _).mono ?_
   rintro e w2 ⟨rfl, rfl⟩
   have H2 : Hid (PaAt (w1.setCell ⟨pb, 3, none⟩ (.bool true)) pb rv rs ⟨s.pos + 1, s.deep, true⟩) := by have := H1.out.setBad true; rw [hnx.out] at this; exact xa this
   go_wp2_with fail
   refine (HG'.out _).mono ?_
   rintro e w2 ⟨rfl, rfl⟩
   go_wp2_with fail
   refine (xeI _ _).mono ?_
   rintro e w3 ⟨u, rfl, hr3⟩
   have R3 := xa hr3
   clear hr3
   go_wp2
   go_ret2
   refine ⟨u, by rw [hB.out]; rfl, ?_, ?_, (K1.out.set (p := ⟨pb, 3, none⟩) rfl (.bool true)).trans (R3.out.2.mono (fun _ _ e => e.elim))⟩
   · rw [hL.out]; exact xak R3.out.1 ((K1.out.set (p := ⟨pb, 3, none⟩) rfl (.bool true)).size)
   rw [hS.out]; exact (H2.out).keepsF R3.out.2
def ptL (rs : List Int) (s : PS) : LI := if pk rs s = 92 then escL rs (nx rs s) else [(pk rs s, pk rs s)]
def ptB (rs : List Int) (s : PS) : Bool := if pk rs s = 92 then escB rs (nx rs s) else true
def ptS (rs : List Int) (s : PS) : PS := if pk rs s = 92 then escS rs (nx rs s) else ⟨s.pos + 1, s.deep, (nx rs s).bad || amg npL (pk rs s)⟩
theorem xdk (w : World) (pb : Nat) (rv : Value) (rs : List Int) (s : PS) (h : PaAt w pb rv rs s) (hp : s.pos + 2 <= 1000000) :
 Calls prog 150 #[.pointer (some ⟨pb, 0, none⟩)] w fun e w' => ∃ u, e = .returned (.tuple #[u, .bool (ptB rs s)]) /\
  w'.ownsRow w.heap.size 180 2 u (ptL rs s).length (cellsOf 2 encR (ptL rs s)) /\ PaAt w' pb rv rs (ptS rs s) /\ xaa (xam pb) w w' := by
 have hpb := h.lt
 have HN := xa (xbJ w pb rv rs s h (by omega))
 clear h
 have hnp : (nx rs s).pos + 1 <= 1000000 := by show s.pos + 1 + 1 <= 1000000; omega
 by_cases hn : pk rs s = 92
 · have hL : Hid (ptL rs s = escL rs (nx rs s)) := xa (if_pos hn)
   have hB : Hid (ptB rs s = escB rs (nx rs s)) := xa (if_pos hn)
   have hS : Hid (ptS rs s = escS rs (nx rs s)) := xa (if_pos hn)
   rw [hn] at HN
   clear hn
   go_enter func150, ntmps150
   go_wp2_with fail
   refine HN.out.mono ?_
   rintro e w1 ⟨rfl, h1, k1⟩
   have H1 := xa h1
   have K1 := xa k1
   clear h1 k1
   go_wp2_with fail
   refine (xfF _ _ _ _ _ H1.out hnp).mono ?_
   rintro e w2 ⟨u, rfl, ho2, h2, k2⟩
   have R2 := xa ho2
   have H2 := xa h2
   have K2 := xa k2
   clear ho2 h2 k2
   go_wp2
   go_ret2
   exact ⟨u, by rw [hB.out]; rfl, by rw [hL.out]; exact xak R2.out K1.out.size, by rw [hS.out]; exact H2.out, K1.out.trans K2.out⟩
 have hL : Hid (ptL rs s = [(pk rs s, pk rs s)]) := xa (if_neg hn)
 have hB : Hid (ptB rs s = true) := xa (if_neg hn)
 have hS : Hid (ptS rs s = ⟨s.pos + 1, s.deep, (nx rs s).bad || amg npL (pk rs s)⟩) := xa (if_neg hn)
 have hnx : Hid (nx rs s = ⟨s.pos + 1, s.deep, (nx rs s).bad⟩) := xa rfl
 have HG : Hid (∀ W, Calls prog 136 #[.string ⟨#[91, 93, 94, 45]⟩, .int .i64 (pk rs s)] W fun e w' => e = .returned (.bool (amg npL (pk rs s))) /\ W = w') := xa (fun W => xcH ⟨#[91, 93, 94, 45]⟩ (pk rs s) W)
 generalize nx rs s = s1 at *
 generalize pk rs s = r at *
 obtain ⟨bd, hbd⟩ : ∃ b, s1.bad = b := ⟨_, rfl⟩
 have Hbd := xa hbd
 rw [hbd] at hS
 clear hbd
 cases bd with
 | true =>
  replace hS : Hid (ptS rs s = ⟨s.pos + 1, s.deep, true⟩) := xa (by rw [hS.out]; rfl)
  go_enter func150, ntmps150
  go_wp2_with fail
  refine HN.out.mono ?_
  rintro e w1 ⟨rfl, h1, k1⟩
  have c3 := h1.c3
  have f3 := h1.fr 3
  rw [Hbd.out] at c3
  have hb1 := h1.lt
  have H1 := xa h1
  have K1 := xa k1
  clear h1 k1
  have H2 : Hid (PaAt (w1.setCell ⟨pb, 3, none⟩ (.bool true)) pb rv rs ⟨s.pos + 1, s.deep, true⟩) := by have := H1.out.setBad true; rw [hnx.out] at this; exact xa this
  go_wp2_with fail
  refine (xeI _ _).mono ?_
  rintro e w3 ⟨u, rfl, hr3⟩
  have R3 := xa hr3
  clear hr3
  go_wp2
  go_ret2
  refine ⟨u, by rw [hB.out]; rfl, ?_, ?_, (K1.out.set (p := ⟨pb, 3, none⟩) rfl (.bool true)).trans (R3.out.2.mono (fun _ _ e => e.elim))⟩
  · rw [hL.out]; exact xak R3.out.1 (K1.out.set (p := ⟨pb, 3, none⟩) rfl (.bool true)).size
  rw [hS.out]; exact H2.out.keepsF R3.out.2
 | false =>
  generalize amg npL r = q at *
  replace hS : Hid (ptS rs s = ⟨s.pos + 1, s.deep, q⟩) := xa (by rw [hS.out]; rfl)
  go_enter func150, ntmps150
  go_wp2_with fail
  refine HN.out.mono ?_
  rintro e w1 ⟨rfl, h1, k1⟩
  have c3 := h1.c3
  have f3 := h1.fr 3
  rw [Hbd.out] at c3
  have hb1 := h1.lt
  have H1 := xa h1
  have K1 := xa k1
  clear h1 k1
  have H2 : Hid (PaAt (w1.setCell ⟨pb, 3, none⟩ (.bool q)) pb rv rs ⟨s.pos + 1, s.deep, q⟩) := by have := H1.out.setBad q; rw [hnx.out] at this; exact xa this
  go_wp2_with fail
  refine (HG.out _).mono ?_
  rintro e w2 ⟨rfl, rfl⟩
  go_wp2_with fail
  refine (xeI _ _).mono ?_
  rintro e w3 ⟨u, rfl, hr3⟩
  have R3 := xa hr3
  clear hr3
  go_wp2
  go_ret2
  refine ⟨u, by rw [hB.out]; rfl, ?_, ?_, (K1.out.set (p := ⟨pb, 3, none⟩) rfl (.bool q)).trans (R3.out.2.mono (fun _ _ e => e.elim))⟩
  · rw [hL.out]; exact xak R3.out.1 (K1.out.set (p := ⟨pb, 3, none⟩) rfl (.bool q)).size
  rw [hS.out]; exact H2.out.keepsF R3.out.2
end Go.Proofs.YtapmdhejgnplaaaGreat
