/-
  text.Plain: what it computes.
-/
import Derived.Test.YtibfioekmpnkgaaDoorTextW
import Derived.Deep.QuietTactic
import Derived.BigQuiet
import Derived.IntWalk
namespace Go.Proofs.YtibfioekmpnkgaaDoor
open Go.RowKit
set_option linter.unusedVariables false
set_option linter.unusedSimpArgs false
set_option maxRecDepth 100000

theorem drop_at (s : ByteArray) (i : Nat) (h : i < s.size) : s.data.toList.drop i = s[i] :: s.data.toList.drop (i + 1) := by
  have h' : i < s.data.toList.length := by simpa using h
  rw [List.drop_eq_getElem_cons h']; rfl
theorem hexLit : (⟨#[48, 49, 50, 51, 52, 53, 54, 55, 56, 57, 65, 66, 67, 68, 69, 70]⟩ : ByteArray).data.toList = hexs := rfl
theorem index_q (w : World) (x : UInt8) (n : Nat) :
    Calls Tryd.prog 20 #[.string ⟨#[48, 49, 50, 51, 52, 53, 54, 55, 56, 57, 65, 66, 67, 68, 69, 70]⟩, .int .u8 (x.toNat : Int)] (w.drewN n) fun e w' => e = .returned (.int .i64 (hexV x)) ∧ w' = w.drewN n := by
  refine (Tryd.strings_IndexByte _ _ _).mono ?_
  rintro e w' ⟨rfl, rfl⟩
  refine ⟨?_, rfl⟩
  unfold hexV
  rw [hexLit, Int.toNat_natCast, show x.toNat.toUInt8 = x from UInt8.ofNat_toNat]
theorem indexByte_range (l : List UInt8) (c : UInt8) : -1 ≤ Lib.indexByte l c ∧ Lib.indexByte l c < l.length + 0 ∨ Lib.indexByte l c = -1 := by
  induction l with
  | nil => right; rfl
  | cons b l ih =>
    unfold Lib.indexByte
    split
    · left; simp
    · split
      · right; rfl
      · rename_i h
        have : Lib.indexByte l c ≠ -1 := by simpa using h
        left; simp; omega
theorem hexV_range (x : UInt8) : -1 ≤ hexV x ∧ hexV x ≤ 15 := by
  unfold hexV
  have := indexByte_range hexs x
  have h : hexs.length = 16 := rfl
  omega
def hexI (n : Int) : Int := hexV (UInt8.ofNat n.toNat)
theorem hexI_V (x : UInt8) : hexI (x.toNat : Int) = hexV x := by unfold hexI; rw [Int.toNat_natCast, UInt8.ofNat_toNat]
theorem index_i (w : World) (v : Int) (n : Nat) :
    Calls Tryd.prog 20 #[.string ⟨#[48, 49, 50, 51, 52, 53, 54, 55, 56, 57, 65, 66, 67, 68, 69, 70]⟩, .int .u8 v] (w.drewN n) fun e w' => e = .returned (.int .i64 (hexI v)) ∧ w' = w.drewN n := by
  refine (Tryd.strings_IndexByte _ _ _).mono ?_
  rintro e w' ⟨rfl, rfl⟩
  exact ⟨rfl, rfl⟩
theorem or_16 (p q : Nat) (hp : p < 16) (hq : q < 16) : bits BinOp.or IntKind.i64 ((p : Int) * 16) (q : Int) % 256 = ((UInt8.ofNat (p * 16 + q)).toNat : Int) := by
  have : ∀ a b : Fin 16, bits BinOp.or IntKind.i64 ((a.1 : Int) * 16) (b.1 : Int) % 256 = ((UInt8.ofNat (a.1 * 16 + b.1)).toNat : Int) := by decide +kernel
  exact this ⟨p, hp⟩ ⟨q, hq⟩
def PlainR (s : ByteArray) (w : World) (v iv : Value) (wr : World) : Prop :=
  ∃ (i : Nat) (acc : List UInt8), iv = .int .i64 i ∧ i ≤ s.size ∧ wr.ownsRow w.heap.size 5 1 v acc.length (Lib.byteCells acc) ∧ Keeps (fun _ => False) w wr ∧ acc.length ≤ i ∧ unL s.data.toList = (unL (s.data.toList.drop i)).map (acc ++ ·)

def strOf (l : List UInt8) : Value := .string ⟨l.toArray⟩
theorem bytes_list (s : ByteArray) : s.toList = s.data.toList := ByteArray.toList_eq s
theorem bytes_ne {t s : ByteArray} (h : ¬ t = s) : (t.toList == s.toList) = false := by
  rw [bytes_list, bytes_list, beq_eq_false_iff_ne]
  intro e
  apply h
  obtain ⟨⟨a⟩⟩ := t
  obtain ⟨⟨b⟩⟩ := s
  simp at e; rw [e]
theorem bytes_back {w : World} {base : Nat} {v : Value} {l : List UInt8} (h : w.ownsRow base 5 1 v l.length (Lib.byteCells l)) : (convert 37 9 v).run Tryd.prog w = .ok (.string ⟨l.toArray⟩) w := by
  rcases h.2 with ⟨rfl, h0⟩ | ⟨g, cap, cur, rfl, _⟩
  · obtain rfl : l = [] := List.length_eq_zero_iff.1 h0
    rw [run_convert_bytes_string w _ _ 5 none 0 0 Tryd.underlying37 Tryd.underlying5 Tryd.underlying9]
    rfl
  · exact run_convert_bytes_back w _ _ 5 ⟨g, 0, none⟩ cap l Tryd.underlying37 Tryd.underlying5 Tryd.underlying9 (fun j hj => by
      have := h.cells (g := g) rfl j (.int .u8 (l[j].toNat : Int)) (by simp [Lib.byteCells, hj])
      exact this)
set_option maxHeartbeats 2000000 in
theorem plain_any (s : ByteArray) (w : World) (hl : s.size ≤ 10000) :
    Calls Tryd.prog 9 #[.string s] w fun e w' => e = .returned (.tuple #[strOf ((plainL s.data.toList).getD []), .bool (plainL s.data.toList).isSome]) ∧ Keeps (fun _ => False) w w' := by
  obtain ⟨i0, hi0, hz0, hz1, hz2⟩ := info_parts info_u8
  go_enter Tryd.func9, Tryd.ntmps9
  go_wp2_with fail
  go_loopw [4, 5] (fun v iv wr => PlainR s w v iv wr) (fun _ iv _ => s.size - (intOf iv).toNat)
  case atStart => exact ⟨0, [], rfl, Nat.zero_le _, World.ownsRow_nil _ _ _ _, Keeps.refl _ _, Nat.le_refl _, by simp⟩
  case round =>
    obtain ⟨i, acc, rfl, hi, hown, hk, hal, hu⟩ := hrel
    obtain ⟨va, vc, rfl⟩ := ownsRow_slice hown
    have hsk := hk.size
    by_cases hil : i < s.size
    · have hd := drop_at s i hil
      have Hd := Lib.hid hd
      have Hu := Lib.hid hu
      clear hd hu
      by_cases h37 : s[i] = 37
      · have H37 := Lib.hid h37
        have b1 : ((s[i].toNat : Int) != 37) = false := by rw [h37]; rfl
        clear h37
        by_cases h2 : s.size ≤ i + 2
        · have hno : plainL s.data.toList = none := by
            have : unL s.data.toList = none := by
              rw [Hu.out, Hd.out, H37.out]
              by_cases h3 : s.size ≤ i + 1
              · rw [List.drop_eq_nil_of_le (by simpa using h3)]; rfl
              · rw [drop_at s (i + 1) (by omega), List.drop_eq_nil_of_le (by simpa using h2)]; rfl
            unfold plainL; rw [this]
          have Hno := Lib.hid hno
          have b2 : decide ((s.size : Int) ≤ (i : Int) + 2) = true := by simp; omega
          clear hno
          go_wp2_with fail
          go_ret2
          rw [Hno.out]
          exact ⟨rfl, hk⟩
        · have b2 : decide ((s.size : Int) ≤ (i : Int) + 2) = false := by simp; omega
          have j1 : i + 1 < s.size := by omega
          have j2 : i + 2 < s.size := by omega
          have hdd : s.data.toList.drop i = 37 :: s[i + 1] :: s[i + 2] :: s.data.toList.drop (i + 3) := by rw [Hd.out, H37.out, drop_at s (i + 1) j1, drop_at s (i + 2) j2]
          have Hdd := Lib.hid hdd
          have QA := fun v n => index_i wr v n
          have hx := hexV_range s[i + 1]
          have hy := hexV_range s[i + 2]
          obtain ⟨x, ex⟩ : ∃ x, hexI (s[i + 1].toNat : Int) = x := ⟨_, rfl⟩
          obtain ⟨y, ey⟩ : ∃ y, hexI (s[i + 2].toNat : Int) = y := ⟨_, rfl⟩
          have Ex : Hid (hexV s[i + 1] = x) := Lib.hid (by rw [← hexI_V]; exact ex)
          have Ey : Hid (hexV s[i + 2] = y) := Lib.hid (by rw [← hexI_V]; exact ey)
          rw [Ex.out] at hx
          rw [Ey.out] at hy
          clear hdd
          by_cases hneg : x < 0 ∨ y < 0
          · have hno : plainL s.data.toList = none := by
              have : unL s.data.toList = none := by
                rw [Hu.out, Hdd.out, unL_hex, Ex.out, Ey.out, if_pos hneg]; rfl
              unfold plainL; rw [this]
            have Hno := Lib.hid hno
            clear hno
            by_cases hx0 : x < 0
            · have g1 : decide (x < 0) = true := by simpa using hx0
              clear hneg
              go_wp2_with fail
              have n1 : IntKind.i64.wrap ((i : Int) + 1) = (i : Int) + 1 := IntWalk.i64_in _ (by omega)
              have n2 : IntKind.i64.wrap ((i : Int) + 2) = (i : Int) + 2 := IntWalk.i64_in _ (by omega)
              have n3 : ((i : Int) + 1).toNat = i + 1 := by omega
              have n4 : ((i : Int) + 2).toNat = i + 2 := by omega
              have n5 : 0 ≤ (i : Int) + 1 := by omega
              have n6 : 0 ≤ (i : Int) + 2 := by omega
              have n7 : (i : Int) + 1 < (s.size : Int) := by omega
              have n8 : (i : Int) + 2 < (s.size : Int) := by omega
              go_quiet ((go_at_call 20; exact Calls.quiet_of_same (QA _ _)))
              rw [ex, ey]
              clear n1 n2 ex ey
              go_wp2_with fail
              go_ret2
              rw [Hno.out]
              exact ⟨rfl, hk.drawN _⟩
            · have g1 : decide (x < 0) = false := by simpa using hx0
              have g2 : decide (y < 0) = true := by simp; omega
              have g3 : y < 0 := by omega
              clear hneg
              go_wp2_with fail
              have n1 : IntKind.i64.wrap ((i : Int) + 1) = (i : Int) + 1 := IntWalk.i64_in _ (by omega)
              have n2 : IntKind.i64.wrap ((i : Int) + 2) = (i : Int) + 2 := IntWalk.i64_in _ (by omega)
              have n3 : ((i : Int) + 1).toNat = i + 1 := by omega
              have n4 : ((i : Int) + 2).toNat = i + 2 := by omega
              have n5 : 0 ≤ (i : Int) + 1 := by omega
              have n6 : 0 ≤ (i : Int) + 2 := by omega
              have n7 : (i : Int) + 1 < (s.size : Int) := by omega
              have n8 : (i : Int) + 2 < (s.size : Int) := by omega
              go_quiet ((go_at_call 20; exact Calls.quiet_of_same (QA _ _)))
              rw [ex, ey]
              clear n1 n2 ex ey
              go_wp2_with fail
              go_ret2
              rw [Hno.out]
              exact ⟨rfl, hk.drawN _⟩
          · have g1 : decide (x < 0) = false := by simp; omega
            have g2 : decide (y < 0) = false := by simp; omega
            have Hneg := Lib.hid hneg
            obtain ⟨p, rfl⟩ := Int.eq_ofNat_of_zero_le (show 0 ≤ x by omega)
            obtain ⟨q, rfl⟩ := Int.eq_ofNat_of_zero_le (show 0 ≤ y by omega)
            clear hneg
            go_wp2_with fail
            have n1 : IntKind.i64.wrap ((i : Int) + 1) = (i : Int) + 1 := IntWalk.i64_in _ (by omega)
            have n2 : IntKind.i64.wrap ((i : Int) + 2) = (i : Int) + 2 := IntWalk.i64_in _ (by omega)
            have n3 : ((i : Int) + 1).toNat = i + 1 := by omega
            have n4 : ((i : Int) + 2).toNat = i + 2 := by omega
            have n5 : 0 ≤ (i : Int) + 1 := by omega
            have n6 : 0 ≤ (i : Int) + 2 := by omega
            have n7 : (i : Int) + 1 < (s.size : Int) := by omega
            have n8 : (i : Int) + 2 < (s.size : Int) := by omega
            go_quiet ((go_at_call 20; exact Calls.quiet_of_same (QA _ _)))
            rw [ex, ey]
            clear n1 n2 ex ey
            have ho := ownsRow_drawN hown nq
            go_wp2_with (at_builtin; refine wpList_append_own _ rfl (.tmp 46) (.tmp 52) 37 rfl w.heap.size 5 i0 (.int .u8 0) 1 1 Tryd.underlying37 hi0 hz0 hz1 hz2 rfl (by decide) _ _ _ rfl (ho.alloc _) ⟨(wr.drewN nq).heap.size, 0, none⟩ 1 1 [.int .u8 (bits BinOp.or IntKind.i64 ((p : Int) * 16) (q : Int) % 256)] rfl rfl (by exact cells_new _ [_] _) (by intro u hu; simp at hu; subst hu; rfl) ?d3 ?d4 ?d5 ?_)
            case d3 => unfold maxLen; omega
            case d4 => omega
            case d5 => simp; omega
            intro v' w2 hown' hgrow _
            go_wp2_with fail
            go_roundw
            case rel =>
              refine ⟨i + 3, acc ++ [UInt8.ofNat (p * 16 + q)], by go_num, by omega, ?_, ((hk.drawN nq).alloc _).grown hgrow (fun b hb => Or.inr (by have := ownBlock_base hown b hb; omega)), by simp; omega, ?_⟩
              · rw [or_16 p q (by omega) (by omega)] at hown'
                rw [byteCells_snoc]; simpa using hown'
              · rw [Hu.out, Hdd.out, unL_hex, Ex.out, Ey.out, if_neg Hneg.out, Option.map_map]
                congr 1
                funext r; simp
            case measure => simp [intOf]; omega
      · have b1 : ((s[i].toNat : Int) != 37) = true := by
          simp only [bne_iff_ne, ne_eq]
          intro e
          exact h37 (UInt8.toNat_inj.1 (by rw [show (37 : UInt8).toNat = 37 from rfl]; omega))
        have Hn := Lib.hid h37
        clear h37
        go_wp2_with (at_builtin; refine wpList_append_own _ rfl (.tmp 19) (.tmp 23) 37 rfl w.heap.size 5 i0 (.int .u8 0) 1 1 Tryd.underlying37 hi0 hz0 hz1 hz2 rfl (by decide) _ _ _ rfl (hown.alloc _) ⟨wr.heap.size, 0, none⟩ 1 1 [.int .u8 (s[i].toNat : Int)] rfl rfl (by exact cells_new _ [_] _) (by intro u hu; simp at hu; subst hu; rfl) ?d3 ?d4 ?d5 ?_)
        case d3 => unfold maxLen; omega
        case d4 => omega
        case d5 => simp; omega
        intro v' w2 hown' hgrow _
        go_wp2_with fail
        go_roundw
        case rel =>
          refine ⟨i + 1, acc ++ [s[i]], by go_num, by omega, by rw [byteCells_snoc]; simpa using hown', (hk.alloc _).grown hgrow (fun b hb => Or.inr (by have := ownBlock_base hown b hb; omega)), by simp; omega, ?_⟩
          rw [Hu.out, Hd.out, unL_bare _ _ Hn.out, Option.map_map]
          congr 1
          funext r; simp
        case measure => simp [intOf]; omega
    · obtain rfl : i = s.size := by omega
      have hu2 : unL s.data.toList = some acc := by
        rw [hu, List.drop_eq_nil_of_le (by simp)]; simp [unL]
      have hback := bytes_back hown
      have hacc : acc.length ≤ 100000 := by omega
      have hW := word_any acc wr hacc
      have hp : plainL s.data.toList = if wordL acc = s.data.toList then some acc else none := by unfold plainL; rw [hu2]
      have Hp := Lib.hid hp
      clear hu hp hu2
      by_cases he : wordL acc = s.data.toList
      · have hs2 : (⟨(wordL acc).toArray⟩ : ByteArray) = s := by obtain ⟨⟨l⟩⟩ := s; simp at he; rw [he]
        rw [hs2] at hW
        have He := Lib.hid he
        clear he hs2
        go_wp2_with fail
        refine hW.mono ?_
        rintro e w2 ⟨rfl, hk2⟩
        clear hW
        go_wp2_with fail
        go_ret2
        rw [Hp.out, if_pos He.out]
        exact ⟨rfl, hk.trans hk2⟩
      · have hs2 : ¬ (⟨(wordL acc).toArray⟩ : ByteArray) = s := by intro e; apply he; rw [← e]
        have He := Lib.hid he
        clear he
        generalize (⟨(wordL acc).toArray⟩ : ByteArray) = t at *
        have g1 : (t.toList == s.toList) = false := bytes_ne hs2
        have g2 : (!(t.toList == s.toList)) = true := by rw [g1]; rfl
        clear hs2
        go_wp2_with fail
        refine hW.mono ?_
        rintro e w2 ⟨rfl, hk2⟩
        clear hW
        go_wp2_with fail
        go_ret2
        rw [Hp.out, if_neg He.out]
        exact ⟨rfl, hk.trans hk2⟩
end Go.Proofs.YtibfioekmpnkgaaDoor
