/-
  The walk of SetNamed.
-/
import Derived.Test.YtibfioekmpnkgaaSetNamedW
namespace Go.Proofs.Ytibfioekmpnkgaa
open Go.RowKit
set_option linter.unusedVariables false
set_option linter.unusedSimpArgs false
set_option maxRecDepth 100000

def SNam (c : Int) (w : World) (e : Ending) (w' : World) : Prop := ∃ u out, e = .returned (.tuple #[u, .bool (okN c)]) ∧ RSl w' u out ∧ out.length ≤ 5 ∧ Keeps (fun _ => False) w w' ∧ (okN c = false → out = []) ∧ (okN c = true → Norm out ∧ ∀ r, mem out r = (namB c r && inAll r))

theorem low_ok {c : Int} {L out : List (Int × Int)} (hc : okN c = true) (h : IsOf L out) (hm : ∀ r, mem L r = namB c r) : Norm out ∧ ∀ r, mem out r = (namB c r && inAll r) :=
  ⟨h.1, fun r => by rw [h.2]; unfold has; rw [hm]⟩
theorem up_ok {c : Int} {L out : List (Int × Int)} (hc : okN c = true) (h : IsNot L out) (hm : ∀ r, inAll r = true → mem L r = !namB c r) : Norm out ∧ ∀ r, mem out r = (namB c r && inAll r) :=
  ⟨h.1, fun r => by
    rw [h.2]; unfold has
    cases hi : inAll r
    · simp
    · rw [hm r hi]; simp⟩
theorem mem_dig (r : Int) : mem [(48, 57)] r = digB r := by rw [Bool.eq_iff_iff]; simp [mem, digB]
theorem mem_spc (r : Int) : mem [(9, 13), (32, 32)] r = spcB r := by rw [Bool.eq_iff_iff]; simp [mem, spcB]; omega
theorem mem_wrd (r : Int) : mem [(65, 90), (97, 122), (95, 95), (48, 57)] r = wrdB r := by rw [Bool.eq_iff_iff]; simp [mem, wrdB, digB]; omega

theorem setNamed_any (c : Int) (w : World) (h0 : 0 ≤ c) (h1 : c ≤ 255) : Calls Try.prog 35 #[.int .u8 c] w (SNam c w) := by
  cases hok : okN c
  · refine (setNamed_other c w h0 h1 hok).mono ?_
    rintro e w' ⟨rfl, rfl⟩
    exact ⟨_, [], by rw [hok], ⟨SlOf.nil _ _ _, by simp⟩, by simp, Keeps.refl _ _, fun _ => rfl, fun h => by rw [hok] at h; cases h⟩
  · have hc : c = 100 ∨ c = 119 ∨ c = 115 ∨ c = 68 ∨ c = 87 ∨ c = 83 := by simp [okN] at hok; omega
    rcases hc with rfl | rfl | rfl | rfl | rfl | rfl
    · refine (setNamed_100 w).mono ?_
      rintro e w' ⟨u, out, rfl, hof, hown, hlo⟩
      exact ⟨u, out, by rw [hok], hown.read (by omega) (norm64 hof.1), hlo, hown.2, (fun h => by rw [hok] at h; cases h), fun _ => low_ok hok hof (fun r => by rw [mem_dig]; rfl)⟩
    · refine (setNamed_119 w).mono ?_
      rintro e w' ⟨u, out, rfl, hof, hown, hlo⟩
      exact ⟨u, out, by rw [hok], hown.read (by omega) (norm64 hof.1), hlo, hown.2, (fun h => by rw [hok] at h; cases h), fun _ => low_ok hok hof (fun r => by rw [mem_wrd]; rfl)⟩
    · refine (setNamed_115 w).mono ?_
      rintro e w' ⟨u, out, rfl, hof, hown, hlo⟩
      exact ⟨u, out, by rw [hok], hown.read (by omega) (norm64 hof.1), hlo, hown.2, (fun h => by rw [hok] at h; cases h), fun _ => low_ok hok hof (fun r => by rw [mem_spc]; rfl)⟩
    · refine (setNamed_68 w).mono ?_
      rintro e w' ⟨u, out, rfl, hof, hown, hlo⟩
      exact ⟨u, out, by rw [hok], hown.read (by omega) (norm64 hof.1), hlo, hown.2, (fun h => by rw [hok] at h; cases h), fun _ => up_ok hok hof (fun r _ => by rw [mem_dig, show namB 68 r = !digB r from rfl, Bool.not_not])⟩
    · refine (setNamed_87 w).mono ?_
      rintro e w' ⟨u, out, rfl, hof, hown, hlo⟩
      exact ⟨u, out, by rw [hok], hown.read (by omega) (norm64 hof.1), hlo, hown.2, (fun h => by rw [hok] at h; cases h), fun _ => up_ok hok hof (fun r _ => by rw [mem_wrd, show namB 87 r = !wrdB r from rfl, Bool.not_not])⟩
    · refine (setNamed_83 w).mono ?_
      rintro e w' ⟨u, out, rfl, hof, hown, hlo⟩
      exact ⟨u, out, by rw [hok], hown.read (by omega) (norm64 hof.1), hlo, hown.2, (fun h => by rw [hok] at h; cases h), fun _ => up_ok hok hof (fun r _ => by rw [mem_spc, show namB 83 r = !spcB r from rfl, Bool.not_not])⟩

def NamedR (w3 : World) (n : Nat) (iv : Value) (wr : World) : Prop := ∃ i : Nat, iv = .int .i64 i ∧ i ≤ n ∧ Keeps (fun _ => False) w3 wr

set_option maxHeartbeats 2000000 in
theorem named_main (c r : Int) (w : World) (h0 : 0 ≤ c) (h1 : c ≤ 255) :
    Calls Try.prog 8 #[.int .u8 c, .int .i64 r] w fun e w' => e = .returned (.bool true) ∧ Keeps (fun _ => False) w w' := by
  go_enter Try.func8, Try.ntmps8
  go_wp2_with fail
  refine (lawAwake_any _).mono ?_
  rintro e w1 ⟨rfl, hk1⟩
  go_wp2_with fail
  refine (setNamed_any c _ h0 h1).mono ?_
  rintro e w2 ⟨u, out, rfl, hr, hlo, hkk, hno, hyes⟩
  have hk2 := hk1.trans hkk
  clear hk1 hkk
  obtain ⟨ua, uc, rfl, _, _⟩ := hr.cells
  have Hno := Lib.hid hno
  have Hyes := Lib.hid hyes
  clear hno hyes
  go_wp2_with fail
  refine (refNamed_any c 0 _).mono ?_
  rintro e w3 ⟨rfl, rfl⟩
  cases hok : okN c
  · have := Hno.out hok
    subst this
    go_wp2_with fail
    go_ret
    exact ⟨rfl, hk2⟩
  · obtain ⟨hn, hm⟩ := Hyes.out hok
    have Hm := Lib.hid hm
    clear hm Hno Hyes
    have Hc := Lib.hid (show ∀ (i : Nat) (x : Int), ([r, 0, 8, 9, 13, 14, 32, 47, 48, 57, 58, 64, 65, 90, 91, 94, 95, 96, 97, 122, 123, 1114111] : List Int)[i]? = some x → (w3.alloc (.cells (([r, 0, 8, 9, 13, 14, 32, 47, 48, 57, 58, 64, 65, 90, 91, 94, 95, 96, 97, 122, 123, 1114111] : List Int).map (Value.int .i64)).toArray 3)).cell? ⟨w3.heap.size, i, none⟩ = some (.int .i64 x) from fun i x hx => by rw [cell_new, List.getElem?_toArray, List.getElem?_map, hx]; rfl)
    have Hl := Lib.hid (show ([r, 0, 8, 9, 13, 14, 32, 47, 48, 57, 58, 64, 65, 90, 91, 94, 95, 96, 97, 122, 123, 1114111] : List Int).length = 22 from rfl)
    simp only [List.map_cons, List.map_nil] at Hc
    generalize hvs : ([r, 0, 8, 9, 13, 14, 32, 47, 48, 57, 58, 64, 65, 90, 91, 94, 95, 96, 97, 122, 123, 1114111] : List Int) = vs at Hc Hl
    clear hvs
    have h3 := hr.keep ((Keeps.refl (fun _ => False) w3).alloc (.cells #[.int .i64 r, .int .i64 0, .int .i64 8, .int .i64 9, .int .i64 13, .int .i64 14, .int .i64 32, .int .i64 47, .int .i64 48, .int .i64 57, .int .i64 58, .int .i64 64, .int .i64 65, .int .i64 90, .int .i64 91, .int .i64 94, .int .i64 95, .int .i64 96, .int .i64 97, .int .i64 122, .int .i64 123, .int .i64 1114111] 3))
    have hk3 := hk2.alloc (.cells #[.int .i64 r, .int .i64 0, .int .i64 8, .int .i64 9, .int .i64 13, .int .i64 14, .int .i64 32, .int .i64 47, .int .i64 48, .int .i64 57, .int .i64 58, .int .i64 64, .int .i64 65, .int .i64 90, .int .i64 91, .int .i64 94, .int .i64 95, .int .i64 96, .int .i64 97, .int .i64 122, .int .i64 123, .int .i64 1114111] 3)
    go_wp2_with fail
    generalize hwl : (w3.alloc (.cells #[.int .i64 r, .int .i64 0, .int .i64 8, .int .i64 9, .int .i64 13, .int .i64 14, .int .i64 32, .int .i64 47, .int .i64 48, .int .i64 57, .int .i64 58, .int .i64 64, .int .i64 65, .int .i64 90, .int .i64 91, .int .i64 94, .int .i64 95, .int .i64 96, .int .i64 97, .int .i64 122, .int .i64 123, .int .i64 1114111] 3)) = wl at *
    clear hwl
    go_loopw [10] (fun iv wr => NamedR wl 22 iv wr) (fun iv _ => 22 - (intOf iv).toNat)
    case atStart => exact ⟨0, rfl, by omega, Keeps.refl _ _⟩
    case round =>
      obtain ⟨i, rfl, hi, hkr⟩ := hrel
      by_cases hlt : i < 22
      · obtain ⟨x, hx⟩ : ∃ x, vs[i]? = some x := ⟨_, List.getElem?_eq_getElem (by rw [Hl.out]; exact hlt)⟩
        have d0 := hkr.cell (Hc.out i x hx) id
        have hv : has out x = (namB c x && inAll x) := by rw [hn.has, Hm.out]
        have HK := fun W (k : Keeps (fun _ => False) wl W) => refHas_any out _ x W (h3.keep k)
        rw [hv] at HK
        clear hv hx
        by_cases hx0 : 0 ≤ x ∧ x ≤ 1114111
        · obtain ⟨x0, x1⟩ := hx0
          have hin : inAll x = true := by simp [inAll, x0, x1]
          rw [hin] at HK
          cases hb : namB c x
          · rw [hb] at HK
            simp only [Bool.and_true] at HK
            go_wp2_with fail
            refine (refNamed_any c x _).mono ?_
            rintro e wx ⟨rfl, rfl⟩
            simp only [hb, hok]
            go_wp2_with fail
            refine (HK _ hkr).mono ?_
            rintro e wx ⟨rfl, rfl⟩
            go_wp2_with fail
            go_roundw
            case rel => exact ⟨i + 1, by go_num, by omega, hkr⟩
            case measure => simp [intOf]; omega
          · rw [hb] at HK
            simp only [Bool.and_true] at HK
            go_wp2_with fail
            refine (refNamed_any c x _).mono ?_
            rintro e wx ⟨rfl, rfl⟩
            simp only [hb, hok]
            go_wp2_with fail
            refine (HK _ hkr).mono ?_
            rintro e wx ⟨rfl, rfl⟩
            go_wp2_with fail
            go_roundw
            case rel => exact ⟨i + 1, by go_num, by omega, hkr⟩
            case measure => simp [intOf]; omega
        · have hin : inAll x = false := by
            unfold inAll; rw [Bool.and_eq_false_iff, decide_eq_false_iff_not, decide_eq_false_iff_not]; omega
          rw [hin] at HK
          simp only [Bool.and_false] at HK
          cases hb : namB c x
          · go_wp2_with fail
            refine (refNamed_any c x _).mono ?_
            rintro e wx ⟨rfl, rfl⟩
            simp only [hb, hok]
            go_wp2_with fail
            refine (HK _ hkr).mono ?_
            rintro e wx ⟨rfl, rfl⟩
            go_wp2_with fail
            go_roundw
            case rel => exact ⟨i + 1, by go_num, by omega, hkr⟩
            case measure => simp [intOf]; omega
          · by_cases x0 : 0 ≤ x
            · have x1 : decide (x ≤ 1114111) = false := by simp; omega
              go_wp2_with fail
              refine (refNamed_any c x _).mono ?_
              rintro e wx ⟨rfl, rfl⟩
              simp only [hb, hok]
              go_wp2_with fail
              refine (HK _ hkr).mono ?_
              rintro e wx ⟨rfl, rfl⟩
              go_wp2_with fail
              go_roundw
              case rel => exact ⟨i + 1, by go_num, by omega, hkr⟩
              case measure => simp [intOf]; omega
            · have x1 : decide (0 ≤ x) = false := by simp; omega
              go_wp2_with fail
              refine (refNamed_any c x _).mono ?_
              rintro e wx ⟨rfl, rfl⟩
              simp only [hb, hok]
              go_wp2_with fail
              refine (HK _ hkr).mono ?_
              rintro e wx ⟨rfl, rfl⟩
              go_wp2_with fail
              go_roundw
              case rel => exact ⟨i + 1, by go_num, by omega, hkr⟩
              case measure => simp [intOf]; omega
      · obtain rfl : i = 22 := by omega
        go_wp2_with fail
        refine (refRight_any out _ _ (h3.keep hkr)).mono ?_
        rintro e w4 ⟨s, rfl, hs, n4, rfl⟩
        obtain rfl : s = true := hs.2 hn
        go_wp2_with fail
        go_ret
        exact ⟨rfl, hk3.trans (hkr.drawN _)⟩
end Go.Proofs.Ytibfioekmpnkgaa
