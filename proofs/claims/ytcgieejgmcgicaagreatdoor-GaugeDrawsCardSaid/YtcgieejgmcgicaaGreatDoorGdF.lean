/-
  GaugeDraws: the document's lines: the walk of reedbedref30.Draw. No condition.
-/
import Derived.Test.YtcgieejgmcgicaaGreatDoorGdE
import Derived.Test.YtcgieejgmcgicaaGreatDoorGdDg
namespace Go.Proofs.YtcgieejgmcgicaaGreatDoor
open Go.RowKit
set_option linter.unusedVariables false
set_option linter.unusedSimpArgs false
set_option maxRecDepth 100000

theorem lineR_zero (c : Nat) : lineR c 0 = Lib.decDigits c := by simp [lineR]
theorem lineR_one (c : Nat) : lineR c 1 = Lib.decDigits c ++ [32] ++ [35] := by simp [lineR]
theorem lineR_succ (c j : Nat) (h : 1 ≤ j) : lineR c (j + 1) = lineR c j ++ [35] := by
  unfold lineR
  rw [if_neg (by omega), if_neg (by omega), List.replicate_succ']
  simp
theorem lineR_len (c j : Nat) (h : (Lib.decDigits c).length ≤ 20) (hj : j ≤ 41) : (lineR c j).length ≤ 100 := by
  unfold lineR
  split <;> simp <;> omega
theorem loop_last (l : List Int) (m f k : Nat) (h : up f (clAt l m) k = scaleN l (m + 1)) (hk : ¬ 40 * k < clAt l m) : k = scaleN l (m + 1) := (up_stop f hk).symm.trans h
set_option maxHeartbeats 8000000 in
theorem rdraw_any (l : List Int) (v : Value) (w : World) (h : ISl w v l) (hl : l.length ≤ 1000) (hin : ∀ x ∈ l, in64 x) :
    Calls Tryz.prog 41 #[v] w (DrawE l w) := by
  obtain ⟨a, cap, rfl, hl2, hc⟩ := ISl.cells h
  have Hc := Lib.hid hc
  have HX := Lib.hid hin
  have HR : Hid (∀ K, linesN l K l.length = linesN l K l.length) := Lib.hid (fun _ => rfl)
  unfold DrawE
  clear hc h hin
  go_enter Tryz.func41, Tryz.ntmps41
  go_wp2_with fail
  go_loopw [3, 4, 5] (fun ov kv i wr => ∃ m : Nat, m ≤ l.length ∧ i = .int .i64 m ∧ kv = .int .i64 (scaleN l m) ∧ wr.ownsRow w.heap.size 3 1 ov (clN l m).length (clN l m) ∧ Keeps (fun _ => False) w wr) (fun _ _ i _ => l.length - (intOf i).toNat)
  case atStart => exact ⟨0, Nat.zero_le _, rfl, rfl, World.ownsRow_nil _ _ _ _, Keeps.refl _ _⟩
  case round =>
    obtain ⟨m, hm, rfl, rfl, hown, hk⟩ := hrel
    have HO := Lib.hid hown
    have HK := Lib.hid hk
    by_cases hlt : m < l.length
    · obtain ⟨b, off, rfl, hb, hcc⟩ := Hc.out (by omega)
      have c0 := hk.cell (hcc m hlt) id
      have hx : in64 (l.getD m 0) := HX.out _ (by rw [List.getD, List.getElem?_eq_getElem hlt]; exact List.getElem_mem hlt)
      unfold in64 at hx
      have HC : Hid (clAt l m = cl (l.getD m 0)) := Lib.hid rfl
      have HL := Lib.hid (clN_succ l m)
      have hll := clN_len l m
      have hs1 := scale_pos l m
      have hs2 := scale_le l m
      have hcl := clAt_le l m
      have Hroom := Lib.hid (@up_room l m _ hs1)
      have Hn : Hid (up 64 (clAt l m) (scaleN l m) = scaleN l (m + 1)) := Lib.hid rfl
      have Hlast := Lib.hid (loop_last l m)
      generalize l.getD m 0 = x at *
      have HE : Hid (((clAt l m : Nat) : Int) = min (max x 0) 1099511627776) := Lib.hid (by rw [HC.out, cl_int])
      generalize clAt l m = C at *
      generalize scaleN l m = K at *
      clear hcc hk hown
      go_upto_if 22 with fail
      go_cut [6] (fun nv wx => nv = .int .i64 (max x 0) ∧ wr = wx)
      case first =>
        by_cases h0 : x < 0
        · go_wp2_with fail
          go_meet
          exact ⟨by congr 1; omega, rfl⟩
        · go_wp2_with fail
          go_meet
          exact ⟨by congr 1; omega, rfl⟩
      case rest =>
        obtain ⟨rfl, rfl⟩ := hcut
        go_upto_if 24 with fail
        go_cut [6] (fun nv wx => nv = .int .i64 (C : Int) ∧ wr = wx)
        case first =>
          have he := HE.out
          generalize (C : Int) = CI at *
          by_cases h0 : 1099511627776 < max x 0
          · go_wp2_with fail
            go_meet
            exact ⟨by congr 1; omega, rfl⟩
          · go_wp2_with fail
            go_meet
            exact ⟨by congr 1; omega, rfl⟩
        case rest =>
          obtain ⟨rfl, rfl⟩ := hcut
          clear c0 hx
          go_wp2_with (at_builtin; refine wpList_one_int rfl _ _ rfl w _ _ _ rfl (by exact HO.out) rfl (by omega) HK.out ?_)
          intro v' w3 hown' hk3
          have HO3 := Lib.hid hown'
          have HK3 := Lib.hid hk3
          clear hown' hk3
          go_wp2_with fail
          go_loopw [4] (fun kv w2 => ∃ (f kc : Nat), kv = .int .i64 kc ∧ up f C kc = scaleN l (m + 1) ∧ 1 ≤ kc ∧ kc ≤ 54975581388 ∧ C ≤ 40 * (kc * 2 ^ f) ∧ w2 = w3) (fun kv _ => 200000000000 - (intOf kv).toNat)
          case atStart => exact ⟨64, _, rfl, Hn.out, hs1, hs2, Hroom.out, rfl⟩
          case round =>
            obtain ⟨f, kc, rfl, hup, h1, h2, h3, rfl⟩ := hrel
            have w1 : IntKind.i64.wrap (40 * (kc : Int)) = 40 * (kc : Int) := IntWalk.i64_in _ (by omega)
            by_cases hk : 40 * kc < C
            · obtain ⟨g, hg1, hg2⟩ := up_more f h3 hk
              have d1 : decide (40 * (kc : Int) < (C : Int)) = true := by simp; omega
              have w2 : IntKind.i64.wrap (2 * (kc : Int)) = 2 * (kc : Int) := IntWalk.i64_in _ (by omega)
              have Hup := Lib.hid (hg1.symm.trans hup)
              have Hg2 := Lib.hid hg2
              clear hg1 hup h3 hg2
              go_wp2_with fail
              go_roundw
              case rel => exact ⟨g, 2 * kc, by (congr 1), Hup.out, by omega, by omega, Hg2.out, by first | rfl | trivial⟩
              case measure => (simp [intOf] <;> omega)
            · have d1 : decide (40 * (kc : Int) < (C : Int)) = false := by simp; omega
              have Hend := Lib.hid (Hlast.out f kc hup hk)
              clear hup h3
              go_wp2_with fail
              go_roundw
              case rel => exact ⟨m + 1, by omega, by go_num, by rw [Hend.out], by rw [HL.out]; simpa [hll] using HO3.out, HK3.out⟩
              case measure => (simp [intOf] <;> omega)
    · have : m = l.length := by omega
      subst this
      obtain ⟨wl, rfl⟩ : ∃ W, W = wr := ⟨_, rfl⟩
      have hs1 := scale_pos l l.length
      have hs2 := scale_le l l.length
      have hE := Lib.hid (fun j (hj : j < l.length) => scale_enough l hj)
      have hll := clN_len l l.length
      have hcells : l.length = 0 ∨ ∃ g icap, u3 = .slice (some ⟨g, 0, none⟩) l.length icap ∧ g < wl.heap.size ∧ ∀ j, j < l.length → wl.cell? ⟨g, j, none⟩ = some (.int .i64 (clAt l j : Int)) := by
        rw [hll] at hown
        rcases hown.2 with ⟨rfl, h0⟩ | ⟨g, icap, cur, rfl, hg, hh, _⟩
        · exact .inl h0
        · refine .inr ⟨g, icap, rfl, (Array.getElem?_eq_some_iff.1 hh).1, fun j hj => ?_⟩
          rw [hown.cellAt j (by omega)]
          simp [clN, hj]
      have hv3 : ∃ ad icap, u3 = .slice ad l.length icap := by
        rcases hown.2 with ⟨rfl, h0⟩ | ⟨g, icap, cur, rfl, _⟩
        · exact ⟨_, _, by rw [← hll, h0]⟩
        · exact ⟨_, _, by rw [hll]⟩
      obtain ⟨ad, icap, rfl⟩ := hv3
      have HCE := Lib.hid hcells
      generalize hKK : scaleN l l.length = K at *
      have HKK := Lib.hid hKK
      clear hown hk hcells hKK
      go_wp2_with fail
      go_loopw [7, 8] (fun ov i w2 => ∃ m : Nat, m ≤ l.length ∧ i = .int .i64 m ∧ w2.ownsRow wl.heap.size 9 1 ov m (linesN l K m) ∧ Keeps (fun _ => False) wl w2) (fun _ i _ => l.length - (intOf i).toNat)
      case atStart => exact ⟨0, Nat.zero_le _, rfl, World.ownsRow_nil _ _ _ _, Keeps.refl _ _⟩
      case round =>
        obtain ⟨m, hm, rfl, hown, hk⟩ := hrel
        have HO2 := Lib.hid hown
        have HK2 := Lib.hid hk
        by_cases hlt : m < l.length
        · obtain ⟨g, ic, hge, hg, hcc⟩ : ∃ g ic, (Value.slice ad l.length icap) = .slice (some ⟨g, 0, none⟩) l.length ic ∧ g < wl.heap.size ∧ ∀ j, j < l.length → wl.cell? ⟨g, j, none⟩ = some (.int .i64 (clAt l j : Int)) := by
            rcases HCE.out with h | h
            · omega
            · exact h
          obtain ⟨rfl, rfl⟩ : ad = some ⟨g, 0, none⟩ ∧ icap = ic := by simpa using hge
          have c1 := hcc m hlt
          have hEm := hE.out m hlt
          have hcl := clAt_le l m
          have hbl := bar_le hs1 hEm
          have HL := Lib.hid (linesN_succ l K m)
          have hln := linesN_len l K m
          have HLE := Lib.hid (line_eq (clAt l m) K)
          have HBL := Lib.hid (fun j => @bar_lt (clAt l m) K j hs1)
          have c2 := hk.cell c1 id
          have c3 := Lib.hid (fun W (k : Keeps (fun _ => False) wr W) => k.cell c2 id)
          generalize clAt l m = C at *
          have hdl := decDigits_short C 19 (by omega)
          have HD := Lib.hid (digits18 C wr (by omega))
          have HR0 := Lib.hid (lineR_zero C)
          have HR1 := Lib.hid (lineR_one C)
          have HRS := Lib.hid (lineR_succ C)
          have HRL := Lib.hid (fun j hj => lineR_len C j hdl hj)
          generalize Lib.decDigits C = D at *
          clear hcc c1 hk hown hge hdl
          go_wp2_with fail
          refine HD.out.mono ?_
          rintro e w3 ⟨rfl, k3⟩
          have K3 := Lib.hid k3
          have O3 := Lib.hid (ownsRow_keeps HO2.out k3 (fun _ _ => id))
          have d2 := c3.out _ k3
          clear k3 c2
          go_wp2_with fail
          go_loopw [9, 10] (fun sv at' w4 => ∃ j : Nat, sv = strL (lineR C j) ∧ at' = .int .i64 ((j * K : Nat) : Int) ∧ j ≤ barN C K ∧ w3 = w4) (fun _ at' _ => C - (intOf at').toNat)
          case atStart => exact ⟨0, by rw [HR0.out], by simp, Nat.zero_le _, rfl⟩
          case round =>
            obtain ⟨j, rfl, rfl, hj, rfl⟩ := hrel
            have hjj := HBL.out j
            have hjl := HRL.out j (by omega)
            obtain ⟨J, hJ⟩ : ∃ J, J = j * K := ⟨_, rfl⟩
            have hJ1 : (j + 1) * K = J + K := by rw [Nat.succ_mul, hJ]
            have hJ0 : j = 0 ↔ J = 0 := by
              rw [hJ]
              constructor
              · rintro rfl; simp
              · intro h
                rcases Nat.mul_eq_zero.1 h with h | h
                · exact h
                · omega
            rw [← hJ] at hjj ⊢
            have HJ1 := Lib.hid hJ1
            clear hJ hJ1
            by_cases hlt2 : J < C
            · have w5 : IntKind.i64.wrap ((J : Int) + (K : Int)) = (J : Int) + (K : Int) := IntWalk.i64_in _ (by omega)
              have hjb := hjj.1 hlt2
              unfold strL
              by_cases h0 : j = 0
              · obtain rfl : J = 0 := hJ0.1 h0
                subst h0
                have HRx := Lib.hid (HR0.out)
                go_wp2_with fail
                go_roundw
                case rel => exact ⟨1, by rw [HR1.out, HR0.out]; exact congrArg Value.string (by apply ByteArray.ext; simp), by rw [Nat.one_mul], by omega, by first | rfl | trivial⟩
                case measure => (simp [intOf] <;> omega)
              · have hJn : ((J : Int) == 0) = false := by simp; omega
                go_wp2_with fail
                go_roundw
                case rel => exact ⟨j + 1, by rw [HRS.out j (by omega)]; exact congrArg Value.string (by apply ByteArray.ext; simp), by rw [HJ1.out]; simp, by omega, by first | rfl | trivial⟩
                case measure => (simp [intOf] <;> omega)
            · have hjb : j = barN C K := by have := fun h => hlt2 (hjj.2 h); omega
              have HJB := Lib.hid hjb
              clear hjj hjb
              unfold strL
              go_wp2_with (at_builtin; refine wpList_one_str rfl _ _ rfl wl _ _ _ rfl (by rw [hln]; exact O3.out) rfl (by omega) (by exact HK2.out.trans K3.out) ?_)
              intro v' w6 hown' hk6
              go_wp2_with fail
              go_roundw
              case rel => exact ⟨m + 1, by omega, by go_num, by rw [HL.out, HLE.out, ← HJB.out]; unfold strL; simpa [hln] using hown', hk6⟩
              case measure => (simp [intOf] <;> omega)
        · have : m = l.length := by omega
          subst this
          go_wp2_with fail
          go_ret
          exact ⟨_, rfl, by rw [HKK.out]; exact own_monoG HO2.out HK.out.size, HK.out.trans HK2.out⟩
end Go.Proofs.YtcgieejgmcgicaaGreatDoor
