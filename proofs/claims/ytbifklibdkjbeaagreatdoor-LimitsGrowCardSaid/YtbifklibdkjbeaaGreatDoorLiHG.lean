/-
  LimitsGrow: the law, for whatever came in. No condition.
-/
import Derived.Test.YtbifklibdkjbeaaGreatDoorLiGG
import Derived.Test.YtbifklibdkjbeaaGreatDoorMg30
import Derived.Test.YtbifklibdkjbeaaGreatDoorEvLiG
import Derived.Test.YtbifklibdkjbeaaGreatDoorJvPG
import Derived.OpenShut
namespace Go.Proofs.YtbifklibdkjbeaaGreatDoor
open Go.RowKit
set_option linter.unusedVariables false
set_option linter.unusedSimpArgs false
set_option maxRecDepth 100000
section
open Go.ChangeShapes Go.WideShapes Go.ChangeAt
theorem xju {j : JV} (k : JOk j) : xaF j = true := by
 unfold xaF
 have := k.cd; have := k.mo; have := k.te; have := k.be; have := k.af; have := k.bu; have := k.ch; have := k.ro; have := k.wo; have := k.rg
 simp; omega
theorem xbQ {n k b lo : Int} (h1 : lo ≤ n) (h2 : n ≤ b) : lo ≤ more n k b ∧ more n k b ≤ b ∧ n ≤ more n k b := by
 unfold more
 have := mod9 k
 omega
theorem grow_ok {j : JV} (h : JOk j) (k0 k1 k2 k3 k4 : Int) : JOk (xga j k0 k1 k2 k3 k4) := by
 have h0 := xbQ (k := k0) h.bu.1 h.bu.2
 have h1 := xbQ (k := k1) h.wo.1 h.wo.2
 have h2 := xbQ (k := k2) h.ro.1 h.ro.2
 have h3 := xbQ (k := k3) h.rg.1 h.rg.2
 have h4 := xbQ (k := k4) h.be.1 h.be.2
 exact ⟨h.da, h.sz, h.cd, h.mo, h.te, ⟨h4.1, h4.2.1⟩, h.af, ⟨h0.1, h0.2.1⟩, h.ch, ⟨h2.1, h2.2.1⟩, ⟨h1.1, h1.2.1⟩, ⟨h3.1, h3.2.1⟩⟩
theorem xnu {j : JV} (h : JOk j) (k0 k1 k2 k3 k4 : Int) : octN j ≤ octN (xga j k0 k1 k2 k3 k4) ∧ 0 < octN j := by
 have h0 := xbQ (k := k0) h.bu.1 h.bu.2
 have h1 := xbQ (k := k1) h.wo.1 h.wo.2
 have h2 := xbQ (k := k2) h.ro.1 h.ro.2
 have h3 := xbQ (k := k3) h.rg.1 h.rg.2
 have h4 := xbQ (k := k4) h.be.1 h.be.2
 have hc := h.ch
 have hm := h.mo
 have b := h.bu; have wo := h.wo; have ro := h.ro; have rg := h.rg; have be := h.be
 unfold octN xga
 show j.bu * j.ch + 3 * j.ch + 2 * j.mo + 20 + j.mo * (2 * j.ro + 2 * j.wo + 1 + j.rg + j.be) ≤ more j.bu k0 64 * j.ch + 3 * j.ch + 2 * j.mo + 20 + j.mo * (2 * more j.ro k2 64 + 2 * more j.wo k1 16 + 1 + more j.rg k3 64 + more j.be k4 16) ∧ 0 < j.bu * j.ch + 3 * j.ch + 2 * j.mo + 20 + j.mo * (2 * j.ro + 2 * j.wo + 1 + j.rg + j.be)
 have m1 : j.bu * j.ch ≤ more j.bu k0 64 * j.ch := Int.mul_le_mul_of_nonneg_right h0.2.2 (by omega)
 have m2 : j.mo * (2 * j.ro + 2 * j.wo + 1 + j.rg + j.be) ≤ j.mo * (2 * more j.ro k2 64 + 2 * more j.wo k1 16 + 1 + more j.rg k3 64 + more j.be k4 16) := Int.mul_le_mul_of_nonneg_left (by omega) (by omega)
 have m3 : 0 ≤ j.bu * j.ch := Int.mul_nonneg (by omega) (by omega)
 have m4 : 0 ≤ j.mo * (2 * j.ro + 2 * j.wo + 1 + j.rg + j.be) := Int.mul_nonneg (by omega) (by omega)
 omega
theorem xlH (j : JV) (hp : j.pt.length ≤ 9223372036854775807) (k0 k1 k2 k3 k4 : Int) (b0 : 0 ≤ k0 ∧ k0 ≤ 255) (b1 : 0 ≤ k1 ∧ k1 ≤ 255) (b2 : 0 ≤ k2 ∧ k2 ≤ 255) (b3 : 0 ≤ k3 ∧ k3 ≤ 255) (b4 : 0 ≤ k4 ∧ k4 ≤ 255) (w : World) :
 Calls Tryz.prog 5 #[jV j, .agg #[.int .u8 k0, .int .u8 k1, .int .u8 k2, .int .u8 k3, .int .u8 k4]] w fun e w' => e = .returned (.bool true) ∧ xa (fun _ => False) w w' := by
 obtain ⟨c, s, h⟩ := xfl j.pt hp
 obtain ⟨hS, hR⟩ := h j rfl
 by_cases hl : xb7 j = true
 rotate_left
 · exact xiZ j _ _ k0 k1 k2 k3 k4 _ s false 0 0 0 0 rfl rfl b0 b1 b2 b3 b4 (fun W => xgn W) (xd9 j hp) (fun h => absurd h hl) (fun h => absurd h hl) (fun h => absurd h hl) w
 obtain ⟨h1, h2⟩ := xiR hl
 obtain ⟨r1, r2⟩ := hR h1 h2
 refine xiZ j _ _ k0 k1 k2 k3 k4 _ s (xaF j && (c == 0)) (octN (xga j k0 k1 k2 k3 k4)) (octN j) (xhw (xga j k0 k1 k2 k3 k4)) (xhw j) rfl rfl b0 b1 b2 b3 b4 (fun W => xgn W) (xd9 j hp) (fun _ => hS) (fun _ => r2) (fun _ hq => ?_) w
 have hj : JOk j := xer (by simp at hq; exact hq.1) (by omega) (by omega)
 have hc : (c == 0) = true := by simp at hq ⊢; exact hq.2
 have hX := grow_ok hj k0 k1 k2 k3 k4
 have hY : JOk { xga j k0 k1 k2 k3 k4 with wo := j.wo } := ⟨hX.da, hX.sz, hX.cd, hX.mo, hX.te, hX.be, hX.af, hX.bu, hX.ch, hX.ro, hj.wo, hX.rg⟩
 have one : ∀ x : JV, x.pt = j.pt → x.dn = j.dn → x.sn = j.sn → JOk x → xdT 17 x (octN x) ∧ xdT 19 x (xhw x) := by
  intro x e1 e2 e3 hx
  have r := ((h x e1).2 (by omega) (by omega)).1
  rw [xju hx, hc, Bool.true_and] at r
  exact ⟨fun W => xfx x true r (fun _ => hx) W, fun W => xgA x true r (fun _ => hx) W⟩
 have a := one j rfl rfl rfl hj
 have b := one (xga j k0 k1 k2 k3 k4) rfl rfl rfl hX
 have d := one { xga j k0 k1 k2 k3 k4 with wo := j.wo } rfl rfl rfl hY
 have g := xnu hj k0 k1 k2 k3 k4
 have hw := (xbQ (k := k1) hj.wo.1 hj.wo.2).2.2
 refine ⟨hj, ⟨b.1, a.1⟩, ⟨b.2, a.2, d.2⟩, g.1, ?_, g.2⟩
 show 170 + 10 * j.wo + 40 * (j.dn : Int) ≤ 170 + 10 * more j.wo k1 16 + 40 * (j.dn : Int)
 omega
section
variable {H : Type} {enc : TypeId × Value → H} {w : World} {base : Nat} {spare : Nat → Bool} {held : Bool}
theorem xkx {cs : List Value} {i fuel : Nat} {v : Value} {y : DataW H × List MemPlace} (hv : cs[i]? = some v) (h : DataW.trod enc Tryz.prog w base spare held fuel 5 ((cs.drop i).take 1) = some y) : ∃ n, v = .int .u8 n ∧ 0 ≤ n ∧ n ≤ 255 := by
 rw [xed hv] at h
 obtain ⟨n, p, _, r⟩ := DataW.trod_int Tryz.underlying5 h
 have e1 : IntKind.u8.min = 0 := by decide
 have e2 : IntKind.u8.max = 255 := by decide
 simp [Lit.wf] at r
 exact ⟨n, by simpa using p, by omega, by omega⟩
end
theorem xlK {H : Type} {enc : TypeId × Value → H} {W : World} {b0 base : Nat} {spare : Nat → Bool} {held : Bool} {v : Value} {d : DataW H} {ps : List MemPlace} (hval : Value.okWide Tryz.prog W .any b0 62 v) (hd : DataW.Trod enc Tryz.prog W base spare held 62 v d ps) :
 ∃ k0 k1 k2 k3 k4 : Int, v = .agg #[.int .u8 k0, .int .u8 k1, .int .u8 k2, .int .u8 k3, .int .u8 k4] ∧ ((0 ≤ k0 ∧ k0 ≤ 255) ∧ (0 ≤ k1 ∧ k1 ≤ 255)) ∧ (0 ≤ k2 ∧ k2 ≤ 255) ∧ (0 ≤ k3 ∧ k3 ≤ 255) ∧ (0 ≤ k4 ∧ k4 ≤ 255) := by
 unfold Value.okWide at hval
 rw [Tryz.underlying62] at hval
 obtain ⟨cs, rfl, _, _⟩ := hval
 obtain ⟨fuel, hf⟩ := hd
 obtain ⟨xs, m, rfl, _, hlen, hxl, hfs⟩ := DataW.trod_array Tryz.underlying62 hf
 have k1 : Tryz.prog.cellsOf 5 = 1 := by kernel_rfl
 have k5 : Tryz.prog.cellsOf 62 = 5 := by kernel_rfl
 rw [k5] at hlen
 rw [k1] at hfs
 obtain ⟨l⟩ := cs
 have hl : l.length = 5 := by simpa [Value.cells] using hlen
 match l, hl, xs, hxl with
 | [v0, v1, v2, v3, v4], _, [x0, x1, x2, x3, x4], _ =>
  simp only [Value.cells] at hfs
  obtain ⟨n0, rfl, c0⟩ := xkx (i := 0) rfl (hfs 0 (by omega))
  obtain ⟨n1, rfl, c1⟩ := xkx (i := 1) rfl (hfs 1 (by omega))
  obtain ⟨n2, rfl, c2⟩ := xkx (i := 2) rfl (hfs 2 (by omega))
  obtain ⟨n3, rfl, c3⟩ := xkx (i := 3) rfl (hfs 3 (by omega))
  obtain ⟨n4, rfl, c4⟩ := xkx (i := 4) rfl (hfs 4 (by omega))
  exact ⟨n0, n1, n2, n3, n4, rfl, ⟨c0, c1⟩, c2, c3, c4⟩
end
end Go.Proofs.YtbifklibdkjbeaaGreatDoor
