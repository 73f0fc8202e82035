/-
  LitCounts: for every input the law returns true, and nothing that was there is changed. No condition.
-/
import Derived.Test.YtinogeobkljngaaMg30
import Derived.Test.YtinogeobkljngaaRows
import Derived.ProofKit
import Derived.OpenShut
import Derived.ShutString
import Derived.ChangeOld
namespace Go.Proofs.Ytinogeobkljngaa.litCounts
open Go.ChangeShapes Go.WideShapes Go.ChangeAt Go.RowKit
open Go.ChangeMaps (open_string shut_string)
set_option linter.unusedVariables false

set_option maxRecDepth 100000 in
theorem arr_open {H : Type} {enc : TypeId × Value → H} {w : World} {base b0 : Nat} {spare : Nat → Bool} {held : Bool} {r : Reach} {v : Value} {d : DataW H} {ps : List MemPlace} (hval : Value.okWide Try.prog w r b0 22 v) (hd : DataW.Trod enc Try.prog w base spare held 22 v d ps) :
    ∃ n k : Nat, v = .agg #[.int .u8 n, .int .u8 k] ∧ n < 256 ∧ k < 256 := by
  simp only [Value.okWide, Try.underlying22] at hval
  obtain ⟨cs, rfl, hs, _⟩ := hval
  have hc2 : Try.prog.cellsOf 22 = 2 := by kernel_rfl
  have hc1 : Try.prog.cellsOf 5 = 1 := by kernel_rfl
  rw [hc2] at hs
  obtain ⟨fuel, hf⟩ := hd
  obtain ⟨xs, m, _, _, _, hxl, hx⟩ := DataW.trod_array Try.underlying22 hf
  have g0 := hx 0 (by omega)
  have g1 := hx 1 (by omega)
  clear hx hf
  rw [hc1, List.getElem?_eq_getElem (by omega)] at g0 g1
  obtain ⟨a, e0, _, w0⟩ := DataW.trod_int Try.underlying5 g0
  obtain ⟨b, e1, _, w1⟩ := DataW.trod_int Try.underlying5 g1
  clear g0 g1 hc1 hc2
  obtain ⟨l⟩ := cs
  obtain ⟨c0, c1, rfl⟩ : ∃ c0 c1, l = [c0, c1] := by
    have hs2 : l.length = 2 := hs
    clear hs e0 e1
    rcases l with _ | ⟨c0, _ | ⟨c1, _ | ⟨c2, l⟩⟩⟩
    · simp at hs2
    · simp at hs2
    · exact ⟨c0, c1, rfl⟩
    · simp at hs2
  obtain rfl : c0 = .int .u8 a := by simpa [Value.cells] using e0
  obtain rfl : c1 = .int .u8 b := by simpa [Value.cells] using e1
  simp [Lit.wf, IntKind.min, IntKind.max, IntKind.signed, IntKind.bits] at w0 w1
  exact ⟨a.toNat, b.toNat, by rw [show ((a.toNat : Nat) : Int) = a by omega, show ((b.toNat : Nat) : Int) = b by omega], by omega, by omega⟩
theorem walk (t p : ByteArray) (n k : Nat) (w : World) (hn : n < 256) (hk : k < 256) :
    Calls Try.prog 3 #[.string t, .string p, .agg #[.int .u8 n, .int .u8 k]] w fun e w' => e = .returned (.bool true) ∧ Below w.heap.size w w' :=
  (litc_all p.data.toList t.data.toList n k w hn hk).mono fun e w' ⟨he, hk⟩ => ⟨he, hk.belowAll⟩

theorem own : ownKnob Try.prog.godebug = none := by kernel_rfl
theorem laidOut : laidOutB Try.prog = true := by kernel_rfl
set_option maxRecDepth 100000 in
theorem lifted (os : Os) (started : os.Started) (H : Type) (enc : TypeId × Value → H) :
    ReturnsInHanded {} Try.checked os 3 .any (Rows.litCountsSpec.pre6 enc Try.prog Try.f3 Rows.litCountsRow.domain false) (Rows.litCountsSpec.post enc Try.prog Try.f3 false true false false) := by
  refine returnsInHanded_of_change (C := Try.checked) own started (by kernel_rfl) Try.func3
    (ChangeSpec.witness6 (enc := enc) (C := Try.checked) false ⟨#[], #[.string ⟨#[]⟩, .string ⟨#[]⟩, .agg #[.int .u8 0, .int .u8 0]], []⟩ 8 (by kernel_rfl) (by kernel_rfl) (by kernel_rfl) (by kernel_rfl)) ?_
  intro W base args ds gs before hval0 hW hcnd _
  have hval : ∀ (j : Nat) t v, Try.f3.params[j]? = some t → args[j]? = some v → Value.okWide Try.prog W .any base t v := hval0
  have hW' := hW
  obtain ⟨p, q, hA0, hV, rfl, hfz, hnd⟩ := hW
  have hA : DataW.TrodAll enc Try.prog W 0 (fun _ => true) true Try.f3.params.toList args.toList ds p := hA0
  rw [Try.params3] at hA hval
  obtain ⟨v0, vs0, d0, ds0, p0, q0, hargs, rfl, rfl, h0, r0⟩ := trodAll_cons hA
  obtain ⟨v1, vs1, d1, ds1, p1, q1, rfl, rfl, rfl, h1, r1⟩ := trodAll_cons r0
  obtain ⟨v2, vs2, d2, ds2, p2, q2, rfl, rfl, rfl, h2, r2⟩ := trodAll_cons r1
  obtain ⟨rfl, rfl, rfl⟩ := trodAll_nil r2
  obtain rfl : args = #[v0, v1, v2] := by cases args; simp_all
  obtain ⟨rfl, rfl⟩ := trodVars_none hV
  obtain ⟨a0, rfl, rfl, rfl, w0⟩ := open_string Try.underlying9 (hval 0 9 v0 rfl rfl) h0
  obtain ⟨a1, rfl, rfl, rfl, w1⟩ := open_string Try.underlying9 (hval 1 9 v1 rfl rfl) h1
  have k2 := h2
  have lt2 : ∀ x ∈ p2, x.block < W.heap.size := by obtain ⟨m, hm⟩ := k2; exact DataW.trod_lt m _ _ _ hm
  obtain ⟨n2, m2, rfl, hn2, hm2⟩ := arr_open (hval 2 22 v2 rfl rfl) h2
  clear hA0 hval0
  refine (walk a0 a1 n2 m2 W hn2 hm2).mono fun e W' ⟨he, bel⟩ => ?_
  subst he
  exact ⟨_, rfl, _, _, _, [], _, [], hW', trodAll_mk1 (shut_bool Try.underlying4 _), (trodAll_cons_mk (shut_string Try.underlying9 w0) (trodAll_cons_mk (shut_string Try.underlying9 w1) (trodAll_cons_mk (Below.trod laidOut (by kernel_rfl) (of_decide_eq_true (by kernel_rfl)) k2 bel lt2) trodAll_mk0))), rfl, bel.frame _, fun h => by cases h⟩

theorem over : Rows.litCountsRow.holds Try.pinned (OpenSpec.ofChange Rows.litCountsSpec) :=
  OpenClaim.holds_of_wide 3 Try.f3 rfl rfl rfl rfl rfl rfl rfl ⟨rfl, rfl, rfl, rfl, rfl⟩ rfl rfl rfl rfl rfl (by kernel_rfl) Try.func3 (by kernel_rfl)
    (of_decide_eq_true (by kernel_rfl)) (by unfold Func.isWrapper; first | (rw [if_pos (by decide +kernel)]; kernel_rfl) | (rw [if_neg (by decide +kernel)]; exact ⟨rfl, rfl⟩))
    (fun os started H enc _ => lifted os started H enc)

theorem proved : Rows.LitCountsSaid := over
#print axioms proved
end Go.Proofs.Ytinogeobkljngaa.litCounts
