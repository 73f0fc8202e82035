/-
  TextWords: for every two strings the law returns true, and nothing that was there is changed; the listed variable reads as the program's text lays it (the card ties it). No condition beside.
-/
import Derived.Test.YtibfioekmpnkgaaDoorTextA
import Derived.Test.YtibfioekmpnkgaaDoorTextQ1
import Derived.Test.YtibfioekmpnkgaaDoorRows
import Derived.Test.YtibfioekmpnkgaaDoorCards
import Derived.Test.YtibfioekmpnkgaaDoorTie
import Derived.ProofKit
import Derived.LaidMore
import Derived.OpenShut
import Derived.ShutString
import Derived.ChangeOld
import Derived.Stop.Joined
import Derived.SevenTiedAt
namespace Go.Proofs.YtibfioekmpnkgaaDoor.textWords
open Go.ChangeShapes Go.WideShapes Go.ChangeAt Go.WideMaps Go.WideElems Go.RowKit
open Go.ChangeMaps (open_string shut_string)
set_option linter.unusedVariables false

theorem own : ownKnob Tryd.prog.godebug = none := by kernel_rfl
theorem laidOut : laidOutB Tryd.prog = true := by kernel_rfl
abbrev laidL {H : Type} : List (String × DataW H) := [("reedbed/text.kinds", Rows.laid_reedbed_text_kinds)]
theorem gKinds : Tryd.prog.globalNamed "reedbed/text.kinds" = some 0 := by kernel_rfl
theorem tKinds : (Tryd.prog.globals[0]?).map (·.type) = some 72 := by kernel_rfl

theorem door_met (os : Os) (args : Array Value) : laidMetH Tryd.prog laidL ((World.doorLaid Tryd.prog 400 os).forCall (fun _ _ => 0) ⟨#[], args, []⟩).memory :=
  laidMetH_of_parts3 (fuel := 8) (laidMet_of_run' 8 (by kernel_rfl) (by kernel_rfl)) (by kernel_rfl) (by kernel_rfl)

set_option maxRecDepth 100000 in
theorem of_laid {W : World} (h : laidMetH Tryd.prog laidL W) : W.cell? ⟨0, 3, none⟩ = some (.string cancelS) := by
  rw [MakeChecks.laidMetH_plain _ _ _ (by kernel_rfl)] at h
  obtain ⟨ps, ⟨g0, t0, cs0, f0, p0, q0, hg0, ht0, hv0, hd0, _, _⟩, _, _⟩ := h
  obtain rfl := Option.some.inj (gKinds.symm.trans hg0)
  obtain rfl := Option.some.inj (tKinds.symm.trans ht0)
  obtain ⟨xs, m1, rfl, hx1, hlen, hn3, hel⟩ := DataW.trod_array Tryd.underlying72 hd0
  have c9 : Tryd.prog.cellsOf 9 = 1 := by kernel_rfl
  have h3 := hel 3 (by decide)
  have hcell := World.var?_cell hg0 hv0 3
  obtain ⟨x3, hx3⟩ : ∃ x, xs[3]? = some x := ⟨_, List.getElem?_eq_getElem (by omega)⟩
  rw [hx3] at h3
  obtain ⟨S, e1, e2, _⟩ := DataW.trod_string Tryd.underlying9 h3
  rw [c9] at e1
  have hd : DataW.lit (.string S.data.toList) = DataW.lit (H := Unit) (.string cancelS.data.toList) := by
    have h1 : (xs.map (fun x => x.fst))[3]? = some x3.1 := by rw [List.getElem?_map, hx3]; rfl
    have h2 := congrArg Prod.fst hx1
    have h4 : (DataW.agg (H := Unit) (xs.map (fun x => x.fst))) = Rows.laid_reedbed_text_kinds := h2.symm
    unfold Rows.laid_reedbed_text_kinds at h4
    rw [DataW.agg.injEq] at h4
    rw [h4] at h1
    have h5 : x3.1 = DataW.lit (.string S.data.toList) := by rw [e2]
    rw [h5] at h1
    simp at h1
    rw [← h1]; rfl
  have hS : S = cancelS := by
    simp only [DataW.lit.injEq, Lit.string.injEq] at hd
    obtain ⟨⟨l⟩⟩ := S
    simp at hd
    subst hd
    rfl
  subst hS
  rw [hcell]
  obtain ⟨cl⟩ := cs0
  simp at e1
  have h6 : (List.take 1 (List.drop 3 cl))[0]? = some (Value.string cancelS) := by rw [e1]; rfl
  rw [List.getElem?_take_of_lt (by omega), List.getElem?_drop] at h6
  simpa using h6

theorem walk (s t : ByteArray) (w : World) (hK : w.cell? ⟨0, 3, none⟩ = some (.string cancelS)) :
    Calls Tryd.prog 4 #[.string s, .string t] w fun e w' => e = .returned (.bool true) ∧ Below w.heap.size w w' := by
  by_cases h1 : s.size ≤ 300
  · by_cases h2 : t.size ≤ 300
    · exact (words_main deedK s t w hK h1 h2).mono fun e w' ⟨he, hk⟩ => ⟨he, hk.belowAll⟩
    · exact (words_long deedK s t w hK (Or.inr (by omega))).mono fun e w' ⟨he, hk⟩ => ⟨he, hk.belowAll⟩
  · exact (words_long deedK s t w hK (Or.inl (by omega))).mono fun e w' ⟨he, hk⟩ => ⟨he, hk.belowAll⟩

set_option maxRecDepth 100000 in
theorem lifted (os : Os) (started : os.Started) (H : Type) (enc : TypeId × Value → H) :
    ReturnsInHanded {} Tryd.checked os 4 .any (fun w args => (Rows.textWordsSpec.pre enc Tryd.prog Tryd.f4 [] false w args ∧ laidMetH Tryd.prog laidL w) ∧ sizedMet enc Tryd.prog Tryd.f4 (OpenSpec.ofChange Rows.textWordsSpec) false w args)
      (Rows.textWordsSpec.post enc Tryd.prog Tryd.f4 false true false false) := by
  refine returnsInHanded_of_change_and (C := Tryd.checked) (X := fun w _ => laidMetH Tryd.prog laidL w) (fun _ _ _ hh h => h.of_heap hh) own started (by kernel_rfl) Tryd.func4
    (ChangeSpec.witness_shaped (enc := enc) (C := Tryd.checked) (os := os) (X := fun w _ => laidMetH Tryd.prog laidL w) false (World.doorLaid Tryd.prog 400 os) #[.string ⟨#[]⟩, .string ⟨#[]⟩] 8 rfl (World.shaped_of_RefB (by kernel_rfl) (by kernel_rfl)) (by kernel_rfl) (by kernel_rfl) (by kernel_rfl) (door_met os _)) ?_
  intro W base args ds gs before hval0 hW _ _ hL _
  have hval : ∀ (j : Nat) t v, Tryd.f4.params[j]? = some t → args[j]? = some v → Value.okWide Tryd.prog W .any base t v := hval0
  have hW' := hW
  obtain ⟨p, q, hA0, hV, rfl, hfz, hnd⟩ := hW
  have hA : DataW.TrodAll enc Tryd.prog W 0 (fun _ => true) true Tryd.f4.params.toList args.toList ds p := hA0
  rw [Tryd.params4] at hA hval
  obtain ⟨v0, vs0, d0, ds0, p0, q0, hargs, rfl, rfl, h0, r0⟩ := trodAll_cons hA
  obtain ⟨v1, vs1, d1, ds1, p1, q1, rfl, rfl, rfl, h1, r1⟩ := trodAll_cons r0
  obtain ⟨rfl, rfl, rfl⟩ := trodAll_nil r1
  obtain rfl : args = #[v0, v1] := by cases args; simp_all
  obtain ⟨rfl, rfl⟩ := trodVars_none hV
  obtain ⟨a0, rfl, rfl, rfl, w0⟩ := open_string Tryd.underlying9 (hval 0 9 v0 rfl rfl) h0
  obtain ⟨a1, rfl, rfl, rfl, w1⟩ := open_string Tryd.underlying9 (hval 1 9 v1 rfl rfl) h1
  clear hA0 hval0
  refine (walk a0 a1 W (of_laid hL)).mono fun e W' ⟨he, bel⟩ => ?_
  subst he
  exact ⟨_, rfl, _, _, _, [], _, [], hW', trodAll_mk1 (shut_bool Tryd.underlying4 _), (trodAll_cons_mk (shut_string Tryd.underlying9 w0) (trodAll_cons_mk (shut_string Tryd.underlying9 w1) trodAll_mk0)), rfl, bel.frame _, fun h => by cases h⟩

theorem over : Rows.TextWordsSaid :=
  OpenClaim.holds_of_wide 4 Tryd.f4 rfl rfl rfl rfl rfl rfl rfl ⟨rfl, rfl, rfl, rfl, rfl⟩ rfl rfl rfl rfl rfl (by kernel_rfl) Tryd.func4 (by kernel_rfl)
    (of_decide_eq_true (by kernel_rfl)) (by unfold Func.isWrapper; first | (rw [if_pos (by decide +kernel)]; kernel_rfl) | (rw [if_neg (by decide +kernel)]; exact ⟨rfl, rfl⟩))
    (fun os started H enc _ => lifted os started H enc)

theorem proved : Rows.TextWordsCardSaid :=
  Claim7.holds_tied_plain_at .later [] [.data] true _ false
    over (fun _ h => by cases h) (by kernel_rfl) (fun _ h => by cases h) textWords_row_tie rfl ⟨rfl, rfl⟩ (by kernel_rfl) rfl
    (fun f fn hf hfn => by
      obtain rfl : f = 4 := Option.some.inj ((show Tryd.prog.funcNamed "reedbed/reedbedlaw28.TextWords" = some 4 by kernel_rfl).symm.trans hf) |>.symm
      obtain rfl : fn = Tryd.f4 := (Option.some.inj (Tryd.func4.symm.trans hfn)).symm
      exact ⟨by kernel_rfl, fun j t ht => by
        rw [Tryd.params4] at ht
        have hm : t ∈ [9, 9] := by simpa using Array.mem_of_getElem? ht
        have hall : ([9, 9].all fun u => !Tryd.prog.wantsStandIn u) = true := by kernel_rfl
        exact (show Tryd.prog.wantsStandIn t = false by simpa using List.all_eq_true.1 hall t hm)⟩)
    (by kernel_rfl)
#print axioms proved
end Go.Proofs.YtibfioekmpnkgaaDoor.textWords
