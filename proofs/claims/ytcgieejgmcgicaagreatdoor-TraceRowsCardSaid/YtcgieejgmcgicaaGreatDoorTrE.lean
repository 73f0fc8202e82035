/-
  TraceRows: the law's own walk. No condition but the first look, which is reckoned.
-/
import Derived.Test.YtcgieejgmcgicaaGreatDoorTrD
import Derived.Test.YtcgieejgmcgicaaGreatDoorEvTr
namespace Go.Proofs.YtcgieejgmcgicaaGreatDoor
open Go.RowKit Go.WideMaps Go.Maps
set_option linter.unusedVariables false
set_option linter.unusedSimpArgs false
set_option maxRecDepth 100000

theorem MSl.keeps {S : Nat → Prop} {w w' : World} {v : Value} {l : List Mk} (h : MSl w v l) (K : Keeps (fun _ => False) w w') : MSl w' v l := SlOf.keeps h K (fun _ _ => id)
theorem rspan_same (l : List Mk) (v : Value) (nm : ByteArray) (w : World) (h : MSl w v l) :
    Calls Tryz.prog 26 #[v, .string nm] w fun e w' => e = .returned (.tuple #[.int .i64 (spanU (isAt l nm) l.length).1, .int .i64 (spanU (isAt l nm) l.length).2]) ∧ w = w' :=
  (rspan_any l v nm w h).mono fun e w' ⟨he, hw⟩ => ⟨by rw [he, span_eq], hw⟩

set_option maxHeartbeats 4000000 in
theorem rows_short (l : List Mk) (v : Value) (nm : ByteArray) (w : World) (h : MSl w v l) (hsz : ∀ m ∈ l, m.who.size ≤ maxLen) (hnm : nm.size ≤ maxLen) (hl : l.length ≤ 200) :
    Calls Tryz.prog 6 #[v, .string nm] w fun e w' => e = .returned (.bool true) ∧ Keeps (fun _ => False) w w' := by
  obtain ⟨a, cap, rfl, _, _⟩ := MSl.cells h
  have H := Lib.hid h
  have Hsz := Lib.hid hsz
  have hkey : keyOf Tryz.prog 9 (.string nm) = some (.string nm.data.toList) := keyOf_string_mk Tryz.underlying9 hnm
  have hd : decide ((200 : Int) < (l.length : Int)) = false := by simp; omega
  have hcl := cnt_le (isAt l nm) l.length
  clear h hsz
  go_enter Tryz.func6, Tryz.ntmps6
  go_wp2_with fail
  refine (awake26 _).mono ?_
  rintro e w1 ⟨rfl, k1⟩
  go_wp2_with fail
  have h1 := Lib.hid (MSl.keeps (S := fun _ => False) H.out k1)
  refine (span_any l _ nm _ h1.out).mono ?_
  rintro e w2 ⟨rfl, k2⟩
  go_wp2_with fail
  have h2 := Lib.hid (MSl.keeps (S := fun _ => False) h1.out k2)
  refine (rspan_same l _ nm _ h2.out).mono ?_
  rintro e w2' ⟨rfl, rfl⟩
  go_wp2_with fail
  refine (longest_any l _ _ h2.out).mono ?_
  rintro e w3 ⟨rfl, k3⟩
  go_wp2_with fail
  have h3 := Lib.hid (MSl.keeps (S := fun _ => False) h2.out k3)
  refine (rlongest_any l _ _ h3.out).mono ?_
  rintro e w4 ⟨rfl, k4⟩
  have h4 := Lib.hid (MSl.keeps (S := fun _ => False) h3.out k4)
  have K4 := Lib.hid (((k1.trans k2).trans k3).trans k4)
  clear k1 k2 k3 k4
  obtain ⟨X, hX⟩ : ∃ X, X = (spanU (isAt l nm) l.length).1 := ⟨_, rfl⟩
  obtain ⟨Y, hY⟩ : ∃ Y, Y = (spanU (isAt l nm) l.length).2 := ⟨_, rfl⟩
  rw [← hX, ← hY]
  clear hX hY
  obtain ⟨B, hB⟩ : ∃ B, B = (bestOf l l.length).1 := ⟨_, rfl⟩
  obtain ⟨C, hC⟩ : ∃ C : Int, C = ((bestOf l l.length).2 : Int) := ⟨_, rfl⟩
  rw [← hB, ← hC]
  clear hB hC
  go_wp2_with fail
  have h4d := Lib.hid (MSl.keeps (S := fun _ => False) h4.out (Keeps.refl _ _).drew)
  have K4d := Lib.hid (K4.out.trans (Keeps.refl _ _).drew)
  clear h1 h2 h3 H
  refine wp_region_any (by kernel_rfl) ?_
  try (change wpAny _ _ _ _ _ _ _ (World.drew _))
  refine wpAny_take (i := 0) (v := (.int .i64 X)) rfl (by kernel_rfl) (by kernel_rfl) (by kernel_rfl) (fun _ _ _ h => h) (Or.inl ⟨by kernel_rfl, fun w => by first | (go_simp; done) | (go_simp; with_reducible rfl) | (go_simp; simp; done)⟩) ?_
  refine wpAny_take (i := 1) (v := (.int .i64 X)) rfl (by kernel_rfl) (by kernel_rfl) (by kernel_rfl) (fun _ _ _ h => h) (Or.inl ⟨by kernel_rfl, fun w => by first | (go_simp; done) | (go_simp; with_reducible rfl) | (go_simp; simp; done)⟩) ?_
  refine wpAny_take (i := 2) (v := (.bool true)) rfl (by kernel_rfl) (by kernel_rfl) (by kernel_rfl) (fun _ _ _ h => h) (Or.inl ⟨by kernel_rfl, fun w => by first | (go_simp; done) | (go_simp; with_reducible rfl) | (go_simp; simp; done)⟩) ?_
  refine wpAny_take (i := 3) (v := (.bool true)) rfl (by kernel_rfl) (by kernel_rfl) (by kernel_rfl) (fun _ _ _ h => h) (Or.inl ⟨by kernel_rfl, fun w => by first | (go_simp; done) | (go_simp; with_reducible rfl) | (go_simp; simp; done)⟩) ?_
  refine wpAny_take (i := 4) (v := (.int .i64 Y)) rfl (by kernel_rfl) (by kernel_rfl) (by kernel_rfl) (fun _ _ _ h => h) (Or.inl ⟨by kernel_rfl, fun w => by first | (go_simp; done) | (go_simp; with_reducible rfl) | (go_simp; simp; done)⟩) ?_
  refine wpAny_take (i := 5) (v := (.int .i64 Y)) rfl (by kernel_rfl) (by kernel_rfl) (by kernel_rfl) (fun _ _ _ h => h) (Or.inl ⟨by kernel_rfl, fun w => by first | (go_simp; done) | (go_simp; with_reducible rfl) | (go_simp; simp; done)⟩) ?_
  refine wpAny_take (i := 6) (v := (.bool true)) rfl (by kernel_rfl) (by kernel_rfl) (by kernel_rfl) (fun _ _ _ h => h) (Or.inl ⟨by kernel_rfl, fun w => by first | (go_simp; done) | (go_simp; with_reducible rfl) | (go_simp; simp; done)⟩) ?_
  refine wpAny_take (i := 7) (v := (.bool true)) rfl (by kernel_rfl) (by kernel_rfl) (by kernel_rfl) (fun _ _ _ h => h) (Or.inl ⟨by kernel_rfl, fun w => by first | (go_simp; done) | (go_simp; with_reducible rfl) | (go_simp; simp; done)⟩) ?_
  refine wpAny_take (i := 8) (v := (.bool true)) rfl (by kernel_rfl) (by kernel_rfl) (by kernel_rfl) (fun _ _ _ h => h) (Or.inl ⟨by kernel_rfl, fun w => by first | (go_simp; done) | (go_simp; with_reducible rfl) | (go_simp; simp; done)⟩) ?_
  refine wpAny_take (i := 9) (v := (.string B)) rfl (by kernel_rfl) (by kernel_rfl) (by kernel_rfl) (fun _ _ _ h => h) (Or.inl ⟨by kernel_rfl, fun w => by first | (go_simp; done) | (go_simp; with_reducible rfl) | (go_simp; simp; done)⟩) ?_
  refine wpAny_take (i := 10) (v := (.string B)) rfl (by kernel_rfl) (by kernel_rfl) (by kernel_rfl) (fun _ _ _ h => h) (Or.inl ⟨by kernel_rfl, fun w => by first | (go_simp; done) | (go_simp; with_reducible rfl) | (go_simp; simp; done)⟩) ?_
  refine wpAny_take (i := 11) (v := (.bool true)) rfl (by kernel_rfl) (by kernel_rfl) (by kernel_rfl) (fun _ _ _ h => h) (Or.inl ⟨by kernel_rfl, fun w => by first | (go_simp; done) | (go_simp; with_reducible rfl) | (go_simp; simp; done)⟩) ?_
  refine wpAny_take (i := 12) (v := (.bool true)) rfl (by kernel_rfl) (by kernel_rfl) (by kernel_rfl) (fun _ _ _ h => h) (Or.inl ⟨by kernel_rfl, fun w => by first | (go_simp; done) | (go_simp; with_reducible rfl) | (go_simp; simp; done)⟩) ?_
  refine wpAny_take (i := 13) (v := (.bool true)) rfl (by kernel_rfl) (by kernel_rfl) (by kernel_rfl) (fun _ _ _ h => h) (Or.inl ⟨by kernel_rfl, fun w => by first | (go_simp; done) | (go_simp; with_reducible rfl) | (go_simp; simp; done)⟩) ?_
  refine wpAny_take (i := 14) (v := (.int .i64 C)) rfl (by kernel_rfl) (by kernel_rfl) (by kernel_rfl) (fun _ _ _ h => h) (Or.inl ⟨by kernel_rfl, fun w => by first | (go_simp; done) | (go_simp; with_reducible rfl) | (go_simp; simp; done)⟩) ?_
  refine wpAny_take (i := 15) (v := (.int .i64 C)) rfl (by kernel_rfl) (by kernel_rfl) (by kernel_rfl) (fun _ _ _ h => h) (Or.inl ⟨by kernel_rfl, fun w => by first | (go_simp; done) | (go_simp; with_reducible rfl) | (go_simp; simp; done)⟩) ?_
  refine wpAny_take (i := 16) (v := (.bool true)) rfl (by kernel_rfl) (by kernel_rfl) (by kernel_rfl) (fun _ _ _ h => h) (Or.inl ⟨by kernel_rfl, fun w => by first | (go_simp; done) | (go_simp; with_reducible rfl) | (go_simp; simp; done)⟩) ?_
  refine wpAny_take (i := 17) (v := (.bool true)) rfl (by kernel_rfl) (by kernel_rfl) (by kernel_rfl) (fun _ _ _ h => h) (Or.inl ⟨by kernel_rfl, fun w => by first | (go_simp; done) | (go_simp; with_reducible rfl) | (go_simp; simp; done)⟩) ?_
  refine wpAny_take (i := 18) (v := (.bool true)) rfl (by kernel_rfl) (by kernel_rfl) (by kernel_rfl) (fun _ _ _ h => h) (Or.inl ⟨by kernel_rfl, fun w => by first | (go_simp; done) | (go_simp; with_reducible rfl) | (go_simp; simp; done)⟩) ?_
  refine wpAny_take (i := 19) (v := (.slice a l.length cap)) rfl (by kernel_rfl) (by kernel_rfl) (by kernel_rfl) (fun _ _ _ h => h) (Or.inl ⟨by kernel_rfl, fun w => by first | (go_simp; done) | (go_simp; with_reducible rfl) | (go_simp; simp; done)⟩) ?_
  refine wpAny_take (i := 21) (v := (.string nm)) rfl (by kernel_rfl) (by kernel_rfl) (by kernel_rfl) (fun _ _ _ h => h) (Or.inl ⟨by kernel_rfl, fun w => by first | (go_simp; done) | (go_simp; with_reducible rfl) | (go_simp; simp; done)⟩) ?_
  refine wpAny_take (i := 23) (v := (.slice a l.length cap)) rfl (by kernel_rfl) (by kernel_rfl) (by kernel_rfl) (fun _ _ _ h => h) (Or.inl ⟨by kernel_rfl, fun w => by first | (go_simp; done) | (go_simp; with_reducible rfl) | (go_simp; simp; done)⟩) ?_
  refine wpAny_take (i := 24) (v := (.string nm)) rfl (by kernel_rfl) (by kernel_rfl) (by kernel_rfl) (fun _ _ _ h => h) (Or.inl ⟨by kernel_rfl, fun w => by first | (go_simp; done) | (go_simp; with_reducible rfl) | (go_simp; simp; done)⟩) ?_
  refine wpAny_ready (rs := [20]) (by kernel_rfl) (by simp) ?_
  refine AllReady.cons rfl (fun K hK => ?_) AllReady.nil
  go_simp
  go_wp2_with (go_at_call 29; refine (share_any l _ _ h4d.out Hsz.out).mono ?_; rintro e w5 ⟨D, rfl, hown, hT, k5⟩; obtain ⟨c, hrun, hat, _⟩ := hown.lookup_int keyLaw Tryz.underlying69 Tryz.underlying3 (zeroInt _) hkey; have hcc : c = cnt (isAt l nm) l.length := (by have h9 := hT.2 nm; rw [hat] at h9; simpa using h9); subst hcc; have hrun2 : (Instr.lookup 69 (.map (some w4.heap.size)) (.string nm) false).run Tryz.prog w5 = .ok (.int .i64 (cnt (isAt l nm) l.length)) w5 := hrun; clear hrun; have h5 := Lib.hid (MSl.keeps (S := fun _ => False) h4d.out k5); have K5 := Lib.hid (K4d.out.trans k5); clear hown hT hat k5)
  refine wpAny_ready (rs := [22, 25]) (by kernel_rfl) (by simp) ?_
  refine AllReady.cons rfl (fun K hK => ?_) (AllReady.cons rfl (fun K hK => ?_) AllReady.nil)
  · go_simp
    try (rw [hrun2]; go_simp)
    refine hK _ _ ?_
    clear hK K
    refine wpAny_ready (rs := [25]) (by kernel_rfl) (by simp) ?_
    refine AllReady.cons rfl (fun K hK => ?_) AllReady.nil
    go_simp
    go_wp2_with (go_at_call 30; refine (rcount_any l _ nm _ h5.out).mono ?_; rintro e w5' ⟨rfl, rfl⟩)
    refine wpAny_take (i := 26) (v := (.bool true)) rfl (by kernel_rfl) (by kernel_rfl) (by kernel_rfl) (fun _ _ _ h => h) (Or.inl ⟨by kernel_rfl, fun w => by first | (go_simp; done) | (go_simp; with_reducible rfl) | (go_simp; simp; done)⟩) ?_
    refine wpAny_take (i := 27) (v := (.bool true)) rfl (by kernel_rfl) (by kernel_rfl) (by kernel_rfl) (fun _ _ _ h => h) (Or.inl ⟨by kernel_rfl, fun w => by first | (go_simp; done) | (go_simp; with_reducible rfl) | (go_simp; simp; done)⟩) ?_
    refine wpAny_take (i := 28) (v := (.bool true)) rfl (by kernel_rfl) (by kernel_rfl) (by kernel_rfl) (fun _ _ _ h => h) (Or.inl ⟨by kernel_rfl, fun w => by first | (go_simp; done) | (go_simp; with_reducible rfl) | (go_simp; simp; done)⟩) ?_
    refine wpAny_take (i := 29) (v := (.slice a l.length cap)) rfl (by kernel_rfl) (by kernel_rfl) (by kernel_rfl) (fun _ _ _ h => h) (Or.inl ⟨by kernel_rfl, fun w => by first | (go_simp; done) | (go_simp; with_reducible rfl) | (go_simp; simp; done)⟩) ?_
    refine wpAny_take (i := 31) (v := (.slice a l.length cap)) rfl (by kernel_rfl) (by kernel_rfl) (by kernel_rfl) (fun _ _ _ h => h) (Or.inl ⟨by kernel_rfl, fun w => by first | (go_simp; done) | (go_simp; with_reducible rfl) | (go_simp; simp; done)⟩) ?_
    refine wpAny_ready (rs := [30]) (by kernel_rfl) (by simp) ?_
    refine AllReady.cons rfl (fun K hK => ?_) AllReady.nil
    go_simp
    go_wp2_with (go_at_call 31; refine (first_any l _ _ h5.out).mono ?_; rintro e w6 ⟨rfl, k6⟩; have h6 := Lib.hid (MSl.keeps (S := fun _ => False) h5.out k6); have K6 := Lib.hid (K5.out.trans k6); clear k6)
    refine wpAny_ready (rs := [32]) (by kernel_rfl) (by simp) ?_
    refine AllReady.cons rfl (fun K hK => ?_) AllReady.nil
    go_simp
    go_wp2_with (go_at_call 32; refine (rfirst_any l _ _ h6.out).mono ?_; rintro e w6' ⟨rfl, rfl⟩)
    refine wpAny_take (i := 33) (v := (.bool true)) rfl (by kernel_rfl) (by kernel_rfl) (by kernel_rfl) (fun _ _ _ h => h) (Or.inl ⟨by kernel_rfl, fun w => by first | (go_simp; done) | (go_simp; with_reducible rfl) | (go_simp; simp; done)⟩) ?_
    refine wpAny_take (i := 34) (v := (.bool true)) rfl (by kernel_rfl) (by kernel_rfl) (by kernel_rfl) (fun _ _ _ h => h) (Or.inl ⟨by kernel_rfl, fun w => by first | (go_simp; done) | (go_simp; with_reducible rfl) | (go_simp; simp; done)⟩) ?_
    refine wpAny_ready (rs := [35]) (by kernel_rfl) (by simp) ?_
    refine AllReady.cons rfl (fun K hK => ?_) AllReady.nil
    go_simp
    refine hK _ _ ?_
    clear hK K
    refine wpAny_done (by kernel_rfl) ?_ _
    go_wp2_with fail
    go_ret
    exact ⟨rfl, K6.out⟩
  · go_simp
    go_wp2_with (go_at_call 30; refine (rcount_any l _ nm _ h5.out).mono ?_; rintro e w5' ⟨rfl, rfl⟩)
    refine wpAny_ready (rs := [22]) (by kernel_rfl) (by simp) ?_
    refine AllReady.cons rfl (fun K hK => ?_) AllReady.nil
    go_simp
    try (rw [hrun2]; go_simp)
    refine hK _ _ ?_
    clear hK K
    refine wpAny_take (i := 26) (v := (.bool true)) rfl (by kernel_rfl) (by kernel_rfl) (by kernel_rfl) (fun _ _ _ h => h) (Or.inl ⟨by kernel_rfl, fun w => by first | (go_simp; done) | (go_simp; with_reducible rfl) | (go_simp; simp; done)⟩) ?_
    refine wpAny_take (i := 27) (v := (.bool true)) rfl (by kernel_rfl) (by kernel_rfl) (by kernel_rfl) (fun _ _ _ h => h) (Or.inl ⟨by kernel_rfl, fun w => by first | (go_simp; done) | (go_simp; with_reducible rfl) | (go_simp; simp; done)⟩) ?_
    refine wpAny_take (i := 28) (v := (.bool true)) rfl (by kernel_rfl) (by kernel_rfl) (by kernel_rfl) (fun _ _ _ h => h) (Or.inl ⟨by kernel_rfl, fun w => by first | (go_simp; done) | (go_simp; with_reducible rfl) | (go_simp; simp; done)⟩) ?_
    refine wpAny_take (i := 29) (v := (.slice a l.length cap)) rfl (by kernel_rfl) (by kernel_rfl) (by kernel_rfl) (fun _ _ _ h => h) (Or.inl ⟨by kernel_rfl, fun w => by first | (go_simp; done) | (go_simp; with_reducible rfl) | (go_simp; simp; done)⟩) ?_
    refine wpAny_take (i := 31) (v := (.slice a l.length cap)) rfl (by kernel_rfl) (by kernel_rfl) (by kernel_rfl) (fun _ _ _ h => h) (Or.inl ⟨by kernel_rfl, fun w => by first | (go_simp; done) | (go_simp; with_reducible rfl) | (go_simp; simp; done)⟩) ?_
    refine wpAny_ready (rs := [30]) (by kernel_rfl) (by simp) ?_
    refine AllReady.cons rfl (fun K hK => ?_) AllReady.nil
    go_simp
    go_wp2_with (go_at_call 31; refine (first_any l _ _ h5.out).mono ?_; rintro e w6 ⟨rfl, k6⟩; have h6 := Lib.hid (MSl.keeps (S := fun _ => False) h5.out k6); have K6 := Lib.hid (K5.out.trans k6); clear k6)
    refine wpAny_ready (rs := [32]) (by kernel_rfl) (by simp) ?_
    refine AllReady.cons rfl (fun K hK => ?_) AllReady.nil
    go_simp
    go_wp2_with (go_at_call 32; refine (rfirst_any l _ _ h6.out).mono ?_; rintro e w6' ⟨rfl, rfl⟩)
    refine wpAny_take (i := 33) (v := (.bool true)) rfl (by kernel_rfl) (by kernel_rfl) (by kernel_rfl) (fun _ _ _ h => h) (Or.inl ⟨by kernel_rfl, fun w => by first | (go_simp; done) | (go_simp; with_reducible rfl) | (go_simp; simp; done)⟩) ?_
    refine wpAny_take (i := 34) (v := (.bool true)) rfl (by kernel_rfl) (by kernel_rfl) (by kernel_rfl) (fun _ _ _ h => h) (Or.inl ⟨by kernel_rfl, fun w => by first | (go_simp; done) | (go_simp; with_reducible rfl) | (go_simp; simp; done)⟩) ?_
    refine wpAny_ready (rs := [35]) (by kernel_rfl) (by simp) ?_
    refine AllReady.cons rfl (fun K hK => ?_) AllReady.nil
    go_simp
    refine hK _ _ ?_
    clear hK K
    refine wpAny_done (by kernel_rfl) ?_ _
    go_wp2_with fail
    go_ret
    exact ⟨rfl, K6.out⟩
end Go.Proofs.YtcgieejgmcgicaaGreatDoor
