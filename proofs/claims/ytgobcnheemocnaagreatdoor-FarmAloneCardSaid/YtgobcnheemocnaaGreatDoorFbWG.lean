/-
  rig.done: where all is over. No condition.
-/
import Derived.Test.YtgobcnheemocnaaGreatDoorMg18
import Derived.Test.YtgobcnheemocnaaGreatDoorMg15
namespace Go.Proofs.YtgobcnheemocnaaGreatDoor
open Go
open Go.RowKit
set_option linter.unusedVariables false
set_option linter.unusedSimpArgs false
set_option maxRecDepth 100000

def AskF (w : World) (f : FuncId) (p : Nat) (v : Value) : Prop := ∀ W, Keeps (fun _ => False) w W → Calls Tryz.prog f #[.pointer (some ⟨p, 0, none⟩)] W fun e w' => e = .returned v ∧ Keeps (fun _ => False) W w'
abbrev DnR (w : World) (rb pb fb bb lb : Nat) (w' : World) : Prop := w'.cell? ⟨rb, 0, none⟩ = some (.pointer (some ⟨pb, 0, none⟩)) ∧ w'.cell? ⟨rb, 1, none⟩ = some (.pointer (some ⟨fb, 0, none⟩)) ∧ w'.cell? ⟨rb, 3, none⟩ = some (.pointer (some ⟨bb, 0, none⟩)) ∧ w'.cell? ⟨pb, 19, none⟩ = some (.pointer (some ⟨lb, 0, none⟩)) ∧ w'.cell? ⟨pb, 15, none⟩ = some (.int .i64 1) ∧ Keeps (fun _ => False) w w'
theorem DnR.keep {w : World} {rb pb fb bb lb : Nat} {a b : World} (k : Keeps (fun _ => False) a b) (h : DnR w rb pb fb bb lb a) : DnR w rb pb fb bb lb b :=
  ⟨k.cell h.1 id, k.cell h.2.1 id, k.cell h.2.2.1 id, k.cell h.2.2.2.1 id, k.cell h.2.2.2.2.1 id, h.2.2.2.2.2.trans k⟩
set_option maxHeartbeats 4000000 in
theorem done_any (w : World) (rb pb fb bb lb : Nat) (mo : Int) (hmo : mo = 0 ∨ mo = 1) (h : DnR w rb pb fb bb lb w) (hOv : AskF w 19 lb (.bool true)) (hCl : AskF w 20 bb (.bool true))
    (hSl : AskF w 21 pb (.int .i64 0)) (hOp : AskF w 22 fb (.int .i64 0)) (hMo : AskF w 11 fb (.int .i64 mo)) (hHo : AskF w 23 fb (.int .i64 0)) :
    Calls Tryz.prog 10 #[.pointer (some ⟨rb, 0, none⟩)] w fun e w' => e = .returned (.bool true) ∧ Keeps (fun _ => False) w w' := by
  have hd : DnR w rb pb fb bb lb w.drew := ⟨h.1, h.2.1, h.2.2.1, h.2.2.2.1, h.2.2.2.2.1, h.2.2.2.2.2.drew⟩
  obtain ⟨x0, x1, x3, x19, x15, _⟩ := h
  unfold AskF at hOv hCl hSl hOp hMo hHo
  have HOv := Lib.hid hOv
  have HCl := Lib.hid hCl
  have HSl := Lib.hid hSl
  have HOp := Lib.hid hOp
  have HHo := Lib.hid hHo
  rcases hmo with rfl | rfl
  all_goals
    have HMo := Lib.hid hMo
    clear hOv hCl hSl hOp hMo hHo
    go_enter Tryz.func10, Tryz.ntmps10
    go_upto_region 1 with fail
    go_region_held3 (fun w' => w'.cell? ⟨rb, 0, none⟩ = some (.pointer (some ⟨pb, 0, none⟩)) ∧ w'.cell? ⟨rb, 1, none⟩ = some (.pointer (some ⟨fb, 0, none⟩)) ∧ w'.cell? ⟨rb, 3, none⟩ = some (.pointer (some ⟨bb, 0, none⟩)) ∧ w'.cell? ⟨pb, 19, none⟩ = some (.pointer (some ⟨lb, 0, none⟩)) ∧ w'.cell? ⟨pb, 15, none⟩ = some (.int .i64 1) ∧ Keeps (fun _ => False) w w')
      (first | exact hd | exact DnR.keep k (by assumption))
      (first | (go_at_call 19; refine (HOv.out _ ?_).mono ?_; (first | assumption | exact (by assumption : DnR w rb pb fb bb lb _).2.2.2.2.2); rintro e w' ⟨rfl, k⟩) | (go_at_call 20; refine (HCl.out _ ?_).mono ?_; (first | assumption | exact (by assumption : DnR w rb pb fb bb lb _).2.2.2.2.2); rintro e w' ⟨rfl, k⟩) | (go_at_call 21; refine (HSl.out _ ?_).mono ?_; (first | assumption | exact (by assumption : DnR w rb pb fb bb lb _).2.2.2.2.2); rintro e w' ⟨rfl, k⟩) | (go_at_call 22; refine (HOp.out _ ?_).mono ?_; (first | assumption | exact (by assumption : DnR w rb pb fb bb lb _).2.2.2.2.2); rintro e w' ⟨rfl, k⟩) | (go_at_call 11; refine (HMo.out _ ?_).mono ?_; (first | assumption | exact (by assumption : DnR w rb pb fb bb lb _).2.2.2.2.2); rintro e w' ⟨rfl, k⟩) | (go_at_call 23; refine (HHo.out _ ?_).mono ?_; (first | assumption | exact (by assumption : DnR w rb pb fb bb lb _).2.2.2.2.2); rintro e w' ⟨rfl, k⟩))
    go_wp2_with fail
    go_ret
    exact ⟨rfl, (by assumption : DnR w rb pb fb bb lb _).2.2.2.2.2⟩
end Go.Proofs.YtgobcnheemocnaaGreatDoor
