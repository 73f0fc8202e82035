/-
  Operations that look at no memory: all. No condition.
-/
import Derived.Test.YtapmdhejgnplaaaGreatMg3
namespace Go.Proofs.YtapmdhejgnplaaaGreat
open Go.RowKit
set_option linter.unusedVariables false
set_option linter.unusedSimpArgs false
set_option maxRecDepth 100000
section
open Go
section
variable {P : Program} {ρ : Rho} {n : Nat} {e : Operand -> Value} {ev : Ev}
variable {dst : Option Tmp} {ty : TypeId} {pos : String} {after : Array Edge} {guard : Option (Nat × Bool)} {r : AR} {w : World}
theorem xcf {t : TypeId} {x y : Value} {b : Bool} (h : (Op.equalIn (9999 + 1) t x y).run P w = .ok b w) : (Op.equal t x y).run P w = .ok b w := h
theorem q_bin {op : BinOp} {t yt : TypeId} {x y : Operand} (h : xaP P ev ⟨dst, .binOp op t x y yt, ty, pos, after, guard⟩ = some r) (he : EvOK ρ n ev e [x, y]) :
 xck P e ρ n ⟨dst, .binOp op t x y yt, ty, pos, after, guard⟩ r w := by
 simp only [xaP] at h
 split at h
 · rename_i r' hr; simp only [Option.some.injEq] at h; subst h; exact xaW hr he w
 have hx := he x (by simp)
 have hy := he y (by simp)
 have key : ∀ b : Bool, (Op.equal t (e x) (e y)).run P w = .ok b w -> (∀ (w : World), (eqGuard op t x y (e x) (e y)).run P w = .ok () w) ->
  (∀ k, e x ≠ .int k 0 \/ True) -> (match e x, e y with | .int .., _ | .float .., _ | .complex .., _ | .string _, _ => False | _, _ => True) ->
  (op = .eql /\ r = .one (.c (.lit (.bool b))) \/ op = .neq /\ r = .one (.c (.lit (.bool !b)))) -> xck P e ρ n ⟨dst, .binOp op t x y yt, ty, pos, after, guard⟩ r w := by
  intro b hb hg _ hm hr
  rcases hr with ⟨rfl, rfl⟩ | ⟨rfl, rfl⟩
  · refine ⟨.bool b, ?_, rfl, rfl⟩
    have hbin : binOp .eql t (e x) (e y) = (do pure (.bool (<- Op.equal t (e x) (e y)))) := by
     cases hex : e x <;> simp [hex] at hm <;> cases e y <;> rfl
    simp [execOp, hg, hbin, hb]
  refine ⟨.bool !b, ?_, rfl, rfl⟩
  have hbin : binOp .neq t (e x) (e y) = (do pure (.bool (!(<- Op.equal t (e x) (e y))))) := by
   cases hex : e x <;> simp [hex] at hm <;> cases e y <;> rfl
  simp [execOp, hg, hbin, hb]
 generalize hz : xlA P t (ev x) (ev y) = z at h
 cases z with
 | none => simp at h
 | some b =>
  have hr : op = .eql /\ r = .one (.c (.lit (.bool b))) \/ op = .neq /\ r = .one (.c (.lit (.bool !b))) := by
   cases op <;> first | exact .inl ⟨rfl, (Option.some.inj h).symm⟩ | exact .inr ⟨rfl, (Option.some.inj h).symm⟩ | (exact absurd h (by intro h; cases h))
  clear h
  unfold xlA at hz
  split at hz
  · rename_i el i o hu h1 h2
    rw [h1] at hx; rw [h2] at hy
    simp only [Option.some.injEq] at hz; subst hz
    have ex : e x = _ := hx.2
    have ey : e y = _ := hy.1
    refine key false ?_ (fun w => by rw [ex, ey]; rcases hr with ⟨rfl, _⟩ | ⟨rfl, _⟩ <;> rfl) (fun _ => .inr trivial) (by rw [ex, ey]; trivial) hr
    rw [ex, ey]; exact xcf (by rw [Op.equalIn]; simp [run_underlying hu])
  · rename_i el i o hu h1 h2
    rw [h1] at hx; rw [h2] at hy
    simp only [Option.some.injEq] at hz; subst hz
    have ex : e x = _ := hx.1
    have ey : e y = _ := hy.2
    refine key false ?_ (fun w => by rw [ex, ey]; rcases hr with ⟨rfl, _⟩ | ⟨rfl, _⟩ <;> rfl) (fun _ => .inr trivial) (by rw [ex, ey]; trivial) hr
    rw [ex, ey]; exact xcf (by rw [Op.equalIn]; simp [run_underlying hu])
  · rename_i el i o j p hu h1 h2
    rw [h1] at hx; rw [h2] at hy
    have ex : e x = _ := hx.2
    have ey : e y = _ := hy.2
    split at hz
    · rename_i k hk
      cases hij : Nat.beq i j with
      | false => simp only [hij, cond_false, reduceCtorEq] at hz
      | true =>
       have : i = j := Nat.eq_of_beq_eq_true hij
       subst this
       simp only [hij, cond_true, Option.some.injEq] at hz
       refine key b ?_ (fun w => by rw [ex, ey]; rcases hr with ⟨rfl, _⟩ | ⟨rfl, _⟩ <;> rfl) (fun _ => .inr trivial) (by rw [ex, ey]; trivial) hr
       rw [ex, ey]
       have : ((⟨ρ.blk i, ρ.base i + o, none⟩ : Addr) == ⟨ρ.blk i, ρ.base i + p, none⟩) = b := by
        rw [<- hz, Bool.eq_iff_iff]; simp [Nat.beq_eq]
       exact xcf (by rw [Op.equalIn]; simp [run_underlying hu, xaS hk, sameAddr, this])
    simp at hz
  · rename_i el i o l c s x' a b' hu h1 h2
    rw [h1] at hx; rw [h2] at hy
    simp only [Option.some.injEq] at hz; subst hz
    obtain ⟨_, _, o, c, ex, _⟩ := hx
    have ey : e y = _ := hy.1
    refine key false ?_ (fun w => by rw [ex, ey]; rcases hr with ⟨rfl, _⟩ | ⟨rfl, _⟩ <;> rfl) (fun _ => .inr trivial) (by rw [ex, ey]; trivial) hr
    rw [ex, ey]; exact xcf (by rw [Op.equalIn]; simp [run_underlying hu])
  · rename_i el a b' i o l c s x' hu h1 h2
    rw [h1] at hx; rw [h2] at hy
    simp only [Option.some.injEq] at hz; subst hz
    obtain ⟨_, _, o, c, ey, _⟩ := hy
    have ex : e x = _ := hx.1
    refine key false ?_ (fun w => by rw [ex, ey]; rcases hr with ⟨rfl, _⟩ | ⟨rfl, _⟩ <;> rfl) (fun _ => .inr trivial) (by rw [ex, ey]; trivial) hr
    rw [ex, ey]; exact xcf (by rw [Op.equalIn]; simp [run_underlying hu])
  · rename_i ms tt c hu h1 h2
    rw [h1] at hx; rw [h2] at hy
    simp only [Option.some.injEq] at hz; subst hz
    obtain ⟨v, ex, _⟩ := hx
    have ey : e y = _ := hy.1
    refine key false ?_ (fun w => by rw [ex, ey]; rcases hr with ⟨rfl, _⟩ | ⟨rfl, _⟩ <;> rfl) (fun _ => .inr trivial) (by rw [ex, ey]; trivial) hr
    rw [ex, ey]; exact xcf (by rw [Op.equalIn]; simp [run_underlying hu])
  · rename_i ms tt c hu h1 h2
    rw [h1] at hx; rw [h2] at hy
    simp only [Option.some.injEq] at hz; subst hz
    obtain ⟨v, ey, _⟩ := hy
    have ex : e x = _ := hx.1
    refine key false ?_ (fun w => by rw [ex, ey]; rcases hr with ⟨rfl, _⟩ | ⟨rfl, _⟩ <;> rfl) (fun _ => .inr trivial) (by rw [ex, ey]; trivial) hr
    rw [ex, ey]; exact xcf (by rw [Op.equalIn]; simp [run_underlying hu])
  · rename_i a1 a2 a3 tt c hu h1 h2
    rw [h1] at hx; rw [h2] at hy
    simp only [Option.some.injEq] at hz; subst hz
    obtain ⟨_, _, _, _, _, _, ex⟩ := hx
    have ey : e y = _ := hy.1
    refine key false ?_ (fun w => by rw [ex, ey]; rcases hr with ⟨rfl, _⟩ | ⟨rfl, _⟩ <;> rfl) (fun _ => .inr trivial) (by rw [ex, ey]; trivial) hr
    rw [ex, ey]; exact xcf (by rw [Op.equalIn]; simp [run_underlying hu])
  · rename_i a1 a2 a3 tt c hu h1 h2
    rw [h1] at hx; rw [h2] at hy
    simp only [Option.some.injEq] at hz; subst hz
    obtain ⟨_, _, _, _, _, _, ex⟩ := hx
    have ey : e y = _ := hy.1
    refine key false ?_ (fun w => by rw [ex, ey]; rcases hr with ⟨rfl, _⟩ | ⟨rfl, _⟩ <;> rfl) (fun _ => .inr trivial) (by rw [ex, ey]; trivial) hr
    rw [ex, ey]; exact xcf (by rw [Op.equalIn]; simp [run_underlying hu])
  simp at hz
theorem q_iface {t : TypeId} {x : Operand} (h : xaP P ev ⟨dst, .makeInterface t x, ty, pos, after, guard⟩ = some r) (he : EvOK ρ n ev e [x]) :
 xck P e ρ n ⟨dst, .makeInterface t x, ty, pos, after, guard⟩ r w := by
 simp only [xaP] at h
 split at h
 · rename_i r' hr; simp only [Option.some.injEq] at h; subst h; exact xaW hr he w
 split at h
 · simp at h
 · rename_i d c hne hu hx
   simp only [Option.some.injEq] at h; subst h
   have hd := he x (by simp)
   rw [hx] at hd
   refine ⟨.iface t (e x), ?_, _, rfl, hd⟩
   cases d <;> first
    | (simp [execOp, Instr.makeInterface, run_underlying hu]; done)
    | (exact absurd hu (by intro hh; simp_all))
 simp at h
end
end
end Go.Proofs.YtapmdhejgnplaaaGreat
