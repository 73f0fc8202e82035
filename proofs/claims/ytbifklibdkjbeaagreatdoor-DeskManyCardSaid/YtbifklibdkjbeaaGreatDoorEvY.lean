/-
  Appends: what becomes of the two memories. No condition.
-/
import Derived.Test.YtbifklibdkjbeaaGreatDoorEvX
import Derived.Deep.AppendSrc
namespace Go.Proofs.YtbifklibdkjbeaaGreatDoor
open Go
set_option linter.unusedSimpArgs false
set_option linter.unusedVariables false

section
variable {P : Program} {ρ : Rho} {H : AH} {w : World} {e : Operand → Value} {ev : Ev}
variable {dst : Option Tmp} {ty : TypeId} {pos : String} {after : Array Edge} {guard : Option (Nat × Bool)} {r : AR} {H' : AH}

theorem HOK.drawn (h : HOK ρ H w) (d : Nat) : HOK ρ H { w with drawn := d } := ⟨h.lt, h.inj, fun id b hb => let ⟨cs, fz, hl⟩ := h.row id b hb; ⟨cs, fz, hl.heap, hl.size, hl.thaw, hl.room, hl.whole, hl.den⟩⟩
theorem isSrc_kind {u : TypeId} (h : isSrc P u = true) : (∃ e', P.underlying u = some (.slice e')) ∨ P.underlying u = some .string := by
  unfold isSrc at h
  split at h
  · rename_i hu; exact .inl ⟨_, hu⟩
  · rename_i hu; exact .inr hu
  · simp at h
theorem ones_of {n : Nat} {l : List AC} {vs : List Value} (h : All2 (AC.den ρ n) l vs) : ∀ v ∈ vs, v.oneCell' = true := fun v hv => by
  obtain ⟨i, hi⟩ := List.mem_iff_getElem?.1 hv
  have : i < l.length := by have := (List.getElem?_eq_some_iff.1 hi).1; have := h.len; omega
  obtain ⟨u, hu, hdu⟩ := h.get (List.getElem?_eq_getElem this)
  rw [hi] at hu; cases hu; exact AC.den_one hdu
theorem lenA_den {n : Nat} {x : AR} {u : Value} {k : Nat} (h : lenA x = some n) (hd : x.den ρ k u) (w' : World) : (Builtin.lenOf u).run P w' = .ok n w' := by
  unfold lenA at h
  split at h
  · simp only [Option.some.injEq] at h; subst h
    obtain ⟨_, _, o, c, hv, _⟩ := hd; rw [hv]; rfl
  · simp only [Option.some.injEq] at h; subst h; rw [show u = _ from hd.1]; rfl
  · simp only [Option.some.injEq] at h; subst h; rw [show u = _ from hd.1]; rfl
  · simp at h
/-- What an append takes in. -/
theorem src_of {tx : TypeId} {n size : Nat} {x : AR} {u : Value} {l : List AC} (hH : HOK ρ H w) (hk : isSrc P tx = true) (hn : lenA x = some n) (h : slCells H n size x = some l) (hl : l.length = n * size)
    (hd : x.den ρ H.next u) : ∃ vs : List Value, Src P size tx u n vs w ∧ All2 (AC.den ρ H.next) l vs := by
  obtain ⟨vs, hdv, hor⟩ := sl_loads (P := P) hH h hd
  have hlen := hdv.len
  have hfc : ∀ d, (Builtin.firstCells size n u).run P { w with drawn := d } = .ok vs.toArray { w with drawn := d } := by
    intro d
    rcases hor with ⟨a, len, c, hv, hle, hrun⟩ | ⟨len, c, hv, h0, hvs⟩ | ⟨s, hv, hs, hvs⟩
    · rw [hv]; exact hrun d
    · rw [hv, hvs]; rfl
    · rw [hv, hvs, hs]
      simp only [Builtin.firstCells, Sem.run_pure]
      congr 1
      apply Array.ext'
      have : s.extract 0 s.size = s := by
        apply ByteArray.ext; simp
      simp [this]
  exact ⟨vs, ⟨isSrc_kind hk, fun w' => lenA_den hn hd w', hfc w.drawn, hfc (w.drawn + 1), by omega, ones_of hdv⟩, hdv⟩
theorem run_append_fit {t tx el : TypeId} {i : TypeInfo} (ht : P.underlying t = some (.slice el)) (hi : P.info? el = some i) (base : Option Addr) (len cap : Nat) (x : Value) (n : Nat) (news : List Value) (hs : Src P i.size tx x n news w)
    (hroom : len + n ≤ cap) {w' : World} (hst : ∀ a, base = some a → (storeCells (a.add (len * i.size)) news).run P w = .ok () w') (hno : base = none → w' = w) :
    (Builtin.append_ #[t, tx] ty #[.slice base len cap, x]).run P w = .ok (.slice base (len + n) cap) w' := by
  cases base with
  | none =>
    obtain rfl := hno rfl
    rcases hs.kind with ⟨e', hk⟩ | hk <;> simp [Builtin.append_, run_underlying ht, run_underlying hk, sizeOf, typeInfo, hi, hs.len, hroom, hs.cells]
  | some a =>
    have hst := hst a rfl
    rcases hs.kind with ⟨e', hk⟩ | hk <;> simp [Builtin.append_, run_underlying ht, run_underlying hk, sizeOf, typeInfo, hi, hs.len, hroom, hs.cells, hst]
/-- The row that an append makes. -/
theorem grown_ev (hH : HOK ρ H w) {b : Blk} {olds news : List Value} {zs : Array Value} (hwh : b.whole = false) (hd : All2 (AC.den ρ H.next) b.cells (olds ++ news)) :
    HOK (ρ.upd H.next w.heap.size 0 ((olds ++ news).toArray ++ zs).size) (H.new b) (w.drew.alloc (.cells ((olds ++ news).toArray ++ zs) b.elem)) ∧
      Kp H ρ w (H.new b) (ρ.upd H.next w.heap.size 0 ((olds ++ news).toArray ++ zs).size) (w.drew.alloc (.cells ((olds ++ news).toArray ++ zs) b.elem)) := by
  have hlen := hd.len
  refine new_ok hH (fz := (0, 0)) rfl rfl rfl rfl (.inl rfl) (by simp at hlen ⊢; omega) (fun h => by rw [hwh] at h; simp at h) fun k x hx => ?_
  obtain ⟨u, hu, hdu⟩ := hd.get hx
  refine ⟨u, ?_, hdu⟩
  have hk : k < (olds ++ news).length := (List.getElem?_eq_some_iff.1 hu).1
  rw [Array.getElem?_append_left (by simpa using hk)]
  simpa using hu
end
end Go.Proofs.YtbifklibdkjbeaaGreatDoor
