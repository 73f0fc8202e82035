/-
  GaugeDraws: are two rows of numbers the same? (reedbedref01.Ints.) What a row is, copied. Signs in a line. No condition.
-/
import Derived.Test.YtcgieejgmcgicaaGreatDoorGdF
import Derived.Test.YtcgieejgmcgicaaGreatDoorTxA
import Derived.Laws.AppendOwnNone
namespace Go.Proofs.YtcgieejgmcgicaaGreatDoor
open Go.RowKit
set_option linter.unusedVariables false
set_option linter.unusedSimpArgs false
set_option maxRecDepth 100000

set_option maxHeartbeats 4000000 in
theorem ints_same (l : List Int) (a b : Value) (w : World) (ha : ISl w a l) (hb : ISl w b l) :
    Calls Tryz.prog 42 #[a, b] w fun e w' => e = .returned (.bool true) ∧ Keeps (fun _ => False) w w' := by
  obtain ⟨a, ac, rfl, hl, hA⟩ := ISl.cells ha
  obtain ⟨b, bc, rfl, _, hB⟩ := ISl.cells hb
  have HA := Lib.hid hA
  have HB := Lib.hid hB
  clear hA hB ha hb
  go_enter Tryz.func42, Tryz.ntmps42
  go_wp2_with fail
  go_loopw [5] (fun iv wr => ∃ i : Nat, iv = .int .i64 i ∧ i ≤ l.length ∧ Keeps (fun _ => False) w wr) (fun iv _ => l.length - (intOf iv).toNat)
  case atStart => exact ⟨0, rfl, Nat.zero_le _, Keeps.refl _ _⟩
  case round =>
    obtain ⟨i, rfl, hi, hk⟩ := hrel
    have HK := Lib.hid hk
    by_cases hil : i < l.length
    · obtain ⟨pb, po, rfl, _, hcc⟩ := HA.out (by omega)
      obtain ⟨qb, qo, rfl, _, hdd⟩ := HB.out (by omega)
      have c0 := hk.cell (hcc i hil) id
      have c1 := hk.cell (hdd i hil) id
      generalize l.getD i 0 = x at *
      have g1 : (x != x) = false := by simp
      clear hcc hdd hk
      go_wp2_with fail
      go_region
      go_wp2_with fail
      go_roundw
      case rel => exact ⟨i + 1, by go_num, by omega, HK.out.drew⟩
      case measure => simp [intOf]; omega
    · obtain rfl : i = l.length := by omega
      go_wp2_with fail
      go_ret
      exact ⟨rfl, HK.out⟩
theorem own_zeroG (w : World) (e : TypeId) (size : Nat) : (w.alloc (.cells #[] e)).ownsRow w.heap.size e size (.slice (some ⟨w.heap.size, 0, none⟩) 0 0) 0 [] :=
  ⟨by simp, Or.inr ⟨_, 0, #[], rfl, Nat.le_refl _, by simp [World.alloc, -World.alloc_eq], by omega, by unfold maxLen; omega, by simp, by simp⟩⟩
theorem cellsI (l : List Int) : cellsOf 1 (fun (x : Int) (_ : Nat) => (Value.int .i64 x)) l = l.map (Value.int .i64) := by
  induction l with
  | nil => rfl
  | cons x m ih => simp [cellsOf, List.range_succ] at ih ⊢; exact ih
/-- A row behind an empty one of the call's own. -/
theorem wpList_copy_int {w : World} {ops : Array Oper} {rest : List Oper} {o : Oper} {a : Act} {Q : Exit → Act → World → Prop} (hgd : o.guard = none) (s x : Operand)
    (ho : o.op = .call { callee := .builtin .append, args := #[s, x], argTypes := #[23, 23] })
    (hs : a.eval s = .slice (some ⟨w.heap.size, 0, none⟩) 0 0) (xv : Value) (l : List Int) (hx : a.eval x = xv) (hr : ISl w xv l) (hl : l.length ≤ 100000)
    (h : ∀ v' w', ISl w' v' l → Keeps (fun _ => False) w w' → wpList Tryz.prog ops Q rest (a.put o.dst v') w') : wpList Tryz.prog ops Q (o :: rest) a (w.alloc (.cells #[] 3)) := by
  obtain ⟨i0, hi, hz0, hz1, hz2⟩ := info_parts info_int
  have hown := own_zeroG w 3 1
  have fin : ∀ v' w', w'.ownsRow w.heap.size 3 1 v' (0 + l.length) ([] ++ cellsOf 1 (fun (x : Int) (_ : Nat) => (Value.int .i64 x)) l) → (w.alloc (.cells #[] 3)).grownBy w' (some w.heap.size) → wpList Tryz.prog ops Q rest (a.put o.dst v') w' := by
    intro v' w' h1 h2
    refine h v' w' (SlOf.ofOwn (by simpa using h1) (by omega)) ?_
    exact ((Keeps.refl (fun _ => False) w).alloc (.cells #[] 3)).trans2 ((Keeps.refl (fun b => w.heap.size ≤ b) _).grown h2 (fun b hb => Or.inl (by have := Option.some.inj hb; omega))) (fun i hi e => by omega)
  rcases hr.news (by omega) with ⟨rfl, rfl⟩ | ⟨ad, c, rfl, hnews⟩
  · refine wpList_append_own_none hgd s x 23 ho w.heap.size 3 i0 1 Tryz.underlying23 hi _ 0 [] hs hown hx (hs ▸ fin _ _ ?_ ?_)
    · rw [hs]; simpa [cellsOf] using hown
    · exact ⟨rfl, rfl, rfl, Nat.le_refl _, fun _ _ _ => rfl⟩
  · exact wpList_append_own _ hgd s x 23 ho w.heap.size 3 i0 _ 1 8 Tryz.underlying23 hi hz0 hz1 hz2 rfl (by decide) _ 0 [] hs hown ad _ c _ hx (cellsOf_length _ _ _) (fun j u hu => alloc_cell (hnews j u hu) _) (by rw [cellsI]; intro u hu; obtain ⟨x, _, rfl⟩ := List.mem_map.1 hu; rfl) (by unfold maxLen; omega) (by omega) (by simp)
      (fun v' w' h1 h2 _ => fin v' w' h1 h2)
/-- Signs among the first octets of a line. -/
def hashN (s : List UInt8) (k : Nat) : Nat := (s.take k).countP (· == 35)
theorem hash_succ (s : List UInt8) (k : Nat) (c : UInt8) (h : s[k]? = some c) : hashN s (k + 1) = hashN s k + (if c = 35 then 1 else 0) := by
  unfold hashN
  rw [List.take_add_one, h, List.countP_append]
  simp [List.countP_cons]
theorem dec_no : ∀ m, ∀ c ∈ Lib.decDigits m, c ≠ 35 := by
  intro m
  induction m using Nat.strongRecOn with
  | _ m ih =>
    rw [Lib.decDigits]
    split
    · rename_i h
      intro c hc
      simp only [List.mem_singleton] at hc
      subst hc
      intro e
      have := congrArg UInt8.toNat e
      rw [UInt8.toNat_ofNat_of_lt' (by show 48 + m < 256; omega)] at this
      have h35 : (35 : UInt8).toNat = 35 := rfl
      omega
    · rename_i h
      intro c hc
      rcases List.mem_append.1 hc with hc | hc
      · exact ih (m / 10) (by omega) c hc
      · simp only [List.mem_singleton] at hc
        subst hc
        intro e
        have := congrArg UInt8.toNat e
        rw [UInt8.toNat_ofNat_of_lt' (by show 48 + m % 10 < 256; omega)] at this
        have h35 : (35 : UInt8).toNat = 35 := rfl
        omega
theorem hash_line (c k : Nat) : hashN (lineN c k) (lineN c k).length = barN c k := by
  unfold hashN
  rw [List.take_length]
  have h0 : (Lib.decDigits c).countP (· == 35) = 0 := List.countP_eq_zero.2 fun x hx => by simpa using dec_no c x hx
  unfold lineN
  rw [List.countP_append, h0]
  by_cases hc : c = 0
  · subst hc; rw [if_pos rfl]; simp [barN]
  · rw [if_neg hc, List.countP_cons, List.countP_replicate]; simp
end Go.Proofs.YtcgieejgmcgicaaGreatDoor
