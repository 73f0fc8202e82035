/-
  Several texts in one: The document's Get: it comes back. The document's points: it comes back. The document's number: it comes back. Numbers added to rows; parts of slices. The document's braces: it comes back. The parser's functions on trees as plain words (atom, counted, pieces, alternatives), and where they end. The parser's atom, given its alternatives.
-/
import Derived.Test.YtjahiihmoglpfaaGreatDoorMg9
import Derived.Test.YtjahiihmoglpfaaGreatDoorMg2
import Derived.Deep.RegionHeld3
import Derived.Deep.CutRange
import Derived.BigRegion
import Derived.BigQuiet
import Derived.Test.YtjahiihmoglpfaaGreatDoorMg5
import Derived.Handy
import Derived.Laws.AppendOwnNone
import Derived.Test.YtjahiihmoglpfaaGreatDoorPaClsG
import Derived.Test.YtjahiihmoglpfaaGreatDoorMg4
import Derived.Test.YtjahiihmoglpfaaGreatDoorMg8
namespace Go.Proofs.YtjahiihmoglpfaaGreatDoor
open Go.RowKit
set_option linter.unusedVariables false
set_option linter.unusedSimpArgs false
set_option maxRecDepth 100000
def GetE (k : Nat) (w : World) (e : Ending) (w' : World) : Prop := ∃ (r : Int) (n : Nat), e = .returned (.tuple #[.int .i64 r, .int .i64 n]) ∧ (1 ≤ n ∧ n ≤ k) ∧ (0 ≤ r ∧ r ≤ 1114111) ∧ xaa (fun _ => False) w w'
theorem xkB (l : List UInt8) (n : Nat) : (⟨l.toArray⟩ : ByteArray).extract 0 n = ⟨(l.take n).toArray⟩ := by
 apply ByteArray.ext
 simp [ByteArray.data_extract]
set_option maxHeartbeats 4000000 in
theorem xli (l : List UInt8) (w : World) (h0 : 0 < l.length) (hl : l.length ≤ 1000) : Calls Tryz.prog 90 #[.string ⟨l.toArray⟩] w (GetE l.length w) := by
 have g0 : ((l.length : Int) == 0) = false := beq_eq_false_iff_ne.2 (by omega)
 go_enter Tryz.func90, Tryz.ntmps90
 go_wp2_with fail
 go_loopw [4] (fun nv wr => ∃ n : Nat, nv = .int .i64 n ∧ (1 ≤ n ∧ n ≤ 5) ∧ xaa (fun _ => False) w wr) (fun nv _ => 6 - (intOf nv).toNat)
 case atStart => exact ⟨1, rfl, by omega, xaa.refl _ _⟩
 case round =>
  obtain ⟨n, rfl, hn, hkw⟩ := hrel
  have K := xmA hkw
  clear hkw
  by_cases h4 : n ≤ 4
  · by_cases hnl : n ≤ l.length
    · have hE := xkB l n
      have hlt : (l.take n).length = n := by simp; omega
      have hsl : n ≤ (⟨l.toArray⟩ : ByteArray).size := by simpa [ByteArray.size] using hnl
      obtain ⟨u, hu⟩ : ∃ u, l.take n = u := ⟨_, rfl⟩
      rw [hu] at hE hlt
      have HV := xmA (fun W => xiI u W (by omega) (by omega))
      clear hu
      go_wp2_with fail
      refine (HV.out _).mono ?_
      rintro e w2 ⟨_, rfl, ⟨V, rfl⟩, k2⟩
      have K2 := xmA (K.out.trans k2)
      have hkd : xaa (fun _ => False) w2 w2.drew := (xaa.refl _ _).drew
      have KI := fun W => rIs_any V W
      clear k2 K
      cases hb : isB V with
      | false =>
       rw [hb] at KI
       go_wp2_with fail
       go_quiet (first | (go_at_call 126; exact Calls.quiet_of_same ((KI _).mono fun e w' ⟨e1, e2⟩ => ⟨e1, e2.symm⟩)))
       go_wp2_with fail
       go_roundw
       case rel => exact ⟨n + 1, by go_num, by omega, K2.out.drawN _⟩
       case measure => simp [intOf]; omega
      | true =>
       have HV2 := xmA (show 0 ≤ V ∧ V ≤ 1114111 by unfold isB at hb; simp at hb; omega)
       rw [hb] at KI
       go_wp2_with fail
       go_region_held3 (fun w' => xaa (fun _ => False) w2 w') (first | exact hkd | assumption) (first | (go_at_call 126; refine (KI _).mono ?_; rintro e w' ⟨rfl, rfl⟩) | (go_at_call 91; refine (xhU V _).mono ?_; rintro e w' ⟨_, rfl, ⟨s, rfl⟩, hkn⟩; replace hkn := xaa.trans (by assumption : xaa (fun _ => False) w2 _) hkn))
       go_wp2_with fail
       · go_ret2
         exact ⟨_, n, rfl, by omega, HV2.out, K2.out.trans (by assumption)⟩
       go_roundw
       case rel => exact ⟨n + 1, by go_num, by omega, K2.out.trans (by assumption)⟩
       case measure => simp [intOf]; omega
    go_wp2_with fail
    go_ret2
    exact ⟨_, 1, rfl, by omega, by decide, K.out⟩
  go_wp2_with fail
  go_ret2
  exact ⟨_, 1, rfl, by omega, by decide, K.out⟩
def PtsW (k : Nat) (w : World) (e : Ending) (w' : World) : Prop := ∃ (v : Value) (ok : Bool) (acc : List Int), e = .returned (.tuple #[v, .bool ok]) ∧ (acc.length ≤ k ∧ ∀ x ∈ acc, in64 x) ∧ w'.ownsRow w.heap.size 3 1 v acc.length (acc.map (Value.int .i64)) ∧ xaa (fun _ => False) w w'
def strLn : Value → Nat
 | .string s => s.size
 | _ => 0
theorem extr_dr (l : List UInt8) (n : Nat) : (⟨l.toArray⟩ : ByteArray).extract n l.length = ⟨(l.drop n).toArray⟩ := by
 apply ByteArray.ext
 simp [ByteArray.data_extract, List.extract_eq_take_drop]
 rw [List.take_of_length_le (by simp)]
def SPts (l : List UInt8) (base : Nat) (w : World) (sv ov : Value) (wr : World) : Prop :=
 ∃ (rest : List UInt8) (acc : List Int), sv = .string ⟨rest.toArray⟩ ∧ (acc.length + rest.length ≤ l.length ∧ ∀ x ∈ acc, in64 x) ∧ wr.ownsRow base 3 1 ov acc.length (acc.map (Value.int .i64)) ∧ xaa (fun _ => False) w wr
set_option maxHeartbeats 4000000 in
theorem xha (l : List UInt8) (w : World) (hl : l.length ≤ 1000) : Calls Tryz.prog 58 #[.string ⟨l.toArray⟩] w (PtsW l.length w) := by
 obtain ⟨i0, hi0, hz0, hz1, hz2⟩ := info_parts xdX
 go_enter Tryz.func58, Tryz.ntmps58
 go_wp2_with fail
 go_loopw [0, 4] (fun sv ov wr => SPts l w.heap.size w sv ov wr) (fun sv _ _ => strLn sv)
 case atStart => exact ⟨l, [], rfl, ⟨by simp, by simp⟩, World.ownsRow_nil _ _ _ _, xaa.refl _ _⟩
 case round =>
  obtain ⟨rest, acc, rfl, ⟨hlen, h64⟩, hown, hkw⟩ := hrel
  have H64 := xmA h64
  clear h64
  have K := xmA hkw
  have OW := xmA hown
  obtain ⟨va, vc, rfl⟩ := xad hown
  have hsw := hkw.size
  clear hown hkw
  by_cases h0 : 0 < rest.length
  · have HG := xmA (fun W => xli rest W h0 (by omega))
    have h0' : decide ((0 : Int) < (rest.length : Int)) = true := by simp; omega
    go_wp2_with fail
    refine (HG.out _).mono ?_
    rintro e w2 ⟨V, n, rfl, hn, hV, k2⟩
    have HV := xmA hV
    clear hV
    have hkd : xaa (fun _ => False) w2 w2.drew := (xaa.refl _ _).drew
    have K2 := xmA k2
    have hE1 := xkB rest n
    have hE2 := extr_dr rest n
    have hdl : (rest.drop n).length = rest.length - n := by simp
    generalize rest.take n = pre at *
    generalize rest.drop n = rest' at *
    have hI2 : (n : Int) ≤ (rest.length : Int) := by omega
    clear k2 HG
    go_wp2_with fail
    go_region_held3 (fun w' => xaa (fun _ => False) w2 w') (first | exact hkd | assumption) (first | (go_at_call 91; refine (xhU V _).mono ?_; rintro e w' ⟨_, rfl, ⟨s, rfl⟩, hkn⟩; replace hkn := xaa.trans (by assumption : xaa (fun _ => False) w2 _) hkn))
    have K3 : Hid (xaa (fun _ => False) wr w') := xmA (K2.out.trans (by assumption))
    have hs3 := K3.out.size
    rcases hb : (s == pre) with _ | _
    · go_wp2_with fail
      go_ret2
      exact ⟨_, false, [], rfl, ⟨by simp, by simp⟩, World.ownsRow_nil _ _ _ _, K.out.trans K3.out⟩
    go_wp2_with (at_builtin; refine wpList_append_own _ rfl (.tmp 21) (.tmp 23) 23 rfl w.heap.size 3 i0 (.int .i64 0) 1 8 Tryz.underlying23 hi0 hz0 hz1 hz2 rfl (by decide) _ _ _ rfl (xac (xae OW.out K3.out (fun _ _ => id)) _) ⟨w'.heap.size, 0, none⟩ 1 1 [.int .i64 V] rfl rfl (by exact xak _ [_] _) (by intro u hu; simp at hu; subst hu; rfl) ?d3 ?d4 ?d5 ?_)
    case d3 => unfold maxLen; omega
    case d4 => omega
    case d5 => simp; omega
    intro v' w4 hown' hgrow _
    have hk4 : xaa (fun k => w.heap.size ≤ k) wr w4 := ((K3.out.mono (fun _ _ e => e.elim)).alloc (.cells #[.int .i64 V] 3)).grown hgrow (fun b hb => Or.inl (xab OW.out b hb))
    have K4 : Hid (xaa (fun _ => False) w w4) := xmA (K.out.trans2 hk4 (fun i hi e => by omega))
    have O4 : Hid (w4.ownsRow w.heap.size 3 1 v' (acc ++ [V]).length ((acc ++ [V]).map (Value.int .i64))) := xmA (by simpa using hown')
    clear hown' hgrow hk4
    go_wp2_with fail
    go_roundw
    case rel => exact ⟨rest', acc ++ [V], by first | rfl | exact congrArg Value.string hE2, ⟨by simp; omega, fun x hx => by
     rcases List.mem_append.1 hx with h | h
     · exact H64.out x h
     obtain rfl : x = V := by simpa using h
     have := HV.out; unfold in64; omega⟩, O4.out, K4.out⟩
    case measure => simp [strLn, ByteArray.size]; omega
  go_wp2_with fail
  go_ret2
  exact ⟨_, true, acc, rfl, ⟨by omega, H64.out⟩, OW.out, K.out⟩
abbrev SI (w : World) (v : Value) (l : List Int) : Prop := SlOf 1 encI w v l
theorem SI.cells {w : World} {v : Value} {l : List Int} (h : SI w v l) : ∃ a cap, v = .slice a l.length cap ∧ l.length ≤ cap ∧ (0 < l.length → ∃ b off, a = some ⟨b, off, none⟩ ∧ ∀ i r, l[i]? = some r → w.cell? ⟨b, off + i, none⟩ = some (.int .i64 r)) := by
 obtain ⟨a, cap, rfl, ⟨h1, _⟩, h2, h3⟩ := h
 refine ⟨a, cap, rfl, h1, fun h0 => ?_⟩
 obtain ⟨b, off, rfl, hc⟩ := h3 h0
 exact ⟨b, off, rfl, fun i r hr => by simpa [encI] using hc i r hr 0 (by omega)⟩
def NumE (n : Nat) (w : World) (e : Ending) (w' : World) : Prop := ∃ (r : Int) (k : Nat), e = .returned (.tuple #[.int .i64 r, .int .i64 k]) ∧ (k ≤ n ∧ k ≤ 2) ∧ in64 r ∧ w' = w
theorem wrap_in (x : Int) : in64 (wrap64 x) := by unfold wrap64 in64; omega
set_option maxHeartbeats 4000000 in
theorem xe (l : List Int) (v : Value) (w : World) (h : SI w v l) (hl : l.length ≤ 1000) : Calls Tryz.prog 131 #[v] w (NumE l.length w) := by
 obtain ⟨a, cap, rfl, hcap, hc⟩ := h.cells
 clear h
 go_enter Tryz.func131, Tryz.ntmps131
 go_wp2_with fail
 go_loopw [4, 5] (fun nv kv wr => ∃ (r : Int) (k : Nat), nv = .int .i64 r ∧ kv = .int .i64 k ∧ (k ≤ l.length ∧ k ≤ 2) ∧ in64 r ∧ wr = w) (fun _ kv _ => 3 - (intOf kv).toNat)
 case atStart => exact ⟨0, 0, rfl, rfl, by omega, by unfold in64; omega, rfl⟩
 case round =>
  obtain ⟨n, k, rfl, rfl, hk, hn, rfl⟩ := hrel
  have HN := xmA hn
  clear hn
  by_cases h2 : k < 2
  · by_cases hl' : k < l.length
    · obtain ⟨x, hx⟩ : ∃ x, l[k]? = some x := ⟨_, List.getElem?_eq_getElem hl'⟩
      obtain ⟨b, off, rfl, hcc⟩ := hc (by omega)
      have c0 := hcc k x hx
      clear hc hcc hx
      rcases g1 : decide (48 ≤ x) with _ | _ <;> rcases g2 : decide (x ≤ 57) with _ | _ <;> go_wp2_with fail
      all_goals first
       | (go_ret2; first | exact ⟨_, k, rfl, by omega, HN.out, rfl⟩ | exact ⟨0, 0, rfl, by omega, by unfold in64; omega, rfl⟩)
       | (go_roundw
          case rel => exact ⟨_, k + 1, rfl, by go_num, by omega, by first | exact wrap_in _ | exact HN.out | (unfold in64 IntKind.wrap; omega), by trivial⟩
          case measure => simp [intOf]; omega)
    go_wp2_with fail
    all_goals go_ret2
    all_goals first | exact ⟨_, k, rfl, by omega, HN.out, rfl⟩ | exact ⟨0, 0, rfl, by omega, by unfold in64; omega, rfl⟩
  go_wp2_with fail
  all_goals go_ret2
  all_goals first | exact ⟨_, k, rfl, by omega, HN.out, rfl⟩ | exact ⟨0, 0, rfl, by omega, by unfold in64; omega, rfl⟩
theorem xct (l : List Int) : cellsOf 1 encI l = l.map (Value.int .i64) := by
 induction l with
 | nil => rfl
 | cons x l ih => simp [cellsOf, List.range_succ, encI] at ih ⊢; exact ih
theorem xl3 (l : List Int) : ∀ u ∈ cellsOf 1 encI l, u.oneCell' = true := by
 intro u hu
 rw [xct, List.mem_map] at hu
 obtain ⟨x, _, rfl⟩ := hu
 rfl
theorem xbY {w : World} {ops : Array Oper} {rest : List Oper} {o : Oper} {a : Act} {Q : Exit → Act → World → Prop} (hgd : o.guard = none) (s x : Operand)
 (ho : o.op = .call { callee := .builtin .append, args := #[s, x], argTypes := #[23, 23] })
 (base : Nat) (v : Value) (n : Nat) (xs : List Value) (hs : a.eval s = v) (hown : w.ownsRow base 3 1 v n xs)
 (xv : Value) (l : List Int) (hx : a.eval x = xv) (hr : SlOf 1 encI w xv l) (h63 : n + l.length ≤ 1000000) (hbase : base ≤ w.heap.size)
 (h : ∀ v' w', w'.ownsRow base 3 1 v' (n + l.length) (xs ++ cellsOf 1 encI l) → w.grownBy w' v.ownBlock → wpList Tryz.prog ops Q rest (a.put o.dst v') w') : wpList Tryz.prog ops Q (o :: rest) a w := by
 obtain ⟨i0, hi, hz0, hz1, hz2⟩ := info_parts xdX
 rcases hr.news (by omega) with ⟨rfl, rfl⟩ | ⟨ad, c, rfl, hnews⟩
 · refine wpList_append_own_none hgd s x 23 ho base 3 i0 1 Tryz.underlying23 hi v n xs hs hown hx (hs ▸ h v w ?_ ?_)
   · simpa [cellsOf] using hown
   exact ⟨rfl, rfl, rfl, Nat.le_refl _, fun _ _ _ => rfl⟩
 exact wpList_append_own _ hgd s x 23 ho base 3 i0 _ 1 8 Tryz.underlying23 hi hz0 hz1 hz2 rfl (by decide) v n xs hs hown ad _ c _ hx (xah _ _ _) hnews (xl3 _) (by unfold maxLen; omega) (by omega) hbase
  (fun v' w' h1 h2 _ => h v' w' h1 h2)
theorem SlOf.takeI {w : World} {a : Option Addr} {n cap : Nat} {l : List Int} (h : SlOf 1 encI w (.slice a n cap) l) (k : Nat) (hk : k ≤ n) : SlOf 1 encI w (.slice a k cap) (l.take k) := by
 obtain ⟨a', c, e, ⟨hl, hn⟩, hl2, hcc⟩ := h
 injection e with e1 e2 e3
 subst e1 e2 e3
 refine ⟨_, _, by rw [List.length_take, Nat.min_eq_left hk], ⟨by rw [List.length_take]; omega, hn⟩, by rw [List.length_take]; omega, fun h0 => ?_⟩
 rw [List.length_take] at h0
 obtain ⟨b, off, e, hc⟩ := hcc (by omega)
 refine ⟨b, off, e, fun i x hx j hj => hc i x ?_ j hj⟩
 rw [List.getElem?_take] at hx
 split at hx
 · exact hx
 cases hx
theorem xc9 {w : World} {base base' : Nat} {e : TypeId} {size : Nat} {v : Value} {n : Nat} {xs : List Value} (h : w.ownsRow base e size v n xs) (hb : base' ≤ base) : w.ownsRow base' e size v n xs := by
 refine ⟨h.1, ?_⟩
 rcases h.2 with h | ⟨g, cap, cur, h1, h2, h3⟩
 · exact Or.inl h
 exact Or.inr ⟨g, cap, cur, h1, by omega, h3⟩
theorem SI.dropS {w : World} {b off n cap : Nat} {l : List Int} (h : SlOf 1 encI w (.slice (some ⟨b, off, none⟩) n cap) l) (i : Nat) (hi : i ≤ n) :
 SlOf 1 encI w (.slice (some ⟨b, off + i, none⟩) (n - i) (cap - i)) (l.drop i) := by
 obtain ⟨a, c, e, ⟨hl, hn⟩, hl2, hcc⟩ := h
 injection e with e1 e2 e3
 subst e1 e2 e3
 refine ⟨_, _, by rw [List.length_drop], ⟨by rw [List.length_drop]; omega, (fun h => by cases h)⟩, by rw [List.length_drop]; omega, fun h0 => ⟨b, off + i, rfl, fun j x hx q hq => ?_⟩⟩
 rw [List.length_drop] at h0
 obtain ⟨b', off', e', hx'⟩ := hcc (by omega)
 injection e' with e'
 injection e' with e1 e2 _
 subst e1 e2
 rw [List.getElem?_drop] at hx
 have := hx' (i + j) x hx q hq
 rw [← this]
 congr 2
 omega
def tkV (k r : Int) (sv : Value) (m x : Int) : Value := .agg #[.int .i64 k, .int .i64 r, sv, .int .i64 m, .int .i64 x]
def BrE (n : Nat) (w : World) (e : Ending) (w' : World) : Prop := ∃ (k m x : Int) (c : Nat), e = .returned (.tuple #[tkV k 0 (.slice none 0 0) m x, .int .i64 c]) ∧ (c ≤ n ∧ (k = 0 ∨ k = 1 ∨ k = 2)) ∧ (in64 m ∧ in64 x) ∧ xaa (fun _ => False) w w'
set_option maxHeartbeats 8000000 in
theorem xh (l : List Int) (v : Value) (w : World) (hl : l.length ≤ 1000) (h : SI w v l) : Calls Tryz.prog 95 #[v] w (BrE l.length w) := by
 have HN := xmA (fun W (hW : SI W v l) => xe l v W hW hl)
 have HI := xmA h
 obtain ⟨a, cap, rfl, hcap, hc⟩ := h.cells
 clear h
 go_enter Tryz.func95, Tryz.ntmps95
 go_wp2_with fail
 refine (HN.out _ (HI.out.keep ((xaa.refl _ _).alloc _))).mono ?_
 rintro e w3 ⟨n, k, rfl, hk, hn64, rfl⟩
 have H1 := xmA hn64
 clear hn64
 have hO := (xaa.refl (fun _ => False) w).alloc (.cells #[.int .i64 0, .int .i64 0, .slice none 0 0, .int .i64 0, .int .i64 0] 116)
 by_cases h0 : k = 0 ∨ l.length ≤ k
 · go_wp2_with fail
   all_goals refine bodyPost_ret (by simp [results, Tryz.results95, go_sem]; try rfl) rfl ?_
   all_goals first | exact ⟨_, _, _, 0, rfl, ⟨by omega, by simp⟩, by simp [in64], (xaa.refl _ _).alloc _⟩
 obtain ⟨b, off, rfl, hcc⟩ := hc (by omega)
 obtain ⟨c, hcx⟩ : ∃ c, l[k]? = some c := ⟨_, List.getElem?_eq_getElem (by omega)⟩
 have x0 := hO.cell (hcc k c hcx) id
 have gk : ((k : Int) == 0) = false := beq_eq_false_iff_ne.2 (by omega)
 have gl : decide ((l.length : Int) ≤ (k : Int)) = false := by simp; omega
 clear hc hcx
 by_cases h1 : l.length ≤ k + 1
 · go_wp2_with fail
   all_goals refine bodyPost_ret (by simp [results, Tryz.results95, go_sem]; try rfl) rfl ?_
   all_goals first | exact ⟨_, _, _, 0, rfl, ⟨by omega, by simp⟩, by simp [in64], (xaa.refl _ _).alloc _⟩ | exact ⟨_, _, _, k + 1, rfl, ⟨by omega, by simp⟩, ⟨H1.out, H1.out⟩, (xaa.refl _ _).alloc _⟩
 obtain ⟨d, hdx⟩ : ∃ d, l[k + 1]? = some d := ⟨_, List.getElem?_eq_getElem (by omega)⟩
 have x1 := hO.cell (hcc (k + 1) d hdx) id
 have hS2 := xmA ((SI.dropS HI.out (k + 1) (by omega)).keep hO)
 have hdl : (l.drop (k + 1)).length = l.length - (k + 1) := by simp
 go_wp2_with fail
 all_goals try (
  all_goals refine bodyPost_ret (by simp [results, Tryz.results95, go_sem]; try rfl) rfl ?_
  all_goals first | exact ⟨_, _, _, 0, rfl, ⟨by omega, by simp⟩, by simp [in64], (xaa.refl _ _).alloc _⟩ | exact ⟨_, _, _, k + 1, rfl, ⟨by omega, by simp⟩, ⟨H1.out, H1.out⟩, (xaa.refl _ _).alloc _⟩ | exact ⟨_, _, _, k + 2, rfl, ⟨by omega, by simp⟩, ⟨H1.out, by simp [in64]⟩, (xaa.refl _ _).alloc _⟩
  done)
 refine (xe _ _ _ hS2.out (by omega)).mono ?_
 rintro e w3 ⟨n2, m, rfl, hm, hm64, rfl⟩
 have H2 := xmA hm64
 clear hm64
 rw [hdl] at hm
 by_cases h2 : l.length ≤ k + 1 + m
 · have gm : decide ((l.length : Int) ≤ (k : Int) + 1 + (m : Int)) = true := by simp; omega
   go_wp2_with fail
   all_goals refine bodyPost_ret (by simp [results, Tryz.results95, go_sem]; try rfl) rfl ?_
   all_goals first | exact ⟨_, _, _, 0, rfl, ⟨by omega, by simp⟩, by simp [in64], (xaa.refl _ _).alloc _⟩
 obtain ⟨f, hfx⟩ : ∃ f, l[k + 1 + m]? = some f := ⟨_, List.getElem?_eq_getElem (by omega)⟩
 have gm : decide ((l.length : Int) ≤ (k : Int) + 1 + (m : Int)) = false := by simp; omega
 have gm2 : (k : Int) + 1 + (m : Int) < (l.length : Int) := by omega
 have x2 := hO.cell (hcc (k + 1 + m) f hfx) id
 rcases g4 : ((m : Int) == 0) with _ | _ <;> rcases g5 : decide (n2 < n) with _ | _ <;> rcases g6 : (f == 125) with _ | _ <;> go_wp2_with fail
 all_goals refine bodyPost_ret (by simp [results, Tryz.results95, go_sem]; try rfl) rfl ?_
 all_goals first | exact ⟨_, _, _, 0, rfl, ⟨by omega, by simp⟩, by simp [in64], (xaa.refl _ _).alloc _⟩ | exact ⟨_, _, _, k + m + 2, rfl, ⟨by omega, by simp⟩, ⟨H1.out, H2.out⟩, (xaa.refl _ _).alloc _⟩
noncomputable def xaO (alts : PS → T × PS) (rs : List Int) (s : PS) : T × PS :=
 if pk rs s = 40 then
  ((alts ⟨s.pos + 1, s.deep + 1, (nx rs s).bad || decide (10 < s.deep + 1)⟩).1,
    ⟨(wt rs 41 (alts ⟨s.pos + 1, s.deep + 1, (nx rs s).bad || decide (10 < s.deep + 1)⟩).2).pos, (wt rs 41 (alts ⟨s.pos + 1, s.deep + 1, (nx rs s).bad || decide (10 < s.deep + 1)⟩).2).deep - 1, (wt rs 41 (alts ⟨s.pos + 1, s.deep + 1, (nx rs s).bad || decide (10 < s.deep + 1)⟩).2).bad⟩)
 else if pk rs s = 94 then (⟨2, [], 0, 0, .nil⟩, nx rs s)
 else if pk rs s = 36 then (⟨3, [], 0, 0, .nil⟩, nx rs s)
 else if pk rs s = 46 then (xbn [(0, 9), (11, 1114111)], nx rs s)
 else if pk rs s = 91 then (xbn (clsL rs (nx rs s)), (clsR rs (nx rs s)).2)
 else if pk rs s = 92 then (xbn (escL rs (nx rs s)), escS rs (nx rs s))
 else (xbn [(pk rs s, pk rs s)], ⟨s.pos + 1, s.deep, (nx rs s).bad || amg sgL (pk rs s)⟩)
noncomputable def xau (alts : PS → T × PS) (rs : List Int) (s : PS) : T × PS :=
 if (cntV rs (xaO alts rs s).2).2.2 then
  (⟨6, [], (cntV rs (xaO alts rs s).2).1, (cntV rs (xaO alts rs s).2).2.1, F.ofL [(xaO alts rs s).1]⟩,
    ⟨(cntS rs (xaO alts rs s).2).pos, (cntS rs (xaO alts rs s).2).deep, (cntS rs (xaO alts rs s).2).bad || (decide (pk rs s = 94) || decide (pk rs s = 36))⟩)
 else ((xaO alts rs s).1, cntS rs (xaO alts rs s).2)
def isPc (r : Int) : Bool := decide (0 ≤ r) && (!decide (r = 124) && !decide (r = 41))
noncomputable def xc (alts : PS → T × PS) (rs : List Int) : Nat → PS → List T → List T × PS
 | 0, s, l => (l, s)
 | n + 1, s, l => if isPc (pk rs s) then xc alts rs n (xau alts rs s).2 (l ++ [(xau alts rs s).1]) else (l, s)
noncomputable def pcsR (alts : PS → T × PS) (rs : List Int) (s : PS) : List T × PS := xc alts rs (rs.length + 9) s []
noncomputable def xaw (alts : PS → T × PS) (rs : List Int) (s : PS) : T × PS := (xcc 4 (pcsR alts rs s).1, (pcsR alts rs s).2)
noncomputable def xce (alts : PS → T × PS) (rs : List Int) : Nat → PS → List T → List T × PS
 | 0, s, l => (l, s)
 | n + 1, s, l => if pk rs s = 124 then xce alts rs n (xaw alts rs (tk rs 124 s)).2 (l ++ [(xaw alts rs (tk rs 124 s)).1]) else (l, s)
noncomputable def altR (alts : PS → T × PS) (rs : List Int) (s : PS) : List T × PS := xce alts rs (rs.length + 9) (xaw alts rs s).2 [(xaw alts rs s).1]
noncomputable def xeL (alts : PS → T × PS) (rs : List Int) (s : PS) : T × PS := (xcc 5 (altR alts rs s).1, (altR alts rs s).2)
noncomputable def alts (rs : List Int) : Nat → PS → T × PS
 | 0 => xeL (fun s => (xbh, s)) rs
 | n + 1 => xeL (alts rs n) rs
structure Inv (rs : List Int) (s : PS) : Prop where
 a : s.pos ≤ rs.length + 20
 b : s.bad = false → s.pos ≤ rs.length
structure Go1 (rs : List Int) (s s' : PS) : Prop where
 pos : s.pos ≤ s'.pos
 deep : s'.deep = s.deep
 bad : s.bad = true → s'.bad = true
 inv : Inv rs s → Inv rs s'
theorem Go1.refl (rs : List Int) (s : PS) : Go1 rs s s := ⟨Nat.le_refl _, rfl, id, id⟩
theorem Go1.trans {rs : List Int} {a b c : PS} (h : Go1 rs a b) (k : Go1 rs b c) : Go1 rs a c := ⟨Nat.le_trans h.pos k.pos, k.deep.trans h.deep, fun x => k.bad (h.bad x), fun x => k.inv (h.inv x)⟩
theorem xgZ (rs : List Int) (r : Int) (s : PS) (hr : 0 ≤ r) : Go1 rs s (tk rs r s) := by
 unfold tk
 split
 · rename_i h
   have := xaL (rs := rs) (s := s) (by omega)
   exact ⟨by simp, rfl, fun h => h, fun hi => ⟨by simp; omega, fun _ => by simp; omega⟩⟩
 exact Go1.refl _ _
theorem xfR (rs : List Int) (r : Int) (s : PS) (hr : 0 ≤ r) : Go1 rs s (wt rs r s) := by
 unfold wt
 split
 · rename_i h
   have := xaL (rs := rs) (s := s) (by omega)
   exact ⟨by simp, rfl, fun h => h, fun hi => ⟨by simp; omega, fun _ => by simp; omega⟩⟩
 exact ⟨Nat.le_refl _, rfl, fun _ => rfl, fun hi => ⟨hi.a, fun h => by cases h⟩⟩
theorem xj9 (rs : List Int) (s : PS) : Go1 rs s (numS rs s) := by
 unfold numS
 split
 · rename_i h
   have h0 : 0 ≤ pk rs s := by simp [dig] at h; omega
   have := xaL h0
   split
   · rename_i h2
     have h3 : 0 ≤ pk rs ⟨s.pos + 1, s.deep, s.bad⟩ := by simp [dig] at h2; omega
     have h4 := (xaL h3).1
     simp only at h4
     exact ⟨by simp, rfl, fun h => by simp [h], fun hi => ⟨by simp; omega, fun _ => by simp; omega⟩⟩
   exact ⟨by simp, rfl, fun h => h, fun hi => ⟨by simp; omega, fun _ => by simp; omega⟩⟩
 exact ⟨Nat.le_refl _, rfl, fun _ => rfl, fun hi => ⟨hi.a, fun h => by cases h⟩⟩
theorem or_go (rs : List Int) (s : PS) (x : Bool) : Go1 rs s ⟨s.pos, s.deep, s.bad || x⟩ :=
 ⟨Nat.le_refl _, rfl, fun h => by simp [h], fun hi => ⟨hi.a, fun h => by simp at h; exact hi.b h.1⟩⟩
theorem xj6 {rs : List Int} {s : PS} (h0 : 0 ≤ pk rs s) : Go1 rs s ⟨s.pos + 1, s.deep, s.bad⟩ := by
 have := xaL h0
 exact ⟨by simp, rfl, fun h => h, fun hi => ⟨by simp; omega, fun _ => by simp; omega⟩⟩
theorem xmx (rs : List Int) (s : PS) : Go1 rs s (brS rs s) := by
 unfold brS
 have h1 := xj9 rs s
 split
 · rename_i h
   have h2 : Go1 rs (numS rs s) (br3 rs s) := xj6 (by omega)
   split
   · exact (h1.trans h2).trans (xfR _ _ _ (by omega))
   have h3 := xj9 rs (br3 rs s)
   exact (((h1.trans h2).trans h3).trans (or_go _ _ _)).trans (xfR _ _ _ (by omega))
 exact h1.trans (xfR _ _ _ (by omega))
theorem xfM (rs : List Int) (s : PS) : Go1 rs s (cntS rs s) := by
 unfold cntS
 split
 · rename_i h; exact xj6 (by omega)
 split
 · rename_i h; exact (xj6 (by omega)).trans (xmx _ _)
 exact Go1.refl _ _
theorem xj8 {rs : List Int} {s : PS} (h : 0 ≤ pk rs s) : nx rs s = ⟨s.pos + 1, s.deep, s.bad⟩ := by
 unfold nx
 rw [show decide (pk rs s < 0) = false by simp; omega]
 simp
theorem xmc (rs : List Int) : ∀ n f s l, (f = true → s.bad = false) → Inv rs s → s.pos ≤ (xdH rs n f s l).2.pos ∧ (xdH rs n f s l).2.deep = s.deep ∧ Inv rs (xdH rs n f s l).2 := by
 intro n
 induction n with
 | zero => intro f s l _ hi; exact ⟨Nat.le_refl _, rfl, hi⟩
 | succ n ih =>
  intro f s l hf hi
  unfold xdH
  split
  · have := xgZ rs 93 s (by omega)
    exact ⟨this.pos, this.deep, this.inv hi⟩
  rename_i hc
  have hb : s.bad = false := by
   cases f with
   | true => exact hf rfl
   | false =>
    cases hs : s.bad with
    | false => rfl
    | true => exact absurd ⟨rfl, Or.inl hs⟩ hc
  have h1 := xaZ rs s
  have h2 := hi.b hb
  have h3 := ih false (parS rs s) (l ++ parL rs s) (fun h => by cases h) ⟨by omega, fun hb => (xh3 hb).1⟩
  exact ⟨by omega, h3.2.1.trans h1.2.2, h3.2.2⟩
theorem clsR_go {rs : List Int} {s : PS} (hb : s.bad = false) (hi : Inv rs s) : s.pos ≤ (clsR rs s).2.pos ∧ (clsR rs s).2.deep = s.deep ∧ Inv rs (clsR rs s).2 := by
 unfold clsR
 have h1 := xgZ rs 94 s (by omega)
 have h2 := xmc rs (rs.length + 9) true (tk rs 94 s) [] (fun _ => by rw [(xeM rs 94 s (by omega)).2.2.1]; exact hb) (h1.inv hi)
 exact ⟨Nat.le_trans h1.pos h2.1, h2.2.1.trans h1.deep, h2.2.2⟩
theorem xio {alts : PS → T × PS} {rs : List Int} (ha : ∀ s, Go1 rs s (alts s).2) {s : PS} (h : 0 ≤ pk rs s) : s.pos + 1 ≤ (xaO alts rs s).2.pos ∧ (xaO alts rs s).2.deep = s.deep ∧ Inv rs (xaO alts rs s).2 := by
 have hr := xaL h
 have hn := xj8 h
 have hi : Inv rs (nx rs s) := by rw [hn]; exact ⟨by simp; omega, fun _ => by simp; omega⟩
 have hnb : (nx rs s).bad = false := by rw [hn]; exact hr.2
 have hnp : (nx rs s).pos = s.pos + 1 := by rw [hn]
 have hnd : (nx rs s).deep = s.deep := by rw [hn]
 unfold xaO
 split
 · have h1 := ha ⟨s.pos + 1, s.deep + 1, (nx rs s).bad || decide (10 < s.deep + 1)⟩
   have h2 := xfR rs 41 (alts ⟨s.pos + 1, s.deep + 1, (nx rs s).bad || decide (10 < s.deep + 1)⟩).2 (by omega)
   have h3 := h1.trans h2
   have h4 : Inv rs ⟨s.pos + 1, s.deep + 1, (nx rs s).bad || decide (10 < s.deep + 1)⟩ := ⟨by simp; omega, fun _ => by simp; omega⟩
   have h5 := h3.inv h4
   exact ⟨h3.pos, by simp only; rw [h3.deep]; simp, h5.a, h5.b⟩
 split
 · exact ⟨by rw [hnp]; exact Nat.le_refl _, hnd, hi⟩
 split
 · exact ⟨by rw [hnp]; exact Nat.le_refl _, hnd, hi⟩
 split
 · exact ⟨by rw [hnp]; exact Nat.le_refl _, hnd, hi⟩
 split
 · have := clsR_go hnb hi
   exact ⟨by rw [hnp] at this; exact this.1, this.2.1.trans hnd, this.2.2⟩
 split
 · have := xdY rs (nx rs s)
   refine ⟨by simp only; rw [this.1, hnp]; omega, this.2.trans hnd, by simp only; rw [this.1, hnp]; omega, fun hb => ?_⟩
   have hb := xh7 (xih hb)
   simp only; rw [this.1]; exact hb.1
 exact ⟨by simp, rfl, by simp; omega, fun _ => by simp; omega⟩
theorem xez {alts : PS → T × PS} {rs : List Int} (ha : ∀ s, Go1 rs s (alts s).2) {s : PS} (h : 0 ≤ pk rs s) : s.pos + 1 ≤ (xau alts rs s).2.pos ∧ (xau alts rs s).2.deep = s.deep ∧ Inv rs (xau alts rs s).2 := by
 have h1 := xio ha h
 have h2 := xfM rs (xaO alts rs s).2
 unfold xau
 split
 · have h3 := h2.trans (or_go rs _ (decide (pk rs s = 94) || decide (pk rs s = 36)))
   exact ⟨Nat.le_trans h1.1 h3.pos, h3.deep.trans h1.2.1, h3.inv h1.2.2⟩
 exact ⟨Nat.le_trans h1.1 h2.pos, h2.deep.trans h1.2.1, h2.inv h1.2.2⟩
theorem xey {alts : PS → T × PS} {rs : List Int} (ha : ∀ s, Go1 rs s (alts s).2) {s : PS} (h : 0 ≤ pk rs s) : Go1 rs s (xau alts rs s).2 := by
 have h1 := xez ha h
 exact ⟨by omega, h1.2.1, fun hb => (by rw [(xaL h).2] at hb; cases hb), fun _ => h1.2.2⟩
theorem xid {r : Int} (h : isPc r = true) : 0 ≤ r := by simp [isPc] at h; exact h.1
theorem xh0 {alts : PS → T × PS} {rs : List Int} (ha : ∀ s, Go1 rs s (alts s).2) : ∀ n s l, Go1 rs s (xc alts rs n s l).2 := by
 intro n
 induction n with
 | zero => intro s l; exact Go1.refl _ _
 | succ n ih =>
  intro s l
  unfold xc
  split
  · rename_i h
    exact (xey ha (xid h)).trans (ih _ _)
  exact Go1.refl _ _
theorem xcz {alts : PS → T × PS} {rs : List Int} (ha : ∀ s, Go1 rs s (alts s).2) (s : PS) : Go1 rs s (xaw alts rs s).2 := xh0 ha _ _ _
theorem xfP {alts : PS → T × PS} {rs : List Int} (ha : ∀ s, Go1 rs s (alts s).2) : ∀ n s l, Go1 rs s (xce alts rs n s l).2 := by
 intro n
 induction n with
 | zero => intro s l; exact Go1.refl _ _
 | succ n ih =>
  intro s l
  unfold xce
  split
  · exact ((xgZ rs 124 s (by omega)).trans (xcz ha _)).trans (ih _ _)
  exact Go1.refl _ _
theorem xd4 {alts : PS → T × PS} {rs : List Int} (ha : ∀ s, Go1 rs s (alts s).2) (s : PS) : Go1 rs s (xeL alts rs s).2 := (xcz ha s).trans (xfP ha _ _ _)
theorem xkW (rs : List Int) : ∀ n s, Go1 rs s (alts rs n s).2 := by
 intro n
 induction n with
 | zero => exact fun s => xd4 (fun s => Go1.refl _ _) s
 | succ n ih => exact fun s => xd4 ih s
def Bt (w w' : World) : Nat → Prop := fun b => w.heap.size ≤ b ∧ b < w'.heap.size
def xcV (w : World) (pb : Nat) (rv : Value) (rs : List Int) (r : T × PS) (e : Ending) (w' : World) : Prop :=
 ∃ v : NV, e = .returned v.val ∧ TAt w' (Bt w w') v r.1 ∧ PaAt w' pb rv rs r.2 ∧ xaa (xao pb) w w'
def AltC (f : PS → T × PS) (rs : List Int) (C : PS → Prop) : Prop :=
 ∀ (w : World) (pb : Nat) (rv : Value) (s : PS), PaAt w pb rv rs s → Inv rs s → C s → Calls Tryz.prog 62 #[.pointer (some ⟨pb, 0, none⟩)] w (xcV w pb rv rs (f s))
structure xk5 (f : PS → T × PS) (rs : List Int) (C D : PS → Prop) : Prop where
 go : ∀ s, Go1 rs s (f s).2
 alt : AltC f rs C
 cd : ∀ s, D s → s.bad = false → C ⟨s.pos + 1, s.deep + 1, decide (10 < s.deep + 1)⟩
 dd : ∀ s s', D s → Go1 rs s s' → D s'
 dp : ∀ s, D s → 0 ≤ s.deep ∧ s.deep ≤ 100
 len : rs.length ≤ 9000
theorem NV.form {w : World} {P : Nat → Prop} {v : NV} {t : T} (h : TAt w P v t) : ∃ o a1 n1 c1 m x a2 n2 c2, v = ⟨o, .slice a1 n1 c1, m, x, .slice a2 n2 c2⟩ := by
 obtain ⟨a1, n1, c1, a2, c2, e1, e2, _⟩ := h.krow
 obtain ⟨o, s, m, x, k⟩ := v
 obtain rfl := e1
 obtain rfl := e2
 exact ⟨_, _, _, _, _, _, _, _, _, rfl⟩
def st5 (W : World) (B : Nat) (a b c d e : Value) : World := ((((W.setCell ⟨B, 0, none⟩ a).setCell ⟨B, 1, none⟩ b).setCell ⟨B, 2, none⟩ c).setCell ⟨B, 3, none⟩ d).setCell ⟨B, 4, none⟩ e
theorem xav (W : World) (B : Nat) {o0 o1 o2 o3 o4 : Value} (h0 : W.cell? ⟨B, 0, none⟩ = some o0) (h1 : W.cell? ⟨B, 1, none⟩ = some o1) (h2 : W.cell? ⟨B, 2, none⟩ = some o2) (h3 : W.cell? ⟨B, 3, none⟩ = some o3) (h4 : W.cell? ⟨B, 4, none⟩ = some o4) (a b c d e : Value) :
 (st5 W B a b c d e).cell? ⟨B, 0, none⟩ = some a ∧ (st5 W B a b c d e).cell? ⟨B, 1, none⟩ = some b ∧ (st5 W B a b c d e).cell? ⟨B, 2, none⟩ = some c ∧ (st5 W B a b c d e).cell? ⟨B, 3, none⟩ = some d ∧ (st5 W B a b c d e).cell? ⟨B, 4, none⟩ = some e ∧
  xaa (fun x => x = B) W (st5 W B a b c d e) := by
 unfold st5
 refine ⟨?_, ?_, ?_, ?_, ?_, by (repeat' (with_reducible first | exact xaa.refl _ _ | assumption | refine xaa.drawN ?_ _ | refine xaa.drew ?_ | refine xaa.setCell ?_ ?_ _ | refine xaa.alloc ?_ _)) <;> (first | exact Or.inr (Nat.le_refl _) | exact Or.inl rfl | exact Or.inl (Or.inl rfl) | exact Or.inl (Or.inr rfl) | (right; simp; done) | (right; simp; omega))⟩
 · rw [xaf (by simp), xaf (by simp), xaf (by simp), xaf (by simp)]; exact xas h0
 · rw [xaf (by simp), xaf (by simp), xaf (by simp)]; exact xas (by rw [xaf (by simp)]; exact h1)
 · rw [xaf (by simp), xaf (by simp)]; exact xas (by rw [xaf (by simp), xaf (by simp)]; exact h2)
 · rw [xaf (by simp)]; exact xas (by rw [xaf (by simp), xaf (by simp), xaf (by simp)]; exact h3)
 exact xas (by rw [xaf (by simp), xaf (by simp), xaf (by simp), xaf (by simp)]; exact h4)
set_option maxHeartbeats 8000000 in
theorem xjs {f : PS → T × PS} {rs : List Int} {C D : PS → Prop} (H : xk5 f rs C D) (w : World) (pb : Nat) (rv : Value) (s : PS) (h : PaAt w pb rv rs s) (hi : Inv rs s) (hd : D s) (hr : pk rs s = 40) :
 Calls Tryz.prog 166 #[.pointer (some ⟨pb, 0, none⟩)] w (xcV w pb rv rs (xaO f rs s)) := by
 have hpb := h.lt
 have hbad : s.bad = false := (xaL (rs := rs) (s := s) (by omega)).2
 have hpos := (xaL (rs := rs) (s := s) (by omega)).1
 have hnx : nx rs s = ⟨s.pos + 1, s.deep, false⟩ := by rw [xj8 (by omega), hbad]
 have hdp := H.dp s hd
 have hlen := H.len
 have hcd := H.cd s hd hbad
 obtain ⟨s2, hs2⟩ : ∃ s2, (⟨s.pos + 1, s.deep + 1, decide (10 < s.deep + 1)⟩ : PS) = s2 := ⟨_, rfl⟩
 have hinv2 : Inv rs s2 := by rw [← hs2]; exact ⟨by simp; omega, fun _ => by simp; omega⟩
 have hg := H.go s2
 have hE : Hid (xaO f rs s = ((f s2).1, ⟨(wt rs 41 (f s2).2).pos, (wt rs 41 (f s2).2).deep - 1, (wt rs 41 (f s2).2).bad⟩)) := by
  have : (⟨s.pos + 1, s.deep + 1, (nx rs s).bad || decide (10 < s.deep + 1)⟩ : PS) = s2 := by rw [hnx, ← hs2]; simp
  unfold xaO
  rw [if_pos hr, this]; exact xmA rfl
 rw [hE.out]
 have hwt := xfR rs 41 (f s2).2 (by omega)
 have hdeep : (wt rs 41 (f s2).2).deep = s.deep + 1 := by rw [hwt.deep, hg.deep, ← hs2]
 have hpos3 := (hwt.inv (hg.inv hinv2)).a
 have hpos2 := (hg.inv hinv2).a
 have HA := xmA (fun (W : World) (hW : PaAt W pb rv rs s2) => H.alt W pb rv s2 hW hinv2 (by rw [← hs2]; exact hcd))
 obtain ⟨F1, hF1⟩ : ∃ x, (f s2).1 = x := ⟨_, rfl⟩
 obtain ⟨S1, hS1⟩ : ∃ x, (f s2).2 = x := ⟨_, rfl⟩
 rw [hF1, hS1]
 rw [hS1] at hdeep hpos3 hpos2
 have HF1 := xmA hF1
 have HS1 := xmA hS1
 have HS2 := xmA hs2
 have HN := xmA (fun (W : World) (hW : PaAt W pb rv rs s) => xbG W pb rv rs s hW (by have := H.len; omega))
 have HH := xmA h
 have w1 : IntKind.i64.wrap (s.deep + 1) = s.deep + 1 := IntWalk.i64_in _ (by omega)
 have w2 : IntKind.i64.wrap s.deep = s.deep := IntWalk.i64_in _ (by omega)
 have Hnx := xmA hnx
 have Hdeep := xmA hdeep
 clear hE hcd hinv2 hg hwt hF1 hS1 hs2 h hd hi hnx hdeep
 obtain ⟨p, d, b⟩ := s
 simp only at hbad hpos hdp w1 w2
 subst hbad
 go_enter Tryz.func166, Tryz.ntmps166
 go_wp2_with fail
 refine (HN.out _ (HH.out.keepsF (KI.out))).mono ?_
 rintro e w3 ⟨rfl, h3, k3⟩
 rw [hr]
 rw [Hnx.out] at h3
 have c2 := h3.c2
 have f2 := h3.fr 2
 have h4 := h3.setDeep (d + 1)
 have c3 := h4.c3
 have f3 := h4.fr 3
 have c2' := h4.c2
 have h5 := h4.setBad (decide (10 < d + 1))
 simp only at c2 c3 c2' h5
 rw [HS2.out] at h5
 have H5 := xmA h5
 have K5 := xmA ((k3.set (p := ⟨pb, 2, none⟩) rfl (.int .i64 (d + 1))).set (p := ⟨pb, 3, none⟩) rfl (.bool (decide (10 < d + 1))))
 clear h3 h4 h5 k3
 go_wp2_with fail
 refine (HA.out _ H5.out).mono ?_
 rintro e w6 ⟨v, rfl, hv, h6, k6⟩
 obtain ⟨o, a1, n1, c1, m, x, a2, n2, cc2, rfl⟩ := NV.form hv
 rw [HF1.out] at hv
 rw [HS1.out] at h6
 unfold NV.val
 have HV := xmA hv
 have H6 := xmA h6
 have K6 := xmA (K5.out.trans k6)
 have hsz5 := K5.out.size
 have hsz6 := k6.size
 simp at hsz5 hsz6
 clear hv h6 k6
 have HW := xmA (fun (W : World) (hW : PaAt W pb rv rs S1) => xcv W pb rv rs S1 41 hW (by omega))
 go_wp2_with fail
 refine (HW.out _ (H6.out.keepsF (KI.out))).mono ?_
 rintro e w7 ⟨rfl, h7, k7⟩
 have K7a : xaa (xao pb) (w.alloc (.cells #[.int .i64 0, .slice none 0 0, .int .i64 0, .int .i64 0, .slice none 0 0] 52)) w7 := (K6.out.alloc _).trans k7
 have hne1 : ¬ (w.heap.size = pb) := by omega
 have hne2 : ¬ (pb = w.heap.size) := by omega
 have hne3 : ¬ (w6.heap.size = pb) := by omega
 have hne4 : ¬ (pb = w6.heap.size) := by omega
 have y0 : w7.cell? ⟨w.heap.size, 0, none⟩ = some (.int .i64 0) := K7a.cell (by simp [go_sem]) hne1
 have y1 : w7.cell? ⟨w.heap.size, 1, none⟩ = some (.slice none 0 0) := K7a.cell (by simp [go_sem]) hne1
 have y2 : w7.cell? ⟨w.heap.size, 2, none⟩ = some (.int .i64 0) := K7a.cell (by simp [go_sem]) hne1
 have y3 : w7.cell? ⟨w.heap.size, 3, none⟩ = some (.int .i64 0) := K7a.cell (by simp [go_sem]) hne1
 have y4 : w7.cell? ⟨w.heap.size, 4, none⟩ = some (.slice none 0 0) := K7a.cell (by simp [go_sem]) hne1
 have q0 : w7.frozen? ⟨w.heap.size, 0, none⟩ = false := K7a.frozen (by simp [go_sem]) (by simp) hne1
 have q1 : w7.frozen? ⟨w.heap.size, 1, none⟩ = false := K7a.frozen (by simp [go_sem]) (by simp) hne1
 have q2 : w7.frozen? ⟨w.heap.size, 2, none⟩ = false := K7a.frozen (by simp [go_sem]) (by simp) hne1
 have q3 : w7.frozen? ⟨w.heap.size, 3, none⟩ = false := K7a.frozen (by simp [go_sem]) (by simp) hne1
 have q4 : w7.frozen? ⟨w.heap.size, 4, none⟩ = false := K7a.frozen (by simp [go_sem]) (by simp) hne1
 have z0 : w7.cell? ⟨w6.heap.size, 0, none⟩ = some (.int .i64 o) := k7.cell (by simp [go_sem]) hne3
 have z1 : w7.cell? ⟨w6.heap.size, 1, none⟩ = some (.slice a1 n1 c1) := k7.cell (by simp [go_sem]) hne3
 have z2 : w7.cell? ⟨w6.heap.size, 2, none⟩ = some (.int .i64 m) := k7.cell (by simp [go_sem]) hne3
 have z3 : w7.cell? ⟨w6.heap.size, 3, none⟩ = some (.int .i64 x) := k7.cell (by simp [go_sem]) hne3
 have z4 : w7.cell? ⟨w6.heap.size, 4, none⟩ = some (.slice a2 n2 cc2) := k7.cell (by simp [go_sem]) hne3
 have e2 := h7.c2
 rw [Hdeep.out] at e2
 have g2 := h7.fr 2
 have h8 := h7.setDeep d
 have HD8 := xmA h8
 have K7 : Hid (xaa (xao pb) w w7) := xmA (xaa.trans (KI.out) K7a)
 have k7b : xaa (fun b => b = pb ∨ b = w.heap.size) w6 w7 := xaa.trans ((xaa.refl _ _).alloc _) (k7.mono (fun b _ e => Or.inl e))
 have K7b := xmA k7b
 clear h7 h8 k7 K7a k7b
 go_wp2_with fail
 obtain ⟨wE, hWE⟩ : ∃ W, st5 (w7.setCell ⟨pb, 2, none⟩ (.int .i64 d)) w.heap.size (.int .i64 o) (.slice a1 n1 c1) (.int .i64 m) (.int .i64 x) (.slice a2 n2 cc2) = W := ⟨_, rfl⟩
 obtain ⟨r0, r1, r2, r3, r4, kE⟩ := xav (w7.setCell ⟨pb, 2, none⟩ (.int .i64 d)) w.heap.size (by rw [xaf (by simp [hne2])]; exact y0) (by rw [xaf (by simp [hne2])]; exact y1) (by rw [xaf (by simp [hne2])]; exact y2) (by rw [xaf (by simp [hne2])]; exact y3) (by rw [xaf (by simp [hne2])]; exact y4) (.int .i64 o) (.slice a1 n1 c1) (.int .i64 m) (.int .i64 x) (.slice a2 n2 cc2)
 rw [hWE] at r0 r1 r2 r3 r4 kE
 unfold st5 at hWE
 rw [hWE]
 have HKE := xmA kE
 clear kE hWE y0 y1 y2 y3 y4 z0 z1 z2 z3 z4
 refine bodyPost_ret (by simp [results, Tryz.results166, go_sem, r0, r1, r2, r3, r4]; try rfl) rfl ?_
 have k8 : xaa (fun b => b = pb ∨ b = w.heap.size) w6 wE := (K7b.out.set (p := ⟨pb, 2, none⟩) (Or.inl rfl) _).trans (HKE.out.mono (fun b _ e => Or.inr e))
 have hszE := k8.size
 refine ⟨⟨o, .slice a1 n1 c1, m, x, .slice a2 n2 cc2⟩, rfl, ?_, ?_, ?_⟩
 · refine HV.out.keepsTo k8 ?_ ?_
   · rintro b ⟨hb1, hb2⟩ hb3
     simp at hb1
     rcases hb3 with hb3 | hb3 <;> omega
   rintro b ⟨hb1, hb2⟩
   simp at hb1
   exact ⟨by omega, by omega⟩
 · have := HD8.out.keeps HKE.out hne2 (fun b hb e => by have := HH.out.rb b hb; omega)
   rw [show (wt rs 41 S1).deep - 1 = d by rw [Hdeep.out]; omega]
   exact this
 exact (K7.out.set (p := ⟨pb, 2, none⟩) rfl _).trans2 HKE.out (fun b hb e => by omega)
end Go.Proofs.YtjahiihmoglpfaaGreatDoor
