/-
  Several texts in one: The walk of reedbedref08.Ends once more: all that lies beside a range's ends is among them. The document's set of what a test says: plain law. No program in sight. The document's number. The document's braces. Numbers added to rows; parts of slices.
-/
import Derived.Test.YtbifklibdkjbeaaGreatDoorMg5
import Derived.Test.YtbifklibdkjbeaaGreatDoorPaClsG
import Derived.Test.YtbifklibdkjbeaaGreatDoorPaSimMG
import Derived.Handy
import Derived.Test.YtbifklibdkjbeaaGreatDoorMg13
import Derived.Test.YtbifklibdkjbeaaGreatDoorMg4
import Derived.Laws.AppendOwnNone
namespace Go.Proofs.YtbifklibdkjbeaaGreatDoor
open Go.RowKit
set_option linter.unusedVariables false
set_option linter.unusedSimpArgs false
set_option maxRecDepth 100000
set_option maxHeartbeats 8000000
def near (y a : Int) : Prop := a - 1 ≤ y ∧ y ≤ a + 1
def Need (l : List (Int × Int)) (i : Nat) (y : Int) : Prop := y = 0 ∨ y = 1114111 ∨ ∃ j p, j < i ∧ l[j]? = some p ∧ (near y p.1 ∨ near y p.2)
def xii (l : List (Int × Int)) (i : Nat) (p : Int × Int) (k : Nat) (y : Int) : Prop := Need l i y ∨ (1 ≤ k ∧ near y p.1) ∨ (2 ≤ k ∧ near y p.2)
def xfc (l : List (Int × Int)) (i : Nat) (p : Int × Int) (k d : Nat) (y : Int) : Prop := xii l i p k y ∨ ∃ x, (k = 0 ∧ x = p.1 ∨ k = 1 ∧ x = p.2) ∧ x - 1 ≤ y ∧ y < x - 1 + d
def OutE (w0 wr : World) (u : Value) (es : List Int) (xhm : Nat) (Q : Int → Prop) : Prop :=
 wr.ownsRow w0.heap.size 3 1 u es.length (es.map (Value.int .i64)) ∧ es.length ≤ xhm ∧ 2 ≤ es.length ∧ (∀ x ∈ es, 0 ≤ x ∧ x ≤ 1114111) ∧ xa (fun _ => False) w0 wr ∧ ∀ y, 0 ≤ y → y ≤ 1114111 → Q y → y ∈ es
theorem need0 (l : List (Int × Int)) : ∀ y, 0 ≤ y → y ≤ 1114111 → Need l 0 y → y ∈ ([0, 1114111] : List Int) := by
 rintro y _ _ (rfl | rfl | ⟨j, p, hj, _⟩)
 · simp
 · simp
 omega
theorem xlq {l : List (Int × Int)} {i : Nat} {p : Int × Int} (hp : l[i]? = some p) : ∀ y, Need l (i + 1) y → xii l i p 2 y := by
 rintro y (h | h | ⟨j, q, hj, hq, h⟩)
 · exact Or.inl (Or.inl h)
 · exact Or.inl (Or.inr (Or.inl h))
 by_cases hji : j < i
 · exact Or.inl (Or.inr (Or.inr ⟨j, q, hji, hq, h⟩))
 obtain rfl : j = i := by omega
 rw [hp] at hq
 obtain rfl := Option.some.inj hq
 exact Or.inr (h.imp (fun h => ⟨by omega, h⟩) (fun h => ⟨by omega, h⟩))
theorem xjV {l : List (Int × Int)} {i : Nat} {p : Int × Int} : ∀ y, xii l i p 0 y → Need l i y := by
 rintro y (h | ⟨h, _⟩ | ⟨h, _⟩)
 · exact h
 · omega
 omega
theorem xjU {l : List (Int × Int)} {i : Nat} {p : Int × Int} {k : Nat} : ∀ y, xfc l i p k 0 y → xii l i p k y := by
 rintro y (h | ⟨x, _, h1, h2⟩)
 · exact h
 simp at h2; omega
theorem xjW {l : List (Int × Int)} {i : Nat} {p : Int × Int} {k : Nat} (hk : k < 2) : ∀ y, xii l i p (k + 1) y → xfc l i p k 3 y := by
 intro y h
 have hk' : k = 0 ∨ k = 1 := by omega
 rcases hk' with rfl | rfl
 · rcases h with h | ⟨_, h⟩ | ⟨h, _⟩
   · exact Or.inl (Or.inl h)
   · refine Or.inr ⟨p.1, Or.inl ⟨rfl, rfl⟩, ?_⟩
     unfold near at h; simp; omega
   omega
 rcases h with h | ⟨_, h⟩ | ⟨_, h⟩
 · exact Or.inl (Or.inl h)
 · exact Or.inl (Or.inr (Or.inl ⟨by omega, h⟩))
 refine Or.inr ⟨p.2, Or.inr ⟨rfl, rfl⟩, ?_⟩
 unfold near at h; simp; omega
theorem xfy {l : List (Int × Int)} {i : Nat} {p : Int × Int} {k d : Nat} {x : Int} (hx : k = 0 ∧ x = p.1 ∨ k = 1 ∧ x = p.2) : ∀ y, xfc l i p k (d + 1) y → xfc l i p k d y ∨ y = x + ((d : Int) - 1) := by
 rintro y (h | ⟨z, hz, h1, h2⟩)
 · exact Or.inl (Or.inl h)
 obtain rfl : x = z := by
  rcases hx with ⟨a, b⟩ | ⟨a, b⟩ <;> rcases hz with ⟨c, d⟩ | ⟨c, d⟩ <;> first | omega
 by_cases h3 : y = x + ((d : Int) - 1)
 · exact Or.inr h3
 exact Or.inl (Or.inr ⟨x, hz, h1, by simp at h2; omega⟩)
theorem xdl {es : List Int} {l : List (Int × Int)} {i : Nat} {p : Int × Int} {k d : Nat} {x : Int} (hx : k = 0 ∧ x = p.1 ∨ k = 1 ∧ x = p.2) (h : ∀ y, 0 ≤ y → y ≤ 1114111 → xfc l i p k d y → y ∈ es) (ho : x + ((d : Int) - 1) < 0 ∨ 1114111 < x + ((d : Int) - 1)) :
 ∀ y, 0 ≤ y → y ≤ 1114111 → xfc l i p k (d + 1) y → y ∈ es := by
 intro y h1 h2 h3
 rcases xfy hx y h3 with h3 | h3
 · exact h y h1 h2 h3
 omega
theorem xni {es : List Int} {l : List (Int × Int)} {i : Nat} {p : Int × Int} {k d : Nat} {x : Int} (hx : k = 0 ∧ x = p.1 ∨ k = 1 ∧ x = p.2) (h : ∀ y, 0 ≤ y → y ≤ 1114111 → xfc l i p k d y → y ∈ es) :
 ∀ y, 0 ≤ y → y ≤ 1114111 → xfc l i p k (d + 1) y → y ∈ es ++ [x + ((d : Int) - 1)] := by
 intro y h1 h2 h3
 rcases xfy hx y h3 with h3 | h3
 · exact List.mem_append_left _ (h y h1 h2 h3)
 exact List.mem_append_right _ (by simp [h3])
def MidE (l : List (Int × Int)) (w : World) (i : Nat) (p : Int × Int) (lb : Nat) (u kv : Value) (wk : World) : Prop :=
 ∃ (k : Nat) (es : List Int), kv = .int .i64 k ∧ k ≤ 2 ∧ OutE w wk u es (2 + 6 * i + 3 * k) (xii l i p k) ∧ wk.heap[lb]? = some (.cells #[.int .i64 p.1, .int .i64 p.2] 3 (0, 0)) ∧ ∀ g, u.ownBlock = some g → g ≠ lb
def InE (l : List (Int × Int)) (w : World) (i k : Nat) (p : Int × Int) (lb : Nat) (u dv : Value) (wk : World) : Prop :=
 ∃ (d : Nat) (es : List Int), dv = .int .i64 ((d : Int) - 1) ∧ d ≤ 3 ∧ OutE w wk u es (2 + 6 * i + 3 * k + d) (xfc l i p k d) ∧ wk.heap[lb]? = some (.cells #[.int .i64 p.1, .int .i64 p.2] 3 (0, 0)) ∧ ∀ g, u.ownBlock = some g → g ≠ lb
theorem xjx (l : List (Int × Int)) (v : Value) (w : World) (h : RSl w v l) (hlen : l.length ≤ 1000) :
 Calls Tryz.prog 214 #[v] w fun e w' => ∃ u, ∃ es : List Int, e = .returned u ∧ OutE w w' u es (2 + 6 * l.length) (Need l l.length) := by
 obtain ⟨a, cap, rfl, hl, hc⟩ := h.cells
 have Hc := xoo hc
 clear hc h
 obtain ⟨i0, hi, hz0, hz1, hz2⟩ := info_parts xg
 go_enter Tryz.func214, Tryz.ntmps214
 go_wp2_with fail
 go_loopw [3, 4] (fun u iv wr => ∃ (i : Nat) (es : List Int), iv = .int .i64 i ∧ i ≤ l.length ∧ OutE w wr u es (2 + 6 * i) (Need l i)) (fun _ iv _ => l.length - (intOf iv).toNat)
 case atStart =>
  refine ⟨0, [0, 1114111], rfl, Nat.zero_le _, ⟨rfl, ?_⟩, by simp, by simp, by simp, (xa.refl _ _).alloc _, need0 l⟩
  exact Or.inr ⟨w.heap.size, 2, #[.int .i64 0, .int .i64 1114111], rfl, Nat.le_refl _, by show (w.heap.push _)[_]? = _; simp, by simp, by unfold maxLen; simp, by simp, rfl⟩
 case round =>
  obtain ⟨i, es, rfl, hil, hO⟩ := hrel
  by_cases hlt : i < l.length
  · obtain ⟨b, off, rfl, hcc⟩ := Hc.out (by omega)
    obtain ⟨p, hp⟩ : ∃ p, l[i]? = some p := ⟨_, List.getElem?_eq_getElem hlt⟩
    obtain ⟨c0, c1, ⟨ip1, ip2⟩, ⟨ip3, ip4⟩⟩ := hcc i p hp
    have hnp := xlq hp
    clear hcc hp
    have d0 := hO.2.2.2.2.1.cell c0 id
    have d1 := hO.2.2.2.2.1.cell c1 id
    clear c0 c1
    go_wp2_with fail
    go_region
    all_goals go_wp2_with fail
    have hlb : (wr.drew.alloc (.cells #[.int .i64 p.1, .int .i64 p.2] 3)).heap[wr.heap.size]? = some (.cells #[.int .i64 p.1, .int .i64 p.2] 3 (0, 0)) := by
     show (wr.heap.push _)[_]? = _; simp
    have hbase : w.heap.size ≤ wr.heap.size := hO.2.2.2.2.1.size
    obtain ⟨o1, o2, o3, o4, o5, o6⟩ := hO
    have hO1 : OutE w (wr.drew.alloc (.cells #[.int .i64 p.1, .int .i64 p.2] 3)) u3 es (2 + 6 * i) (xii l i p 0) := ⟨xab o1 _, o2, o3, o4, (o5.drew).alloc _, fun y a b c => o6 y a b (xjV y c)⟩
    have hne : ∀ g, u3.ownBlock = some g → g ≠ wr.heap.size := fun g hg => Nat.ne_of_lt (xaM o1 g hg)
    clear o1 o2 o3 o4 o5 o6 d0 d1
    have ew : (wr.alloc (.cells #[.int .i64 p.1, .int .i64 p.2] 3)).drew = wr.drew.alloc (.cells #[.int .i64 p.1, .int .i64 p.2] 3) := rfl
    rw [← ew] at hO1 hlb
    clear ew
    generalize (wr.alloc (.cells #[.int .i64 p.1, .int .i64 p.2] 3)).drew = w1 at *
    generalize wr.heap.size = lb at *
    go_loopw [3, 6] (fun u kv wk => MidE l w i p lb u kv wk) (fun _ kv _ => 2 - (intOf kv).toNat)
    case atStart => exact ⟨0, es, rfl, by omega, hO1, hlb, hne⟩
    case round =>
     clear hO1 hlb hne
     obtain ⟨k, es, rfl, hk2, hO, hlb, hne⟩ := hrel
     by_cases hk : k < 2
     · have hkd : decide ((k : Int) < 2) = true := by simp; omega
       go_wp2_with fail
       go_loopw [3, 7] (fun u dv wk => InE l w i k p lb u dv wk) (fun _ dv _ => (2 - intOf dv).toNat)
       case atStart => exact ⟨0, es, rfl, by omega, ⟨hO.1, hO.2.1, hO.2.2.1, hO.2.2.2.1, hO.2.2.2.2.1, fun y a b c => hO.2.2.2.2.2 y a b (xjU y c)⟩, hlb, hne⟩
       case round =>
        clear hO hlb hne
        obtain ⟨d, es, rfl, hd3, hO, hlb, hne⟩ := hrel
        have Hne := xoo hne
        clear hne
        by_cases hd : d < 3
        · obtain ⟨x, hx, hx0, hx1, hxk⟩ : ∃ x : Int, wr.cell? ⟨lb, k, none⟩ = some (.int .i64 x) ∧ -9223372036854775808 ≤ x ∧ x ≤ 9223372036854775807 ∧ (k = 0 ∧ x = p.1 ∨ k = 1 ∧ x = p.2) := by
           have : k = 0 ∨ k = 1 := by omega
           rcases this with rfl | rfl
           · exact ⟨p.1, by rw [xa8 hlb]; rfl, ip1, ip2, Or.inl ⟨rfl, rfl⟩⟩
           exact ⟨p.2, by rw [xa8 hlb]; rfl, ip3, ip4, Or.inr ⟨rfl, rfl⟩⟩
          obtain ⟨o1, o2, o3, o4, o5, o6⟩ := hO
          have hsz := o5.size
          have Hxk := xoo hxk
          have H6 := xoo o6
          clear hxk o6
          by_cases x1 : x < -2
          · go_wp2_with fail
            go_roundw
            case rel => exact ⟨d + 1, es, by go_num, by omega, ⟨o1, by omega, o3, o4, o5, xdl Hxk.out H6.out (by omega)⟩, hlb, Hne.out⟩
            case measure => simp [intOf]; omega
          by_cases x2 : 1114113 < x
          · go_wp2_with fail
            go_roundw
            case rel => exact ⟨d + 1, es, by go_num, by omega, ⟨o1, by omega, o3, o4, o5, xdl Hxk.out H6.out (by omega)⟩, hlb, Hne.out⟩
            case measure => simp [intOf]; omega
          by_cases x3 : x + ((d : Int) - 1) < 0
          · go_wp2_with fail
            go_roundw
            case rel => exact ⟨d + 1, es, by go_num, by omega, ⟨o1, by omega, o3, o4, o5, xdl Hxk.out H6.out (by omega)⟩, hlb, Hne.out⟩
            case measure => simp [intOf]; omega
          by_cases x4 : 1114111 < x + ((d : Int) - 1)
          · go_wp2_with fail
            go_roundw
            case rel => exact ⟨d + 1, es, by go_num, by omega, ⟨o1, by omega, o3, o4, o5, xdl Hxk.out H6.out (by omega)⟩, hlb, Hne.out⟩
            case measure => simp [intOf]; omega
          go_wp2_with (at_builtin; refine wpList_append_own _ rfl (.tmp 53) (.tmp 57) 23 rfl w.heap.size 3 i0 _ 1 8 Tryz.underlying23 hi hz0 hz1 hz2 rfl (by decide) _ _ _ rfl (xab o1 _) ⟨wr.heap.size, 0, none⟩ 1 1 [.int .i64 (x + ((d : Int) - 1))] rfl rfl (by exact xan _ [_] _) (by intro u hu; simp at hu; subst hu; rfl) ?c3 ?c4 ?c5 ?_)
          case c3 => unfold maxLen; omega
          case c4 => omega
          case c5 => first | omega | (simp; omega)
          intro v' w2 hown' hgrow _
          have hown2 : w2.ownsRow w.heap.size 3 1 v' (es ++ [x + ((d : Int) - 1)]).length ((es ++ [x + ((d : Int) - 1)]).map (Value.int .i64)) := by simpa using hown'
          have hlb2 : w2.heap[lb]? = some (.cells #[.int .i64 p.1, .int .i64 p.2] 3 (0, 0)) := by
           rw [hgrow.block lb (by simp; exact Nat.lt_succ_of_lt (Array.getElem?_eq_some_iff.1 hlb).1) (fun e => Hne.out lb e.symm rfl), Below.heap_alloc _ _ _ (Array.getElem?_eq_some_iff.1 hlb).1]
           exact hlb
          have Hne2 := xoo (own_ne hown2 (by simp; omega) hlb2 rfl)
          have hk2 : xa (fun _ => False) w w2 := (o5.alloc _).grown hgrow (fun b hb => Or.inr (xaa o1 b hb))
          have hO2 : OutE w w2 v' (es ++ [x + ((d : Int) - 1)]) (2 + 6 * i + 3 * k + (d + 1)) (xfc l i p k (d + 1)) := ⟨hown2, by simp; omega, by simp; omega, fun y hy => by
           rcases List.mem_append.1 hy with hy | hy
           · exact o4 y hy
           simp at hy; omega, hk2, xni Hxk.out H6.out⟩
          clear hown2 hown' hgrow hk2 o1 o2 o3 o4 o5
          go_wp2_with fail
          go_roundw
          case rel => first | exact ⟨d + 1, _, by go_num, by omega, hO2, hlb2, Hne2.out⟩ | ((repeat apply Exists.intro); exact ⟨⟨d + 1, _, by go_num, by omega, hO2, hlb2, Hne2.out⟩, rfl⟩)
          case measure => simp [intOf]; omega
        obtain rfl : d = 3 := by omega
        go_wp2_with fail
        go_roundw
        case rel => exact ⟨k + 1, es, by go_num, by omega, ⟨hO.1, by have := hO.2.1; omega, hO.2.2.1, hO.2.2.2.1, hO.2.2.2.2.1, fun y a b c => hO.2.2.2.2.2 y a b (xjW hk y c)⟩, hlb, Hne.out⟩
        case measure => simp [intOf]; omega
     obtain rfl : k = 2 := by omega
     go_wp2_with fail
     go_roundw
     case rel => exact ⟨i + 1, es, by go_num, by omega, ⟨hO.1, by have := hO.2.1; omega, hO.2.2.1, hO.2.2.2.1, hO.2.2.2.2.1, fun y a b c => hO.2.2.2.2.2 y a b (hnp y c)⟩⟩
     case measure => simp [intOf]; omega
  go_wp2_with fail
  go_ret
  obtain rfl : l.length = i := by omega
  exact ⟨_, es, rfl, hO⟩
def qOf (rs : List (Int × Int)) (nt : Bool) (r : Int) : Bool := has rs r != nt
def Srt : List Int → Prop
 | [] => True
 | a :: l => (∀ b ∈ l, a < b) ∧ Srt l
theorem Srt.append {a b : List Int} : Srt (a ++ b) ↔ Srt a ∧ Srt b ∧ ∀ x ∈ a, ∀ y ∈ b, x < y := by
 induction a with
 | nil => simp [Srt]
 | cons x a ih =>
  simp only [List.cons_append, Srt, ih, List.mem_append, List.mem_cons]
  constructor
  · rintro ⟨h1, h2, h3, h4⟩
    refine ⟨⟨fun b hb => h1 b (Or.inl hb), h2⟩, h3, ?_⟩
    rintro y (rfl | hy) z hz
    · exact h1 z (Or.inr hz)
    exact h4 y hy z hz
  rintro ⟨⟨h1, h2⟩, h3, h4⟩
  refine ⟨?_, h2, h3, fun y hy z hz => h4 y (Or.inr hy) z hz⟩
  rintro y (hy | hy)
  · exact h1 y hy
  exact h4 x (Or.inl rfl) y hy
theorem xlG {rs : List (Int × Int)} {a b : Int} (ha : 0 ≤ a) (hb : b ≤ 1114111) (hab : a + 1 < b)
 (hn : ∀ y, 0 ≤ y → y ≤ 1114111 → Need rs rs.length y → y ≤ a ∨ b ≤ y) : ∀ r, a ≤ r → r ≤ b → has rs r = has rs a := by
 intro r h1 h2
 unfold has
 have i1 : xa1 r = true := by simp [xa1]; omega
 have i2 : xa1 a = true := by simp [xa1]; omega
 rw [i1, i2, Bool.and_true, Bool.and_true]
 unfold mem
 rw [Bool.eq_iff_iff, List.any_eq_true, List.any_eq_true]
 have key : ∀ p ∈ rs, (p.1 ≤ r ∧ r ≤ p.2) ↔ (p.1 ≤ a ∧ a ≤ p.2) := by
  intro p hp
  obtain ⟨j, hj, hjp⟩ := List.getElem_of_mem hp
  have hjp' : rs[j]? = some p := by rw [List.getElem?_eq_getElem hj, hjp]
  have n1 : ∀ y, 0 ≤ y → y ≤ 1114111 → (near y p.1 ∨ near y p.2) → y ≤ a ∨ b ≤ y := fun y h1 h2 h3 => hn y h1 h2 (Or.inr (Or.inr ⟨j, p, hj, hjp', h3⟩))
  have f1 : ¬ (a < p.1 ∧ p.1 ≤ b) := by
   rintro ⟨g1, g2⟩
   have e1 := n1 p.1 (by omega) (by omega) (Or.inl (by unfold near; omega))
   have e2 := n1 (p.1 - 1) (by omega) (by omega) (Or.inl (by unfold near; omega))
   omega
  have f2 : ¬ (a ≤ p.2 ∧ p.2 < b) := by
   rintro ⟨g1, g2⟩
   have e1 := n1 p.2 (by omega) (by omega) (Or.inr (by unfold near; omega))
   have e2 := n1 (p.2 + 1) (by omega) (by omega) (Or.inr (by unfold near; omega))
   omega
  omega
 constructor
 · rintro ⟨p, hp, h⟩
   exact ⟨p, hp, by have := (key p hp).1 (by simpa using h); simpa using this⟩
 rintro ⟨p, hp, h⟩
 exact ⟨p, hp, by have := (key p hp).2 (by simpa using h); simpa using this⟩
structure Scn (rs : List (Int × Int)) (nt : Bool) (b : Int) (out : List (Int × Int)) : Prop where
 norm : Norm out
 mem : ∀ r, mem out r = (qOf rs nt r && xa1 r && decide (r ≤ b))
theorem Scn.all {rs : List (Int × Int)} {nt : Bool} {out : List (Int × Int)} (h : Scn rs nt 1114111 out) : out = if nt = true then notL rs else ofL rs := by
 have hm : ∀ r, Go.Proofs.YtbifklibdkjbeaaGreatDoor.mem out r = (qOf rs nt r && xa1 r) := by
  intro r
  rw [h.mem]
  cases hi : xa1 r
  · simp
  simp [xa1] at hi; simp [hi.2]
 cases nt
 · rw [if_neg (by decide)]
   symm
   apply xfw
   refine ⟨h.norm, fun r => ?_⟩
   rw [hm]
   unfold qOf has
   cases Go.Proofs.YtbifklibdkjbeaaGreatDoor.mem rs r <;> cases xa1 r <;> rfl
 rw [if_pos rfl]
 symm
 apply xeF
 refine ⟨h.norm, fun r => ?_⟩
 rw [hm]
 unfold qOf has
 cases Go.Proofs.YtbifklibdkjbeaaGreatDoor.mem rs r <;> cases xa1 r <;> rfl
theorem xkG (rs : List (Int × Int)) (nt : Bool) : Scn rs nt (-1) [] := by
 refine ⟨trivial, fun r => ?_⟩
 rw [xdI]
 symm
 by_cases h : r ≤ -1
 · rw [show xa1 r = false by simp [xa1]; omega]; simp
 rw [show decide (r ≤ -1) = false by simpa using h]; simp
structure Nb (rs : List (Int × Int)) (nt : Bool) (a b : Int) : Prop where
 lo : -1 ≤ a
 one : a = -1 → b = 0
 lt : a < b
 hi : b ≤ 1114111
 same : a + 1 < b → ∀ r, a ≤ r → r ≤ b → qOf rs nt r = qOf rs nt a
theorem Nb.of {rs : List (Int × Int)} {nt : Bool} {a b : Int} (ha : 0 ≤ a) (hab : a < b) (hb : b ≤ 1114111)
 (hn : ∀ y, 0 ≤ y → y ≤ 1114111 → Need rs rs.length y → y ≤ a ∨ b ≤ y) : Nb rs nt a b :=
 ⟨by omega, fun h => by omega, hab, hb, fun h r h1 h2 => by unfold qOf; rw [xlG ha hb h hn r h1 h2]⟩
theorem Nb.first (rs : List (Int × Int)) (nt : Bool) : Nb rs nt (-1) 0 := ⟨by omega, fun _ => rfl, by omega, by omega, fun h => by omega⟩
theorem xmQ {rs : List (Int × Int)} {nt : Bool} {a b : Int} {out : List (Int × Int)} (h : Scn rs nt a out) (n : Nb rs nt a b) (hq : qOf rs nt b = false) : Scn rs nt b out := by
 refine ⟨h.norm, fun r => ?_⟩
 rw [h.mem]
 have h1 := n.lo
 have h2 := n.lt
 by_cases hr : a < r ∧ r ≤ b
 · have : qOf rs nt r = false := by
    by_cases hb : a + 1 < b
    · rw [n.same hb r (by omega) hr.2, ← n.same hb b (by omega) (by omega), hq]
    obtain rfl : r = b := by omega
    exact hq
   rw [this]; rfl
 congr 1
 by_cases h3 : r ≤ a
 · rw [show decide (r ≤ a) = true by simpa using h3, show decide (r ≤ b) = true by simp; omega]
 rw [show decide (r ≤ a) = false by simpa using h3, show decide (r ≤ b) = false by simp; omega]
theorem xkH {rs : List (Int × Int)} {nt : Bool} {a b : Int} {out : List (Int × Int)} (h : Scn rs nt a out) (n : Nb rs nt a b) (hq : qOf rs nt b = true) (hp : a = -1 ∨ qOf rs nt a = false) : Scn rs nt b (out ++ [(b, b)]) := by
 have h1 := n.lo
 have h2 := n.lt
 have h3 := n.hi
 have hab : b = a + 1 := by
  by_cases hb : a + 1 < b
  · have e := n.same hb b (by omega) (by omega)
    rcases hp with rfl | hp
    · have := n.one rfl; omega
    rw [hp, hq] at e; cases e
  omega
 subst hab
 have hlow : ∀ p ∈ out, p.2 + 2 ≤ a + 1 := by
  intro p hp2
  have e1 := h.norm.rng p hp2
  have e2 : mem out p.2 = true := (mem_iff _ _).2 ⟨p, hp2, e1.2.1, by omega⟩
  rw [h.mem] at e2
  simp only [Bool.and_eq_true, decide_eq_true_eq] at e2
  by_cases h4 : p.2 = a
  · rcases hp with rfl | hp
    · omega
    rw [h4, hp] at e2; simp at e2
  omega
 refine ⟨xbu _ _ h.norm (by omega) (by simp) (by omega) hlow, fun r => ?_⟩
 rw [mem_append, xbv, h.mem]
 by_cases hr : r = a + 1
 · subst hr
   rw [hq, show xa1 (a + 1) = true by simp [xa1]; omega]
   simp
 have e3 : (decide (a + 1 ≤ r) && decide (r ≤ a + 1)) = false := by simp; omega
 have e4 : decide (r ≤ a) = decide (r ≤ a + 1) := by
  rw [decide_eq_decide]; omega
 simp only [e3, Bool.or_false, e4]
theorem xiq {rs : List (Int × Int)} {nt : Bool} {a : Int} {out : List (Int × Int)} (h : Scn rs nt a out) (h0 : 0 ≤ a) (h1 : a ≤ 1114111) (hq : qOf rs nt a = true) : ∃ o lo, out = o ++ [(lo, a)] := by
 have e1 : mem out a = true := by rw [h.mem, hq, show xa1 a = true by simp [xa1]; omega]; simp
 rcases List.eq_nil_or_concat out with rfl | ⟨o, p, rfl⟩
 · rw [xdI] at e1; cases e1
 rw [List.concat_eq_append] at *
 refine ⟨o, p.1, ?_⟩
 obtain ⟨_, n1, n2, n3, n4⟩ := xdk _ _ h.norm
 have e2 : mem (o ++ [p]) p.2 = true := (mem_iff _ _).2 ⟨p, by simp, n2, by omega⟩
 rw [h.mem] at e2
 simp only [Bool.and_eq_true, decide_eq_true_eq] at e2
 have e3 : p.2 = a := by
  obtain ⟨q, hq, g1, g2⟩ := (mem_iff _ _).1 e1
  rcases List.mem_append.1 hq with hq | hq
  · have := n4 q hq; omega
  simp at hq; subst hq; omega
 rw [← e3]
theorem scn_ext {rs : List (Int × Int)} {nt : Bool} {a b lo : Int} {o : List (Int × Int)} (h : Scn rs nt a (o ++ [(lo, a)])) (n : Nb rs nt a b) (h0 : 0 ≤ a) (hqa : qOf rs nt a = true) (hqb : qOf rs nt b = true) : Scn rs nt b (o ++ [(lo, b)]) := by
 have h2 := n.lt
 have h3 := n.hi
 obtain ⟨m1, m2, m3, m4, m5⟩ := xdk _ _ h.norm
 dsimp only at m2 m3 m4 m5
 refine ⟨xbu _ _ m1 m2 (by dsimp only; omega) (by dsimp only; omega) m5, fun r => ?_⟩
 have e := h.mem r
 rw [mem_append, xbv] at e ⊢
 dsimp only at e ⊢
 by_cases hr : r ≤ a
 · have e1 : decide (r ≤ a) = true := by simpa using hr
   have e2 : decide (r ≤ b) = true := by simp; omega
   rw [e1] at e
   rw [e2, ← e]
 have e1 : decide (r ≤ a) = false := by simpa using hr
 rw [e1] at e
 simp only [Bool.and_false, Bool.or_false] at e
 rw [e]
 by_cases hb : r ≤ b
 · have q1 : qOf rs nt r = true := by
    by_cases hab : a + 1 < b
    · rw [n.same hab r (by omega) hb, hqa]
    obtain rfl : r = b := by omega
    exact hqb
   rw [q1, show xa1 r = true by simp [xa1]; omega, show decide (lo ≤ r) = true by simp; omega]
   rfl
 rw [show decide (r ≤ b) = false by simpa using hb]; simp
def Ends (rs : List (Int × Int)) (l : List Int) : Prop := Srt l ∧ (∀ x ∈ l, 0 ≤ x ∧ x ≤ 1114111) ∧ ∀ y, 0 ≤ y → y ≤ 1114111 → Need rs rs.length y → y ∈ l
theorem xk {rs : List (Int × Int)} {l : List Int} {a : Int} (h : Ends rs l) (ha : l[0]? = some a) : a = 0 := by
 cases l with
 | nil => simp at ha
 | cons x l =>
  simp at ha
  subst ha
  have h0 := h.2.2 0 (by omega) (by omega) (Or.inl rfl)
  rcases List.mem_cons.1 h0 with h0 | h0
  · exact h0.symm
  have := h.1.1 0 h0; have := (h.2.1 x List.mem_cons_self).1; omega
theorem ends_nb {rs : List (Int × Int)} {nt : Bool} {l : List Int} {i : Nat} {a b : Int} (h : Ends rs l) (ha : l[i]? = some a) (hb : l[i + 1]? = some b) : Nb rs nt a b := by
 have hi : i + 1 < l.length := (List.getElem?_eq_some_iff.1 hb).1
 have hs : l = l.take (i + 1) ++ l.drop (i + 1) := (List.take_append_drop _ _).symm
 have hl := h.1
 rw [hs] at hl
 obtain ⟨s1, s2, s3⟩ := Srt.append.1 hl
 have ht : l.take (i + 1) = l.take i ++ [a] := by rw [List.take_add_one, ha]; rfl
 have hd : l.drop (i + 1) = b :: l.drop (i + 1 + 1) := by
  rw [List.drop_eq_getElem_cons hi]
  rw [List.getElem?_eq_getElem hi] at hb
  rw [Option.some.inj hb]
 rw [ht] at s1 s3
 rw [hd] at s2 s3
 refine Nb.of (h.2.1 a (List.mem_of_getElem? ha)).1 (s3 a (by simp) b (by simp)) (h.2.1 b (List.mem_of_getElem? hb)).2 (fun y h1 h2 h3 => ?_)
 have hy := h.2.2 y h1 h2 h3
 rw [hs, ht, hd] at hy
 rcases List.mem_append.1 hy with hy | hy
 · rcases List.mem_append.1 hy with hy | hy
   · have := (Srt.append.1 s1).2.2 y hy a (by simp); omega
   simp at hy; omega
 rcases List.mem_cons.1 hy with rfl | hy
 · omega
 have := s2.1 y hy; omega
theorem xm {rs : List (Int × Int)} {l : List Int} {a : Int} (h : Ends rs l) (ha : l[l.length - 1]? = some a) : a = 1114111 := by
 have h0 := h.2.2 1114111 (by omega) (by omega) (Or.inr (Or.inl rfl))
 have hb := (h.2.1 a (List.mem_of_getElem? ha)).2
 rcases List.eq_nil_or_concat l with rfl | ⟨o, p, rfl⟩
 · simp at ha
 rw [List.concat_eq_append] at *
 simp at ha
 subst ha
 rcases List.mem_append.1 h0 with h0 | h0
 · have := (Srt.append.1 h.1).2.2 _ h0 p (by simp); omega
 simp at h0; exact h0.symm
theorem xfT {l : List Int} {k : Nat} {x : Int} (h : Srt l) (h1 : ∀ y ∈ l.take k, y < x) (h2 : ∀ y, l[k]? = some y → x < y) : Srt (l.take k ++ [x] ++ l.drop k) := by
 have hl := h
 rw [← List.take_append_drop k l] at hl
 obtain ⟨s1, s2, s3⟩ := Srt.append.1 hl
 have h3 : ∀ y ∈ l.drop k, x < y := by
  intro y hy
  by_cases hk : k < l.length
  · rw [List.drop_eq_getElem_cons hk] at hy s2
    have := h2 l[k] (List.getElem?_eq_getElem hk)
    rcases List.mem_cons.1 hy with rfl | hy
    · exact this
    have := s2.1 y hy; omega
  rw [List.drop_eq_nil_of_le (by omega)] at hy; cases hy
 refine Srt.append.2 ⟨Srt.append.2 ⟨s1, ⟨by simp, trivial⟩, by simpa using h1⟩, s2, ?_⟩
 intro y hy z hz
 rcases List.mem_append.1 hy with hy | hy
 · exact s3 y hy z hz
 simp at hy; subst hy; exact h3 z hz
theorem mem_put {l : List Int} {k : Nat} {x y : Int} : y ∈ l.take k ++ [x] ++ l.drop k ↔ y ∈ l ∨ y = x := by
 have : y ∈ l ↔ y ∈ l.take k ∨ y ∈ l.drop k := by
  conv => lhs; rw [← List.take_append_drop k l]
  exact List.mem_append
 rw [this]
 simp only [List.mem_append, List.mem_singleton]
 constructor
 · rintro ((h | h) | h)
   · exact Or.inl (Or.inl h)
   · exact Or.inr h
   exact Or.inl (Or.inr h)
 rintro ((h | h) | h)
 · exact Or.inl (Or.inl h)
 · exact Or.inr h
 exact Or.inl (Or.inr h)
def ISl (w : World) (v : Value) (l : List Int) : Prop := SlOf 1 encI w v l ∧ ∀ r ∈ l, 0 ≤ r ∧ r ≤ 1114111
theorem ISl.keep {w w' : World} {v : Value} {l : List Int} (h : ISl w v l) (K : xa (fun _ => False) w w') : ISl w' v l := ⟨h.1.keep K, h.2⟩
theorem ISl.cells {w : World} {v : Value} {l : List Int} (h : ISl w v l) : ∃ a cap, v = .slice a l.length cap ∧ l.length ≤ cap ∧ (0 < l.length → ∃ b off, a = some ⟨b, off, none⟩ ∧ ∀ i r, l[i]? = some r → w.cell? ⟨b, off + i, none⟩ = some (.int .i64 r) ∧ 0 ≤ r ∧ r ≤ 1114111) := by
 obtain ⟨⟨a, cap, rfl, ⟨h1, _⟩, h2, h3⟩, h4⟩ := h
 refine ⟨a, cap, rfl, h1, fun h0 => ?_⟩
 obtain ⟨b, off, rfl, hc⟩ := h3 h0
 exact ⟨b, off, rfl, fun i r hr => ⟨by simpa [encI] using hc i r hr 0 (by omega), h4 r (List.mem_of_getElem? hr)⟩⟩
def RNumR (l : List Int) (w : World) (nv kv : Value) (wr : World) : Prop :=
 w = wr ∧ ((nv = .int .i64 0 ∧ kv = .int .i64 0) ∨ (∃ a t, l = a :: t ∧ dig a = true ∧ nv = .int .i64 (a - 48) ∧ kv = .int .i64 1) ∨ (∃ a b t, l = a :: b :: t ∧ dig a = true ∧ dig b = true ∧ nv = .int .i64 ((a - 48) * 10 + b - 48) ∧ kv = .int .i64 2))
theorem xiL {a b : Int} {t : List Int} (h : dig a = true) : num0 (a :: b :: t) = if dig b then ((a - 48) * 10 + b - 48, 2) else (a - 48, 1) := by rw [xa0, if_pos h]
theorem xch (a : Int) : dig a = true ↔ 48 ≤ a ∧ a ≤ 57 := by unfold dig; simp
theorem xep (l : List Int) (v : Value) (w : World) (h : ISl w v l) : Calls Tryz.prog 184 #[v] w fun e w' => e = .returned (.tuple #[.int .i64 (numP l).1, .int .i64 (numP l).2]) ∧ w = w' := by
 obtain ⟨a, cap, rfl, hcap, hc⟩ := h.cells
 clear h
 have HN : Hid (numP l = if 50 < (num0 l).1 then (0, 0) else num0 l) := xoo rfl
 generalize numP l = q at *
 go_enter Tryz.func184, Tryz.ntmps184
 go_wp2_with fail
 go_loopw [4, 5] (fun nv kv wr => RNumR l w nv kv wr) (fun _ kv _ => 3 - (intOf kv).toNat)
 case atStart => exact ⟨rfl, Or.inl ⟨rfl, rfl⟩⟩
 case round =>
  obtain ⟨rfl, hrel⟩ := hrel
  rcases hrel with ⟨rfl, rfl⟩ | ⟨a0, t, rfl, hd, rfl, rfl⟩ | ⟨a0, b0, t, rfl, hd, he, rfl, rfl⟩
  · rcases l with _ | ⟨r0, l⟩
    · have E : Hid (q = (0, 0)) := xoo HN.out
      clear HN hc
      go_wp2_with fail
      go_ret2
      exact ⟨by rw [E.out]; rfl, rfl⟩
    obtain ⟨b, off, rfl, hcc⟩ := hc (by simp)
    obtain ⟨c0, c1, c2⟩ := hcc 0 r0 rfl
    simp only [Nat.add_zero] at c0
    simp only [List.length_cons] at *
    have g0 : decide ((0 : Int) < ((l.length + 1 : Nat) : Int)) = true := by simp <;> omega
    cases hd : dig r0
    · have E : Hid (q = (0, 0)) := xoo (by rw [HN.out, xa0, hd]; rfl)
      have hd' : ¬ (48 ≤ r0 ∧ r0 ≤ 57) := fun h => by rw [(xch r0).2 h] at hd; cases hd
      clear HN hc hcc hd
      by_cases h1 : 48 ≤ r0
      · have g1 : decide (48 ≤ r0) = true := by simpa using h1
        have g2 : decide (r0 ≤ 57) = false := by simp; omega
        go_wp2_with fail
        go_ret2
        exact ⟨by rw [E.out]; rfl, rfl⟩
      have g1 : decide (48 ≤ r0) = false := by simpa using h1
      go_wp2_with fail
      go_ret2
      exact ⟨by rw [E.out]; rfl, rfl⟩
    obtain ⟨h1, h2⟩ := (xch r0).1 hd
    have g1 : decide (48 ≤ r0) = true := by simpa using h1
    have g2 : decide (r0 ≤ 57) = true := by simpa using h2
    clear hc hcc
    go_wp2_with fail
    go_roundw
    case rel => exact ⟨by trivial, Or.inr (Or.inl ⟨r0, l, rfl, hd, by go_num, rfl⟩)⟩
    case measure => simp [intOf]
  · obtain ⟨h1, h2⟩ := (xch a0).1 hd
    rcases t with _ | ⟨r1, t⟩
    · have E : Hid (q = (a0 - 48, 1)) := xoo (by rw [HN.out, xa0, hd]; show (if 50 < a0 - 48 then _ else _) = _; rw [if_neg (by omega)]; rfl)
      have g5 : decide (50 < a0 - 48) = false := by simp; omega
      clear HN hc
      go_wp2_with fail
      go_ret2
      exact ⟨by rw [E.out]; rfl, rfl⟩
    obtain ⟨b, off, rfl, hcc⟩ := hc (by simp)
    obtain ⟨c0, c1, c2⟩ := hcc 1 r1 rfl
    simp only [List.length_cons] at *
    have g0 : decide ((1 : Int) < ((t.length + 1 + 1 : Nat) : Int)) = true := by simp <;> omega
    cases he : dig r1
    · have E : Hid (q = (a0 - 48, 1)) := xoo (by rw [HN.out, xiL hd, he]; show (if 50 < a0 - 48 then _ else _) = _; rw [if_neg (by omega)]; rfl)
      have g5 : decide (50 < a0 - 48) = false := by simp; omega
      have hd' : ¬ (48 ≤ r1 ∧ r1 ≤ 57) := fun h => by rw [(xch r1).2 h] at he; cases he
      clear HN hc hcc he
      by_cases h3 : 48 ≤ r1
      · have g1 : decide (48 ≤ r1) = true := by simpa using h3
        have g2 : decide (r1 ≤ 57) = false := by simp; omega
        go_wp2_with fail
        go_ret2
        exact ⟨by rw [E.out]; rfl, rfl⟩
      have g1 : decide (48 ≤ r1) = false := by simpa using h3
      go_wp2_with fail
      go_ret2
      exact ⟨by rw [E.out]; rfl, rfl⟩
    obtain ⟨h3, h4⟩ := (xch r1).1 he
    have g1 : decide (48 ≤ r1) = true := by simpa using h3
    have g2 : decide (r1 ≤ 57) = true := by simpa using h4
    clear hc hcc
    go_wp2_with fail
    go_roundw
    case rel => exact ⟨by trivial, Or.inr (Or.inr ⟨a0, r1, t, rfl, hd, he, by go_num, rfl⟩)⟩
    case measure => simp [intOf]
  obtain ⟨h1, h2⟩ := (xch a0).1 hd
  obtain ⟨h3, h4⟩ := (xch b0).1 he
  have HN2 : Hid (q = if 50 < (a0 - 48) * 10 + b0 - 48 then (0, 0) else ((a0 - 48) * 10 + b0 - 48, 2)) := xoo (by rw [HN.out, xiL hd, he]; rfl)
  clear HN hc
  generalize (a0 - 48) * 10 + b0 - 48 = n at *
  by_cases h5 : 50 < n
  · have g5 : decide (50 < n) = true := by simpa using h5
    have E : Hid (q = (0, 0)) := xoo (by rw [HN2.out, if_pos h5])
    clear HN2
    go_wp2_with fail
    go_ret2
    exact ⟨by rw [E.out]; rfl, rfl⟩
  have g5 : decide (50 < n) = false := by simpa using h5
  have E : Hid (q = (n, 2)) := xoo (by rw [HN2.out, if_neg h5])
  clear HN2
  go_wp2_with fail
  go_ret2
  exact ⟨by rw [E.out]; rfl, rfl⟩
theorem ISl.dropI {w : World} {b off n cap : Nat} {l : List Int} (h : ISl w (.slice (some ⟨b, off, none⟩) n cap) l) (i : Nat) (hi : i ≤ n) (hc : ¬ cap = i) :
 ISl w (.slice (some ⟨b, off + i, none⟩) (n - i) (cap - i)) (l.drop i) := by
 obtain ⟨⟨a, c, e, ⟨hl, hn⟩, hl2, hcc⟩, h4⟩ := h
 injection e with e1 e2 e3
 subst e1 e2 e3
 refine ⟨⟨_, _, by rw [List.length_drop], ⟨by rw [List.length_drop]; omega, (fun h => by cases h)⟩, by rw [List.length_drop]; omega, fun h0 => ⟨b, off + i, rfl, fun j x hx q hq => ?_⟩⟩, fun r hr => h4 r (List.mem_of_mem_drop hr)⟩
 rw [List.length_drop] at h0
 obtain ⟨b', off', e', hx'⟩ := hcc (by omega)
 injection e' with e'
 injection e' with e1 e2 _
 subst e1 e2
 rw [List.getElem?_drop] at hx
 have := hx' (i + j) x hx q hq
 rw [← this]
 congr 2
 omega
def tokV (k r : Int) (sv : Value) (m x : Int) : Value := .agg #[.int .i64 k, .int .i64 r, sv, .int .i64 m, .int .i64 x]
def brV : Option (Int × Int × Nat) → Value
 | none => .tuple #[tokV 0 0 (.slice none 0 0) 0 0, .int .i64 0]
 | some (m, x, k) => .tuple #[tokV 2 0 (.slice none 0 0) m x, .int .i64 k]
theorem xiI (l : List Int) : (numP l).2 ≤ 2 := by
 unfold numP
 by_cases h : 50 < (num0 l).1
 · rw [if_pos h]; decide
 rw [if_neg h]
 rcases l with _ | ⟨a, _ | ⟨b, t⟩⟩
 · decide
 · rw [xa0]; split <;> simp
 rw [xa0]; split
 · simp only; split <;> simp
 simp
theorem xeu (l : List Int) (v : Value) (w : World) (hlen : l.length ≤ 1000000) (h : ISl w v l) : Calls Tryz.prog 148 #[v] w fun e w' => e = .returned (brV (brP l)) ∧ xa (fun _ => False) w w' := by
 have HN := xoo (fun W (hW : ISl W v l) => xep l v W hW)
 have HI := xoo h
 obtain ⟨a, cap, rfl, hcap, hc⟩ := h.cells
 have HB : Hid (brP l = _) := xoo (by unfold brP; rfl)
 obtain ⟨n, k, hq⟩ : ∃ n k, numP l = (n, k) := ⟨_, _, rfl⟩
 have hk2 : k ≤ 2 := by have := xiI l; rw [hq] at this; exact this
 rw [hq] at HN HB
 dsimp only at HN HB
 generalize brP l = r at *
 by_cases h0 : k = 0
 · subst h0
   have E : Hid (r = none) := xoo HB.out
   clear hc h HB hq
   go_enter Tryz.func148, Tryz.ntmps148
   go_wp2_with fail
   refine (HN.out _ (HI.out.keep ((xa.refl _ _).alloc _))).mono ?_
   rintro e w3 ⟨rfl, rfl⟩
   go_wp2_with fail
   refine bodyPost_ret (by simp [results, Tryz.results148, go_sem]; try rfl) rfl ?_
   exact ⟨by rw [E.out]; rfl, (xa.refl _ _).alloc _⟩
 have g0 : ((k : Int) == 0) = false := beq_eq_false_iff_ne.2 (by omega)
 rw [if_neg h0] at HB
 by_cases h1 : l.length ≤ k
 · have g1 : decide ((l.length : Int) ≤ (k : Int)) = true := by simpa using h1
   have E : Hid (r = none) := xoo (by rw [HB.out, List.drop_eq_nil_of_le h1])
   clear hc h HB hq
   go_enter Tryz.func148, Tryz.ntmps148
   go_wp2_with fail
   refine (HN.out _ (HI.out.keep ((xa.refl _ _).alloc _))).mono ?_
   rintro e w3 ⟨rfl, rfl⟩
   go_wp2_with fail
   refine bodyPost_ret (by simp [results, Tryz.results148, go_sem]; try rfl) rfl ?_
   exact ⟨by rw [E.out]; rfl, (xa.refl _ _).alloc _⟩
 have g1 : decide ((l.length : Int) ≤ (k : Int)) = false := by simpa using h1
 obtain ⟨b, off, rfl, hcc⟩ := hc (by omega)
 obtain ⟨c, hcx⟩ : ∃ c, l[k]? = some c := ⟨_, List.getElem?_eq_getElem (by omega)⟩
 have x0 := xad (hcc k c hcx).1 (.cells #[.int .i64 0, .int .i64 0, .slice none 0 0, .int .i64 0, .int .i64 0] 218)
 have hd : l.drop k = c :: l.drop (k + 1) := by
  rw [List.drop_eq_getElem_cons (by omega)]
  rw [List.getElem?_eq_getElem (by omega)] at hcx
  rw [Option.some.inj hcx]
 rw [hd] at HB
 dsimp only at HB
 by_cases h2 : c = 125
 · subst h2
   have E : Hid (r = some (n, n, k + 1)) := xoo HB.out
   clear hc h HB hq hcc hd hcx
   go_enter Tryz.func148, Tryz.ntmps148
   go_wp2_with fail
   refine (HN.out _ (HI.out.keep ((xa.refl _ _).alloc _))).mono ?_
   rintro e w3 ⟨rfl, rfl⟩
   go_wp2_with fail
   refine bodyPost_ret (by simp [results, Tryz.results148, go_sem]; try rfl) rfl ?_
   exact ⟨by rw [E.out]; rfl, (xa.refl _ _).alloc _⟩
 have g2 : (c == 125) = false := beq_eq_false_iff_ne.2 h2
 rw [if_neg h2] at HB
 by_cases h3 : ¬ c = 44
 · have g3 : (c == 44) = false := beq_eq_false_iff_ne.2 h3
   have E : Hid (r = none) := xoo (by rw [HB.out, if_neg h3])
   clear hc h HB hq hcc hd hcx
   go_enter Tryz.func148, Tryz.ntmps148
   go_wp2_with fail
   refine (HN.out _ (HI.out.keep ((xa.refl _ _).alloc _))).mono ?_
   rintro e w3 ⟨rfl, rfl⟩
   go_wp2_with fail
   refine bodyPost_ret (by simp [results, Tryz.results148, go_sem]; try rfl) rfl ?_
   exact ⟨by rw [E.out]; rfl, (xa.refl _ _).alloc _⟩
 have h3 : c = 44 := Decidable.of_not_not h3
 subst h3
 rw [if_pos rfl] at HB
 by_cases h4 : l.length ≤ k + 1
 · have g4 : decide ((l.length : Int) ≤ (k : Int) + 1) = true := by simp; omega
   have E : Hid (r = none) := xoo (by rw [HB.out, List.drop_eq_nil_of_le h4])
   clear hc h HB hq hcc hd hcx
   go_enter Tryz.func148, Tryz.ntmps148
   go_wp2_with fail
   refine (HN.out _ (HI.out.keep ((xa.refl _ _).alloc _))).mono ?_
   rintro e w3 ⟨rfl, rfl⟩
   go_wp2_with fail
   refine bodyPost_ret (by simp [results, Tryz.results148, go_sem]; try rfl) rfl ?_
   exact ⟨by rw [E.out]; rfl, (xa.refl _ _).alloc _⟩
 have g4 : decide ((l.length : Int) ≤ (k : Int) + 1) = false := by simp; omega
 obtain ⟨d, hdx⟩ : ∃ d, l[k + 1]? = some d := ⟨_, List.getElem?_eq_getElem (by omega)⟩
 have x1 := xad (hcc (k + 1) d hdx).1 (.cells #[.int .i64 0, .int .i64 0, .slice none 0 0, .int .i64 0, .int .i64 0] 218)
 have hd1 : l.drop (k + 1) = d :: l.drop (k + 1 + 1) := by
  rw [List.drop_eq_getElem_cons (by omega)]
  rw [List.getElem?_eq_getElem (by omega)] at hdx
  rw [Option.some.inj hdx]
 have HB2 : Hid (r = if d = 125 then some (n, -1, k + 2)
  else if (numP (l.drop (k + 1))).2 = 0 ∨ (numP (l.drop (k + 1))).1 < n then none
  else if ((l.drop (k + 1)).drop (numP (l.drop (k + 1))).2).head? = some 125 then some (n, (numP (l.drop (k + 1))).1, k + (numP (l.drop (k + 1))).2 + 2) else none) := xoo (by rw [HB.out, hd1])
 clear HB hd hd1 hcx hdx
 by_cases h5 : d = 125
 · subst h5
   have E : Hid (r = some (n, -1, k + 2)) := xoo HB2.out
   clear hc h hq hcc HB2
   go_enter Tryz.func148, Tryz.ntmps148
   go_wp2_with fail
   refine (HN.out _ (HI.out.keep ((xa.refl _ _).alloc _))).mono ?_
   rintro e w3 ⟨rfl, rfl⟩
   go_wp2_with fail
   refine bodyPost_ret (by simp [results, Tryz.results148, go_sem]; try rfl) rfl ?_
   exact ⟨by rw [E.out]; rfl, (xa.refl _ _).alloc _⟩
 have g5 : (d == 125) = false := beq_eq_false_iff_ne.2 h5
 rw [if_neg h5] at HB2
 have hIS := h.dropI (k + 1) (by omega) (by omega)
 have HI2 := xoo hIS
 have HM := xoo (fun W hW => xep (l.drop (k + 1)) (.slice (some ⟨b, off + (k + 1), none⟩) (l.length - (k + 1)) (cap - (k + 1))) W hW)
 obtain ⟨y, m, hp⟩ : ∃ y m, numP (l.drop (k + 1)) = (y, m) := ⟨_, _, rfl⟩
 have hm2 : m ≤ 2 := by have := xiI (l.drop (k + 1)); rw [hp] at this; exact this
 rw [hp] at HM HB2
 dsimp only at HM HB2
 have hI1 : (0 : Int) ≤ (k : Int) + 1 := by omega
 have hI2 : (k : Int) + 1 ≤ (l.length : Int) := by omega
 have hI3 : (k : Int) + 1 ≤ (cap : Int) := by omega
 by_cases h6 : m = 0
 · subst h6
   have E : Hid (r = none) := xoo (by rw [HB2.out, if_pos (Or.inl rfl)])
   clear hc h hq hcc HB2
   go_enter Tryz.func148, Tryz.ntmps148
   go_wp2_with fail
   refine (HN.out _ (HI.out.keep ((xa.refl _ _).alloc _))).mono ?_
   rintro e w3 ⟨rfl, rfl⟩
   go_wp2_with fail
   refine (HM.out _ (HI2.out.keep ((xa.refl _ _).alloc _))).mono ?_
   rintro e w3 ⟨rfl, rfl⟩
   go_wp2_with fail
   refine bodyPost_ret (by simp [results, Tryz.results148, go_sem]; try rfl) rfl ?_
   exact ⟨by rw [E.out]; rfl, (xa.refl _ _).alloc _⟩
 have g6 : ((m : Int) == 0) = false := beq_eq_false_iff_ne.2 (by omega)
 by_cases h7 : y < n
 · have g7 : decide (y < n) = true := by simpa using h7
   have E : Hid (r = none) := xoo (by rw [HB2.out, if_pos (Or.inr h7)])
   clear hc h hq hcc HB2
   go_enter Tryz.func148, Tryz.ntmps148
   go_wp2_with fail
   refine (HN.out _ (HI.out.keep ((xa.refl _ _).alloc _))).mono ?_
   rintro e w3 ⟨rfl, rfl⟩
   go_wp2_with fail
   refine (HM.out _ (HI2.out.keep ((xa.refl _ _).alloc _))).mono ?_
   rintro e w3 ⟨rfl, rfl⟩
   go_wp2_with fail
   refine bodyPost_ret (by simp [results, Tryz.results148, go_sem]; try rfl) rfl ?_
   exact ⟨by rw [E.out]; rfl, (xa.refl _ _).alloc _⟩
 have g7 : decide (y < n) = false := by simpa using h7
 rw [if_neg (by omega), List.drop_drop] at HB2
 by_cases h8 : l.length ≤ k + 1 + m
 · have g8 : decide ((l.length : Int) ≤ (k : Int) + 1 + (m : Int)) = true := by simp; omega
   have E : Hid (r = none) := xoo (by rw [HB2.out, List.drop_eq_nil_of_le h8]; rfl)
   clear hc h hq hcc HB2
   go_enter Tryz.func148, Tryz.ntmps148
   go_wp2_with fail
   refine (HN.out _ (HI.out.keep ((xa.refl _ _).alloc _))).mono ?_
   rintro e w3 ⟨rfl, rfl⟩
   go_wp2_with fail
   refine (HM.out _ (HI2.out.keep ((xa.refl _ _).alloc _))).mono ?_
   rintro e w3 ⟨rfl, rfl⟩
   go_wp2_with fail
   refine bodyPost_ret (by simp [results, Tryz.results148, go_sem]; try rfl) rfl ?_
   exact ⟨by rw [E.out]; rfl, (xa.refl _ _).alloc _⟩
 have g8 : decide ((l.length : Int) ≤ (k : Int) + 1 + (m : Int)) = false := by simp; omega
 obtain ⟨f, hfx⟩ : ∃ f, l[k + 1 + m]? = some f := ⟨_, List.getElem?_eq_getElem (by omega)⟩
 have x2 := xad (hcc (k + 1 + m) f hfx).1 (.cells #[.int .i64 0, .int .i64 0, .slice none 0 0, .int .i64 0, .int .i64 0] 218)
 rw [List.head?_drop, hfx] at HB2
 clear hfx hcc hc h
 by_cases h9 : f = 125
 · subst h9
   have E : Hid (r = some (n, y, k + m + 2)) := xoo (by rw [HB2.out, if_pos rfl])
   clear hq HB2
   go_enter Tryz.func148, Tryz.ntmps148
   go_wp2_with fail
   refine (HN.out _ (HI.out.keep ((xa.refl _ _).alloc _))).mono ?_
   rintro e w3 ⟨rfl, rfl⟩
   go_wp2_with fail
   refine (HM.out _ (HI2.out.keep ((xa.refl _ _).alloc _))).mono ?_
   rintro e w3 ⟨rfl, rfl⟩
   go_wp2_with fail
   refine bodyPost_ret (by simp [results, Tryz.results148, go_sem]; try rfl) rfl ?_
   exact ⟨by rw [E.out]; rfl, (xa.refl _ _).alloc _⟩
 have g9 : (f == 125) = false := beq_eq_false_iff_ne.2 h9
 have E : Hid (r = none) := xoo (by rw [HB2.out, if_neg (fun e => h9 (Option.some.inj e))])
 clear hq HB2
 go_enter Tryz.func148, Tryz.ntmps148
 go_wp2_with fail
 refine (HN.out _ (HI.out.keep ((xa.refl _ _).alloc _))).mono ?_
 rintro e w3 ⟨rfl, rfl⟩
 go_wp2_with fail
 refine (HM.out _ (HI2.out.keep ((xa.refl _ _).alloc _))).mono ?_
 rintro e w3 ⟨rfl, rfl⟩
 go_wp2_with fail
 refine bodyPost_ret (by simp [results, Tryz.results148, go_sem]; try rfl) rfl ?_
 exact ⟨by rw [E.out]; rfl, (xa.refl _ _).alloc _⟩
theorem xd2 (l : List Int) : cellsOf 1 encI l = l.map (Value.int .i64) := by
 induction l with
 | nil => rfl
 | cons x l ih => simp [cellsOf, List.range_succ, encI] at ih ⊢; exact ih
theorem xnC (l : List Int) : ∀ u ∈ cellsOf 1 encI l, u.oneCell' = true := by
 intro u hu
 rw [xd2, List.mem_map] at hu
 obtain ⟨x, _, rfl⟩ := hu
 rfl
theorem xax {w : World} {ops : Array Oper} {rest : List Oper} {o : Oper} {a : Act} {Q : Exit → Act → World → Prop} (hgd : o.guard = none) (s x : Operand)
 (ho : o.op = .call { callee := .builtin .append, args := #[s, x], argTypes := #[23, 23] })
 (base : Nat) (v : Value) (n : Nat) (xs : List Value) (hs : a.eval s = v) (hown : w.ownsRow base 3 1 v n xs)
 (xv : Value) (l : List Int) (hx : a.eval x = xv) (hr : SlOf 1 encI w xv l) (h63 : n + l.length ≤ 1000000) (hbase : base ≤ w.heap.size)
 (h : ∀ v' w', w'.ownsRow base 3 1 v' (n + l.length) (xs ++ cellsOf 1 encI l) → w.grownBy w' v.ownBlock → wpList Tryz.prog ops Q rest (a.put o.dst v') w') : wpList Tryz.prog ops Q (o :: rest) a w := by
 obtain ⟨i0, hi, hz0, hz1, hz2⟩ := info_parts xg
 rcases hr.news (by omega) with ⟨rfl, rfl⟩ | ⟨ad, c, rfl, hnews⟩
 · refine wpList_append_own_none hgd s x 23 ho base 3 i0 1 Tryz.underlying23 hi v n xs hs hown hx (hs ▸ h v w ?_ ?_)
   · simpa [cellsOf] using hown
   exact ⟨rfl, rfl, rfl, Nat.le_refl _, fun _ _ _ => rfl⟩
 exact wpList_append_own _ hgd s x 23 ho base 3 i0 _ 1 8 Tryz.underlying23 hi hz0 hz1 hz2 rfl (by decide) v n xs hs hown ad _ c _ hx (xah _ _ _) hnews (xnC _) (by unfold maxLen; omega) (by omega) hbase
  (fun v' w' h1 h2 _ => h v' w' h1 h2)
theorem SlOf.takeI {w : World} {a : Option Addr} {n cap : Nat} {l : List Int} (h : SlOf 1 encI w (.slice a n cap) l) (k : Nat) (hk : k ≤ n) : SlOf 1 encI w (.slice a k cap) (l.take k) := by
 obtain ⟨a', c, e, ⟨hl, hn⟩, hl2, hcc⟩ := h
 injection e with e1 e2 e3
 subst e1 e2 e3
 refine ⟨_, _, by rw [List.length_take, Nat.min_eq_left hk], ⟨by rw [List.length_take]; omega, hn⟩, by rw [List.length_take]; omega, fun h0 => ?_⟩
 rw [List.length_take] at h0
 obtain ⟨b, off, e, hc⟩ := hcc (by omega)
 refine ⟨b, off, e, fun i x hx j hj => hc i x ?_ j hj⟩
 rw [List.getElem?_take] at hx
 split at hx
 · exact hx
 cases hx
theorem SlOf.dropI1 {w : World} {b off n cap : Nat} {l : List Int} (h : SlOf 1 encI w (.slice (some ⟨b, off, none⟩) n cap) l) (i : Nat) (hi : i ≤ n) (hc : ¬ cap = i) :
 SlOf 1 encI w (.slice (some ⟨b, off + i, none⟩) (n - i) (cap - i)) (l.drop i) := by
 obtain ⟨a, c, e, ⟨hl, hn⟩, hl2, hcc⟩ := h
 injection e with e1 e2 e3
 subst e1 e2 e3
 refine ⟨_, _, by rw [List.length_drop], ⟨by rw [List.length_drop]; omega, (fun h => by cases h)⟩, by rw [List.length_drop]; omega, fun h0 => ⟨b, off + i, rfl, fun j x hx q hq => ?_⟩⟩
 rw [List.length_drop] at h0
 obtain ⟨b', off', e', hx'⟩ := hcc (by omega)
 injection e' with e'
 injection e' with e1 e2 _
 subst e1 e2
 rw [List.getElem?_drop] at hx
 have := hx' (i + j) x hx q hq
 rw [← this]
 congr 2
 omega
theorem xdh {w : World} {base base' : Nat} {e : TypeId} {size : Nat} {v : Value} {n : Nat} {xs : List Value} (h : w.ownsRow base e size v n xs) (hb : base' ≤ base) : w.ownsRow base' e size v n xs := by
 refine ⟨h.1, ?_⟩
 rcases h.2 with h | ⟨g, cap, cur, h1, h2, h3⟩
 · exact Or.inl h
 exact Or.inr ⟨g, cap, cur, h1, by omega, h3⟩
end Go.Proofs.YtbifklibdkjbeaaGreatDoor
