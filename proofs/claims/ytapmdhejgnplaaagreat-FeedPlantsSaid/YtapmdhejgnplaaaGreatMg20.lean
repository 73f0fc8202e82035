/-
  The walk of reedbedref08.Ends once more: all that lies beside a range's ends is among them.
-/
import Derived.Test.YtapmdhejgnplaaaGreatMg9
import Derived.Test.YtapmdhejgnplaaaGreatPaClsG
import Derived.Test.YtapmdhejgnplaaaGreatPaSimMG
import Derived.Handy
import Derived.Test.YtapmdhejgnplaaaGreatMg14
import Derived.Laws.AppendOwnNone
import Derived.Deep.RegionHeld3
import Derived.Deep.AppendLies
import Derived.Test.YtapmdhejgnplaaaGreatMg16
import Derived.Test.YtapmdhejgnplaaaGreatMg10
namespace Go.Proofs.YtapmdhejgnplaaaGreat
open Go.RowKit Go.Proofs.Tryz
set_option linter.unusedVariables false
set_option linter.unusedSimpArgs false
set_option maxRecDepth 100000
set_option maxHeartbeats 16000000
def near (y a : Int) : Prop := a - 1 <= y /\ y <= a + 1
def Need (l : LI) (i : Nat) (y : Int) : Prop := y = 0 \/ y = 1114111 \/ ∃ j p, j < i /\ l[j]? = some p /\ (near y p.1 \/ near y p.2)
def xim (l : LI) (i : Nat) (p : Int × Int) (k : Nat) (y : Int) : Prop := Need l i y \/ (1 <= k /\ near y p.1) \/ (2 <= k /\ near y p.2)
def xfe (l : LI) (i : Nat) (p : Int × Int) (k d : Nat) (y : Int) : Prop := xim l i p k y \/ ∃ x, (k = 0 /\ x = p.1 \/ k = 1 /\ x = p.2) /\ x - 1 <= y /\ y < x - 1 + d
def OutE (w0 wr : World) (u : Value) (es : List Int) (xhp : Nat) (Q : Int -> Prop) : Prop :=
 wr.ownsRow w0.heap.size 3 1 u es.length (es.map (Value.int .i64)) /\ es.length <= xhp /\ 2 <= es.length /\ (∀ x ∈ es, 0 <= x /\ x <= 1114111) /\ KF w0 wr /\ ∀ y, 0 <= y -> y <= 1114111 -> Q y -> y ∈ es
theorem need0 (l : LI) : ∀ y, 0 <= y -> y <= 1114111 -> Need l 0 y -> y ∈ ([0, 1114111] : List Int) := by
 rintro y _ _ (rfl | rfl | ⟨j, p, hj, _⟩)
 · simp
 · simp
 omega
theorem xlD {l : LI} {i : Nat} {p : Int × Int} (hp : l[i]? = some p) : ∀ y, Need l (i + 1) y -> xim l i p 2 y := by
 rintro y (h | h | ⟨j, q, hj, hq, h⟩)
 · exact Or.inl (Or.inl h)
 · exact Or.inl (Or.inr (Or.inl h))
 by_cases hji : j < i
 · exact Or.inl (Or.inr (Or.inr ⟨j, q, hji, hq, h⟩))
 obtain rfl : j = i := by omega
 rw [hp] at hq
 obtain rfl := Option.some.inj hq
 exact Or.inr (h.imp (fun h => ⟨by omega, h⟩) (fun h => ⟨by omega, h⟩))
theorem xjY {l : LI} {i : Nat} {p : Int × Int} : ∀ y, xim l i p 0 y -> Need l i y := by
 rintro y (h | ⟨h, _⟩ | ⟨h, _⟩)
 · exact h
 · omega
 omega
theorem xjX {l : LI} {i : Nat} {p : Int × Int} {k : Nat} : ∀ y, xfe l i p k 0 y -> xim l i p k y := by
 rintro y (h | ⟨x, _, h1, h2⟩)
 · exact h
 simp at h2; omega
theorem xjZ {l : LI} {i : Nat} {p : Int × Int} {k : Nat} (hk : k < 2) : ∀ y, xim l i p (k + 1) y -> xfe l i p k 3 y := by
 intro y h
 have hk' : k = 0 \/ k = 1 := by omega
 rcases hk' with rfl | rfl
 · rcases h with h | ⟨_, h⟩ | ⟨h, _⟩
   · exact Or.inl (Or.inl h)
   · refine Or.inr ⟨p.1, Or.inl ⟨rfl, rfl⟩, ?_⟩
     unfold near at h; simp; omega
   omega
 rcases h with h | ⟨_, h⟩ | ⟨_, h⟩
 · exact Or.inl (Or.inl h)
 · exact Or.inl (Or.inr (Or.inl ⟨by omega, h⟩))
 refine Or.inr ⟨p.2, Or.inr ⟨rfl, rfl⟩, ?_⟩
 unfold near at h; simp; omega
theorem xfx {l : LI} {i : Nat} {p : Int × Int} {k d : Nat} {x : Int} (hx : k = 0 /\ x = p.1 \/ k = 1 /\ x = p.2) : ∀ y, xfe l i p k (d + 1) y -> xfe l i p k d y \/ y = x + ((d : Int) - 1) := by
 rintro y (h | ⟨z, hz, h1, h2⟩)
 · exact Or.inl (Or.inl h)
 obtain rfl : x = z := by
  rcases hx with ⟨a, b⟩ | ⟨a, b⟩ <;> rcases hz with ⟨c, d⟩ | ⟨c, d⟩ <;> first | omega
 by_cases h3 : y = x + ((d : Int) - 1)
 · exact Or.inr h3
 exact Or.inl (Or.inr ⟨x, hz, h1, by simp at h2; omega⟩)
theorem xdp {es : List Int} {l : LI} {i : Nat} {p : Int × Int} {k d : Nat} {x : Int} (hx : k = 0 /\ x = p.1 \/ k = 1 /\ x = p.2) (h : ∀ y, 0 <= y -> y <= 1114111 -> xfe l i p k d y -> y ∈ es) (ho : x + ((d : Int) - 1) < 0 \/ 1114111 < x + ((d : Int) - 1)) :
 ∀ y, 0 <= y -> y <= 1114111 -> xfe l i p k (d + 1) y -> y ∈ es := by
 intro y h1 h2 h3
 rcases xfx hx y h3 with h3 | h3
 · exact h y h1 h2 h3
 omega
theorem xnk {es : List Int} {l : LI} {i : Nat} {p : Int × Int} {k d : Nat} {x : Int} (hx : k = 0 /\ x = p.1 \/ k = 1 /\ x = p.2) (h : ∀ y, 0 <= y -> y <= 1114111 -> xfe l i p k d y -> y ∈ es) :
 ∀ y, 0 <= y -> y <= 1114111 -> xfe l i p k (d + 1) y -> y ∈ es ++ [x + ((d : Int) - 1)] := by
 intro y h1 h2 h3
 rcases xfx hx y h3 with h3 | h3
 · exact List.mem_append_left _ (h y h1 h2 h3)
 exact List.mem_append_right _ (by simp [h3])
def MidE (l : LI) (w : World) (i : Nat) (p : Int × Int) (lb : Nat) (u kv : Value) (wk : World) : Prop :=
 ∃ (k : Nat) (es : List Int), kv = .int .i64 k /\ k <= 2 /\ OutE w wk u es (2 + 6 * i + 3 * k) (xim l i p k) /\ wk.heap[lb]? = some (.cells #[.int .i64 p.1, .int .i64 p.2] 3 (0, 0)) /\ ∀ g, u.ownBlock = some g -> g ≠ lb
def InE (l : LI) (w : World) (i k : Nat) (p : Int × Int) (lb : Nat) (u dv : Value) (wk : World) : Prop :=
 ∃ (d : Nat) (es : List Int), dv = .int .i64 ((d : Int) - 1) /\ d <= 3 /\ OutE w wk u es (2 + 6 * i + 3 * k + d) (xfe l i p k d) /\ wk.heap[lb]? = some (.cells #[.int .i64 p.1, .int .i64 p.2] 3 (0, 0)) /\ ∀ g, u.ownBlock = some g -> g ≠ lb
theorem xjy (l : LI) (v : Value) (w : World) (h : RSl w v l) (hlen : l.length <= 1000) :
 Calls prog 101 #[v] w fun e w' => ∃ u, ∃ es : List Int, e = .returned u /\ OutE w w' u es (2 + 6 * l.length) (Need l l.length) := by
 obtain ⟨a, cap, rfl, hl, hc⟩ := h.cells
 have Hc := xa hc
 clear hc h
 obtain ⟨i0, hi, hz0, hz1, hz2⟩ := info_parts xf9
 go_enter func101, ntmps101
 go_wp2_with fail
 go_loopw [3, 4] (fun u iv wr => ∃ (i : Nat) (es : List Int), iv = .int .i64 i /\ i <= l.length /\ OutE w wr u es (2 + 6 * i) (Need l i)) (fun _ iv _ => l.length - (intOf iv).toNat)
 case atStart =>
  refine ⟨0, [0, 1114111], rfl, Nat.zero_le _, ⟨rfl, ?_⟩, by simp, by simp, by simp, (xaa.refl _ _).alloc _, need0 l⟩
  exact Or.inr ⟨w.heap.size, 2, #[.int .i64 0, .int .i64 1114111], rfl, Nat.le_refl _, by show (w.heap.push _)[_]? = _; simp, by simp, by unfold maxLen; simp, by simp, rfl⟩
 case round =>
  obtain ⟨i, es, rfl, hil, hO⟩ := hrel
  by_cases hlt : i < l.length
  · obtain ⟨b, off, rfl, hcc⟩ := Hc.out (by omega)
    obtain ⟨p, hp⟩ : ∃ p, l[i]? = some p := ⟨_, List.getElem?_eq_getElem hlt⟩
    obtain ⟨c0, c1, ⟨ip1, ip2⟩, ⟨ip3, ip4⟩⟩ := hcc i p hp
    have hnp := xlD hp
    clear hcc hp
    have d0 := hO.2.2.2.2.1.cell c0 id
    have d1 := hO.2.2.2.2.1.cell c1 id
    clear c0 c1
    go_wp2_with fail
    go_region
    all_goals go_wp2_with fail
    have hlb : (wr.drew.alloc (.cells #[.int .i64 p.1, .int .i64 p.2] 3)).heap[wr.heap.size]? = some (.cells #[.int .i64 p.1, .int .i64 p.2] 3 (0, 0)) := by
     show (wr.heap.push _)[_]? = _; simp
    have hbase : w.heap.size <= wr.heap.size := hO.2.2.2.2.1.size
    obtain ⟨o1, o2, o3, o4, o5, o6⟩ := hO
    have hO1 : OutE w (wr.drew.alloc (.cells #[.int .i64 p.1, .int .i64 p.2] 3)) u3 es (2 + 6 * i) (xim l i p 0) := ⟨xac o1 _, o2, o3, o4, (o5.drew).alloc _, fun y a b c => o6 y a b (xjY y c)⟩
    have hne : ∀ g, u3.ownBlock = some g -> g ≠ wr.heap.size := fun g hg => Nat.ne_of_lt (xaM o1 g hg)
    clear o1 o2 o3 o4 o5 o6 d0 d1
    have ew : (wr.alloc (.cells #[.int .i64 p.1, .int .i64 p.2] 3)).drew = wr.drew.alloc (.cells #[.int .i64 p.1, .int .i64 p.2] 3) := rfl
    rw [<- ew] at hO1 hlb
    clear ew
    generalize (wr.alloc (.cells #[.int .i64 p.1, .int .i64 p.2] 3)).drew = w1 at *
    generalize wr.heap.size = lb at *
    go_loopw [3, 6] (fun u kv wk => MidE l w i p lb u kv wk) (fun _ kv _ => 2 - (intOf kv).toNat)
    case atStart => exact ⟨0, es, rfl, by omega, hO1, hlb, hne⟩
    case round =>
     clear hO1 hlb hne
     obtain ⟨k, es, rfl, hk2, hO, hlb, hne⟩ := hrel
     by_cases hk : k < 2
     · have hkd : decide ((k : Int) < 2) = true := by simp; omega
       go_wp2_with fail
       go_loopw [3, 7] (fun u dv wk => InE l w i k p lb u dv wk) (fun _ dv _ => (2 - intOf dv).toNat)
       case atStart => exact ⟨0, es, rfl, by omega, ⟨hO.1, hO.2.1, hO.2.2.1, hO.2.2.2.1, hO.2.2.2.2.1, fun y a b c => hO.2.2.2.2.2 y a b (xjX y c)⟩, hlb, hne⟩
       case round =>
        clear hO hlb hne
        obtain ⟨d, es, rfl, hd3, hO, hlb, hne⟩ := hrel
        have Hne := xa hne
        clear hne
        by_cases hd : d < 3
        · obtain ⟨x, hx, hx0, hx1, hxk⟩ : ∃ x : Int, wr.cell? ⟨lb, k, none⟩ = some (.int .i64 x) /\ -9223372036854775808 <= x /\ x <= 9223372036854775807 /\ (k = 0 /\ x = p.1 \/ k = 1 /\ x = p.2) := by
           have : k = 0 \/ k = 1 := by omega
           rcases this with rfl | rfl
           · exact ⟨p.1, by rw [xaj hlb]; rfl, ip1, ip2, Or.inl ⟨rfl, rfl⟩⟩
           exact ⟨p.2, by rw [xaj hlb]; rfl, ip3, ip4, Or.inr ⟨rfl, rfl⟩⟩
          obtain ⟨o1, o2, o3, o4, o5, o6⟩ := hO
          have hsz := o5.size
          have Hxk := xa hxk
          have H6 := xa o6
          clear hxk o6
          by_cases x1 : x < -2
          · go_wp2
            go_roundw
            case rel => exact ⟨d + 1, es, by go_num, by omega, ⟨o1, by omega, o3, o4, o5, xdp Hxk.out H6.out (by omega)⟩, hlb, Hne.out⟩
            case measure => simp [intOf]; omega
          by_cases x2 : 1114113 < x
          · go_wp2
            go_roundw
            case rel => exact ⟨d + 1, es, by go_num, by omega, ⟨o1, by omega, o3, o4, o5, xdp Hxk.out H6.out (by omega)⟩, hlb, Hne.out⟩
            case measure => simp [intOf]; omega
          by_cases x3 : x + ((d : Int) - 1) < 0
          · go_wp2
            go_roundw
            case rel => exact ⟨d + 1, es, by go_num, by omega, ⟨o1, by omega, o3, o4, o5, xdp Hxk.out H6.out (by omega)⟩, hlb, Hne.out⟩
            case measure => simp [intOf]; omega
          by_cases x4 : 1114111 < x + ((d : Int) - 1)
          · go_wp2
            go_roundw
            case rel => exact ⟨d + 1, es, by go_num, by omega, ⟨o1, by omega, o3, o4, o5, xdp Hxk.out H6.out (by omega)⟩, hlb, Hne.out⟩
            case measure => simp [intOf]; omega
          go_wp2_with (at_builtin; refine wpList_append_own _ rfl (.tmp 53) (.tmp 57) 23 rfl w.heap.size 3 i0 _ 1 8 underlying23 hi hz0 hz1 hz2 rfl (by decide) _ _ _ rfl (xac o1 _) ⟨wr.heap.size, 0, none⟩ 1 1 [.int .i64 (x + ((d : Int) - 1))] rfl rfl (by exact xaq _ [_] _) (by intro u hu; simp at hu; subst hu; rfl) ?c3 ?c4 ?c5 ?_)
          case c3 => unfold maxLen; omega
          case c4 => omega
          case c5 => first | omega | (simp; omega)
          intro v' w2 hown' hgrow _
          have hown2 : w2.ownsRow w.heap.size 3 1 v' (es ++ [x + ((d : Int) - 1)]).length ((es ++ [x + ((d : Int) - 1)]).map (Value.int .i64)) := by simpa using hown'
          have hlb2 : w2.heap[lb]? = some (.cells #[.int .i64 p.1, .int .i64 p.2] 3 (0, 0)) := by
           rw [hgrow.block lb (by simp; exact Nat.lt_succ_of_lt (Array.getElem?_eq_some_iff.1 hlb).1) (fun e => Hne.out lb e.symm rfl), Below.heap_alloc _ _ _ (Array.getElem?_eq_some_iff.1 hlb).1]
           exact hlb
          have Hne2 := xa (own_ne hown2 (by simp; omega) hlb2 rfl)
          have hk2 : KF w w2 := (o5.alloc _).grown hgrow (fun b hb => Or.inr (xab o1 b hb))
          have hO2 : OutE w w2 v' (es ++ [x + ((d : Int) - 1)]) (2 + 6 * i + 3 * k + (d + 1)) (xfe l i p k (d + 1)) := ⟨hown2, by simp; omega, by simp; omega, fun y hy => by
           rcases List.mem_append.1 hy with hy | hy
           · exact o4 y hy
           simp at hy; omega, hk2, xnk Hxk.out H6.out⟩
          clear hown2 hown' hgrow hk2 o1 o2 o3 o4 o5
          go_wp2
          go_roundw
          case rel => first | exact ⟨d + 1, _, by go_num, by omega, hO2, hlb2, Hne2.out⟩ | ((repeat apply Exists.intro); exact ⟨⟨d + 1, _, by go_num, by omega, hO2, hlb2, Hne2.out⟩, rfl⟩)
          case measure => simp [intOf]; omega
        obtain rfl : d = 3 := by omega
        go_wp2
        go_roundw
        case rel => exact ⟨k + 1, es, by go_num, by omega, ⟨hO.1, by have := hO.2.1; omega, hO.2.2.1, hO.2.2.2.1, hO.2.2.2.2.1, fun y a b c => hO.2.2.2.2.2 y a b (xjZ hk y c)⟩, hlb, Hne.out⟩
        case measure => simp [intOf]; omega
     obtain rfl : k = 2 := by omega
     go_wp2
     go_roundw
     case rel => exact ⟨i + 1, es, by go_num, by omega, ⟨hO.1, by have := hO.2.1; omega, hO.2.2.1, hO.2.2.2.1, hO.2.2.2.2.1, fun y a b c => hO.2.2.2.2.2 y a b (hnp y c)⟩⟩
     case measure => simp [intOf]; omega
  go_wp2
  go_ret
  obtain rfl : l.length = i := by omega
  exact ⟨_, es, rfl, hO⟩
def qOf (rs : LI) (nt : Bool) (r : Int) : Bool := has rs r != nt
def Srt : List Int -> Prop
 | [] => True
 | a :: l => (∀ b ∈ l, a < b) /\ Srt l
theorem Srt.append {a b : List Int} : Srt (a ++ b) ↔ Srt a /\ Srt b /\ ∀ x ∈ a, ∀ y ∈ b, x < y := by
 induction a with
 | nil => simp [Srt]
 | cons x a ih =>
  simp only [List.cons_append, Srt, ih, List.mem_append, List.mem_cons]
  constructor
  · rintro ⟨h1, h2, h3, h4⟩
    refine ⟨⟨fun b hb => h1 b (Or.inl hb), h2⟩, h3, ?_⟩
    rintro y (rfl | hy) z hz
    · exact h1 z (Or.inr hz)
    exact h4 y hy z hz
  rintro ⟨⟨h1, h2⟩, h3, h4⟩
  refine ⟨?_, h2, h3, fun y hy z hz => h4 y (Or.inr hy) z hz⟩
  rintro y (hy | hy)
  · exact h1 y hy
  exact h4 x (Or.inl rfl) y hy
theorem xlV {rs : LI} {a b : Int} (ha : 0 <= a) (hb : b <= 1114111) (hab : a + 1 < b)
 (hn : ∀ y, 0 <= y -> y <= 1114111 -> Need rs rs.length y -> y <= a \/ b <= y) : ∀ r, a <= r -> r <= b -> has rs r = has rs a := by
 intro r h1 h2
 unfold has
 have i1 : xaZ r = true := by simp [xaZ]; omega
 have i2 : xaZ a = true := by simp [xaZ]; omega
 rw [i1, i2, Bool.and_true, Bool.and_true]
 unfold mem
 rw [Bool.eq_iff_iff, List.any_eq_true, List.any_eq_true]
 have key : ∀ p ∈ rs, (p.1 <= r /\ r <= p.2) ↔ (p.1 <= a /\ a <= p.2) := by
  intro p hp
  obtain ⟨j, hj, hjp⟩ := List.getElem_of_mem hp
  have hjp' : rs[j]? = some p := by rw [List.getElem?_eq_getElem hj, hjp]
  have n1 : ∀ y, 0 <= y -> y <= 1114111 -> (near y p.1 \/ near y p.2) -> y <= a \/ b <= y := fun y h1 h2 h3 => hn y h1 h2 (Or.inr (Or.inr ⟨j, p, hj, hjp', h3⟩))
  have f1 : ¬ (a < p.1 /\ p.1 <= b) := by
   rintro ⟨g1, g2⟩
   have e1 := n1 p.1 (by omega) (by omega) (Or.inl (by unfold near; omega))
   have e2 := n1 (p.1 - 1) (by omega) (by omega) (Or.inl (by unfold near; omega))
   omega
  have f2 : ¬ (a <= p.2 /\ p.2 < b) := by
   rintro ⟨g1, g2⟩
   have e1 := n1 p.2 (by omega) (by omega) (Or.inr (by unfold near; omega))
   have e2 := n1 (p.2 + 1) (by omega) (by omega) (Or.inr (by unfold near; omega))
   omega
  omega
 constructor
 · rintro ⟨p, hp, h⟩
   exact ⟨p, hp, by have := (key p hp).1 (by simpa using h); simpa using this⟩
 rintro ⟨p, hp, h⟩
 exact ⟨p, hp, by have := (key p hp).2 (by simpa using h); simpa using this⟩
structure Scn (rs : LI) (nt : Bool) (b : Int) (out : LI) : Prop where
 norm : Norm out
 mem : ∀ r, mem out r = (qOf rs nt r && xaZ r && decide (r <= b))
theorem Scn.all {rs : LI} {nt : Bool} {out : LI} (h : Scn rs nt 1114111 out) : out = if nt = true then notL rs else ofL rs := by
 have hm : ∀ r, Go.Proofs.YtapmdhejgnplaaaGreat.mem out r = (qOf rs nt r && xaZ r) := by
  intro r
  rw [h.mem]
  cases hi : xaZ r
  · simp
  simp [xaZ] at hi; simp [hi.2]
 cases nt
 · rw [if_neg (by decide)]
   symm
   apply xfw
   refine ⟨h.norm, fun r => ?_⟩
   rw [hm]
   unfold qOf has
   cases Go.Proofs.YtapmdhejgnplaaaGreat.mem rs r <;> cases xaZ r <;> rfl
 rw [if_pos rfl]
 symm
 apply xeK
 refine ⟨h.norm, fun r => ?_⟩
 rw [hm]
 unfold qOf has
 cases Go.Proofs.YtapmdhejgnplaaaGreat.mem rs r <;> cases xaZ r <;> rfl
theorem xkP (rs : LI) (nt : Bool) : Scn rs nt (-1) [] := by
 refine ⟨trivial, fun r => ?_⟩
 rw [xdO]
 symm
 by_cases h : r <= -1
 · rw [show xaZ r = false by simp [xaZ]; omega]; simp
 rw [show decide (r <= -1) = false by simpa using h]; simp
structure Nb (rs : LI) (nt : Bool) (a b : Int) : Prop where
 lo : -1 <= a
 one : a = -1 -> b = 0
 lt : a < b
 hi : b <= 1114111
 same : a + 1 < b -> ∀ r, a <= r -> r <= b -> qOf rs nt r = qOf rs nt a
theorem Nb.of {rs : LI} {nt : Bool} {a b : Int} (ha : 0 <= a) (hab : a < b) (hb : b <= 1114111)
 (hn : ∀ y, 0 <= y -> y <= 1114111 -> Need rs rs.length y -> y <= a \/ b <= y) : Nb rs nt a b :=
 ⟨by omega, fun h => by omega, hab, hb, fun h r h1 h2 => by unfold qOf; rw [xlV ha hb h hn r h1 h2]⟩
theorem Nb.first (rs : LI) (nt : Bool) : Nb rs nt (-1) 0 := ⟨by omega, fun _ => rfl, by omega, by omega, fun h => by omega⟩
theorem xmO {rs : LI} {nt : Bool} {a b : Int} {out : LI} (h : Scn rs nt a out) (n : Nb rs nt a b) (hq : qOf rs nt b = false) : Scn rs nt b out := by
 refine ⟨h.norm, fun r => ?_⟩
 rw [h.mem]
 have h1 := n.lo
 have h2 := n.lt
 by_cases hr : a < r /\ r <= b
 · have : qOf rs nt r = false := by
    by_cases hb : a + 1 < b
    · rw [n.same hb r (by omega) hr.2, <- n.same hb b (by omega) (by omega), hq]
    obtain rfl : r = b := by omega
    exact hq
   rw [this]; rfl
 congr 1
 by_cases h3 : r <= a
 · rw [show decide (r <= a) = true by simpa using h3, show decide (r <= b) = true by simp; omega]
 rw [show decide (r <= a) = false by simpa using h3, show decide (r <= b) = false by simp; omega]
theorem xkQ {rs : LI} {nt : Bool} {a b : Int} {out : LI} (h : Scn rs nt a out) (n : Nb rs nt a b) (hq : qOf rs nt b = true) (hp : a = -1 \/ qOf rs nt a = false) : Scn rs nt b (out ++ [(b, b)]) := by
 have h1 := n.lo
 have h2 := n.lt
 have h3 := n.hi
 have hab : b = a + 1 := by
  by_cases hb : a + 1 < b
  · have e := n.same hb b (by omega) (by omega)
    rcases hp with rfl | hp
    · have := n.one rfl; omega
    rw [hp, hq] at e; cases e
  omega
 subst hab
 have hlow : ∀ p ∈ out, p.2 + 2 <= a + 1 := by
  intro p hp2
  have e1 := h.norm.rng p hp2
  have e2 : mem out p.2 = true := (mem_iff _ _).2 ⟨p, hp2, e1.2.1, by omega⟩
  rw [h.mem] at e2
  simp only [Bool.and_eq_true, decide_eq_true_eq] at e2
  by_cases h4 : p.2 = a
  · rcases hp with rfl | hp
    · omega
    rw [h4, hp] at e2; simp at e2
  omega
 refine ⟨xbs _ _ h.norm (by omega) (by simp) (by omega) hlow, fun r => ?_⟩
 rw [mem_append, xbt, h.mem]
 by_cases hr : r = a + 1
 · subst hr
   rw [hq, show xaZ (a + 1) = true by simp [xaZ]; omega]
   simp
 have e3 : (decide (a + 1 <= r) && decide (r <= a + 1)) = false := by simp; omega
 have e4 : decide (r <= a) = decide (r <= a + 1) := by
  rw [decide_eq_decide]; omega
 simp only [e3, Bool.or_false, e4]
theorem xiv {rs : LI} {nt : Bool} {a : Int} {out : LI} (h : Scn rs nt a out) (h0 : 0 <= a) (h1 : a <= 1114111) (hq : qOf rs nt a = true) : ∃ o lo, out = o ++ [(lo, a)] := by
 have e1 : mem out a = true := by rw [h.mem, hq, show xaZ a = true by simp [xaZ]; omega]; simp
 rcases List.eq_nil_or_concat out with rfl | ⟨o, p, rfl⟩
 · rw [xdO] at e1; cases e1
 rw [List.concat_eq_append] at *
 refine ⟨o, p.1, ?_⟩
 obtain ⟨_, n1, n2, n3, n4⟩ := xdo _ _ h.norm
 have e2 : mem (o ++ [p]) p.2 = true := (mem_iff _ _).2 ⟨p, by simp, n2, by omega⟩
 rw [h.mem] at e2
 simp only [Bool.and_eq_true, decide_eq_true_eq] at e2
 have e3 : p.2 = a := by
  obtain ⟨q, hq, g1, g2⟩ := (mem_iff _ _).1 e1
  rcases List.mem_append.1 hq with hq | hq
  · have := n4 q hq; omega
  simp at hq; subst hq; omega
 rw [<- e3]
theorem scn_ext {rs : LI} {nt : Bool} {a b lo : Int} {o : LI} (h : Scn rs nt a (o ++ [(lo, a)])) (n : Nb rs nt a b) (h0 : 0 <= a) (hqa : qOf rs nt a = true) (hqb : qOf rs nt b = true) : Scn rs nt b (o ++ [(lo, b)]) := by
 have h2 := n.lt
 have h3 := n.hi
 obtain ⟨m1, m2, m3, m4, m5⟩ := xdo _ _ h.norm
 dsimp only at m2 m3 m4 m5
 refine ⟨xbs _ _ m1 m2 (by dsimp only; omega) (by dsimp only; omega) m5, fun r => ?_⟩
 have e := h.mem r
 rw [mem_append, xbt] at e ⊢
 dsimp only at e ⊢
 by_cases hr : r <= a
 · have e1 : decide (r <= a) = true := by simpa using hr
   have e2 : decide (r <= b) = true := by simp; omega
   rw [e1] at e
   rw [e2, <- e]
 have e1 : decide (r <= a) = false := by simpa using hr
 rw [e1] at e
 simp only [Bool.and_false, Bool.or_false] at e
 rw [e]
 by_cases hb : r <= b
 · have q1 : qOf rs nt r = true := by
    by_cases hab : a + 1 < b
    · rw [n.same hab r (by omega) hb, hqa]
    obtain rfl : r = b := by omega
    exact hqb
   rw [q1, show xaZ r = true by simp [xaZ]; omega, show decide (lo <= r) = true by simp; omega]
   rfl
 rw [show decide (r <= b) = false by simpa using hb]; simp
def Ends (rs : LI) (l : List Int) : Prop := Srt l /\ (∀ x ∈ l, 0 <= x /\ x <= 1114111) /\ ∀ y, 0 <= y -> y <= 1114111 -> Need rs rs.length y -> y ∈ l
theorem xkf {rs : LI} {l : List Int} {a : Int} (h : Ends rs l) (ha : l[0]? = some a) : a = 0 := by
 cases l with
 | nil => simp at ha
 | cons x l =>
  simp at ha
  subst ha
  have h0 := h.2.2 0 (by omega) (by omega) (Or.inl rfl)
  rcases List.mem_cons.1 h0 with h0 | h0
  · exact h0.symm
  have := h.1.1 0 h0; have := (h.2.1 x List.mem_cons_self).1; omega
theorem ends_nb {rs : LI} {nt : Bool} {l : List Int} {i : Nat} {a b : Int} (h : Ends rs l) (ha : l[i]? = some a) (hb : l[i + 1]? = some b) : Nb rs nt a b := by
 have hi : i + 1 < l.length := (List.getElem?_eq_some_iff.1 hb).1
 have hs : l = l.take (i + 1) ++ l.drop (i + 1) := (List.take_append_drop _ _).symm
 have hl := h.1
 rw [hs] at hl
 obtain ⟨s1, s2, s3⟩ := Srt.append.1 hl
 have ht : l.take (i + 1) = l.take i ++ [a] := by rw [List.take_add_one, ha]; rfl
 have hd : l.drop (i + 1) = b :: l.drop (i + 1 + 1) := by
  rw [List.drop_eq_getElem_cons hi]
  rw [List.getElem?_eq_getElem hi] at hb
  rw [Option.some.inj hb]
 rw [ht] at s1 s3
 rw [hd] at s2 s3
 refine Nb.of (h.2.1 a (List.mem_of_getElem? ha)).1 (s3 a (by simp) b (by simp)) (h.2.1 b (List.mem_of_getElem? hb)).2 (fun y h1 h2 h3 => ?_)
 have hy := h.2.2 y h1 h2 h3
 rw [hs, ht, hd] at hy
 rcases List.mem_append.1 hy with hy | hy
 · rcases List.mem_append.1 hy with hy | hy
   · have := (Srt.append.1 s1).2.2 y hy a (by simp); omega
   simp at hy; omega
 rcases List.mem_cons.1 hy with rfl | hy
 · omega
 have := s2.1 y hy; omega
theorem xl1 {rs : LI} {l : List Int} {a : Int} (h : Ends rs l) (ha : l[l.length - 1]? = some a) : a = 1114111 := by
 have h0 := h.2.2 1114111 (by omega) (by omega) (Or.inr (Or.inl rfl))
 have hb := (h.2.1 a (List.mem_of_getElem? ha)).2
 rcases List.eq_nil_or_concat l with rfl | ⟨o, p, rfl⟩
 · simp at ha
 rw [List.concat_eq_append] at *
 simp at ha
 subst ha
 rcases List.mem_append.1 h0 with h0 | h0
 · have := (Srt.append.1 h.1).2.2 _ h0 p (by simp); omega
 simp at h0; exact h0.symm
theorem xfS {l : List Int} {k : Nat} {x : Int} (h : Srt l) (h1 : ∀ y ∈ l.take k, y < x) (h2 : ∀ y, l[k]? = some y -> x < y) : Srt (l.take k ++ [x] ++ l.drop k) := by
 have hl := h
 rw [<- List.take_append_drop k l] at hl
 obtain ⟨s1, s2, s3⟩ := Srt.append.1 hl
 have h3 : ∀ y ∈ l.drop k, x < y := by
  intro y hy
  by_cases hk : k < l.length
  · rw [List.drop_eq_getElem_cons hk] at hy s2
    have := h2 l[k] (List.getElem?_eq_getElem hk)
    rcases List.mem_cons.1 hy with rfl | hy
    · exact this
    have := s2.1 y hy; omega
  rw [List.drop_eq_nil_of_le (by omega)] at hy; cases hy
 refine Srt.append.2 ⟨Srt.append.2 ⟨s1, ⟨by simp, trivial⟩, by simpa using h1⟩, s2, ?_⟩
 intro y hy z hz
 rcases List.mem_append.1 hy with hy | hy
 · exact s3 y hy z hz
 simp at hy; subst hy; exact h3 z hz
theorem mem_put {l : List Int} {k : Nat} {x y : Int} : y ∈ l.take k ++ [x] ++ l.drop k ↔ y ∈ l \/ y = x := by
 have : y ∈ l ↔ y ∈ l.take k \/ y ∈ l.drop k := by
  conv => lhs; rw [<- List.take_append_drop k l]
  exact List.mem_append
 rw [this]
 simp only [List.mem_append, List.mem_singleton]
 constructor
 · rintro ((h | h) | h)
   · exact Or.inl (Or.inl h)
   · exact Or.inr h
   exact Or.inl (Or.inr h)
 rintro ((h | h) | h)
 · exact Or.inl (Or.inl h)
 · exact Or.inr h
 exact Or.inl (Or.inr h)
def ISl (w : World) (v : Value) (l : List Int) : Prop := SlOf 1 encI w v l /\ ∀ r ∈ l, 0 <= r /\ r <= 1114111
theorem ISl.keep {w w' : World} {v : Value} {l : List Int} (h : ISl w v l) (K : KF w w') : ISl w' v l := ⟨h.1.keep K, h.2⟩
theorem ISl.cells {w : World} {v : Value} {l : List Int} (h : ISl w v l) : ∃ a cap, v = .slice a l.length cap /\ l.length <= cap /\ (0 < l.length -> ∃ b off, a = some ⟨b, off, none⟩ /\ ∀ i r, l[i]? = some r -> w.cell? ⟨b, off + i, none⟩ = some (.int .i64 r) /\ 0 <= r /\ r <= 1114111) := by
 obtain ⟨⟨a, cap, rfl, ⟨h1, _⟩, h2, h3⟩, h4⟩ := h
 refine ⟨a, cap, rfl, h1, fun h0 => ?_⟩
 obtain ⟨b, off, rfl, hc⟩ := h3 h0
 exact ⟨b, off, rfl, fun i r hr => ⟨by simpa [encI] using hc i r hr 0 (by omega), h4 r (List.mem_of_getElem? hr)⟩⟩
def RNumR (l : List Int) (w : World) (nv kv : Value) (wr : World) : Prop :=
 w = wr /\ ((nv = .int .i64 0 /\ kv = .int .i64 0) \/ (∃ a t, l = a :: t /\ dig a = true /\ nv = .int .i64 (a - 48) /\ kv = .int .i64 1) \/ (∃ a b t, l = a :: b :: t /\ dig a = true /\ dig b = true /\ nv = .int .i64 ((a - 48) * 10 + b - 48) /\ kv = .int .i64 2))
theorem xiR {a b : Int} {t : List Int} (h : dig a = true) : num0 (a :: b :: t) = if dig b then ((a - 48) * 10 + b - 48, 2) else (a - 48, 1) := by rw [xaY, if_pos h]
theorem xcg (a : Int) : dig a = true ↔ 48 <= a /\ a <= 57 := by unfold dig; simp
theorem xeu (l : List Int) (v : Value) (w : World) (h : ISl w v l) : Calls prog 84 #[v] w fun e w' => e = .returned (.tuple #[.int .i64 (numP l).1, .int .i64 (numP l).2]) /\ w = w' := by
 obtain ⟨a, cap, rfl, hcap, hc⟩ := h.cells
 clear h
 have HN : Hid (numP l = if 50 < (num0 l).1 then (0, 0) else num0 l) := xa rfl
 generalize numP l = q at *
 go_enter func84, ntmps84
 go_wp2_with fail
 go_loopw [4, 5] (fun nv kv wr => RNumR l w nv kv wr) (fun _ kv _ => 3 - (intOf kv).toNat)
 case atStart => exact ⟨rfl, Or.inl ⟨rfl, rfl⟩⟩
 case round =>
  obtain ⟨rfl, hrel⟩ := hrel
  rcases hrel with ⟨rfl, rfl⟩ | ⟨a0, t, rfl, hd, rfl, rfl⟩ | ⟨a0, b0, t, rfl, hd, he, rfl, rfl⟩
  · rcases l with _ | ⟨r0, l⟩
    · have E : Hid (q = (0, 0)) := xa HN.out
      clear HN hc
      go_wp2
      go_ret2
      exact ⟨by rw [E.out]; rfl, rfl⟩
    obtain ⟨b, off, rfl, hcc⟩ := hc (by simp)
    obtain ⟨c0, c1, c2⟩ := hcc 0 r0 rfl
    simp only [Nat.add_zero] at c0
    simp only [List.length_cons] at *
    have g0 : decide ((0 : Int) < ((l.length + 1 : Nat) : Int)) = true := by simp <;> omega
    cases hd : dig r0
    · have E : Hid (q = (0, 0)) := xa (by rw [HN.out, xaY, hd]; rfl)
      have hd' : ¬ (48 <= r0 /\ r0 <= 57) := fun h => by rw [(xcg r0).2 h] at hd; cases hd
      clear HN hc hcc hd
      by_cases h1 : 48 <= r0
      · have g1 : decide (48 <= r0) = true := by simpa using h1
        have g2 : decide (r0 <= 57) = false := by simp; omega
        go_wp2
        go_ret2
        exact ⟨by rw [E.out]; rfl, rfl⟩
      have g1 : decide (48 <= r0) = false := by simpa using h1
      go_wp2
      go_ret2
      exact ⟨by rw [E.out]; rfl, rfl⟩
    obtain ⟨h1, h2⟩ := (xcg r0).1 hd
    have g1 : decide (48 <= r0) = true := by simpa using h1
    have g2 : decide (r0 <= 57) = true := by simpa using h2
    clear hc hcc
    go_wp2
    go_roundw
    case rel => exact ⟨by trivial, Or.inr (Or.inl ⟨r0, l, rfl, hd, by go_num, rfl⟩)⟩
    case measure => simp [intOf]
  · obtain ⟨h1, h2⟩ := (xcg a0).1 hd
    rcases t with _ | ⟨r1, t⟩
    · have E : Hid (q = (a0 - 48, 1)) := xa (by rw [HN.out, xaY, hd]; show (if 50 < a0 - 48 then _ else _) = _; rw [if_neg (by omega)]; rfl)
      have g5 : decide (50 < a0 - 48) = false := by simp; omega
      clear HN hc
      go_wp2
      go_ret2
      exact ⟨by rw [E.out]; rfl, rfl⟩
    obtain ⟨b, off, rfl, hcc⟩ := hc (by simp)
    obtain ⟨c0, c1, c2⟩ := hcc 1 r1 rfl
    simp only [List.length_cons] at *
    have g0 : decide ((1 : Int) < ((t.length + 1 + 1 : Nat) : Int)) = true := by simp <;> omega
    cases he : dig r1
    · have E : Hid (q = (a0 - 48, 1)) := xa (by rw [HN.out, xiR hd, he]; show (if 50 < a0 - 48 then _ else _) = _; rw [if_neg (by omega)]; rfl)
      have g5 : decide (50 < a0 - 48) = false := by simp; omega
      have hd' : ¬ (48 <= r1 /\ r1 <= 57) := fun h => by rw [(xcg r1).2 h] at he; cases he
      clear HN hc hcc he
      by_cases h3 : 48 <= r1
      · have g1 : decide (48 <= r1) = true := by simpa using h3
        have g2 : decide (r1 <= 57) = false := by simp; omega
        go_wp2
        go_ret2
        exact ⟨by rw [E.out]; rfl, rfl⟩
      have g1 : decide (48 <= r1) = false := by simpa using h3
      go_wp2
      go_ret2
      exact ⟨by rw [E.out]; rfl, rfl⟩
    obtain ⟨h3, h4⟩ := (xcg r1).1 he
    have g1 : decide (48 <= r1) = true := by simpa using h3
    have g2 : decide (r1 <= 57) = true := by simpa using h4
    clear hc hcc
    go_wp2
    go_roundw
    case rel => exact ⟨by trivial, Or.inr (Or.inr ⟨a0, r1, t, rfl, hd, he, by go_num, rfl⟩)⟩
    case measure => simp [intOf]
  obtain ⟨h1, h2⟩ := (xcg a0).1 hd
  obtain ⟨h3, h4⟩ := (xcg b0).1 he
  have HN2 : Hid (q = if 50 < (a0 - 48) * 10 + b0 - 48 then (0, 0) else ((a0 - 48) * 10 + b0 - 48, 2)) := xa (by rw [HN.out, xiR hd, he]; rfl)
  clear HN hc
  generalize (a0 - 48) * 10 + b0 - 48 = n at *
  by_cases h5 : 50 < n
  · have g5 : decide (50 < n) = true := by simpa using h5
    have E : Hid (q = (0, 0)) := xa (by rw [HN2.out, if_pos h5])
    clear HN2
    go_wp2
    go_ret2
    exact ⟨by rw [E.out]; rfl, rfl⟩
  have g5 : decide (50 < n) = false := by simpa using h5
  have E : Hid (q = (n, 2)) := xa (by rw [HN2.out, if_neg h5])
  clear HN2
  go_wp2
  go_ret2
  exact ⟨by rw [E.out]; rfl, rfl⟩
theorem ISl.dropI {w : World} {b off n cap : Nat} {l : List Int} (h : ISl w (.slice (some ⟨b, off, none⟩) n cap) l) (i : Nat) (hi : i <= n) (hc : ¬ cap = i) :
 ISl w (.slice (some ⟨b, off + i, none⟩) (n - i) (cap - i)) (l.drop i) := by
 obtain ⟨⟨a, c, e, ⟨hl, hn⟩, hl2, hcc⟩, h4⟩ := h
 injection e with e1 e2 e3
 subst e1 e2 e3
 refine ⟨⟨_, _, by rw [List.length_drop], ⟨by rw [List.length_drop]; omega, (fun h => by cases h)⟩, by rw [List.length_drop]; omega, fun h0 => ⟨b, off + i, rfl, fun j x hx q hq => ?_⟩⟩, fun r hr => h4 r (List.mem_of_mem_drop hr)⟩
 rw [List.length_drop] at h0
 obtain ⟨b', off', e', hx'⟩ := hcc (by omega)
 injection e' with e'
 injection e' with e1 e2 _
 subst e1 e2
 rw [List.getElem?_drop] at hx
 have := hx' (i + j) x hx q hq
 rw [<- this]
 congr 2
 omega
def tokV (k r : Int) (sv : Value) (m x : Int) : Value := .agg #[.int .i64 k, .int .i64 r, sv, .int .i64 m, .int .i64 x]
def brV : Option (Int × Int × Nat) -> Value
 | none => .tuple #[tokV 0 0 (.slice none 0 0) 0 0, .int .i64 0]
 | some (m, x, k) => .tuple #[tokV 2 0 (.slice none 0 0) m x, .int .i64 k]
theorem xiO (l : List Int) : (numP l).2 <= 2 := by
 unfold numP
 by_cases h : 50 < (num0 l).1
 · rw [if_pos h]; decide
 rw [if_neg h]
 rcases l with _ | ⟨a, _ | ⟨b, t⟩⟩
 · decide
 · rw [xaY]; split <;> simp
 rw [xaY]; split
 · simp only; split <;> simp
 simp
theorem xey (l : List Int) (v : Value) (w : World) (hlen : l.length <= 1000000) (h : ISl w v l) : Calls prog 65 #[v] w fun e w' => e = .returned (brV (brP l)) /\ KF w w' := by
 have HN := xa (fun W (hW : ISl W v l) => xeu l v W hW)
 have HI := xa h
 obtain ⟨a, cap, rfl, hcap, hc⟩ := h.cells
 have HB : Hid (brP l = _) := xa (by unfold brP; rfl)
 obtain ⟨n, k, hq⟩ : ∃ n k, numP l = (n, k) := ⟨_, _, rfl⟩
 have hk2 : k <= 2 := by have := xiO l; rw [hq] at this; exact this
 rw [hq] at HN HB
 dsimp only at HN HB
 generalize brP l = r at *
 by_cases h0 : k = 0
 · subst h0
   have E : Hid (r = none) := xa HB.out
   clear hc h HB hq
   go_enter func65, ntmps65
   go_wp2_with fail
   refine (HN.out _ (HI.out.keep ((xaa.refl _ _).alloc _))).mono ?_
   rintro e w3 ⟨rfl, rfl⟩
   go_wp2_with fail
   refine bodyPost_ret (by simp [results, results65, go_sem]; try rfl) rfl ?_
   exact ⟨by rw [E.out]; rfl, (xaa.refl _ _).alloc _⟩
 have g0 : ((k : Int) == 0) = false := beq_eq_false_iff_ne.2 (by omega)
 rw [if_neg h0] at HB
 by_cases h1 : l.length <= k
 · have g1 : decide ((l.length : Int) <= (k : Int)) = true := by simpa using h1
   have E : Hid (r = none) := xa (by rw [HB.out, List.drop_eq_nil_of_le h1])
   clear hc h HB hq
   go_enter func65, ntmps65
   go_wp2_with fail
   refine (HN.out _ (HI.out.keep ((xaa.refl _ _).alloc _))).mono ?_
   rintro e w3 ⟨rfl, rfl⟩
   go_wp2_with fail
   refine bodyPost_ret (by simp [results, results65, go_sem]; try rfl) rfl ?_
   exact ⟨by rw [E.out]; rfl, (xaa.refl _ _).alloc _⟩
 have g1 : decide ((l.length : Int) <= (k : Int)) = false := by simpa using h1
 obtain ⟨b, off, rfl, hcc⟩ := hc (by omega)
 obtain ⟨c, hcx⟩ : ∃ c, l[k]? = some c := ⟨_, List.getElem?_eq_getElem (by omega)⟩
 have x0 := xaf (hcc k c hcx).1 (.cells #[.int .i64 0, .int .i64 0, .slice none 0 0, .int .i64 0, .int .i64 0] 152)
 have hd : l.drop k = c :: l.drop (k + 1) := by
  rw [List.drop_eq_getElem_cons (by omega)]
  rw [List.getElem?_eq_getElem (by omega)] at hcx
  rw [Option.some.inj hcx]
 rw [hd] at HB
 dsimp only at HB
 by_cases h2 : c = 125
 · subst h2
   have E : Hid (r = some (n, n, k + 1)) := xa HB.out
   clear hc h HB hq hcc hd hcx
   go_enter func65, ntmps65
   go_wp2_with fail
   refine (HN.out _ (HI.out.keep ((xaa.refl _ _).alloc _))).mono ?_
   rintro e w3 ⟨rfl, rfl⟩
   go_wp2_with fail
   refine bodyPost_ret (by simp [results, results65, go_sem]; try rfl) rfl ?_
   exact ⟨by rw [E.out]; rfl, (xaa.refl _ _).alloc _⟩
 have g2 : (c == 125) = false := beq_eq_false_iff_ne.2 h2
 rw [if_neg h2] at HB
 by_cases h3 : ¬ c = 44
 · have g3 : (c == 44) = false := beq_eq_false_iff_ne.2 h3
   have E : Hid (r = none) := xa (by rw [HB.out, if_neg h3])
   clear hc h HB hq hcc hd hcx
   go_enter func65, ntmps65
   go_wp2_with fail
   refine (HN.out _ (HI.out.keep ((xaa.refl _ _).alloc _))).mono ?_
   rintro e w3 ⟨rfl, rfl⟩
   go_wp2_with fail
   refine bodyPost_ret (by simp [results, results65, go_sem]; try rfl) rfl ?_
   exact ⟨by rw [E.out]; rfl, (xaa.refl _ _).alloc _⟩
 have h3 : c = 44 := Decidable.of_not_not h3
 subst h3
 rw [if_pos rfl] at HB
 by_cases h4 : l.length <= k + 1
 · have g4 : decide ((l.length : Int) <= (k : Int) + 1) = true := by simp; omega
   have E : Hid (r = none) := xa (by rw [HB.out, List.drop_eq_nil_of_le h4])
   clear hc h HB hq hcc hd hcx
   go_enter func65, ntmps65
   go_wp2_with fail
   refine (HN.out _ (HI.out.keep ((xaa.refl _ _).alloc _))).mono ?_
   rintro e w3 ⟨rfl, rfl⟩
   go_wp2_with fail
   refine bodyPost_ret (by simp [results, results65, go_sem]; try rfl) rfl ?_
   exact ⟨by rw [E.out]; rfl, (xaa.refl _ _).alloc _⟩
 have g4 : decide ((l.length : Int) <= (k : Int) + 1) = false := by simp; omega
 obtain ⟨d, hdx⟩ : ∃ d, l[k + 1]? = some d := ⟨_, List.getElem?_eq_getElem (by omega)⟩
 have x1 := xaf (hcc (k + 1) d hdx).1 (.cells #[.int .i64 0, .int .i64 0, .slice none 0 0, .int .i64 0, .int .i64 0] 152)
 have hd1 : l.drop (k + 1) = d :: l.drop (k + 1 + 1) := by
  rw [List.drop_eq_getElem_cons (by omega)]
  rw [List.getElem?_eq_getElem (by omega)] at hdx
  rw [Option.some.inj hdx]
 have HB2 : Hid (r = if d = 125 then some (n, -1, k + 2)
  else if (numP (l.drop (k + 1))).2 = 0 \/ (numP (l.drop (k + 1))).1 < n then none
  else if ((l.drop (k + 1)).drop (numP (l.drop (k + 1))).2).head? = some 125 then some (n, (numP (l.drop (k + 1))).1, k + (numP (l.drop (k + 1))).2 + 2) else none) := xa (by rw [HB.out, hd1])
 clear HB hd hd1 hcx hdx
 by_cases h5 : d = 125
 · subst h5
   have E : Hid (r = some (n, -1, k + 2)) := xa HB2.out
   clear hc h hq hcc HB2
   go_enter func65, ntmps65
   go_wp2_with fail
   refine (HN.out _ (HI.out.keep ((xaa.refl _ _).alloc _))).mono ?_
   rintro e w3 ⟨rfl, rfl⟩
   go_wp2_with fail
   refine bodyPost_ret (by simp [results, results65, go_sem]; try rfl) rfl ?_
   exact ⟨by rw [E.out]; rfl, (xaa.refl _ _).alloc _⟩
 have g5 : (d == 125) = false := beq_eq_false_iff_ne.2 h5
 rw [if_neg h5] at HB2
 have hIS := h.dropI (k + 1) (by omega) (by omega)
 have HI2 := xa hIS
 have HM := xa (fun W hW => xeu (l.drop (k + 1)) (.slice (some ⟨b, off + (k + 1), none⟩) (l.length - (k + 1)) (cap - (k + 1))) W hW)
 obtain ⟨y, m, hp⟩ : ∃ y m, numP (l.drop (k + 1)) = (y, m) := ⟨_, _, rfl⟩
 have hm2 : m <= 2 := by have := xiO (l.drop (k + 1)); rw [hp] at this; exact this
 rw [hp] at HM HB2
 dsimp only at HM HB2
 have hI1 : (0 : Int) <= (k : Int) + 1 := by omega
 have hI2 : (k : Int) + 1 <= (l.length : Int) := by omega
 have hI3 : (k : Int) + 1 <= (cap : Int) := by omega
 by_cases h6 : m = 0
 · subst h6
   have E : Hid (r = none) := xa (by rw [HB2.out, if_pos (Or.inl rfl)])
   clear hc h hq hcc HB2
   go_enter func65, ntmps65
   go_wp2_with fail
   refine (HN.out _ (HI.out.keep ((xaa.refl _ _).alloc _))).mono ?_
   rintro e w3 ⟨rfl, rfl⟩
   go_wp2_with fail
   refine (HM.out _ (HI2.out.keep ((xaa.refl _ _).alloc _))).mono ?_
   rintro e w3 ⟨rfl, rfl⟩
   go_wp2_with fail
   refine bodyPost_ret (by simp [results, results65, go_sem]; try rfl) rfl ?_
   exact ⟨by rw [E.out]; rfl, (xaa.refl _ _).alloc _⟩
 have g6 : ((m : Int) == 0) = false := beq_eq_false_iff_ne.2 (by omega)
 by_cases h7 : y < n
 · have g7 : decide (y < n) = true := by simpa using h7
   have E : Hid (r = none) := xa (by rw [HB2.out, if_pos (Or.inr h7)])
   clear hc h hq hcc HB2
   go_enter func65, ntmps65
   go_wp2_with fail
   refine (HN.out _ (HI.out.keep ((xaa.refl _ _).alloc _))).mono ?_
   rintro e w3 ⟨rfl, rfl⟩
   go_wp2_with fail
   refine (HM.out _ (HI2.out.keep ((xaa.refl _ _).alloc _))).mono ?_
   rintro e w3 ⟨rfl, rfl⟩
   go_wp2_with fail
   refine bodyPost_ret (by simp [results, results65, go_sem]; try rfl) rfl ?_
   exact ⟨by rw [E.out]; rfl, (xaa.refl _ _).alloc _⟩
 have g7 : decide (y < n) = false := by simpa using h7
 rw [if_neg (by omega), List.drop_drop] at HB2
 by_cases h8 : l.length <= k + 1 + m
 · have g8 : decide ((l.length : Int) <= (k : Int) + 1 + (m : Int)) = true := by simp; omega
   have E : Hid (r = none) := xa (by rw [HB2.out, List.drop_eq_nil_of_le h8]; rfl)
   clear hc h hq hcc HB2
   go_enter func65, ntmps65
   go_wp2_with fail
   refine (HN.out _ (HI.out.keep ((xaa.refl _ _).alloc _))).mono ?_
   rintro e w3 ⟨rfl, rfl⟩
   go_wp2_with fail
   refine (HM.out _ (HI2.out.keep ((xaa.refl _ _).alloc _))).mono ?_
   rintro e w3 ⟨rfl, rfl⟩
   go_wp2_with fail
   refine bodyPost_ret (by simp [results, results65, go_sem]; try rfl) rfl ?_
   exact ⟨by rw [E.out]; rfl, (xaa.refl _ _).alloc _⟩
 have g8 : decide ((l.length : Int) <= (k : Int) + 1 + (m : Int)) = false := by simp; omega
 obtain ⟨f, hfx⟩ : ∃ f, l[k + 1 + m]? = some f := ⟨_, List.getElem?_eq_getElem (by omega)⟩
 have x2 := xaf (hcc (k + 1 + m) f hfx).1 (.cells #[.int .i64 0, .int .i64 0, .slice none 0 0, .int .i64 0, .int .i64 0] 152)
 rw [List.head?_drop, hfx] at HB2
 clear hfx hcc hc h
 by_cases h9 : f = 125
 · subst h9
   have E : Hid (r = some (n, y, k + m + 2)) := xa (by rw [HB2.out, if_pos rfl])
   clear hq HB2
   go_enter func65, ntmps65
   go_wp2_with fail
   refine (HN.out _ (HI.out.keep ((xaa.refl _ _).alloc _))).mono ?_
   rintro e w3 ⟨rfl, rfl⟩
   go_wp2_with fail
   refine (HM.out _ (HI2.out.keep ((xaa.refl _ _).alloc _))).mono ?_
   rintro e w3 ⟨rfl, rfl⟩
   go_wp2_with fail
   refine bodyPost_ret (by simp [results, results65, go_sem]; try rfl) rfl ?_
   exact ⟨by rw [E.out]; rfl, (xaa.refl _ _).alloc _⟩
 have g9 : (f == 125) = false := beq_eq_false_iff_ne.2 h9
 have E : Hid (r = none) := xa (by rw [HB2.out, if_neg (fun e => h9 (Option.some.inj e))])
 clear hq HB2
 go_enter func65, ntmps65
 go_wp2_with fail
 refine (HN.out _ (HI.out.keep ((xaa.refl _ _).alloc _))).mono ?_
 rintro e w3 ⟨rfl, rfl⟩
 go_wp2_with fail
 refine (HM.out _ (HI2.out.keep ((xaa.refl _ _).alloc _))).mono ?_
 rintro e w3 ⟨rfl, rfl⟩
 go_wp2_with fail
 refine bodyPost_ret (by simp [results, results65, go_sem]; try rfl) rfl ?_
 exact ⟨by rw [E.out]; rfl, (xaa.refl _ _).alloc _⟩
theorem xd6 (l : List Int) : cellsOf 1 encI l = l.map (Value.int .i64) := by
 induction l with
 | nil => rfl
 | cons x l ih => simp [cellsOf, List.range_succ, encI] at ih ⊢; exact ih
theorem xnM (l : List Int) : ∀ u ∈ cellsOf 1 encI l, u.oneCell' = true := by
 intro u hu
 rw [xd6, List.mem_map] at hu
 obtain ⟨x, _, rfl⟩ := hu
 rfl
theorem xaB {w : World} {ops : Array Oper} {rest : List Oper} {o : Oper} {a : Act} {Q : Exit -> Act -> World -> Prop} (hgd : o.guard = none) (s x : Operand)
 (ho : o.op = .call { callee := .builtin .append, args := #[s, x], argTypes := #[23, 23] })
 (base : Nat) (v : Value) (n : Nat) (xs : List Value) (hs : a.eval s = v) (hown : w.ownsRow base 3 1 v n xs)
 (xv : Value) (l : List Int) (hx : a.eval x = xv) (hr : SlOf 1 encI w xv l) (h63 : n + l.length <= 1000000) (hbase : base <= w.heap.size)
 (h : ∀ v' w', w'.ownsRow base 3 1 v' (n + l.length) (xs ++ cellsOf 1 encI l) -> w.grownBy w' v.ownBlock -> wpList prog ops Q rest (a.put o.dst v') w') : wpList prog ops Q (o :: rest) a w := by
 obtain ⟨i0, hi, hz0, hz1, hz2⟩ := info_parts xf9
 rcases hr.news (by omega) with ⟨rfl, rfl⟩ | ⟨ad, c, rfl, hnews⟩
 · refine wpList_append_own_none hgd s x 23 ho base 3 i0 1 underlying23 hi v n xs hs hown hx (hs ▸ h v w ?_ ?_)
   · simpa [cellsOf] using hown
   exact ⟨rfl, rfl, rfl, Nat.le_refl _, fun _ _ _ => rfl⟩
 exact wpList_append_own _ hgd s x 23 ho base 3 i0 _ 1 8 underlying23 hi hz0 hz1 hz2 rfl (by decide) v n xs hs hown ad _ c _ hx (xai _ _ _) hnews (xnM _) (by unfold maxLen; omega) (by omega) hbase
  (fun v' w' h1 h2 _ => h v' w' h1 h2)
theorem SlOf.takeI {w : World} {a : Option Addr} {n cap : Nat} {l : List Int} (h : SlOf 1 encI w (.slice a n cap) l) (k : Nat) (hk : k <= n) : SlOf 1 encI w (.slice a k cap) (l.take k) := by
 obtain ⟨a', c, e, ⟨hl, hn⟩, hl2, hcc⟩ := h
 injection e with e1 e2 e3
 subst e1 e2 e3
 refine ⟨_, _, by rw [List.length_take, Nat.min_eq_left hk], ⟨by rw [List.length_take]; omega, hn⟩, by rw [List.length_take]; omega, fun h0 => ?_⟩
 rw [List.length_take] at h0
 obtain ⟨b, off, e, hc⟩ := hcc (by omega)
 refine ⟨b, off, e, fun i x hx j hj => hc i x ?_ j hj⟩
 rw [List.getElem?_take] at hx
 split at hx
 · exact hx
 cases hx
theorem SlOf.dropI1 {w : World} {b off n cap : Nat} {l : List Int} (h : SlOf 1 encI w (.slice (some ⟨b, off, none⟩) n cap) l) (i : Nat) (hi : i <= n) (hc : ¬ cap = i) :
 SlOf 1 encI w (.slice (some ⟨b, off + i, none⟩) (n - i) (cap - i)) (l.drop i) := by
 obtain ⟨a, c, e, ⟨hl, hn⟩, hl2, hcc⟩ := h
 injection e with e1 e2 e3
 subst e1 e2 e3
 refine ⟨_, _, by rw [List.length_drop], ⟨by rw [List.length_drop]; omega, (fun h => by cases h)⟩, by rw [List.length_drop]; omega, fun h0 => ⟨b, off + i, rfl, fun j x hx q hq => ?_⟩⟩
 rw [List.length_drop] at h0
 obtain ⟨b', off', e', hx'⟩ := hcc (by omega)
 injection e' with e'
 injection e' with e1 e2 _
 subst e1 e2
 rw [List.getElem?_drop] at hx
 have := hx' (i + j) x hx q hq
 rw [<- this]
 congr 2
 omega
theorem xdl {w : World} {base base' : Nat} {e : TypeId} {size : Nat} {v : Value} {n : Nat} {xs : List Value} (h : w.ownsRow base e size v n xs) (hb : base' <= base) : w.ownsRow base' e size v n xs := by
 refine ⟨h.1, ?_⟩
 rcases h.2 with h | ⟨g, cap, cur, h1, h2, h3⟩
 · exact Or.inl h
 exact Or.inr ⟨g, cap, cur, h1, by omega, h3⟩
def MdR (w w1 : World) (es : List Int) (lv iv : Value) (wr : World) : Prop :=
 ∃ (i : Nat) (l : List Int), iv = .int .i64 i /\ i <= es.length /\ Srt l /\ (∀ y, y ∈ l ↔ y ∈ es.take i) /\ l.length <= i /\ wr.ownsRow w.heap.size 3 1 lv l.length (cellsOf 1 encI l) /\ KF w1 wr /\ (l = [] -> lv = .slice none 0 0)
structure MdW (w w1 wr : World) (es : List Int) (i : Nat) (l : List Int) : Prop where
 hi : i < es.length
 srt : Srt l
 mem : ∀ y, y ∈ l ↔ y ∈ es.take i
 len : l.length <= i
 base : w.heap.size <= wr.heap.size
 keep : KF w1 wr
def MdN (w w1 : World) (es : List Int) (i : Nat) (v : Value) (wr : World) : Prop :=
 ∃ l : List Int, i + 1 <= es.length /\ Srt l /\ (∀ y, y ∈ l ↔ y ∈ es.take (i + 1)) /\ l.length <= i + 1 /\ wr.ownsRow w.heap.size 3 1 v l.length (cellsOf 1 encI l) /\ KF w1 wr /\ (l = [] -> v = .slice none 0 0)
theorem xdt {w w1 wr wq w4 : World} {es l : List Int} {i k : Nat} {x : Int} {v : Value} (H : MdW w w1 wr es i l) (hq : KF wr wq) (h4 : KF wq w4) (hx : es[i]? = some x)
 (hp : Srt (l.take k ++ [x] ++ l.drop k) /\ k <= l.length) {m : Nat} (hm : m = l.length + 1) {xs : List Value} (hxs : xs = cellsOf 1 encI (l.take k ++ [x]) ++ cellsOf 1 encI (l.drop k)) (ho : w4.ownsRow wq.heap.size 3 1 v m xs) : MdN w w1 es i v w4 := by
 have hl : (l.take k ++ [x] ++ l.drop k).length = l.length + 1 := by simp; omega
 have hb := H.base
 have hb2 := hq.size
 refine ⟨l.take k ++ [x] ++ l.drop k, H.hi, hp.1, fun y => ?_, ?_, xdl (base := wq.heap.size) ?_ (by omega), (H.keep.trans hq).trans h4, fun e => by simp at e⟩
 · rw [mem_put, H.mem, List.take_add_one, hx]; simp
 · have := H.len; omega
 rw [hl, xah]
 rw [hm, hxs] at ho
 exact ho
theorem xds {w w1 wr : World} {es : List Int} {i : Nat} {v iv : Value} (H : MdN w w1 es i v wr) (h : iv = .int .i64 ((i + 1 : Nat) : Int)) : MdR w w1 es v iv wr := by
 obtain ⟨l, h1, h2, h3, h4, h5, h6, h7⟩ := H
 exact ⟨i + 1, l, h, h1, h2, h3, h4, h5, h6, h7⟩
theorem xlI {w w1 wr wq : World} {es l : List Int} {i : Nat} {x : Int} {v : Value} (H : MdW w w1 wr es i l) (hq : KF wr wq) (hx : es[i]? = some x) (hm : x ∈ l) (ho : wq.ownsRow w.heap.size 3 1 v l.length (cellsOf 1 encI l)) : MdN w w1 es i v wq := by
 refine ⟨l, H.hi, H.srt, fun y => ?_, by have := H.len; omega, ho, H.keep.trans hq, fun e => by rw [e] at hm; cases hm⟩
 rw [List.take_add_one, hx, H.mem]
 simp
 rintro rfl
 exact (H.mem y).1 hm
def xd7 (l : List Int) (i : Nat) : Int := if i = 0 then -1 else l.getD (i - 1) 0
def ScR (rs : LI) (nt : Bool) (l : List Int) (wS : World) (ov iv : Value) (wr : World) : Prop :=
 ∃ (i : Nat) (out : LI), iv = .int .i64 i /\ i <= l.length /\ Scn rs nt (xd7 l i) out /\ wr.ownsRow wS.heap.size 180 2 ov out.length (cellsOf 2 encR out) /\ KF wS wr /\ out.length <= i
theorem xb5 {l : List Int} {j : Nat} {b : Int} (h : l[j]? = some b) : xd7 l (j + 1) = b := by
 unfold xd7
 rw [if_neg (by omega), Nat.add_sub_cancel, List.getD_eq_getElem?_getD, h]; rfl
theorem nb_at {rs : LI} {nt : Bool} {l : List Int} {j : Nat} {b : Int} (h : Ends rs l) (hb : l[j]? = some b) : Nb rs nt (xd7 l j) b := by
 cases j with
 | zero => rw [xkf h hb]; exact Nb.first rs nt
 | succ j =>
  have hj : j < l.length := by have := (List.getElem?_eq_some_iff.1 hb).1; omega
  have ha : l[j]? = some l[j] := List.getElem?_eq_getElem hj
  rw [xb5 ha]
  exact ends_nb h ha hb
theorem scn_end {rs : LI} {nt : Bool} {l : List Int} {out : LI} (h : Ends rs l) (hs : Scn rs nt (xd7 l l.length) out) : out = if nt = true then notL rs else ofL rs := by
 have h0 : 0 < l.length := List.length_pos_of_mem (h.2.2 0 (by omega) (by omega) (Or.inl rfl))
 have ha : l[l.length - 1]? = some l[l.length - 1] := List.getElem?_eq_getElem (by omega)
 have e := xb5 ha
 rw [Nat.sub_add_cancel h0] at e
 rw [e, xl1 h ha] at hs
 exact hs.all
theorem scn_nil {rs : LI} {nt : Bool} {l : List Int} {j : Nat} (h : Ends rs l) (hj : j < l.length) (hs : Scn rs nt (xd7 l j) []) : xd7 l j = -1 \/ qOf rs nt (xd7 l j) = false := by
 cases j with
 | zero => exact Or.inl rfl
 | succ j =>
  have ha : l[j]? = some l[j] := List.getElem?_eq_getElem (by omega)
  rw [xb5 ha] at hs ⊢
  have hb := h.2.1 _ (List.mem_of_getElem? ha)
  cases hq : qOf rs nt l[j]
  · exact Or.inr rfl
  obtain ⟨o, lo, e⟩ := xiv hs hb.1 hb.2 hq
  cases o <;> cases e
def MkR (wr : World) (l : List Int) (x : Int) (lv kv : Value) (wk : World) : Prop :=
 ∃ k : Nat, kv = .int .i64 k /\ k <= l.length /\ (∀ y ∈ l.take k, y < x) /\ KF wr wk
theorem xk (rs : LI) (v : Value) (a b : Int) (nt : Bool) (w : World) (h : RSl w v rs) (ha : 0 <= a) (ha2 : a <= 1114111) (hj : b = a + 1 \/ qOf rs nt (a + 1) = true) :
 Calls prog 103 #[v, .int .i64 a, .int .i64 b, .bool nt] w fun e w' => e = .returned (.bool true) /\ w' = w := by
 have HH := xa (xfp rs v (a + 1) w h)
 clear h
 by_cases hb : b = a + 1
 · have g1 : (b == a + 1) = true := by simpa using hb
   clear HH hj
   go_enter func103, ntmps103
   go_wp2
   go_ret
   exact ⟨rfl, rfl⟩
 have g1 : (b == a + 1) = false := by simpa using hb
 have hq : qOf rs nt (a + 1) = true := by rcases hj with h | h; exact absurd h hb; exact h
 have g2 : (has rs (a + 1) == nt) = false := by unfold qOf at hq; cases hh : has rs (a + 1) <;> cases nt <;> simp_all
 clear hj hb hq
 generalize has rs (a + 1) = q at *
 go_enter func103, ntmps103
 go_wp2_with fail
 refine HH.out.mono ?_
 rintro e w2 ⟨rfl, rfl⟩
 go_wp2
 go_ret
 exact ⟨rfl, rfl⟩
theorem xev (rs : LI) (v : Value) (nt : Bool) (w : World) (h : RSl w v rs) (hl : rs.length <= 1000) :
 Calls prog 85 #[v, .bool nt] w fun e w' => ∃ u, e = .returned u /\ ROwn w w' u (if nt = true then notL rs else ofL rs) := by
 have HE := xa (fun W (hW : RSl W v rs) => xjy rs v W hW hl)
 have HH := xa (fun r W (hW : RSl W v rs) => xfp rs v r W hW)
 have HI := xa h
 have HS := xa (fun (l : List Int) (out : LI) (h1 : Ends rs l) (h2 : Scn rs nt (xd7 l l.length) out) => scn_end h1 h2)
 generalize (if nt = true then notL rs else ofL rs) = R at HS ⊢
 clear h
 obtain ⟨i0, hi0, hz0, hz1, hz2⟩ := info_parts xf9
 go_enter func85, ntmps85
 go_wp2_with fail
 refine (HE.out _ HI.out).mono ?_
 rintro e w1 ⟨u, es, rfl, hO⟩
 have hes : ISl w1 u es := ⟨SlOf.ofOwn (by rw [xd6]; exact hO.1) (by have := hO.2.1; omega), hO.2.2.2.1⟩
 have heslen : es.length <= 7000 := by have := hO.2.1; omega
 have HO := xa hO
 have HES := xa hes
 obtain ⟨ua, uc, rfl, huc, huu⟩ := hes.cells
 have HU := xa huu
 have hw1 := hO.2.2.2.2.1.size
 clear hO hes huu
 go_wp2_with fail
 go_loopw [6, 7] (fun lv iv wr => MdR w w1 es lv iv wr) (fun _ iv _ => es.length + 1 - (intOf iv).toNat)
 case atStart => exact ⟨0, [], rfl, Nat.zero_le _, trivial, by simp, by simp, World.ownsRow_nil _ _ _ _, xaa.refl _ _, fun _ => rfl⟩
 case round =>
  obtain ⟨i, l, rfl, hi, hsrt, hmem, hlen, hown, hk, hnil⟩ := hrel
  have hszr := hk.size
  by_cases hil : i < es.length
  · have HW : Hid (MdW w w1 wr es i l) := xa ⟨hil, hsrt, hmem, hlen, by omega, hk⟩
    obtain ⟨ub, uo, rfl, hue⟩ := HU.out (by omega)
    obtain ⟨x, hxe⟩ : ∃ x, es[i]? = some x := ⟨_, List.getElem?_eq_getElem hil⟩
    obtain ⟨hx0, hx1, hx2⟩ := hue i x hxe
    have hxr := hk.cell hx0 id
    have hls : ISl wr _ l := ⟨SlOf.ofOwn hown (by omega), fun y hy => HO.out.2.2.2.1 y (List.mem_of_mem_take ((hmem y).1 hy))⟩
    have HLS := xa hls
    have HOW := xa hown
    have Hxe := xa hxe
    obtain ⟨la, lc, rfl⟩ := xad hown
    have hlc : l.length <= lc := by obtain ⟨_, c, e, ⟨h1, _⟩, _⟩ := hls.1; injection e with _ _ e3; omega
    have hld0 : (i : Int) < (es.length : Int) := by omega
    have hld : decide ((i : Int) < (es.length : Int)) = true := by simpa using hld0
    clear hsrt hmem hown hk hls hx0 hxe hue
    obtain ⟨wR, hwR⟩ : ∃ W, W = wr := ⟨wr, rfl⟩
    subst hwR
    go_wp2_with fail
    go_loopw [8] (fun kv wk => MkR wR l x (.slice la l.length lc) kv wk) (fun kv _ => l.length + 1 - (intOf kv).toNat)
    case atStart => exact ⟨0, rfl, Nat.zero_le _, by simp, xaa.refl _ _⟩
    case round =>
     obtain ⟨k, rfl, hkl, hlow, hkk⟩ := hrel
     have hxw := hkk.cell hxr id
     have Hlow := xa hlow
     have HKK := xa hkk
     have hsw := HLS.out.keep hkk
     clear hlow hkk
     by_cases hkc : k < l.length
     · have hkd : decide ((k : Int) < (l.length : Int)) = true := by simp; omega
       have hkd0 : (k : Int) < (l.length : Int) := by omega
       obtain ⟨z, hz⟩ : ∃ z, l[k]? = some z := ⟨_, List.getElem?_eq_getElem hkc⟩
       obtain ⟨_, _, he, hcap, hcc⟩ := hsw.cells
       injection he with he1 he2 he3
       subst he1 he3
       obtain ⟨lb, lo, rfl, hcc2⟩ := hcc (by omega)
       obtain ⟨z0, z1, z2⟩ := hcc2 k z hz
       have Hz := xa hz
       clear hcc hcc2 hz hsw hcap he2
       by_cases hzx : z < x
       · have g1 : decide (z < x) = true := by simpa using hzx
         go_wp2_with fail
         go_quiet (fail)
         go_wp2
         go_roundw
         case rel =>
          refine ⟨k + 1, by go_num, by omega, fun y hy => ?_, HKK.out.drawN _⟩
          rw [List.take_add_one, Hz.out] at hy
          rcases List.mem_append.1 hy with hy | hy
          · exact Hlow.out y hy
          simp at hy; subst hy; exact hzx
         case measure => simp [intOf]; omega
       have g1 : decide (z < x) = false := by simpa using hzx
       by_cases hze : z = x
       · have g2 : (z == x) = true := by simpa using hze
         go_wp2_with fail
         go_quiet (fail)
         revert nq
         intro nqa
         go_wp2_with fail
         go_quiet (fail)
         go_wp2
         go_roundw
         case rel => exact xds (xlI HW.out (HKK.out.drawN _) Hxe.out (by rw [<- hze]; exact List.mem_of_getElem? Hz.out) (xag HOW.out (HKK.out.drawN _) (fun _ _ h => h))) (by go_num)
         case measure => simp [intOf]; omega
       have g2 : (z == x) = false := beq_eq_false_iff_ne.2 hze
       go_wp2_with fail
       go_quiet (fail)
       revert nq
       intro nqa
       go_wp2_with fail
       go_quiet (fail)
       have hkq0 : KF wR ((wr.drewN nqa).drewN nq) := (HKK.out.drawN _).drawN _
       have hxq0 : ((wr.drewN nqa).drewN nq).cell? ⟨ub, uo + i, none⟩ = some (.int .i64 x) := hxw
       generalize hwq : (wr.drewN nqa).drewN nq = wq at *
       have hkq := hkq0
       have hxq := hxq0
       have hsq := HLS.out.1.keep hkq
       clear hkq0 hxq0 hwq hxw hxr
       have hput : Srt (l.take k ++ [x] ++ l.drop k) /\ k <= l.length := ⟨xfS HW.out.srt Hlow.out (fun y hy => by rw [Hz.out] at hy; obtain rfl := Option.some.inj hy; omega), by omega⟩
       have hxe := Hxe.out
       have HT : SlOf 1 encI wq (.slice (some ⟨lb, lo, none⟩) k lc) (l.take k) := hsq.takeI k (by omega)
       go_wp2_with (at_builtin; refine xaB rfl (.tmp 53) (.tmp 56) rfl wq.heap.size _ _ _ rfl (World.ownsRow_nil _ _ _ _) _ (l.take k) rfl HT ?f1 (Nat.le_refl _) ?_)
       case f1 => rw [List.length_take]; omega
       intro v2 w2 hown2 hgrow2
       have hk2 : KF wq w2 := (xaa.refl _ _).grown hgrow2 (fun b hb => by simp [Value.ownBlock] at hb)
       have ho2 : w2.ownsRow wq.heap.size 3 1 v2 k (cellsOf 1 encI (l.take k)) := by
        first
        | exact hown2
        | (rw [List.take_length]; exact hown2)
        | (have e : 0 + (l.take k).length = k := by (rw [List.length_take]; omega)
           rw [e, List.nil_append] at hown2; exact hown2)
       have hx2 := hk2.cell hxq id
       have hs2 := hsq.keep hk2
       have hz2' := hk2.size
       clear hown2 hgrow2 HT
       go_wp2_with (at_builtin; refine wpList_append_own _ rfl (.tmp 58) (.tmp 63) 23 rfl wq.heap.size 3 i0 _ 1 8 underlying23 hi0 hz0 hz1 hz2 rfl (by decide) _ _ _ rfl (xac ho2 _) ⟨w2.heap.size, 0, none⟩ 1 1 [.int .i64 x] rfl rfl (by exact xaq _ [_] _) (by intro u hu; simp at hu; subst hu; rfl) ?c3 ?c4 ?c5 ?_)
       case c3 => unfold maxLen; omega
       case c4 => omega
       case c5 => first | omega | (simp; omega)
       intro v3 w3 hown3 hgrow3 _
       have hk3 : KF wq w3 := (hk2.alloc _).grown hgrow3 (fun b hb => Or.inr (xab ho2 b hb))
       have ho3 : w3.ownsRow wq.heap.size 3 1 v3 (k + 1) (cellsOf 1 encI (l.take k ++ [x])) := by
        rw [xah]; simpa [cellsOf, List.range_succ, encI] using hown3
       have hs3 := hsq.keep hk3
       have hz3' := hk3.size
       clear hown3 hgrow3 ho2 hs2 hx2
       obtain ⟨v3a, v3c, rfl⟩ := xad ho3
       have HR : SlOf 1 encI w3 (.slice (some ⟨lb, lo + k, none⟩) (l.length - k) (lc - k)) (l.drop k) := SlOf.dropI1 hs3 k (by omega) (by omega)
       go_wp2_with (at_builtin; refine xaB rfl (.tmp 65) (.tmp 68) rfl wq.heap.size _ _ _ rfl ho3 _ (l.drop k) rfl HR ?f2 hz3' ?_)
       case f2 => rw [List.length_drop]; omega
       intro v4 w4 hown4 hgrow4
       have hk4 : KF wq w4 := hk3.grown hgrow4 (fun b hb => Or.inr (xab ho3 b hb))
       have HM := xa (xdt HW.out hkq hk4 hxe hput (by first | rfl | omega | simp | (simp; omega)) (by first | rfl | (rw [List.take_length, List.drop_length])) hown4)
       clear hown4 hgrow4 ho3 HR
       go_wp2
       go_roundw
       case rel => exact xds HM.out (by go_num)
       case measure => simp [intOf]; omega
     have hkd : decide ((k : Int) < (l.length : Int)) = false := by simp; omega
     have hkl2 : k = l.length := by omega
     rcases l with _ | ⟨l0, lt⟩
     · have e0 := hnil rfl
       injection e0 with e1 e2 e3
       subst e1 e3
       subst hkl2
       go_wp2_with fail
       go_quiet (fail)
       revert nq
       intro nqa
       go_wp2_with fail
       go_quiet (fail)
       have hkq0 : KF wR ((wr.drewN nqa).drewN nq) := (HKK.out.drawN _).drawN _
       have hxq0 : ((wr.drewN nqa).drewN nq).cell? ⟨ub, uo + i, none⟩ = some (.int .i64 x) := hxw
       generalize hwq : (wr.drewN nqa).drewN nq = wq at *
       have hkq := hkq0
       have hxq := hxq0
       have hsq := HLS.out.1.keep hkq
       clear hkq0 hxq0 hwq hxw hxr
       have hput : Srt (([] : List Int).take 0 ++ [x] ++ ([] : List Int).drop 0) /\ 0 <= ([] : List Int).length := ⟨xfS HW.out.srt Hlow.out (fun y hy => by simp at hy), by omega⟩
       have hxe := Hxe.out
       have HT : SlOf 1 encI wq (.slice none 0 0) (([] : List Int).take 0) := SlOf.nil _ _ _
       go_wp2_with (at_builtin; refine xaB rfl (.tmp 53) (.tmp 56) rfl wq.heap.size _ _ _ rfl (World.ownsRow_nil _ _ _ _) _ (([] : List Int).take 0) rfl HT ?f1 (Nat.le_refl _) ?_)
       case f1 => rw [List.length_take]; omega
       intro v2 w2 hown2 hgrow2
       have hk2 : KF wq w2 := (xaa.refl _ _).grown hgrow2 (fun b hb => by simp [Value.ownBlock] at hb)
       have ho2 : w2.ownsRow wq.heap.size 3 1 v2 0 (cellsOf 1 encI (([] : List Int).take 0)) := by
        first
        | exact hown2
        | (rw [List.take_length]; exact hown2)
        | (have e : 0 + (([] : List Int).take 0).length = 0 := by (rw [List.length_take]; omega)
           rw [e, List.nil_append] at hown2; exact hown2)
       have hx2 := hk2.cell hxq id
       have hs2 := hsq.keep hk2
       have hz2' := hk2.size
       clear hown2 hgrow2 HT
       go_wp2_with (at_builtin; refine wpList_append_own _ rfl (.tmp 58) (.tmp 63) 23 rfl wq.heap.size 3 i0 _ 1 8 underlying23 hi0 hz0 hz1 hz2 rfl (by decide) _ _ _ rfl (xac ho2 _) ⟨w2.heap.size, 0, none⟩ 1 1 [.int .i64 x] rfl rfl (by exact xaq _ [_] _) (by intro u hu; simp at hu; subst hu; rfl) ?c3 ?c4 ?c5 ?_)
       case c3 => unfold maxLen; omega
       case c4 => omega
       case c5 => first | omega | (simp; omega)
       intro v3 w3 hown3 hgrow3 _
       have hk3 : KF wq w3 := (hk2.alloc _).grown hgrow3 (fun b hb => Or.inr (xab ho2 b hb))
       have ho3 : w3.ownsRow wq.heap.size 3 1 v3 (0 + 1) (cellsOf 1 encI (([] : List Int).take 0 ++ [x])) := by
        rw [xah]; simpa [cellsOf, List.range_succ, encI] using hown3
       have hs3 := hsq.keep hk3
       have hz3' := hk3.size
       clear hown3 hgrow3 ho2 hs2 hx2
       obtain ⟨v3a, v3c, rfl⟩ := xad ho3
       have HR : SlOf 1 encI w3 (.slice none 0 0) (([] : List Int).drop 0) := SlOf.nil _ _ _
       go_wp2_with (at_builtin; refine xaB rfl (.tmp 65) (.tmp 68) rfl wq.heap.size _ _ _ rfl ho3 _ (([] : List Int).drop 0) rfl HR ?f2 hz3' ?_)
       case f2 => rw [List.length_drop]; omega
       intro v4 w4 hown4 hgrow4
       have hk4 : KF wq w4 := hk3.grown hgrow4 (fun b hb => Or.inr (xab ho3 b hb))
       have HM := xa (xdt HW.out hkq hk4 hxe hput (by first | rfl | omega | simp | (simp; omega)) (by first | rfl | (rw [List.take_length, List.drop_length])) hown4)
       clear hown4 hgrow4 ho3 HR
       go_wp2
       go_roundw
       case rel => exact xds HM.out (by go_num)
       case measure => simp [intOf]; omega
     obtain ⟨_, _, he, hcap, hcc⟩ := hsw.cells
     injection he with he1 he2 he3
     subst he1 he3
     obtain ⟨lb, lo, rfl, hcc2⟩ := hcc (by simp)
     clear hcc hcc2 hcap he2 hsw
     generalize l0 :: lt = l at *
     subst hkl2
     by_cases hci : lc = l.length
     · subst hci
       go_wp2_with fail
       go_quiet (fail)
       revert nq
       intro nqa
       go_wp2_with fail
       go_quiet (fail)
       have hkq0 : KF wR ((wr.drewN nqa).drewN nq) := (HKK.out.drawN _).drawN _
       have hxq0 : ((wr.drewN nqa).drewN nq).cell? ⟨ub, uo + i, none⟩ = some (.int .i64 x) := hxw
       generalize hwq : (wr.drewN nqa).drewN nq = wq at *
       have hkq := hkq0
       have hxq := hxq0
       have hsq := HLS.out.1.keep hkq
       clear hkq0 hxq0 hwq hxw hxr
       have hput : Srt (l.take l.length ++ [x] ++ l.drop l.length) /\ l.length <= l.length := ⟨xfS HW.out.srt Hlow.out (fun y hy => by rw [List.getElem?_eq_none (Nat.le_refl _)] at hy; cases hy), by omega⟩
       have hxe := Hxe.out
       have HT : SlOf 1 encI wq (.slice (some ⟨lb, lo, none⟩) l.length l.length) (l.take l.length) := hsq.takeI l.length (Nat.le_refl _)
       go_wp2_with (at_builtin; refine xaB rfl (.tmp 53) (.tmp 56) rfl wq.heap.size _ _ _ rfl (World.ownsRow_nil _ _ _ _) _ (l.take l.length) rfl HT ?f1 (Nat.le_refl _) ?_)
       case f1 => rw [List.length_take]; omega
       intro v2 w2 hown2 hgrow2
       have hk2 : KF wq w2 := (xaa.refl _ _).grown hgrow2 (fun b hb => by simp [Value.ownBlock] at hb)
       have ho2 : w2.ownsRow wq.heap.size 3 1 v2 l.length (cellsOf 1 encI (l.take l.length)) := by
        first
        | exact hown2
        | (rw [List.take_length]; exact hown2)
        | (have e : 0 + (l.take l.length).length = l.length := by (rw [List.length_take]; omega)
           rw [e, List.nil_append] at hown2; exact hown2)
       have hx2 := hk2.cell hxq id
       have hs2 := hsq.keep hk2
       have hz2' := hk2.size
       clear hown2 hgrow2 HT
       go_wp2_with (at_builtin; refine wpList_append_own _ rfl (.tmp 58) (.tmp 63) 23 rfl wq.heap.size 3 i0 _ 1 8 underlying23 hi0 hz0 hz1 hz2 rfl (by decide) _ _ _ rfl (xac ho2 _) ⟨w2.heap.size, 0, none⟩ 1 1 [.int .i64 x] rfl rfl (by exact xaq _ [_] _) (by intro u hu; simp at hu; subst hu; rfl) ?c3 ?c4 ?c5 ?_)
       case c3 => unfold maxLen; omega
       case c4 => omega
       case c5 => first | omega | (simp; omega)
       intro v3 w3 hown3 hgrow3 _
       have hk3 : KF wq w3 := (hk2.alloc _).grown hgrow3 (fun b hb => Or.inr (xab ho2 b hb))
       have ho3 : w3.ownsRow wq.heap.size 3 1 v3 (l.length + 1) (cellsOf 1 encI (l.take l.length ++ [x])) := by
        rw [xah]; simpa [cellsOf, List.range_succ, encI] using hown3
       have hs3 := hsq.keep hk3
       have hz3' := hk3.size
       clear hown3 hgrow3 ho2 hs2 hx2
       obtain ⟨v3a, v3c, rfl⟩ := xad ho3
       have HR : SlOf 1 encI w3 (.slice (some ⟨lb, lo, none⟩) 0 0) (l.drop l.length) := by rw [List.drop_length]; exact ⟨_, 0, rfl, ⟨Nat.le_refl _, (fun h => by cases h)⟩, by simp, fun h => by simp at h⟩
       go_wp2_with (at_builtin; refine xaB rfl (.tmp 65) (.tmp 68) rfl wq.heap.size _ _ _ rfl ho3 _ (l.drop l.length) rfl HR ?f2 hz3' ?_)
       case f2 => rw [List.length_drop]; omega
       intro v4 w4 hown4 hgrow4
       have hk4 : KF wq w4 := hk3.grown hgrow4 (fun b hb => Or.inr (xab ho3 b hb))
       have HM := xa (xdt HW.out hkq hk4 hxe hput (by first | rfl | omega | simp | (simp; omega)) (by first | rfl | (rw [List.take_length, List.drop_length])) hown4)
       clear hown4 hgrow4 ho3 HR
       go_wp2
       go_roundw
       case rel => exact xds HM.out (by go_num)
       case measure => simp [intOf]; omega
     skip
     go_wp2_with fail
     go_quiet (fail)
     revert nq
     intro nqa
     go_wp2_with fail
     go_quiet (fail)
     have hkq0 : KF wR ((wr.drewN nqa).drewN nq) := (HKK.out.drawN _).drawN _
     have hxq0 : ((wr.drewN nqa).drewN nq).cell? ⟨ub, uo + i, none⟩ = some (.int .i64 x) := hxw
     generalize hwq : (wr.drewN nqa).drewN nq = wq at *
     have hkq := hkq0
     have hxq := hxq0
     have hsq := HLS.out.1.keep hkq
     clear hkq0 hxq0 hwq hxw hxr
     have hput : Srt (l.take l.length ++ [x] ++ l.drop l.length) /\ l.length <= l.length := ⟨xfS HW.out.srt Hlow.out (fun y hy => by rw [List.getElem?_eq_none (Nat.le_refl _)] at hy; cases hy), by omega⟩
     have hxe := Hxe.out
     have HT : SlOf 1 encI wq (.slice (some ⟨lb, lo, none⟩) l.length lc) (l.take l.length) := hsq.takeI l.length (Nat.le_refl _)
     go_wp2_with (at_builtin; refine xaB rfl (.tmp 53) (.tmp 56) rfl wq.heap.size _ _ _ rfl (World.ownsRow_nil _ _ _ _) _ (l.take l.length) rfl HT ?f1 (Nat.le_refl _) ?_)
     case f1 => rw [List.length_take]; omega
     intro v2 w2 hown2 hgrow2
     have hk2 : KF wq w2 := (xaa.refl _ _).grown hgrow2 (fun b hb => by simp [Value.ownBlock] at hb)
     have ho2 : w2.ownsRow wq.heap.size 3 1 v2 l.length (cellsOf 1 encI (l.take l.length)) := by
      first
      | exact hown2
      | (rw [List.take_length]; exact hown2)
      | (have e : 0 + (l.take l.length).length = l.length := by (rw [List.length_take]; omega)
         rw [e, List.nil_append] at hown2; exact hown2)
     have hx2 := hk2.cell hxq id
     have hs2 := hsq.keep hk2
     have hz2' := hk2.size
     clear hown2 hgrow2 HT
     go_wp2_with (at_builtin; refine wpList_append_own _ rfl (.tmp 58) (.tmp 63) 23 rfl wq.heap.size 3 i0 _ 1 8 underlying23 hi0 hz0 hz1 hz2 rfl (by decide) _ _ _ rfl (xac ho2 _) ⟨w2.heap.size, 0, none⟩ 1 1 [.int .i64 x] rfl rfl (by exact xaq _ [_] _) (by intro u hu; simp at hu; subst hu; rfl) ?c3 ?c4 ?c5 ?_)
     case c3 => unfold maxLen; omega
     case c4 => omega
     case c5 => first | omega | (simp; omega)
     intro v3 w3 hown3 hgrow3 _
     have hk3 : KF wq w3 := (hk2.alloc _).grown hgrow3 (fun b hb => Or.inr (xab ho2 b hb))
     have ho3 : w3.ownsRow wq.heap.size 3 1 v3 (l.length + 1) (cellsOf 1 encI (l.take l.length ++ [x])) := by
      rw [xah]; simpa [cellsOf, List.range_succ, encI] using hown3
     have hs3 := hsq.keep hk3
     have hz3' := hk3.size
     clear hown3 hgrow3 ho2 hs2 hx2
     obtain ⟨v3a, v3c, rfl⟩ := xad ho3
     have HR : SlOf 1 encI w3 (.slice (some ⟨lb, lo + l.length, none⟩) 0 (lc - l.length)) (l.drop l.length) := (by have hh := SlOf.dropI1 hs3 l.length (by omega) (by omega); rw [Nat.sub_self] at hh; exact hh)
     go_wp2_with (at_builtin; refine xaB rfl (.tmp 65) (.tmp 68) rfl wq.heap.size _ _ _ rfl ho3 _ (l.drop l.length) rfl HR ?f2 hz3' ?_)
     case f2 => rw [List.length_drop]; omega
     intro v4 w4 hown4 hgrow4
     have hk4 : KF wq w4 := hk3.grown hgrow4 (fun b hb => Or.inr (xab ho3 b hb))
     have HM := xa (xdt HW.out hkq hk4 hxe hput (by first | rfl | omega | simp | (simp; omega)) (by first | rfl | (rw [List.take_length, List.drop_length])) hown4)
     clear hown4 hgrow4 ho3 HR
     go_wp2
     go_roundw
     case rel => exact xds HM.out (by go_num)
     case measure => simp [intOf]; omega
  obtain rfl : es.length = i := by omega
  rw [List.take_length] at hmem
  have hE : Ends rs l := ⟨hsrt, fun y hy => HO.out.2.2.2.1 y ((hmem y).1 hy), fun y a b c => (hmem y).2 (HO.out.2.2.2.2.2 y a b c)⟩
  have HEn := xa hE
  have hIS : ISl wr _ l := ⟨SlOf.ofOwn hown (by omega), hE.2.1⟩
  have HIS := xa hIS
  obtain ⟨la, lc, rfl, hlc, hll⟩ := hIS.cells
  have HL := xa hll
  have HRS := xa ((HI.out.keep (HO.out.2.2.2.2.1.trans hk)))
  have HKW := xa (HO.out.2.2.2.2.1.trans hk)
  clear hsrt hmem hE hIS hll hown hk hnil HO HE HES HU
  obtain ⟨j0, hj0, hy0, hy1, hy2⟩ := info_parts xaO
  have hei : decide ((es.length : Int) < (es.length : Int)) = false := by simp
  obtain ⟨wS, hwS⟩ : ∃ W, W = wr := ⟨wr, rfl⟩
  subst hwS
  go_wp2_with fail
  go_loopw [10, 11] (fun ov jv wr => ScR rs nt l wS ov jv wr) (fun _ jv _ => l.length + 1 - (intOf jv).toNat)
  case atStart => exact ⟨0, [], rfl, Nat.zero_le _, xkP rs nt, World.ownsRow_nil _ _ _ _, xaa.refl _ _, by simp⟩
  case round =>
   obtain ⟨j, out, rfl, hj, hscn, hown, hk, hol⟩ := hrel
   have Hn := xa hscn
   have hsz := hk.size
   by_cases hjl : j < l.length
   · obtain ⟨b, hb⟩ : ∃ b, l[j]? = some b := ⟨_, List.getElem?_eq_getElem hjl⟩
     obtain ⟨lb, lo, rfl, hcc⟩ := HL.out (by omega)
     have hbx := hk.cell (hcc j b hb).1 id
     have Nb1 := xa (nb_at (nt := nt) HEn.out hb)
     have Pn := xa (xb5 hb)
     have HRW := xa (HRS.out.keep hk)
     have hjd0 : (j : Int) < (l.length : Int) := by omega
     have hjd : decide ((j : Int) < (l.length : Int)) = true := by simpa using hjd0
     have Hb := xa hb
     have Hcc := xa hcc
     clear hb hcc hscn hjl
     have HOW := xa hown
     clear hown
     by_cases hq : qOf rs nt b = false
     · have g1 : (has rs b == nt) = true := by unfold qOf at hq; cases hh : has rs b <;> cases nt <;> simp_all
       go_wp2_with fail
       refine (HH.out b _ HRW.out).mono ?_
       rintro e w2 ⟨rfl, rfl⟩
       generalize has rs b = hb at *
       go_wp2
       go_roundw
       case rel => exact ⟨j + 1, out, by go_num, by omega, by rw [Pn.out]; exact xmO Hn.out Nb1.out hq, HOW.out, hk, by omega⟩
       case measure => simp [intOf]; omega
     have hq1 : qOf rs nt b = true := by simpa using hq
     have g1 : (has rs b == nt) = false := by unfold qOf at hq1; cases hh : has rs b <;> cases nt <;> simp_all
     rcases List.eq_nil_or_concat out with rfl | ⟨o, p, rfl⟩
     · obtain ⟨va, vc, rfl⟩ := xad HOW.out
       have hp := scn_nil HEn.out (by omega) Hn.out
       have hown := HOW.out
       simp only [List.length_nil] at hown
       go_wp2_with fail
       refine (HH.out b _ HRW.out).mono ?_
       rintro e w2 ⟨rfl, rfl⟩
       generalize has rs b = hb at *
       go_wp2_with fail
       go_quiet (fail)
       go_wp2_with fail
       have hkA : KF wS (wr.drewN nq) := hk.drawN _
       have hownA : (wr.drewN nq).ownsRow wS.heap.size 180 2 (.slice va 0 vc) 0 (cellsOf 2 encR ([] : LI)) := hown
       have hbA : (wr.drewN nq).cell? ⟨lb, lo + j, none⟩ = some (.int .i64 b) := hbx
       have hbS := (Hcc.out j b Hb.out).1
       have hsA := hkA.size
       generalize wr.drewN nq = wA at *
       clear hbx hown hsz
       go_region_held3 (fun w' => w'.cell? ⟨lb, lo + j, none⟩ = some (.int .i64 b)) (first | go_keep | exact (((hkA.alloc _).drew).grown hgrow (fun b hb => Or.inr (xab hownA b hb))).cell hbS id)
        ((refine step_append_lies _ (by rfl) _ _ _ (by rfl) wS.heap.size 180 j0 _ 2 16 underlying70 hj0 hy0 hy1 hy2 rfl (by omega) (.slice va 0 vc) 0 (cellsOf 2 encR ([] : LI)) (by rfl) ((xac hownA _).drew) ⟨wA.heap.size, 0, none⟩ 1 1 [.int .i64 b, .int .i64 b] (by rfl) (by rfl) (World.news_of_block (cs := #[.int .i64 b, .int .i64 b]) (t := 180) (fr := (0, 0)) (heap_alloc_new wA _)) (by simp [Value.oneCell']) (by omega) (by unfold maxLen; omega) (by omega) (by simp; omega) (wA.heap.size + 1) (by simp) ?_; intro gg cap w1 hown1 hgrow hat hlt))
       have hk1 : KF wS w1 := ((hkA.alloc _).drew).grown hgrow (fun b hb => Or.inr (xab hownA b hb))
       have hO : Hid (w1.ownsRow wS.heap.size 180 2 (.slice (some ⟨gg, 0, none⟩) (([] : LI) ++ [(b, b)]).length cap) (([] : LI) ++ [(b, b)]).length (cellsOf 2 encR (([] : LI) ++ [(b, b)]))) := xa (by
        rw [xah]; simpa [cellsOf, encR, List.range_succ] using hown1)
       have hS : Hid (Scn rs nt (xd7 l (j + 1)) (([] : LI) ++ [(b, b)])) := xa (by rw [Pn.out]; exact xkQ Hn.out Nb1.out hq1 hp)
       clear hown1 hgrow hat hownA hkA hbA
       go_wp2
       go_roundw
       case rel => exact ⟨j + 1, ([] : LI) ++ [(b, b)], by go_num, by omega, hS.out, by simpa using hO.out, hk1, by first | (simp; done) | (simp at hol ⊢; omega)⟩
       case measure => simp [intOf]; omega
     rw [List.concat_eq_append] at *
     have hjp : 0 < j := by simp at hol; omega
     obtain ⟨k, hjk⟩ : ∃ k, j = k + 1 := ⟨j - 1, by omega⟩
     · obtain ⟨g, gc, rfl, hg1, hg2⟩ := xbA HOW.out (by simp)
       obtain ⟨a, hal⟩ : ∃ a, l[k]? = some a := ⟨_, List.getElem?_eq_getElem (by omega)⟩
       have hax := hk.cell (Hcc.out k a hal).1 id
       obtain ⟨ha0, ha1⟩ := (Hcc.out k a hal).2
       have hpa := xb5 hal
       rw [<- hjk] at hpa
       rw [hpa] at Hn Nb1
       have hown := HOW.out
       simp only [List.length_append, List.length_cons, List.length_nil, Nat.zero_add] at hown hol ⊢
       have hw1 : IntKind.i64.wrap ((j : Int) - 1) = (k : Int) := by rw [show (j : Int) - 1 = (k : Int) by omega]; exact IntWalk.i64_in _ (by omega)
       have hw2 : IntKind.i64.wrap (k : Int) = (k : Int) := IntWalk.i64_in _ (by omega)
       have hix : (k : Int) < (l.length : Int) := by omega
       have hix2 : ((k : Int)).toNat = k := by simp
       have hg5 : decide ((0 : Int) < (o.length : Int) + 1) = true := by simp <;> omega
       have Hjk := xa hjk
       clear hjk
       have hg6 : decide ((0 : Int) < (j : Int)) = true := by simp <;> omega
       have Hal := xa hal
       clear hal hpa
       cases hqa : qOf rs nt a
       · have g3 : (has rs a == nt) = true := by unfold qOf at hqa; cases hh : has rs a <;> cases nt <;> simp_all
         have KA : ∀ n, Calls prog 102 #[v, .int .i64 a] (wr.drewN n) fun e w' => e = .returned (.bool (has rs a)) /\ w' = wr.drewN n := fun n => (HH.out a _ (HRW.out.keep ((xaa.refl _ _).drawN n))).mono fun e w' ⟨e1, e2⟩ => ⟨e1, e2.symm⟩
         go_wp2_with fail
         refine (HH.out b _ HRW.out).mono ?_
         rintro e w2 ⟨rfl, rfl⟩
         generalize has rs b = hb at *
         generalize has rs a = ha at *
         go_wp2_with fail
         go_quiet ((go_at_call 102; exact Calls.quiet_of_same (KA _)))
         go_wp2_with fail
         have hkA : KF wS (wr.drewN nq) := hk.drawN _
         have hownA : (wr.drewN nq).ownsRow wS.heap.size 180 2 (.slice (some ⟨g, 0, none⟩) (o.length + 1) gc) (o.length + 1) (cellsOf 2 encR (o ++ [p])) := hown
         have hbA : (wr.drewN nq).cell? ⟨lb, lo + j, none⟩ = some (.int .i64 b) := hbx
         have hbS := (Hcc.out j b Hb.out).1
         have hsA := hkA.size
         generalize wr.drewN nq = wA at *
         clear hbx hown hsz
         go_region_held3 (fun w' => w'.cell? ⟨lb, lo + j, none⟩ = some (.int .i64 b)) (first | go_keep | exact (((hkA.alloc _).drew).grown hgrow (fun b hb => Or.inr (xab hownA b hb))).cell hbS id)
          ((refine step_append_lies _ (by rfl) _ _ _ (by rfl) wS.heap.size 180 j0 _ 2 16 underlying70 hj0 hy0 hy1 hy2 rfl (by omega) (.slice (some ⟨g, 0, none⟩) (o.length + 1) gc) (o.length + 1) (cellsOf 2 encR (o ++ [p])) (by rfl) ((xac hownA _).drew) ⟨wA.heap.size, 0, none⟩ 1 1 [.int .i64 b, .int .i64 b] (by rfl) (by rfl) (World.news_of_block (cs := #[.int .i64 b, .int .i64 b]) (t := 180) (fr := (0, 0)) (heap_alloc_new wA _)) (by simp [Value.oneCell']) (by omega) (by unfold maxLen; omega) (by omega) (by simp; omega) (wA.heap.size + 1) (by simp) ?_; intro gg cap w1 hown1 hgrow hat hlt))
         have hk1 : KF wS w1 := ((hkA.alloc _).drew).grown hgrow (fun b hb => Or.inr (xab hownA b hb))
         have hO : Hid (w1.ownsRow wS.heap.size 180 2 (.slice (some ⟨gg, 0, none⟩) ((o ++ [p]) ++ [(b, b)]).length cap) ((o ++ [p]) ++ [(b, b)]).length (cellsOf 2 encR ((o ++ [p]) ++ [(b, b)]))) := xa (by
          rw [xah]; simpa [cellsOf, encR, List.range_succ] using hown1)
         have hS : Hid (Scn rs nt (xd7 l (j + 1)) ((o ++ [p]) ++ [(b, b)])) := xa (by rw [Pn.out]; exact xkQ Hn.out Nb1.out hq1 (Or.inr hqa))
         clear hown1 hgrow hat hownA hkA hbA
         go_wp2
         go_roundw
         case rel => exact ⟨j + 1, (o ++ [p]) ++ [(b, b)], by go_num, by omega, hS.out, by simpa using hO.out, hk1, by first | (simp; done) | (simp at hol ⊢; omega)⟩
         case measure => simp [intOf]; omega
       have g3 : (has rs a == nt) = false := by unfold qOf at hqa; cases hh : has rs a <;> cases nt <;> simp_all
       have KA : ∀ n, Calls prog 102 #[v, .int .i64 a] (wr.drewN n) fun e w' => e = .returned (.bool (has rs a)) /\ w' = wr.drewN n := fun n => (HH.out a _ (HRW.out.keep ((xaa.refl _ _).drawN n))).mono fun e w' ⟨e1, e2⟩ => ⟨e1, e2.symm⟩
       have KJ : ∀ n, Calls prog 103 #[v, .int .i64 a, .int .i64 b, .bool nt] (wr.drewN n) fun e w' => e = .returned (.bool true) /\ w' = wr.drewN n := fun n => xk rs v a b nt _ (HRW.out.keep ((xaa.refl _ _).drawN n)) ha0 ha1 (by
        by_cases hba : b = a + 1
        · exact Or.inl hba
        right; rw [Nb1.out.same (by have := Nb1.out.lt; omega) (a + 1) (by omega) (by have := Nb1.out.lt; omega)]; exact hqa)
       obtain ⟨p1, rfl⟩ : ∃ p1, p = (p1, a) := by
        obtain ⟨o', lo', e⟩ := xiv Hn.out ha0 ha1 hqa
        have := List.append_inj_right' e rfl
        exact ⟨lo', (List.cons.inj this).1⟩
       have hSE : Hid (Scn rs nt (xd7 l (j + 1)) (o ++ [(p1, b)])) := xa (by rw [Pn.out]; exact scn_ext Hn.out Nb1.out ha0 hqa hq1)
       have hcg : wr.cell? ⟨g, o.length * 2 + 1, none⟩ = some (.int .i64 a) := by
        rw [hown.cellAt _ (by first | omega | (simp; omega))]
        exact xaI 2 encR (o ++ [(p1, a)]) o.length (p1, a) (by simp) 1 (by omega)
       have hfg : ∀ x, wr.frozen? ⟨g, x, none⟩ = false := fun x => hown.frozenAt x
       have hw3 : IntKind.i64.wrap ((o.length : Int) + 1 - 1) = (o.length : Int) := by rw [show (o.length : Int) + 1 - 1 = (o.length : Int) by omega]; exact IntWalk.i64_in _ (by omega)
       have hw4 : IntKind.i64.wrap (o.length : Int) = (o.length : Int) := IntWalk.i64_in _ (by omega)
       have hix5 : (o.length : Int) < (o.length : Int) + 1 := by omega
       have hix6 : ((o.length : Int)).toNat = o.length := by simp
       go_wp2_with fail
       refine (HH.out b _ HRW.out).mono ?_
       rintro e w2 ⟨rfl, rfl⟩
       generalize has rs b = hb at *
       generalize has rs a = ha at *
       go_wp2_with fail
       go_quiet (first | (go_at_call 102; exact Calls.quiet_of_same (KA _)) | (go_at_call 103; exact Calls.quiet_of_same (KJ _)))
       go_wp2
       go_roundw
       case rel =>
        refine ⟨j + 1, o ++ [(p1, b)], by go_num, by omega, hSE.out, ?_, (hk.drawN _).setNew hg1 _, by simp; omega⟩
        rw [<- xiu o (p1, a) b]
        have h5 := (World.ownsRow.stored (xbI hown nq) (o.length * 2 + 1) (.int .i64 b)).1
        simpa using h5
       case measure => simp [intOf]; omega
   obtain rfl : j = l.length := by omega
   have HF := xa (HS.out l out HEn.out Hn.out)
   have HK2 := xa (HKW.out.trans hk)
   have hsS := HKW.out.size
   have hld9 : decide ((l.length : Int) < (l.length : Int)) = false := by simp
   go_wp2
   go_ret
   refine ⟨_, rfl, ?_⟩
   rw [<- HF.out]
   exact ⟨xdl hown (by omega), HK2.out⟩
def inP (l : List UInt8) (r : Int) : Bool := l.any fun c => decide ((c.toNat : Int) = r)
theorem xi0 (l : List UInt8) (r : Int) (w : World) (hl : l.length <= 1000) : Calls prog 87 #[.string ⟨l.toArray⟩, .int .i64 r] w fun e w' => e = .returned (.bool (inP l r)) /\ w = w' := by
 have HR : Hid (inP l r = (l.drop 0).any fun c => decide ((c.toNat : Int) = r)) := xa rfl
 generalize inP l r = R at *
 go_enter func87, ntmps87
 go_wp2_with fail
 go_loopw [5] (fun iv wr => ∃ i : Nat, iv = .int .i64 i /\ i <= l.length /\ R = ((l.drop i).any fun c => decide ((c.toNat : Int) = r)) /\ w = wr) (fun iv _ => l.length + 1 - (intOf iv).toNat)
 case atStart => exact ⟨0, rfl, Nat.zero_le _, HR.out, rfl⟩
 case round =>
  obtain ⟨i, rfl, hi, hR, rfl⟩ := hrel
  by_cases hil : i < l.length
  · obtain ⟨c, hc⟩ : ∃ c, l[i]? = some c := ⟨_, List.getElem?_eq_getElem hil⟩
    have hx := idxB hc
    have hd : l.drop i = c :: l.drop (i + 1) := by
     rw [List.drop_eq_getElem_cons hil]
     rw [List.getElem?_eq_getElem hil] at hc
     rw [Option.some.inj hc]
    rw [hd, List.any_cons] at hR
    have HRR := xa hR
    have h256 := c.toNat_lt
    clear hc hd hR
    by_cases he : (c.toNat : Int) = r
    · have g1 : (((c.toNat : Nat) : Int) == r) = true := by simpa using he
      go_wp2
      go_ret
      exact ⟨by rw [HRR.out]; simp [he], rfl⟩
    have g1 : (((c.toNat : Nat) : Int) == r) = false := beq_eq_false_iff_ne.2 he
    have HN : Hid (R = ((l.drop (i + 1)).any fun c => decide ((c.toNat : Int) = r))) := xa (by rw [HRR.out, show decide ((c.toNat : Int) = r) = false by simpa using he, Bool.false_or])
    clear he HRR
    go_wp2
    go_roundw
    case rel => exact ⟨i + 1, by go_num, by omega, HN.out, by trivial⟩
    case measure => simp [intOf]; omega
  rw [List.drop_eq_nil_of_le (by omega)] at hR
  have HRR := xa hR
  clear hR
  go_wp2
  go_ret
  exact ⟨by rw [HRR.out]; rfl, rfl⟩
theorem xlT (al : List UInt8) (hal : al = sgL ++ [45] \/ al = npL) (r : Int) : inP al r = (if al = npL then amg npL r else amg sgL r || decide (r = 45)) := by
 have hout : ∀ al : List UInt8, (∀ c ∈ al, c.toNat < 128) -> ¬ (0 <= r /\ r < 128) -> inP al r = false := by
  intro al h hr
  unfold inP
  rw [List.any_eq_false]
  intro c hc
  have := h c hc
  simp only [decide_eq_true_eq]; omega
 have k1 : ∀ c : Fin 128, inP (sgL ++ [45]) (c.val : Int) = (amg sgL (c.val : Int) || decide ((c.val : Int) = 45)) := of_decide_eq_true (by kernel_rfl)
 have k2 : ∀ c : Fin 128, inP npL (c.val : Int) = amg npL (c.val : Int) := of_decide_eq_true (by kernel_rfl)
 rcases hal with rfl | rfl
 · rw [if_neg (by decide)]
   by_cases h : 0 <= r /\ r < 128
   · have := k1 ⟨r.toNat, by omega⟩
     simpa [Int.toNat_of_nonneg h.1] using this
   rw [hout _ (by decide) h, xgl _ _ h]
   symm; simp; omega
 rw [if_pos rfl]
 by_cases h : 0 <= r /\ r < 128
 · have := k2 ⟨r.toNat, by omega⟩
   simpa [Int.toNat_of_nonneg h.1] using this
 rw [hout _ (by decide) h, xgl _ _ h]
theorem xlS (r : Int) : inP [100, 119, 115] r = decide (r = 100 \/ r = 119 \/ r = 115) := by
 apply Bool.eq_iff_iff.2
 simp [inP]
 omega
theorem xlU (r : Int) : inP [68, 87, 83] r = decide (r = 68 \/ r = 87 \/ r = 83) := by
 apply Bool.eq_iff_iff.2
 simp [inP]
 omega
theorem xfm (r : Int) (w : World) (h : r = 100 \/ r = 119 \/ r = 115) :
 Calls prog 88 #[.int .i64 r] w fun e w' => ∃ u, e = .returned u /\ ROwn w w' u (xav r) := by
 rcases h with rfl | rfl | rfl
 · go_enter func88, ntmps88
   go_wp2
   go_ret
   exact ⟨_, rfl, ⟨rfl, Or.inr ⟨w.heap.size, 1, _, rfl, Nat.le_refl _, heap_alloc_new w _, Nat.le_refl _, by unfold maxLen; decide, rfl, rfl⟩⟩, (xaa.refl _ _).alloc _⟩
 · go_enter func88, ntmps88
   go_wp2
   go_ret
   exact ⟨_, rfl, ⟨rfl, Or.inr ⟨w.heap.size, 4, _, rfl, Nat.le_refl _, heap_alloc_new w _, Nat.le_refl _, by unfold maxLen; decide, rfl, rfl⟩⟩, (xaa.refl _ _).alloc _⟩
 go_enter func88, ntmps88
 go_wp2
 go_ret
 exact ⟨_, rfl, ⟨rfl, Or.inr ⟨w.heap.size, 2, _, rfl, Nat.le_refl _, heap_alloc_new w _, Nat.le_refl _, by unfold maxLen; decide, rfl, rfl⟩⟩, (xaa.refl _ _).alloc _⟩
end Go.Proofs.YtapmdhejgnplaaaGreat
