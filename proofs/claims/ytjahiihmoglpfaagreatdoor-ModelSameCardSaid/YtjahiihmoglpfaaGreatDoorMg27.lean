/-
  Several texts in one: A teller; its record. Records that a teller holds. The teller's context. The teller's context: a record is held.
-/
import Derived.Test.YtjahiihmoglpfaaGreatDoorMg26
import Derived.Deep.RegionLawGrows
namespace Go.Proofs.YtjahiihmoglpfaaGreatDoor
open Go.RowKit
set_option linter.unusedVariables false
set_option linter.unusedSimpArgs false
set_option maxRecDepth 100000
structure Tel where
 tell : Int
 before : Nat
 after : Nat
 records : Nat
 hits : Nat
 held : List Rc
 more : Nat
 last : Nat
 any : Bool
 over : Bool
 enough : Bool
structure TelC (w : World) (tb : Nat) (t : Tel) (hv : Value) : Prop where
 bk : w.heap[tb]? = some (.cells #[.int .i64 t.tell, .int .i64 t.before, .int .i64 t.after, .int .i64 t.records, .int .i64 t.hits, hv, .int .i64 t.more, .int .i64 t.last, .bool t.any, .bool t.over, .bool t.enough] 84 (0, 0))
 ne : tb ≠ 1
theorem TelC.keeps {S : Nat → Prop} {w w' : World} {tb : Nat} {t : Tel} {hv : Value} (h : TelC w tb t hv) (K : xaa S w w') (hs : ¬ S tb) : TelC w' tb t hv := ⟨K.heap h.bk hs, h.ne⟩
theorem TelC.lt {w : World} {tb : Nat} {t : Tel} {hv : Value} (h : TelC w tb t hv) : tb < w.heap.size := (Array.getElem?_eq_some_iff.1 h.bk).1
theorem TelC.fz {w : World} {tb : Nat} {t : Tel} {hv : Value} (h : TelC w tb t hv) (k : Nat) : w.frozen? ⟨tb, k, none⟩ = false := Lib.frozen_of_heap h.bk k
theorem TelC.c {w : World} {tb : Nat} {t : Tel} {hv : Value} (h : TelC w tb t hv) :
 w.cell? ⟨tb, 0, none⟩ = some (.int .i64 t.tell) ∧ w.cell? ⟨tb, 1, none⟩ = some (.int .i64 t.before) ∧ w.cell? ⟨tb, 2, none⟩ = some (.int .i64 t.after) ∧ w.cell? ⟨tb, 3, none⟩ = some (.int .i64 t.records) ∧ w.cell? ⟨tb, 4, none⟩ = some (.int .i64 t.hits) ∧ w.cell? ⟨tb, 5, none⟩ = some hv ∧
 w.cell? ⟨tb, 6, none⟩ = some (.int .i64 t.more) ∧ w.cell? ⟨tb, 7, none⟩ = some (.int .i64 t.last) ∧ w.cell? ⟨tb, 8, none⟩ = some (.bool t.any) ∧ w.cell? ⟨tb, 9, none⟩ = some (.bool t.over) ∧ w.cell? ⟨tb, 10, none⟩ = some (.bool t.enough) := by
 refine ⟨?_, ?_, ?_, ?_, ?_, ?_, ?_, ?_, ?_, ?_, ?_⟩ <;> (rw [Lib.cell_of_heap h.bk]; rfl)
def recL (t : Tel) (r : Rc) (sg : UInt8) : List (List UInt8) := (if t.any && (r.n != t.last + 1) then [[45, 45]] else []) ++ [Lib.itoa (r.n : Int) ++ [sg] ++ r.text]
def recT (t : Tel) (r : Rc) : Tel := { t with any := true, last := r.n }
theorem TelC.recd {w : World} {tb : Nat} {t : Tel} {hv : Value} (h : TelC w tb t hv) (r : Rc) :
 TelC ((w.setCell ⟨tb, 8, none⟩ (.bool true)).setCell ⟨tb, 7, none⟩ (.int .i64 r.n)) tb (recT t r) hv := by
 refine ⟨?_, h.ne⟩
 have := h.bk
 simp [World.setCell, Array.getElem?_modify, this, recT]
def RcE (t : Tel) (r : Rc) (sg : UInt8) (tb : Nat) (hv : Value) (w : World) (e : Ending) (w' : World) : Prop :=
 ∃ v, e = .returned v ∧ w'.ownsRow w.heap.size 9 1 v (recL t r sg).length ((recL t r sg).map strL) ∧ TelC w' tb (recT t r) hv ∧ xaa (fun b => b = tb) w w'
def RcR (P : List (List UInt8)) (c n : Nat) (tx : List UInt8) (w : World) (v : Value) (wc : World) : Prop :=
 wc.ownsRow (c + 1) 9 1 v P.length (P.map strL) ∧ xaa (fun _ => False) w wc ∧ wc.cell? ⟨c, 0, none⟩ = some (.int .i64 n) ∧ wc.cell? ⟨c, 2, none⟩ = some (.string ⟨tx.toArray⟩)
set_option maxHeartbeats 8000000 in
theorem xcI (t : Tel) (r : Rc) (sg : UInt8) (tb : Nat) (hv : Value) (w : World) (H : TelC w tb t hv) (hT : TabW w) (hn : r.n ≤ 1000000) (ht : r.text.length ≤ 100000) (hla : t.last ≤ 1000000) :
 Calls Tryz.prog 85 #[.pointer (some ⟨tb, 0, none⟩), rcV r, .string ⟨#[sg]⟩] w (RcE t r sg tb hv w) := by
 obtain ⟨i0, hi, hz0, hz1, hz2⟩ := info_parts xdW
 obtain ⟨c0, c1, c2, c3, c4, c5, c6, c7, c8, c9, c10⟩ := H.c
 clear c0 c1 c2 c3 c4 c5 c6 c9 c10
 have HT := xmA hT
 have HC := xmA H
 have hlt := H.lt
 have hR : Hid (recL t r sg = (if t.any && (r.n != t.last + 1) then [[45, 45]] else []) ++ [Lib.itoa (r.n : Int) ++ [sg] ++ r.text]) := xmA rfl
 have HRC := xmA (fun (W : World) (h : TelC W tb t hv) => h.recd r)
 unfold RcE
 generalize recT t r = T' at *
 generalize recL t r sg = RL at *
 obtain ⟨P, hP⟩ : ∃ P : List (List UInt8), (if t.any && (r.n != t.last + 1) then [[45, 45]] else []) = P := ⟨_, rfl⟩
 rw [hP] at hR
 have HP := xmA hP
 clear hP H hT
 obtain ⟨n, at', tx⟩ := r
 unfold rcV
 simp only at hn ht hR HP HRC ⊢
 generalize t.any = an at *
 generalize t.last = la at *
 have hww : IntKind.i64.wrap ((la : Int) + 1) = (la : Int) + 1 := IntWalk.i64_in _ (by omega)
 go_enter Tryz.func85, Tryz.ntmps85
 go_upto_region 2 with fail
 obtain ⟨w1, hw1⟩ : ∃ W, w.alloc (.cells #[.int .i64 (n : Int), .int .i64 (at' : Int), .string ⟨tx.toArray⟩] 39) = W := ⟨_, rfl⟩
 rw [hw1]
 have hk1 : xaa (fun _ => False) w w1 := by rw [← hw1]; exact (xaa.refl _ _).alloc _
 have hs1 : w.heap.size + 1 ≤ w1.heap.size := by rw [← hw1]; simp
 have hs1' : w1.heap.size ≤ w.heap.size + 1 := by rw [← hw1]; simp
 have z0 : w1.cell? ⟨w.heap.size, 0, none⟩ = some (.int .i64 (n : Int)) := by rw [← hw1]; simp [go_sem]
 have z2 : w1.cell? ⟨w.heap.size, 2, none⟩ = some (.string ⟨tx.toArray⟩) := by rw [← hw1]; simp [go_sem]
 have d7 := hk1.cell c7 id
 have d8 := hk1.cell c8 id
 have HK1 := xmA hk1
 clear hw1 hk1 c7 c8
 obtain ⟨q, hq⟩ : ∃ q : Bool, (an && (n != la + 1)) = q := ⟨_, rfl⟩
 rw [hq] at HP
 have HQ := xmA hq
 clear hq
 go_cut [21] (fun v wc => v = .bool q ∧ ∃ k, wc = w1.drewN k)
 case first =>
  cases an with
  | false =>
   have hP0 : Hid (q = false) := xmA HQ.out.symm
   clear HP HQ
   go_quiet (fail)
   go_wp2_with fail
   go_meet
   exact ⟨by rw [hP0.out], _, rfl⟩
  | true =>
   by_cases hq : n = la + 1
   · have hP0 : Hid (q = false) := xmA (by rw [← HQ.out, hq]; simp)
     have gq : ((n : Int) != (la : Int) + 1) = false := by simp; omega
     clear HP HQ hq
     go_quiet (fail)
     go_wp2_with fail
     go_meet
     exact ⟨by rw [hP0.out], _, rfl⟩
   have hP0 : Hid (q = true) := xmA (by rw [← HQ.out]; simp [hq])
   have gq : ((n : Int) != (la : Int) + 1) = true := by rw [bne_iff_ne]; omega
   clear HP HQ hq
   go_quiet (fail)
   go_wp2_with fail
   go_meet
   exact ⟨by rw [hP0.out], _, rfl⟩
 case rest =>
  obtain ⟨rfl, k, rfl⟩ := hcut
  go_upto_if 21 with fail
  go_cut [7] (fun v wc => RcR P w.heap.size n tx w1 v wc)
  case first =>
   cases q with
   | false =>
    have hP0 : Hid (P = []) := xmA HP.out.symm
    clear HP HQ
    go_wp2_with fail
    go_meet
    rw [hP0.out]
    exact ⟨World.ownsRow_nil _ _ _ _, KI.out, by simp [go_sem, z0], by simp [go_sem, z2]⟩
   | true =>
    have hP0 : Hid (P = [[45, 45]]) := xmA HP.out.symm
    clear HP HQ
    go_wp2_with (at_builtin; refine wpList_append_lies _ rfl (.tmp 22) (.tmp 23) 28 rfl (w.heap.size + 1) 9 i0 _ 1 16 Tryz.underlying28 hi hz0 hz1 hz2 rfl (by decide) _ 0 [] rfl (World.ownsRow_nil _ _ _ _) ⟨w1.heap.size, 0, none⟩ 1 1 [.string ⟨#[45, 45]⟩] rfl rfl (by exact xak (w1.drewN _) [_] _) (by simp [Value.oneCell']) (by decide) (by decide) (by decide) (by simp; omega) _ rfl ?_)
    intro g9 cap9 w9 hown9 hgrow9 hat9 hlt9
    have kg : xaa (fun _ => False) w1 w9 := (((xaa.refl (fun _ => False) w1).drawN _).alloc _).grown hgrow9 (fun b hb => by simp [Value.ownBlock] at hb)
    have HO9 := xmA hown9
    have HK9 := xmA kg
    have e0 := kg.cell z0 id
    have e2 := kg.cell z2 id
    clear hown9 hgrow9 hat9 kg
    go_wp2_with fail
    go_meet
    rw [hP0.out]
    exact ⟨HO9.out, HK9.out, e0, e2⟩
  case rest =>
   obtain ⟨hO, hkc, e0, e2⟩ := hcut
   have HCc := xmA ((HC.out.keeps HK1.out id).keeps hkc id)
   obtain ⟨_, _, _, _, _, _, _, f7, f8, _, _⟩ := HCc.out.c
   have y7 := HCc.out.fz 7
   have y8 := HCc.out.fz 8
   obtain ⟨oa, oc, rfl⟩ := xad hO
   have HO := xmA hO
   have HKc := xmA hkc
   have hsc := hkc.size
   clear hO hkc
   go_wp2_with fail
   go_region
   go_upto_region 5 with fail
   obtain ⟨w2, hw2⟩ : ∃ W, ((wc.setCell ⟨tb, 8, none⟩ (.bool true)).setCell ⟨tb, 7, none⟩ (.int .i64 (n : Int))).drew = W := ⟨_, rfl⟩
   rw [hw2]
   have hk2 : xaa (fun b => b = tb) wc w2 := by
    rw [← hw2]
    exact (((xaa.refl (fun b => b = tb) wc).set (p := ⟨tb, 8, none⟩) rfl _).set (p := ⟨tb, 7, none⟩) rfl _).drew
   have HC2 : Hid (TelC w2 tb T' hv) := xmA (by rw [← hw2]; exact (HRC.out wc HCc.out).keeps (S := fun _ => False) (KI.out) id)
   have hsz2 : w2.heap.size ≤ wc.heap.size := by rw [← hw2]; simp [World.setCell]
   clear hw2
   have hsz3 := hk2.size
   have q0 := hk2.cell e0 (by show ¬ w.heap.size = tb; omega)
   have q2 := hk2.cell e2 (by show ¬ w.heap.size = tb; omega)
   have HO2 := xmA (xae HO.out hk2 (fun b hb e => by have := xab HO.out b hb; have e : b = tb := e; omega))
   have HK2 : Hid (xaa (fun b => b = tb) w w2) := xmA (((HK1.out.trans HKc.out).mono (fun _ _ h => h.elim)).trans hk2)
   have HT2 := xmA (HT.out.keepsS HK2.out (fun e => HC.out.ne e.symm))
   have HNum : Hid (∀ (W : World), xaa (fun _ => False) w2 W → Calls Tryz.prog 52 #[.int .i64 (n : Int)] W fun e w' => e = .returned (.string ⟨(Lib.itoa (n : Int)).toArray⟩) ∧ xaa (fun _ => False) w2 w') := xmA (fun W K =>
    (xb5 (n : Int) W (by unfold in64; omega) (HT2.out.keeps K)).mono fun e w' h => ⟨h.1, K.trans h.2⟩)
   have hlx : (Lib.itoa (n : Int)).length ≤ 21 := Lib.itoa_length_le _ (by omega) (by omega)
   have s1 : ¬ (9223372036854775807 < (Lib.itoa (n : Int)).length + 1) := by omega
   have s2 : ¬ (9223372036854775807 < (Lib.itoa (n : Int)).length + 1 + tx.length) := by omega
   have hPl : P.length ≤ 1 := by rw [← HP.out]; split <;> simp
   have HS : ∀ w', xaa (fun b => w.heap.size + 1 ≤ b ∧ b < w2.heap.size) w2 w' → w'.cell? ⟨w.heap.size, 0, none⟩ = some (.int .i64 (n : Int)) ∧ w'.cell? ⟨w.heap.size, 2, none⟩ = some (.string ⟨tx.toArray⟩) ∧ xaa (fun b => w.heap.size + 1 ≤ b ∧ b < w2.heap.size) w2 w' := fun w' K =>
    ⟨K.cell q0 (by show ¬ (_ ≤ w.heap.size ∧ _); omega), K.cell q2 (by show ¬ (_ ≤ w.heap.size ∧ _); omega), K⟩
   have hk0 : xaa (fun _ => False) w2 w2.drew := (xaa.refl _ _).drew
   clear e0 e2 hk2 f7 f8 y7 y8
   go_region_held3 (fun w' => w'.cell? ⟨w.heap.size, 0, none⟩ = some (.int .i64 (n : Int)) ∧ w'.cell? ⟨w.heap.size, 2, none⟩ = some (.string ⟨tx.toArray⟩) ∧ xaa (fun b => w.heap.size + 1 ≤ b ∧ b < w2.heap.size) w2 w')
    (first | exact HS _ (hk0.mono (fun _ _ h => h.elim)) | exact HS _ (xaa.mono (by assumption : xaa (fun _ => False) w2 _) (fun _ _ h => h.elim)) | exact HS _ ((xaa.mono (by assumption : xaa (fun _ => False) w2 _) (fun _ _ h => h.elim)).alloc _) | exact HS _ kC)
    (first
      | (go_at_call 52; refine (HNum.out _ ?_).mono ?_; (first | exact hk0 | assumption); rintro e w' ⟨rfl, hkn⟩)
      | (refine step_append_lies _ (by rfl) (.tmp 33) (.tmp 42) 28 (by rfl) (w.heap.size + 1) 9 i0 _ 1 16 Tryz.underlying28 hi hz0 hz1 hz2 rfl (by omega) _ P.length (P.map strL) (by rfl) (xac (xcl HO2.out (by assumption : xaa (fun _ => False) w2 _)) _) ⟨_, 0, none⟩ 1 1 [_] (by rfl) (by rfl) (by exact xak _ [_] _) (by intro u hu; simp at hu; subst hu; rfl) (by omega) (by unfold maxLen; omega) (by omega) (by have := (by assumption : xaa (fun _ => False) w2 _).size; simp; omega) _ rfl ?_; intro gg cap9 wC hownC hgrow hat hltC; have kC : xaa (fun b => w.heap.size + 1 ≤ b ∧ b < w2.heap.size) w2 wC := ((xaa.mono (by assumption : xaa (fun _ => False) w2 _) (fun _ _ h => h.elim)).alloc _).grown hgrow (fun b hb => Or.inl ⟨xab HO.out b hb, xax HO2.out b hb⟩)))
   have HOC := xmA hownC
   have HKC : Hid (xaa (fun b => b = tb) w wC) := xmA (HK2.out.trans2 kC (fun i hi e => by omega))
   have HCC := xmA (HC2.out.keeps kC (by show ¬ (_ ≤ tb ∧ _); omega))
   clear hownC hgrow hat kC
   go_wp2_with fail
   go_ret
   refine ⟨_, rfl, ?_, HCC.out, HKC.out⟩
   have e1 : Value.string ((⟨(Lib.itoa (n : Int)).toArray⟩ : ByteArray) ++ ⟨#[sg]⟩ ++ ⟨tx.toArray⟩) = strL (Lib.itoa (n : Int) ++ [sg] ++ tx) := by
    unfold strL
    refine congrArg Value.string ?_
    apply ByteArray.ext
    simp
   have h9 := HOC.out
   rw [e1] at h9
   rw [hR.out, List.map_append, List.length_append]
   exact xag h9 (by omega)
structure xbs (w : World) (b off n cap : Nat) (rs : List Rc) : Prop where
 len : n = rs.length
 le : n ≤ cap
 cells : ∀ (j : Nat) (u : Value), (cellsOf 3 xbe rs)[j]? = some u → w.cell? ⟨b, off + j, none⟩ = some u
 spare : ∀ j, j < (cap - n) * 3 → (w.cell? ⟨b, off + n * 3 + j, none⟩).isSome = true ∧ w.frozen? ⟨b, off + n * 3 + j, none⟩ = false
def xba (w : World) (hv : Value) (rs : List Rc) : Prop :=
 (hv = .slice none 0 0 ∧ rs = []) ∨ ∃ b off n cap, hv = .slice (some ⟨b, off, none⟩) n cap ∧ xbs w b off n cap rs
theorem xbs.keeps {S : Nat → Prop} {w w' : World} {b off n cap : Nat} {rs : List Rc} (h : xbs w b off n cap rs) (K : xaa S w w') (hs : ¬ S b) : xbs w' b off n cap rs := by
 refine ⟨h.len, h.le, fun j u hj => K.cell (h.cells j u hj) hs, fun j hj => ?_⟩
 obtain ⟨h1, h2⟩ := h.spare j hj
 obtain ⟨v, hv⟩ := Option.isSome_iff_exists.1 h1
 exact ⟨by rw [K.cell hv hs]; rfl, K.frozen h2 (xan hv) hs⟩
theorem xba.keeps {S : Nat → Prop} {w w' : World} {hv : Value} {rs : List Rc} (h : xba w hv rs) (K : xaa S w w') (hs : ∀ b, hv.ownBlock = some b → ¬ S b) : xba w' hv rs := by
 rcases h with h | ⟨b, off, n, cap, rfl, h⟩
 · exact Or.inl h
 exact Or.inr ⟨b, off, n, cap, rfl, h.keeps K (hs b rfl)⟩
theorem xbs.lt {w : World} {b off n cap : Nat} {rs : List Rc} (h : xbs w b off n cap rs) (hc : 0 < cap) : b < w.heap.size := by
 by_cases h0 : n < cap
 · obtain ⟨h1, _⟩ := h.spare 0 (by omega)
   obtain ⟨v, hv⟩ := Option.isSome_iff_exists.1 h1
   exact xan hv
 have hl := h.len
 have hle := h.le
 cases rs with
 | nil => simp at hl; omega
 | cons r rs =>
  have : (cellsOf 3 xbe (r :: rs))[0]? = some (xbe r 0) := xaz 3 xbe (r :: rs) 0 r rfl 0 (by omega)
  exact xan (h.cells 0 _ this)
theorem xbs.ofOwn {w : World} {base g n cap : Nat} {rs : List Rc} (h : w.ownsRow base 39 3 (.slice (some ⟨g, 0, none⟩) n cap) n (cellsOf 3 xbe rs)) (hn : n = rs.length) : xbs w g 0 n cap rs := by
 rcases h.2 with ⟨e, _⟩ | ⟨g', cap', cur, e, hg, hh, hle, hm, hsz, hxs⟩
 · simp at e
 obtain ⟨e1, _, rfl⟩ := Value.slice.inj e
 cases e1
 refine ⟨hn, hle, fun j u hj => ?_, fun j hj => ?_⟩
 · have hjl : j < n * 3 := by
    have := (List.getElem?_eq_some_iff.1 hj).1
    rw [xah] at this
    omega
   have := h.cellAt j hjl
   rw [hj] at this
   rw [Nat.zero_add]; exact this
 refine ⟨?_, Lib.frozen_of_heap hh _⟩
 rw [Lib.cell_of_heap hh]
 have : 0 + n * 3 + j < cur.size := by
  rw [hsz]
  have : n * 3 + j < n * 3 + (cap - n) * 3 := by omega
  have e3 : n * 3 + (cap - n) * 3 = cap * 3 := by omega
  omega
 rw [Array.getElem?_eq_getElem this]; rfl
theorem xbs.drop {w : World} {b off n cap : Nat} {r : Rc} {rs : List Rc} (h : xbs w b off n cap (r :: rs)) (o' : Nat) (ho : 1 < cap → o' = off + 3) : xbs w b o' (n - 1) (cap - 1) rs := by
 have hl := h.len
 have hle := h.le
 simp at hl
 have e1 : ∀ j, (cellsOf 3 xbe (r :: rs))[3 + j]? = (cellsOf 3 xbe rs)[j]? := fun j => by
  have : cellsOf 3 xbe (r :: rs) = (List.range 3).map (xbe r) ++ cellsOf 3 xbe rs := by simp [cellsOf]
  rw [this, List.getElem?_append_right (by simp)]
  simp
 refine ⟨by omega, by omega, fun j u hj => ?_, fun j hj => ?_⟩
 · have hj2 : j < rs.length * 3 := by
    have := (List.getElem?_eq_some_iff.1 hj).1
    rwa [xah] at this
   rw [ho (by omega)]
   have := h.cells (3 + j) u (by rw [e1]; exact hj)
   rw [show off + 3 + j = off + (3 + j) by omega]; exact this
 rw [ho (by omega)]
 have := h.spare j (by omega)
 rw [show off + 3 + (n - 1) * 3 + j = off + n * 3 + j by omega]; exact this
theorem xbs.room {w : World} {b off n cap : Nat} {rs : List Rc} (h : xbs w b off n cap rs) (r : Rc) (hr : n + 1 ≤ cap) : xbs (w.setCells b (off + n * 3) [.int .i64 r.n, .int .i64 r.at', .string ⟨r.text.toArray⟩]) b off (n + 1) cap (rs ++ [r]) := by
 have hin := World.cell?_setCells_in b [.int .i64 r.n, .int .i64 r.at', .string ⟨r.text.toArray⟩] (off + n * 3) w (fun j hj => (h.spare j (by simp at hj; omega)).1)
 have hl := h.len
 refine ⟨by simp; omega, hr, fun j u hj => ?_, fun j hj => ?_⟩
 · rw [xai] at hj
   have hlen : (cellsOf 3 xbe rs).length = n * 3 := by rw [xah, hl]
   by_cases h1 : j < n * 3
   · rw [List.getElem?_append_left (by omega)] at hj
     rw [World.cell?_setCells_out b _ _ _ _ (fun _ _ => Or.inl (by show off + j < _; omega))]
     exact h.cells j u hj
   rw [List.getElem?_append_right (by omega), hlen] at hj
   have e1 : cellsOf 3 xbe [r] = [.int .i64 r.n, .int .i64 r.at', .string ⟨r.text.toArray⟩] := rfl
   rw [e1] at hj
   have h2 : j - n * 3 < 3 := by
    have := (List.getElem?_eq_some_iff.1 hj).1
    simpa using this
   have := hin (j - n * 3) (by simpa using h2)
   rw [show off + j = off + n * 3 + (j - n * 3) by omega, this]
   rw [List.getElem?_eq_getElem (by simpa using h2)] at hj
   exact hj
 have hsp := h.spare (3 + j) (by omega)
 rw [World.frozen?_setCells, World.cell?_setCells_out b _ _ _ _ (fun _ _ => Or.inr (by show off + n * 3 + 3 ≤ off + (n + 1) * 3 + j; omega))]
 rw [show off + (n + 1) * 3 + j = off + n * 3 + (3 + j) by omega]
 exact hsp
theorem xi3 (w : World) (b o : Nat) (x y z : Value) : xaa (fun k => k = b) w (w.setCells b o [x, y, z]) :=
 (((xaa.refl (fun k => k = b) w).set (p := ⟨b, o, none⟩) rfl _).set (p := ⟨b, o + 1, none⟩) rfl _).set (p := ⟨b, o + 1 + 1, none⟩) rfl _
def xaU (t : Tel) : List Rc → List (List UInt8) × Tel
 | [] => ([], t)
 | x :: l => (recL t x 45 ++ (xaU (recT t x) l).1, (xaU (recT t x) l).2)
theorem xeX : ∀ (l : List Rc) (t : Tel) (x : Rc), xaU t (l ++ [x]) = ((xaU t l).1 ++ recL (xaU t l).2 x 45, recT (xaU t l).2 x)
 | [], t, x => by simp [xaU]
 | y :: l, t, x => by
  rw [List.cons_append, xaU, xaU, xeX l]
  simp
def ctxP (t : Tel) (r : Rc) (hit : Bool) : List (List UInt8) × Tel :=
 if hit then ((xaU t t.held).1 ++ recL { (xaU t t.held).2 with held := [], more := (xaU t t.held).2.after } r 58, recT { (xaU t t.held).2 with held := [], more := (xaU t t.held).2.after } r)
 else if 0 < t.more then (recL { t with more := t.more - 1 } r 45, recT { t with more := t.more - 1 } r)
 else if 0 < t.before then ([], { t with held := (if t.held.length = t.before then t.held.drop 1 else t.held) ++ [r] })
 else ([], t)
structure xeF (t : Tel) : Prop where
 last : t.last ≤ 1000000
 held : ∀ x ∈ t.held, x.n ≤ 1000000 ∧ x.text.length ≤ 100000
 len : t.held.length ≤ 100000
 more : t.more ≤ 100000
 after : t.after ≤ 100000
 before : t.before ≤ 100000
theorem xdz : ∀ (l : List Rc) (t : Tel), t.last ≤ 1000000 → (∀ x ∈ l, x.n ≤ 1000000) → (xaU t l).2.last ≤ 1000000 ∧ (xaU t l).2.after = t.after ∧ (xaU t l).2.before = t.before ∧ (xaU t l).1.length ≤ 2 * l.length
 | [], t, h, _ => ⟨h, rfl, rfl, by simp [xaU]⟩
 | x :: l, t, h, hx => by
  obtain ⟨h1, h2, h3, h4⟩ := xdz l (recT t x) (hx x (by simp)) (fun y hy => hx y (by simp [hy]))
  refine ⟨h1, h2, h3, ?_⟩
  rw [xaU]
  have : (recL t x 45).length ≤ 2 := by
   unfold recL
   split <;> simp
  simp only [List.length_append, List.length_cons]
  omega
def CtE (p : List (List UInt8) × Tel) (tb : Nat) (hv : Value) (w : World) (e : Ending) (w' : World) : Prop :=
 ∃ v hv', e = .returned v ∧ w'.ownsRow w.heap.size 9 1 v p.1.length (p.1.map strL) ∧ TelC w' tb p.2 hv' ∧ xba w' hv' p.2.held ∧ (∀ b, hv'.ownBlock = some b → hv.ownBlock = some b ∨ (w.heap.size ≤ b ∧ b < w'.heap.size)) ∧ (∀ b, hv'.ownBlock = some b → v.ownBlock ≠ some b) ∧ xaa (fun k => k = tb ∨ hv.ownBlock = some k) w w'
theorem TelC.more {w : World} {tb : Nat} {t : Tel} {hv : Value} (h : TelC w tb t hv) (k : Nat) : TelC (w.setCell ⟨tb, 6, none⟩ (.int .i64 k)) tb { t with more := k } hv := by
 refine ⟨?_, h.ne⟩
 have := h.bk
 simp [World.setCell, Array.getElem?_modify, this]
theorem TelC.heldTo {w : World} {tb : Nat} {t : Tel} {hv : Value} (h : TelC w tb t hv) (hv' : Value) (l : List Rc) : TelC (w.setCell ⟨tb, 5, none⟩ hv') tb { t with held := l } hv' := by
 refine ⟨?_, h.ne⟩
 have := h.bk
 simp [World.setCell, Array.getElem?_modify, this]
set_option maxHeartbeats 8000000 in
theorem xl7 (t : Tel) (r : Rc) (tb : Nat) (hv : Value) (w : World) (H : TelC w tb t hv) (hh : xba w hv t.held) (hlt : ∀ b, hv.ownBlock = some b → b < w.heap.size) (hm : ¬ 0 < t.more) (hb : ¬ 0 < t.before) :
 Calls Tryz.prog 51 #[.pointer (some ⟨tb, 0, none⟩), rcV r, .bool false] w (CtE (ctxP t r false) tb hv w) := by
 obtain ⟨c0, c1, c2, c3, c4, c5, c6, c7, c8, c9, c10⟩ := H.c
 clear c0 c2 c3 c4 c5 c7 c8 c9 c10
 have HP : Hid (ctxP t r false = ([], t)) := xmA (by unfold ctxP; simp [hm, hb])
 have HC := xmA H
 have HH := xmA hh
 have HL := xmA hlt
 have hlb := H.lt
 have g1 : decide ((0 : Int) < (t.more : Int)) = false := by simp; omega
 have g2 : decide ((0 : Int) < (t.before : Int)) = false := by simp; omega
 unfold rcV CtE
 generalize ctxP t r false = P at *
 have g3 : decide (0 < t.more) = false := by simpa using hm
 have g4 : decide (0 < t.before) = false := by simpa using hb
 clear H hh hlt hm hb
 generalize t.more = mo at *
 generalize t.before = be at *
 go_enter Tryz.func51, Tryz.ntmps51
 go_wp2_with fail
 go_ret
 rw [HP.out]
 have k0 : xaa (fun k => k = tb ∨ hv.ownBlock = some k) w (w.alloc (.cells #[.int .i64 r.n, .int .i64 r.at', .string ⟨r.text.toArray⟩] 39)) := (xaa.refl _ _).alloc _
 have k1 : xaa (fun _ => False) w (w.alloc (.cells #[.int .i64 r.n, .int .i64 r.at', .string ⟨r.text.toArray⟩] 39)) := (xaa.refl _ _).alloc _
 exact ⟨_, hv, rfl, World.ownsRow_nil _ _ _ _, HC.out.keeps k1 id, HH.out.keeps k1 (fun _ _ => id), fun b hb => Or.inl hb, fun b _ => by simp [Value.ownBlock], k0⟩
set_option maxHeartbeats 8000000 in
theorem xl8 (t : Tel) (r : Rc) (tb : Nat) (hv : Value) (w : World) (H : TelC w tb t hv) (hh : xba w hv t.held) (hlt : ∀ b, hv.ownBlock = some b → b < w.heap.size ∧ b ≠ tb) (hok : xeF t) (hT : TabW w) (hn : r.n ≤ 1000000) (ht : r.text.length ≤ 100000) (hm : 0 < t.more) :
 Calls Tryz.prog 51 #[.pointer (some ⟨tb, 0, none⟩), rcV r, .bool false] w (CtE (ctxP t r false) tb hv w) := by
 obtain ⟨c0, c1, c2, c3, c4, c5, c6, c7, c8, c9, c10⟩ := H.c
 clear c0 c1 c2 c3 c4 c5 c7 c8 c9 c10
 have y6 := H.fz 6
 have HP : Hid (ctxP t r false = (recL { t with more := t.more - 1 } r 45, recT { t with more := t.more - 1 } r)) := xmA (by unfold ctxP; simp [hm])
 have HH := xmA hh
 have HL := xmA hlt
 have hlb := H.lt
 have g1 : decide ((0 : Int) < (t.more : Int)) = true := by simp; omega
 have hmo := hok.more
 have hww : IntKind.i64.wrap ((t.more : Int) - 1) = (t.more : Int) - 1 := IntWalk.i64_in _ (by omega)
 have he : (t.more : Int) - 1 = ((t.more - 1 : Nat) : Int) := by omega
 obtain ⟨w1, hw1⟩ : ∃ W, (w.setCell ⟨tb, 6, none⟩ (.int .i64 ((t.more : Int) - 1))).alloc (.cells #[.int .i64 r.n, .int .i64 r.at', .string ⟨r.text.toArray⟩] 39) = W := ⟨_, rfl⟩
 have hk1 : xaa (fun b => b = tb) w w1 := by
  rw [← hw1]
  exact ((xaa.refl (fun b => b = tb) w).set (p := ⟨tb, 6, none⟩) rfl _).alloc _
 have HC1 : Hid (TelC w1 tb { t with more := t.more - 1 } hv) := xmA (by
  rw [← hw1, he]
  exact (H.more (t.more - 1)).keeps (S := fun _ => False) ((xaa.refl _ _).alloc _) id)
 have HT1 := xmA (hT.keepsS hk1 (fun e => H.ne e.symm))
 have HR := xmA (xcI { t with more := t.more - 1 } r 45 tb hv w1 HC1.out HT1.out hn ht hok.last)
 have HK1 := xmA hk1
 have HW := xmA hw1
 unfold RcE at HR
 unfold rcV at HR
 unfold rcV CtE
 generalize ctxP t r false = P at *
 have g3 : decide (0 < t.more) = true := by simpa using hm
 clear H hh hlt hm hT hok he hw1 hk1
 generalize hmo : t.more = mo at *
 clear hmo
 go_enter Tryz.func51, Tryz.ntmps51
 go_wp2_with fail
 rw [HW.out]
 refine HR.out.mono ?_
 rintro e w2 ⟨v, rfl, hO, hC2, k2⟩
 have HO := xmA hO
 have HC2 := xmA hC2
 have HK2 := xmA (HK1.out.trans k2)
 have hs1 := HK1.out.size
 clear hO hC2 k2
 go_wp2_with fail
 go_ret
 rw [HP.out]
 refine ⟨_, hv, rfl, xag HO.out hs1, HC2.out, HH.out.keeps HK2.out (fun b hb => (HL.out b hb).2), fun b hb => Or.inl hb, fun b hb e => ?_, HK2.out.mono (fun _ _ h => Or.inl h)⟩
 have := xab HO.out b e
 have := (HL.out b hb).1
 omega
def HoR (t : Tel) (l1 : List Rc) (tb c : Nat) (r : Rc) (hv : Value) (w1 wc : World) : Prop :=
 ∃ hv1, TelC wc tb t hv1 ∧ xba wc hv1 l1 ∧ (∀ b, hv1.ownBlock = some b → hv.ownBlock = some b) ∧ xaa (fun b => b = tb) w1 wc ∧ wc.cell? ⟨c, 0, none⟩ = some (.int .i64 r.n) ∧ wc.cell? ⟨c, 1, none⟩ = some (.int .i64 r.at') ∧ wc.cell? ⟨c, 2, none⟩ = some (.string ⟨r.text.toArray⟩)
theorem xfi (b off j : Nat) : (⟨b, off, none⟩ : Addr).add j = ⟨b, off + j, none⟩ := by
 unfold Addr.add; split <;> simp_all
theorem xft {w : World} {base : Nat} {e : TypeId} {size n : Nat} {v : Value} {xs : List Value} (h : w.ownsRow base e size v n xs) (h0 : 0 < n) : ∃ g cap, v = .slice (some ⟨g, 0, none⟩) n cap ∧ base ≤ g ∧ g < w.heap.size := by
 rcases h.2 with ⟨rfl, hn⟩ | ⟨g, cap, cur, rfl, hg, hh, hn, _⟩
 · omega
 exact ⟨g, cap, rfl, hg, (Array.getElem?_eq_some_iff.1 hh).1⟩
theorem xdL {w w' : World} (h : w.grownBy w' none) : xaa (fun _ => False) w w' := (xaa.refl _ _).grown h (fun b hb => by cases hb)
theorem xe9 {w : World} {base g n cap : Nat} {l : List Rc} {r : Rc} {olds : List Value} (h : w.ownsRow base 39 3 (.slice (some ⟨g, 0, none⟩) n cap) n (olds ++ [.int .i64 (r.n : Int), .int .i64 (r.at' : Int), .string ⟨r.text.toArray⟩])) (ho : olds = cellsOf 3 xbe l) (hn : n = (l ++ [r]).length) : xbs w g 0 n cap (l ++ [r]) := by
 subst ho
 refine xbs.ofOwn (base := base) ?_ hn
 rw [xai]
 exact h
set_option maxHeartbeats 8000000 in
theorem xl9 (t : Tel) (r : Rc) (tb : Nat) (hv : Value) (w : World) (H : TelC w tb t hv) (hh : xba w hv t.held) (hlt : ∀ b, hv.ownBlock = some b → b < w.heap.size ∧ b ≠ tb) (hok : xeF t) (hm : ¬ 0 < t.more) (hb : 0 < t.before) :
 Calls Tryz.prog 51 #[.pointer (some ⟨tb, 0, none⟩), rcV r, .bool false] w (CtE (ctxP t r false) tb hv w) := by
 obtain ⟨i0, hi, hz0, hz1, hz2⟩ := info_parts xhu
 obtain ⟨c0, c1, c2, c3, c4, c5, c6, c7, c8, c9, c10⟩ := H.c
 clear c0 c2 c3 c4 c7 c8 c9 c10
 obtain ⟨l1, hl1⟩ : ∃ l1, (if t.held.length = t.before then t.held.drop 1 else t.held) = l1 := ⟨_, rfl⟩
 obtain ⟨T', hT'⟩ : ∃ T', { t with held := l1 ++ [r] } = T' := ⟨_, rfl⟩
 have HP : Hid (ctxP t r false = ([], T')) := xmA (by unfold ctxP; rw [if_neg (by simp), if_neg hm, if_pos hb, hl1, hT'])
 have HTo : Hid (∀ (W : World) (u u' : Value), TelC W tb t u → TelC (W.setCell ⟨tb, 5, none⟩ u') tb T' u') := xmA (fun W u u' h => by rw [← hT']; exact h.heldTo u' _)
 have HTh : Hid (T'.held = l1 ++ [r]) := xmA (by rw [← hT'])
 clear hT'
 have HL1 := xmA hl1
 have hll : l1.length ≤ 100000 := by
  have := hok.len
  rw [← hl1]; split
  · rw [List.length_drop]; omega
  exact this
 have HC := xmA H
 have HH := xmA hh
 have HL := xmA hlt
 have hlb := H.lt
 have g1 : decide ((0 : Int) < (t.more : Int)) = false := by simp; omega
 have g2 : decide ((0 : Int) < (t.before : Int)) = true := by simp; omega
 have g3 : decide (0 < t.more) = false := by simpa using hm
 have g4 : decide (0 < t.before) = true := by simpa using hb
 have hb0 := hb
 unfold rcV CtE
 generalize ctxP t r false = P at *
 clear H hh hlt hm hl1 hok
 generalize hmo : t.more = mo at *
 generalize hbe : t.before = be at *
 have Hbe := xmA hbe
 clear hmo hbe
 go_enter Tryz.func51, Tryz.ntmps51
 obtain ⟨a0, n, cap, rfl⟩ : ∃ a0 n cap, hv = .slice a0 n cap := by
  rcases HH.out with ⟨rfl, _⟩ | ⟨b, off, n, cap, rfl, _⟩
  · exact ⟨_, _, _, rfl⟩
  exact ⟨_, _, _, rfl⟩
 go_upto_region 15 with fail
 obtain ⟨w1, hw1⟩ : ∃ W, w.alloc (.cells #[.int .i64 (r.n : Int), .int .i64 (r.at' : Int), .string ⟨r.text.toArray⟩] 39) = W := ⟨_, rfl⟩
 rw [hw1]
 have hk1 : xaa (fun _ => False) w w1 := by rw [← hw1]; exact (xaa.refl _ _).alloc _
 have z0 : w1.cell? ⟨w.heap.size, 0, none⟩ = some (.int .i64 (r.n : Int)) := by rw [← hw1]; simp [go_sem]
 have z1 : w1.cell? ⟨w.heap.size, 1, none⟩ = some (.int .i64 (r.at' : Int)) := by rw [← hw1]; simp [go_sem]
 have z2 : w1.cell? ⟨w.heap.size, 2, none⟩ = some (.string ⟨r.text.toArray⟩) := by rw [← hw1]; simp [go_sem]
 have d1 := hk1.cell c1 id
 have d5 := hk1.cell c5 id
 have HK1 := xmA hk1
 have HC1 := xmA (HC.out.keeps hk1 id)
 have HH1 := xmA (HH.out.keeps hk1 (fun _ _ => id))
 clear hw1 hk1 c1 c5 c6
 obtain ⟨q, hq⟩ : ∃ q : Bool, ((n : Int) == (be : Int)) = q := ⟨_, rfl⟩
 go_cut [73] (fun v wc => v = .bool q ∧ ∃ k, wc = w1.drewN k)
 case first =>
  go_quiet (fail)
  go_wp2_with fail
  go_meet
  exact ⟨by rw [← hq], _, rfl⟩
 case rest =>
  obtain ⟨rfl, k, rfl⟩ := hcut
  have HQ := xmA hq
  clear hq
  go_upto_if 73 with fail
  go_cut [] (fun wc => HoR t l1 tb w.heap.size r (.slice a0 n cap) w1 wc)
  case first =>
   cases q with
   | false =>
    have hl : Hid (l1 = t.held) := xmA (by
     have hne : n ≠ be := by
      intro e; have := HQ.out; rw [e] at this; simp at this
     have hn : n = t.held.length := by
      rcases HH.out with ⟨e, e2⟩ | ⟨b, off, n', cap', e, h⟩
      · rw [e2]; exact (Value.slice.inj e).2.1
      rw [(Value.slice.inj e).2.1]; exact h.len
     rw [← HL1.out, if_neg (by omega)])
    go_wp2_with fail
    go_meet
    have kd : xaa (fun _ => False) w1 (w1.drewN k) := (xaa.refl _ _).drawN k
    rw [hl.out]
    exact ⟨_, HC1.out.keeps kd id, HH1.out.keeps kd (fun _ _ => id), fun b hb => hb, kd.mono (fun _ _ h => h.elim), z0, z1, z2⟩
   | true =>
    rcases HH1.out with ⟨e, he⟩ | ⟨b, off, n', cap', e, hSo⟩
    · obtain ⟨rfl, rfl, rfl⟩ := Value.slice.inj e
      exact absurd HQ.out (by simp; omega)
    obtain ⟨rfl, rfl, rfl⟩ := Value.slice.inj e
    have hne : n = be := by have := HQ.out; simp at this; omega
    have hln := hSo.len
    have hle := hSo.le
    obtain ⟨x, rs, hxr⟩ : ∃ x rs, t.held = x :: rs := by
     cases hq : t.held with
     | nil => rw [hq] at hln; simp at hln; omega
     | cons x rs => exact ⟨x, rs, rfl⟩
    have hl : Hid (l1 = rs) := xmA (by rw [← HL1.out, if_pos (by omega), hxr]; rfl)
    rw [hxr] at hSo
    have HSo := xmA hSo
    have hbtb : b ≠ tb := (HL.out b rfl).2
    have kd : xaa (fun _ => False) w1 (w1.drewN k) := (xaa.refl _ _).drawN k
    have hCd := HC1.out.keeps kd id
    have e5 := hCd.c.2.2.2.2.2.1
    have y5 := hCd.fz 5
    have hltd := hCd.lt
    have HCd := xmA hCd
    have HKd := xmA kd
    have hn1 : (1 : Int) ≤ (n : Int) := by omega
    have hn2 : 1 ≤ n := by omega
    clear hSo hxr e hCd kd hln hne
    by_cases hc1 : cap = 1
    · subst hc1
      obtain rfl : n = 1 := by omega
      have hk2 : xaa (fun b => b = tb) (w1.drewN k) ((w1.drewN k).setCell ⟨tb, 5, none⟩ (.slice (some ⟨b, off, none⟩) 0 0)) := (xaa.refl (fun b => b = tb) _).set (p := ⟨tb, 5, none⟩) rfl _
      have HK2 := xmA hk2
      have HC2 := xmA (HCd.out.heldTo (.slice (some ⟨b, off, none⟩) 0 0) t.held)
      have HS2 := xmA (((HSo.out.keeps HKd.out id).keeps hk2 hbtb).drop off (fun h => by omega))
      clear hk2
      go_wp2_with fail
      go_meet
      rw [hl.out]
      exact ⟨_, HC2.out, Or.inr ⟨b, off, 0, 0, rfl, HS2.out⟩, fun b' hb' => hb', (HKd.out.mono (fun _ _ h => h.elim)).trans HK2.out, HK2.out.cell (HKd.out.cell z0 id) (by show ¬ w.heap.size = tb; omega), HK2.out.cell (HKd.out.cell z1 id) (by show ¬ w.heap.size = tb; omega), HK2.out.cell (HKd.out.cell z2 id) (by show ¬ w.heap.size = tb; omega)⟩
    have hc2 : 1 < cap := by omega
    have hk2 : xaa (fun b => b = tb) (w1.drewN k) ((w1.drewN k).setCell ⟨tb, 5, none⟩ (.slice (some ⟨b, off + 3, none⟩) (n - 1) (cap - 1))) := (xaa.refl (fun b => b = tb) _).set (p := ⟨tb, 5, none⟩) rfl _
    have HK2 := xmA hk2
    have HC2 := xmA (HCd.out.heldTo (.slice (some ⟨b, off + 3, none⟩) (n - 1) (cap - 1)) t.held)
    have HS2 := xmA (((HSo.out.keeps HKd.out id).keeps hk2 hbtb).drop (off + 3) (fun h => rfl))
    clear hk2 hc1
    go_wp2_with fail
    go_meet
    rw [hl.out]
    exact ⟨_, HC2.out, Or.inr ⟨b, off + 3, n - 1, cap - 1, rfl, HS2.out⟩, fun b' hb' => hb', (HKd.out.mono (fun _ _ h => h.elim)).trans HK2.out, HK2.out.cell (HKd.out.cell z0 id) (by show ¬ w.heap.size = tb; omega), HK2.out.cell (HKd.out.cell z1 id) (by show ¬ w.heap.size = tb; omega), HK2.out.cell (HKd.out.cell z2 id) (by show ¬ w.heap.size = tb; omega)⟩
  case rest =>
   obtain ⟨hv1, hC, hH, hbl, hkc, e0, e1, e2⟩ := hcut
   have f5 := hC.c.2.2.2.2.2.1
   have y5 := hC.fz 5
   have hlc := hC.lt
   have HCc := xmA hC
   have HKc := xmA hkc
   have HBl := xmA hbl
   clear hC hkc hbl
   have hkA : xaa (fun _ => False) wc (wc.alloc (.cells #[.int .i64 (r.n : Int), .int .i64 (r.at' : Int), .string ⟨r.text.toArray⟩] 39)).drew := ((xaa.refl _ _).alloc _).drew
   have HCA := xmA (HCc.out.keeps hkA id)
   have HKA : Hid (xaa (fun b => b = tb) w (wc.alloc (.cells #[.int .i64 (r.n : Int), .int .i64 (r.at' : Int), .string ⟨r.text.toArray⟩] 39)).drew) := xmA ((((HK1.out.mono (fun _ _ h => h.elim)).trans HKc.out).trans (hkA.mono (fun _ _ h => h.elim))))
   have hN := xmA (xak wc [.int .i64 (r.n : Int), .int .i64 (r.at' : Int), .string ⟨r.text.toArray⟩] 39)
   have hsA : (wc.alloc (.cells #[.int .i64 (r.n : Int), .int .i64 (r.at' : Int), .string ⟨r.text.toArray⟩] 39)).drew.heap.size = wc.heap.size + 1 := by show (wc.alloc _).heap.size = _; simp
   have hwc : w.heap.size ≤ wc.heap.size := Nat.le_trans HK1.out.size HKc.out.size
   rcases hH with ⟨rfl, rfl⟩ | ⟨b, off, m, cap1, rfl, hSo⟩
   · go_wp2_with fail
     go_region_law (first | (refine step_append_grows rfl (.tmp 86) (.tmp 88) 61 rfl 39 i0 _ 3 32 Tryz.underlying61 hi hz0 hz1 hz2 rfl (by decide) none 0 0 [] (by simp [Act.eval, Act.put]) (fun _ => ⟨rfl, rfl⟩) rfl (fun b h => by cases h) ⟨wc.heap.size, 0, none⟩ 1 1 [.int .i64 (r.n : Int), .int .i64 (r.at' : Int), .string ⟨r.text.toArray⟩] (by simp [Act.eval, Act.put]) rfl hN.out (by simp [Value.oneCell']) (by omega) (by unfold maxLen; omega) (by omega) ?_; intro vG wG hownG hgrowG; obtain ⟨gg, cG, rfl, hgG, hgl⟩ := xft hownG (by omega); have hkG := xdL hgrowG; have hCG := HCA.out.keeps hkG id; have c5G := hCG.c.2.2.2.2.2.1; have y5G := hCG.fz 5; have hltG := hCG.lt))
     all_goals
      have HR := xmA (HTo.out _ _ (.slice (some ⟨gg, 0, none⟩) (0 + 1) cG) hCG)
      have HSG := xmA (xe9 hownG (l := []) (r := r) rfl (by first | (simp; done) | (have := Hm.out; simp; omega)))
      have HKG := xmA (HKA.out.trans (hkG.mono (fun _ _ h => h.elim)))
      clear hownG hgrowG hkG hCG
      go_wp2_with fail
      go_ret
      rw [HP.out]
      show ∃ v hv', _ ∧ _ ∧ _ ∧ xba _ hv' T'.held ∧ _
      rw [HTh.out]
      refine ⟨_, _, rfl, World.ownsRow_nil _ _ _ _, HR.out, Or.inr ⟨gg, 0, _, cG, rfl, HSG.out.keeps (S := fun k => k = tb) (KI.out) (by show ¬ gg = tb; omega)⟩, fun b' hb' => Or.inr ?_, fun _ _ => by simp [Value.ownBlock], ?_⟩
      · have := (show gg = b' from Option.some.inj hb')
        have hg1 := HSG.out.le
        have hg2 := HSG.out.len
        simp only [List.length_append, List.length_singleton] at hg2
        have hg3 := HSG.out.lt (by omega)
        exact ⟨by omega, by subst this; simpa [World.setCell] using hg3⟩
      exact (HKG.out.mono (fun _ _ h => Or.inl h)).setCell (p := ⟨tb, 5, none⟩) (Or.inl (Or.inl rfl)) _
   have hbtb : b ≠ tb := (HL.out b (HBl.out b rfl)).2
   have hblt := (HL.out b (HBl.out b rfl)).1
   have Hm := xmA hSo.len
   have hml : m ≤ 100000 := by have := hSo.len; omega
   have hSA := xmA (hSo.keeps hkA id)
   clear hSo
   by_cases hroom : m + 1 ≤ cap1
   · have hsp : ∀ j, j < 3 → ((wc.alloc (.cells #[.int .i64 (r.n : Int), .int .i64 (r.at' : Int), .string ⟨r.text.toArray⟩] 39)).drew.cell? ⟨b, off + m * 3 + j, none⟩).isSome = true ∧ (wc.alloc (.cells #[.int .i64 (r.n : Int), .int .i64 (r.at' : Int), .string ⟨r.text.toArray⟩] 39)).drew.frozen? ⟨b, off + m * 3 + j, none⟩ = false := fun j hj => hSA.out.spare j (by omega)
     have HSp := xmA hsp
     obtain ⟨wR, hwR⟩ : ∃ W, (wc.alloc (.cells #[.int .i64 (r.n : Int), .int .i64 (r.at' : Int), .string ⟨r.text.toArray⟩] 39)).drew.setCells b (off + m * 3) [.int .i64 (r.n : Int), .int .i64 (r.at' : Int), .string ⟨r.text.toArray⟩] = W := ⟨_, rfl⟩
     have kR : xaa (fun k => k = b) (wc.alloc (.cells #[.int .i64 (r.n : Int), .int .i64 (r.at' : Int), .string ⟨r.text.toArray⟩] 39)).drew wR := by rw [← hwR]; exact xi3 _ _ _ _ _ _
     have hCR := HCA.out.keeps kR (fun e => hbtb e.symm)
     have hSR : xbs wR b off (m + 1) cap1 (l1 ++ [r]) := by rw [← hwR]; exact hSA.out.room r hroom
     have c5R := hCR.c.2.2.2.2.2.1
     have y5R := hCR.fz 5
     have HR := xmA (HTo.out _ _ (.slice (some ⟨b, off, none⟩) (m + 1) cap1) hCR)
     have HSR := xmA hSR
     have HKR := xmA kR
     have hWR := xmA hwR
     have hwRs := hCR.lt
     clear hwR hsp kR hCR hSR
     go_wp2_with fail
     go_region_law (first | (refine step_append_room rfl (.tmp 86) (.tmp 88) 61 rfl 39 i0 3 Tryz.underlying61 hi hz1 b off m cap1 (by simp [Act.eval, Act.put]) ⟨wc.heap.size, 0, none⟩ 1 1 [.int .i64 (r.n : Int), .int .i64 (r.at' : Int), .string ⟨r.text.toArray⟩] (by simp [Act.eval, Act.put]) rfl hN.out (by simp [Value.oneCell']) hroom HSp.out ?_; rw [hWR.out]))
     all_goals
      go_wp2_with fail
      go_ret
      rw [HP.out]
      show ∃ v hv', _ ∧ _ ∧ _ ∧ xba _ hv' T'.held ∧ _
      rw [HTh.out]
      refine ⟨_, _, rfl, World.ownsRow_nil _ _ _ _, HR.out, Or.inr ⟨b, off, m + 1, cap1, rfl, HSR.out.keeps (S := fun k => k = tb) (KI.out) hbtb⟩, fun b' hb' => Or.inl ?_, fun _ _ => by simp [Value.ownBlock], ?_⟩
      · have := Option.some.inj hb'
        exact HBl.out b' (by rw [← this]; rfl)
      have hb2 := HBl.out b rfl
      have k1 : xaa (fun k => k = tb ∨ (Value.slice a0 n cap).ownBlock = some k) w wR := (HKA.out.mono (fun _ _ h => Or.inl h)).trans2 HKR.out (fun i hi e => Or.inr (by rw [hb2, e]))
      exact k1.setCell (p := ⟨tb, 5, none⟩) (Or.inl (Or.inl rfl)) _
   go_wp2_with fail
   go_region_law (first | (refine step_append_grows rfl (.tmp 86) (.tmp 88) 61 rfl 39 i0 _ 3 32 Tryz.underlying61 hi hz0 hz1 hz2 rfl (by decide) (some ⟨b, off, none⟩) m cap1 (cellsOf 3 xbe l1) (by simp [Act.eval, Act.put]) (fun h => by cases h) (by rw [xah, ← Hm.out]) (fun a h j u hj => by cases h; exact (by rw [xfi]; exact hSA.out.cells j u hj)) ⟨wc.heap.size, 0, none⟩ 1 1 [.int .i64 (r.n : Int), .int .i64 (r.at' : Int), .string ⟨r.text.toArray⟩] (by simp [Act.eval, Act.put]) rfl hN.out (by simp [Value.oneCell']) (by omega) (by unfold maxLen; omega) (by omega) ?_; intro vG wG hownG hgrowG; obtain ⟨gg, cG, rfl, hgG, hgl⟩ := xft hownG (by omega); have hkG := xdL hgrowG; have hCG := HCA.out.keeps hkG id; have c5G := hCG.c.2.2.2.2.2.1; have y5G := hCG.fz 5; have hltG := hCG.lt))
   all_goals
    have HR := xmA (HTo.out _ _ (.slice (some ⟨gg, 0, none⟩) (m + 1) cG) hCG)
    have HSG := xmA (xe9 hownG (l := l1) (r := r) rfl (by first | (simp; done) | (have := Hm.out; simp; omega)))
    have HKG := xmA (HKA.out.trans (hkG.mono (fun _ _ h => h.elim)))
    clear hownG hgrowG hkG hCG
    go_wp2_with fail
    go_ret
    rw [HP.out]
    show ∃ v hv', _ ∧ _ ∧ _ ∧ xba _ hv' T'.held ∧ _
    rw [HTh.out]
    refine ⟨_, _, rfl, World.ownsRow_nil _ _ _ _, HR.out, Or.inr ⟨gg, 0, _, cG, rfl, HSG.out.keeps (S := fun k => k = tb) (KI.out) (by show ¬ gg = tb; omega)⟩, fun b' hb' => Or.inr ?_, fun _ _ => by simp [Value.ownBlock], ?_⟩
    · have := (show gg = b' from Option.some.inj hb')
      have hg1 := HSG.out.le
      have hg2 := HSG.out.len
      simp only [List.length_append, List.length_singleton] at hg2
      have hg3 := HSG.out.lt (by omega)
      exact ⟨by omega, by subst this; simpa [World.setCell] using hg3⟩
    exact (HKG.out.mono (fun _ _ h => Or.inl h)).setCell (p := ⟨tb, 5, none⟩) (Or.inl (Or.inl rfl)) _
end Go.Proofs.YtjahiihmoglpfaaGreatDoor
