/-
  Several texts in one: model's read. model.Right at a job whose numbers are in their bounds. reference 05's Texts: are two lists of texts the same? append on a row of one's own: its new block is the old one or a new one. What model.Run tells, as plain words. How many records there are, and how long.
-/
import Derived.Test.YtjahiihmoglpfaaGreatDoorMg29
namespace Go.Proofs.YtjahiihmoglpfaaGreatDoor
open Go.RowKit
set_option linter.unusedVariables false
set_option linter.unusedSimpArgs false
set_option maxRecDepth 100000
theorem xcX {P : Program} {w : World} {ops : Array Oper} {rest : List Oper} {o : Oper} {a : Act} {Q : Exit → Act → World → Prop} (hgd : o.guard = none) (s x : Operand) (t : TypeId)
 (ho : o.op = .call { callee := .builtin .append, args := #[s, x], argTypes := #[t, t] })
 (base : Nat) (e : TypeId) (i : TypeInfo) (z : Value) (size bytes : Nat) (ht : P.underlying t = some (.slice e)) (hi : P.info? e = some i) (hz : i.zero = some z)
 (hsize : i.size = size) (hby : i.bytes = bytes) (hzs : z.cells.size = size) (hsz : 0 < size)
 (v : Value) (n : Nat) (xs : List Value) (hs : a.eval s = v) (hown : w.ownsRow base e size v n xs)
 (y : Value) (m : Nat) (ys : List Value) (base2 : Nat) (hx : a.eval x = y) (hy : w.ownsRow base2 e size y m ys) (h1 : ∀ u ∈ ys, u.oneCell' = true)
 (h63 : n + m ≤ maxLen) (hbytes : (n + m) * bytes ≤ 140737488355328) (hbase : base ≤ w.heap.size)
 (h : ∀ v' w', w'.ownsRow base e size v' (n + m) (xs ++ ys) → w.grownBy w' v.ownBlock → wpList P ops Q rest (a.put o.dst v') w') : wpList P ops Q (o :: rest) a w := by
 have hy0 := hy
 obtain ⟨hl, ⟨rfl, rfl⟩ | ⟨g, cap, cur, rfl, hb2, hg, hmc, hcm, hcs, htake⟩⟩ := hy
 · have : ys = [] := List.eq_nil_of_length_eq_zero (by simpa using hl)
   subst this
   exact wpList_append_own_none hgd s x t ho base e i size ht hi v n xs hs hown hx (h v w (by simpa using hown) ⟨rfl, rfl, rfl, Nat.le_refl _, fun _ _ _ => rfl⟩)
 exact wpList_append_own _ hgd s x t ho base e i z size bytes ht hi hz hsize hby hzs hsz v n xs hs hown ⟨g, 0, none⟩ m cap ys hx hl (hy0.cells (g := g) rfl) h1 h63 hbytes hbase (fun v' w' a1 a2 _ => h v' w' a1 a2)
theorem rc_one (l : List Rc) : ∀ u ∈ cellsOf 3 xbe l, u.oneCell' = true := by
 intro u hu
 obtain ⟨r, _, hr⟩ := List.mem_flatMap.1 hu
 obtain ⟨j, _, rfl⟩ := List.mem_map.1 hr
 unfold xbe
 split
 · rfl
 split <;> rfl
theorem SlOf.take {w : World} {a : Option Addr} {n c : Nat} {l : List UInt8} (h : SlOf 1 encB w (.slice a n c) l) (k : Nat) (hk : k ≤ n) : SlOf 1 encB w (.slice a k c) (l.take k) := by
 obtain ⟨a', c', e, ⟨h1, h2⟩, h3, h4⟩ := h
 obtain ⟨rfl, rfl, rfl⟩ := Value.slice.inj e
 have hl : (l.take k).length = k := by rw [List.length_take]; omega
 refine ⟨a, c, by rw [hl], ⟨by omega, h2⟩, by omega, fun h0 => ?_⟩
 obtain ⟨b, off, rfl, hc⟩ := h4 (by omega)
 refine ⟨b, off, rfl, fun i x hx j hj => hc i x ?_ j hj⟩
 rw [List.getElem?_take] at hx
 split at hx
 · exact hx
 cases hx
def xeH (cd : Int) (mo : Nat) (data : List UInt8) : List Rc × Int :=
 ((splA mo (decW (decN cd) data).1 0 0).1, if (splA mo (decW (decN cd) data).1 0 0).2.1 = 0 then 11 else (splA mo (decW (decN cd) data).1 0 0).2.1)
def xbv (cd : Int) (data : List UInt8) : List UInt8 := (decW (decN cd) data).1 ++ (xbk true (decW (decN cd) data).2).1
def xdP (cd : Int) (mo : Nat) (data : List UInt8) : List Rc × Int :=
 if (splA mo (xbv cd data) 0 0).2.1 ≠ 0 then ((splA mo (xbv cd data) 0 0).1, (splA mo (xbv cd data) 0 0).2.1)
 else ((splA mo (xbv cd data) 0 0).1 ++ (sclP mo (splA mo (xbv cd data) 0 0).2.2.1 (splA mo (xbv cd data) 0 0).2.2.2.1 (splA mo (xbv cd data) 0 0).2.2.2.2).1,
  (sclP mo (splA mo (xbv cd data) 0 0).2.2.1 (splA mo (xbv cd data) 0 0).2.2.2.1 (splA mo (xbv cd data) 0 0).2.2.2.2).2)
def RdE (r : List Rc × Int) (w : World) (e : Ending) (w' : World) : Prop :=
 ∃ v, e = .returned (.tuple #[v, .int .i64 r.2]) ∧ w'.ownsRow w.heap.size 39 3 v r.1.length (cellsOf 3 xbe r.1) ∧ xaa (fun _ => False) w w'
theorem xfl (most : Nat) : ∀ (k : Nat) (h : List UInt8) (n p : Nat), h.length ≤ k → (splA most h n p).1.length ≤ h.length ∧ (splA most h n p).2.2.1.length ≤ h.length ∧ (splA most h n p).2.2.2.1 ≤ n + h.length ∧ (splA most h n p).2.2.2.2 ≤ p + h.length ∧ ((splA most h n p).2.1 = 0 ∨ (splA most h n p).2.1 = 10) ∧
 (∀ r ∈ (splA most h n p).1, r.n ≤ n + h.length ∧ r.text.length ≤ h.length) := by
 intro k
 induction k with
 | zero =>
  intro h n p hk
  obtain rfl : h = [] := List.length_eq_zero_iff.1 (by omega)
  have e : splA most [] n p = ([], 0, [], n, p) := by rw [xbZ _ _ _ _ (by simp), if_neg (by simp)]
  rw [e]
  simp
 | succ k ih =>
  intro h n p hk
  by_cases g1 : nlP h < h.length
  · rw [xci most h n p g1]
    by_cases g2 : most < (noCr (h.take (nlP h))).length
    · rw [if_pos g2]; simp
    rw [if_neg g2]
    have hd : (h.drop (nlP h + 1)).length = h.length - (nlP h + 1) := List.length_drop
    obtain ⟨h1, h2, h3, h4, h5, h6⟩ := ih (h.drop (nlP h + 1)) (n + 1) (p + (nlP h + 1)) (by omega)
    refine ⟨by simp only [List.length_cons]; omega, by show (splA _ _ _ _).2.2.1.length ≤ _; omega, by show (splA _ _ _ _).2.2.2.1 ≤ _; omega, by show (splA _ _ _ _).2.2.2.2 ≤ _; omega, h5, fun r hr => ?_⟩
    rcases List.mem_cons.1 hr with rfl | hr
    · have := (xhm (h.take (nlP h))).1
      rw [List.length_take] at this
      exact ⟨by show n ≤ _; omega, by show (noCr _).length ≤ _; omega⟩
    obtain ⟨a1, a2⟩ := h6 r hr
    exact ⟨by omega, by omega⟩
  rw [xbZ most h n p g1]
  split <;> simp
theorem xhA (cd : Int) (data : List UInt8) : (decW (decN cd) data).1.length ≤ 4 * data.length ∧ (decW (decN cd) data).2.held.length ≤ data.length := by
 have := xfX false { decN cd with held := (decN cd).held ++ data }
 simpa [decN, decW] using this
theorem xje (cd : Int) (h : 0 ≤ cd ∧ cd ≤ 3) (data : List UInt8) : (decW (decN cd) data).2.sure = true → xcn (decW (decN cd) data).2.kind :=
 xiw false _ (fun hs => by
  show cd = 1 ∨ cd = 2 ∨ cd = 3
  have : (cd != 0) = true := hs
  have : cd ≠ 0 := by simpa using this
  omega)
theorem JbAt.d {w : World} {c : Nat} {j : JV} (h : JbAt w c j) :
 w.cell? ⟨c, 11, none⟩ = some (.int .i64 j.rf) ∧ w.cell? ⟨c, 12, none⟩ = some (.int .i64 j.bu) ∧ w.cell? ⟨c, 13, none⟩ = some (.int .i64 j.ch) ∧ w.cell? ⟨c, 14, none⟩ = some (.int .i64 j.ro) ∧ w.cell? ⟨c, 15, none⟩ = some (.int .i64 j.wo) ∧ w.cell? ⟨c, 16, none⟩ = some (.int .i64 j.rg) := by
 refine ⟨?_, ?_, ?_, ?_, ?_, ?_⟩ <;> (rw [Lib.cell_of_heap h]; rfl)
set_option maxHeartbeats 8000000 in
theorem xiN (j : JV) (mo fl : Nat) (data : List UInt8) (w : World) (hD : SlOf 1 encB w (.slice j.da j.dn j.dc) data) (hcd : 0 ≤ j.cd ∧ j.cd ≤ 3) (hmo : j.mo = (mo : Int)) (h1 : 1 ≤ mo ∧ mo ≤ 4096) (hdl : data.length ≤ 1000) (hfl : j.fl = (fl : Int)) (hfn : fl ≤ j.dn) :
 Calls Tryz.prog 23 #[jV j] w (RdE (xeH j.cd mo (data.take fl)) w) := by
 have hlen : (data.take fl).length ≤ 1000 := by rw [List.length_take]; omega
 have hdn : j.dn ≤ j.dc := by
  obtain ⟨a', c', e, ⟨p1, p2⟩, _⟩ := hD
  obtain ⟨_, e2, e3⟩ := Value.slice.inj e
  rw [e2, e3]; exact p1
 have hf : xbT j = true := by unfold xbT; rw [hfl]; simp; omega
 have HF := xmA (fun W => xgF j W)
 rw [hf] at HF
 have HF2 := HF.out
 unfold jV jCs at HF2
 rw [hfl, hmo] at HF2
 have HF := xmA HF2
 clear HF2
 have HDat := xmA (fun (W : World) (K : xaa (fun _ => False) w W) => (hD.keep K).take fl hfn)
 have hdl2 := (xhA j.cd (data.take fl)).1
 obtain ⟨t, ht⟩ : ∃ t, (decW (decN j.cd) (data.take fl)).1 = t := ⟨_, rfl⟩
 have hR : Hid (xeH j.cd mo (data.take fl) = ((splA mo t 0 0).1, if (splA mo t 0 0).2.1 = 0 then 11 else (splA mo t 0 0).2.1)) := xmA (by unfold xeH; rw [ht])
 have HWr := xmA (fun (W : World) (db X : Nat) (H : xaS W db (.slice none 0 0) X (decN j.cd) false) (K : xaa (fun _ => False) w W) => xff db X j.cd _ (data.take fl) W H hcd (HDat.out W K) (by omega))
 rw [ht] at HWr hdl2
 unfold RdE
 generalize xeH j.cd mo (data.take fl) = R at *
 have hbd := xfl mo t.length t 0 0 (Nat.le_refl _)
 have HSw := xmA (fun (W : World) (sb : Nat) (H : xaT W sb mo [] 0 0 false) => xeP sb mo [] t 0 0 W H (by simp; omega) (by omega) (by omega) (by omega))
 simp only [List.nil_append] at HSw
 unfold SwE at HSw
 generalize splA mo t 0 0 = r at *
 obtain ⟨rc, er, h', n', p'⟩ := r
 have her : er = 0 ∨ er = 10 := hbd.2.2.2.2.1
 clear hbd
 have hw0 : (0 : Int) ≤ (fl : Int) := by omega
 have hw1 : (fl : Int) ≤ (j.dc : Int) := by omega
 have hfc : fl ≤ j.dc := by omega
 have hjb := xdc w j
 obtain ⟨w1, hw⟩ : ∃ W, w.alloc (.cells (jCs j) 25) = W := ⟨_, rfl⟩
 rw [hw] at hjb
 have hk1 : xaa (fun _ => False) w w1 := by rw [← hw]; exact (xaa.refl _ _).alloc _
 have hs1 : w.heap.size + 1 ≤ w1.heap.size := by rw [← hw]; simp
 have HW := xmA hw
 have HJ := xmA hjb
 have HK1 := xmA hk1
 clear hD hf ht hw hjb hk1
 have hw2 := HW.out
 unfold jCs at hw2
 rw [hfl, hmo] at hw2
 have HW2 := xmA hw2
 clear HW hw2
 have HD0 := xmA (fun (W : World) => xij j.cd W hcd)
 have HS0 := xmA (fun (W : World) => xhS mo W h1.1 h1.2)
 unfold jV jCs
 go_enter Tryz.func23, Tryz.ntmps23
 go_wp2_with fail
 rw [HW2.out]
 clear HW2
 refine (HD0.out _).mono ?_
 rintro e w2 ⟨db, rfl, hdb, hD2, k2⟩
 have HK2 := xmA (HK1.out.trans k2)
 have HD2 := xmA hD2
 have HJ2 := xmA (HJ.out.keeps k2 id)
 have hs2 := k2.size
 have j4 := HJ2.out.c.2.2.2.2.1
 rw [hmo] at j4
 have hdlt := hD2.cells.2.2.2.2.2
 clear hD2 k2
 go_wp2_with fail
 refine (HS0.out _).mono ?_
 rintro e w3 ⟨sb, rfl, hsb, hS3, k3⟩
 have HK3 := xmA (HK2.out.trans k3)
 have HD3 := xmA (HD2.out.keeps k3 id (fun h => absurd rfl h))
 have HJ3 := xmA (HJ2.out.keeps k3 id)
 have HS3 := xmA hS3
 have hs3 := k3.size
 clear hS3 k3 HD2 HJ2 HK2 HJ HK1 j4
 obtain ⟨j0, j1, j2, j3, j4, j5, j6, j7, j8, j9, j10⟩ := HJ3.out.c
 obtain ⟨j11, j12, j13, j14, j15, j16⟩ := HJ3.out.d
 rw [hfl] at j2
 rw [hmo] at j4
 go_wp2_with fail
 refine (HF.out _).mono ?_
 rintro e w4 ⟨rfl, k4⟩
 have HK4 := xmA (HK3.out.trans k4)
 have HD4 := xmA (HD3.out.keeps k4 id (fun h => absurd rfl h))
 have HJ4 := xmA (HJ3.out.keeps k4 id)
 have HS4 := xmA (HS3.out.keeps k4 id)
 have hs4 := k4.size
 clear k4 HD3 HJ3 HK3 HS3 j0 j1 j2 j3 j4 j5 j6 j7 j8 j9 j10 j11 j12 j13 j14 j15 j16
 obtain ⟨j0, j1, j2, j3, j4, j5, j6, j7, j8, j9, j10⟩ := HJ4.out.c
 rw [hfl] at j2
 rw [hmo] at j4
 go_wp2_with fail
 refine (HWr.out _ _ _ HD4.out HK4.out).mono ?_
 rintro e w5 ⟨dv, dX, rfl, hD5, k5⟩
 have HK5 := xmA (HK4.out.trans2 k5 (fun i hi h => by have : i = db := h; omega))
 have HS5 := xmA (HS4.out.keeps k5 (by show ¬ sb = db; omega))
 have hs5 := k5.size
 clear hD5 k5 HD4 HJ4 HK4 HS4 j0 j1 j2 j3 j4 j5 j6 j7 j8 j9 j10
 unfold strL
 go_wp2_with fail
 refine (HSw.out _ _ HS5.out).mono ?_
 rintro e w6 ⟨v, rfl, hO, hS6, k6⟩
 have HK6 := xmA (HK5.out.trans2 k6 (fun i hi h => by have : i = sb := h; omega))
 have HO := xmA (xag hO (by omega : w.heap.size ≤ w5.heap.size))
 clear hO hS6 k6 HS5 HK5
 rcases her with rfl | rfl
 · go_wp2_with fail
   go_ret2
   exact ⟨v, by rw [hR.out]; rfl, by rw [hR.out]; exact HO.out, HK6.out⟩
 go_wp2_with fail
 go_ret2
 exact ⟨v, by rw [hR.out]; rfl, by rw [hR.out]; exact HO.out, HK6.out⟩
set_option maxHeartbeats 8000000 in
theorem xiM (j : JV) (mo : Nat) (data : List UInt8) (w : World) (hD : SlOf 1 encB w (.slice j.da j.dn j.dc) data) (hcd : 0 ≤ j.cd ∧ j.cd ≤ 3) (hmo : j.mo = (mo : Int)) (h1 : 1 ≤ mo ∧ mo ≤ 4096) (hdl : data.length ≤ 1000) (hf : xbT j = false) :
 Calls Tryz.prog 23 #[jV j] w (RdE (xdP j.cd mo data) w) := by
 have hdn : j.dn ≤ j.dc := by
  obtain ⟨a', c', e, ⟨p1, p2⟩, _⟩ := hD
  obtain ⟨_, e2, e3⟩ := Value.slice.inj e
  rw [e2, e3]; exact p1
 have HF := xmA (fun W => xgF j W)
 rw [hf] at HF
 have HF2 := HF.out
 unfold jV jCs at HF2
 rw [hmo] at HF2
 have HF := xmA HF2
 clear HF2
 have HDat := xmA (fun (W : World) (K : xaa (fun _ => False) w W) => hD.keep K)
 obtain ⟨t, d, hTd⟩ : ∃ t d, decW (decN j.cd) data = (t, d) := ⟨_, _, rfl⟩
 have hdl2 : t.length ≤ 4 * data.length := by have := (xhA j.cd data).1; rw [hTd] at this; exact this
 have hdl3 : d.held.length ≤ data.length := by have := (xhA j.cd data).2; rw [hTd] at this; exact this
 have hkd : d.sure = true → xcn d.kind := by have := xje j.cd hcd data; rw [hTd] at this; exact this
 have HWr := xmA (fun (W : World) (db X : Nat) (H : xaS W db (.slice none 0 0) X (decN j.cd) false) (K : xaa (fun _ => False) w W) => xff db X j.cd _ data W H hcd (HDat.out W K) (by omega))
 rw [hTd] at HWr
 have HCl := xmA (fun (W : World) (db X : Nat) (v : Value) (H : xaS W db v X d false) => xjg db X v d W H hkd (by omega))
 have hul := (xfX true d).1
 obtain ⟨u, hu⟩ : ∃ u, (xbk true d).1 = u := ⟨_, rfl⟩
 have hR : Hid (xdP j.cd mo data = if (splA mo (t ++ u) 0 0).2.1 ≠ 0 then ((splA mo (t ++ u) 0 0).1, (splA mo (t ++ u) 0 0).2.1)
  else ((splA mo (t ++ u) 0 0).1 ++ (sclP mo (splA mo (t ++ u) 0 0).2.2.1 (splA mo (t ++ u) 0 0).2.2.2.1 (splA mo (t ++ u) 0 0).2.2.2.2).1, (sclP mo (splA mo (t ++ u) 0 0).2.2.1 (splA mo (t ++ u) 0 0).2.2.2.1 (splA mo (t ++ u) 0 0).2.2.2.2).2)) := xmA (by
  unfold xdP xbv; rw [hTd]; simp only [hu])
 rw [hu] at HCl hul
 unfold RdE
 generalize xdP j.cd mo data = R at *
 have hcat : (⟨t.toArray⟩ : ByteArray) ++ ⟨u.toArray⟩ = ⟨(t ++ u).toArray⟩ := by apply ByteArray.ext; simp
 have hcl : ¬ (9223372036854775807 < t.length + u.length) := by omega
 have hLl : (t ++ u).length ≤ 8000 := by rw [List.length_append]; omega
 generalize t ++ u = L at *
 have hbd := xfl mo L.length L 0 0 (Nat.le_refl _)
 have HSw := xmA (fun (W : World) (sb : Nat) (H : xaT W sb mo [] 0 0 false) => xeP sb mo [] L 0 0 W H (by simp; omega) (by omega) (by omega) (by omega))
 simp only [List.nil_append] at HSw
 unfold SwE at HSw
 generalize splA mo L 0 0 = r at *
 obtain ⟨rc, er, h', n', p'⟩ := r
 obtain ⟨b1, b2, b3, b4, her, _⟩ := hbd
 have b1 : rc.length ≤ L.length := b1
 have b2 : h'.length ≤ L.length := b2
 have b3 : n' ≤ 0 + L.length := b3
 have b4 : p' ≤ 0 + L.length := b4
 have her : er = 0 ∨ er = 10 := her
 have HSc := xmA (fun (W : World) (sb : Nat) (H : xaT W sb mo h' n' p' false) => xiG sb mo h' n' p' W H (by omega) (by omega) (by omega) (by omega))
 have hq : (sclP mo h' n' p').1.length ≤ 1 := by unfold sclP; split; simp; split <;> simp
 unfold ScE at HSc
 simp only [] at hR
 generalize sclP mo h' n' p' = q at *
 obtain ⟨rc2, er2⟩ := q
 have hq : rc2.length ≤ 1 := hq
 obtain ⟨i0, hi, hz0, hz1, hz2⟩ := info_parts xhu
 have hrcl : rc.length ≤ 8000 := by omega
 clear hTd hu hul hdl2 hdl3 b1 b2 b3 b4
 have hjb := xdc w j
 obtain ⟨w1, hw⟩ : ∃ W, w.alloc (.cells (jCs j) 25) = W := ⟨_, rfl⟩
 rw [hw] at hjb
 have hk1 : xaa (fun _ => False) w w1 := by rw [← hw]; exact (xaa.refl _ _).alloc _
 have hs1 : w.heap.size + 1 ≤ w1.heap.size := by rw [← hw]; simp
 have HW := xmA hw
 have HJ := xmA hjb
 have HK1 := xmA hk1
 clear hD hf hw hjb hk1
 have hw2 := HW.out
 unfold jCs at hw2
 rw [hmo] at hw2
 have HW2 := xmA hw2
 clear HW hw2
 have HD0 := xmA (fun (W : World) => xij j.cd W hcd)
 have HS0 := xmA (fun (W : World) => xhS mo W h1.1 h1.2)
 unfold jV jCs
 go_enter Tryz.func23, Tryz.ntmps23
 go_wp2_with fail
 rw [HW2.out]
 clear HW2
 refine (HD0.out _).mono ?_
 rintro e w2 ⟨db, rfl, hdb, hD2, k2⟩
 have HK2 := xmA (HK1.out.trans k2)
 have HD2 := xmA hD2
 have HJ2 := xmA (HJ.out.keeps k2 id)
 have hs2 := k2.size
 have j4 := HJ2.out.c.2.2.2.2.1
 rw [hmo] at j4
 have hdlt := hD2.cells.2.2.2.2.2
 clear hD2 k2
 go_wp2_with fail
 refine (HS0.out _).mono ?_
 rintro e w3 ⟨sb, rfl, hsb, hS3, k3⟩
 have HK3 := xmA (HK2.out.trans k3)
 have HD3 := xmA (HD2.out.keeps k3 id (fun h => absurd rfl h))
 have HJ3 := xmA (HJ2.out.keeps k3 id)
 have HS3 := xmA hS3
 have hs3 := k3.size
 have hslt := hS3.cells.2.2.2.2.2.2
 clear hS3 k3 HD2 HJ2 HK2 HJ HK1 j4
 obtain ⟨j0, j1, j2, j3, j4, j5, j6, j7, j8, j9, j10⟩ := HJ3.out.c
 obtain ⟨j11, j12, j13, j14, j15, j16⟩ := HJ3.out.d
 rw [hmo] at j4
 go_wp2_with fail
 refine (HF.out _).mono ?_
 rintro e w4 ⟨rfl, k4⟩
 have HK4 := xmA (HK3.out.trans k4)
 have HD4 := xmA (HD3.out.keeps k4 id (fun h => absurd rfl h))
 have HJ4 := xmA (HJ3.out.keeps k4 id)
 have HS4 := xmA (HS3.out.keeps k4 id)
 have hs4 := k4.size
 clear k4 HD3 HJ3 HK3 HS3 j0 j1 j2 j3 j4 j5 j6 j7 j8 j9 j10 j11 j12 j13 j14 j15 j16
 obtain ⟨j0, j1, j2, j3, j4, j5, j6, j7, j8, j9, j10⟩ := HJ4.out.c
 rw [hmo] at j4
 go_wp2_with fail
 refine (HWr.out _ _ _ HD4.out HK4.out).mono ?_
 rintro e w5 ⟨dv, dX, rfl, hD5, k5⟩
 have HK5 := xmA (HK4.out.trans2 k5 (fun i hi h => by have : i = db := h; omega))
 have HS5 := xmA (HS4.out.keeps k5 (by show ¬ sb = db; omega))
 have hs5 := k5.size
 have HD5 := xmA hD5
 clear hD5 k5 HD4 HJ4 HK4 HS4 j0 j1 j2 j3 j4 j5 j6 j7 j8 j9 j10
 unfold strL
 go_wp2_with fail
 refine (HCl.out _ _ _ _ HD5.out).mono ?_
 rintro e w6 ⟨rfl, k6⟩
 have HK6 := xmA (HK5.out.trans2 k6 (fun i hi h => by have : i = db := h; omega))
 have HS6 := xmA (HS5.out.keeps k6 (by show ¬ sb = db; omega))
 have hs6 := k6.size
 clear k6 HS5 HK5 HD5
 unfold strL
 go_wp2_with fail
 refine (HSw.out _ _ HS6.out).mono ?_
 rintro e w7 ⟨v, rfl, hO, hS7, k7⟩
 obtain ⟨a1, c1, rfl⟩ := xad hO
 have HK7 := xmA (HK6.out.trans2 k7 (fun i hi h => by have : i = sb := h; omega))
 have HO := xmA (xag hO (by omega : w.heap.size ≤ w6.heap.size))
 have hs7 := k7.size
 have HB := xmA (fun b (hb : (Value.slice a1 rc.length c1).ownBlock = some b) => xab hO b hb)
 rcases her with rfl | rfl
 · have HS7 : Hid (xaT w7 sb mo h' n' p' false) := xmA hS7
   clear hO hS7 k7 HS6 HK6
   go_wp2_with fail
   refine (HSc.out _ _ HS7.out).mono ?_
   rintro e w8 ⟨v2, rfl, hO2, k8⟩
   obtain ⟨a2, c2, rfl⟩ := xad hO2
   have HK8 := xmA (HK7.out.trans2 k8 (fun i hi h => by have : i = sb := h; omega))
   have HO8 : Hid (w8.ownsRow w.heap.size 39 3 (.slice a1 rc.length c1) rc.length (cellsOf 3 xbe rc)) := xmA (xae HO.out k8 (fun b hb h => by have := HB.out b hb; have : b = sb := h; omega))
   have HO2 : Hid (w8.ownsRow w7.heap.size 39 3 (.slice a2 rc2.length c2) rc2.length (cellsOf 3 xbe rc2)) := xmA hO2
   have hs8 := k8.size
   clear hO2 k8 HO HS7 HK7
   go_wp2_with (at_builtin; refine xcX rfl (.tmp 66) (.tmp 67) 61 rfl w.heap.size 39 i0 _ 3 32 Tryz.underlying61 hi hz0 hz1 hz2 rfl (by decide) _ _ _ rfl HO8.out _ _ _ _ rfl HO2.out (rc_one _) (by unfold maxLen; omega) (by omega) (by omega) ?_)
   intro v9 w9 hown9 hgrow9
   have kg : xaa (fun b => w.heap.size ≤ b) w8 w9 := (xaa.refl (fun b => w.heap.size ≤ b) w8).grown hgrow9 (fun b hb => Or.inl (xab HO8.out b hb))
   have HK9 : Hid (xaa (fun _ => False) w w9) := xmA (HK8.out.trans2 kg (fun i hi h => by have : w.heap.size ≤ i := h; omega))
   have HO9 := xmA hown9
   clear hown9 hgrow9 kg
   go_wp2_with fail
   go_ret2
   exact ⟨v9, by rw [hR.out]; rfl, by rw [hR.out, if_neg (by simp)]; show World.ownsRow _ _ _ _ _ (rc ++ rc2).length (cellsOf 3 xbe (rc ++ rc2)); rw [xai, List.length_append]; exact HO9.out, HK9.out⟩
 clear hO hS7 k7 HS6 HK6
 go_wp2_with fail
 go_ret2
 exact ⟨_, by rw [hR.out]; rfl, by rw [hR.out]; exact HO.out, HK7.out⟩
structure JOk (j : JV) : Prop where
 da : j.dn ≤ 65536
 sz : j.sn ≤ 64
 cd : 0 ≤ j.cd ∧ j.cd ≤ 3
 mo : 1 ≤ j.mo ∧ j.mo ≤ 4096
 te : 0 ≤ j.te ∧ j.te ≤ 3
 be : 0 ≤ j.be ∧ j.be ≤ 16
 af : 0 ≤ j.af ∧ j.af ≤ 16
 bu : 1 ≤ j.bu ∧ j.bu ≤ 64
 ch : 1 ≤ j.ch ∧ j.ch ≤ 4096
 ro : 0 ≤ j.ro ∧ j.ro ≤ 64
 wo : 1 ≤ j.wo ∧ j.wo ≤ 16
 rg : 1 ≤ j.rg ∧ j.rg ≤ 64
theorem xhL (n a b : Int) (h1 : a ≤ n) (h2 : n ≤ b) (w : World) : Calls Tryz.prog 32 #[.int .i64 n, .int .i64 a, .int .i64 b] w fun e w' => e = .returned (.bool true) ∧ w' = w := by
 refine (xeD n a b w).mono ?_
 rintro e w' ⟨rfl, rfl⟩
 have g1 : decide (a ≤ n) = true := by simpa using h1
 have g2 : decide (n ≤ b) = true := by simpa using h2
 rw [g1, g2]
 exact ⟨rfl, rfl⟩
def CoEr (pt : List UInt8) (er : Int) : Prop := ∀ W, Calls Tryz.prog 21 #[.string ⟨pt.toArray⟩] W fun e w' => ∃ p, e = .returned (.tuple #[.pointer p, .int .i64 er]) ∧ xaa (fun _ => False) W w'
set_option maxHeartbeats 16000000 in
theorem xe5 (j : JV) (er : Int) (hj : JOk j) (hC : CoEr j.pt er) (w : World) :
 Calls Tryz.prog 20 #[jV j] w fun e w' => e = .returned (.bool (er == 0)) ∧ xaa (fun _ => False) w w' := by
 have HC := xmA hC
 unfold CoEr at HC
 obtain ⟨b1, b2, ⟨b3, b4⟩, ⟨b5, b6⟩, ⟨b7, b8⟩, ⟨b9, b10⟩, ⟨b11, b12⟩, ⟨b13, b14⟩, ⟨b15, b16⟩, ⟨b17, b18⟩, ⟨b19, b20⟩, ⟨b21, b22⟩⟩ := hj
 have hsz : decide ((j.sn : Int) ≤ 64) = true := by simp; omega
 have hb1 : (j.dn : Int) ≤ 65536 := by omega
 have hb2 : (0 : Int) ≤ (j.dn : Int) := by omega
 have HN : Hid (∀ n a b : Int, a ≤ n → n ≤ b → ∀ W, Calls Tryz.prog 32 #[.int .i64 n, .int .i64 a, .int .i64 b] W fun e w' => e = .returned (.bool true) ∧ w' = W) := xmA (fun n a b h1 h2 W => xhL n a b h1 h2 W)
 have hjb := xdc w j
 obtain ⟨w1, hw⟩ : ∃ W, w.alloc (.cells (jCs j) 25) = W := ⟨_, rfl⟩
 rw [hw] at hjb
 have hk1 : xaa (fun _ => False) w w1 := by rw [← hw]; exact (xaa.refl _ _).alloc _
 have hs1 : w.heap.size + 1 ≤ w1.heap.size := by rw [← hw]; simp
 have hw2 := hw
 unfold jCs at hw2
 have HW2 := xmA hw2
 have HJ := xmA hjb
 have HK1 := xmA hk1
 clear hw2 hw hjb hk1 hC
 unfold jV jCs
 go_enter Tryz.func20, Tryz.ntmps20
 go_wp2_with fail
 rw [HW2.out]
 clear HW2
 obtain ⟨j0, j1, j2, j3, j4, j5, j6, j7, j8, j9, j10⟩ := HJ.out.c
 obtain ⟨j11, j12, j13, j14, j15, j16⟩ := HJ.out.d
 repeat (refine (HN.out _ _ _ (by assumption) (by assumption) _).mono ?_; rintro e w' ⟨rfl, rfl⟩; go_wp2_with fail)
 refine (HC.out _).mono ?_
 rintro e w2 ⟨p, rfl, k2⟩
 have HK2 := xmA (HK1.out.trans k2)
 clear k2
 go_wp2_with fail
 go_ret
 exact ⟨rfl, HK2.out⟩
def encS (s : List UInt8) (j : Nat) : Value := strL s
def xbE (w : World) (v : Value) (l : List (List UInt8)) : Prop := SlOf 1 encS w v l
theorem xj (l : List (List UInt8)) : cellsOf 1 encS l = l.map strL := by
 unfold cellsOf
 induction l with
 | nil => rfl
 | cons c t ih => rw [List.flatMap_cons, ih]; rfl
theorem xbE.ofOwn {w : World} {base : Nat} {e : TypeId} {v : Value} {l : List (List UInt8)} (h : w.ownsRow base e 1 v l.length (l.map strL)) (hl : l.length ≤ 4611686018427387904) : xbE w v l :=
 SlOf.ofOwn (by rw [xj]; exact h) hl
theorem ba_eq {x y : List UInt8} : (⟨x.toArray⟩ : ByteArray) = ⟨y.toArray⟩ ↔ x = y := by
 constructor
 · intro h
   have := congrArg ByteArray.data h
   simpa using this
 rintro rfl; rfl
theorem baNe {t s : ByteArray} (h : ¬ t = s) : (t.toList == s.toList) = false := by
 rw [ByteArray.toList_eq, ByteArray.toList_eq, beq_eq_false_iff_ne]
 intro e
 apply h
 obtain ⟨⟨a⟩⟩ := t
 obtain ⟨⟨b⟩⟩ := s
 simp at e; rw [e]
set_option maxHeartbeats 4000000 in
theorem xcZ (l m : List (List UInt8)) (a b : Value) (w : World) (ha : xbE w a l) (hb : xbE w b m) (hl : l.length ≤ 1000000000) :
 Calls Tryz.prog 12 #[a, b] w fun e w' => e = .returned (.bool (decide (l = m))) ∧ xaa (fun _ => False) w w' := by
 obtain ⟨a, ac, rfl, ⟨a1, a2⟩, a3, a4⟩ := ha
 obtain ⟨b, bc, rfl, ⟨b1, b2⟩, b3, b4⟩ := hb
 have HA := xmA a4
 have HB := xmA b4
 clear a4 b4 a2 b2 a1 b1
 obtain ⟨q, hq⟩ : ∃ q, decide (l = m) = q := ⟨_, rfl⟩
 rw [hq]
 have HQ := xmA hq
 clear hq
 by_cases hlm : l.length = m.length
 · have HL := xmA hlm
   have g0 : ((l.length : Int) != (m.length : Int)) = false := by simp [hlm]
   clear hlm
   go_enter Tryz.func12, Tryz.ntmps12
   go_wp2_with fail
   go_loopw [5] (fun iv wr => ∃ i : Nat, iv = .int .i64 i ∧ i ≤ l.length ∧ l.take i = m.take i ∧ xaa (fun _ => False) w wr) (fun iv _ => l.length - (intOf iv).toNat)
   case atStart => exact ⟨0, rfl, Nat.zero_le _, by simp, xaa.refl _ _⟩
   case round =>
    obtain ⟨i, rfl, hi, he, hk⟩ := hrel
    have HE := xmA he
    have HK := xmA hk
    clear he
    by_cases hil : i < l.length
    · have him : i < m.length := by rw [← HL.out]; exact hil
      obtain ⟨x, hx⟩ : ∃ x, l[i]? = some x := ⟨_, List.getElem?_eq_getElem hil⟩
      obtain ⟨y, hy⟩ : ∃ y, m[i]? = some y := ⟨_, List.getElem?_eq_getElem him⟩
      obtain ⟨pb, po, rfl, hcc⟩ := HA.out (by omega)
      obtain ⟨qb, qo, rfl, hdd⟩ := HB.out (by omega)
      have c0 := hk.cell (hcc i x hx 0 (by omega)) id
      have c1 := hk.cell (hdd i y hy 0 (by omega)) id
      simp only [Nat.add_zero, Nat.mul_one, encS, strL] at c0 c1
      have H1 : Hid (l.take (i + 1) = l.take i ++ [x]) := xmA (by rw [List.take_add_one, hx]; rfl)
      have H2 : Hid (m.take (i + 1) = m.take i ++ [y]) := xmA (by rw [List.take_add_one, hy]; rfl)
      have HX := xmA (And.intro hx hy)
      clear hcc hdd hx hy hk
      by_cases hxy : x = y
      · subst hxy
        have g1 : ((⟨x.toArray⟩ : ByteArray).toList == (⟨x.toArray⟩ : ByteArray).toList) = true := by simp
        go_wp2_with fail
        go_region
        go_wp2_with fail
        go_roundw
        case rel => exact ⟨i + 1, by go_num, by omega, by rw [H1.out, H2.out, HE.out], HK.out.drew⟩
        case measure => simp [intOf]; omega
      have g1 : ((⟨x.toArray⟩ : ByteArray).toList == (⟨y.toArray⟩ : ByteArray).toList) = false := baNe (fun h => hxy (ba_eq.1 h))
      have g2 : ((⟨x.toArray⟩ : ByteArray).toList != (⟨y.toArray⟩ : ByteArray).toList) = true := by rw [bne, g1]; rfl
      have g4 : (x.toArray != y.toArray) = true := by rw [bne_iff_ne]; exact fun h => hxy (by simpa using h)
      have g5 : (x != y) = true := by rw [bne_iff_ne]; exact hxy
      have g6 : (x == y) = false := by rw [beq_eq_false_iff_ne]; exact hxy
      obtain rfl : false = q := by
       rw [← HQ.out]
       refine (decide_eq_false fun h => ?_).symm
       have h1 := HX.out.1
       rw [h, HX.out.2] at h1
       exact hxy (Option.some.inj h1).symm
      go_wp2_with fail
      go_region
      go_wp2_with fail
      go_ret
      exact ⟨rfl, HK.out.drew⟩
    obtain rfl : i = l.length := by omega
    obtain rfl : true = q := by
     rw [← HQ.out]
     refine (decide_eq_true ?_).symm
     have h := HE.out
     rw [List.take_length, HL.out, List.take_length] at h
     exact h
    go_wp2_with fail
    go_ret
    exact ⟨rfl, HK.out⟩
 have g0 : ((l.length : Int) != (m.length : Int)) = true := by simp; omega
 obtain rfl : false = q := by
  rw [← HQ.out]
  exact (decide_eq_false fun h => hlm (by rw [h])).symm
 go_enter Tryz.func12, Tryz.ntmps12
 go_wp2_with fail
 go_ret
 exact ⟨rfl, KI.out⟩
theorem xgQ {P : Program} (w : World) (base : Nat) (t ty e : TypeId) (i : TypeInfo) (z : Value) (size bytes : Nat) (ht : P.underlying t = some (.slice e)) (hi : P.info? e = some i) (hz : i.zero = some z)
 (hsize : i.size = size) (hby : i.bytes = bytes) (hzs : z.cells.size = size) (hsz : 0 < size)
 (v : Value) (n : Nat) (xs : List Value) (hown : w.ownsRow base e size v n xs)
 (a : Addr) (m c : Nat) (news : List Value) (hl : news.length = m * size) (hnews : ∀ j u, news[j]? = some u → w.cell? (a.add j) = some u) (h1 : ∀ u ∈ news, u.oneCell' = true)
 (h63 : n + m ≤ maxLen) (hbytes : (n + m) * bytes ≤ 140737488355328) (hbase : base ≤ w.heap.size) :
 ∃ v' w', (Builtin.append_ #[t, t] ty #[v, .slice (some a) m c]).run P w = .ok v' w' ∧ w'.ownsRow base e size v' (n + m) (xs ++ news) ∧ w.grownBy w' v.ownBlock ∧
  (∀ b, v'.ownBlock = some b → v.ownBlock = some b ∨ w.heap.size ≤ b) := by
 obtain ⟨v', w', hr, h2, h3, _⟩ := run_append_own (P := P) w base t ty e i z size bytes ht hi hz hsize hby hzs hsz v n xs hown a m c news hl hnews h1 h63 hbytes hbase
 refine ⟨v', w', hr, h2, h3, fun b hb => ?_⟩
 rcases hown.2 with ⟨rfl, rfl⟩ | ⟨g, cap, cur, rfl, hbg, hg, hnc, hcm, hcs, htake⟩
 · obtain ⟨v2, w2, hr2, h5, _, _⟩ := run_append_own (P := P) w w.heap.size t ty e i z size bytes ht hi hz hsize hby hzs hsz (.slice none 0 0) 0 [] (World.ownsRow_nil _ _ _ _) a m c news hl hnews h1 h63 hbytes (Nat.le_refl _)
   rw [hr] at hr2
   cases hr2
   exact Or.inr (xab h5 b hb)
 subst hsize
 subst hby
 by_cases hroom : n + m ≤ cap
 · have hfit : n * i.size + news.length ≤ cur.size := by rw [hl, hcs, ← Nat.add_mul]; exact Nat.mul_le_mul_right _ hroom
   have hr2 := run_append_room (P := P) w t ty e i ht hi g n cap cur hg a m c news hl hnews h1 hroom hfit
   rw [hr] at hr2
   cases hr2
   exact Or.inl hb
 have hsmall : n + m ≤ 9223372036854775807 := by simp only [maxLen] at h63; omega
 have hr2 := run_append_grow (P := P) w t ty e i z ht hi hz ⟨g, 0, none⟩ n cap xs hown.1 (hown.cells (g := g) rfl) a m c news hl hnews (by omega) (by omega) (growslice_fits (by omega) hbytes)
 rw [hr] at hr2
 cases hr2
 have : w.heap.size = b := by simpa [Value.ownBlock] using hb
 exact Or.inr (by omega)
theorem xbf {P : Program} {w : World} {ops : Array Oper} {rest : List Oper} {o : Oper} {a : Act} {Q : Exit → Act → World → Prop} (hgd : o.guard = none) (s x : Operand) (t : TypeId)
 (ho : o.op = .call { callee := .builtin .append, args := #[s, x], argTypes := #[t, t] })
 (base : Nat) (e : TypeId) (i : TypeInfo) (z : Value) (size bytes : Nat) (ht : P.underlying t = some (.slice e)) (hi : P.info? e = some i) (hz : i.zero = some z)
 (hsize : i.size = size) (hby : i.bytes = bytes) (hzs : z.cells.size = size) (hsz : 0 < size)
 (v : Value) (n : Nat) (xs : List Value) (hs : a.eval s = v) (hown : w.ownsRow base e size v n xs)
 (y : Value) (m : Nat) (ys : List Value) (base2 : Nat) (hx : a.eval x = y) (hy : w.ownsRow base2 e size y m ys) (h1 : ∀ u ∈ ys, u.oneCell' = true)
 (h63 : n + m ≤ maxLen) (hbytes : (n + m) * bytes ≤ 140737488355328) (hbase : base ≤ w.heap.size)
 (h : ∀ v' w', w'.ownsRow base e size v' (n + m) (xs ++ ys) → w.grownBy w' v.ownBlock → (∀ b, v'.ownBlock = some b → v.ownBlock = some b ∨ w.heap.size ≤ b) → wpList P ops Q rest (a.put o.dst v') w') : wpList P ops Q (o :: rest) a w := by
 have hy0 := hy
 obtain ⟨hl, ⟨rfl, rfl⟩ | ⟨g, cap, cur, rfl, hb2, hg, hmc, hcm, hcs, htake⟩⟩ := hy
 · have : ys = [] := List.eq_nil_of_length_eq_zero (by simpa using hl)
   subst this
   exact wpList_append_own_none hgd s x t ho base e i size ht hi v n xs hs hown hx (h v w (by simpa using hown) ⟨rfl, rfl, rfl, Nat.le_refl _, fun _ _ _ => rfl⟩ (fun b hb => Or.inl hb))
 obtain ⟨v', w', hr, h2, h3, h4⟩ := xgQ (P := P) w base t o.type e i z size bytes ht hi hz hsize hby hzs hsz v n xs hown ⟨g, 0, none⟩ m cap ys hl (hy0.cells (g := g) rfl) h1 h63 hbytes hbase
 refine wpList_plain hgd fun _ hK => ?_
 unfold Oper.wp execOp
 simp only [ho, resolve, invoke, builtin, Sem.run_bind, Sem.run_pure, Result.andThen_ok, List.map_toArray, List.map_cons, List.map_nil, hs, hx, hr]
 exact hK _ _ (h v' w' h2 h3 h4)
structure TelI (tell : Int) (before after : Nat) (t : Tel) : Prop where
 te : t.tell = tell
 be : t.before = before
 af : t.after = after
 b16 : before ≤ 16
 a16 : after ≤ 16
 last : t.last ≤ 1000000
 held : ∀ x ∈ t.held, x.n ≤ 1000000 ∧ x.text.length ≤ 100000
 len : t.held.length ≤ before
 more : t.more ≤ 16
theorem TelI.ok {tell : Int} {before after : Nat} {t : Tel} (h : TelI tell before after t) : xeF t := by
 have h1 := h.b16; have h2 := h.a16; have h3 := h.len; have h4 := h.more; have h5 := h.be; have h6 := h.af
 exact ⟨h.last, h.held, by omega, by omega, by omega, by omega⟩
theorem TelI.new (tell : Int) (before after : Nat) (h1 : before ≤ 16) (h2 : after ≤ 16) : TelI tell before after (tel0 tell before after) :=
 ⟨rfl, rfl, rfl, h1, h2, by simp [tel0], by simp [tel0], by simp [tel0], by simp [tel0]⟩
theorem xdy : ∀ (l : List Rc) (t : Tel), (xaU t l).2.tell = t.tell ∧ (xaU t l).2.records = t.records ∧ (xaU t l).2.hits = t.hits
 | [], t => ⟨rfl, rfl, rfl⟩
 | x :: l, t => xdy l (recT t x)
theorem xgf (t : Tel) (x : Rc) (s : UInt8) : (recL t x s).length ≤ 2 := by
 unfold recL
 split <;> simp
theorem xis {tell : Int} {before after : Nat} {t : Tel} (h : TelI tell before after t) (r : Rc) (l : List (Int × Int)) (hn : r.n ≤ 1000000) (ht : r.text.length ≤ 100000) (hl : l.length ≤ 4001) :
 TelI tell before after (addP t r l).2 ∧ (addP t r l).1.length ≤ 5000 ∧ (addP t r l).2.records ≤ t.records + 1 ∧ (addP t r l).2.hits ≤ t.hits + 4001 := by
 have b16 := h.b16
 have a16 := h.a16
 unfold addP
 by_cases ho : t.over = true
 · rw [if_pos ho]; exact ⟨h, by simp, by simp, by simp⟩
 rw [if_neg ho]
 by_cases h0 : t.tell = 0
 · rw [if_pos h0]; exact ⟨h, by simp [xew]; omega, by simp, by simp⟩
 rw [if_neg h0]
 by_cases h3 : t.tell = 3
 · rw [if_pos h3]
   unfold ctxP
   by_cases hh : decide (0 < l.length) = true
   · rw [if_pos hh]
     obtain ⟨r1, r2, r3, r4⟩ := xdz t.held t h.last (fun x hx => (h.held x hx).1)
     obtain ⟨s1, s2, s3⟩ := xdy t.held t
     have h5 := h.len
     have h6 := h.af
     refine ⟨⟨s1.trans h.te, r3.trans h.be, r2.trans h.af, b16, a16, hn, (fun x hx => by cases hx), Nat.zero_le _, by show (xaU t t.held).2.after ≤ 16; omega⟩, ?_, by show (xaU t t.held).2.records ≤ _; omega, by show (xaU t t.held).2.hits ≤ _; omega⟩
     have := xgf { (xaU t t.held).2 with held := [], more := (xaU t t.held).2.after } r 58
     show ((xaU t t.held).1 ++ _).length ≤ _
     rw [List.length_append]; omega
   rw [if_neg hh]
   by_cases hm : 0 < t.more
   · rw [if_pos hm]
     have h7 := h.more
     have := xgf { t with more := t.more - 1 } r 45
     exact ⟨⟨h.te, h.be, h.af, b16, a16, hn, h.held, h.len, by show t.more - 1 ≤ 16; omega⟩, by show (recL _ _ _).length ≤ _; omega, by show t.records ≤ _; omega, by show t.hits ≤ _; omega⟩
   rw [if_neg hm]
   by_cases hb : 0 < t.before
   · rw [if_pos hb]
     have hb2 := h.be
     have hl2 := h.len
     refine ⟨⟨h.te, h.be, h.af, b16, a16, h.last, fun x hx => ?_, ?_, h.more⟩, by simp, by show t.records ≤ _; omega, by show t.hits ≤ _; omega⟩
     · rcases List.mem_append.1 hx with hx | hx
       · refine h.held x ?_
         split at hx
         · exact List.mem_of_mem_drop hx
         exact hx
       obtain rfl : x = r := by simpa using hx
       exact ⟨hn, ht⟩
     show ((if t.held.length = t.before then t.held.drop 1 else t.held) ++ [r]).length ≤ before
     rw [List.length_append]
     split
     · rw [List.length_drop, List.length_singleton]; omega
     rw [List.length_singleton]; omega
   rw [if_neg hb]; exact ⟨h, by simp, by simp, by simp⟩
 rw [if_neg h3]
 by_cases hl0 : l.length = 0
 · rw [if_pos hl0]; exact ⟨h, by simp, by simp, by simp⟩
 rw [if_neg hl0]
 by_cases h1 : t.tell = 1
 · rw [if_pos h1]
   exact ⟨⟨h.te, h.be, h.af, b16, a16, h.last, h.held, h.len, h.more⟩, by simp, by show t.records ≤ _; omega, by show t.hits ≤ _; omega⟩
 rw [if_neg h1]
 exact ⟨⟨h.te, h.be, h.af, b16, a16, h.last, h.held, h.len, h.more⟩, by simp, Nat.le_refl _, by show t.hits + l.length ≤ _; omega⟩
def xbz (ev : Int) (f : List UInt8 → List (Int × Int)) (r : Rc) : List (Int × Int) := if xcb ev r.n then f r.text else []
def runL (ev : Int) (f : List UInt8 → List (Int × Int)) : Tel → List Rc → List (List UInt8) × Tel × Bool
 | t, [] => ([], t, false)
 | t, r :: rs => if (addP t r (xbz ev f r)).2.enough then ((addP t r (xbz ev f r)).1, (addP t r (xbz ev f r)).2, true)
  else ((addP t r (xbz ev f r)).1 ++ (runL ev f (addP t r (xbz ev f r)).2 rs).1, (runL ev f (addP t r (xbz ev f r)).2 rs).2)
def runP (ev : Int) (f : List UInt8 → List (Int × Int)) (tell : Int) (before after : Nat) (rd : List Rc × Int) : List (List UInt8) × Int :=
 if (runL ev f (tel0 tell before after) rd.1).2.2 then ((runL ev f (tel0 tell before after) rd.1).1, 0)
 else if rd.2 ≠ 0 then ((runL ev f (tel0 tell before after) rd.1).1, rd.2)
 else ((runL ev f (tel0 tell before after) rd.1).1 ++ endP (runL ev f (tel0 tell before after) rd.1).2.1, 0)
def xcj (j : JV) (mo fl : Nat) (data : List UInt8) : List Rc × Int := if xbT j then xeH j.cd mo (data.take fl) else xdP j.cd mo data
def HitF (is : List Ins) (r : List UInt8 × Bool) (f : List UInt8 → List (Int × Int)) : Prop := ∀ tx : List UInt8, tx.length ≤ 1000 → ((f tx).length ≤ 4001 ∧ InT tx.length (f tx)) ∧
 ∀ (eb : Nat) (pv : Value) (w : World), xcW w (fun b => b < w.heap.size) eb pv is r → Calls Tryz.prog 24 #[.pointer (some ⟨eb, 0, none⟩), .string ⟨tx.toArray⟩] w fun e w' => ∃ v, e = .returned v ∧ w'.ownsRow w.heap.size 99 2 v (f tx).length (cellsOf 2 encR (f tx)) ∧ xaa (fun _ => False) w w'
theorem xkv (is : List Ins) (r : List UInt8 × Bool) (hok : ∀ (k : Nat) (i : Ins), is[k]? = some i → okI is.length i) (h0 : 0 < is.length) (his : is.length ≤ 4000) (hr : r.1.length ≤ 1000) : ∃ f, HitF is r f := by
 have H : ∀ tx : List UInt8, ∃ all : List (Int × Int), tx.length ≤ 1000 → (all.length ≤ 4001 ∧ InT tx.length all) ∧
  ∀ (eb : Nat) (pv : Value) (w : World), xcW w (fun b => b < w.heap.size) eb pv is r → Calls Tryz.prog 24 #[.pointer (some ⟨eb, 0, none⟩), .string ⟨tx.toArray⟩] w fun e w' => ∃ v, e = .returned v ∧ w'.ownsRow w.heap.size 99 2 v all.length (cellsOf 2 encR all) ∧ xaa (fun _ => False) w w' := fun tx => by
  by_cases h : tx.length ≤ 1000
  · obtain ⟨all, h1, h2⟩ := eng_all is r tx hok h0 his hr h
    exact ⟨all, fun _ => ⟨h1, h2⟩⟩
  exact ⟨[], fun h' => absurd h' h⟩
 exact ⟨fun tx => Classical.choose (H tx), fun tx htx => Classical.choose_spec (H tx) htx⟩
theorem xfY (k : Int) (all : Bool) : ∀ (n : Nat) (h : List UInt8), (xbp k all n h).1.length + 4 * (xbp k all n h).2.length ≤ 4 * h.length
 | 0, h => by simp [xbp]
 | n + 1, h => by
  rw [xbp]
  by_cases h0 : h = []
  · rw [if_pos h0]; simp
  rw [if_neg h0]
  by_cases h3 : (xaG k all h).2 = 0
  · rw [if_pos h3]; simp
  rw [if_neg h3]
  have hle := xc3 k all h
  have h1 := xfY k all n (h.drop (xaG k all h).2)
  rw [List.length_drop] at h1
  have hp := xc4 (y := (xaG k all h).1)
  show (putP (xaG k all h).1 ++ (xbp k all n (h.drop (xaG k all h).2)).1).length + 4 * (xbp k all n (h.drop (xaG k all h).2)).2.length ≤ _
  rw [List.length_append]; omega
theorem xfW (all : Bool) (d : Dec) : (xbk all d).1.length + 4 * (xbk all d).2.held.length ≤ 4 * d.held.length := by
 have h1 := xeU all d
 unfold xbk
 split
 · have h2 := xfY (xal all d).kind all (xal all d).held.length (xal all d).held
   show (xbp _ _ _ _).1.length + 4 * (xbp _ _ _ _).2.length ≤ _; omega
 show 0 + 4 * (xal all d).held.length ≤ _; omega
theorem xik (cd : Int) (data : List UInt8) : (decW (decN cd) data).1.length + 4 * (decW (decN cd) data).2.held.length ≤ 4 * data.length := by
 have := xfW false { decN cd with held := (decN cd).held ++ data }
 simpa [decN, decW] using this
theorem xit (cd : Int) (data : List UInt8) : (xbv cd data).length ≤ 4 * data.length := by
 have h1 := xik cd data
 have h2 := xfW true (decW (decN cd) data).2
 unfold xbv
 rw [List.length_append]; omega
theorem xll (j : JV) (mo fl : Nat) (data : List UInt8) (hl : data.length ≤ 200) : (xcj j mo fl data).1.length ≤ 801 ∧ ∀ r ∈ (xcj j mo fl data).1, r.n ≤ 1000 ∧ r.text.length ≤ 1000 := by
 unfold xcj
 split
 · have h1 := xik j.cd (data.take fl)
   rw [List.length_take] at h1
   obtain ⟨b1, _, _, _, _, b6⟩ := xfl mo _ (decW (decN j.cd) (data.take fl)).1 0 0 (Nat.le_refl _)
   exact ⟨by show (splA _ _ _ _).1.length ≤ _; omega, fun r hr => by have := b6 r hr; omega⟩
 have h1 := xit j.cd data
 obtain ⟨b1, b2, b3, _, _, b6⟩ := xfl mo _ (xbv j.cd data) 0 0 (Nat.le_refl _)
 unfold xdP
 split
 · exact ⟨by show (splA _ _ _ _).1.length ≤ _; omega, fun r hr => by have := b6 r hr; omega⟩
 generalize splA mo (xbv j.cd data) 0 0 = S at *
 refine ⟨?_, fun r hr => ?_⟩
 · show (S.1 ++ (sclP mo S.2.2.1 S.2.2.2.1 S.2.2.2.2).1).length ≤ _
   rw [List.length_append]
   have : (sclP mo S.2.2.1 S.2.2.2.1 S.2.2.2.2).1.length ≤ 1 := by unfold sclP; split; simp; split <;> simp
   omega
 rcases List.mem_append.1 hr with hr | hr
 · have := b6 r hr; omega
 unfold sclP at hr
 split at hr
 · cases hr
 split at hr
 · cases hr
 obtain rfl : r = ⟨S.2.2.2.1, S.2.2.2.2, S.2.2.1⟩ := by simpa using hr
 exact ⟨by show S.2.2.2.1 ≤ _; omega, by show S.2.2.1.length ≤ _; omega⟩
theorem xjR (j : JV) (mo fl : Nat) (data : List UInt8) (w : World) (hD : SlOf 1 encB w (.slice j.da j.dn j.dc) data) (hcd : 0 ≤ j.cd ∧ j.cd ≤ 3) (hmo : j.mo = (mo : Int)) (h1 : 1 ≤ mo ∧ mo ≤ 4096) (hdl : data.length ≤ 200) (hfl : xbT j = true → j.fl = (fl : Int) ∧ fl ≤ j.dn) :
 Calls Tryz.prog 23 #[jV j] w (RdE (xcj j mo fl data) w) := by
 unfold xcj
 cases hf : xbT j with
 | true =>
  obtain ⟨e1, e2⟩ := hfl hf
  exact xiN j mo fl data w hD hcd hmo h1 (by omega) e1 e2
 | false => exact xiM j mo data w hD hcd hmo h1 (by omega) hf
end Go.Proofs.YtjahiihmoglpfaaGreatDoor
