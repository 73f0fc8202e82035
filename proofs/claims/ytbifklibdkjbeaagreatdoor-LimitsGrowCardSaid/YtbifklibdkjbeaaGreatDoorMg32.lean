/-
  Several texts in one: The reckoned run: memory, calls, regions, code. No condition. The reckoned run: regions that draw their order; code; calls. No condition.
-/
import Derived.Test.YtbifklibdkjbeaaGreatDoorEvAG
namespace Go.Proofs.YtbifklibdkjbeaaGreatDoor
open Go.RowKit
set_option linter.unusedVariables false
set_option linter.unusedSimpArgs false
set_option maxRecDepth 100000
section
open Go
noncomputable section
def xfK : List AC → ByteArray → Option ByteArray
 | [], b => some b
 | .lit (.int .u8 n) :: l, b => xfK l (b.push (UInt8.ofNat n.toNat))
 | _ :: _, _ => none
def xcr (H : AH) (n size : Nat) : AR → Option (List AC)
 | .one (.c (.sl id off len _ es _)) => bif Nat.ble n len && Nat.beq es size then (H.get id).bind fun b => cut b.cells off (n * size) else none
 | .one (.c (.lit (.slice none _ _))) => bif Nat.beq n 0 then some [] else none
 | .one (.c (.lit (.string s))) => bif Nat.beq n s.size && Nat.beq size 1 then some (s.data.toList.map fun b => .lit (.int .u8 b.toNat)) else none
 | _ => none
def lenA : AR → Option Nat
 | .one (.c (.sl _ _ len _ _ _)) => some len
 | .one (.c (.lit (.slice none n _))) => some n
 | .one (.c (.lit (.string s))) => some s.size
 | _ => none
def xbt (P : Program) (H : AH) (ev : Ev) (o : Oper) : Option AR :=
 match o.op with
 | .load t a => match ev a with
  | .one (.c (.ptr id off)) => (H.get id).bind fun b => (xdX P t b.cells off).map .one
  | _ => none
 | .convert s d x => match P.underlying s, P.underlying d, ev x with
  | some (.slice e), some .string, .one (.c (.sl id off len cap es ex)) => match P.underlying e with
   | some (.int .u8) => bif Nat.beq es 1 then (xcr H len 1 (.one (.c (.sl id off len cap es ex)))).bind fun l => (xfK l .empty).map fun b => .one (.c (.lit (.string b))) else none
   | _ => none
  | some (.pointer t), some .unsafePointer, .one (.c (.ptr id off)) => match szOf P t, H.get id with
   | some (_ + 1), some b => bif Nat.blt off b.cells.length then some (.one (.c (.ptr id off))) else none
   | _, _ => none
  | some .unsafePointer, some (.pointer u), .one (.c (.ptr id off)) => match szOf P u, H.get id with
   | some (_ + 1), some b => bif b.whole && liesAt P P.depth b.elem (b.cells.length / P.cellsOf b.elem) off u 1 then some (.one (.c (.ptr id off))) else none
   | _, _ => none
  | _, _, _ => none
 | .call { callee := .builtin .unsafeSliceData, args, .. } => match args.toList.map ev with
  | [.one (.c (.sl id off _ (_ + 1) _ _))] => some (.one (.c (.ptr id off)))
  | _ => none
 | _ => none
def xnq (P : Program) (u : TypeId) : Bool := match P.underlying u with
 | some (.slice _) | some .string => true
 | _ => false
def rep (n : Nat) (l : List AC) : List AC :=
 match n with
 | 0 => []
 | n + 1 => l ++ rep n l
def actA (P : Program) (H : AH) (ev : Ev) (o : Oper) : Option (AR × AH) :=
 match o.op with
 | .alloc t => (zeroCells? P t).map fun z => (.one (.c (.ptr H.next 0)), H.new ⟨z, t, true⟩)
 | .box t x => match ev x with
  | .one a => some (.one (.c (.ptr H.next 0)), H.new ⟨a.cells, t, true⟩)
  | _ => none
 | .buildSlice t len parts => match P.underlying t with
  | some (.slice e) => match szOf P e, zeroCells? P e, xfu ev parts.toList with
   | some s, some z, some ps => bif Nat.beq z.length s && Nat.ble (len * s) 16777216 then
    (xj8 (fun i => some (i * s, s)) (rep len z) ps).map fun l => (.one (.c (.sl H.next 0 len len s true)), H.new ⟨l, e, true⟩)
    else none
   | _, _, _ => none
  | _ => none
 | .makeSlice t l c => match P.underlying t, xdY (ev l), xdY (ev c) with
  | some (.slice e), some (.ofNat l), some (.ofNat c) => match szOf P e, zeroCells? P e, (P.info? e).map (·.bytes) with
   | some s, some z, some b => bif Nat.ble l c && (Nat.blt c 1000000 && (Nat.beq z.length s && Nat.ble (b * c) 140737488355328)) then
    some (.one (.c (.sl H.next 0 l c s true)), H.new ⟨rep c z, e, true⟩)
    else none
   | _, _, _ => none
  | _, _, _ => none
 | .store t a x => match ev a, ev x with
  | .one (.c (.ptr id off)), .one v => match H.get id, szOf P t with
   | some b, some n => bif Nat.beq v.cells.length n && Nat.ble (off + n) b.cells.length then
    some (.tup [], H.set id (some ⟨xcm b.cells off v.cells, b.elem, b.whole⟩))
    else none
   | _, _ => none
  | _, _ => none
 | .convert s d x => match P.underlying s, P.underlying d, ev x with
  | some .string, some (.slice e), .one (.c (.lit (.string t))) => match P.underlying e, szOf P e with
   | some (.int .u8), some 1 => some (.one (.c (.sl H.next 0 t.size t.size 1 false)), H.new ⟨t.data.toList.map fun b => .lit (.int .u8 b.toNat), e, false⟩)
   | _, _ => none
  | some (.slice _), some (.slice e), .one (.c (.sl id off len cap es ex)) => match Nat.beq s d, P.underlying e with
   | true, some (.int .u8) => bif (H.get id).isSome then some (.one (.c (.sl id off len cap es ex)), H) else none
   | _, _ => none
  | _, _, _ => none
 | .call { callee := .builtin .append, args, argTypes } => match argTypes.toList, args.toList.map ev with
  | [t, u], [s, x] => match P.underlying t, xnq P u with
   | some (.slice e), true => match szOf P e, lenA x, (P.info? e).map (·.bytes) with
    | some size, some n, some bytes =>
     match n with
     | 0 => match s with
      | .one (.c (.sl ..)) => some (s, H)
      | .one (.c (.lit (.slice none 0 0))) => some (s, H)
      | _ => none
     | _ + 1 => match xcr H n size x, zeroCells? P e with
      | some new, some z => bif Nat.beq z.length size && (Nat.ble (n * bytes) 1099511627776 && Nat.ble n 1000000000) then
       match s with
       | .one (.c (.lit (.slice none 0 0))) => some (.one (.c (.sl H.next 0 n n size false)), H.new ⟨new, e, false⟩)
       | .one (.c (.sl id off len cap es ex)) => match H.get id with
        | some b =>
         let need := len + n
         bif Nat.beq es size && (Nat.ble (need * bytes) 1099511627776 && Nat.ble need 1000000000) then
          bif Nat.ble need cap then
           bif Nat.ble (off + need * size) b.cells.length then
            some (.one (.c (.sl id off need cap es ex)), H.set id (some ⟨xcm b.cells (off + len * size) new, b.elem, b.whole⟩))
           else none
          else match cut b.cells off (len * size) with
           | none => none
           | some old =>
            bif ex then some (.one (.c (.sl H.next 0 need need size false)), H.new ⟨old ++ new, e, false⟩)
            else bif Nat.beq (off + len * size) b.cells.length && Nat.beq b.elem e then
             some (.one (.c (.sl H.next 0 need need size false)), (H.set id none).new ⟨old ++ new, e, false⟩)
            else none
         else none
        | none => none
       | _ => none
       else none
      | _, _ => none
    | _, _, _ => none
   | _, _ => none
  | _, _ => none
 | .call { callee := .builtin .unsafeString, args, argTypes } => match argTypes.toList, args.toList.map ev with
  | pt :: _, [.one (.c (.ptr id off)), .one (.c (.lit (.int _ n)))] => match P.underlying pt, H.get id with
   | some (.pointer u), some b => match P.underlying u with
    | some (.int .u8) => bif Nat.beq u b.elem && (decide (0 < n) && decide (n < 1000000)) then
     match (cut b.cells off n.toNat).bind fun l => xfK l .empty with
     | some s => bif Nat.beq (P.cellsOf u) 1 && Nat.blt 1 P.depth then some (.one (.c (.lit (.string s))), H.set id none) else none
     | none => none
     else none
    | _ => none
   | _, _ => none
  | _, _ => none
 | _ => none
def xdL (P : Program) : List FieldStep → TypeId → AC ⊕ (Nat × Nat) → Option (TypeId × (AC ⊕ (Nat × Nat)))
 | [], t, x => some (t, x)
 | s :: rest, _, x => match xeN P s.struct s.index with
  | some (off, ft, _ + 1) => match s.deref, x with
   | true, .inl (.ptr id o) => xdL P rest ft (.inr (id, o + off))
   | false, .inr (id, o) => xdL P rest ft (.inr (id, o + off))
   | _, _ => none
  | _ => none
def xes (P : Program) (xt : TypeId) (x : AC ⊕ (Nat × Nat)) (ptr : Bool) : Option AC :=
 match P.underlying xt, ptr, x with
 | some (.pointer _), true, .inl c => some c
 | some (.pointer _), _, _ => none
 | some _, true, .inr (id, o) => some (.ptr id o)
 | some _, false, .inl c => some c
 | _, _, _ => none
def xhP (P : Program) (t : TypeId) (c : AC) (name : String) : Option (FuncId × AC) :=
 match P.info? t with
 | some i => match i.methods.find? (·.name == name) with
  | some m => match xdL P m.path.toList t (.inl c), m.func with
   | some (xt, x), some (f, ptr) => (xes P xt x ptr).map fun r => (f, r)
   | _, _ => none
  | none => none
 | none => none
def xho (ev : Ev) : List Operand → Option (List AV)
 | [] => some []
 | x :: l => match ev x, xho ev l with
  | .one a, some r => some (a :: r)
  | _, _ => none
def xbS (P : Program) (g : FuncId) : Bool := match P.funcs[g]? with
 | some fn => fn.body.isSome
 | none => false
def xbk (P : Program) (ev : Ev) (o : Oper) : Option (FuncId × List AV) :=
 match o.op with
 | .call { callee := .value f, args, .. } => match ev f, xho ev args.toList with
  | .one (.c x), some az => match x.fn? with
   | some (.func g, fs, cs) => bif xbS P g then some (g, fs.reverse.map .c ++ (az ++ cs.reverse.map .c)) else none
   | _ => none
  | _, _ => none
 | .call { callee := .invoke r name, args, .. } => match ev r, xho ev args.toList with
  | .one (.c (.ifc t c)), some az => match xhP P t c name with
   | some (f, x) => bif xbS P f then some (f, .c x :: az) else none
   | none => none
  | _, _ => none
 | _ => none
inductive Out where
 | ret (r : AR)
 | pan (v : AV)
inductive Ex where
 | normal
 | exit (id : Nat)
 | ret
 | pan (v : AV)
abbrev xa2 := FuncId → List AV → AH → Option (Out × AH)
def xa9 (ops : List Oper) (fr : Fr) (o : Oper) : Option Bool :=
 match o.guard with
 | none => some true
 | some (j, want) => match (ops[j]?).bind (·.dst) with
  | some d => match fr.get d with
   | .one (.c (.lit (.bool b))) => some (b == want)
   | .tup [] => some false
   | _ => none
  | none => some false
def xct (ev : Ev) (o : Oper) : Option AV :=
 match o.op with
 | .panic x => match ev x with
  | .one (.c (.ifc t c)) => some (.c (.ifc t c))
  | .one (.c (.lit (.iface t v))) => some (.c (.lit (.iface t v)))
  | _ => none
 | .call { callee := .builtin .panic, args, .. } => match args.toList.map ev with
  | .one (.c (.ifc t c)) :: _ => some (.c (.ifc t c))
  | .one (.c (.lit (.iface t v))) :: _ => some (.c (.lit (.iface t v)))
  | _ => none
 | _ => none
def xjl (P : Program) (ev : Ev) (o : Oper) : Option AR := match o.op with
 | .call _ => scal P ev o
 | _ => none
def opA (P : Program) (call : xa2) (ev : Ev) (H : AH) (o : Oper) : Option (Out × AH) :=
 match xaQ P ev o with
 | some r => some (.ret r, H)
 | none => match xbt P H ev o with
  | some r => some (.ret r, H)
  | none => match actA P H ev o with
   | some (r, H) => some (.ret r, H)
   | none => match xbk P ev o with
    | some (f, az) => match call f az H with
     | some (.ret r, H) => some (.ret r, H)
     | some (.pan v, H) => some (.pan v, H)
     | none => none
    | none => match xjl P ev o with
     | some r => some (.ret r, H)
     | none => (xct ev o).map fun v => (.pan v, H)
abbrev OpK := Program → xa2 → Ev → AH → Oper → Option (Out × AH)
def retP (H : AH) : Option AR → Option (Out × AH)
 | some r => some (.ret r, H)
 | none => none
def retA : Option (AR × AH) → Option (Out × AH)
 | some (r, H) => some (.ret r, H)
 | none => none
def moveK (x : Operand) : OpK := fun _ _ ev H _ => some (.ret (ev x), H)
def loadB (P : Program) (H : AH) (t : TypeId) : AR → Option AR
 | .one (.c (.ptr id off)) => (H.get id).bind fun b => (xdX P t b.cells off).map .one
 | _ => none
def loadK (t : TypeId) (a : Operand) : OpK := fun P _ ev H _ => retP H (loadB P H t (ev a))
def xkJ (P : Program) (u v : AR) (op : BinOp) (t : TypeId) (x y : Operand) : Option AR :=
 match u.val?, v.val? with
 | some a, some b => match qrun P (do eqGuard op t x y a b; binOp op t a b) with
  | some v => AR.of? v
  | _ => none
 | _, _ => none
def intB : BinOp → Int → Int → Option Value
 | .eql, a, b => some (.bool (a == b))
 | .neq, a, b => some (.bool (a != b))
 | .lss, a, b => some (.bool (a < b))
 | .leq, a, b => some (.bool (a ≤ b))
 | .gtr, a, b => some (.bool (a > b))
 | .geq, a, b => some (.bool (a ≥ b))
 | .add, a, b => some (.int .i64 (IntKind.i64.wrap (a + b)))
 | .sub, a, b => some (.int .i64 (IntKind.i64.wrap (a - b)))
 | _, _, _ => none
def binG (op : BinOp) (t : TypeId) (x y : Operand) : OpK := fun P call ev H o => match xkJ P (ev x) (ev y) op t x y with
 | some r => some (.ret r, H)
 | none => opA P call ev H o
def intK (r : Option Value) (g : OpK) : OpK := fun P call ev H o => match r with
 | some v => some (.ret (.one (.c (.lit v))), H)
 | none => g P call ev H o
def binK (op : BinOp) (t : TypeId) (x y : Operand) : OpK := fun P call ev H o => match ev x, ev y with
 | .one (.c (.lit (.int .i64 a))), .one (.c (.lit (.int .i64 b))) => intK (intB op a b) (binG op t x y) P call ev H o
 | _, _ => binG op t x y P call ev H o
def fieldB (fo : Option (Nat × TypeId × Nat)) (x : AR) : Option AR :=
 match fo, x with
 | some (off, _, _ + 1), .one (.c (.ptr id o)) => some (.one (.c (.ptr id (o + off))))
 | _, _ => none
def xj9 (s : TypeId) (x : Operand) (f : Nat) : OpK := fun P _ ev H _ => retP H (fieldB (xeN P s f) (ev x))
def indexB (P : Program) (t : TypeId) (x : AR) : Option Int → Option AR
 | some (.ofNat k) => match P.underlying t, x with
  | some (.array n e), .one (.c (.ptr id off)) => match szOf P e with
   | some s => bif Nat.blt k n then some (.one (.c (.ptr id (off + k * s)))) else none
   | none => none
  | some (.slice e), .one (.c (.sl id off len _ es _)) => match szOf P e with
   | some s => bif Nat.blt k len && Nat.beq s es then some (.one (.c (.ptr id (off + k * s)))) else none
   | none => none
  | _, _ => none
 | _ => none
def xj6 (t : TypeId) (x i : Operand) : OpK := fun P _ ev H _ => retP H (indexB P t (ev x) (xdY (ev i)))
def storeB (P : Program) (H : AH) (t : TypeId) (a x : AR) : Option (AR × AH) :=
 match a, x with
 | .one (.c (.ptr id off)), .one v => match H.get id, szOf P t with
  | some b, some n => bif Nat.beq v.cells.length n && Nat.ble (off + n) b.cells.length then
   some (.tup [], H.set id (some ⟨xcm b.cells off v.cells, b.elem, b.whole⟩))
   else none
  | _, _ => none
 | _, _ => none
def storeK (t : TypeId) (a x : Operand) : OpK := fun P _ ev H _ => retA (storeB P H t (ev a) (ev x))
def pickB (a b : AR) : AR → Option AR
 | .one (.c (.lit (.bool t))) => some (bif t then a else b)
 | _ => none
def pickK (c a b : Operand) : OpK := fun _ _ ev H _ => retP H (pickB (ev a) (ev b) (ev c))
def nilB : AR → Option AR
 | .one (.c (.ptr id off)) => some (.one (.c (.ptr id off)))
 | .one (.c (.cap r c)) => match (AC.cap r c).fn? with
  | some (.func _, _) => some (.one (.c (.cap r c)))
  | _ => none
 | .one (.c (.fn (.func f))) => some (.one (.c (.fn (.func f))))
 | .one (.c (.fst r c)) => match (AC.fst r c).fn? with
  | some (.func _, _) => some (.one (.c (.fst r c)))
  | _ => none
 | .one (.c (.ifc t c)) => some (.one (.c (.ifc t c)))
 | _ => none
def xlo (x : Operand) : OpK := fun _ _ ev H _ => retP H (nilB (ev x))
def extB (i : Nat) : AR → Option AR
 | .tup vs => (vs[i]?).map .one
 | _ => none
def xny (x : Operand) (i : Nat) : OpK := fun _ _ ev H _ => retP H (extB i (ev x))
def notK (x : Operand) : OpK := fun P call ev H o => match ev x with
 | .one (.c (.lit (.bool b))) => some (.ret (.one (.c (.lit (.bool !b)))), H)
 | _ => opA P call ev H o
def xmf : AR → Option (List AV) → Option (List AV)
 | .one a, some r => some (a :: r)
 | _, _ => none
def argsR (ev : Ev) (l : List Operand) : Option (List AV) := @List.rec Operand (fun _ => Option (List AV)) (some []) (fun x _ ih => xmf (ev x) ih) l
def xi (f : Operand) (args : Array Operand) : OpK := fun P call ev H o => match ev f, argsR ev args.toList with
 | .one (.c (.fn (.func g))), some az => bif xbS P g then call g az H else opA P call ev H o
 | _, _ => opA P call ev H o
def xhW : OpK := fun P call ev H o => match xbk P ev o with
 | some (f, az) => call f az H
 | none => opA P call ev H o
def lenK (args : Array Operand) (ats : Array TypeId) : OpK := fun P call ev H o => match args.toList, ats[0]? with
 | x :: _, some t => match ev x, P.underlying t with
  | .one (.c (.sl _ _ len _ _ _)), some (.slice _) => some (.ret (.one (.c (.lit (.int .i64 len)))), H)
  | _, _ => opA P call ev H o
 | _, _ => opA P call ev H o
def xid (args : Array Operand) : OpK := fun P call ev H o => match args.toList with
 | x :: _ => match ev x with
  | .one (.c (.sl ..)) => match actA P H ev o with
   | some (r, H) => some (.ret r, H)
   | none => opA P call ev H o
  | _ => opA P call ev H o
 | _ => opA P call ev H o
def actK : OpK := fun P _ ev H o => retA (actA P H ev o)
def callTab (args : Array Operand) (ats : Array TypeId) : Callee → OpK
 | .value f => xi f args
 | .invoke _ _ => xhW
 | .builtin .len => lenK args ats
 | .builtin .append => xid args
 | _ => opA
def opTab : Op → OpK
 | .move x => moveK x
 | .assign x => moveK x
 | .load t a => loadK t a
 | .store t a x => storeK t a x
 | .binOp op t x y _ => binK op t x y
 | .unOp .not _ x => notK x
 | .nilCheck x => xlo x
 | .extract x i => xny x i
 | .fieldAddr s x f => xj9 s x f
 | .indexAddr t x i => xj6 t x i
 | .pick c a b => pickK c a b
 | .alloc _ => actK
 | .box _ _ => actK
 | .buildSlice _ _ _ => actK
 | .makeSlice _ _ _ => actK
 | .call c => callTab c.args c.argTypes c.callee
 | _ => opA
def opF : OpK := fun P call ev H o => opTab o.op P call ev H o
theorem xkI {P : Program} {ev : Ev} {o : Oper} {v : Value} (e1 : xgL o = true) (e2 : xcn ev o.op.operands.toList = true) (h : qrun P (execOp (fun x => ((ev x).val?).getD undef) o) = some (.value v)) : scal P ev o = AR.of? v := by
 unfold scal
 rw [e1, e2]
 simp only [Bool.and_self, cond_true, h]
theorem xmR {P : Program} {ev : Ev} {o : Oper} {op : BinOp} {t yt : TypeId} {x y : Operand} (ho : o.op = .binOp op t x y yt) {r : AR} (h : xkJ P (ev x) (ev y) op t x y = some r) : scal P ev o = some r := by
 unfold xkJ at h
 split at h
 · rename_i a b ha hb
   have e3 : execOp (fun x => ((ev x).val?).getD undef) o = (do let v ← (do eqGuard op t x y a b; binOp op t a b : Sem Value); pure (.value v)) := by
    unfold execOp; rw [ho]; simp only [ha, hb, Option.getD_some]
   have bind : ∀ {α β : Type} (s : Sem α) (f : α → β) (a : α), qrun P s = some a → qrun P (do let x ← s; pure (f x)) = some (f a) := by
    intro α β s f a h
    induction s with
    | pure b => simp only [qrun, Option.some.injEq] at h; subst h; rfl
    | program k ih => exact ih P h
    | mark m k ih => exact ih h
    | _ => simp [qrun] at h
   split at h
   · rename_i v hv
     rw [xkI (by unfold xgL; rw [ho]) (by rw [ho]; simp [Op.operands, xcn, ha, hb]) (by rw [e3]; exact bind _ Next.value v hv)]
     exact h
   simp at h
 simp at h
theorem intB_eq {P : Program} {ev : Ev} {op : BinOp} {t : TypeId} {x y : Operand} {a b : Int} (ha : ev x = .one (.c (.lit (.int .i64 a)))) (hb : ev y = .one (.c (.lit (.int .i64 b)))) {v : Value} (h : intB op a b = some v) :
 xkJ P (ev x) (ev y) op t x y = some (.one (.c (.lit v))) := by
 rw [ha, hb]
 cases op <;> simp only [intB, Option.some.injEq, reduceCtorEq] at h <;> subst h <;> rfl
theorem xjb (ev : Ev) : ∀ l, argsR ev l = xho ev l
 | [] => rfl
 | x :: l => by
  have ih := xjb ev l
  show xmf (ev x) (argsR ev l) = _
  rw [ih]
  simp only [xho]
  rfl
theorem xmt {r : Option (Out × AH)} : (match r with
 | some (.ret r, H) => some (Out.ret r, H)
 | some (.pan v, H) => some (Out.pan v, H)
 | none => none) = r := by
 rcases r with _ | ⟨_ | _, _⟩ <;> rfl
theorem xdi {P : Program} {call : xa2} {ev : Ev} {H : AH} {o : Oper} {r : Option AR} (h : xaQ P ev o = r) (h2 : xbt P H ev o = none) (h3 : actA P H ev o = none) (h4 : xbk P ev o = none) (h5 : xjl P ev o = none) (h6 : xct ev o = none) : retP H r = opA P call ev H o := by
 unfold opA; rw [h, h2, h3, h4, h5, h6]; cases r <;> rfl
theorem xm8 {P : Program} {call : xa2} {ev : Ev} {H : AH} {o : Oper} {r : Option AR} (h : xbt P H ev o = r) (h2 : xaQ P ev o = none) (h3 : actA P H ev o = none) (h4 : xbk P ev o = none) (h5 : xjl P ev o = none) (h6 : xct ev o = none) : retP H r = opA P call ev H o := by
 unfold opA; rw [h, h2, h3, h4, h5, h6]; cases r <;> rfl
theorem xeC {P : Program} {call : xa2} {ev : Ev} {H : AH} {o : Oper} {r : Option (AR × AH)} (h : actA P H ev o = r) (h2 : xaQ P ev o = none) (h3 : xbt P H ev o = none) (h4 : xbk P ev o = none) (h5 : xjl P ev o = none) (h6 : xct ev o = none) : retA r = opA P call ev H o := by
 unfold opA; rw [h, h2, h3, h4, h5, h6]; cases r <;> rfl
theorem xiE : opF = opA := by
 funext P call ev H o
 obtain ⟨dst, op, ty, pos, after, guard⟩ := o
 cases op with
 | load t a => exact xm8 rfl rfl rfl rfl rfl rfl
 | store t a x => exact xeC rfl rfl rfl rfl rfl rfl
 | alloc t => exact xeC rfl rfl rfl rfl rfl rfl
 | box t x => exact xeC rfl rfl rfl rfl rfl rfl
 | buildSlice t n ps => exact xeC rfl rfl rfl rfl rfl rfl
 | makeSlice t n ps => exact xeC rfl rfl rfl rfl rfl rfl
 | binOp op t x y yt =>
  have g : ∀ r, xkJ P (ev x) (ev y) op t x y = some r → some (.ret r, H) = opA P call ev H ⟨dst, .binOp op t x y yt, ty, pos, after, guard⟩ := by
   intro r h
   have e := xmR (o := ⟨dst, .binOp op t x y yt, ty, pos, after, guard⟩) rfl h
   simp only [opA, xaQ, e]
  have gg : binG op t x y P call ev H ⟨dst, .binOp op t x y yt, ty, pos, after, guard⟩ = opA P call ev H ⟨dst, .binOp op t x y yt, ty, pos, after, guard⟩ := by
   unfold binG
   split
   · rename_i r h; exact g r h
   rfl
  show binK op t x y P call ev H _ = _
  unfold binK
  split
  · rename_i a b ha hb
    unfold intK
    split
    · rename_i v hv; exact g _ (intB_eq ha hb hv)
    exact gg
  exact gg
 | unOp op t x =>
  cases op with
  | not =>
   show notK x P call ev H _ = _
   unfold notK
   split
   · rename_i b hb
     have e : scal P ev ⟨dst, .unOp .not t x, ty, pos, after, guard⟩ = some (.one (.c (.lit (.bool !b)))) :=
      xkI (v := .bool !b) rfl (by simp [Op.operands, xcn, hb, AR.val?, AV.val?, AC.val?]) (by simp only [execOp, hb]; rfl)
     simp only [opA, xaQ, e]
   rfl
  | _ => rfl
 | nilCheck x => exact xdi rfl rfl rfl rfl rfl rfl
 | extract x i => exact xdi rfl rfl rfl rfl rfl rfl
 | fieldAddr s x f => exact xdi rfl rfl rfl rfl rfl rfl
 | indexAddr t x i => exact xdi rfl rfl rfl rfl rfl rfl
 | pick c a b => exact xdi rfl rfl rfl rfl rfl rfl
 | call c =>
  obtain ⟨callee, args, ats⟩ := c
  cases callee with
  | value f =>
   show xi f args P call ev H _ = _
   unfold xi
   split
   · rename_i g az hf ha
     cases hb : xbS P g with
     | false => rfl
     | true =>
      have hc : xbk P ev ⟨dst, .call ⟨.value f, args, ats⟩, ty, pos, after, guard⟩ = some (g, az) := by
       simp only [xbk, hf, ← xjb, ha, AC.fn?, hb, cond_true, List.reverse_nil, List.map_nil, List.nil_append, List.append_nil]
      have hp : xaQ P ev ⟨dst, .call ⟨.value f, args, ats⟩, ty, pos, after, guard⟩ = none := by
       unfold xbS at hb
       simp only [xaQ, hf]
       split
       · rename_i k x hk hx
         obtain rfl : g = k := by simpa using hk
         cases hfn : P.funcs[g]? with
         | none => rfl
         | some fn =>
          rw [hfn] at hb
          have : xjT fn = false := by
           unfold xjT
           cases hbd : fn.body with
           | none => simp [hbd] at hb
           | some _ => rfl
          simp only [this, cond_false]
       rfl
      unfold opA
      rw [hp, hc]
      exact xmt.symm
   rfl
  | invoke r m =>
   show xhW P call ev H _ = _
   unfold xhW
   split
   · rename_i f az hc
     unfold opA
     rw [hc]
     exact xmt.symm
   rfl
  | builtin b =>
   cases b with
   | len =>
    show lenK args ats P call ev H _ = _
    unfold lenK
    split
    · rename_i x l t hx ht
      split
      · rename_i id off len cap es ex u he hu
        have hs : scal P ev ⟨dst, .call ⟨.builtin .len, args, ats⟩, ty, pos, after, guard⟩ = none := by
         unfold scal
         have : xcn ev (Op.operands (.call ⟨.builtin .len, args, ats⟩)).toList = false := by
          simp [Op.operands, Call.operands, hx, xcn, he, AR.val?, AV.val?, AC.val?]
         simp only [this, Bool.and_false, cond_false]
        have hx0 : args[0]? = some x := by rw [← Array.getElem?_toList, hx]; rfl
        simp only [opA, xaQ, hs, ht, hx0, hu, he]
      rfl
    rfl
   | append =>
    show xid args P call ev H _ = _
    unfold xid
    split
    · rename_i x l hx
      split
      · rename_i id off len cap es ex he
        split
        · rename_i r H1 ha
          have hs : scal P ev ⟨dst, .call ⟨.builtin .append, args, ats⟩, ty, pos, after, guard⟩ = none := by
           unfold scal
           have : xcn ev (Op.operands (.call ⟨.builtin .append, args, ats⟩)).toList = false := by
            simp [Op.operands, Call.operands, hx, xcn, he, AR.val?, AV.val?, AC.val?]
           simp only [this, Bool.and_false, cond_false]
          have hr : xbt P H ev ⟨dst, .call ⟨.builtin .append, args, ats⟩, ty, pos, after, guard⟩ = none := rfl
          simp only [opA, xaQ, hs, hr, ha]
        rfl
      rfl
    rfl
   | _ => rfl
 | _ => rfl
abbrev LR := Option (Ex × Fr × AH)
def goOn (k : Fr → AH → LR) (p : Option Fr) (H : AH) : LR := match p with
 | some fr => k fr H
 | none => none
def goOut (k : Fr → AH → LR) (fr : Fr) (d : Option Tmp) (r : Option (Out × AH)) : LR := match r with
 | some (.ret r, H) => goOn k (fr.put d r) H
 | some (.pan v, H) => some (.pan v, fr, H)
 | none => none
def xod (k : Fr → AH → LR) (fr : Fr) (H : AH) (d : Option Tmp) (r : Option (Out × AH)) (w : Option Bool) : LR := match w with
 | some true => goOut k fr d r
 | some false => goOn k (fr.put d (.tup [])) H
 | none => none
def xg0 (P : Program) (call : xa2) (ops : List Oper) (l : List Oper) : Fr → AH → LR :=
 @List.rec Oper (fun _ => Fr → AH → LR) (fun fr H => some (.normal, fr, H)) (fun o _ ih fr H => xod ih fr H o.dst (opF P call fr.ev H o) (xa9 ops fr o)) l
def xc3 : LR → LR
 | some (e, fr, H) => some (e, fr.flush, H)
 | none => none
theorem xdZ {r : LR} {x : Ex × Fr × AH} (h : xc3 r = some x) : ∃ e fr H, r = some (e, fr, H) ∧ x = (e, fr.flush, H) := by
 rcases r with _ | ⟨e, fr, H⟩
 · simp [xc3] at h
 simp only [xc3, Option.some.injEq] at h; exact ⟨e, fr, H, rfl, h.symm⟩
theorem xlz (P : Program) (call : xa2) (ops : List Oper) (fr : Fr) (H : AH) : xg0 P call ops [] fr H = some (.normal, fr, H) := rfl
theorem xj1 (P : Program) (call : xa2) (ops : List Oper) (o : Oper) (l : List Oper) (fr : Fr) (H : AH) : xg0 P call ops (o :: l) fr H = match xa9 ops fr o with
 | some true => match opA P call fr.ev H o with
  | some (.ret r, H) => match fr.put o.dst r with
   | some fr => xg0 P call ops l fr H
   | none => none
  | some (.pan v, H) => some (.pan v, fr, H)
  | none => none
 | some false => match fr.put o.dst (.tup []) with
  | some fr => xg0 P call ops l fr H
  | none => none
 | none => none := by
 rw [← xiE]
 show xod (xg0 P call ops l) fr H o.dst (opF P call fr.ev H o) (xa9 ops fr o) = _
 generalize opF P call fr.ev H o = r
 generalize xa9 ops fr o = b
 rcases b with _ | (_ | _)
 · rfl
 · show goOn _ _ _ = _
   unfold goOn; rfl
 show goOut _ _ _ _ = _
 unfold goOut goOn; rfl
end
end
section
open Go
noncomputable section
def maskOf (t : Tr Nat) (o : Oper) : Nat :=
 o.after.toList.foldl (fun s e => bif Region.binds .any e then Nat.lor (Nat.lor s (2 ^ e.on)) ((t.get e.on).getD 0) else s) 0
def xgU : List Oper → Nat → Tr Nat → Tr Nat
 | [], _, t => t
 | o :: l, i, t => xgU l (i + 1) (t.put i (some (maskOf t o)))
def xbE (t : Tr Nat) (i j : Nat) : Bool := ((t.get i).getD 0).testBit j
def xbe (P : Program) (o : Oper) : Nat :=
 match o.op with
 | .move _ | .assign _ | .pick .. | .nilCheck _ | .binOp .. | .unOp .. | .makeInterface .. | .makeFunc .. | .fieldAddr .. | .field .. | .indexAddr ..
 | .index .. | .slice .. | .typeAssert .. | .extract .. | .build .. | .load .. => 0
 | .convert _ d _ => match P.underlying d with
  | some (.slice _) => 1
  | some _ => 0
  | none => 1
 | .call { callee := .builtin .len, .. } | .call { callee := .builtin .cap, .. } | .call { callee := .builtin .max, .. } | .call { callee := .builtin .min, .. }
 | .call { callee := .builtin .unsafeSliceData, .. } => 0
 | .alloc _ => match o.guard with
  | none => 2
  | some _ => 1
 | _ => 1
def xif {α : Type} (p : Nat → α → Bool) : List α → Nat → Bool
 | [], _ => true
 | x :: l, i => p i x && xif p l (i + 1)
def xoe (P : Program) (ops : List Oper) (t : Tr Nat) : Bool :=
 xif (fun i x => (x.after.toList.all fun e => !Region.binds .any e || Nat.blt e.on i) &&
  xif (fun j y => !Nat.blt i j || (xbE t j i ||
   (Oper.apart ops.toArray x y && (Nat.beq (xbe P x) 0 || (Nat.beq (xbe P y) 0 ||
     (Nat.beq (xbe P y) 2 && xif (fun k z => Nat.beq k j || (Oper.apart ops.toArray y z || xbE t k i)) ops 0)))))) ops 0) ops 0
structure Rc where
 fr : Fr
 cls : Nat
 r : AR
 H : AH
def xjN (P : Program) (call : xa2) (ops : List Oper) : List Oper → Fr → AH → Option (List Rc × Fr × AH)
 | [], fr, H => some ([], fr, H)
 | o :: l, fr, H =>
  let go (cls : Nat) (r : AR) (H' : AH) : Option (List Rc × Fr × AH) := match fr.put o.dst r with
   | some fr' => (xjN P call ops l fr' H').map fun (rs, x) => (⟨fr, cls, r, H⟩ :: rs, x)
   | none => none
  match xa9 ops fr o with
  | none => none
  | some false => go (bif Nat.beq (xbe P o) 0 then 0 else 1) (.tup []) H
  | some true =>
   bif Nat.beq (xbe P o) 0 then
    match xaQ P fr.ev o with
    | some r => go 0 r H
    | none => match xbt P H fr.ev o with
     | some r => go 2 r H
     | none => none
   else match opF P call fr.ev H o with
    | some (.ret r, H') => go 1 r H'
    | _ => none
def xel : List Rc → Nat → AH → List (Option Nat × AH)
 | [], _, H => [(none, H)]
 | c :: l, i, H => bif Nat.beq c.cls 1 then (some i, c.H) :: xel l (i + 1) H else xel l (i + 1) H
def Value.same : Value → Value → Bool
 | .bool a, .bool b => a == b
 | .int j a, .int k b => j == k && a == b
 | .string a, .string b => a.data.toList == b.data.toList
 | .pointer a, .pointer b => a == b
 | .slice none a b, .slice none c d => a == c && b == d
 | .nilIface, .nilIface => true
 | .nilFunc, .nilFunc => true
 | .map none, .map none => true
 | _, _ => false
def AC.same : AC → AC → Bool
 | .lit v, .lit u => Value.same v u
 | .ptr a b, .ptr c d => Nat.beq a c && Nat.beq b d
 | .sl a b c d e f, .sl a' b' c' d' e' f' => Nat.beq a a' && (Nat.beq b b' && (Nat.beq c c' && (Nat.beq d d' && (Nat.beq e e' && f == f'))))
 | .ifc t c, .ifc u d => Nat.beq t u && c.same d
 | .fn f, .fn g => f == g
 | .cap a b, .cap c d => a.same c && b.same d
 | .fst a b, .fst c d => a.same c && b.same d
 | _, _ => false
def xdz : List AC → List AC → Bool
 | [], [] => true
 | x :: l, y :: m => x.same y && xdz l m
 | _, _ => false
def AV.same : AV → AV → Bool
 | .c x, .c y => x.same y
 | .agg l, .agg m => xdz l m
 | _, _ => false
def xfZ (P : Program) (H : AH) (ev : Ev) (o : Oper) (r : AR) : Bool :=
 match xbt P H ev o, r with
 | some (.one x), .one y => x.same y
 | _, _ => false
def chkA (P : Program) (t : Tr Nat) (i : Nat) (ev : Ev) (o : Oper) (r : AR) : List (Option Nat × AH) → Bool
 | [] => true
 | (none, H) :: _ => xfZ P H ev o r
 | (some c, H) :: l => (xbE t i c || xfZ P H ev o r) && (xbE t c i || chkA P t i ev o r l)
def xhh (P : Program) (t : Tr Nat) (stops : List (Option Nat × AH)) : List Oper → List Rc → Nat → Bool
 | o :: l, c :: rs, i => (!Nat.beq c.cls 2 || chkA P t i c.fr.ev o c.r stops) && xhh P t stops l rs (i + 1)
 | _, _, _ => true
def xnF (P : Program) (call : xa2) (ops : List Oper) (fr : Fr) (H : AH) : Option (Ex × Fr × AH) :=
 let t := xgU ops 0 .nil
 bif xoe P ops t then
  match xjN P call ops ops fr H with
  | some (rs, fr', H') =>
   bif xhh P t (xel rs 0 H') ops rs 0 then some (.normal, fr', H') else none
  | none => none
 else none
abbrev xnZ := Code → Fr → AH → LR
abbrev CdK := Program → xa2 → xnZ → Fr → AH → LR
def xi0 (k : Fr → AH → LR) (r : LR) : LR := match r with
 | some (.normal, fr, H) => k fr H
 | r => r
def goBlock (id : Nat) (r : LR) : LR := match r with
 | some (.exit k, fr, H) => bif Nat.beq k id then some (.normal, fr, H) else some (.exit k, fr, H)
 | r => r
def seqK (a b : Code) : CdK := fun _ _ ih fr H => xi0 (ih b) (ih a fr H)
def condK (x : Operand) (a b : Code) : CdK := fun _ _ ih fr H => match fr.ev x with
 | .one (.c (.lit (.bool t))) => bif t then ih a fr H else ih b fr H
 | _ => none
def blockK (id : Nat) (b : Code) : CdK := fun _ _ ih fr H => goBlock id (ih b fr H)
def loopK (b : Code) : CdK := fun _ _ ih fr H => xi0 (ih (.loop b)) (ih b fr H)
def xnz (e : Ex) : CdK := fun _ _ _ fr H => some (e, fr, H)
def listK (ops : Array Oper) : CdK := fun P call _ fr H => xc3 (xg0 P call ops.toList ops.toList fr H)
def drawK (ops : Array Oper) : CdK := fun P call _ fr H => xc3 (xnF P call ops.toList fr H)
def noK : CdK := fun _ _ _ _ _ => none
def codeTab : Code → CdK
 | .skip => xnz .normal
 | .label _ => xnz .normal
 | .seq a b => seqK a b
 | .cond x a b => condK x a b
 | .block id b => blockK id b
 | .loop b => loopK b
 | .exit id => xnz (.exit id)
 | .ret => xnz .ret
 | .region _ ops d => bif d then drawK ops else listK ops
 | _ => noK
def xcz (P : Program) (call : xa2) (n : Nat) : xnZ := @Nat.rec (fun _ => xnZ) (fun _ _ _ => none) (fun _ ih c fr H => codeTab c P call ih fr H) n
theorem xke (P : Program) (call : xa2) (c : Code) (fr : Fr) (H : AH) : xcz P call 0 c fr H = none := rfl
theorem xaS (P : Program) (call : xa2) (n : Nat) (c : Code) (fr : Fr) (H : AH) : xcz P call (n + 1) c fr H = match c with
 | .skip | .label _ => some (.normal, fr, H)
 | .seq a b => match xcz P call n a fr H with
  | some (.normal, fr, H) => xcz P call n b fr H
  | r => r
 | .cond x a b => match fr.ev x with
  | .one (.c (.lit (.bool t))) => bif t then xcz P call n a fr H else xcz P call n b fr H
  | _ => none
 | .block id b => match xcz P call n b fr H with
  | some (.exit k, fr, H) => bif Nat.beq k id then some (.normal, fr, H) else some (.exit k, fr, H)
  | r => r
 | .loop b => match xcz P call n b fr H with
  | some (.normal, fr, H) => xcz P call n (.loop b) fr H
  | r => r
 | .exit id => some (.exit id, fr, H)
 | .ret => some (.ret, fr, H)
 | .region _ ops false => xc3 (xg0 P call ops.toList ops.toList fr H)
 | .region _ ops true => xc3 (xnF P call ops.toList fr H)
 | _ => none := by
 cases c with
 | region id ops d => cases d <;> rfl
 | _ => rfl
def xn2 (l : List Operand) : Nat := l.foldr (fun x m => match x with
 | .tmp t => Nat.lor m (Nat.shiftLeft 1 t)
 | _ => m) 0
def opsLive (ops : List Oper) : Nat := ops.foldr (fun o m =>
 let m := match o.dst with
  | some d => bif xd4 m d then Nat.xor m (Nat.shiftLeft 1 d) else m
  | none => m
 Nat.lor m (xn2 o.op.operands.toList)) 0
def xci : Code → Nat
 | .region _ ops _ => opsLive ops.toList
 | .seq a b => Nat.lor (xci a) (xci b)
 | .cond x a b => Nat.lor (xn2 [x]) (Nat.lor (xci a) (xci b))
 | .block _ b => xci b
 | .loop b => xci b
 | _ => 0
def resLive (l : List ResultVar) : Nat := l.foldr (fun x m => match x with
 | .tmp t => Nat.lor m (Nat.shiftLeft 1 t)
 | .cell a _ => Nat.lor m (Nat.shiftLeft 1 a)) 0
def xgX (fn : Func) : Nat := match fn.body with
 | some c => Nat.lor (xci c) (resLive fn.results.toList)
 | none => 0
def xcP : List AV → Nat → Log → Log
 | [], _, t => t
 | a :: l, i, t => xcP l (i + 1) (.cons i (.one a) t)
def xi4 (az : List AV) (n m : Nat) : Fr := ⟨xcP az 0 .nil, .nil, m, Nat.max az.length n⟩
def resA (P : Program) (fr : Fr) (H : AH) : List ResultVar → Option (List AV)
 | [] => some []
 | .tmp t :: l => match fr.get t, resA P fr H l with
  | .one x, some r => some (x :: r)
  | _, _ => none
 | .cell a t :: l => match fr.get a, resA P fr H l with
  | .one (.c (.ptr id off)), some r => ((H.get id).bind fun b => xdX P t b.cells off).map (· :: r)
  | _, _ => none
def xdB (P : Program) (fr : Fr) (H : AH) (rs : List ResultVar) : Option AR :=
 match resA P fr H rs with
 | some [x] => some (.one x)
 | some l => some (.tup l)
 | none => none
abbrev DF := List (FuncId × List AV)
def defA (P : Program) (ev : Ev) (o : Oper) : Option (FuncId × List AV) :=
 match o.op with
 | .defer { callee := .value f, args, argTypes } => xbk P ev { o with op := .call { callee := .value f, args, argTypes } }
 | _ => none
def xgZ (P : Program) (call : xa2) (ops : List Oper) : List Oper → Fr → AH → DF → Option (Ex × Fr × AH × DF)
 | [], fr, H, ds => some (.normal, fr, H, ds)
 | o :: l, fr, H, ds => match xa9 ops fr o with
  | some true => match opF P call fr.ev H o with
   | some (.ret r, H) => match fr.put o.dst r with
    | some fr => xgZ P call ops l fr H ds
    | none => none
   | some (.pan v, H) => some (.pan v, fr, H, ds)
   | none => match defA P fr.ev o with
    | some d => match fr.put o.dst (.tup []) with
     | some fr => xgZ P call ops l fr H (d :: ds)
     | none => none
    | none => none
  | some false => match fr.put o.dst (.tup []) with
   | some fr => xgZ P call ops l fr H ds
   | none => none
  | none => none
def xnh (l : List Oper) : Bool := l.all fun o => match o.op with
 | .defer _ => false
 | _ => true
abbrev DR := Option (Ex × Fr × AH × DF)
abbrev xmG := Code → Fr → AH → DF → DR
abbrev CdDK := Program → xa2 → xnZ → xmG → Fr → AH → DF → DR
def xlI (k : Fr → AH → DF → DR) (r : DR) : DR := match r with
 | some (.normal, fr, H, ds) => k fr H ds
 | r => r
def withD (ds : DF) (r : LR) : DR := match r with
 | some (e, fr, H) => some (e, fr, H, ds)
 | none => none
def xg6 : DR → DR
 | some (e, fr, H, ds) => some (e, fr.flush, H, ds)
 | none => none
theorem xhZ {r : DR} {x : Ex × Fr × AH × DF} (h : xg6 r = some x) : ∃ e fr H ds, r = some (e, fr, H, ds) ∧ x = (e, fr.flush, H, ds) := by
 rcases r with _ | ⟨e, fr, H, ds⟩
 · simp [xg6] at h
 simp only [xg6, Option.some.injEq] at h; exact ⟨e, fr, H, ds, rfl, h.symm⟩
def seqD (a b : Code) : CdDK := fun _ _ _ ih fr H ds => xlI (ih b) (ih a fr H ds)
def condD (x : Operand) (a b : Code) : CdDK := fun _ _ _ ih fr H ds => match fr.ev x with
 | .one (.c (.lit (.bool t))) => bif t then ih a fr H ds else ih b fr H ds
 | _ => none
def regD (ops : Array Oper) : CdDK := fun P call _ _ fr H ds => xg6 (xgZ P call ops.toList ops.toList fr H ds)
def elseD (c : Code) : CdDK := fun _ _ ia _ fr H ds => withD ds (ia c fr H)
def xgg : Code → CdDK
 | .seq a b => seqD a b
 | .cond x a b => condD x a b
 | .region id ops d => bif d || xnh ops.toList then elseD (.region id ops d) else regD ops
 | c => elseD c
def xgi (P : Program) (call : xa2) (n : Nat) : xmG := @Nat.rec (fun _ => xmG) (fun _ _ _ _ => none) (fun n ih c fr H ds => xgg c P call (xcz P call n) ih fr H ds) n
theorem xkd (P : Program) (call : xa2) (c : Code) (fr : Fr) (H : AH) (ds : DF) : xgi P call 0 c fr H ds = none := rfl
theorem xdO (P : Program) (call : xa2) (n : Nat) (c : Code) (fr : Fr) (H : AH) (ds : DF) : xgi P call (n + 1) c fr H ds = match c with
 | .seq a b => match xgi P call n a fr H ds with
  | some (.normal, fr, H, ds) => xgi P call n b fr H ds
  | r => r
 | .cond x a b => match fr.ev x with
  | .one (.c (.lit (.bool t))) => bif t then xgi P call n a fr H ds else xgi P call n b fr H ds
  | _ => none
 | .region id ops d => bif d || xnh ops.toList then (match xcz P call n (.region id ops d) fr H with
  | some (e, fr, H) => some (e, fr, H, ds)
  | none => none)
  else xg6 (xgZ P call ops.toList ops.toList fr H ds)
 | c => match xcz P call n c fr H with
  | some (e, fr, H) => some (e, fr, H, ds)
  | none => none := by
 cases c with
 | region id ops d =>
  show xgg (.region id ops d) P call (xcz P call n) (xgi P call n) fr H ds = _
  simp only [xgg]
  cases d || xnh ops.toList <;> rfl
 | _ => rfl
inductive PM where
 | no
 | live (x : AV)
 | done (x : AV)
def PM.rec? : PM → AR × PM
 | .live x => (.one x, .done x)
 | p => (.one (.c (.lit .nilIface)), p)
def PM.settle : PM → PM
 | .done _ => .no
 | p => p
def xj5 (o : Oper) : Bool := match o.op with
 | .call { callee := .builtin .recover, .. } => true
 | _ => false
def xhS (P : Program) (call : xa2) (ops : List Oper) : List Oper → Fr → AH → PM → Option (Ex × Fr × AH × PM)
 | [], fr, H, pm => some (.normal, fr, H, pm)
 | o :: l, fr, H, pm => match xa9 ops fr o with
  | some true => match opF P call fr.ev H o with
   | some (.ret r, H) => match fr.put o.dst r with
    | some fr => xhS P call ops l fr H pm
    | none => none
   | some (.pan v, H) => some (.pan v, fr, H, pm)
   | none => bif xj5 o then (match fr.put o.dst pm.rec?.1 with
    | some fr => xhS P call ops l fr H pm.rec?.2
    | none => none)
    else none
  | some false => match fr.put o.dst (.tup []) with
   | some fr => xhS P call ops l fr H pm
   | none => none
  | none => none
def xi1 : Option (Ex × Fr × AH × PM) → Option (Ex × Fr × AH × PM)
 | some (e, fr, H, pm) => some (e, fr.flush, H, pm)
 | none => none
theorem xhY {r : Option (Ex × Fr × AH × PM)} {x : Ex × Fr × AH × PM} (h : xi1 r = some x) : ∃ e fr H pm, r = some (e, fr, H, pm) ∧ x = (e, fr.flush, H, pm) := by
 rcases r with _ | ⟨e, fr, H, pm⟩
 · simp [xi1] at h
 simp only [xi1, Option.some.injEq] at h; exact ⟨e, fr, H, pm, rfl, h.symm⟩
def xgh (P : Program) (call : xa2) : Nat → Code → Fr → AH → PM → Option (Ex × Fr × AH × PM)
 | 0, _, _, _, _ => none
 | n + 1, c, fr, H, pm => match c with
  | .seq a b => match xgh P call n a fr H pm with
   | some (.normal, fr, H, pm) => xgh P call n b fr H pm
   | r => r
  | .cond x a b => match fr.ev x with
   | .one (.c (.lit (.bool t))) => bif t then xgh P call n a fr H pm else xgh P call n b fr H pm
   | _ => none
  | .region _ ops false => xi1 (xhS P call ops.toList ops.toList fr H pm)
  | c => match xcz P call n c fr H with
   | some (e, fr, H) => some (e, fr, H, pm)
   | none => none
def xeI (P : Program) (call : xa2) (n : Nat) : DF → AH → PM → Option (AH × PM)
 | [], H, pm => some (H, pm)
 | (f, az) :: ds, H, pm => match P.funcs[f]? with
  | none => none
  | some fn => match fn.body with
   | none => none
   | some c => match xgh P call n c (xi4 az fn.ntmps (xgX fn)) H pm with
    | some (.normal, fr, H, pm) => match xdB P fr H fn.results.toList with
     | some _ => xeI P call n ds H pm.settle
     | none => none
    | some (.ret, fr, H, pm) => match xdB P fr H fn.results.toList with
     | some _ => xeI P call n ds H pm.settle
     | none => none
    | _ => none
def endA (P : Program) (call : xa2) (n : Nat) (rs : List ResultVar) (fr : Fr) (H : AH) (ds : DF) (pm : PM) : Option (Out × AH) :=
 match xeI P call n ds H pm with
 | some (H, .no) => match xdB P fr H rs with
  | some r => some (.ret r, H)
  | none => none
 | some (H, .live v) => some (.pan v, H)
 | _ => none
def xfa (P : Program) : Nat → xa2
 | 0, _, _, _ => none
 | n + 1, f, az, H => match P.funcs[f]? with
  | none => none
  | some fn => match fn.body with
   | none => none
   | some c => match xgi P (xfa P n) n c (xi4 az fn.ntmps (xgX fn)) H [] with
    | some (.normal, fr, H, ds) => endA P (xfa P n) n fn.results.toList fr H ds .no
    | some (.ret, fr, H, ds) => endA P (xfa P n) n fn.results.toList fr H ds .no
    | some (.pan v, fr, H, ds) => endA P (xfa P n) n fn.results.toList fr H ds (.live v)
    | _ => none
end
end
end Go.Proofs.YtbifklibdkjbeaaGreatDoor
