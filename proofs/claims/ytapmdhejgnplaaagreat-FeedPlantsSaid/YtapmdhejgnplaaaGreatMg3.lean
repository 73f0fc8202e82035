/-
  The reckoned run: memory, calls, regions, code. No condition.
-/
import Derived.Test.YtapmdhejgnplaaaGreatEvAG
import Derived.Laws.Tables
import Derived.Orders
namespace Go.Proofs.YtapmdhejgnplaaaGreat
open Go.RowKit
set_option linter.unusedVariables false
set_option linter.unusedSimpArgs false
set_option maxRecDepth 100000
section
open Go
noncomputable section
def xfI : List AC -> ByteArray -> Option ByteArray
 | [], b => some b
 | .lit (.int .u8 n) :: l, b => xfI l (b.push (UInt8.ofNat n.toNat))
 | _ :: _, _ => none
def xct (H : AH) (n size : Nat) : AR -> Option (List AC)
 | .one (.c (.sl id off len _ es _)) => bif Nat.ble n len && Nat.beq es size then (H.get id).bind fun b => cut b.cells off (n * size) else none
 | .one (.c (.lit (.slice none _ _))) => bif Nat.beq n 0 then some [] else none
 | .one (.c (.lit (.string s))) => bif Nat.beq n s.size && Nat.beq size 1 then some (s.data.toList.map fun b => .lit (.int .u8 b.toNat)) else none
 | _ => none
def lenA : AR -> Option Nat
 | .one (.c (.sl _ _ len _ _ _)) => some len
 | .one (.c (.lit (.slice none n _))) => some n
 | .one (.c (.lit (.string s))) => some s.size
 | _ => none
def xbr (P : Program) (H : AH) (ev : Ev) (o : Oper) : Option AR :=
 match o.op with
 | .load t a => match ev a with
  | .one (.c (.ptr id off)) => (H.get id).bind fun b => (xd2 P t b.cells off).map .one
  | _ => none
 | .convert s d x => match P.underlying s, P.underlying d, ev x with
  | some (.slice e), some .string, .one (.c (.sl id off len cap es ex)) => match P.underlying e with
   | some (.int .u8) => bif Nat.beq es 1 then (xct H len 1 (.one (.c (.sl id off len cap es ex)))).bind fun l => (xfI l .empty).map fun b => .one (.c (.lit (.string b))) else none
   | _ => none
  | some (.pointer t), some .unsafePointer, .one (.c (.ptr id off)) => match szOf P t, H.get id with
   | some (_ + 1), some b => bif Nat.blt off b.cells.length then some (.one (.c (.ptr id off))) else none
   | _, _ => none
  | some .unsafePointer, some (.pointer u), .one (.c (.ptr id off)) => match szOf P u, H.get id with
   | some (_ + 1), some b => bif b.whole && liesAt P P.depth b.elem (b.cells.length / P.cellsOf b.elem) off u 1 then some (.one (.c (.ptr id off))) else none
   | _, _ => none
  | _, _, _ => none
 | .call { callee := .builtin .unsafeSliceData, args, .. } => match args.toList.map ev with
  | [.one (.c (.sl id off _ (_ + 1) _ _))] => some (.one (.c (.ptr id off)))
  | _ => none
 | _ => none
def xnx (P : Program) (u : TypeId) : Bool := match P.underlying u with
 | some (.slice _) | some .string => true
 | _ => false
def rep (n : Nat) (l : List AC) : List AC :=
 match n with
 | 0 => []
 | n + 1 => l ++ rep n l
def actA (P : Program) (H : AH) (ev : Ev) (o : Oper) : Option (AR × AH) :=
 match o.op with
 | .alloc t => (zeroCells? P t).map fun z => (.one (.c (.ptr H.next 0)), H.new ⟨z, t, true⟩)
 | .box t x => match ev x with
  | .one a => some (.one (.c (.ptr H.next 0)), H.new ⟨a.cells, t, true⟩)
  | _ => none
 | .buildSlice t len parts => match P.underlying t with
  | some (.slice e) => match szOf P e, zeroCells? P e, xfv ev parts.toList with
   | some s, some z, some ps => bif Nat.beq z.length s && Nat.ble (len * s) 16777216 then
    (xkd (fun i => some (i * s, s)) (rep len z) ps).map fun l => (.one (.c (.sl H.next 0 len len s true)), H.new ⟨l, e, true⟩)
    else none
   | _, _, _ => none
  | _ => none
 | .makeSlice t l c => match P.underlying t, xd3 (ev l), xd3 (ev c) with
  | some (.slice e), some (.ofNat l), some (.ofNat c) => match szOf P e, zeroCells? P e, (P.info? e).map (·.bytes) with
   | some s, some z, some b => bif Nat.ble l c && (Nat.blt c 1000000 && (Nat.beq z.length s && Nat.ble (b * c) 140737488355328)) then
    some (.one (.c (.sl H.next 0 l c s true)), H.new ⟨rep c z, e, true⟩)
    else none
   | _, _, _ => none
  | _, _, _ => none
 | .store t a x => match ev a, ev x with
  | .one (.c (.ptr id off)), .one v => match H.get id, szOf P t with
   | some b, some n => bif Nat.beq v.cells.length n && Nat.ble (off + n) b.cells.length then
    some (.tup [], H.set id (some ⟨xcm b.cells off v.cells, b.elem, b.whole⟩))
    else none
   | _, _ => none
  | _, _ => none
 | .convert s d x => match P.underlying s, P.underlying d, ev x with
  | some .string, some (.slice e), .one (.c (.lit (.string t))) => match P.underlying e, szOf P e with
   | some (.int .u8), some 1 => some (.one (.c (.sl H.next 0 t.size t.size 1 false)), H.new ⟨t.data.toList.map fun b => .lit (.int .u8 b.toNat), e, false⟩)
   | _, _ => none
  | some (.slice _), some (.slice e), .one (.c (.sl id off len cap es ex)) => match Nat.beq s d, P.underlying e with
   | true, some (.int .u8) => bif (H.get id).isSome then some (.one (.c (.sl id off len cap es ex)), H) else none
   | _, _ => none
  | _, _, _ => none
 | .call { callee := .builtin .append, args, argTypes } => match argTypes.toList, args.toList.map ev with
  | [t, u], [s, x] => match P.underlying t, xnx P u with
   | some (.slice e), true => match szOf P e, lenA x, (P.info? e).map (·.bytes) with
    | some size, some n, some bytes =>
     match n with
     | 0 => match s with
      | .one (.c (.sl ..)) => some (s, H)
      | .one (.c (.lit (.slice none 0 0))) => some (s, H)
      | _ => none
     | _ + 1 => match xct H n size x, zeroCells? P e with
      | some new, some z => bif Nat.beq z.length size && (Nat.ble (n * bytes) 1099511627776 && Nat.ble n 1000000000) then
       match s with
       | .one (.c (.lit (.slice none 0 0))) => some (.one (.c (.sl H.next 0 n n size false)), H.new ⟨new, e, false⟩)
       | .one (.c (.sl id off len cap es ex)) => match H.get id with
        | some b =>
         let need := len + n
         bif Nat.beq es size && (Nat.ble (need * bytes) 1099511627776 && Nat.ble need 1000000000) then
          bif Nat.ble need cap then
           bif Nat.ble (off + need * size) b.cells.length then
            some (.one (.c (.sl id off need cap es ex)), H.set id (some ⟨xcm b.cells (off + len * size) new, b.elem, b.whole⟩))
           else none
          else match cut b.cells off (len * size) with
           | none => none
           | some old =>
            bif ex then some (.one (.c (.sl H.next 0 need need size false)), H.new ⟨old ++ new, e, false⟩)
            else bif Nat.beq (off + len * size) b.cells.length && Nat.beq b.elem e then
             some (.one (.c (.sl H.next 0 need need size false)), (H.set id none).new ⟨old ++ new, e, false⟩)
            else none
         else none
        | none => none
       | _ => none
       else none
      | _, _ => none
    | _, _, _ => none
   | _, _ => none
  | _, _ => none
 | .call { callee := .builtin .unsafeString, args, argTypes } => match argTypes.toList, args.toList.map ev with
  | pt :: _, [.one (.c (.ptr id off)), .one (.c (.lit (.int _ n)))] => match P.underlying pt, H.get id with
   | some (.pointer u), some b => match P.underlying u with
    | some (.int .u8) => bif Nat.beq u b.elem && (decide (0 < n) && decide (n < 1000000)) then
     match (cut b.cells off n.toNat).bind fun l => xfI l .empty with
     | some s => bif Nat.beq (P.cellsOf u) 1 && Nat.blt 1 P.depth then some (.one (.c (.lit (.string s))), H.set id none) else none
     | none => none
     else none
    | _ => none
   | _, _ => none
  | _, _ => none
 | _ => none
def xdQ (P : Program) : List FieldStep -> TypeId -> AC ⊕ (Nat × Nat) -> Option (TypeId × (AC ⊕ (Nat × Nat)))
 | [], t, x => some (t, x)
 | s :: rest, _, x => match xeT P s.struct s.index with
  | some (off, ft, _ + 1) => match s.deref, x with
   | true, .inl (.ptr id o) => xdQ P rest ft (.inr (id, o + off))
   | false, .inr (id, o) => xdQ P rest ft (.inr (id, o + off))
   | _, _ => none
  | _ => none
def xew (P : Program) (xt : TypeId) (x : AC ⊕ (Nat × Nat)) (ptr : Bool) : Option AC :=
 match P.underlying xt, ptr, x with
 | some (.pointer _), true, .inl c => some c
 | some (.pointer _), _, _ => none
 | some _, true, .inr (id, o) => some (.ptr id o)
 | some _, false, .inl c => some c
 | _, _, _ => none
def xhT (P : Program) (t : TypeId) (c : AC) (name : String) : Option (FuncId × AC) :=
 match P.info? t with
 | some i => match i.methods.find? (·.name == name) with
  | some m => match xdQ P m.path.toList t (.inl c), m.func with
   | some (xt, x), some (f, ptr) => (xew P xt x ptr).map fun r => (f, r)
   | _, _ => none
  | none => none
 | none => none
def xhr (ev : Ev) : List Operand -> Option (List AV)
 | [] => some []
 | x :: l => match ev x, xhr ev l with
  | .one a, some r => some (a :: r)
  | _, _ => none
def xbQ (P : Program) (g : FuncId) : Bool := match P.funcs[g]? with
 | some fn => fn.body.isSome
 | none => false
def xbi (P : Program) (ev : Ev) (o : Oper) : Option (FuncId × List AV) :=
 match o.op with
 | .call { callee := .value f, args, .. } => match ev f, xhr ev args.toList with
  | .one (.c x), some az => match x.fn? with
   | some (.func g, fs, cs) => bif xbQ P g then some (g, fs.reverse.map .c ++ (az ++ cs.reverse.map .c)) else none
   | _ => none
  | _, _ => none
 | .call { callee := .invoke r name, args, .. } => match ev r, xhr ev args.toList with
  | .one (.c (.ifc t c)), some az => match xhT P t c name with
   | some (f, x) => bif xbQ P f then some (f, .c x :: az) else none
   | none => none
  | _, _ => none
 | _ => none
inductive Out where
 | ret (r : AR)
 | pan (v : AV)
inductive Ex where
 | normal
 | exit (id : Nat)
 | ret
 | pan (v : AV)
abbrev xa0 := FuncId -> List AV -> AH -> Option (Out × AH)
def xa6 (ops : List Oper) (fr : Fr) (o : Oper) : Option Bool :=
 match o.guard with
 | none => some true
 | some (j, want) => match (ops[j]?).bind (·.dst) with
  | some d => match fr.get d with
   | .one (.c (.lit (.bool b))) => some (b == want)
   | .tup [] => some false
   | _ => none
  | none => some false
def xcw (ev : Ev) (o : Oper) : Option AV :=
 match o.op with
 | .panic x => match ev x with
  | .one (.c (.ifc t c)) => some (.c (.ifc t c))
  | .one (.c (.lit (.iface t v))) => some (.c (.lit (.iface t v)))
  | _ => none
 | .call { callee := .builtin .panic, args, .. } => match args.toList.map ev with
  | .one (.c (.ifc t c)) :: _ => some (.c (.ifc t c))
  | .one (.c (.lit (.iface t v))) :: _ => some (.c (.lit (.iface t v)))
  | _ => none
 | _ => none
def xjn (P : Program) (ev : Ev) (o : Oper) : Option AR := match o.op with
 | .call _ => scal P ev o
 | _ => none
def opA (P : Program) (call : xa0) (ev : Ev) (H : AH) (o : Oper) : Option (Out × AH) :=
 match xaP P ev o with
 | some r => some (.ret r, H)
 | none => match xbr P H ev o with
  | some r => some (.ret r, H)
  | none => match actA P H ev o with
   | some (r, H) => some (.ret r, H)
   | none => match xbi P ev o with
    | some (f, az) => match call f az H with
     | some (.ret r, H) => some (.ret r, H)
     | some (.pan v, H) => some (.pan v, H)
     | none => none
    | none => match xjn P ev o with
     | some r => some (.ret r, H)
     | none => (xcw ev o).map fun v => (.pan v, H)
abbrev OpK := Program -> xa0 -> Ev -> AH -> Oper -> Option (Out × AH)
def retP (H : AH) : Option AR -> Option (Out × AH)
 | some r => some (.ret r, H)
 | none => none
def retA : Option (AR × AH) -> Option (Out × AH)
 | some (r, H) => some (.ret r, H)
 | none => none
def moveK (x : Operand) : OpK := fun _ _ ev H _ => some (.ret (ev x), H)
def loadB (P : Program) (H : AH) (t : TypeId) : AR -> Option AR
 | .one (.c (.ptr id off)) => (H.get id).bind fun b => (xd2 P t b.cells off).map .one
 | _ => none
def loadK (t : TypeId) (a : Operand) : OpK := fun P _ ev H _ => retP H (loadB P H t (ev a))
def xkS (P : Program) (u v : AR) (op : BinOp) (t : TypeId) (x y : Operand) : Option AR :=
 match u.val?, v.val? with
 | some a, some b => match qrun P (do eqGuard op t x y a b; binOp op t a b) with
  | some v => AR.of? v
  | _ => none
 | _, _ => none
def intB : BinOp -> Int -> Int -> Option Value
 | .eql, a, b => some (.bool (a == b))
 | .neq, a, b => some (.bool (a != b))
 | .lss, a, b => some (.bool (a < b))
 | .leq, a, b => some (.bool (a <= b))
 | .gtr, a, b => some (.bool (a > b))
 | .geq, a, b => some (.bool (a ≥ b))
 | .add, a, b => some (.int .i64 (IntKind.i64.wrap (a + b)))
 | .sub, a, b => some (.int .i64 (IntKind.i64.wrap (a - b)))
 | _, _, _ => none
def binG (op : BinOp) (t : TypeId) (x y : Operand) : OpK := fun P call ev H o => match xkS P (ev x) (ev y) op t x y with
 | some r => some (.ret r, H)
 | none => opA P call ev H o
def intK (r : Option Value) (g : OpK) : OpK := fun P call ev H o => match r with
 | some v => some (.ret (.one (.c (.lit v))), H)
 | none => g P call ev H o
def binK (op : BinOp) (t : TypeId) (x y : Operand) : OpK := fun P call ev H o => match ev x, ev y with
 | .one (.c (.lit (.int .i64 a))), .one (.c (.lit (.int .i64 b))) => intK (intB op a b) (binG op t x y) P call ev H o
 | _, _ => binG op t x y P call ev H o
def fieldB (fo : Option (Nat × TypeId × Nat)) (x : AR) : Option AR :=
 match fo, x with
 | some (off, _, _ + 1), .one (.c (.ptr id o)) => some (.one (.c (.ptr id (o + off))))
 | _, _ => none
def xke (s : TypeId) (x : Operand) (f : Nat) : OpK := fun P _ ev H _ => retP H (fieldB (xeT P s f) (ev x))
def indexB (P : Program) (t : TypeId) (x : AR) : Option Int -> Option AR
 | some (.ofNat k) => match P.underlying t, x with
  | some (.array n e), .one (.c (.ptr id off)) => match szOf P e with
   | some s => bif Nat.blt k n then some (.one (.c (.ptr id (off + k * s)))) else none
   | none => none
  | some (.slice e), .one (.c (.sl id off len _ es _)) => match szOf P e with
   | some s => bif Nat.blt k len && Nat.beq s es then some (.one (.c (.ptr id (off + k * s)))) else none
   | none => none
  | _, _ => none
 | _ => none
def xkb (t : TypeId) (x i : Operand) : OpK := fun P _ ev H _ => retP H (indexB P t (ev x) (xd3 (ev i)))
def storeB (P : Program) (H : AH) (t : TypeId) (a x : AR) : Option (AR × AH) :=
 match a, x with
 | .one (.c (.ptr id off)), .one v => match H.get id, szOf P t with
  | some b, some n => bif Nat.beq v.cells.length n && Nat.ble (off + n) b.cells.length then
   some (.tup [], H.set id (some ⟨xcm b.cells off v.cells, b.elem, b.whole⟩))
   else none
  | _, _ => none
 | _, _ => none
def storeK (t : TypeId) (a x : Operand) : OpK := fun P _ ev H _ => retA (storeB P H t (ev a) (ev x))
def pickB (a b : AR) : AR -> Option AR
 | .one (.c (.lit (.bool t))) => some (bif t then a else b)
 | _ => none
def pickK (c a b : Operand) : OpK := fun _ _ ev H _ => retP H (pickB (ev a) (ev b) (ev c))
def nilB : AR -> Option AR
 | .one (.c (.ptr id off)) => some (.one (.c (.ptr id off)))
 | .one (.c (.cap r c)) => match (AC.cap r c).fn? with
  | some (.func _, _) => some (.one (.c (.cap r c)))
  | _ => none
 | .one (.c (.fn (.func f))) => some (.one (.c (.fn (.func f))))
 | .one (.c (.fst r c)) => match (AC.fst r c).fn? with
  | some (.func _, _) => some (.one (.c (.fst r c)))
  | _ => none
 | .one (.c (.ifc t c)) => some (.one (.c (.ifc t c)))
 | _ => none
def xlB (x : Operand) : OpK := fun _ _ ev H _ => retP H (nilB (ev x))
def extB (i : Nat) : AR -> Option AR
 | .tup vs => (vs[i]?).map .one
 | _ => none
def xnI (x : Operand) (i : Nat) : OpK := fun _ _ ev H _ => retP H (extB i (ev x))
def notK (x : Operand) : OpK := fun P call ev H o => match ev x with
 | .one (.c (.lit (.bool b))) => some (.ret (.one (.c (.lit (.bool !b)))), H)
 | _ => opA P call ev H o
def xl7 : AR -> Option (List AV) -> Option (List AV)
 | .one a, some r => some (a :: r)
 | _, _ => none
def argsR (ev : Ev) (l : List Operand) : Option (List AV) := @List.rec Operand (fun _ => Option (List AV)) (some []) (fun x _ ih => xl7 (ev x) ih) l
def xid (f : Operand) (args : Array Operand) : OpK := fun P call ev H o => match ev f, argsR ev args.toList with
 | .one (.c (.fn (.func g))), some az => bif xbQ P g then call g az H else opA P call ev H o
 | _, _ => opA P call ev H o
def xhY : OpK := fun P call ev H o => match xbi P ev o with
 | some (f, az) => call f az H
 | none => opA P call ev H o
def lenK (args : Array Operand) (ats : Array TypeId) : OpK := fun P call ev H o => match args.toList, ats[0]? with
 | x :: _, some t => match ev x, P.underlying t with
  | .one (.c (.sl _ _ len _ _ _)), some (.slice _) => some (.ret (.one (.c (.lit (.int .i64 len)))), H)
  | _, _ => opA P call ev H o
 | _, _ => opA P call ev H o
def xih (args : Array Operand) : OpK := fun P call ev H o => match args.toList with
 | x :: _ => match ev x with
  | .one (.c (.sl ..)) => match actA P H ev o with
   | some (r, H) => some (.ret r, H)
   | none => opA P call ev H o
  | _ => opA P call ev H o
 | _ => opA P call ev H o
def actK : OpK := fun P _ ev H o => retA (actA P H ev o)
def callTab (args : Array Operand) (ats : Array TypeId) : Callee -> OpK
 | .value f => xid f args
 | .invoke _ _ => xhY
 | .builtin .len => lenK args ats
 | .builtin .append => xih args
 | _ => opA
def opTab : Op -> OpK
 | .move x => moveK x
 | .assign x => moveK x
 | .load t a => loadK t a
 | .store t a x => storeK t a x
 | .binOp op t x y _ => binK op t x y
 | .unOp .not _ x => notK x
 | .nilCheck x => xlB x
 | .extract x i => xnI x i
 | .fieldAddr s x f => xke s x f
 | .indexAddr t x i => xkb t x i
 | .pick c a b => pickK c a b
 | .alloc _ => actK
 | .box _ _ => actK
 | .buildSlice _ _ _ => actK
 | .makeSlice _ _ _ => actK
 | .call c => callTab c.args c.argTypes c.callee
 | _ => opA
def opF : OpK := fun P call ev H o => opTab o.op P call ev H o
theorem xkR {P : Program} {ev : Ev} {o : Oper} {v : Value} (e1 : xgK o = true) (e2 : xcn ev o.op.operands.toList = true) (h : qrun P (execOp (fun x => ((ev x).val?).getD undef) o) = some (.value v)) : scal P ev o = AR.of? v := by
 unfold scal
 rw [e1, e2]
 simp only [Bool.and_self, cond_true, h]
theorem xmP {P : Program} {ev : Ev} {o : Oper} {op : BinOp} {t yt : TypeId} {x y : Operand} (ho : o.op = .binOp op t x y yt) {r : AR} (h : xkS P (ev x) (ev y) op t x y = some r) : scal P ev o = some r := by
 unfold xkS at h
 split at h
 · rename_i a b ha hb
   have e3 : execOp (fun x => ((ev x).val?).getD undef) o = (do let v <- (do eqGuard op t x y a b; binOp op t a b : Sem Value); pure (.value v)) := by
    unfold execOp; rw [ho]; simp only [ha, hb, Option.getD_some]
   have bind : ∀ {α β : Type} (s : Sem α) (f : α -> β) (a : α), qrun P s = some a -> qrun P (do let x <- s; pure (f x)) = some (f a) := by
    intro α β s f a h
    induction s with
    | pure b => simp only [qrun, Option.some.injEq] at h; subst h; rfl
    | program k ih => exact ih P h
    | mark m k ih => exact ih h
    | _ => simp [qrun] at h
   split at h
   · rename_i v hv
     rw [xkR (by unfold xgK; rw [ho]) (by rw [ho]; simp [Op.operands, xcn, ha, hb]) (by rw [e3]; exact bind _ Next.value v hv)]
     exact h
   simp at h
 simp at h
theorem intB_eq {P : Program} {ev : Ev} {op : BinOp} {t : TypeId} {x y : Operand} {a b : Int} (ha : ev x = .one (.c (.lit (.int .i64 a)))) (hb : ev y = .one (.c (.lit (.int .i64 b)))) {v : Value} (h : intB op a b = some v) :
 xkS P (ev x) (ev y) op t x y = some (.one (.c (.lit v))) := by
 rw [ha, hb]
 cases op <;> simp only [intB, Option.some.injEq, reduceCtorEq] at h <;> subst h <;> rfl
theorem xjd (ev : Ev) : ∀ l, argsR ev l = xhr ev l
 | [] => rfl
 | x :: l => by
  have ih := xjd ev l
  show xl7 (ev x) (argsR ev l) = _
  rw [ih]
  simp only [xhr]
  rfl
theorem xml {r : Option (Out × AH)} : (match r with
 | some (.ret r, H) => some (Out.ret r, H)
 | some (.pan v, H) => some (Out.pan v, H)
 | none => none) = r := by
 rcases r with _ | ⟨_ | _, _⟩ <;> rfl
theorem xdm {P : Program} {call : xa0} {ev : Ev} {H : AH} {o : Oper} {r : Option AR} (h : xaP P ev o = r) (h2 : xbr P H ev o = none) (h3 : actA P H ev o = none) (h4 : xbi P ev o = none) (h5 : xjn P ev o = none) (h6 : xcw ev o = none) : retP H r = opA P call ev H o := by
 unfold opA; rw [h, h2, h3, h4, h5, h6]; cases r <;> rfl
theorem xn {P : Program} {call : xa0} {ev : Ev} {H : AH} {o : Oper} {r : Option AR} (h : xbr P H ev o = r) (h2 : xaP P ev o = none) (h3 : actA P H ev o = none) (h4 : xbi P ev o = none) (h5 : xjn P ev o = none) (h6 : xcw ev o = none) : retP H r = opA P call ev H o := by
 unfold opA; rw [h, h2, h3, h4, h5, h6]; cases r <;> rfl
theorem xeH {P : Program} {call : xa0} {ev : Ev} {H : AH} {o : Oper} {r : Option (AR × AH)} (h : actA P H ev o = r) (h2 : xaP P ev o = none) (h3 : xbr P H ev o = none) (h4 : xbi P ev o = none) (h5 : xjn P ev o = none) (h6 : xcw ev o = none) : retA r = opA P call ev H o := by
 unfold opA; rw [h, h2, h3, h4, h5, h6]; cases r <;> rfl
theorem xiK : opF = opA := by
 funext P call ev H o
 obtain ⟨dst, op, ty, pos, after, guard⟩ := o
 cases op with
 | load t a => exact xn rfl rfl rfl rfl rfl rfl
 | store t a x => exact xeH rfl rfl rfl rfl rfl rfl
 | alloc t => exact xeH rfl rfl rfl rfl rfl rfl
 | box t x => exact xeH rfl rfl rfl rfl rfl rfl
 | buildSlice t n ps => exact xeH rfl rfl rfl rfl rfl rfl
 | makeSlice t n ps => exact xeH rfl rfl rfl rfl rfl rfl
 | binOp op t x y yt =>
  have g : ∀ r, xkS P (ev x) (ev y) op t x y = some r -> some (.ret r, H) = opA P call ev H ⟨dst, .binOp op t x y yt, ty, pos, after, guard⟩ := by
   intro r h
   have e := xmP (o := ⟨dst, .binOp op t x y yt, ty, pos, after, guard⟩) rfl h
   simp only [opA, xaP, e]
  have gg : binG op t x y P call ev H ⟨dst, .binOp op t x y yt, ty, pos, after, guard⟩ = opA P call ev H ⟨dst, .binOp op t x y yt, ty, pos, after, guard⟩ := by
   unfold binG
   split
   · rename_i r h; exact g r h
   rfl
  show binK op t x y P call ev H _ = _
  unfold binK
  split
  · rename_i a b ha hb
    unfold intK
    split
    · rename_i v hv; exact g _ (intB_eq ha hb hv)
    exact gg
  exact gg
 | unOp op t x =>
  cases op with
  | not =>
   show notK x P call ev H _ = _
   unfold notK
   split
   · rename_i b hb
     have e : scal P ev ⟨dst, .unOp .not t x, ty, pos, after, guard⟩ = some (.one (.c (.lit (.bool !b)))) :=
      xkR (v := .bool !b) rfl (by simp [Op.operands, xcn, hb, AR.val?, AV.val?, AC.val?]) (by simp only [execOp, hb]; rfl)
     simp only [opA, xaP, e]
   rfl
  | _ => rfl
 | nilCheck x => exact xdm rfl rfl rfl rfl rfl rfl
 | extract x i => exact xdm rfl rfl rfl rfl rfl rfl
 | fieldAddr s x f => exact xdm rfl rfl rfl rfl rfl rfl
 | indexAddr t x i => exact xdm rfl rfl rfl rfl rfl rfl
 | pick c a b => exact xdm rfl rfl rfl rfl rfl rfl
 | call c =>
  obtain ⟨callee, args, ats⟩ := c
  cases callee with
  | value f =>
   show xid f args P call ev H _ = _
   unfold xid
   split
   · rename_i g az hf ha
     cases hb : xbQ P g with
     | false => rfl
     | true =>
      have hc : xbi P ev ⟨dst, .call ⟨.value f, args, ats⟩, ty, pos, after, guard⟩ = some (g, az) := by
       simp only [xbi, hf, <- xjd, ha, AC.fn?, hb, cond_true, List.reverse_nil, List.map_nil, List.nil_append, List.append_nil]
      have hp : xaP P ev ⟨dst, .call ⟨.value f, args, ats⟩, ty, pos, after, guard⟩ = none := by
       unfold xbQ at hb
       simp only [xaP, hf]
       split
       · rename_i k x hk hx
         obtain rfl : g = k := by simpa using hk
         cases hfn : P.funcs[g]? with
         | none => rfl
         | some fn =>
          rw [hfn] at hb
          have : xjW fn = false := by
           unfold xjW
           cases hbd : fn.body with
           | none => simp [hbd] at hb
           | some _ => rfl
          simp only [this, cond_false]
       rfl
      unfold opA
      rw [hp, hc]
      exact xml.symm
   rfl
  | invoke r m =>
   show xhY P call ev H _ = _
   unfold xhY
   split
   · rename_i f az hc
     unfold opA
     rw [hc]
     exact xml.symm
   rfl
  | builtin b =>
   cases b with
   | len =>
    show lenK args ats P call ev H _ = _
    unfold lenK
    split
    · rename_i x l t hx ht
      split
      · rename_i id off len cap es ex u he hu
        have hs : scal P ev ⟨dst, .call ⟨.builtin .len, args, ats⟩, ty, pos, after, guard⟩ = none := by
         unfold scal
         have : xcn ev (Op.operands (.call ⟨.builtin .len, args, ats⟩)).toList = false := by
          simp [Op.operands, Call.operands, hx, xcn, he, AR.val?, AV.val?, AC.val?]
         simp only [this, Bool.and_false, cond_false]
        have hx0 : args[0]? = some x := by rw [<- Array.getElem?_toList, hx]; rfl
        simp only [opA, xaP, hs, ht, hx0, hu, he]
      rfl
    rfl
   | append =>
    show xih args P call ev H _ = _
    unfold xih
    split
    · rename_i x l hx
      split
      · rename_i id off len cap es ex he
        split
        · rename_i r H1 ha
          have hs : scal P ev ⟨dst, .call ⟨.builtin .append, args, ats⟩, ty, pos, after, guard⟩ = none := by
           unfold scal
           have : xcn ev (Op.operands (.call ⟨.builtin .append, args, ats⟩)).toList = false := by
            simp [Op.operands, Call.operands, hx, xcn, he, AR.val?, AV.val?, AC.val?]
           simp only [this, Bool.and_false, cond_false]
          have hr : xbr P H ev ⟨dst, .call ⟨.builtin .append, args, ats⟩, ty, pos, after, guard⟩ = none := rfl
          simp only [opA, xaP, hs, hr, ha]
        rfl
      rfl
    rfl
   | _ => rfl
 | _ => rfl
abbrev LR := Option (Ex × Fr × AH)
def goOn (k : Fr -> AH -> LR) (p : Option Fr) (H : AH) : LR := match p with
 | some fr => k fr H
 | none => none
def goOut (k : Fr -> AH -> LR) (fr : Fr) (d : Option Tmp) (r : Option (Out × AH)) : LR := match r with
 | some (.ret r, H) => goOn k (fr.put d r) H
 | some (.pan v, H) => some (.pan v, fr, H)
 | none => none
def xou (k : Fr -> AH -> LR) (fr : Fr) (H : AH) (d : Option Tmp) (r : Option (Out × AH)) (w : Option Bool) : LR := match w with
 | some true => goOut k fr d r
 | some false => goOn k (fr.put d (.tup [])) H
 | none => none
def xgZ (P : Program) (call : xa0) (ops : List Oper) (l : List Oper) : Fr -> AH -> LR :=
 @List.rec Oper (fun _ => Fr -> AH -> LR) (fun fr H => some (.normal, fr, H)) (fun o _ ih fr H => xou ih fr H o.dst (opF P call fr.ev H o) (xa6 ops fr o)) l
def xc6 : LR -> LR
 | some (e, fr, H) => some (e, fr.flush, H)
 | none => none
theorem xd4 {r : LR} {x : Ex × Fr × AH} (h : xc6 r = some x) : ∃ e fr H, r = some (e, fr, H) /\ x = (e, fr.flush, H) := by
 rcases r with _ | ⟨e, fr, H⟩
 · simp [xc6] at h
 simp only [xc6, Option.some.injEq] at h; exact ⟨e, fr, H, rfl, h.symm⟩
theorem xlO (P : Program) (call : xa0) (ops : List Oper) (fr : Fr) (H : AH) : xgZ P call ops [] fr H = some (.normal, fr, H) := rfl
theorem xj6 (P : Program) (call : xa0) (ops : List Oper) (o : Oper) (l : List Oper) (fr : Fr) (H : AH) : xgZ P call ops (o :: l) fr H = match xa6 ops fr o with
 | some true => match opA P call fr.ev H o with
  | some (.ret r, H) => match fr.put o.dst r with
   | some fr => xgZ P call ops l fr H
   | none => none
  | some (.pan v, H) => some (.pan v, fr, H)
  | none => none
 | some false => match fr.put o.dst (.tup []) with
  | some fr => xgZ P call ops l fr H
  | none => none
 | none => none := by
 rw [<- xiK]
 show xou (xgZ P call ops l) fr H o.dst (opF P call fr.ev H o) (xa6 ops fr o) = _
 generalize opF P call fr.ev H o = r
 generalize xa6 ops fr o = b
 rcases b with _ | (_ | _)
 · rfl
 · show goOn _ _ _ = _
   unfold goOn; rfl
 show goOut _ _ _ _ = _
 unfold goOut goOn; rfl
end
end
section
open Go
noncomputable section
def maskOf (t : Tr Nat) (o : Oper) : Nat :=
 o.after.toList.foldl (fun s e => bif Region.binds .any e then Nat.lor (Nat.lor s (2 ^ e.on)) ((t.get e.on).getD 0) else s) 0
def xgT : List Oper -> Nat -> Tr Nat -> Tr Nat
 | [], _, t => t
 | o :: l, i, t => xgT l (i + 1) (t.put i (some (maskOf t o)))
def xbD (t : Tr Nat) (i j : Nat) : Bool := ((t.get i).getD 0).testBit j
def xba (P : Program) (o : Oper) : Nat :=
 match o.op with
 | .move _ | .assign _ | .pick .. | .nilCheck _ | .binOp .. | .unOp .. | .makeInterface .. | .makeFunc .. | .fieldAddr .. | .field .. | .indexAddr ..
 | .index .. | .slice .. | .typeAssert .. | .extract .. | .build .. | .load .. => 0
 | .convert _ d _ => match P.underlying d with
  | some (.slice _) => 1
  | some _ => 0
  | none => 1
 | .call { callee := .builtin .len, .. } | .call { callee := .builtin .cap, .. } | .call { callee := .builtin .max, .. } | .call { callee := .builtin .min, .. }
 | .call { callee := .builtin .unsafeSliceData, .. } => 0
 | .alloc _ => match o.guard with
  | none => 2
  | some _ => 1
 | _ => 1
def xij {α : Type} (p : Nat -> α -> Bool) : List α -> Nat -> Bool
 | [], _ => true
 | x :: l, i => p i x && xij p l (i + 1)
def xov (P : Program) (ops : List Oper) (t : Tr Nat) : Bool :=
 xij (fun i x => (x.after.toList.all fun e => !Region.binds .any e || Nat.blt e.on i) &&
  xij (fun j y => !Nat.blt i j || (xbD t j i ||
   (Oper.apart ops.toArray x y && (Nat.beq (xba P x) 0 || (Nat.beq (xba P y) 0 ||
     (Nat.beq (xba P y) 2 && xij (fun k z => Nat.beq k j || (Oper.apart ops.toArray y z || xbD t k i)) ops 0)))))) ops 0) ops 0
structure Rc where
 fr : Fr
 cls : Nat
 r : AR
 H : AH
def xjQ (P : Program) (call : xa0) (ops : List Oper) : List Oper -> Fr -> AH -> Option (List Rc × Fr × AH)
 | [], fr, H => some ([], fr, H)
 | o :: l, fr, H =>
  let go (cls : Nat) (r : AR) (H' : AH) : Option (List Rc × Fr × AH) := match fr.put o.dst r with
   | some fr' => (xjQ P call ops l fr' H').map fun (rs, x) => (⟨fr, cls, r, H⟩ :: rs, x)
   | none => none
  match xa6 ops fr o with
  | none => none
  | some false => go (bif Nat.beq (xba P o) 0 then 0 else 1) (.tup []) H
  | some true =>
   bif Nat.beq (xba P o) 0 then
    match xaP P fr.ev o with
    | some r => go 0 r H
    | none => match xbr P H fr.ev o with
     | some r => go 2 r H
     | none => none
   else match opF P call fr.ev H o with
    | some (.ret r, H') => go 1 r H'
    | _ => none
def xep : List Rc -> Nat -> AH -> List (Option Nat × AH)
 | [], _, H => [(none, H)]
 | c :: l, i, H => bif Nat.beq c.cls 1 then (some i, c.H) :: xep l (i + 1) H else xep l (i + 1) H
def Value.same : Value -> Value -> Bool
 | .bool a, .bool b => a == b
 | .int j a, .int k b => j == k && a == b
 | .string a, .string b => a.data.toList == b.data.toList
 | .pointer a, .pointer b => a == b
 | .slice none a b, .slice none c d => a == c && b == d
 | .nilIface, .nilIface => true
 | .nilFunc, .nilFunc => true
 | .map none, .map none => true
 | _, _ => false
def AC.same : AC -> AC -> Bool
 | .lit v, .lit u => Value.same v u
 | .ptr a b, .ptr c d => Nat.beq a c && Nat.beq b d
 | .sl a b c d e f, .sl a' b' c' d' e' f' => Nat.beq a a' && (Nat.beq b b' && (Nat.beq c c' && (Nat.beq d d' && (Nat.beq e e' && f == f'))))
 | .ifc t c, .ifc u d => Nat.beq t u && c.same d
 | .fn f, .fn g => f == g
 | .cap a b, .cap c d => a.same c && b.same d
 | .fst a b, .fst c d => a.same c && b.same d
 | _, _ => false
def xdF : List AC -> List AC -> Bool
 | [], [] => true
 | x :: l, y :: m => x.same y && xdF l m
 | _, _ => false
def AV.same : AV -> AV -> Bool
 | .c x, .c y => x.same y
 | .agg l, .agg m => xdF l m
 | _, _ => false
def xfY (P : Program) (H : AH) (ev : Ev) (o : Oper) (r : AR) : Bool :=
 match xbr P H ev o, r with
 | some (.one x), .one y => x.same y
 | _, _ => false
def chkA (P : Program) (t : Tr Nat) (i : Nat) (ev : Ev) (o : Oper) (r : AR) : List (Option Nat × AH) -> Bool
 | [] => true
 | (none, H) :: _ => xfY P H ev o r
 | (some c, H) :: l => (xbD t i c || xfY P H ev o r) && (xbD t c i || chkA P t i ev o r l)
def xhj (P : Program) (t : Tr Nat) (stops : List (Option Nat × AH)) : List Oper -> List Rc -> Nat -> Bool
 | o :: l, c :: rs, i => (!Nat.beq c.cls 2 || chkA P t i c.fr.ev o c.r stops) && xhj P t stops l rs (i + 1)
 | _, _, _ => true
def xnP (P : Program) (call : xa0) (ops : List Oper) (fr : Fr) (H : AH) : Option (Ex × Fr × AH) :=
 let t := xgT ops 0 .nil
 bif xov P ops t then
  match xjQ P call ops ops fr H with
  | some (rs, fr', H') =>
   bif xhj P t (xep rs 0 H') ops rs 0 then some (.normal, fr', H') else none
  | none => none
 else none
abbrev xob := Code -> Fr -> AH -> LR
abbrev CdK := Program -> xa0 -> xob -> Fr -> AH -> LR
def xi2 (k : Fr -> AH -> LR) (r : LR) : LR := match r with
 | some (.normal, fr, H) => k fr H
 | r => r
def goBlock (id : Nat) (r : LR) : LR := match r with
 | some (.exit k, fr, H) => bif Nat.beq k id then some (.normal, fr, H) else some (.exit k, fr, H)
 | r => r
def seqK (a b : Code) : CdK := fun _ _ ih fr H => xi2 (ih b) (ih a fr H)
def condK (x : Operand) (a b : Code) : CdK := fun _ _ ih fr H => match fr.ev x with
 | .one (.c (.lit (.bool t))) => bif t then ih a fr H else ih b fr H
 | _ => none
def blockK (id : Nat) (b : Code) : CdK := fun _ _ ih fr H => goBlock id (ih b fr H)
def loopK (b : Code) : CdK := fun _ _ ih fr H => xi2 (ih (.loop b)) (ih b fr H)
def xnJ (e : Ex) : CdK := fun _ _ _ fr H => some (e, fr, H)
def listK (ops : Array Oper) : CdK := fun P call _ fr H => xc6 (xgZ P call ops.toList ops.toList fr H)
def drawK (ops : Array Oper) : CdK := fun P call _ fr H => xc6 (xnP P call ops.toList fr H)
def noK : CdK := fun _ _ _ _ _ => none
def codeTab : Code -> CdK
 | .skip => xnJ .normal
 | .label _ => xnJ .normal
 | .seq a b => seqK a b
 | .cond x a b => condK x a b
 | .block id b => blockK id b
 | .loop b => loopK b
 | .exit id => xnJ (.exit id)
 | .ret => xnJ .ret
 | .region _ ops d => bif d then drawK ops else listK ops
 | _ => noK
def xcB (P : Program) (call : xa0) (n : Nat) : xob := @Nat.rec (fun _ => xob) (fun _ _ _ => none) (fun _ ih c fr H => codeTab c P call ih fr H) n
theorem xkk (P : Program) (call : xa0) (c : Code) (fr : Fr) (H : AH) : xcB P call 0 c fr H = none := rfl
theorem xaR (P : Program) (call : xa0) (n : Nat) (c : Code) (fr : Fr) (H : AH) : xcB P call (n + 1) c fr H = match c with
 | .skip | .label _ => some (.normal, fr, H)
 | .seq a b => match xcB P call n a fr H with
  | some (.normal, fr, H) => xcB P call n b fr H
  | r => r
 | .cond x a b => match fr.ev x with
  | .one (.c (.lit (.bool t))) => bif t then xcB P call n a fr H else xcB P call n b fr H
  | _ => none
 | .block id b => match xcB P call n b fr H with
  | some (.exit k, fr, H) => bif Nat.beq k id then some (.normal, fr, H) else some (.exit k, fr, H)
  | r => r
 | .loop b => match xcB P call n b fr H with
  | some (.normal, fr, H) => xcB P call n (.loop b) fr H
  | r => r
 | .exit id => some (.exit id, fr, H)
 | .ret => some (.ret, fr, H)
 | .region _ ops false => xc6 (xgZ P call ops.toList ops.toList fr H)
 | .region _ ops true => xc6 (xnP P call ops.toList fr H)
 | _ => none := by
 cases c with
 | region id ops d => cases d <;> rfl
 | _ => rfl
def xoe (l : List Operand) : Nat := l.foldr (fun x m => match x with
 | .tmp t => Nat.lor m (Nat.shiftLeft 1 t)
 | _ => m) 0
def opsLive (ops : List Oper) : Nat := ops.foldr (fun o m =>
 let m := match o.dst with
  | some d => bif xd9 m d then Nat.xor m (Nat.shiftLeft 1 d) else m
  | none => m
 Nat.lor m (xoe o.op.operands.toList)) 0
def xch : Code -> Nat
 | .region _ ops _ => opsLive ops.toList
 | .seq a b => Nat.lor (xch a) (xch b)
 | .cond x a b => Nat.lor (xoe [x]) (Nat.lor (xch a) (xch b))
 | .block _ b => xch b
 | .loop b => xch b
 | _ => 0
def resLive (l : List ResultVar) : Nat := l.foldr (fun x m => match x with
 | .tmp t => Nat.lor m (Nat.shiftLeft 1 t)
 | .cell a _ => Nat.lor m (Nat.shiftLeft 1 a)) 0
def xgW (fn : Func) : Nat := match fn.body with
 | some c => Nat.lor (xch c) (resLive fn.results.toList)
 | none => 0
def xcS : List AV -> Nat -> Log -> Log
 | [], _, t => t
 | a :: l, i, t => xcS l (i + 1) (.cons i (.one a) t)
def xi7 (az : List AV) (n m : Nat) : Fr := ⟨xcS az 0 .nil, .nil, m, Nat.max az.length n⟩
def resA (P : Program) (fr : Fr) (H : AH) : List ResultVar -> Option (List AV)
 | [] => some []
 | .tmp t :: l => match fr.get t, resA P fr H l with
  | .one x, some r => some (x :: r)
  | _, _ => none
 | .cell a t :: l => match fr.get a, resA P fr H l with
  | .one (.c (.ptr id off)), some r => ((H.get id).bind fun b => xd2 P t b.cells off).map (· :: r)
  | _, _ => none
def xdH (P : Program) (fr : Fr) (H : AH) (rs : List ResultVar) : Option AR :=
 match resA P fr H rs with
 | some [x] => some (.one x)
 | some l => some (.tup l)
 | none => none
abbrev DF := List (FuncId × List AV)
def defA (P : Program) (ev : Ev) (o : Oper) : Option (FuncId × List AV) :=
 match o.op with
 | .defer { callee := .value f, args, argTypes } => xbi P ev { o with op := .call { callee := .value f, args, argTypes } }
 | _ => none
def xgY (P : Program) (call : xa0) (ops : List Oper) : List Oper -> Fr -> AH -> DF -> Option (Ex × Fr × AH × DF)
 | [], fr, H, ds => some (.normal, fr, H, ds)
 | o :: l, fr, H, ds => match xa6 ops fr o with
  | some true => match opF P call fr.ev H o with
   | some (.ret r, H) => match fr.put o.dst r with
    | some fr => xgY P call ops l fr H ds
    | none => none
   | some (.pan v, H) => some (.pan v, fr, H, ds)
   | none => match defA P fr.ev o with
    | some d => match fr.put o.dst (.tup []) with
     | some fr => xgY P call ops l fr H (d :: ds)
     | none => none
    | none => none
  | some false => match fr.put o.dst (.tup []) with
   | some fr => xgY P call ops l fr H ds
   | none => none
  | none => none
def xnj (l : List Oper) : Bool := l.all fun o => match o.op with
 | .defer _ => false
 | _ => true
abbrev DR := Option (Ex × Fr × AH × DF)
abbrev xmA := Code -> Fr -> AH -> DF -> DR
abbrev CdDK := Program -> xa0 -> xob -> xmA -> Fr -> AH -> DF -> DR
def xlW (k : Fr -> AH -> DF -> DR) (r : DR) : DR := match r with
 | some (.normal, fr, H, ds) => k fr H ds
 | r => r
def withD (ds : DF) (r : LR) : DR := match r with
 | some (e, fr, H) => some (e, fr, H, ds)
 | none => none
def xg9 : DR -> DR
 | some (e, fr, H, ds) => some (e, fr.flush, H, ds)
 | none => none
theorem xh3 {r : DR} {x : Ex × Fr × AH × DF} (h : xg9 r = some x) : ∃ e fr H ds, r = some (e, fr, H, ds) /\ x = (e, fr.flush, H, ds) := by
 rcases r with _ | ⟨e, fr, H, ds⟩
 · simp [xg9] at h
 simp only [xg9, Option.some.injEq] at h; exact ⟨e, fr, H, ds, rfl, h.symm⟩
def seqD (a b : Code) : CdDK := fun _ _ _ ih fr H ds => xlW (ih b) (ih a fr H ds)
def condD (x : Operand) (a b : Code) : CdDK := fun _ _ _ ih fr H ds => match fr.ev x with
 | .one (.c (.lit (.bool t))) => bif t then ih a fr H ds else ih b fr H ds
 | _ => none
def regD (ops : Array Oper) : CdDK := fun P call _ _ fr H ds => xg9 (xgY P call ops.toList ops.toList fr H ds)
def elseD (c : Code) : CdDK := fun _ _ ia _ fr H ds => withD ds (ia c fr H)
def xgf : Code -> CdDK
 | .seq a b => seqD a b
 | .cond x a b => condD x a b
 | .region id ops d => bif d || xnj ops.toList then elseD (.region id ops d) else regD ops
 | c => elseD c
def xgh (P : Program) (call : xa0) (n : Nat) : xmA := @Nat.rec (fun _ => xmA) (fun _ _ _ _ => none) (fun n ih c fr H ds => xgf c P call (xcB P call n) ih fr H ds) n
theorem xkj (P : Program) (call : xa0) (c : Code) (fr : Fr) (H : AH) (ds : DF) : xgh P call 0 c fr H ds = none := rfl
theorem xdT (P : Program) (call : xa0) (n : Nat) (c : Code) (fr : Fr) (H : AH) (ds : DF) : xgh P call (n + 1) c fr H ds = match c with
 | .seq a b => match xgh P call n a fr H ds with
  | some (.normal, fr, H, ds) => xgh P call n b fr H ds
  | r => r
 | .cond x a b => match fr.ev x with
  | .one (.c (.lit (.bool t))) => bif t then xgh P call n a fr H ds else xgh P call n b fr H ds
  | _ => none
 | .region id ops d => bif d || xnj ops.toList then (match xcB P call n (.region id ops d) fr H with
  | some (e, fr, H) => some (e, fr, H, ds)
  | none => none)
  else xg9 (xgY P call ops.toList ops.toList fr H ds)
 | c => match xcB P call n c fr H with
  | some (e, fr, H) => some (e, fr, H, ds)
  | none => none := by
 cases c with
 | region id ops d =>
  show xgf (.region id ops d) P call (xcB P call n) (xgh P call n) fr H ds = _
  simp only [xgf]
  cases d || xnj ops.toList <;> rfl
 | _ => rfl
inductive PM where
 | no
 | live (x : AV)
 | done (x : AV)
def PM.rec? : PM -> AR × PM
 | .live x => (.one x, .done x)
 | p => (.one (.c (.lit .nilIface)), p)
def PM.settle : PM -> PM
 | .done _ => .no
 | p => p
def xka (o : Oper) : Bool := match o.op with
 | .call { callee := .builtin .recover, .. } => true
 | _ => false
def xhW (P : Program) (call : xa0) (ops : List Oper) : List Oper -> Fr -> AH -> PM -> Option (Ex × Fr × AH × PM)
 | [], fr, H, pm => some (.normal, fr, H, pm)
 | o :: l, fr, H, pm => match xa6 ops fr o with
  | some true => match opF P call fr.ev H o with
   | some (.ret r, H) => match fr.put o.dst r with
    | some fr => xhW P call ops l fr H pm
    | none => none
   | some (.pan v, H) => some (.pan v, fr, H, pm)
   | none => bif xka o then (match fr.put o.dst pm.rec?.1 with
    | some fr => xhW P call ops l fr H pm.rec?.2
    | none => none)
    else none
  | some false => match fr.put o.dst (.tup []) with
   | some fr => xhW P call ops l fr H pm
   | none => none
  | none => none
def xi3 : Option (Ex × Fr × AH × PM) -> Option (Ex × Fr × AH × PM)
 | some (e, fr, H, pm) => some (e, fr.flush, H, pm)
 | none => none
theorem xh2 {r : Option (Ex × Fr × AH × PM)} {x : Ex × Fr × AH × PM} (h : xi3 r = some x) : ∃ e fr H pm, r = some (e, fr, H, pm) /\ x = (e, fr.flush, H, pm) := by
 rcases r with _ | ⟨e, fr, H, pm⟩
 · simp [xi3] at h
 simp only [xi3, Option.some.injEq] at h; exact ⟨e, fr, H, pm, rfl, h.symm⟩
def xgg (P : Program) (call : xa0) : Nat -> Code -> Fr -> AH -> PM -> Option (Ex × Fr × AH × PM)
 | 0, _, _, _, _ => none
 | n + 1, c, fr, H, pm => match c with
  | .seq a b => match xgg P call n a fr H pm with
   | some (.normal, fr, H, pm) => xgg P call n b fr H pm
   | r => r
  | .cond x a b => match fr.ev x with
   | .one (.c (.lit (.bool t))) => bif t then xgg P call n a fr H pm else xgg P call n b fr H pm
   | _ => none
  | .region _ ops false => xi3 (xhW P call ops.toList ops.toList fr H pm)
  | c => match xcB P call n c fr H with
   | some (e, fr, H) => some (e, fr, H, pm)
   | none => none
def xeO (P : Program) (call : xa0) (n : Nat) : DF -> AH -> PM -> Option (AH × PM)
 | [], H, pm => some (H, pm)
 | (f, az) :: ds, H, pm => match P.funcs[f]? with
  | none => none
  | some fn => match fn.body with
   | none => none
   | some c => match xgg P call n c (xi7 az fn.ntmps (xgW fn)) H pm with
    | some (.normal, fr, H, pm) => match xdH P fr H fn.results.toList with
     | some _ => xeO P call n ds H pm.settle
     | none => none
    | some (.ret, fr, H, pm) => match xdH P fr H fn.results.toList with
     | some _ => xeO P call n ds H pm.settle
     | none => none
    | _ => none
def endA (P : Program) (call : xa0) (n : Nat) (rs : List ResultVar) (fr : Fr) (H : AH) (ds : DF) (pm : PM) : Option (Out × AH) :=
 match xeO P call n ds H pm with
 | some (H, .no) => match xdH P fr H rs with
  | some r => some (.ret r, H)
  | none => none
 | some (H, .live v) => some (.pan v, H)
 | _ => none
def xd8 (P : Program) : Nat -> xa0
 | 0, _, _, _ => none
 | n + 1, f, az, H => match P.funcs[f]? with
  | none => none
  | some fn => match fn.body with
   | none => none
   | some c => match xgh P (xd8 P n) n c (xi7 az fn.ntmps (xgW fn)) H [] with
    | some (.normal, fr, H, ds) => endA P (xd8 P n) n fn.results.toList fr H ds .no
    | some (.ret, fr, H, ds) => endA P (xd8 P n) n fn.results.toList fr H ds .no
    | some (.pan v, fr, H, ds) => endA P (xd8 P n) n fn.results.toList fr H ds (.live v)
    | _ => none
end
end
end Go.Proofs.YtapmdhejgnplaaaGreat
section
set_option linter.unusedVariables false
set_option linter.unusedSimpArgs false
namespace Go.Proofs.YtapmdhejgnplaaaGreat
open Go
def All2 {α β : Type} (R : α -> β -> Prop) : List α -> List β -> Prop
 | [], [] => True
 | x :: l, y :: m => R x y /\ All2 R l m
 | _, _ => False
namespace All2
variable {α β : Type} {R S : α -> β -> Prop}
theorem len : ∀ {l : List α} {m : List β}, All2 R l m -> l.length = m.length
 | [], [], _ => rfl
 | _ :: _, _ :: _, h => by simp [len h.2]
 | [], _ :: _, h => h.elim
 | _ :: _, [], h => h.elim
theorem mono (f : ∀ x y, R x y -> S x y) : ∀ {l : List α} {m : List β}, All2 R l m -> All2 S l m
 | [], [], _ => trivial
 | _ :: _, _ :: _, h => ⟨f _ _ h.1, mono f h.2⟩
 | [], _ :: _, h => h.elim
 | _ :: _, [], h => h.elim
theorem app : ∀ {l : List α} {m : List β} {l' : List α} {m' : List β}, All2 R l m -> All2 R l' m' -> All2 R (l ++ l') (m ++ m')
 | [], [], _, _, _, h => h
 | _ :: _, _ :: _, _, _, h, h' => ⟨h.1, app h.2 h'⟩
 | [], _ :: _, _, _, h, _ => h.elim
 | _ :: _, [], _, _, h, _ => h.elim
theorem get : ∀ {l : List α} {m : List β}, All2 R l m -> ∀ {i : Nat} {x : α}, l[i]? = some x -> ∃ y, m[i]? = some y /\ R x y
 | [], [], _, i, x, h => by simp at h
 | a :: l, b :: m, h, 0, x, e => by simp at e; subst e; exact ⟨b, rfl, h.1⟩
 | a :: l, b :: m, h, i + 1, x, e => by simpa using get h.2 (by simpa using e)
 | [], _ :: _, h, _, _, _ => h.elim
 | _ :: _, [], h, _, _, _ => h.elim
theorem of : ∀ {l : List α} {m : List β}, l.length = m.length -> (∀ (i : Nat) (x : α) (y : β), l[i]? = some x -> m[i]? = some y -> R x y) -> All2 R l m
 | [], [], _, _ => trivial
 | a :: l, b :: m, h, f => ⟨f 0 a b rfl rfl, of (by simpa using h) fun i x y hx hy => f (i + 1) x y (by simpa using hx) (by simpa using hy)⟩
 | [], _ :: _, h, _ => by simp at h
 | _ :: _, [], h, _ => by simp at h
theorem take : ∀ (n : Nat) {l : List α} {m : List β}, All2 R l m -> All2 R (l.take n) (m.take n)
 | 0, _, _, _ => by simp [All2]
 | n + 1, [], [], _ => by simp [All2]
 | n + 1, _ :: _, _ :: _, h => ⟨h.1, take n h.2⟩
 | n + 1, [], _ :: _, h => h.elim
 | n + 1, _ :: _, [], h => h.elim
theorem drop : ∀ (n : Nat) {l : List α} {m : List β}, All2 R l m -> All2 R (l.drop n) (m.drop n)
 | 0, _, _, h => by simpa using h
 | n + 1, [], [], _ => by simp [All2]
 | n + 1, _ :: _, _ :: _, h => by simpa using drop n h.2
 | n + 1, [], _ :: _, h => h.elim
 | n + 1, _ :: _, [], h => h.elim
theorem rev : ∀ {l : List α} {m : List β}, All2 R l m -> All2 R l.reverse m.reverse
 | [], [], _ => by simp [All2]
 | _ :: _, _ :: _, h => by simpa using app (l' := [_]) (m' := [_]) (rev h.2) ⟨h.1, trivial⟩
 | [], _ :: _, h => h.elim
 | _ :: _, [], h => h.elim
end All2
structure Rho where
 blk : Nat -> Nat
 base : Nat -> Nat
 size : Nat -> Nat
structure Ext (ρ ρ' : Rho) (n : Nat) : Prop where
 blk : ∀ i, i < n -> ρ'.blk i = ρ.blk i
 base : ∀ i, i < n -> ρ'.base i = ρ.base i
 size : ∀ i, i < n -> ρ'.size i = ρ.size i
theorem Ext.refl (ρ : Rho) (n : Nat) : Ext ρ ρ n := ⟨fun _ _ => rfl, fun _ _ => rfl, fun _ _ => rfl⟩
theorem Ext.trans {a b c : Rho} {n m : Nat} (h : Ext a b n) (k : Ext b c m) (hm : n <= m) : Ext a c n :=
 ⟨fun i hi => (k.blk i (by omega)).trans (h.blk i hi), fun i hi => (k.base i (by omega)).trans (h.base i hi), fun i hi => (k.size i (by omega)).trans (h.size i hi)⟩
def AC.den (ρ : Rho) (n : Nat) : AC -> Value -> Prop
 | .lit v, u => u = v /\ v.oneCell' = true
 | .ptr id off, u => id < n /\ u = .pointer (some ⟨ρ.blk id, ρ.base id + off, none⟩)
 | .sl id off len cp es ex, u => id < n /\ len <= cp /\ ∃ o c, u = .slice (some ⟨ρ.blk id, o, none⟩) len c /\ (c ≠ 0 -> o = ρ.base id + off) /\
  (ex = true -> c = cp) /\ (ex = false -> cp <= c /\ o + c * es <= ρ.size id)
 | .ifc t x, u => ∃ y, u = .iface t y /\ x.den ρ n y
 | .fn f, u => u = .func f #[] #[]
 | .cap r x, u => ∃ f fs cs y, r.den ρ n (.func f fs cs) /\ x.den ρ n y /\ u = .func f fs (cs.push y)
 | .fst r x, u => ∃ f fs cs y, r.den ρ n (.func f fs cs) /\ x.den ρ n y /\ u = .func f (fs.push y) cs
def AV.den (ρ : Rho) (n : Nat) : AV -> Value -> Prop
 | .c x, u => x.den ρ n u
 | .agg xs, u => ∃ cs, u = .agg cs /\ All2 (AC.den ρ n) xs cs.toList
def AR.den (ρ : Rho) (n : Nat) : AR -> Value -> Prop
 | .one x, u => x.den ρ n u
 | .tup xs, u => ∃ vs, u = .tuple vs /\ All2 (AV.den ρ n) xs vs.toList
 | .any, _ => True
theorem AC.den_mono {ρ ρ' : Rho} {n m : Nat} (h : Ext ρ ρ' n) (hm : n <= m) : ∀ (x : AC) (u : Value), x.den ρ n u -> x.den ρ' m u
 | .lit v, u, d => d
 | .ptr id off, u, ⟨hl, he⟩ => ⟨by omega, by rw [h.blk _ hl, h.base _ hl]; exact he⟩
 | .sl id off len cp es ex, u, ⟨hl, hc, o, c, he, ho, hx, hy⟩ => ⟨by omega, hc, o, c, by rw [h.blk _ hl]; exact he, by rw [h.base _ hl]; exact ho, hx, by rw [h.size _ hl]; exact hy⟩
 | .ifc t x, u, ⟨y, he, hy⟩ => ⟨y, he, AC.den_mono h hm x y hy⟩
 | .fn f, u, d => d
 | .cap r x, u, ⟨f, fs, cs, y, h1, h2, h3⟩ => ⟨f, fs, cs, y, AC.den_mono h hm r _ h1, AC.den_mono h hm x _ h2, h3⟩
 | .fst r x, u, ⟨f, fs, cs, y, h1, h2, h3⟩ => ⟨f, fs, cs, y, AC.den_mono h hm r _ h1, AC.den_mono h hm x _ h2, h3⟩
theorem AV.den_mono {ρ ρ' : Rho} {n m : Nat} (h : Ext ρ ρ' n) (hm : n <= m) : ∀ (x : AV) (u : Value), x.den ρ n u -> x.den ρ' m u
 | .c x, u, d => AC.den_mono h hm x u d
 | .agg xs, u, ⟨cs, he, hc⟩ => ⟨cs, he, hc.mono (AC.den_mono h hm)⟩
theorem AR.den_mono {ρ ρ' : Rho} {n m : Nat} (h : Ext ρ ρ' n) (hm : n <= m) : ∀ (x : AR) (u : Value), x.den ρ n u -> x.den ρ' m u
 | .one x, u, d => AV.den_mono h hm x u d
 | .tup xs, u, ⟨cs, he, hc⟩ => ⟨cs, he, hc.mono (AV.den_mono h hm)⟩
 | .any, _, _ => trivial
theorem AC.den_one {ρ : Rho} {n : Nat} : ∀ {x : AC} {u : Value}, x.den ρ n u -> u.oneCell' = true
 | .lit v, u, d => by obtain ⟨rfl, h⟩ := d; exact h
 | .ptr .., u, d => by rw [d.2]; rfl
 | .sl .., u, ⟨_, _, _, _, he, _⟩ => by rw [he]; rfl
 | .ifc .., u, ⟨_, he, _⟩ => by rw [he]; rfl
 | .fn _, u, d => by rw [show u = _ from d]; rfl
 | .cap .., u, ⟨_, _, _, _, _, _, he⟩ => by rw [he]; rfl
 | .fst .., u, ⟨_, _, _, _, _, _, he⟩ => by rw [he]; rfl
theorem xjT {u : Value} (h : u.oneCell' = true) : u.cells = #[u] := by cases u <;> first | rfl | (simp [Value.oneCell'] at h)
theorem AV.den_cells {ρ : Rho} {n : Nat} : ∀ {x : AV} {u : Value}, x.den ρ n u -> All2 (AC.den ρ n) x.cells u.cells.toList
 | .c x, u, d => by rw [xjT (AC.den_one d)]; exact ⟨d, trivial⟩
 | .agg xs, u, ⟨cs, he, hc⟩ => by rw [he]; exact hc
theorem xfA (ρ : Rho) (n : Nat) : ∀ (l : List Value) (r : List AC), xgX l = some r -> All2 (AC.den ρ n) r l
 | [], r, h => by simp [xgX] at h; subst h; trivial
 | v :: l, r, h => by
  cases v <;> simp only [xgX, reduceCtorEq, Option.map_eq_some_iff] at h <;>
   (obtain ⟨a, h1, rfl⟩ := h; exact ⟨⟨rfl, rfl⟩, xfA ρ n l a h1⟩)
theorem AV.of_den (ρ : Rho) (n : Nat) (v : Value) (x : AV) (h : AV.of? v = some x) : x.den ρ n v := by
 cases v <;> simp only [AV.of?, reduceCtorEq, Option.some.injEq, Option.map_eq_some_iff] at h
 case agg cs => obtain ⟨a, h1, rfl⟩ := h; exact ⟨cs, rfl, xfA ρ n _ _ h1⟩
 all_goals (subst h; exact ⟨rfl, rfl⟩)
theorem xgJ (ρ : Rho) (n : Nat) : ∀ (l : List Value) (r : List AV), xls l = some r -> All2 (AV.den ρ n) r l
 | [], r, h => by simp [xls] at h; subst h; trivial
 | v :: l, r, h => by
  simp only [xls] at h
  split at h
  · rename_i x hx
    simp only [Option.map_eq_some_iff] at h
    obtain ⟨a, h1, rfl⟩ := h
    exact ⟨AV.of_den ρ n v x hx, xgJ ρ n l a h1⟩
  simp at h
theorem AR.of_den (ρ : Rho) (n : Nat) (v : Value) (x : AR) (h : AR.of? v = some x) : x.den ρ n v := by
 cases v <;> simp only [AR.of?, Option.map_eq_some_iff] at h
 case tuple vs => obtain ⟨a, h1, rfl⟩ := h; exact ⟨vs, rfl, xgJ ρ n _ _ h1⟩
 all_goals (obtain ⟨a, h1, rfl⟩ := h; exact AV.of_den ρ n _ _ h1)
theorem AC.val_den {ρ : Rho} {n : Nat} : ∀ {x : AC} {v u : Value}, x.val? = some v -> x.den ρ n u -> u = v
 | .lit v, _, u, h, d => by simp [AC.val?] at h; rw [<- h]; exact d.1
 | .ifc t c, v, u, h, d => by
  simp only [AC.val?, Option.map_eq_some_iff] at h
  obtain ⟨a, h1, rfl⟩ := h
  obtain ⟨y, rfl, hy⟩ := d
  rw [AC.val_den h1 hy]
 | .fn f, _, u, h, d => by simp [AC.val?] at h; rw [<- h]; exact d
 | .ptr .., _, _, h, _ => by simp [AC.val?] at h
 | .sl .., _, _, h, _ => by simp [AC.val?] at h
 | .cap .., _, _, h, _ => by simp [AC.val?] at h
 | .fst .., _, _, h, _ => by simp [AC.val?] at h
theorem xff {ρ : Rho} {n : Nat} : ∀ {l : List AC} {r us : List Value}, xgs l = some r -> All2 (AC.den ρ n) l us -> us = r
 | [], r, [], h, _ => by simp [xgs] at h; exact h.symm
 | x :: l, r, u :: us, h, d => by
  simp only [xgs] at h
  split at h
  · rename_i v hv
    simp only [Option.map_eq_some_iff] at h
    obtain ⟨a, h1, rfl⟩ := h
    rw [AC.val_den hv d.1, xff h1 d.2]
  simp at h
 | [], _, _ :: _, _, d => d.elim
 | _ :: _, _, [], _, d => d.elim
theorem AR.val_den {ρ : Rho} {n : Nat} : ∀ {x : AR} {v u : Value}, x.val? = some v -> x.den ρ n u -> u = v
 | .one (.c x), v, u, h, d => AC.val_den (x := x) h d
 | .one (.agg xs), v, u, h, d => by
  simp only [AR.val?, AV.val?, Option.map_eq_some_iff] at h
  obtain ⟨a, h1, rfl⟩ := h
  obtain ⟨cs, rfl, hc⟩ := d
  rw [<- xff h1 hc]
 | .tup [], v, u, h, d => by
  simp [AR.val?] at h; subst h
  obtain ⟨vs, rfl, hv⟩ := d
  have : vs.toList = [] := by cases hl : vs.toList with
   | nil => rfl
   | cons a l => rw [hl] at hv; exact hv.elim
  rw [show vs = #[] from Array.toList_inj.1 (by simpa using this)]; rfl
 | .tup (_ :: _), v, u, h, d => by simp [AR.val?] at h
 | .any, v, u, h, d => by simp [AR.val?] at h
def EvOK (ρ : Rho) (n : Nat) (ev : Ev) (e : Operand -> Value) (l : List Operand) : Prop := ∀ x ∈ l, (ev x).den ρ n (e x)
theorem xfj {ev : Ev} : ∀ {l : List Operand}, xcn ev l = true -> ∀ x ∈ l, ∃ v, (ev x).val? = some v
 | [], _, x, hx => by simp at hx
 | y :: l, h, x, hx => by
  simp only [xcn, Bool.and_eq_true] at h
  rcases List.mem_cons.1 hx with rfl | hx
  · exact Option.isSome_iff_exists.1 h.1
  exact xfj h.2 x hx
theorem xaW {P : Program} {ev : Ev} {o : Oper} {r : AR} (h : scal P ev o = some r) {ρ : Rho} {n : Nat} {e : Operand -> Value}
 (he : EvOK ρ n ev e o.op.operands.toList) (w : World) : ∃ v, (execOp e o).run P w = .ok (.value v) w /\ r.den ρ n v := by
 unfold scal at h
 cases hs : (xgK o && xcn ev o.op.operands.toList) with
 | false => simp [hs] at h
 | true =>
  simp only [hs, cond_true] at h
  simp only [Bool.and_eq_true] at hs
  have hc : execOp e o = execOp (fun x => ((ev x).val?).getD undef) o := by
   refine execOp_congr o (fun cs b hb => by simp [xgK, hb] at hs) fun x hx => ?_
   obtain ⟨v, hv⟩ := xfj hs.2 x (by simpa using hx)
   rw [hv, AR.val_den hv (he x (by simpa using hx))]; rfl
  split at h
  · rename_i v hq
    exact ⟨v, by rw [hc]; exact xmY P _ _ hq w, AR.of_den ρ n v r h⟩
  simp at h
end Go.Proofs.YtapmdhejgnplaaaGreat
end
namespace Go.Proofs.YtapmdhejgnplaaaGreat
open Go.RowKit
set_option maxRecDepth 100000
section
open Go
section
variable {P : Program} {ρ : Rho} {n : Nat} {e : Operand -> Value}
theorem xaS {t : TypeId} {k : Nat} (h : szOf P t = some k) (w : World) : (sizeOf t).run P w = .ok k w := by
 simp only [szOf, Option.map_eq_some_iff] at h
 obtain ⟨i, hi, rfl⟩ := h
 simp [sizeOf, typeInfo, hi]
theorem xfU {t : TypeId} {b : Bool} (h : xmw P t = some b) (w : World) : (isAgg t).run P w = .ok b w := by
 unfold xmw at h
 cases hu : P.underlying t with
 | none => simp [hu] at h
 | some d =>
  simp only [hu] at h
  simp only [isAgg, Sem.run_bind, run_underlying hu, Result.andThen_ok]
  cases d <;> simp at h <;> subst h <;> rfl
theorem xl5 {R : AC -> Value -> Prop} {l : List AC} {m : List Value} {off k : Nat} {r : List AC} (h : cut l off k = some r) (d : All2 R l m) :
 All2 R r ((m.drop off).take k) /\ r.length = k /\ off + k <= l.length \/ k = 0 /\ r = [] := by
 unfold cut at h
 cases hb : Nat.beq ((l.drop off).take k).length k with
 | false => simp only [hb, cond_false, reduceCtorEq] at h
 | true =>
  simp only [hb, cond_true, Option.some.injEq] at h
  subst h
  have hk : ((l.drop off).take k).length = k := Nat.eq_of_beq_eq_true hb
  by_cases h0 : k = 0
  · right; subst h0; simp
  left
  refine ⟨(d.drop off).take k, hk, ?_⟩
  simp only [List.length_take, List.length_drop] at hk
  omega
theorem xc9 {l : List AC} {off k : Nat} {r : List AC} (h : cut l off k = some r) : r.length = k := by
 unfold cut at h
 cases hb : Nat.beq ((l.drop off).take k).length k with
 | false => simp only [hb, cond_false, reduceCtorEq] at h
 | true => simp only [hb, cond_true, Option.some.injEq] at h; subst h; exact Nat.eq_of_beq_eq_true hb
theorem cut_all {R : AC -> Value -> Prop} {l : List AC} {m : List Value} {off k : Nat} {r : List AC} (h : cut l off k = some r) (d : All2 R l m) :
 All2 R r ((m.drop off).take k) := by
 rcases xl5 h d with h | ⟨rfl, rfl⟩
 · exact h.1
 simp [All2]
theorem xix {t : TypeId} {cs : List AC} {vs : Array Value} {off : Nat} {x : AV} (h : xd2 P t cs off = some x) (d : All2 (AC.den ρ n) cs vs.toList) (w : World) :
 ∃ v, (part t vs off).run P w = .ok v w /\ x.den ρ n v := by
 unfold xd2 at h
 simp only [xhR] at h
 cases ha : xmw P t with
 | none => simp [ha] at h
 | some b =>
  cases hs : szOf P t with
  | none => simp [ha, hs] at h
  | some k =>
   cases b with
   | true =>
    simp only [ha, hs, Option.map_eq_some_iff] at h
    obtain ⟨r, hr, rfl⟩ := h
    refine ⟨.agg (vs.extract off (off + k)), by simp [part, xfU ha, xaS hs], _, rfl, ?_⟩
    have := cut_all hr d
    have e : (vs.extract off (off + k)).toList = (vs.toList.drop off).take k := by
     rw [Array.toList_extract]; simp [List.extract, Nat.add_sub_cancel_left]
    rwa [e]
   | false =>
    simp only [ha, hs, Option.map_eq_some_iff] at h
    obtain ⟨c, hc, rfl⟩ := h
    obtain ⟨y, hy, hd⟩ := d.get hc
    have hy' : vs[off]? = some y := by simpa using hy
    exact ⟨y, by simp [part, xfU ha, hy'], hd⟩
theorem xd5 {s : TypeId} {f off ft k : Nat} (h : xeT P s f = some (off, ft, k)) :
 ∃ fields x, P.underlying s = some (.struct fields) /\ fields[f]? = some x /\ x.offset = off /\ x.type = ft /\ szOf P x.type = some k := by
 unfold xeT at h
 split at h
 · rename_i fields hu
   split at h
   · rename_i x hx
     simp only [Option.map_eq_some_iff, Prod.mk.injEq] at h
     obtain ⟨k', hk, h1, h2, h3⟩ := h
     exact ⟨fields, x, hu, hx, h1, h2, h3 ▸ hk⟩
   simp at h
 simp at h
theorem xh (off : Nat) : ∀ (vs : List Value) (k : Nat) (cs : Array Value), off + k + vs.length <= cs.size ->
 ((vs.zipIdx k).foldl (fun (cs : Array Value) (p : Value × Nat) => cs.setIfInBounds (off + p.2) p.1) cs).toList =
  cs.toList.take (off + k) ++ (vs ++ cs.toList.drop (off + k + vs.length))
 | [], k, cs, _ => by simp
 | v :: vs, k, cs, h => by
  simp only [List.zipIdx_cons, List.foldl_cons]
  rw [xh off vs (k + 1) _ (by simp at h ⊢; omega)]
  simp only [Array.toList_setIfInBounds]
  have h1 : off + k < cs.toList.length := by simp at h ⊢; omega
  apply List.ext_getElem?
  intro i
  simp only [List.getElem?_append, List.length_take, List.length_set, List.getElem?_take, List.getElem?_drop, List.getElem?_set, List.length_cons]
  have hl : cs.toList.length = cs.size := by simp
  simp only [List.length_cons] at h
  by_cases c1 : i < off + k
  · rw [if_pos (by omega), if_pos (by omega), if_neg (by omega), if_pos (by omega), if_pos c1]
  by_cases c2 : i = off + k
  · subst c2
    rw [if_pos (by omega), if_pos (by omega), if_pos rfl, if_pos h1, if_neg (by omega), if_pos (by omega)]
    have : off + k - min (off + k) cs.size = 0 := by omega
    simp [this]
  have e1 : i - min (off + (k + 1)) cs.toList.length = i - (off + k) - 1 := by omega
  have e2 : i - min (off + k) cs.toList.length = (i - (off + k) - 1) + 1 := by omega
  rw [if_neg (show ¬ i < min (off + (k + 1)) cs.toList.length by omega), if_neg (show ¬ i < min (off + k) cs.toList.length by omega), e1, e2]
  by_cases c3 : i - (off + k) - 1 < vs.length
  · rw [if_pos c3, if_pos (show i - (off + k) - 1 + 1 < vs.length + 1 by omega)]; simp
  rw [if_neg c3, if_neg (show ¬ i - (off + k) - 1 + 1 < vs.length + 1 by omega), if_neg (by omega)]
  congr 1; omega
theorem xjm {R : AC -> Value -> Prop} {l : List AC} {m : List Value} {vs : List AC} {us : List Value} (off : Nat) (d : All2 R l m) (dv : All2 R vs us) :
 All2 R (xcm l off vs) (m.take off ++ (us ++ m.drop (off + us.length))) := by
 rw [xer]; rw [dv.len]; exact (d.take off).app (dv.app (d.drop _))
theorem xjl {l vs : List AC} {off : Nat} (h : off + vs.length <= l.length) : (xcm l off vs).length = l.length := by
 rw [xer]; simp; omega
theorem xg {R : AC -> Value -> Prop} (pl : Nat -> Option (Nat × Nat)) : ∀ (ps : List (Nat × List AC)) (qs : List (Nat × Value)) (z l : List AC) (zc : Array Value),
 xkd pl z ps = some l -> All2 R z zc.toList -> All2 (fun p q => p.1 = q.1 /\ All2 R p.2 q.2.cells.toList) ps qs ->
 ∃ cells, Instr.fill pl zc qs = some cells /\ All2 R l cells.toList
 | [], [], z, l, zc, h, hz, _ => by simp [xkd] at h; subst h; exact ⟨zc, rfl, hz⟩
 | (i, v) :: ps, (j, u) :: qs, z, l, zc, h, hz, d => by
  obtain ⟨⟨hij, hv⟩, hr⟩ := d
  simp only at hij hv
  subst hij
  simp only [xkd] at h
  simp only [Instr.fill]
  cases hp : pl i with
  | none => simp [hp] at h
  | some x =>
   obtain ⟨off, size⟩ := x
   simp only [hp] at h ⊢
   cases hb : (Nat.beq v.length size && Nat.ble (off + v.length) z.length) with
   | false => simp [hb] at h
   | true =>
    simp only [hb, cond_true] at h
    simp only [Bool.and_eq_true, Nat.beq_eq, Nat.ble_eq] at hb
    have hlen : u.cells.size = v.length := by have := hv.len; simp at this; omega
    have hzl : zc.size = z.length := by have := hz.len; simp at this; omega
    rw [if_neg (by simp [hlen, hb.1]; omega)]
    refine xg pl ps qs (xcm z off v) l _ h ?_ hr
    have := xh off u.cells.toList 0 zc (by simp [hlen]; omega)
    have e : (u.cells.zipIdx.foldl (fun cs x => match x with | (c, j) => cs.setIfInBounds (off + j) c) zc).toList =
     zc.toList.take off ++ (u.cells.toList ++ zc.toList.drop (off + u.cells.toList.length)) := by
     rw [<- Array.foldl_toList, Array.toList_zipIdx]; simpa using this
    rw [e]
    exact xjm off hz hv
 | [], _ :: _, _, _, _, _, _, d => d.elim
 | _ :: _, [], _, _, _, _, _, d => d.elim
theorem xeF {ev : Ev} : ∀ {l : List (Nat × Operand)} {r : List (Nat × List AC)}, xfv ev l = some r -> EvOK ρ n ev e (l.map (·.2)) ->
 All2 (fun p q => p.1 = q.1 /\ All2 (AC.den ρ n) p.2 q.2.cells.toList) r (l.map fun x => (x.1, e x.2))
 | [], r, h, _ => by simp [xfv] at h; subst h; trivial
 | (i, x) :: l, r, h, he => by
  simp only [xfv] at h
  split at h
  · rename_i a r' ha hr
    simp only [Option.some.injEq] at h
    subst h
    have hx := he x (by simp)
    rw [ha] at hx
    exact ⟨⟨rfl, AV.den_cells hx⟩, xeF hr fun y hy => he y (by simp at hy ⊢; exact .inr hy)⟩
  simp at h
theorem xb9 {t : TypeId} {z : List AC} (h : zeroCells? P t = some z) (ρ : Rho) (n : Nat) :
 ∃ i v, P.info? t = some i /\ i.zero = some v /\ All2 (AC.den ρ n) z v.cells.toList := by
 unfold zeroCells? at h
 cases hi : P.info? t with
 | none => simp [hi] at h
 | some i =>
  cases hz : i.zero with
  | none => simp [hi, hz] at h
  | some v =>
   simp only [hi, Option.bind_some, hz, Option.map_eq_some_iff] at h
   obtain ⟨a, ha, rfl⟩ := h
   exact ⟨i, v, rfl, hz, AV.den_cells (AV.of_den ρ n v a ha)⟩
end
end
section
open Go
section
variable {P : Program} {ρ : Rho} {n : Nat} {e : Operand -> Value} {ev : Ev}
theorem xfE : ∀ {x : AC} {u : Value} {f : Fn} {a l : List AC}, x.fn? = some (f, a, l) -> x.den ρ n u ->
 ∃ fs cs, u = .func f fs cs /\ All2 (AC.den ρ n) a.reverse fs.toList /\ All2 (AC.den ρ n) l.reverse cs.toList
 | .fn g, u, f, a, l, h, d => by
  simp only [AC.fn?, Option.some.injEq, Prod.mk.injEq] at h
  obtain ⟨rfl, rfl, rfl⟩ := h
  exact ⟨#[], #[], d, trivial, trivial⟩
 | .cap r x, u, f, a, l, h, d => by
  simp only [AC.fn?, Option.map_eq_some_iff] at h
  obtain ⟨⟨f', a', l'⟩, h1, h2⟩ := h
  simp only [Prod.mk.injEq] at h2
  obtain ⟨rfl, rfl, rfl⟩ := h2
  obtain ⟨g, fs, cs, y, hr, hx, rfl⟩ := d
  obtain ⟨fs', cs', he, h3, h4⟩ := xfE h1 hr
  simp only [Value.func.injEq] at he
  obtain ⟨rfl, rfl, rfl⟩ := he
  exact ⟨fs, cs.push y, rfl, h3, by simpa using h4.app (l' := [_]) (m' := [_]) ⟨hx, trivial⟩⟩
 | .fst r x, u, f, a, l, h, d => by
  simp only [AC.fn?, Option.map_eq_some_iff] at h
  obtain ⟨⟨f', a', l'⟩, h1, h2⟩ := h
  simp only [Prod.mk.injEq] at h2
  obtain ⟨rfl, rfl, rfl⟩ := h2
  obtain ⟨g, fs, cs, y, hr, hx, rfl⟩ := d
  obtain ⟨fs', cs', he, h3, h4⟩ := xfE h1 hr
  simp only [Value.func.injEq] at he
  obtain ⟨rfl, rfl, rfl⟩ := he
  exact ⟨fs.push y, cs, rfl, by simpa using h3.app (l' := [_]) (m' := [_]) ⟨hx, trivial⟩, h4⟩
 | .lit .., _, _, _, _, h, _ => by simp [AC.fn?] at h
 | .ptr .., _, _, _, _, h, _ => by simp [AC.fn?] at h
 | .sl .., _, _, _, _, h, _ => by simp [AC.fn?] at h
 | .ifc .., _, _, _, _, h, _ => by simp [AC.fn?] at h
theorem xhm {f : Fn} : ∀ {l : List AR} {us : List Value} {x : AC}, xhn f l = some x -> All2 (AR.den ρ n) l us -> x.den ρ n (.func f #[] us.reverse.toArray)
 | [], [], x, h, _ => by simp [xhn] at h; subst h; rfl
 | .one (.c y) :: l, u :: us, x, h, d => by
  simp only [xhn, Option.map_eq_some_iff] at h
  obtain ⟨r, hr, rfl⟩ := h
  exact ⟨f, #[], us.reverse.toArray, u, xhm hr d.2, d.1, by simp⟩
 | .one (.agg _) :: _, _ :: _, _, h, _ => by simp [xhn] at h
 | .tup _ :: _, _ :: _, _, h, _ => by simp [xhn] at h
 | .any :: _, _ :: _, _, h, _ => by simp [xhn] at h
 | [], _ :: _, _, _, d => d.elim
 | _ :: _, [], _, _, d => d.elim
theorem xg6 {f : Fn} : ∀ {l : List AR} {us : List Value} {x : AC}, xg7 f l = some x -> All2 (AR.den ρ n) l us -> x.den ρ n (.func f us.reverse.toArray #[])
 | [], [], x, h, _ => by simp [xg7] at h; subst h; rfl
 | .one (.c y) :: l, u :: us, x, h, d => by
  simp only [xg7, Option.map_eq_some_iff] at h
  obtain ⟨r, hr, rfl⟩ := h
  exact ⟨f, us.reverse.toArray, #[], u, xg6 hr d.2, d.1, by simp⟩
 | .one (.agg _) :: _, _ :: _, _, h, _ => by simp [xg7] at h
 | .tup _ :: _, _ :: _, _, h, _ => by simp [xg7] at h
 | .any :: _, _ :: _, _, h, _ => by simp [xg7] at h
 | [], _ :: _, _, _, d => d.elim
 | _ :: _, [], _, _, d => d.elim
theorem xh4 : ∀ {l : List Operand}, EvOK ρ n ev e l -> All2 (AR.den ρ n) (l.map ev) (l.map e)
 | [], _ => trivial
 | x :: l, h => ⟨h x (by simp), xh4 fun y hy => h y (by simp [hy])⟩
theorem xb7 {x : AR} {k : Int} {u : Value} (h : xd3 x = some k) (d : x.den ρ n u) : ∃ kd, u = .int kd k := by
 unfold xd3 at h
 split at h
 · simp only [Option.some.injEq] at h; subst h; exact ⟨_, d.1⟩
 simp at h
theorem xei {b : Bool} {u : Value} (d : (AR.one (.c (.lit (.bool b)))).den ρ n u) : u = .bool b := d.1
def xck (P : Program) (e : Operand -> Value) (ρ : Rho) (n : Nat) (o : Oper) (r : AR) (w : World) : Prop := ∃ v, (execOp e o).run P w = .ok (.value v) w /\ r.den ρ n v
variable {dst : Option Tmp} {ty : TypeId} {pos : String} {after : Array Edge} {guard : Option (Nat × Bool)} {r : AR} {w : World}
theorem xjE {x : Operand} (h : xaP P ev ⟨dst, .nilCheck x, ty, pos, after, guard⟩ = some r) (he : (ev x).den ρ n (e x)) : xck P e ρ n ⟨dst, .nilCheck x, ty, pos, after, guard⟩ r w := by
 simp only [xaP] at h
 unfold xck
 simp only [execOp]
 split at h
 · rename_i id off hx; rw [hx] at he; obtain ⟨hl, hv⟩ := he
   simp only [Option.some.injEq] at h; subst h
   rw [hv]; exact ⟨_, rfl, hl, rfl⟩
 · rename_i a b hx; rw [hx] at he
   split at h
   · rename_i g l hf
     simp only [Option.some.injEq] at h; subst h
     obtain ⟨fs, cs, hv, _⟩ := xfE (a := l.1) (l := l.2) hf he
     rw [hv]; exact ⟨_, rfl, hv ▸ he⟩
   simp at h
 · rename_i f hx; rw [hx] at he
   simp only [Option.some.injEq] at h; subst h
   have hv : e x = .func (.func f) #[] #[] := he
   rw [hv]; exact ⟨_, rfl, rfl⟩
 · rename_i a b hx; rw [hx] at he
   split at h
   · rename_i g l hf
     simp only [Option.some.injEq] at h; subst h
     obtain ⟨fs, cs, hv, _⟩ := xfE (a := l.1) (l := l.2) hf he
     rw [hv]; exact ⟨_, rfl, hv ▸ he⟩
   simp at h
 · rename_i t c hx; rw [hx] at he; obtain ⟨y, hv, hy⟩ := he
   simp only [Option.some.injEq] at h; subst h
   rw [hv]; exact ⟨_, rfl, y, rfl, hy⟩
 simp at h
theorem xjF {f : Fn} {first captured : Array Operand} (h : xaP P ev ⟨dst, .makeFunc f first captured, ty, pos, after, guard⟩ = some r)
 (he : EvOK ρ n ev e (first ++ captured).toList) : xck P e ρ n ⟨dst, .makeFunc f first captured, ty, pos, after, guard⟩ r w := by
 simp only [xaP] at h
 have run : (execOp e ⟨dst, .makeFunc f first captured, ty, pos, after, guard⟩).run P w = .ok (.value (.func f (first.map e) (captured.map e))) w := rfl
 refine ⟨_, run, ?_⟩
 have h1 := xh4 (fun x hx => he x (by simp at hx ⊢; exact .inl hx) : EvOK ρ n ev e first.toList)
 have h2 := xh4 (fun x hx => he x (by simp at hx ⊢; exact .inr hx) : EvOK ρ n ev e captured.toList)
 split at h
 · rename_i hf
   simp only [Option.map_eq_some_iff] at h
   obtain ⟨x, hx, rfl⟩ := h
   have := xhm hx h2.rev
   have e1 : first.map e = #[] := by rw [show first = #[] from by simpa using hf]; simp
   have e2 : (List.map e captured.toList).reverse.reverse.toArray = captured.map e := by simp [<- Array.toList_map]
   rw [e1, <- e2]; exact this
 split at h
 · rename_i hc
   simp only [Option.map_eq_some_iff] at h
   obtain ⟨x, hx, rfl⟩ := h
   have := xg6 hx h1.rev
   have e1 : captured.map e = #[] := by rw [show captured = #[] from by simpa using hc]; simp
   have e2 : (List.map e first.toList).reverse.reverse.toArray = first.map e := by simp [<- Array.toList_map]
   rw [e1, <- e2]; exact this
 simp at h
theorem xhK {s : TypeId} {x : Operand} {f : Nat} (h : xaP P ev ⟨dst, .fieldAddr s x f, ty, pos, after, guard⟩ = some r) (he : (ev x).den ρ n (e x)) :
 xck P e ρ n ⟨dst, .fieldAddr s x f, ty, pos, after, guard⟩ r w := by
 simp only [xaP] at h
 split at h
 · rename_i off ft k id o hf hx
   simp only [Option.some.injEq] at h; subst h
   rw [hx] at he; obtain ⟨hl, hv⟩ := he
   obtain ⟨fields, y, hu, hy, rfl, rfl, hs⟩ := xd5 hf
   refine ⟨.pointer (some ⟨ρ.blk id, ρ.base id + (o + y.offset), none⟩), ?_, hl, rfl⟩
   have ha : (⟨ρ.blk id, ρ.base id + o, none⟩ : Addr).add y.offset = ⟨ρ.blk id, ρ.base id + (o + y.offset), none⟩ := by
    unfold Addr.add; split <;> simp_all [Nat.add_assoc]
   simp [execOp, Instr.fieldAt, run_underlying hu, hy, hv, Instr.sureAddr, fieldPlace, xaS hs, ha]
 simp at h
theorem q_field {t : TypeId} {x : Operand} {f : Nat} (h : xaP P ev ⟨dst, .field t x f, ty, pos, after, guard⟩ = some r) (he : (ev x).den ρ n (e x)) :
 xck P e ρ n ⟨dst, .field t x f, ty, pos, after, guard⟩ r w := by
 simp only [xaP] at h
 split at h
 · rename_i fields cs hu hx
   rw [hx] at he; obtain ⟨vs, hv, hd⟩ := he
   split at h
   · rename_i y hy
     simp only [Option.map_eq_some_iff] at h
     obtain ⟨a, ha, rfl⟩ := h
     obtain ⟨v, hr, hdv⟩ := xix ha hd w
     exact ⟨v, by simp [execOp, Instr.field, run_underlying hu, hy, hv, asAgg, hr], hdv⟩
   simp at h
 simp at h
theorem xcI (b o k : Nat) : (⟨b, o, none⟩ : Addr).add k = ⟨b, o + k, none⟩ := by unfold Addr.add; split <;> simp_all
theorem xhJ {t : TypeId} {x i : Operand} (h : xaP P ev ⟨dst, .indexAddr t x i, ty, pos, after, guard⟩ = some r) (he : (ev x).den ρ n (e x)) (hi : (ev i).den ρ n (e i)) :
 xck P e ρ n ⟨dst, .indexAddr t x i, ty, pos, after, guard⟩ r w := by
 simp only [xaP] at h
 split at h
 · rename_i k hk
   obtain ⟨kd, hi⟩ := xb7 hk hi
   split at h
   · rename_i len el id off hu hx
     rw [hx] at he; obtain ⟨hl, hv⟩ := he
     split at h
     · rename_i s hs
       cases hb : Nat.blt k len with
       | false => simp only [hb, cond_false, reduceCtorEq] at h
       | true =>
        simp only [hb, cond_true, Option.some.injEq] at h; subst h
        have hlt : k < len := by simpa [Nat.blt_eq] using hb
        refine ⟨_, ?_, hl, rfl⟩
        have h0 : (0 : Int) <= (k : Int) /\ (k : Int) < (len : Int) := by omega
        simp [execOp, Instr.indexAt, hi, asIntOf, run_underlying hu, hv, Instr.sureAddr, xaS hs, h0, xcI, Nat.add_assoc, hlt]
     simp at h
   · rename_i el id off len cp es ex hu hx
     rw [hx] at he; obtain ⟨hl, hc, o, c, hv, ho, hx1, hx2⟩ := he
     split at h
     · rename_i s hs
       cases hb : (Nat.blt k len && Nat.beq s es) with
       | false => simp only [hb, cond_false, reduceCtorEq] at h
       | true =>
        simp only [hb, cond_true, Option.some.injEq] at h; subst h
        simp only [Bool.and_eq_true, Nat.blt_eq] at hb
        have hlt : k < len := hb.1
        have hcap : c ≠ 0 := by
         cases ex with
         | true => have := hx1 rfl; omega
         | false => have := hx2 rfl; omega
        refine ⟨_, ?_, hl, rfl⟩
        have h0 : (0 : Int) <= (k : Int) /\ (k : Int) < (len : Int) := by omega
        simp [execOp, Instr.indexAt, hi, asIntOf, run_underlying hu, hv, xaS hs, h0, xcI, Nat.add_assoc, hlt, ho hcap]
     simp at h
   simp at h
 simp at h
theorem q_index {t : TypeId} {x i : Operand} (h : xaP P ev ⟨dst, .index t x i, ty, pos, after, guard⟩ = some r) (he : EvOK ρ n ev e [x, i]) :
 xck P e ρ n ⟨dst, .index t x i, ty, pos, after, guard⟩ r w := by
 simp only [xaP] at h
 split at h
 · rename_i r' hr; simp only [Option.some.injEq] at h; subst h; exact xaW hr he w
 split at h
 · rename_i k len el cs hk hu hx
   have hex := he x (by simp)
   rw [hx] at hex; obtain ⟨vs, hv, hd⟩ := hex
   obtain ⟨kd, hi⟩ := xb7 hk (he i (by simp))
   split at h
   · rename_i s hs
     cases hb : Nat.blt k len with
     | false => simp only [hb, cond_false, reduceCtorEq] at h
     | true =>
      simp only [hb, cond_true, Option.map_eq_some_iff] at h
      obtain ⟨a, ha, rfl⟩ := h
      have hlt : k < len := by simpa [Nat.blt_eq] using hb
      have h0 : (0 : Int) <= (k : Int) /\ (k : Int) < (len : Int) := by omega
      obtain ⟨v, hr, hdv⟩ := xix ha hd w
      exact ⟨v, by simp [execOp, Instr.index, hi, asIntOf, run_underlying hu, hv, xaS hs, h0, hr, hlt], hdv⟩
   simp at h
 simp at h
end
end
end Go.Proofs.YtapmdhejgnplaaaGreat
