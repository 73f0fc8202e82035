/-
  The reckoned run: memory, calls, regions, code. No condition.
-/
import Derived.Test.YtgobcnheemocnaaGreatDoorMg2
namespace Go.Proofs.YtgobcnheemocnaaGreatDoor
open Go
set_option linter.unusedSimpArgs false
set_option linter.unusedVariables false
noncomputable section

def bytesA : List AC → ByteArray → Option ByteArray
  | [], b => some b
  | .lit (.int .u8 n) :: l, b => bytesA l (b.push (UInt8.ofNat n.toNat))
  | _ :: _, _ => none
/-- The cells that a slice's elements lie in. -/
def slCells (H : AH) (n size : Nat) : AR → Option (List AC)
  | .one (.c (.sl id off len _ es _)) => bif Nat.ble n len && Nat.beq es size then (H.get id).bind fun b => cut b.cells off (n * size) else none
  | .one (.c (.lit (.slice none _ _))) => bif Nat.beq n 0 then some [] else none
  | .one (.c (.lit (.string s))) => bif Nat.beq n s.size && Nat.beq size 1 then some (s.data.toList.map fun b => .lit (.int .u8 b.toNat)) else none
  | _ => none
def lenA : AR → Option Nat
  | .one (.c (.sl _ _ len _ _ _)) => some len
  | .one (.c (.lit (.slice none n _))) => some n
  | .one (.c (.lit (.string s))) => some s.size
  | _ => none

/-- Operations that read memory and leave it. -/
def readA (P : Program) (H : AH) (ev : Ev) (o : Oper) : Option AR :=
  match o.op with
  | .load t a => match ev a with
    | .one (.c (.ptr id off)) => (H.get id).bind fun b => (partOf P t b.cells off).map .one
    | _ => none
  | .convert s d x => match P.underlying s, P.underlying d, ev x with
    | some (.slice e), some .string, .one (.c (.sl id off len cap es ex)) => match P.underlying e with
      | some (.int .u8) => bif Nat.beq es 1 then (slCells H len 1 (.one (.c (.sl id off len cap es ex)))).bind fun l => (bytesA l .empty).map fun b => .one (.c (.lit (.string b))) else none
      | _ => none
    | some (.pointer t), some .unsafePointer, .one (.c (.ptr id off)) => match szOf P t, H.get id with
      | some (_ + 1), some b => bif Nat.blt off b.cells.length then some (.one (.c (.ptr id off))) else none
      | _, _ => none
    | some .unsafePointer, some (.pointer u), .one (.c (.ptr id off)) => match szOf P u, H.get id with
      | some (_ + 1), some b => bif b.whole && liesAt P P.depth b.elem (b.cells.length / P.cellsOf b.elem) off u 1 then some (.one (.c (.ptr id off))) else none
      | _, _ => none
    | _, _, _ => none
  | .call { callee := .builtin .unsafeSliceData, args, .. } => match args.toList.map ev with
    | [.one (.c (.sl id off _ (_ + 1) _ _))] => some (.one (.c (.ptr id off)))
    | _ => none
  | _ => none

/-- A type that appends take their elements from. -/
def isSrc (P : Program) (u : TypeId) : Bool := match P.underlying u with
  | some (.slice _) | some .string => true
  | _ => false
def rep (n : Nat) (l : List AC) : List AC :=
  match n with
  | 0 => []
  | n + 1 => l ++ rep n l
/-- Operations that write memory, or make some. -/
def actA (P : Program) (H : AH) (ev : Ev) (o : Oper) : Option (AR × AH) :=
  match o.op with
  | .alloc t => (zeroCells? P t).map fun z => (.one (.c (.ptr H.next 0)), H.new ⟨z, t, true⟩)
  | .box t x => match ev x with
    | .one a => some (.one (.c (.ptr H.next 0)), H.new ⟨a.cells, t, true⟩)
    | _ => none
  | .buildSlice t len parts => match P.underlying t with
    | some (.slice e) => match szOf P e, zeroCells? P e, partsA ev parts.toList with
      | some s, some z, some ps => bif Nat.beq z.length s && Nat.ble (len * s) 16777216 then
          (fillA (fun i => some (i * s, s)) (rep len z) ps).map fun l => (.one (.c (.sl H.next 0 len len s true)), H.new ⟨l, e, true⟩)
        else none
      | _, _, _ => none
    | _ => none
  | .makeSlice t l c => match P.underlying t, intArg (ev l), intArg (ev c) with
    | some (.slice e), some (.ofNat l), some (.ofNat c) => match szOf P e, zeroCells? P e, (P.info? e).map (·.bytes) with
      | some s, some z, some b => bif Nat.ble l c && (Nat.blt c 1000000 && (Nat.beq z.length s && Nat.ble (b * c) 140737488355328)) then
          some (.one (.c (.sl H.next 0 l c s true)), H.new ⟨rep c z, e, true⟩)
        else none
      | _, _, _ => none
    | _, _, _ => none
  | .store t a x => match ev a, ev x with
    | .one (.c (.ptr id off)), .one v => match H.get id, szOf P t with
      | some b, some n => bif Nat.beq v.cells.length n && Nat.ble (off + n) b.cells.length then
          some (.tup [], H.set id (some ⟨splice b.cells off v.cells, b.elem, b.whole⟩))
        else none
      | _, _ => none
    | _, _ => none
  | .convert s d x => match P.underlying s, P.underlying d, ev x with
    | some .string, some (.slice e), .one (.c (.lit (.string t))) => match P.underlying e, szOf P e with
      | some (.int .u8), some 1 => some (.one (.c (.sl H.next 0 t.size t.size 1 false)), H.new ⟨t.data.toList.map fun b => .lit (.int .u8 b.toNat), e, false⟩)
      | _, _ => none
    | some (.slice _), some (.slice e), .one (.c (.sl id off len cap es ex)) => match Nat.beq s d, P.underlying e with
      | true, some (.int .u8) => bif (H.get id).isSome then some (.one (.c (.sl id off len cap es ex)), H) else none
      | _, _ => none
    | _, _, _ => none
  | .call { callee := .builtin .append, args, argTypes } => match argTypes.toList, args.toList.map ev with
    | [t, u], [s, x] => match P.underlying t, isSrc P u with
      | some (.slice e), true => match szOf P e, lenA x, (P.info? e).map (·.bytes) with
        | some size, some n, some bytes =>
          match n with
          | 0 => match s with
            | .one (.c (.sl ..)) => some (s, H)
            | .one (.c (.lit (.slice none 0 0))) => some (s, H)
            | _ => none
          | _ + 1 => match slCells H n size x, zeroCells? P e with
            | some new, some z => bif Nat.beq z.length size && (Nat.ble (n * bytes) 1099511627776 && Nat.ble n 1000000000) then
                match s with
                | .one (.c (.lit (.slice none 0 0))) => some (.one (.c (.sl H.next 0 n n size false)), H.new ⟨new, e, false⟩)
                | .one (.c (.sl id off len cap es ex)) => match H.get id with
                  | some b =>
                    let need := len + n
                    bif Nat.beq es size && (Nat.ble (need * bytes) 1099511627776 && Nat.ble need 1000000000) then
                      bif Nat.ble need cap then
                        bif Nat.ble (off + need * size) b.cells.length then
                          some (.one (.c (.sl id off need cap es ex)), H.set id (some ⟨splice b.cells (off + len * size) new, b.elem, b.whole⟩))
                        else none
                      else match cut b.cells off (len * size) with
                        | none => none
                        | some old =>
                          bif ex then some (.one (.c (.sl H.next 0 need need size false)), H.new ⟨old ++ new, e, false⟩)
                          else bif Nat.beq (off + len * size) b.cells.length && Nat.beq b.elem e then
                            some (.one (.c (.sl H.next 0 need need size false)), (H.set id none).new ⟨old ++ new, e, false⟩)
                          else none
                    else none
                  | none => none
                | _ => none
              else none
            | _, _ => none
        | _, _, _ => none
      | _, _ => none
    | _, _ => none
  | .call { callee := .builtin .unsafeString, args, argTypes } => match argTypes.toList, args.toList.map ev with
    | pt :: _, [.one (.c (.ptr id off)), .one (.c (.lit (.int _ n)))] => match P.underlying pt, H.get id with
      | some (.pointer u), some b => match P.underlying u with
        | some (.int .u8) => bif Nat.beq u b.elem && (decide (0 < n) && decide (n < 1000000)) then
            match (cut b.cells off n.toNat).bind fun l => bytesA l .empty with
            | some s => bif Nat.beq (P.cellsOf u) 1 && Nat.blt 1 P.depth then some (.one (.c (.lit (.string s))), H.set id none) else none
            | none => none
          else none
        | _ => none
      | _, _ => none
    | _, _ => none
  | _ => none

/-- The function that a method of a value is, and its receiver. -/
def followA (P : Program) : List FieldStep → TypeId → AC ⊕ (Nat × Nat) → Option (TypeId × (AC ⊕ (Nat × Nat)))
  | [], t, x => some (t, x)
  | s :: rest, _, x => match fieldOf P s.struct s.index with
    | some (off, ft, _ + 1) => match s.deref, x with
      | true, .inl (.ptr id o) => followA P rest ft (.inr (id, o + off))
      | false, .inr (id, o) => followA P rest ft (.inr (id, o + off))
      | _, _ => none
    | _ => none
def receiverA (P : Program) (xt : TypeId) (x : AC ⊕ (Nat × Nat)) (ptr : Bool) : Option AC :=
  match P.underlying xt, ptr, x with
  | some (.pointer _), true, .inl c => some c
  | some (.pointer _), _, _ => none
  | some _, true, .inr (id, o) => some (.ptr id o)
  | some _, false, .inl c => some c
  | _, _, _ => none
def methodA (P : Program) (t : TypeId) (c : AC) (name : String) : Option (FuncId × AC) :=
  match P.info? t with
  | some i => match i.methods.find? (·.name == name) with
    | some m => match followA P m.path.toList t (.inl c), m.func with
      | some (xt, x), some (f, ptr) => (receiverA P xt x ptr).map fun r => (f, r)
      | _, _ => none
    | none => none
  | none => none
def argsA (ev : Ev) : List Operand → Option (List AV)
  | [] => some []
  | x :: l => match ev x, argsA ev l with
    | .one a, some r => some (a :: r)
    | _, _ => none
def hasBody (P : Program) (g : FuncId) : Bool := match P.funcs[g]? with
  | some fn => fn.body.isSome
  | none => false
/-- What a call enters. -/
def calleeA (P : Program) (ev : Ev) (o : Oper) : Option (FuncId × List AV) :=
  match o.op with
  | .call { callee := .value f, args, .. } => match ev f, argsA ev args.toList with
    | .one (.c x), some az => match x.fn? with
      | some (.func g, fs, cs) => bif hasBody P g then some (g, fs.reverse.map .c ++ (az ++ cs.reverse.map .c)) else none
      | _ => none
    | _, _ => none
  | .call { callee := .invoke r name, args, .. } => match ev r, argsA ev args.toList with
    | .one (.c (.ifc t c)), some az => match methodA P t c name with
      | some (f, x) => bif hasBody P f then some (f, .c x :: az) else none
      | none => none
    | _, _ => none
  | _ => none

/-- How a call ends. -/
inductive Out where
  | ret (r : AR)
  | pan (v : AV)
inductive Ex where
  | normal
  | exit (id : Nat)
  | ret
  | pan (v : AV)
abbrev CallF := FuncId → List AV → AH → Option (Out × AH)

/-- Is an operation wanted? Its test's slot is told. -/
def wantedA (ops : List Oper) (fr : Fr) (o : Oper) : Option Bool :=
  match o.guard with
  | none => some true
  | some (j, want) => match (ops[j]?).bind (·.dst) with
    | some d => match fr.get d with
      | .one (.c (.lit (.bool b))) => some (b == want)
      | .tup [] => some false
      | _ => none
    | none => some false
def panicA (ev : Ev) (o : Oper) : Option AV :=
  match o.op with
  | .panic x => match ev x with
    | .one (.c (.ifc t c)) => some (.c (.ifc t c))
    | .one (.c (.lit (.iface t v))) => some (.c (.lit (.iface t v)))
    | _ => none
  | .call { callee := .builtin .panic, args, .. } => match args.toList.map ev with
    | .one (.c (.ifc t c)) :: _ => some (.c (.ifc t c))
    | .one (.c (.lit (.iface t v))) :: _ => some (.c (.lit (.iface t v)))
    | _ => none
  | _ => none
def scalC (P : Program) (ev : Ev) (o : Oper) : Option AR := match o.op with
  | .call _ => scal P ev o
  | _ => none
/-- One operation. -/
def opA (P : Program) (call : CallF) (ev : Ev) (H : AH) (o : Oper) : Option (Out × AH) :=
  match pureA P ev o with
  | some r => some (.ret r, H)
  | none => match readA P H ev o with
    | some r => some (.ret r, H)
    | none => match actA P H ev o with
      | some (r, H) => some (.ret r, H)
      | none => match calleeA P ev o with
        | some (f, az) => match call f az H with
          | some (.ret r, H) => some (.ret r, H)
          | some (.pan v, H) => some (.pan v, H)
          | none => none
        | none => match scalC P ev o with
          | some r => some (.ret r, H)
          | none => (panicA ev o).map fun v => (.pan v, H)
/-- One operation, by a table of closed alternatives: the same, but cheaper to reckon. -/
abbrev OpK := Program → CallF → Ev → AH → Oper → Option (Out × AH)
def retP (H : AH) : Option AR → Option (Out × AH)
  | some r => some (.ret r, H)
  | none => none
def retA : Option (AR × AH) → Option (Out × AH)
  | some (r, H) => some (.ret r, H)
  | none => none
def moveK (x : Operand) : OpK := fun _ _ ev H _ => some (.ret (ev x), H)
def loadB (P : Program) (H : AH) (t : TypeId) : AR → Option AR
  | .one (.c (.ptr id off)) => (H.get id).bind fun b => (partOf P t b.cells off).map .one
  | _ => none
def loadK (t : TypeId) (a : Operand) : OpK := fun P _ ev H _ => retP H (loadB P H t (ev a))
def scalB (P : Program) (u v : AR) (op : BinOp) (t : TypeId) (x y : Operand) : Option AR :=
  match u.val?, v.val? with
  | some a, some b => match qrun P (do eqGuard op t x y a b; binOp op t a b) with
    | some v => AR.of? v
    | _ => none
  | _, _ => none
def intB : BinOp → Int → Int → Option Value
  | .eql, a, b => some (.bool (a == b))
  | .neq, a, b => some (.bool (a != b))
  | .lss, a, b => some (.bool (a < b))
  | .leq, a, b => some (.bool (a ≤ b))
  | .gtr, a, b => some (.bool (a > b))
  | .geq, a, b => some (.bool (a ≥ b))
  | .add, a, b => some (.int .i64 (IntKind.i64.wrap (a + b)))
  | .sub, a, b => some (.int .i64 (IntKind.i64.wrap (a - b)))
  | _, _, _ => none
def binG (op : BinOp) (t : TypeId) (x y : Operand) : OpK := fun P call ev H o => match scalB P (ev x) (ev y) op t x y with
    | some r => some (.ret r, H)
    | none => opA P call ev H o
def intK (r : Option Value) (g : OpK) : OpK := fun P call ev H o => match r with
    | some v => some (.ret (.one (.c (.lit v))), H)
    | none => g P call ev H o
def binK (op : BinOp) (t : TypeId) (x y : Operand) : OpK := fun P call ev H o => match ev x, ev y with
    | .one (.c (.lit (.int .i64 a))), .one (.c (.lit (.int .i64 b))) => intK (intB op a b) (binG op t x y) P call ev H o
    | _, _ => binG op t x y P call ev H o
def fieldB (fo : Option (Nat × TypeId × Nat)) (x : AR) : Option AR :=
  match fo, x with
  | some (off, _, _ + 1), .one (.c (.ptr id o)) => some (.one (.c (.ptr id (o + off))))
  | _, _ => none
def fieldAddrK (s : TypeId) (x : Operand) (f : Nat) : OpK := fun P _ ev H _ => retP H (fieldB (fieldOf P s f) (ev x))
def indexB (P : Program) (t : TypeId) (x : AR) : Option Int → Option AR
  | some (.ofNat k) => match P.underlying t, x with
    | some (.array n e), .one (.c (.ptr id off)) => match szOf P e with
      | some s => bif Nat.blt k n then some (.one (.c (.ptr id (off + k * s)))) else none
      | none => none
    | some (.slice e), .one (.c (.sl id off len _ es _)) => match szOf P e with
      | some s => bif Nat.blt k len && Nat.beq s es then some (.one (.c (.ptr id (off + k * s)))) else none
      | none => none
    | _, _ => none
  | _ => none
def indexAddrK (t : TypeId) (x i : Operand) : OpK := fun P _ ev H _ => retP H (indexB P t (ev x) (intArg (ev i)))
def storeB (P : Program) (H : AH) (t : TypeId) (a x : AR) : Option (AR × AH) :=
  match a, x with
  | .one (.c (.ptr id off)), .one v => match H.get id, szOf P t with
    | some b, some n => bif Nat.beq v.cells.length n && Nat.ble (off + n) b.cells.length then
        some (.tup [], H.set id (some ⟨splice b.cells off v.cells, b.elem, b.whole⟩))
      else none
    | _, _ => none
  | _, _ => none
def storeK (t : TypeId) (a x : Operand) : OpK := fun P _ ev H _ => retA (storeB P H t (ev a) (ev x))
def pickB (a b : AR) : AR → Option AR
  | .one (.c (.lit (.bool t))) => some (bif t then a else b)
  | _ => none
def pickK (c a b : Operand) : OpK := fun _ _ ev H _ => retP H (pickB (ev a) (ev b) (ev c))
def nilB : AR → Option AR
  | .one (.c (.ptr id off)) => some (.one (.c (.ptr id off)))
  | .one (.c (.cap r c)) => match (AC.cap r c).fn? with
    | some (.func _, _) => some (.one (.c (.cap r c)))
    | _ => none
  | .one (.c (.fn (.func f))) => some (.one (.c (.fn (.func f))))
  | .one (.c (.fst r c)) => match (AC.fst r c).fn? with
    | some (.func _, _) => some (.one (.c (.fst r c)))
    | _ => none
  | .one (.c (.ifc t c)) => some (.one (.c (.ifc t c)))
  | _ => none
def nilCheckK (x : Operand) : OpK := fun _ _ ev H _ => retP H (nilB (ev x))
def extB (i : Nat) : AR → Option AR
  | .tup vs => (vs[i]?).map .one
  | _ => none
def extractK (x : Operand) (i : Nat) : OpK := fun _ _ ev H _ => retP H (extB i (ev x))
def notK (x : Operand) : OpK := fun P call ev H o => match ev x with
  | .one (.c (.lit (.bool b))) => some (.ret (.one (.c (.lit (.bool !b)))), H)
  | _ => opA P call ev H o
def consArg : AR → Option (List AV) → Option (List AV)
  | .one a, some r => some (a :: r)
  | _, _ => none
def argsR (ev : Ev) (l : List Operand) : Option (List AV) := @List.rec Operand (fun _ => Option (List AV)) (some []) (fun x _ ih => consArg (ev x) ih) l
def callFnK (f : Operand) (args : Array Operand) : OpK := fun P call ev H o => match ev f, argsR ev args.toList with
  | .one (.c (.fn (.func g))), some az => bif hasBody P g then call g az H else opA P call ev H o
  | _, _ => opA P call ev H o
def invokeK : OpK := fun P call ev H o => match calleeA P ev o with
  | some (f, az) => call f az H
  | none => opA P call ev H o
def lenK (args : Array Operand) (ats : Array TypeId) : OpK := fun P call ev H o => match args.toList, ats[0]? with
  | x :: _, some t => match ev x, P.underlying t with
    | .one (.c (.sl _ _ len _ _ _)), some (.slice _) => some (.ret (.one (.c (.lit (.int .i64 len)))), H)
    | _, _ => opA P call ev H o
  | _, _ => opA P call ev H o
def appendK (args : Array Operand) : OpK := fun P call ev H o => match args.toList with
  | x :: _ => match ev x with
    | .one (.c (.sl ..)) => match actA P H ev o with
      | some (r, H) => some (.ret r, H)
      | none => opA P call ev H o
    | _ => opA P call ev H o
  | _ => opA P call ev H o
def actK : OpK := fun P _ ev H o => retA (actA P H ev o)
def callTab (args : Array Operand) (ats : Array TypeId) : Callee → OpK
  | .value f => callFnK f args
  | .invoke _ _ => invokeK
  | .builtin .len => lenK args ats
  | .builtin .append => appendK args
  | _ => opA
def opTab : Op → OpK
  | .move x => moveK x
  | .assign x => moveK x
  | .load t a => loadK t a
  | .store t a x => storeK t a x
  | .binOp op t x y _ => binK op t x y
  | .unOp .not _ x => notK x
  | .nilCheck x => nilCheckK x
  | .extract x i => extractK x i
  | .fieldAddr s x f => fieldAddrK s x f
  | .indexAddr t x i => indexAddrK t x i
  | .pick c a b => pickK c a b
  | .alloc _ => actK
  | .box _ _ => actK
  | .buildSlice _ _ _ => actK
  | .makeSlice _ _ _ => actK
  | .call c => callTab c.args c.argTypes c.callee
  | _ => opA
def opF : OpK := fun P call ev H o => opTab o.op P call ev H o
theorem scal_of {P : Program} {ev : Ev} {o : Oper} {v : Value} (e1 : notSel o = true) (e2 : scalOK ev o.op.operands.toList = true) (h : qrun P (execOp (fun x => ((ev x).val?).getD undef) o) = some (.value v)) : scal P ev o = AR.of? v := by
  unfold scal
  rw [e1, e2]
  simp only [Bool.and_self, cond_true, h]
theorem scalB_eq {P : Program} {ev : Ev} {o : Oper} {op : BinOp} {t yt : TypeId} {x y : Operand} (ho : o.op = .binOp op t x y yt) {r : AR} (h : scalB P (ev x) (ev y) op t x y = some r) : scal P ev o = some r := by
  unfold scalB at h
  split at h
  · rename_i a b ha hb
    have e3 : execOp (fun x => ((ev x).val?).getD undef) o = (do let v ← (do eqGuard op t x y a b; binOp op t a b : Sem Value); pure (.value v)) := by
      unfold execOp; rw [ho]; simp only [ha, hb, Option.getD_some]
    have bind : ∀ {α β : Type} (s : Sem α) (f : α → β) (a : α), qrun P s = some a → qrun P (do let x ← s; pure (f x)) = some (f a) := by
      intro α β s f a h
      induction s with
      | pure b => simp only [qrun, Option.some.injEq] at h; subst h; rfl
      | program k ih => exact ih P h
      | mark m k ih => exact ih h
      | _ => simp [qrun] at h
    split at h
    · rename_i v hv
      rw [scal_of (by unfold notSel; rw [ho]) (by rw [ho]; simp [Op.operands, scalOK, ha, hb]) (by rw [e3]; exact bind _ Next.value v hv)]
      exact h
    · simp at h
  · simp at h
theorem intB_eq {P : Program} {ev : Ev} {op : BinOp} {t : TypeId} {x y : Operand} {a b : Int} (ha : ev x = .one (.c (.lit (.int .i64 a)))) (hb : ev y = .one (.c (.lit (.int .i64 b)))) {v : Value} (h : intB op a b = some v) :
    scalB P (ev x) (ev y) op t x y = some (.one (.c (.lit v))) := by
  rw [ha, hb]
  cases op <;> simp only [intB, Option.some.injEq, reduceCtorEq] at h <;> subst h <;> rfl
theorem argsR_eq (ev : Ev) : ∀ l, argsR ev l = argsA ev l
  | [] => rfl
  | x :: l => by
    have ih := argsR_eq ev l
    show consArg (ev x) (argsR ev l) = _
    rw [ih]
    simp only [argsA]
    rfl
theorem call_id {r : Option (Out × AH)} : (match r with
          | some (.ret r, H) => some (Out.ret r, H)
          | some (.pan v, H) => some (Out.pan v, H)
          | none => none) = r := by
  rcases r with _ | ⟨_ | _, _⟩ <;> rfl
theorem opA_pure {P : Program} {call : CallF} {ev : Ev} {H : AH} {o : Oper} {r : Option AR} (h : pureA P ev o = r) (h2 : readA P H ev o = none) (h3 : actA P H ev o = none) (h4 : calleeA P ev o = none) (h5 : scalC P ev o = none) (h6 : panicA ev o = none) : retP H r = opA P call ev H o := by
  unfold opA; rw [h, h2, h3, h4, h5, h6]; cases r <;> rfl
theorem opA_read {P : Program} {call : CallF} {ev : Ev} {H : AH} {o : Oper} {r : Option AR} (h : readA P H ev o = r) (h2 : pureA P ev o = none) (h3 : actA P H ev o = none) (h4 : calleeA P ev o = none) (h5 : scalC P ev o = none) (h6 : panicA ev o = none) : retP H r = opA P call ev H o := by
  unfold opA; rw [h, h2, h3, h4, h5, h6]; cases r <;> rfl
theorem opA_act {P : Program} {call : CallF} {ev : Ev} {H : AH} {o : Oper} {r : Option (AR × AH)} (h : actA P H ev o = r) (h2 : pureA P ev o = none) (h3 : readA P H ev o = none) (h4 : calleeA P ev o = none) (h5 : scalC P ev o = none) (h6 : panicA ev o = none) : retA r = opA P call ev H o := by
  unfold opA; rw [h, h2, h3, h4, h5, h6]; cases r <;> rfl
theorem opF_eq : opF = opA := by
  funext P call ev H o
  obtain ⟨dst, op, ty, pos, after, guard⟩ := o
  cases op with
  | load t a => exact opA_read rfl rfl rfl rfl rfl rfl
  | store t a x => exact opA_act rfl rfl rfl rfl rfl rfl
  | alloc t => exact opA_act rfl rfl rfl rfl rfl rfl
  | box t x => exact opA_act rfl rfl rfl rfl rfl rfl
  | buildSlice t n ps => exact opA_act rfl rfl rfl rfl rfl rfl
  | makeSlice t n ps => exact opA_act rfl rfl rfl rfl rfl rfl
  | binOp op t x y yt =>
    have g : ∀ r, scalB P (ev x) (ev y) op t x y = some r → some (.ret r, H) = opA P call ev H ⟨dst, .binOp op t x y yt, ty, pos, after, guard⟩ := by
      intro r h
      have e := scalB_eq (o := ⟨dst, .binOp op t x y yt, ty, pos, after, guard⟩) rfl h
      simp only [opA, pureA, e]
    have gg : binG op t x y P call ev H ⟨dst, .binOp op t x y yt, ty, pos, after, guard⟩ = opA P call ev H ⟨dst, .binOp op t x y yt, ty, pos, after, guard⟩ := by
      unfold binG
      split
      · rename_i r h; exact g r h
      · rfl
    show binK op t x y P call ev H _ = _
    unfold binK
    split
    · rename_i a b ha hb
      unfold intK
      split
      · rename_i v hv; exact g _ (intB_eq ha hb hv)
      · exact gg
    · exact gg
  | unOp op t x =>
    cases op with
    | not =>
      show notK x P call ev H _ = _
      unfold notK
      split
      · rename_i b hb
        have e : scal P ev ⟨dst, .unOp .not t x, ty, pos, after, guard⟩ = some (.one (.c (.lit (.bool !b)))) :=
          scal_of (v := .bool !b) rfl (by simp [Op.operands, scalOK, hb, AR.val?, AV.val?, AC.val?]) (by simp only [execOp, hb]; rfl)
        simp only [opA, pureA, e]
      · rfl
    | _ => rfl
  | nilCheck x => exact opA_pure rfl rfl rfl rfl rfl rfl
  | extract x i => exact opA_pure rfl rfl rfl rfl rfl rfl
  | fieldAddr s x f => exact opA_pure rfl rfl rfl rfl rfl rfl
  | indexAddr t x i => exact opA_pure rfl rfl rfl rfl rfl rfl
  | pick c a b => exact opA_pure rfl rfl rfl rfl rfl rfl
  | call c =>
    obtain ⟨callee, args, ats⟩ := c
    cases callee with
    | value f =>
      show callFnK f args P call ev H _ = _
      unfold callFnK
      split
      · rename_i g az hf ha
        cases hb : hasBody P g with
        | false => rfl
        | true =>
          have hc : calleeA P ev ⟨dst, .call ⟨.value f, args, ats⟩, ty, pos, after, guard⟩ = some (g, az) := by
            simp only [calleeA, hf, ← argsR_eq, ha, AC.fn?, hb, cond_true, List.reverse_nil, List.map_nil, List.nil_append, List.append_nil]
          have hp : pureA P ev ⟨dst, .call ⟨.value f, args, ats⟩, ty, pos, after, guard⟩ = none := by
            unfold hasBody at hb
            simp only [pureA, hf]
            split
            · rename_i k x hk hx
              obtain rfl : g = k := by simpa using hk
              cases hfn : P.funcs[g]? with
              | none => rfl
              | some fn =>
                rw [hfn] at hb
                have : noEsc fn = false := by
                  unfold noEsc
                  cases hbd : fn.body with
                  | none => simp [hbd] at hb
                  | some _ => rfl
                simp only [this, cond_false]
            · rfl
          unfold opA
          rw [hp, hc]
          exact call_id.symm
      · rfl
    | invoke r m =>
      show invokeK P call ev H _ = _
      unfold invokeK
      split
      · rename_i f az hc
        unfold opA
        rw [hc]
        exact call_id.symm
      · rfl
    | builtin b =>
      cases b with
      | len =>
        show lenK args ats P call ev H _ = _
        unfold lenK
        split
        · rename_i x l t hx ht
          split
          · rename_i id off len cap es ex u he hu
            have hs : scal P ev ⟨dst, .call ⟨.builtin .len, args, ats⟩, ty, pos, after, guard⟩ = none := by
              unfold scal
              have : scalOK ev (Op.operands (.call ⟨.builtin .len, args, ats⟩)).toList = false := by
                simp [Op.operands, Call.operands, hx, scalOK, he, AR.val?, AV.val?, AC.val?]
              simp only [this, Bool.and_false, cond_false]
            have hx0 : args[0]? = some x := by rw [← Array.getElem?_toList, hx]; rfl
            simp only [opA, pureA, hs, ht, hx0, hu, he]
          · rfl
        · rfl
      | append =>
        show appendK args P call ev H _ = _
        unfold appendK
        split
        · rename_i x l hx
          split
          · rename_i id off len cap es ex he
            split
            · rename_i r H1 ha
              have hs : scal P ev ⟨dst, .call ⟨.builtin .append, args, ats⟩, ty, pos, after, guard⟩ = none := by
                unfold scal
                have : scalOK ev (Op.operands (.call ⟨.builtin .append, args, ats⟩)).toList = false := by
                  simp [Op.operands, Call.operands, hx, scalOK, he, AR.val?, AV.val?, AC.val?]
                simp only [this, Bool.and_false, cond_false]
              have hr : readA P H ev ⟨dst, .call ⟨.builtin .append, args, ats⟩, ty, pos, after, guard⟩ = none := rfl
              simp only [opA, pureA, hs, hr, ha]
            · rfl
          · rfl
        · rfl
      | _ => rfl
  | _ => rfl
/-- What goes on behind an operation. -/
abbrev LR := Option (Ex × Fr × AH)
def goOn (k : Fr → AH → LR) (p : Option Fr) (H : AH) : LR := match p with
  | some fr => k fr H
  | none => none
def goOut (k : Fr → AH → LR) (fr : Fr) (d : Option Tmp) (r : Option (Out × AH)) : LR := match r with
  | some (.ret r, H) => goOn k (fr.put d r) H
  | some (.pan v, H) => some (.pan v, fr, H)
  | none => none
def goWant (k : Fr → AH → LR) (fr : Fr) (H : AH) (d : Option Tmp) (r : Option (Out × AH)) (w : Option Bool) : LR := match w with
  | some true => goOut k fr d r
  | some false => goOn k (fr.put d (.tup [])) H
  | none => none
def listA (P : Program) (call : CallF) (ops : List Oper) (l : List Oper) : Fr → AH → LR :=
  @List.rec Oper (fun _ => Fr → AH → LR) (fun fr H => some (.normal, fr, H)) (fun o _ ih fr H => goWant ih fr H o.dst (opF P call fr.ev H o) (wantedA ops fr o)) l
def goFlush : LR → LR
  | some (e, fr, H) => some (e, fr.flush, H)
  | none => none
theorem goFlush_some {r : LR} {x : Ex × Fr × AH} (h : goFlush r = some x) : ∃ e fr H, r = some (e, fr, H) ∧ x = (e, fr.flush, H) := by
  rcases r with _ | ⟨e, fr, H⟩
  · simp [goFlush] at h
  · simp only [goFlush, Option.some.injEq] at h; exact ⟨e, fr, H, rfl, h.symm⟩
theorem listA_nil (P : Program) (call : CallF) (ops : List Oper) (fr : Fr) (H : AH) : listA P call ops [] fr H = some (.normal, fr, H) := rfl
theorem listA_cons (P : Program) (call : CallF) (ops : List Oper) (o : Oper) (l : List Oper) (fr : Fr) (H : AH) : listA P call ops (o :: l) fr H = match wantedA ops fr o with
    | some true => match opA P call fr.ev H o with
      | some (.ret r, H) => match fr.put o.dst r with
        | some fr => listA P call ops l fr H
        | none => none
      | some (.pan v, H) => some (.pan v, fr, H)
      | none => none
    | some false => match fr.put o.dst (.tup []) with
      | some fr => listA P call ops l fr H
      | none => none
    | none => none := by
  rw [← opF_eq]
  show goWant (listA P call ops l) fr H o.dst (opF P call fr.ev H o) (wantedA ops fr o) = _
  generalize opF P call fr.ev H o = r
  generalize wantedA ops fr o = b
  rcases b with _ | (_ | _)
  · rfl
  · show goOn _ _ _ = _
    unfold goOn; rfl
  · show goOut _ _ _ _ = _
    unfold goOut goOn; rfl
end
end Go.Proofs.YtgobcnheemocnaaGreatDoor
