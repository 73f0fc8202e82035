/-
  The reckoned run: memory, calls, regions, code. No condition.
-/
import Derived.Test.YtcgieejgmcgicaaGreatDoorEvA
namespace Go.Proofs.YtcgieejgmcgicaaGreatDoor
open Go
set_option linter.unusedSimpArgs false
set_option linter.unusedVariables false

def bytesA : List AC → ByteArray → Option ByteArray
  | [], b => some b
  | .lit (.int .u8 n) :: l, b => bytesA l (b.push (UInt8.ofNat n.toNat))
  | _ :: _, _ => none
/-- The cells that a slice's elements lie in. -/
def slCells (H : AH) (n size : Nat) : AR → Option (List AC)
  | .one (.c (.sl id off len _ es _)) => bif Nat.ble n len && Nat.beq es size then (H.get id).bind fun b => cut b.cells off (n * size) else none
  | .one (.c (.lit (.slice none _ _))) => bif Nat.beq n 0 then some [] else none
  | .one (.c (.lit (.string s))) => bif Nat.beq n s.size && Nat.beq size 1 then some (s.data.toList.map fun b => .lit (.int .u8 b.toNat)) else none
  | _ => none
def lenA : AR → Option Nat
  | .one (.c (.sl _ _ len _ _ _)) => some len
  | .one (.c (.lit (.slice none n _))) => some n
  | .one (.c (.lit (.string s))) => some s.size
  | _ => none

/-- Operations that read memory and leave it. -/
def readA (P : Program) (H : AH) (ev : Ev) (o : Oper) : Option AR :=
  match o.op with
  | .load t a => match ev a with
    | .one (.c (.ptr id off)) => (H.get id).bind fun b => (partOf P t b.cells off).map .one
    | _ => none
  | .convert s d x => match P.underlying s, P.underlying d, ev x with
    | some (.slice e), some .string, .one (.c (.sl id off len cap es ex)) => match P.underlying e with
      | some (.int .u8) => bif Nat.beq es 1 then (slCells H len 1 (.one (.c (.sl id off len cap es ex)))).bind fun l => (bytesA l .empty).map fun b => .one (.c (.lit (.string b))) else none
      | _ => none
    | some (.pointer t), some .unsafePointer, .one (.c (.ptr id off)) => match szOf P t, H.get id with
      | some (_ + 1), some b => bif Nat.blt off b.cells.length then some (.one (.c (.ptr id off))) else none
      | _, _ => none
    | some .unsafePointer, some (.pointer u), .one (.c (.ptr id off)) => match szOf P u, H.get id with
      | some (_ + 1), some b => bif b.whole && liesAt P P.depth b.elem (b.cells.length / P.cellsOf b.elem) off u 1 then some (.one (.c (.ptr id off))) else none
      | _, _ => none
    | _, _, _ => none
  | .call { callee := .builtin .unsafeSliceData, args, .. } => match args.toList.map ev with
    | [.one (.c (.sl id off _ (_ + 1) _ _))] => some (.one (.c (.ptr id off)))
    | _ => none
  | _ => none

/-- A type that appends take their elements from. -/
def isSrc (P : Program) (u : TypeId) : Bool := match P.underlying u with
  | some (.slice _) | some .string => true
  | _ => false
def rep (n : Nat) (l : List AC) : List AC :=
  match n with
  | 0 => []
  | n + 1 => l ++ rep n l
/-- Operations that write memory, or make some. -/
def actA (P : Program) (H : AH) (ev : Ev) (o : Oper) : Option (AR × AH) :=
  match o.op with
  | .alloc t => (zeroCells? P t).map fun z => (.one (.c (.ptr H.next 0)), H.new ⟨z, t, true⟩)
  | .box t x => match ev x with
    | .one a => some (.one (.c (.ptr H.next 0)), H.new ⟨a.cells, t, true⟩)
    | _ => none
  | .buildSlice t len parts => match P.underlying t with
    | some (.slice e) => match szOf P e, zeroCells? P e, partsA ev parts.toList with
      | some s, some z, some ps => bif Nat.beq z.length s && Nat.ble (len * s) 16777216 then
          (fillA (fun i => some (i * s, s)) (rep len z) ps).map fun l => (.one (.c (.sl H.next 0 len len s true)), H.new ⟨l, e, true⟩)
        else none
      | _, _, _ => none
    | _ => none
  | .makeSlice t l c => match P.underlying t, intArg (ev l), intArg (ev c) with
    | some (.slice e), some (.ofNat l), some (.ofNat c) => match szOf P e, zeroCells? P e, (P.info? e).map (·.bytes) with
      | some s, some z, some b => bif Nat.ble l c && (Nat.blt c 1000000 && (Nat.beq z.length s && Nat.ble (b * c) 140737488355328)) then
          some (.one (.c (.sl H.next 0 l c s true)), H.new ⟨rep c z, e, true⟩)
        else none
      | _, _, _ => none
    | _, _, _ => none
  | .store t a x => match ev a, ev x with
    | .one (.c (.ptr id off)), .one v => match H.get id, szOf P t with
      | some b, some n => bif Nat.beq v.cells.length n && Nat.ble (off + n) b.cells.length then
          some (.tup [], H.set id (some ⟨splice b.cells off v.cells, b.elem, b.whole⟩))
        else none
      | _, _ => none
    | _, _ => none
  | .convert s d x => match P.underlying s, P.underlying d, ev x with
    | some .string, some (.slice e), .one (.c (.lit (.string t))) => match P.underlying e, szOf P e with
      | some (.int .u8), some 1 => some (.one (.c (.sl H.next 0 t.size t.size 1 false)), H.new ⟨t.data.toList.map fun b => .lit (.int .u8 b.toNat), e, false⟩)
      | _, _ => none
    | some (.slice _), some (.slice e), .one (.c (.sl id off len cap es ex)) => match Nat.beq s d, P.underlying e with
      | true, some (.int .u8) => bif (H.get id).isSome then some (.one (.c (.sl id off len cap es ex)), H) else none
      | _, _ => none
    | _, _, _ => none
  | .call { callee := .builtin .append, args, argTypes } => match argTypes.toList, args.toList.map ev with
    | [t, u], [s, x] => match P.underlying t, isSrc P u with
      | some (.slice e), true => match szOf P e, lenA x, (P.info? e).map (·.bytes) with
        | some size, some n, some bytes =>
          match n with
          | 0 => match s with
            | .one (.c (.sl ..)) => some (s, H)
            | .one (.c (.lit (.slice none 0 0))) => some (s, H)
            | _ => none
          | _ + 1 => match slCells H n size x, zeroCells? P e with
            | some new, some z => bif Nat.beq z.length size && (Nat.ble (n * bytes) 1099511627776 && Nat.ble n 1000000000) then
                match s with
                | .one (.c (.lit (.slice none 0 0))) => some (.one (.c (.sl H.next 0 n n size false)), H.new ⟨new, e, false⟩)
                | .one (.c (.sl id off len cap es ex)) => match H.get id with
                  | some b =>
                    let need := len + n
                    bif Nat.beq es size && (Nat.ble (need * bytes) 1099511627776 && Nat.ble need 1000000000) then
                      bif Nat.ble need cap then
                        bif Nat.ble (off + need * size) b.cells.length then
                          some (.one (.c (.sl id off need cap es ex)), H.set id (some ⟨splice b.cells (off + len * size) new, b.elem, b.whole⟩))
                        else none
                      else match cut b.cells off (len * size) with
                        | none => none
                        | some old =>
                          bif ex then some (.one (.c (.sl H.next 0 need need size false)), H.new ⟨old ++ new, e, false⟩)
                          else bif Nat.beq (off + len * size) b.cells.length && Nat.beq b.elem e then
                            some (.one (.c (.sl H.next 0 need need size false)), (H.set id none).new ⟨old ++ new, e, false⟩)
                          else none
                    else none
                  | none => none
                | _ => none
              else none
            | _, _ => none
        | _, _, _ => none
      | _, _ => none
    | _, _ => none
  | .call { callee := .builtin .unsafeString, args, argTypes } => match argTypes.toList, args.toList.map ev with
    | pt :: _, [.one (.c (.ptr id off)), .one (.c (.lit (.int _ n)))] => match P.underlying pt, H.get id with
      | some (.pointer u), some b => match P.underlying u with
        | some (.int .u8) => bif Nat.beq u b.elem && (decide (0 < n) && decide (n < 1000000)) then
            match (cut b.cells off n.toNat).bind fun l => bytesA l .empty with
            | some s => bif Nat.beq (P.cellsOf u) 1 && Nat.blt 1 P.depth then some (.one (.c (.lit (.string s))), H.set id none) else none
            | none => none
          else none
        | _ => none
      | _, _ => none
    | _, _ => none
  | _ => none

/-- The function that a method of a value is, and its receiver. -/
def followA (P : Program) : List FieldStep → TypeId → AC ⊕ (Nat × Nat) → Option (TypeId × (AC ⊕ (Nat × Nat)))
  | [], t, x => some (t, x)
  | s :: rest, _, x => match fieldOf P s.struct s.index with
    | some (off, ft, _ + 1) => match s.deref, x with
      | true, .inl (.ptr id o) => followA P rest ft (.inr (id, o + off))
      | false, .inr (id, o) => followA P rest ft (.inr (id, o + off))
      | _, _ => none
    | _ => none
def receiverA (P : Program) (xt : TypeId) (x : AC ⊕ (Nat × Nat)) (ptr : Bool) : Option AC :=
  match P.underlying xt, ptr, x with
  | some (.pointer _), true, .inl c => some c
  | some (.pointer _), _, _ => none
  | some _, true, .inr (id, o) => some (.ptr id o)
  | some _, false, .inl c => some c
  | _, _, _ => none
def methodA (P : Program) (t : TypeId) (c : AC) (name : String) : Option (FuncId × AC) :=
  match P.info? t with
  | some i => match i.methods.find? (·.name == name) with
    | some m => match followA P m.path.toList t (.inl c), m.func with
      | some (xt, x), some (f, ptr) => (receiverA P xt x ptr).map fun r => (f, r)
      | _, _ => none
    | none => none
  | none => none
def argsA (ev : Ev) : List Operand → Option (List AV)
  | [] => some []
  | x :: l => match ev x, argsA ev l with
    | .one a, some r => some (a :: r)
    | _, _ => none
def hasBody (P : Program) (g : FuncId) : Bool := match P.funcs[g]? with
  | some fn => fn.body.isSome
  | none => false
/-- What a call enters. -/
def calleeA (P : Program) (ev : Ev) (o : Oper) : Option (FuncId × List AV) :=
  match o.op with
  | .call { callee := .value f, args, .. } => match ev f, argsA ev args.toList with
    | .one (.c x), some as => match x.fn? with
      | some (.func g, fs, cs) => bif hasBody P g then some (g, fs.reverse.map .c ++ (as ++ cs.reverse.map .c)) else none
      | _ => none
    | _, _ => none
  | .call { callee := .invoke r name, args, .. } => match ev r, argsA ev args.toList with
    | .one (.c (.ifc t c)), some as => match methodA P t c name with
      | some (f, x) => bif hasBody P f then some (f, .c x :: as) else none
      | none => none
    | _, _ => none
  | _ => none

/-- How a call ends. -/
inductive Out where
  | ret (r : AR)
  | pan (v : AV)
inductive Ex where
  | normal
  | exit (id : Nat)
  | ret
  | pan (v : AV)
abbrev CallF := FuncId → List AV → AH → Option (Out × AH)

/-- Is an operation wanted? Its test's slot is told. -/
def wantedA (ops : List Oper) (fr : Fr) (o : Oper) : Option Bool :=
  match o.guard with
  | none => some true
  | some (j, want) => match (ops[j]?).bind (·.dst) with
    | some d => match fr.get d with
      | .one (.c (.lit (.bool b))) => some (b == want)
      | .tup [] => some false
      | _ => none
    | none => some false
def panicA (ev : Ev) (o : Oper) : Option AV :=
  match o.op with
  | .panic x => match ev x with
    | .one (.c (.ifc t c)) => some (.c (.ifc t c))
    | .one (.c (.lit (.iface t v))) => some (.c (.lit (.iface t v)))
    | _ => none
  | .call { callee := .builtin .panic, args, .. } => match args.toList.map ev with
    | .one (.c (.ifc t c)) :: _ => some (.c (.ifc t c))
    | .one (.c (.lit (.iface t v))) :: _ => some (.c (.lit (.iface t v)))
    | _ => none
  | _ => none
def scalC (P : Program) (ev : Ev) (o : Oper) : Option AR := match o.op with
  | .call _ => scal P ev o
  | _ => none
/-- One operation. -/
def opA (P : Program) (call : CallF) (ev : Ev) (H : AH) (o : Oper) : Option (Out × AH) :=
  match pureA P ev o with
  | some r => some (.ret r, H)
  | none => match readA P H ev o with
    | some r => some (.ret r, H)
    | none => match actA P H ev o with
      | some (r, H) => some (.ret r, H)
      | none => match calleeA P ev o with
        | some (f, as) => match call f as H with
          | some (.ret r, H) => some (.ret r, H)
          | some (.pan v, H) => some (.pan v, H)
          | none => none
        | none => match scalC P ev o with
          | some r => some (.ret r, H)
          | none => (panicA ev o).map fun v => (.pan v, H)
def listA (P : Program) (call : CallF) (ops : List Oper) : List Oper → Fr → AH → Option (Ex × Fr × AH)
  | [], fr, H => some (.normal, fr, H)
  | o :: l, fr, H => match wantedA ops fr o with
    | some true => match opA P call fr.ev H o with
      | some (.ret r, H) => match fr.put o.dst r with
        | some fr => listA P call ops l fr H
        | none => none
      | some (.pan v, H) => some (.pan v, fr, H)
      | none => none
    | some false => match fr.put o.dst (.tup []) with
      | some fr => listA P call ops l fr H
      | none => none
    | none => none
end Go.Proofs.YtcgieejgmcgicaaGreatDoor
