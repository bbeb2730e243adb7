/-
  From the translated code to the evaluator's: 'comp' (a definition; what it yields is held against a written-out text by the kernel).
-/
import Derived.Test.YthlpmghodgiknaaEvA
namespace Go.Ev
open Go

section
variable (P : Program)

/-- The zero cells of a type. -/
def zeroAV : Nat → TypeId → Option (List AV)
  | 0, _ => none
  | d + 1, t =>
    match P.underlying t with
    | some .bool => some [.bool false]
    | some (.int k) => some [.int k 0]
    | some .string => some [.str ByteArray.empty]
    | some (.pointer _) => some [.nilp]
    | some (.slice e) => some [.imm true (P.cellsOf e) []]
    | some (.struct fs) => fs.foldl (fun acc f => match acc, zeroAV d f.type with | some a, some b => some (a ++ b) | _, _ => none) (some [])
    | some (.array n e) => (zeroAV d e).map fun z => (List.replicate n z).flatten
    | _ => none

def zOkV : AV → Value → Bool
  | .bool a, .bool b => a == b
  | .int k n, .int k' n' => k == k' && n == n'
  | .str a, .string b => decide (a = b)
  | .nilp, .pointer none => true
  | .imm true _ [], .slice none 0 0 => true
  | _, _ => false

def zOkL : List AV → List Value → Bool
  | [], [] => true
  | z :: zs, v :: vs => zOkV z v && zOkL zs vs
  | _, _ => false

/-- The zero cells, held against the table's own zero value. -/
def zeroC (t : TypeId) : Option (List AV) :=
  match zeroAV P 20 t, (P.info? t).bind (·.zero) with
  | some z, some v => if zOkL z v.cells.toList then some z else none
  | _, _ => none

def constAV (t : TypeId) : Value → Option AV
  | .int k n => some (.int k n)
  | .bool b => some (.bool b)
  | .string s => some (.str s)
  | .pointer none => some .nilp
  | .slice none 0 0 =>
    match P.underlying t with
    | some (.slice e) => some (.imm true (P.cellsOf e) [])
    | _ => none
  | _ => none

def axOf (t : TypeId) : Operand → Option AX
  | .tmp n => some (.t n)
  | .const v => (constAV P t v).map .c
  | .func f => some (.c (.fn f []))
  | .global _ => none

def axO : Option Operand → Option (Option AX)
  | none => some none
  | some x => (axOf P 0 x).map some

def isAggT (t : TypeId) : Bool :=
  match P.underlying t with
  | some (.struct _) | some (.array _ _) => true
  | _ => false

def loadN (t : TypeId) : Option Nat := if isAggT P t then some (P.cellsOf t) else none

def elemT (t : TypeId) : Option TypeId :=
  match P.underlying t with
  | some (.slice e) => some e
  | _ => none

def axs : List TypeId → List Operand → Option (List AX)
  | _, [] => some []
  | [], x :: xs => match axOf P 0 x, axs [] xs with | some a, some as => some (a :: as) | _, _ => none
  | t :: ts, x :: xs => match axOf P t x, axs ts xs with | some a, some as => some (a :: as) | _, _ => none

def okT (t : TypeId) : Bool := (P.underlying t).isSome

/-- Which callees are taken as pure: 'some fresh'. -/
structure Kinds where
  pure : List (FuncId × Bool)
  upd : List (FuncId × Nat × TypeId)

def kindOf (ks : Kinds) (f : FuncId) : Option Bool := (ks.pure.find? (·.1 == f)).map (·.2)
def updOf (ks : Kinds) (f : FuncId) : Option (Nat × TypeId) := (ks.upd.find? (·.1 == f)).map (·.2)

def isNilC : AX → Bool
  | .c (.imm true _ []) => true
  | _ => false

def cOp (ks : Kinds) (fid : FuncId) (o : Oper) : Option AOp :=
  let key : Nat := (fid * 1000 + o.dst.getD 999) * 16
  match o.op with
  | .move x | .assign x => (axOf P o.type x).map .mv
  | .pick c a b => match axOf P o.type c, axOf P o.type a, axOf P o.type b with | some c, some a, some b => some (.pick c a b) | _, _, _ => none
  | .alloc e => (zeroC P e).map (.alloc key e)
  | .box e x => if okT P e then (axOf P e x).map (.box key e (P.cellsOf e)) else none
  | .build t parts =>
    match P.underlying t, zeroC P t with
    | some (.struct fs), some z =>
      if !fs.toList.all (fun f => okT P f.type) then none else
      (parts.toList.mapM fun p : Nat × Operand => (match fs[p.1]? with | some f => (axOf P f.type p.2).map fun x => (f.offset, P.cellsOf f.type, x) | none => none : Option (Nat × Nat × AX))).map (AOp.build z)
    | _, _ => none
  | .buildSlice t len parts =>
    match elemT P t with
    | some e =>
      match zeroC P e, (parts.toList.mapM fun p : Nat × Operand => ((axOf P e p.2).map fun x => (p.1, x) : Option (Nat × AX))) with
      | some z, some ps => if len * P.cellsOf e ≤ 16777216 ∧ okT P e then some (.bslice e (P.cellsOf e) len z ps) else none
      | _, _ => none
    | none => none
  | .load t x => if okT P t then (axOf P 0 x).map (.load (loadN P t)) else none
  | .store t x v => if okT P t then (match axOf P 0 x, axOf P t v with | some x, some v => some (.store (P.cellsOf t) x v) | _, _ => none) else none
  | .nilCheck x => (axOf P 0 x).map .nilchk
  | .binOp op t x y u =>
    match P.underlying t, axOf P t x, axOf P u y with
    | some (.int _), some x, some y => some (.bin op x y)
    | some .bool, some x, some y => some (.binb op x y)
    | _, _, _ => none
  | .unOp op t x => (axOf P t x).map (.un op)
  | .convert src dst x => if okT P src then (match P.underlying dst, axOf P 0 x with | some (.int k), some x => some (.conv k x) | _, _ => none) else none
  | .makeSlice t l c =>
    match elemT P t with
    | some e =>
      match zeroC P e, axOf P 0 l, axOf P 0 c with
      | some z, some l, some c => if okT P e ∧ 1 ≤ P.bytesOf e then some (.make key e (P.cellsOf e) (P.bytesOf e) z l c) else none
      | _, _, _ => none
    | none => none
  | .slice t x lo hi mx =>
    match elemT P t, axOf P t x with
    | some e, some x =>
      match axO P lo, axO P hi, axO P mx with
      | some lo, some hi, some mx => if okT P e then some (.slice (P.cellsOf e) x lo hi mx) else none
      | _, _, _ => none
    | _, _ => none
  | .fieldAddr s x f =>
    match P.underlying s with
    | some (.struct fs) => match fs[f]?, axOf P 0 x with | some f, some x => if P.cellsOf f.type = 0 || !okT P f.type then none else some (.faddr f.offset x) | _, _ => none
    | _ => none
  | .field s x f =>
    match P.underlying s with
    | some (.struct fs) => match fs[f]?, axOf P s x with | some f, some x => if okT P f.type then some (.field f.offset (loadN P f.type) x) else none | _, _ => none
    | _ => none
  | .indexAddr t x i => match elemT P t, axOf P t x, axOf P 0 i with | some e, some x, some i => if okT P e then some (.iaddr (P.cellsOf e) x i) else none | _, _, _ => none
  | .extract x i => (axOf P 0 x).map fun x => .extract x i
  | .makeFunc (.func f) first caps => if first.size = 0 then (axs P [] caps.toList).map (.mkfn f) else none
  | .call c =>
    match c.callee with
    | .builtin .len =>
      match c.args.toList, c.argTypes[0]? with
      | [x], some t => match P.underlying t, axOf P t x with | some (.slice _), some x => some (.len x) | some .string, some x => some (.lens x) | _, _ => none
      | _, _ => none
    | .builtin .max =>
      match c.args.toList, c.argTypes.toList with
      | [x, y], [t, u] => match P.underlying t, P.underlying u, axOf P t x, axOf P u y with | some (.int _), some (.int _), some x, some y => some (.max x y) | _, _, _, _ => none
      | _, _ => none
    | .builtin .append =>
      match c.args.toList, c.argTypes.toList with
      | [s, x], [t, u] =>
        if t = u then
          match elemT P t, axOf P t s, axOf P t x with
          | some e, some s, some x => if okT P e ∧ 1 ≤ P.bytesOf e ∧ 1 ≤ P.cellsOf e ∧ ((zeroC P e).any fun z => z.length == P.cellsOf e) = true then (if isNilC s = true then some (.appn key e (P.cellsOf e) (P.bytesOf e) x) else some (.app key e (P.cellsOf e) (P.bytesOf e) s x)) else none
          | _, _, _ => none
        else none
      | _, _ => none
    | .value (.func f) =>
      match axs P c.argTypes.toList c.args.toList with
      | some as => match kindOf ks f with | some fresh => some (.call key f as fresh) | none => (match updOf ks f with | some (j, ty) => some (.ucall f j ty as) | none => some (.icall f as))
      | none => none
    | .value x => match axOf P 0 x, axs P c.argTypes.toList c.args.toList with | some x, some as => some (.ccall x as) | _, _ => none
    | _ => none
  | _ => none

def cGuard (ops : Array Oper) : Option (Nat × Bool) → Option (Option (Nat × Bool))
  | none => some none
  | some (j, want) => match (ops[j]?).bind (·.dst) with | some d => some (some (d, want)) | none => none

def cOps (ks : Kinds) (fid N : Nat) (ops : Array Oper) : List Oper → Option (List AI)
  | [] => some []
  | o :: r => match cOp P ks fid o, cGuard ops o.guard, cOps ks fid N ops r with | some a, some g, some l => if o.dst.all (· < N) = true then some (⟨o.dst, g, a⟩ :: l) else none | _, _, _ => none

def AOp.simple : AOp → Bool
  | .app .. | .icall .. | .ccall .. => false
  | _ => true

def AOp.mem : AOp → Bool
  | .box .. | .alloc .. | .bslice .. | .load .. | .store .. | .make .. | .slice .. | .iaddr .. | .call .. | .appn .. | .ucall .. => true
  | _ => false

def AOp.wr : AOp → Bool
  | .box .. | .alloc .. | .store .. | .make .. | .call _ _ _ true | .appn .. | .ucall .. => true
  | _ => false

/-- Bit i of row j: operation i comes before operation j in whatever order. -/
def befores (ops : Array Oper) : List Nat := (Region.before ops).toList

def unordered (ops : Array Oper) (i j : Nat) : Bool := !((befores ops).getD j 0).testBit i

/-- The pairs of operations that may come in either order, the first 'n' alone. -/
def openPairs (ops : Array Oper) (n : Nat) : List (Nat × Nat) :=
  (List.range n).flatMap fun j => ((List.range j).filter fun i => unordered ops i j).map fun i => (i, j)

/-- The operands of an operation. -/
def AOp.axs : AOp → List AX
  | .mv x => [x]
  | .pick c a b => [c, a, b]
  | .box _ _ _ x => [x]
  | .alloc .. => []
  | .build _ parts => parts.map (·.2.2)
  | .bslice _ _ _ _ parts => parts.map (·.2)
  | .load _ x => [x]
  | .store _ x v => [x, v]
  | .nilchk x => [x]
  | .bin _ x y => [x, y]
  | .binb _ x y => [x, y]
  | .un _ x => [x]
  | .conv _ x => [x]
  | .make _ _ _ _ _ l c => [l, c]
  | .slice _ x lo hi mx => x :: (lo.toList ++ hi.toList ++ mx.toList)
  | .faddr _ x => [x]
  | .field _ _ x => [x]
  | .iaddr _ x i => [x, i]
  | .len x => [x]
  | .lens x => [x]
  | .max x y => [x, y]
  | .extract x _ => [x]
  | .mkfn _ caps => caps
  | .call _ _ args _ => args
  | .appn _ _ _ _ x => [x]
  | .ucall _ _ _ args => args
  | .app _ _ _ _ s x => [s, x]
  | .icall _ args => args
  | .ccall x args => x :: args

def slotsOf : List AX → List Nat
  | [] => []
  | .t n :: r => n :: slotsOf r
  | .c _ :: r => slotsOf r

def AI.looks (i : AI) : List Nat := match i.g with | some (g, _) => g :: slotsOf i.op.axs | none => slotsOf i.op.axs

/-- Neither looks at what the other writes. -/
def AI.apartS (x y : AI) : Bool :=
  (match x.d with | some d => !y.looks.contains d && y.d != some d | none => true) && (match y.d with | some d => !x.looks.contains d | none => true)

/-- What the order of a region leaves open is open for its first 'm' operations alone, and these are apart by slots. -/
def drawOk (ops : Array Oper) (b : List Nat) (l : List AI) (m : Nat) : Bool :=
  (List.range ops.size).all fun j =>
    match ops[j]? with
    | none => false
    | some o =>
      (o.after.toList.all fun e => !Region.binds .any e || decide (e.on < j)) &&
      (List.range j).all fun i =>
        if (b.getD j 0).testBit i then o.after.toList.any fun e => Region.binds .any e && (e.on == i || (decide (i < e.on) && (b.getD e.on 0).testBit i))
        else decide (j < m) && match l[i]?, l[j]? with | some x, some y => x.apartS y | _, _ => false

/-- Both touch memory, and one of them writes. -/
def mayClash (l : List AI) (p : Nat × Nat) : Bool :=
  match l[p.1]?, l[p.2]? with
  | some a, some b => a.op.mem && b.op.mem && (a.op.wr || b.op.wr)
  | _, _ => true

def cCode (ks : Kinds) (fid N : Nat) : Code → Option ACode
  | .skip => some .skip
  | .region _ ops draw =>
    match cOps P ks fid N ops ops.toList with
    | some l =>
      if draw then
        if drawOk ops (befores ops) l (l.takeWhile (·.op.simple)).length = true then
          some (.reg ((openPairs ops (l.takeWhile (·.op.simple)).length).filter (mayClash l)) (l.takeWhile (·.op.simple)) (l.drop (l.takeWhile (·.op.simple)).length))
        else none
      else some (.reg [] l [])
    | none => none
  | .seq a b => match cCode ks fid N a, cCode ks fid N b with | some a, some b => some (.seq a b) | _, _ => none
  | .cond c a b => match axOf P 0 c, cCode ks fid N a, cCode ks fid N b with | some c, some a, some b => some (.cond c a b) | _, _, _ => none
  | .block id c => (cCode ks fid N c).map (.block none id)
  | .loop c => (cCode ks fid N c).map (.loop { slots := [] })
  | .exit id => some (.exit id)
  | .ret => some (.ret none)
  | _ => none

def ACode.erase : ACode → ACode
  | .seq a b => .seq a.erase b.erase
  | .cond c a b => .cond c a.erase b.erase
  | .block _ id c => .block none id c.erase
  | .ret _ => .ret none
  | .loop _ c => .loop { slots := [] } c.erase
  | c => c

def cRes : ResultVar → ARes
  | .tmp t => .tmp t
  | .cell a t => .cell a (loadN P t)

def resOk : ResultVar → Bool
  | .tmp _ => true
  | .cell _ t => okT P t

def cFun (ks : Kinds) (fid : FuncId) : Option AFun :=
  match P.funcs[fid]? with
  | some fn =>
    match fn.body with
    | some c =>
      match cCode P ks fid fn.ntmps c with
      | some a => if fn.results.toList.all (resOk P) = true ∧ (fn.name == "runtime.NumGoroutine") = false then some { params := fn.params.size + fn.nfree, code := a, results := fn.results.toList.map (cRes P) } else none
      | none => none
    | none => none
  | none => none

/-- The function's text is the evaluator's. -/
def IsFun (ks : Kinds) (f : FuncId) (F : AFun) : Prop := (cFun P ks f).map (fun x => (x.code, x.results)) = some (F.code.erase, F.results)

end
end Go.Ev
