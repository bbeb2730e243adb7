/-
  The evaluator: abstract values (data by value, the call's own rows by number), the operations as they are evaluated, and the evaluation itself. Definitions alone.
-/
import Derived.Orders
import Derived.LoopN
import Derived.Below
import Derived.Laws.AppendOwn
import Derived.Laws.MakeOwn
import Derived.Laws.OwnMore
namespace Go.Ev
open Go


/-- Abstract values: 'imm', 'ref': memory that nobody writes any more, by what it holds; 'ptr', 'sl': into a row of the call's own. -/
inductive AV where
  | undef
  | int (k : IntKind) (n : Int)
  | bool (b : Bool)
  | str (s : ByteArray)
  | nilp
  | imm (nl : Bool) (sz : Nat) (es : List (List AV))
  | ref (cs : List AV)
  | agg (cs : List AV)
  | tup (vs : List AV)
  | ptr (o : Nat) (i off : Nat)
  | sl (o : Nat) (i n : Nat)
  | fn (f : FuncId) (caps : List AV)
  deriving Inhabited

def AV.isCell : AV → Bool
  | .undef | .agg _ | .tup _ | .fn _ _ => false
  | _ => true

def AV.cells : AV → List AV
  | .agg cs => cs
  | v => [v]

mutual
def AV.keys : AV → List Nat
  | .ptr o _ _ => [o]
  | .sl o _ _ => [o]
  | .agg cs => AV.keysL cs
  | .tup cs => AV.keysL cs
  | .fn _ cs => AV.keysL cs
  | _ => []
def AV.keysL : List AV → List Nat
  | [] => []
  | v :: vs => v.keys ++ AV.keysL vs
end

mutual
/-- What names one of these rows is forgotten. -/
def AV.scrub (ks : List Nat) : AV → AV
  | .ptr o i off => if ks.contains o then .undef else .ptr o i off
  | .sl o i n => if ks.contains o then .undef else .sl o i n
  | .agg cs => .agg (AV.scrubL ks cs)
  | .tup cs => .tup (AV.scrubL ks cs)
  | .fn f cs => .fn f (AV.scrubL ks cs)
  | v => v
def AV.scrubL (ks : List Nat) : List AV → List AV
  | [] => []
  | v :: vs => v.scrub ks :: AV.scrubL ks vs
end

/-- A row of the call's own: the size of an element in cells, its type, its elements; 'refs' bounds the rows that its cells name. -/
structure Obj where
  sz : Nat
  ty : TypeId
  es : List (List AV)
  refs : List Nat

/-- The state by look-ups. -/
structure St where
  slot : Nat → AV
  heap : Nat → Option Obj
  frz : Nat → Bool

inductive AX where
  | t (n : Nat)
  | c (v : AV)

def St.ev (S : St) : AX → AV
  | .t n => S.slot n
  | .c v => v

inductive AOp where
  | mv (x : AX)
  | pick (c a b : AX)
  | box (k : Nat) (e : TypeId) (n : Nat) (x : AX)
  | alloc (k : Nat) (e : TypeId) (z : List AV)
  | build (z : List AV) (parts : List (Nat × Nat × AX))
  | bslice (e : TypeId) (sz len : Nat) (z : List AV) (parts : List (Nat × AX))
  | load (n : Option Nat) (x : AX)
  | store (n : Nat) (x v : AX)
  | nilchk (x : AX)
  | bin (op : BinOp) (x y : AX)
  | binb (op : BinOp) (x y : AX)
  | un (op : UnOp) (x : AX)
  | conv (k : IntKind) (x : AX)
  | make (k : Nat) (e : TypeId) (sz bytes : Nat) (z : List AV) (l c : AX)
  | slice (sz : Nat) (x : AX) (lo hi mx : Option AX)
  | faddr (off : Nat) (x : AX)
  | field (off : Nat) (n : Option Nat) (x : AX)
  | iaddr (sz : Nat) (x i : AX)
  | len (x : AX)
  | lens (x : AX)
  | max (x y : AX)
  | extract (x : AX) (i : Nat)
  | mkfn (f : FuncId) (caps : List AX)
  | call (k : Nat) (f : FuncId) (args : List AX) (fresh : Bool)
  | appn (k : Nat) (e : TypeId) (sz bytes : Nat) (x : AX)
  | ucall (f : FuncId) (j : Nat) (ty : TypeId) (args : List AX)
  | app (k : Nat) (e : TypeId) (sz bytes : Nat) (s x : AX)
  | icall (f : FuncId) (args : List AX)
  | ccall (x : AX) (args : List AX)

structure AI where
  d : Option Nat
  g : Option (Nat × Bool)
  op : AOp

/-- 'acc': the rows on which the operation hangs; 'ups' and 'frz' name some of these alone. -/
structure Eff where
  val : AV
  ups : List (Nat × Obj) := []
  frz : List Nat := []
  acc : List Nat := []

/-- What a pure callee gives: its value, and the fresh rows that come with it (by numbers from 0 on). -/
structure PRes where
  val : AV
  objs : List Obj := []

abbrev Pure := FuncId → List AV → Option PRes

/-! ### What operations give -/

def binI (op : BinOp) (k : IntKind) (a : Int) (k' : IntKind) (b : Int) : Option AV :=
  match op with
  | .shl => if b < 0 then none else some (.int k (k.wrap (a * 2 ^ (min b.toNat k.bits))))
  | .shr => if b < 0 then none else some (.int k (a.fdiv (2 ^ (min b.toNat k.bits))))
  | .add => if k = k' then some (.int k (k.wrap (a + b))) else none
  | .sub => if k = k' then some (.int k (k.wrap (a - b))) else none
  | .mul => if k = k' then some (.int k (k.wrap (a * b))) else none
  | .quo => if k = k' then (if b = 0 then none else some (.int k (k.wrap (a.tdiv b)))) else none
  | .rem => if k = k' then (if b = 0 then none else some (.int k (a.tmod b))) else none
  | .and => if k = k' then some (.int k (k.wrap (BitVec.ofInt k.bits a &&& BitVec.ofInt k.bits b).toNat)) else none
  | .or => if k = k' then some (.int k (k.wrap (BitVec.ofInt k.bits a ||| BitVec.ofInt k.bits b).toNat)) else none
  | .xor => if k = k' then some (.int k (k.wrap (BitVec.ofInt k.bits a ^^^ BitVec.ofInt k.bits b).toNat)) else none
  | .andNot => if k = k' then some (.int k (k.wrap (BitVec.ofInt k.bits a &&& ~~~BitVec.ofInt k.bits b).toNat)) else none
  | .eql => if k = k' then some (.bool (a == b)) else none
  | .neq => if k = k' then some (.bool (a != b)) else none
  | .lss => if k = k' then some (.bool (decide (a < b))) else none
  | .leq => if k = k' then some (.bool (decide (a ≤ b))) else none
  | .gtr => if k = k' then some (.bool (decide (a > b))) else none
  | .geq => if k = k' then some (.bool (decide (a ≥ b))) else none

def binB (op : BinOp) (a b : Bool) : Option AV :=
  match op with
  | .eql => some (.bool (a == b))
  | .neq => some (.bool (!(a == b)))
  | _ => none

def binE (op : BinOp) : AV → AV → Option AV
  | .int k a, .int k' b => binI op k a k' b
  | _, _ => none

def binbE (op : BinOp) : AV → AV → Option AV
  | .bool a, .bool b => binB op a b
  | _, _ => none

def unE (op : UnOp) : AV → Option AV
  | .int k n =>
    match op with
    | .neg => some (.int k (k.wrap (0 - n)))
    | .xor => some (.int k (k.wrap (BitVec.ofInt k.bits (if k.signed then -1 else k.max) ^^^ BitVec.ofInt k.bits n).toNat))
    | _ => none
  | .bool b =>
    match op with
    | .not => some (.bool !b)
    | _ => none
  | _ => none

/-- The cells from a pointer on. -/
def St.at (S : St) : AV → Option (List AV)
  | .ref cs => some cs
  | .ptr o i off =>
    match S.heap o with
    | some ob =>
      match ob.es[i]? with
      | some cs => some (cs.drop off)
      | none => none
    | none => none
  | _ => none

def splice (cs : List AV) (off : Nat) (new : List AV) : List AV := cs.take off ++ new ++ cs.drop (off + new.length)

def fillA (cells : List AV) : List (Nat × Nat × AV) → Option (List AV)
  | [] => some cells
  | (off, size, v) :: rest =>
    if v.cells.length = size ∧ off + size ≤ cells.length ∧ v.cells.all AV.isCell = true then fillA (splice cells off v.cells) rest else none

def mapO {α β : Type} (f : α → Option (β × List Nat)) : List α → Option (List β × List Nat)
  | [] => some ([], [])
  | x :: r =>
    match f x with
    | some (b, ks) =>
      match mapO f r with
      | some (bs, ks') => some (b :: bs, ks ++ ks')
      | none => none
    | none => none

/-- Data behind rows, by value; and the rows that were read. 'd': how deep. -/
def fz (H : Nat → Option Obj) : Nat → AV → Option (AV × List Nat)
  | 0, _ => none
  | d + 1, .sl o i n =>
    match H o with
    | some ob =>
      if i + n ≤ ob.es.length then
        if ob.refs = [] then some (.imm false ob.sz ((ob.es.drop i).take n), [o])
        else
          match mapO (mapO (fz H d)) ((ob.es.drop i).take n) with
          | some (es, ks) => some (.imm false ob.sz es, o :: ks)
          | none => none
      else none
    | none => none
  | d + 1, .ptr o i off =>
    match H o with
    | some ob =>
      match ob.es[i]? with
      | some cs =>
        if ob.refs = [] then some (.ref (cs.drop off), [o])
        else
          match mapO (fz H d) (cs.drop off) with
          | some (cs', ks) => some (.ref cs', o :: ks)
          | none => none
      | none => none
    | none => none
  | d + 1, .agg cs =>
    match mapO (fz H d) cs with
    | some (cs', ks) => some (.agg cs', ks)
    | none => none
  | _ + 1, .tup _ => none
  | _ + 1, .fn _ _ => none
  | _ + 1, v => some (v, [])

def fzL (H : Nat → Option Obj) : List AV → Option (List AV × List Nat) := mapO (fz H 8)
def fzLL (H : Nat → Option Obj) : List (List AV) → Option (List (List AV) × List Nat) := mapO (mapO (fz H 8))

/-! ### Renaming of the fresh rows of a callee -/

mutual
def AV.rk (b : Nat) : AV → AV
  | .ptr o i off => .ptr (b + o) i off
  | .sl o i n => .sl (b + o) i n
  | .agg cs => .agg (AV.rkL b cs)
  | .tup cs => .tup (AV.rkL b cs)
  | .fn f cs => .fn f (AV.rkL b cs)
  | v => v
def AV.rkL (b : Nat) : List AV → List AV
  | [] => []
  | v :: vs => v.rk b :: AV.rkL b vs
end

def Obj.rk (b : Nat) (o : Obj) : Obj := if o.refs = [] then o else { o with es := o.es.map (AV.rkL b), refs := o.refs.map (b + ·) }

def shiftObjs (b : Nat) : Nat → List Obj → List (Nat × Obj)
  | _, [] => []
  | j, o :: os => (b + j, o.rk b) :: shiftObjs b (j + 1) os

/-- None of these keys is taken. -/
def freeKeys (H : Nat → Option Obj) : List (Nat × Obj) → Bool
  | [] => true
  | (k, _) :: r => (H k).isNone && freeKeys H r

/-! ### The effect of an operation without a call of a body, without append -/

def setPart (es : List (List AV)) : List (Nat × List AV) → List (List AV)
  | [] => es
  | (i, cs) :: r => setPart (es.set i cs) r

/-- The elements that are appended. -/
def appended (H : Nat → Option Obj) (sz : Nat) : AV → Option (List (List AV))
  | .imm _ sz' es => if sz' = sz ∨ es = [] then some es else none
  | .sl o i n =>
    match H o with
    | some ob => if ob.sz = sz ∧ i + n ≤ ob.es.length then some ((ob.es.drop i).take n) else none
    | none => none
  | _ => none

def keysLL : List (List AV) → List Nat
  | [] => []
  | cs :: r => AV.keysL cs ++ keysLL r

def eff (G : Pure) (op : AOp) (S : St) : Option Eff :=
  match op with
  | .mv x => some { val := S.ev x }
  | .pick c a b =>
    match S.ev c with
    | .bool t => some { val := if t = true then S.ev a else S.ev b }
    | _ => none
  | .box k e n x =>
    match S.heap k with
    | none =>
      if (S.ev x).cells.length = n ∧ (S.ev x).cells.all AV.isCell = true then
        some { val := .ptr k 0 0, ups := [(k, { sz := n, ty := e, es := [(S.ev x).cells], refs := AV.keysL (S.ev x).cells })], acc := [k] }
      else none
    | some _ => none
  | .alloc k e z =>
    match S.heap k with
    | none => some { val := .ptr k 0 0, ups := [(k, { sz := z.length, ty := e, es := [z], refs := [] })], acc := [k] }
    | some _ => none
  | .build z parts =>
    match fillA z (parts.map fun p => (p.1, p.2.1, S.ev p.2.2)) with
    | some cs => some { val := .agg cs }
    | none => none
  | .bslice _ sz len z parts =>
    if (parts.map fun p => (S.ev p.2).cells).all (fun cs => decide (cs.length = sz) && cs.all AV.isCell) = true ∧ (parts.all fun p => decide (p.1 < len)) = true ∧ z.length = sz then
      match fzLL S.heap (setPart (List.replicate len z) (parts.map fun p => (p.1, (S.ev p.2).cells))) with
      | some (es, ks) => some { val := .imm false sz es, frz := ks, acc := ks }
      | none => none
    else none
  | .load none x =>
    match S.at (S.ev x) with
    | some (c :: _) => some { val := c, acc := (S.ev x).keys }
    | _ => none
  | .load (some n) x =>
    match S.at (S.ev x) with
    | some cs => if n ≤ cs.length then some { val := .agg (cs.take n), acc := (S.ev x).keys } else none
    | none => none
  | .store n x v =>
    match S.ev x with
    | .ptr o i off =>
      match S.heap o with
      | some ob =>
        match ob.es[i]? with
        | some cs =>
          if S.frz o = false ∧ (S.ev v).cells.length = n ∧ off + n ≤ cs.length ∧ (S.ev v).cells.all AV.isCell = true then
            some { val := .undef, ups := [(o, { ob with es := ob.es.set i (splice cs off (S.ev v).cells), refs := AV.keysL (S.ev v).cells ++ ob.refs })], acc := [o] }
          else none
        | none => none
      | none => none
    | _ => none
  | .nilchk x =>
    match S.ev x with
    | .ptr o i off => some { val := .ptr o i off }
    | .ref cs => some { val := .ref cs }
    | .fn f cs => some { val := .fn f cs }
    | _ => none
  | .bin op x y =>
    match binE op (S.ev x) (S.ev y) with
    | some v => some { val := v }
    | none => none
  | .binb op x y =>
    match binbE op (S.ev x) (S.ev y) with
    | some v => some { val := v }
    | none => none
  | .un op x =>
    match unE op (S.ev x) with
    | some v => some { val := v }
    | none => none
  | .conv k x =>
    match S.ev x with
    | .int _ n => some { val := .int k (k.wrap n) }
    | _ => none
  | .make k e sz bytes z l c =>
    match S.heap k with
    | none =>
      match S.ev l, S.ev c with
      | .int _ n, .int _ m =>
        if n = m ∧ 0 ≤ n ∧ n * bytes ≤ 140737488355328 ∧ z.length = sz then
          some { val := .sl k 0 n.toNat, ups := [(k, { sz := sz, ty := e, es := List.replicate n.toNat z, refs := [] })], acc := [k] }
        else none
      | _, _ => none
    | some _ => none
  | .slice sz x lo hi mx =>
    match S.ev x, (lo.map S.ev).getD (.int .i64 0) with
    | .imm nl sz' es, .int _ l =>
      match (hi.map S.ev).getD (.int .i64 es.length), (mx.map S.ev).getD (.int .i64 es.length) with
      | .int _ h, .int _ m =>
        if sz' = sz ∧ 0 ≤ l ∧ l ≤ h ∧ h ≤ m ∧ m ≤ es.length ∧ (mx.isSome = true → hi.isSome = true) then some { val := .imm nl sz ((es.take h.toNat).drop l.toNat) } else none
      | _, _ => none
    | .sl o i n, .int _ l =>
      match S.heap o, (hi.map S.ev).getD (.int .i64 n), (mx.map S.ev).getD (.int .i64 n) with
      | some ob, .int _ h, .int _ m =>
        if ob.sz = sz ∧ 0 ≤ l ∧ l ≤ h ∧ h ≤ m ∧ m ≤ n ∧ mx.isSome = false then
          some { val := if l < h then .sl o (i + l.toNat) (h - l).toNat else .imm false sz [], acc := [o] }
        else none
      | _, _, _ => none
    | _, _ => none
  | .faddr off x =>
    match S.ev x with
    | .ref cs => some { val := .ref (cs.drop off) }
    | .ptr o i f => some { val := .ptr o i (f + off) }
    | _ => none
  | .field off none x =>
    match S.ev x with
    | .agg cs =>
      match cs[off]? with
      | some v => some { val := v }
      | none => none
    | _ => none
  | .field off (some n) x =>
    match S.ev x with
    | .agg cs => if off + n ≤ cs.length then some { val := .agg ((cs.drop off).take n) } else none
    | _ => none
  | .iaddr sz x i =>
    match S.ev x, S.ev i with
    | .imm _ sz' es, .int _ n =>
      match es[n.toNat]? with
      | some cs => if sz' = sz ∧ 0 ≤ n then some { val := .ref cs } else none
      | none => none
    | .sl o i0 len, .int _ n =>
      match S.heap o with
      | some ob => if ob.sz = sz ∧ 0 ≤ n ∧ n < len then some { val := .ptr o (i0 + n.toNat) 0, acc := [o] } else none
      | none => none
    | _, _ => none
  | .len x =>
    match S.ev x with
    | .imm _ _ es => some { val := .int .i64 es.length }
    | .sl _ _ n => some { val := .int .i64 n }
    | _ => none
  | .lens x =>
    match S.ev x with
    | .str s => some { val := .int .i64 s.size }
    | _ => none
  | .max x y =>
    match S.ev x, S.ev y with
    | .int k a, .int k' b => if k = k' then some { val := .int k (if a < b then b else a) } else none
    | _, _ => none
  | .extract x i =>
    match S.ev x with
    | .tup vs =>
      match vs[i]? with
      | some v => some { val := v }
      | none => none
    | _ => none
  | .mkfn f caps => some { val := .fn f (caps.map S.ev) }
  | .call k f args fresh =>
    match fzL S.heap (args.map S.ev) with
    | some (as, ks) =>
      match G f as with
      | some r =>
        if fresh = true then
          if freeKeys S.heap (shiftObjs k 0 r.objs) = true then some { val := r.val.rk k, ups := shiftObjs k 0 r.objs, frz := ks, acc := ks ++ (shiftObjs k 0 r.objs).map (·.1) } else none
        else if r.objs = [] then some { val := r.val, frz := ks, acc := ks } else none
      | none => none
    | none => none
  | .appn k e sz bytes x =>
    match S.heap k with
    | none =>
      match appended S.heap sz (S.ev x) with
      | some news =>
        if news.all (fun cs => decide (cs.length = sz) && cs.all AV.isCell) = true ∧ news.length * bytes ≤ 140737488355328 ∧ S.frz k = false then
          some { val := .sl k 0 news.length, ups := [(k, { sz := sz, ty := e, es := news, refs := keysLL news })], acc := k :: (S.ev x).keys }
        else none
      | none => none
    | some _ => none
  | .ucall f j ty args =>
    match (args.map S.ev)[j]? with
    | some (.sl o 0 n) =>
      match S.heap o with
      | some ob =>
        if n = ob.es.length ∧ ob.es ≠ [] ∧ ob.refs = [] ∧ ob.ty = ty ∧ S.frz o = false then
          match fzL S.heap ((args.map S.ev).set j (.imm false ob.sz ob.es)) with
          | some (as, ks) =>
            match G f as with
            | some r =>
              match r.objs with
              | [ob'] => if ks.contains o = false then some { val := r.val, ups := [(o, { ob with es := ob'.es })], frz := ks, acc := o :: ks } else none
              | _ => none
            | none => none
          | none => none
        else none
      | none => none
    | _ => none
  | .app .. | .icall .. | .ccall .. => none

/-! ### The state by lists, and the evaluation -/

def aget {α : Type} (dflt : α) : List (Nat × α) → Nat → α
  | [], _ => dflt
  | (k, v) :: r, t => if k = t then v else aget dflt r t

def afind {α : Type} : List (Nat × α) → Nat → Option α
  | [], _ => none
  | (k, v) :: r, t => if k = t then some v else afind r t

def aput {α : Type} : List (Nat × α) → Nat → α → List (Nat × α)
  | [], t, v => [(t, v)]
  | (k, u) :: r, t, v => if k = t then (k, v) :: r else (k, u) :: aput r t v

def adel {α : Type} : List (Nat × α) → List Nat → List (Nat × α)
  | [], _ => []
  | (k, u) :: r, ks => if ks.contains k then adel r ks else (k, u) :: adel r ks

structure SL where
  slots : List (Nat × AV)
  heap : List (Nat × Obj)
  frz : List Nat
  own : List Nat
  reb : List Nat

def SL.den (s : SL) : St := { slot := aget .undef s.slots, heap := afind s.heap, frz := fun k => s.frz.contains k }

def putD (slots : List (Nat × AV)) : Option Nat → AV → List (Nat × AV)
  | none, _ => slots
  | some d, v => aput slots d v

def putUps (heap : List (Nat × Obj)) : List (Nat × Obj) → List (Nat × Obj)
  | [] => heap
  | (k, o) :: r => putUps (aput heap k o) r

def newKeys (heap : List (Nat × Obj)) (own : List Nat) : List (Nat × Obj) → List Nat
  | [] => own
  | (k, _) :: r => match afind heap k with
    | none => k :: newKeys heap own r
    | some _ => newKeys heap own r

def SL.apply (s : SL) (d : Option Nat) (e : Eff) : SL :=
  { slots := putD s.slots d e.val, heap := putUps s.heap e.ups, frz := e.frz ++ s.frz, own := newKeys s.heap s.own e.ups, reb := s.reb }

/-- What an inlined call gives: its value, the heap behind it, and the rows whose place may have turned (what names them is forgotten). -/
structure IRes where
  val : AV
  heap : List (Nat × Obj)
  frz : List Nat
  own : List Nat
  scr : List Nat

abbrev Inl := FuncId → List AV → List (Nat × Obj) → List Nat → Option IRes

def scrubHeap (ks : List Nat) : List (Nat × Obj) → List (Nat × Obj)
  | [] => []
  | (k, o) :: r => (k, if o.refs.any ks.contains = true then { o with es := o.es.map (AV.scrubL ks), refs := o.refs.filter fun x => !ks.contains x } else o) :: scrubHeap ks r

def scrubSlots (ks : List Nat) : List (Nat × AV) → List (Nat × AV)
  | [] => []
  | (t, v) :: r => (t, v.scrub ks) :: scrubSlots ks r

def stepApp (k : Nat) (e : TypeId) (sz bytes : Nat) (x y : AV) (s : SL) (d : Option Nat) : Option SL :=
  match appended s.den.heap sz y with
  | some news =>
    if news.all (fun cs => decide (cs.length = sz) && cs.all AV.isCell) = true then
      match x with
      | .imm true _ [] =>
        match afind s.heap k with
        | none =>
          if news.length * bytes ≤ 140737488355328 ∧ s.frz.contains k = false then
            some { slots := putD s.slots d (.sl k 0 news.length), heap := aput s.heap k { sz := sz, ty := e, es := news, refs := keysLL news }, frz := s.frz, own := k :: s.own, reb := s.reb }
          else none
        | some _ => none
      | .sl o 0 n =>
        match afind s.heap o with
        | some ob =>
          if n = ob.es.length ∧ ob.sz = sz ∧ ob.ty = e ∧ s.frz.contains o = false ∧ (n + news.length) * bytes ≤ 140737488355328 ∧ (keysLL news).contains o = false ∧ ob.refs.contains o = false then
            some { slots := putD (scrubSlots [o] s.slots) d (.sl o 0 (n + news.length)),
                   heap := aput (scrubHeap [o] s.heap) o { ob with es := ob.es ++ news, refs := keysLL news ++ ob.refs }, frz := s.frz, own := s.own, reb := o :: s.reb }
          else none
        | none => none
      | _ => none
    else none
  | none => none

def stepInl (r : Option IRes) (s : SL) (d : Option Nat) : Option SL :=
  match r with
  | some r => some { slots := putD (scrubSlots r.scr s.slots) d r.val, heap := r.heap, frz := r.frz, own := r.own ++ s.own, reb := r.scr ++ s.reb }
  | none => none

def applyO (s : SL) (d : Option Nat) : Option Eff → Option SL
  | some e => some (s.apply d e)
  | none => none

def stepGo (G : Pure) (ic : Inl) (d : Option Nat) (op : AOp) (s : SL) : Option SL :=
  match op with
  | .app k e sz bytes x y => stepApp k e sz bytes (s.den.ev x) (s.den.ev y) s d
  | .icall f args => stepInl (ic f (args.map s.den.ev) s.heap s.frz) s d
  | .ccall x args =>
    match s.den.ev x with
    | .fn f caps => stepInl (ic f (args.map s.den.ev ++ caps) s.heap s.frz) s d
    | _ => none
  | op => applyO s d (eff G op s.den)

def stepL (G : Pure) (ic : Inl) (i : AI) (s : SL) : Option SL :=
  match i.g with
  | none => stepGo G ic i.d i.op s
  | some (g, want) =>
    match s.den.slot g with
    | .bool b => if b = want then stepGo G ic i.d i.op s else some { s with slots := putD s.slots i.d .undef }
    | _ => none

inductive AExit where
  | normal
  | exit (id : Nat)
  | ret

abbrev Out := Option (AExit × SL)

def runL (G : Pure) (ic : Inl) : List AI → SL → Option SL
  | [], s => some s
  | i :: r, s =>
    match stepL G ic i s with
    | some s' => runL G ic r s'
    | none => none

/-- The rows on which an operation hangs, and those that it writes. -/
def logOf (G : Pure) (i : AI) (s : SL) : List Nat × List Nat :=
  match eff G i.op s.den with
  | some e => (e.acc, e.ups.map (·.1))
  | none => ([], [])

abbrev Logs := List (List Nat × List Nat)

def logL (G : Pure) (ic : Inl) : List AI → Logs → SL → Option (Logs × SL)
  | [], l, s => some (l, s)
  | i :: r, l, s =>
    match stepL G ic i s with
    | some s' => logL G ic r (l ++ [logOf G i s]) s'
    | none => none

def apartKeys (x y : List Nat × List Nat) : Bool := x.2.all (fun k => !y.1.contains k) && y.2.all (fun k => !x.1.contains k)

def pairsOk (logs : Logs) : List (Nat × Nat) → Bool
  | [] => true
  | (i, j) :: r =>
    match logs[i]?, logs[j]? with
    | some x, some y => apartKeys x y && pairsOk logs r
    | _, _ => false

def pairsO (ps : List (Nat × Nat)) : Option (Logs × SL) → Option SL
  | some (l, s) => if pairsOk l ps = true then some s else none
  | none => none

/-- A region whose order is open: its first part is run with the log that shows that the order makes no difference. -/
def runP (G : Pure) (ic : Inl) (pre : List AI) (s : SL) : List (Nat × Nat) → Option SL
  | [] => runL G ic pre s
  | p :: ps => pairsO (p :: ps) (logL G ic pre [] s)

/-- Where ways meet: the slots that are kept, the rows that are dropped, the nil slices that become rows of the call's own. -/
structure Keep where
  slots : List Nat
  drops : List Nat := []
  adopt : List (Nat × Nat × TypeId × Nat) := []

inductive ACode where
  | skip
  | reg (pairs : List (Nat × Nat)) (pre post : List AI)
  | seq (a b : ACode)
  | cond (c : AX) (a b : ACode)
  | block (kp : Option Keep) (id : Nat) (body : ACode)
  | loop (kp : Keep) (body : ACode)
  | exit (id : Nat)
  | ret (kp : Option Keep)

def adoptL : List (Nat × Nat × TypeId × Nat) → SL → Option SL
  | [], s => some s
  | (t, k, e, sz) :: r, s =>
    match s.den.slot t with
    | .imm true _ [] =>
      match afind s.heap k with
      | none => adoptL r { s with slots := aput s.slots t (.sl k 0 0), heap := aput s.heap k { sz := sz, ty := e, es := [], refs := [] }, own := k :: s.own }
      | some _ => none
    | _ => adoptL r s

def keepSlots (f : Nat → AV) : List Nat → List (Nat × AV)
  | [] => []
  | t :: r => (t, f t) :: keepSlots f r

/-- No slot and no row that stays names a row that is dropped. -/
def dropOk (drops : List Nat) : List (Nat × AV) → Bool
  | [] => true
  | (_, v) :: r => v.keys.all (fun k => !drops.contains k) && dropOk drops r

def dropOkH (drops : List Nat) : List (Nat × Obj) → Bool
  | [] => true
  | (_, o) :: r => o.refs.all (fun k => !drops.contains k) && dropOkH drops r

def ownOk (own : List Nat) (heap : List (Nat × Obj)) : List Nat → Bool
  | [] => true
  | k :: r => (own.contains k || (afind heap k).isNone) && ownOk own heap r

def dropKeys (drops : List Nat) : List Nat → List Nat
  | [] => []
  | k :: r => if drops.contains k then dropKeys drops r else k :: dropKeys drops r

def keepL (kp : Keep) (s : SL) : Option SL :=
  match kp.drops with
  | [] => adoptL kp.adopt { slots := keepSlots s.den.slot kp.slots, heap := s.heap, frz := s.frz, own := s.own, reb := s.reb }
  | d :: ds =>
    if ownOk s.own s.heap (d :: ds) = true ∧ dropOk (d :: ds) (keepSlots s.den.slot kp.slots) = true ∧ dropOkH (d :: ds) (adel s.heap (d :: ds)) = true then
      adoptL kp.adopt { slots := keepSlots s.den.slot kp.slots, heap := adel s.heap (d :: ds), frz := dropKeys (d :: ds) s.frz, own := dropKeys (d :: ds) s.own, reb := s.reb }
    else none

def keepO : Option Keep → SL → Option SL
  | none, s => some s
  | some kp, s => keepL kp s

def outO (e : AExit) : Option SL → Out
  | some s => some (e, s)
  | none => none

def blockE (kp : Option Keep) (id : Nat) : Out → Out
  | some (.normal, s) => outO .normal (keepO kp s)
  | some (.exit id', s) => if id' = id then outO .normal (keepO kp s) else some (.exit id', s)
  | some (.ret, s) => some (.ret, s)
  | none => none

def iterF (kp : Keep) (f : SL → Out) : Nat → SL → Out
  | 0, _ => none
  | n + 1, s =>
    match f s with
    | some (.normal, s') =>
      match keepL kp s' with
      | some s'' => iterF kp f n s''
      | none => none
    | r => r

def evalC (G : Pure) (ic : Inl) (n : Nat) : ACode → SL → Out
  | .skip, s => some (.normal, s)
  | .reg pairs pre post, s =>
    match runP G ic pre s pairs with
    | some s' => outO .normal (runL G ic post s')
    | none => none
  | .seq a b, s =>
    match evalC G ic n a s with
    | some (.normal, s') => evalC G ic n b s'
    | r => r
  | .cond c a b, s =>
    match s.den.ev c with
    | .bool t => if t = true then evalC G ic n a s else evalC G ic n b s
    | _ => none
  | .block kp id c, s => blockE kp id (evalC G ic n c s)
  | .loop kp c, s =>
    match keepL kp s with
    | some s' => iterF kp (evalC G ic n c) n s'
    | none => none
  | .exit id, s => some (.exit id, s)
  | .ret kp, s => outO .ret (keepO kp s)

inductive ARes where
  | tmp (t : Nat)
  | cell (t : Nat) (n : Option Nat)

structure AFun where
  params : Nat
  code : ACode
  results : List ARes

def resOf (S : St) : ARes → Option AV
  | .tmp t => some (S.slot t)
  | .cell t n =>
    match S.at (S.slot t) with
    | some cs =>
      match n with
      | none => cs.head?
      | some n => if n ≤ cs.length then some (.agg (cs.take n)) else none
    | none => none

def resAll (S : St) : List ARes → Option (List AV)
  | [] => some []
  | r :: rs =>
    match resOf S r with
    | some v =>
      match resAll S rs with
      | some vs => some (v :: vs)
      | none => none
    | none => none

def packA : List AV → AV
  | [v] => v
  | vs => .tup vs

def argSlots : Nat → List AV → List (Nat × AV)
  | _, [] => []
  | j, v :: vs => (j, v) :: argSlots (j + 1) vs

/-- A function's end: its results, and the state that it leaves. -/
def endF (rs : List ARes) : Out → Option (List AV × SL)
  | some (.normal, s) =>
    match resAll s.den rs with
    | some vs => some (vs, s)
    | none => none
  | some (.ret, s) =>
    match resAll s.den rs with
    | some vs => some (vs, s)
    | none => none
  | _ => none

def runF (G : Pure) (ic : Inl) (n : Nat) (f : AFun) (args : List AV) (heap : List (Nat × Obj)) (frz : List Nat) : Option (List AV × SL) :=
  endF f.results (evalC G ic n f.code { slots := argSlots 0 args, heap := heap, frz := frz, own := [], reb := [] })

def dataO : Option (List AV × SL) → Option PRes
  | some (vs, s) =>
    match fzL s.den.heap vs with
    | some (vs', _) => some { val := packA vs' }
    | none => none
  | none => none

/-- A function that takes data and gives data. -/
def pureF (G : Pure) (ic : Inl) (n : Nat) (f : AFun) (args : List AV) : Option PRes := dataO (runF G ic n f args [] [])

/-! ### The equations of the evaluation -/

section
variable (G : Pure) (ic : Inl) (n : Nat)

def runO (r : List AI) : Option SL → Option SL
  | some s => runL G ic r s
  | none => none
def logO (r : List AI) (l : Logs) (x : List Nat × List Nat) : Option SL → Option (Logs × SL)
  | some s => logL G ic r (l ++ [x]) s
  | none => none
def regO (post : List AI) : Option SL → Out
  | some s => outO .normal (runL G ic post s)
  | none => none
def seqO (b : ACode) : Out → Out
  | some (.normal, s) => evalC G ic n b s
  | r => r
def iterK (kp : Keep) (c : ACode) (m : Nat) (s : SL) : Out := iterF kp (evalC G ic n c) m s
def loopO (kp : Keep) (c : ACode) (m : Nat) : Option SL → Out
  | some s => iterK G ic n kp c m s
  | none => none
def iterO (kp : Keep) (c : ACode) (m : Nat) : Out → Out
  | some (.normal, s) => loopO G ic n kp c m (keepL kp s)
  | r => r

theorem runL_nil (s : SL) : runL G ic [] s = some s := rfl
theorem runL_cons (i : AI) (r : List AI) (s : SL) : runL G ic (i :: r) s = runO G ic r (stepL G ic i s) := by cases h : stepL G ic i s <;> simp [runL, runO, h]
theorem runO_some (r : List AI) (s : SL) : runO G ic r (some s) = runL G ic r s := rfl
theorem runO_none (r : List AI) : runO G ic r none = none := rfl
theorem runO_ite (c : Prop) [Decidable c] (r : List AI) (x y : Option SL) : runO G ic r (if c then x else y) = if c then runO G ic r x else runO G ic r y := by split <;> rfl
theorem logL_nil (l : Logs) (s : SL) : logL G ic [] l s = some (l, s) := rfl
theorem logL_cons (i : AI) (r : List AI) (l : Logs) (s : SL) : logL G ic (i :: r) l s = logO G ic r l (logOf G i s) (stepL G ic i s) := by cases h : stepL G ic i s <;> simp [logL, logO, h]
theorem logO_some (r : List AI) (l : Logs) (x : List Nat × List Nat) (s : SL) : logO G ic r l x (some s) = logL G ic r (l ++ [x]) s := rfl
theorem logO_none (r : List AI) (l : Logs) (x : List Nat × List Nat) : logO G ic r l x none = none := rfl
theorem logO_ite (c : Prop) [Decidable c] (r : List AI) (l : Logs) (z : List Nat × List Nat) (x y : Option SL) : logO G ic r l z (if c then x else y) = if c then logO G ic r l z x else logO G ic r l z y := by split <;> rfl
theorem pairsO_some (ps : List (Nat × Nat)) (l : Logs) (s : SL) : pairsO ps (some (l, s)) = if pairsOk l ps = true then some s else none := rfl
theorem pairsO_none (ps : List (Nat × Nat)) : pairsO ps none = none := rfl
theorem pairsO_ite (c : Prop) [Decidable c] (ps : List (Nat × Nat)) (x y : Option (Logs × SL)) : pairsO ps (if c then x else y) = if c then pairsO ps x else pairsO ps y := by split <;> rfl
theorem runP_nil (pre : List AI) (s : SL) : runP G ic pre s [] = runL G ic pre s := rfl
theorem runP_cons (pre : List AI) (s : SL) (p : Nat × Nat) (ps : List (Nat × Nat)) : runP G ic pre s (p :: ps) = pairsO (p :: ps) (logL G ic pre [] s) := rfl
theorem applyO_some (s : SL) (d : Option Nat) (e : Eff) : applyO s d (some e) = some (s.apply d e) := rfl
theorem applyO_none (s : SL) (d : Option Nat) : applyO s d none = none := rfl
theorem applyO_ite (c : Prop) [Decidable c] (s : SL) (d : Option Nat) (x y : Option Eff) : applyO s d (if c then x else y) = if c then applyO s d x else applyO s d y := by split <;> rfl
theorem outO_some (e : AExit) (s : SL) : outO e (some s) = some (e, s) := rfl
theorem outO_none (e : AExit) : outO e none = none := rfl
theorem outO_ite (c : Prop) [Decidable c] (e : AExit) (x y : Option SL) : outO e (if c then x else y) = if c then outO e x else outO e y := by split <;> rfl
theorem regO_some (post : List AI) (s : SL) : regO G ic post (some s) = outO .normal (runL G ic post s) := rfl
theorem regO_none (post : List AI) : regO G ic post none = none := rfl
theorem regO_ite (c : Prop) [Decidable c] (post : List AI) (x y : Option SL) : regO G ic post (if c then x else y) = if c then regO G ic post x else regO G ic post y := by split <;> rfl
theorem seqO_normal (b : ACode) (s : SL) : seqO G ic n b (some (.normal, s)) = evalC G ic n b s := rfl
theorem seqO_exit (b : ACode) (id : Nat) (s : SL) : seqO G ic n b (some (.exit id, s)) = some (.exit id, s) := rfl
theorem seqO_ret (b : ACode) (s : SL) : seqO G ic n b (some (.ret, s)) = some (.ret, s) := rfl
theorem seqO_none (b : ACode) : seqO G ic n b none = none := rfl
theorem seqO_ite (c : Prop) [Decidable c] (b : ACode) (x y : Out) : seqO G ic n b (if c then x else y) = if c then seqO G ic n b x else seqO G ic n b y := by split <;> rfl
theorem blockE_normal (kp : Option Keep) (id : Nat) (s : SL) : blockE kp id (some (.normal, s)) = outO .normal (keepO kp s) := rfl
theorem blockE_exit (kp : Option Keep) (id id' : Nat) (s : SL) : blockE kp id (some (.exit id', s)) = if id' = id then outO .normal (keepO kp s) else some (.exit id', s) := rfl
theorem blockE_ret (kp : Option Keep) (id : Nat) (s : SL) : blockE kp id (some (.ret, s)) = some (.ret, s) := rfl
theorem blockE_none (kp : Option Keep) (id : Nat) : blockE kp id none = none := rfl
theorem blockE_ite (c : Prop) [Decidable c] (kp : Option Keep) (id : Nat) (x y : Out) : blockE kp id (if c then x else y) = if c then blockE kp id x else blockE kp id y := by split <;> rfl
theorem evalC_skip (s : SL) : evalC G ic n .skip s = some (.normal, s) := rfl
theorem evalC_reg (ps : List (Nat × Nat)) (pre post : List AI) (s : SL) : evalC G ic n (.reg ps pre post) s = regO G ic post (runP G ic pre s ps) := by cases h : runP G ic pre s ps <;> simp [evalC, regO, h]
theorem evalC_seq (a b : ACode) (s : SL) : evalC G ic n (.seq a b) s = seqO G ic n b (evalC G ic n a s) := by
  cases h : evalC G ic n a s with
  | none => simp [evalC, seqO, h]
  | some x => obtain ⟨e, s'⟩ := x; cases e <;> simp [evalC, seqO, h]
theorem evalC_cond (c : AX) (a b : ACode) (s : SL) : evalC G ic n (.cond c a b) s = match s.den.ev c with | .bool t => if t = true then evalC G ic n a s else evalC G ic n b s | _ => none := by simp only [evalC]
theorem evalC_block (kp : Option Keep) (id : Nat) (c : ACode) (s : SL) : evalC G ic n (.block kp id c) s = blockE kp id (evalC G ic n c s) := rfl
theorem evalC_loop (kp : Keep) (c : ACode) (s : SL) : evalC G ic n (.loop kp c) s = loopO G ic n kp c n (keepL kp s) := by cases h : keepL kp s <;> simp [evalC, loopO, iterK, h]
theorem evalC_exit (id : Nat) (s : SL) : evalC G ic n (.exit id) s = some (.exit id, s) := rfl
theorem evalC_ret (kp : Option Keep) (s : SL) : evalC G ic n (.ret kp) s = outO .ret (keepO kp s) := rfl
theorem loopO_some (kp : Keep) (c : ACode) (m : Nat) (s : SL) : loopO G ic n kp c m (some s) = iterK G ic n kp c m s := rfl
theorem loopO_none (kp : Keep) (c : ACode) (m : Nat) : loopO G ic n kp c m none = none := rfl
theorem iterK_succ (kp : Keep) (c : ACode) (m : Nat) (s : SL) : iterK G ic n kp c (m + 1) s = iterO G ic n kp c m (evalC G ic n c s) := by
  unfold iterK iterO
  simp only [iterF]
  cases h : evalC G ic n c s with
  | none => rfl
  | some x =>
    obtain ⟨e, s'⟩ := x
    cases e with
    | normal => simp only [loopO]; cases keepL kp s' <;> rfl
    | exit id => rfl
    | ret => rfl
theorem iterO_normal (kp : Keep) (c : ACode) (m : Nat) (s : SL) : iterO G ic n kp c m (some (.normal, s)) = loopO G ic n kp c m (keepL kp s) := rfl
theorem iterO_exit (kp : Keep) (c : ACode) (m id : Nat) (s : SL) : iterO G ic n kp c m (some (.exit id, s)) = some (.exit id, s) := rfl
theorem iterO_ret (kp : Keep) (c : ACode) (m : Nat) (s : SL) : iterO G ic n kp c m (some (.ret, s)) = some (.ret, s) := rfl
theorem iterO_none (kp : Keep) (c : ACode) (m : Nat) : iterO G ic n kp c m none = none := rfl
theorem iterO_ite (p : Prop) [Decidable p] (kp : Keep) (c : ACode) (m : Nat) (x y : Out) : iterO G ic n kp c m (if p then x else y) = if p then iterO G ic n kp c m x else iterO G ic n kp c m y := by split <;> rfl
theorem endF_ite (rs : List ARes) (c : Prop) [Decidable c] (x y : Out) : endF rs (if c then x else y) = if c then endF rs x else endF rs y := by split <;> rfl
theorem dataO_ite (c : Prop) [Decidable c] (x y : Option (List AV × SL)) : dataO (if c then x else y) = if c then dataO x else dataO y := by split <;> rfl
end
@[simp] theorem isCell_undef  : AV.isCell .undef = false := rfl
@[simp] theorem cells_undef  : AV.cells .undef = [.undef] := rfl
@[simp] theorem isCell_int (k : IntKind) (n : Int) : AV.isCell (.int k n) = true := rfl
@[simp] theorem cells_int (k : IntKind) (n : Int) : AV.cells (.int k n) = [(.int k n)] := rfl
@[simp] theorem isCell_bool (b : Bool) : AV.isCell (.bool b) = true := rfl
@[simp] theorem cells_bool (b : Bool) : AV.cells (.bool b) = [(.bool b)] := rfl
@[simp] theorem isCell_str (s : ByteArray) : AV.isCell (.str s) = true := rfl
@[simp] theorem cells_str (s : ByteArray) : AV.cells (.str s) = [(.str s)] := rfl
@[simp] theorem isCell_nilp  : AV.isCell .nilp = true := rfl
@[simp] theorem cells_nilp  : AV.cells .nilp = [.nilp] := rfl
@[simp] theorem isCell_imm (nl : Bool) (sz : Nat) (es : List (List AV)) : AV.isCell (.imm nl sz es) = true := rfl
@[simp] theorem cells_imm (nl : Bool) (sz : Nat) (es : List (List AV)) : AV.cells (.imm nl sz es) = [(.imm nl sz es)] := rfl
@[simp] theorem isCell_ref (cs : List AV) : AV.isCell (.ref cs) = true := rfl
@[simp] theorem cells_ref (cs : List AV) : AV.cells (.ref cs) = [(.ref cs)] := rfl
@[simp] theorem isCell_agg (cs : List AV) : AV.isCell (.agg cs) = false := rfl
@[simp] theorem cells_agg (cs : List AV) : AV.cells (.agg cs) = cs := rfl
@[simp] theorem isCell_tup (vs : List AV) : AV.isCell (.tup vs) = false := rfl
@[simp] theorem cells_tup (vs : List AV) : AV.cells (.tup vs) = [(.tup vs)] := rfl
@[simp] theorem isCell_ptr (o i off : Nat) : AV.isCell (.ptr o i off) = true := rfl
@[simp] theorem cells_ptr (o i off : Nat) : AV.cells (.ptr o i off) = [(.ptr o i off)] := rfl
@[simp] theorem isCell_sl (o i n : Nat) : AV.isCell (.sl o i n) = true := rfl
@[simp] theorem cells_sl (o i n : Nat) : AV.cells (.sl o i n) = [(.sl o i n)] := rfl
@[simp] theorem isCell_fn (f : FuncId) (cs : List AV) : AV.isCell (.fn f cs) = false := rfl
@[simp] theorem cells_fn (f : FuncId) (cs : List AV) : AV.cells (.fn f cs) = [(.fn f cs)] := rfl
theorem den_slot (s : SL) (t : Nat) : s.den.slot t = aget .undef s.slots t := rfl
theorem den_heap (s : SL) (k : Nat) : s.den.heap k = afind s.heap k := rfl
theorem den_frz (s : SL) (k : Nat) : s.den.frz k = s.frz.contains k := rfl
attribute [simp] den_slot den_heap den_frz
attribute [simp] runL_nil runL_cons runO_some runO_none runO_ite logL_nil logL_cons logO_some logO_none logO_ite pairsO_some pairsO_none pairsO_ite runP_nil runP_cons applyO_some applyO_none applyO_ite outO_some outO_none outO_ite
attribute [simp] regO_some regO_none regO_ite seqO_normal seqO_exit seqO_ret seqO_none seqO_ite blockE_normal blockE_exit blockE_ret blockE_none blockE_ite
attribute [simp] evalC_skip evalC_reg evalC_seq evalC_cond evalC_block evalC_loop evalC_exit evalC_ret loopO_some loopO_none iterO_normal iterO_exit iterO_ret iterO_none iterO_ite endF_ite dataO_ite
attribute [simp] stepL stepGo stepApp stepInl appended scrubHeap scrubSlots eff binE binbE binI binB unE St.at St.ev SL.apply aget afind aput adel putD putUps newKeys logOf apartKeys pairsOk
attribute [simp] adoptL keepSlots dropOk dropOkH ownOk dropKeys keepL keepO resOf resAll packA argSlots endF dataO AV.keys AV.keysL AV.scrub AV.scrubL AV.rk AV.rkL Obj.rk shiftObjs freeKeys setPart splice fillA keysLL mapO fz fzL fzLL

end Go.Ev
