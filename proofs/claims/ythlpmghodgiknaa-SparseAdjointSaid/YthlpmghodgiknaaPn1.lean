/- A part of the verified evaluator and of what the functions compute (joined by program). -/
import Derived.Orders
import Derived.LoopN
import Derived.Below
import Derived.Laws.AppendOwn
import Derived.Laws.MakeOwn
import Derived.Laws.OwnMore
import Derived.Laws.Cells
import Derived.Laws.CopyRow
import Derived.Laws.Slices
import Derived.Laws.Build
import Derived.Laws.Small
import Derived.Maps.AppendAt
set_option linter.unusedVariables false
set_option linter.unusedSimpArgs false
/-
  The evaluator: abstract values (data by value, the call's own rows by number), the operations as they are evaluated, and the evaluation itself. Definitions alone.
-/
namespace Go.Ev
open Go


/-- Abstract values: 'imm', 'ref': memory that nobody writes any more, by what it holds; 'ptr', 'sl': into a row of the call's own. -/
inductive AV where
  | undef
  | int (k : IntKind) (n : Int)
  | bool (b : Bool)
  | str (s : ByteArray)
  | nilp
  | imm (nl : Bool) (sz : Nat) (es : List (List AV))
  | ref (cs : List AV)
  | agg (cs : List AV)
  | tup (vs : List AV)
  | ptr (o : Nat) (i off : Nat)
  | sl (o : Nat) (i n : Nat)
  | fn (f : FuncId) (caps : List AV)
  deriving Inhabited

def AV.isCell : AV → Bool
  | .undef | .agg _ | .tup _ | .fn _ _ => false
  | _ => true

def AV.cells : AV → List AV
  | .agg cs => cs
  | v => [v]

mutual
def AV.keys : AV → List Nat
  | .ptr o _ _ => [o]
  | .sl o _ _ => [o]
  | .agg cs => AV.keysL cs
  | .tup cs => AV.keysL cs
  | .fn _ cs => AV.keysL cs
  | _ => []
def AV.keysL : List AV → List Nat
  | [] => []
  | v :: vs => v.keys ++ AV.keysL vs
end

mutual
/-- What names one of these rows is forgotten. -/
def AV.scrub (ks : List Nat) : AV → AV
  | .ptr o i off => if ks.contains o then .undef else .ptr o i off
  | .sl o i n => if ks.contains o then .undef else .sl o i n
  | .agg cs => .agg (AV.scrubL ks cs)
  | .tup cs => .tup (AV.scrubL ks cs)
  | .fn f cs => .fn f (AV.scrubL ks cs)
  | v => v
def AV.scrubL (ks : List Nat) : List AV → List AV
  | [] => []
  | v :: vs => v.scrub ks :: AV.scrubL ks vs
end

/-- A row of the call's own: the size of an element in cells, its type, its elements; 'refs' bounds the rows that its cells name. -/
structure Obj where
  sz : Nat
  ty : TypeId
  es : List (List AV)
  refs : List Nat

/-- The state by look-ups. -/
structure St where
  slot : Nat → AV
  heap : Nat → Option Obj
  frz : Nat → Bool

inductive AX where
  | t (n : Nat)
  | c (v : AV)

def St.ev (S : St) : AX → AV
  | .t n => S.slot n
  | .c v => v

inductive AOp where
  | mv (x : AX)
  | pick (c a b : AX)
  | box (k : Nat) (e : TypeId) (n : Nat) (x : AX)
  | alloc (k : Nat) (e : TypeId) (z : List AV)
  | build (z : List AV) (parts : List (Nat × Nat × AX))
  | bslice (e : TypeId) (sz len : Nat) (z : List AV) (parts : List (Nat × AX))
  | load (n : Option Nat) (x : AX)
  | store (n : Nat) (x v : AX)
  | nilchk (x : AX)
  | bin (op : BinOp) (x y : AX)
  | binb (op : BinOp) (x y : AX)
  | un (op : UnOp) (x : AX)
  | conv (k : IntKind) (x : AX)
  | make (k : Nat) (e : TypeId) (sz bytes : Nat) (z : List AV) (l c : AX)
  | slice (sz : Nat) (x : AX) (lo hi mx : Option AX)
  | faddr (off : Nat) (x : AX)
  | field (off : Nat) (n : Option Nat) (x : AX)
  | iaddr (sz : Nat) (x i : AX)
  | len (x : AX)
  | lens (x : AX)
  | max (x y : AX)
  | extract (x : AX) (i : Nat)
  | mkfn (f : FuncId) (caps : List AX)
  | call (k : Nat) (f : FuncId) (args : List AX) (fresh : Bool)
  | appn (k : Nat) (e : TypeId) (sz bytes : Nat) (x : AX)
  | ucall (f : FuncId) (j : Nat) (ty : TypeId) (args : List AX)
  | app (k : Nat) (e : TypeId) (sz bytes : Nat) (s x : AX)
  | icall (f : FuncId) (args : List AX)
  | ccall (x : AX) (args : List AX)

structure AI where
  d : Option Nat
  g : Option (Nat × Bool)
  op : AOp

/-- 'acc': the rows on which the operation hangs; 'ups' and 'frz' name some of these alone. -/
structure Eff where
  val : AV
  ups : List (Nat × Obj) := []
  frz : List Nat := []
  acc : List Nat := []

/-- What a pure callee gives: its value, and the fresh rows that come with it (by numbers from 0 on). -/
structure PRes where
  val : AV
  objs : List Obj := []

abbrev Pure := FuncId → List AV → Option PRes

/-! ### What operations give -/

def binI (op : BinOp) (k : IntKind) (a : Int) (k' : IntKind) (b : Int) : Option AV :=
  match op with
  | .shl => if b < 0 then none else some (.int k (k.wrap (a * 2 ^ (min b.toNat k.bits))))
  | .shr => if b < 0 then none else some (.int k (a.fdiv (2 ^ (min b.toNat k.bits))))
  | .add => if k = k' then some (.int k (k.wrap (a + b))) else none
  | .sub => if k = k' then some (.int k (k.wrap (a - b))) else none
  | .mul => if k = k' then some (.int k (k.wrap (a * b))) else none
  | .quo => if k = k' then (if b = 0 then none else some (.int k (k.wrap (a.tdiv b)))) else none
  | .rem => if k = k' then (if b = 0 then none else some (.int k (a.tmod b))) else none
  | .and => if k = k' then some (.int k (k.wrap (BitVec.ofInt k.bits a &&& BitVec.ofInt k.bits b).toNat)) else none
  | .or => if k = k' then some (.int k (k.wrap (BitVec.ofInt k.bits a ||| BitVec.ofInt k.bits b).toNat)) else none
  | .xor => if k = k' then some (.int k (k.wrap (BitVec.ofInt k.bits a ^^^ BitVec.ofInt k.bits b).toNat)) else none
  | .andNot => if k = k' then some (.int k (k.wrap (BitVec.ofInt k.bits a &&& ~~~BitVec.ofInt k.bits b).toNat)) else none
  | .eql => if k = k' then some (.bool (a == b)) else none
  | .neq => if k = k' then some (.bool (a != b)) else none
  | .lss => if k = k' then some (.bool (decide (a < b))) else none
  | .leq => if k = k' then some (.bool (decide (a ≤ b))) else none
  | .gtr => if k = k' then some (.bool (decide (a > b))) else none
  | .geq => if k = k' then some (.bool (decide (a ≥ b))) else none

def binB (op : BinOp) (a b : Bool) : Option AV :=
  match op with
  | .eql => some (.bool (a == b))
  | .neq => some (.bool (!(a == b)))
  | _ => none

def binE (op : BinOp) : AV → AV → Option AV
  | .int k a, .int k' b => binI op k a k' b
  | _, _ => none

def binbE (op : BinOp) : AV → AV → Option AV
  | .bool a, .bool b => binB op a b
  | _, _ => none

def unE (op : UnOp) : AV → Option AV
  | .int k n =>
    match op with
    | .neg => some (.int k (k.wrap (0 - n)))
    | .xor => some (.int k (k.wrap (BitVec.ofInt k.bits (if k.signed then -1 else k.max) ^^^ BitVec.ofInt k.bits n).toNat))
    | _ => none
  | .bool b =>
    match op with
    | .not => some (.bool !b)
    | _ => none
  | _ => none

/-- The cells from a pointer on. -/
def St.at (S : St) : AV → Option (List AV)
  | .ref cs => some cs
  | .ptr o i off =>
    match S.heap o with
    | some ob =>
      match ob.es[i]? with
      | some cs => some (cs.drop off)
      | none => none
    | none => none
  | _ => none

def splice (cs : List AV) (off : Nat) (new : List AV) : List AV := cs.take off ++ new ++ cs.drop (off + new.length)

def fillA (cells : List AV) : List (Nat × Nat × AV) → Option (List AV)
  | [] => some cells
  | (off, size, v) :: rest =>
    if v.cells.length = size ∧ off + size ≤ cells.length ∧ v.cells.all AV.isCell = true then fillA (splice cells off v.cells) rest else none

def mapO {α β : Type} (f : α → Option (β × List Nat)) : List α → Option (List β × List Nat)
  | [] => some ([], [])
  | x :: r =>
    match f x with
    | some (b, ks) =>
      match mapO f r with
      | some (bs, ks') => some (b :: bs, ks ++ ks')
      | none => none
    | none => none

/-- Data behind rows, by value; and the rows that were read. 'd': how deep. -/
def fz (H : Nat → Option Obj) : Nat → AV → Option (AV × List Nat)
  | 0, _ => none
  | d + 1, .sl o i n =>
    match H o with
    | some ob =>
      if i + n ≤ ob.es.length then
        if ob.refs = [] then some (.imm false ob.sz ((ob.es.drop i).take n), [o])
        else
          match mapO (mapO (fz H d)) ((ob.es.drop i).take n) with
          | some (es, ks) => some (.imm false ob.sz es, o :: ks)
          | none => none
      else none
    | none => none
  | d + 1, .ptr o i off =>
    match H o with
    | some ob =>
      match ob.es[i]? with
      | some cs =>
        if ob.refs = [] then some (.ref (cs.drop off), [o])
        else
          match mapO (fz H d) (cs.drop off) with
          | some (cs', ks) => some (.ref cs', o :: ks)
          | none => none
      | none => none
    | none => none
  | d + 1, .agg cs =>
    match mapO (fz H d) cs with
    | some (cs', ks) => some (.agg cs', ks)
    | none => none
  | _ + 1, .tup _ => none
  | _ + 1, .fn _ _ => none
  | _ + 1, v => some (v, [])

def fzL (H : Nat → Option Obj) : List AV → Option (List AV × List Nat) := mapO (fz H 8)
def fzLL (H : Nat → Option Obj) : List (List AV) → Option (List (List AV) × List Nat) := mapO (mapO (fz H 8))

/-! ### Renaming of the fresh rows of a callee -/

mutual
def AV.rk (b : Nat) : AV → AV
  | .ptr o i off => .ptr (b + o) i off
  | .sl o i n => .sl (b + o) i n
  | .agg cs => .agg (AV.rkL b cs)
  | .tup cs => .tup (AV.rkL b cs)
  | .fn f cs => .fn f (AV.rkL b cs)
  | v => v
def AV.rkL (b : Nat) : List AV → List AV
  | [] => []
  | v :: vs => v.rk b :: AV.rkL b vs
end

def Obj.rk (b : Nat) (o : Obj) : Obj := if o.refs = [] then o else { o with es := o.es.map (AV.rkL b), refs := o.refs.map (b + ·) }

def shiftObjs (b : Nat) : Nat → List Obj → List (Nat × Obj)
  | _, [] => []
  | j, o :: os => (b + j, o.rk b) :: shiftObjs b (j + 1) os

/-- None of these keys is taken. -/
def freeKeys (H : Nat → Option Obj) : List (Nat × Obj) → Bool
  | [] => true
  | (k, _) :: r => (H k).isNone && freeKeys H r

/-! ### The effect of an operation without a call of a body, without append -/

def setPart (es : List (List AV)) : List (Nat × List AV) → List (List AV)
  | [] => es
  | (i, cs) :: r => setPart (es.set i cs) r

/-- The elements that are appended. -/
def appended (H : Nat → Option Obj) (sz : Nat) : AV → Option (List (List AV))
  | .imm _ sz' es => if sz' = sz ∨ es = [] then some es else none
  | .sl o i n =>
    match H o with
    | some ob => if ob.sz = sz ∧ i + n ≤ ob.es.length then some ((ob.es.drop i).take n) else none
    | none => none
  | _ => none

def keysLL : List (List AV) → List Nat
  | [] => []
  | cs :: r => AV.keysL cs ++ keysLL r

def eff (G : Pure) (op : AOp) (S : St) : Option Eff :=
  match op with
  | .mv x => some { val := S.ev x }
  | .pick c a b =>
    match S.ev c with
    | .bool t => some { val := if t = true then S.ev a else S.ev b }
    | _ => none
  | .box k e n x =>
    match S.heap k with
    | none =>
      if (S.ev x).cells.length = n ∧ (S.ev x).cells.all AV.isCell = true then
        some { val := .ptr k 0 0, ups := [(k, { sz := n, ty := e, es := [(S.ev x).cells], refs := AV.keysL (S.ev x).cells })], acc := [k] }
      else none
    | some _ => none
  | .alloc k e z =>
    match S.heap k with
    | none => some { val := .ptr k 0 0, ups := [(k, { sz := z.length, ty := e, es := [z], refs := [] })], acc := [k] }
    | some _ => none
  | .build z parts =>
    match fillA z (parts.map fun p => (p.1, p.2.1, S.ev p.2.2)) with
    | some cs => some { val := .agg cs }
    | none => none
  | .bslice _ sz len z parts =>
    if (parts.map fun p => (S.ev p.2).cells).all (fun cs => decide (cs.length = sz) && cs.all AV.isCell) = true ∧ (parts.all fun p => decide (p.1 < len)) = true ∧ z.length = sz then
      match fzLL S.heap (setPart (List.replicate len z) (parts.map fun p => (p.1, (S.ev p.2).cells))) with
      | some (es, ks) => some { val := .imm false sz es, frz := ks, acc := ks }
      | none => none
    else none
  | .load none x =>
    match S.at (S.ev x) with
    | some (c :: _) => some { val := c, acc := (S.ev x).keys }
    | _ => none
  | .load (some n) x =>
    match S.at (S.ev x) with
    | some cs => if n ≤ cs.length then some { val := .agg (cs.take n), acc := (S.ev x).keys } else none
    | none => none
  | .store n x v =>
    match S.ev x with
    | .ptr o i off =>
      match S.heap o with
      | some ob =>
        match ob.es[i]? with
        | some cs =>
          if S.frz o = false ∧ (S.ev v).cells.length = n ∧ off + n ≤ cs.length ∧ (S.ev v).cells.all AV.isCell = true then
            some { val := .undef, ups := [(o, { ob with es := ob.es.set i (splice cs off (S.ev v).cells), refs := AV.keysL (S.ev v).cells ++ ob.refs })], acc := [o] }
          else none
        | none => none
      | none => none
    | _ => none
  | .nilchk x =>
    match S.ev x with
    | .ptr o i off => some { val := .ptr o i off }
    | .ref cs => some { val := .ref cs }
    | .fn f cs => some { val := .fn f cs }
    | _ => none
  | .bin op x y =>
    match binE op (S.ev x) (S.ev y) with
    | some v => some { val := v }
    | none => none
  | .binb op x y =>
    match binbE op (S.ev x) (S.ev y) with
    | some v => some { val := v }
    | none => none
  | .un op x =>
    match unE op (S.ev x) with
    | some v => some { val := v }
    | none => none
  | .conv k x =>
    match S.ev x with
    | .int _ n => some { val := .int k (k.wrap n) }
    | _ => none
  | .make k e sz bytes z l c =>
    match S.heap k with
    | none =>
      match S.ev l, S.ev c with
      | .int _ n, .int _ m =>
        if n = m ∧ 0 ≤ n ∧ n * bytes ≤ 140737488355328 ∧ z.length = sz then
          some { val := .sl k 0 n.toNat, ups := [(k, { sz := sz, ty := e, es := List.replicate n.toNat z, refs := [] })], acc := [k] }
        else none
      | _, _ => none
    | some _ => none
  | .slice sz x lo hi mx =>
    match S.ev x, (lo.map S.ev).getD (.int .i64 0) with
    | .imm nl sz' es, .int _ l =>
      match (hi.map S.ev).getD (.int .i64 es.length), (mx.map S.ev).getD (.int .i64 es.length) with
      | .int _ h, .int _ m =>
        if sz' = sz ∧ 0 ≤ l ∧ l ≤ h ∧ h ≤ m ∧ m ≤ es.length ∧ (mx.isSome = true → hi.isSome = true) then some { val := .imm nl sz ((es.take h.toNat).drop l.toNat) } else none
      | _, _ => none
    | .sl o i n, .int _ l =>
      match S.heap o, (hi.map S.ev).getD (.int .i64 n), (mx.map S.ev).getD (.int .i64 n) with
      | some ob, .int _ h, .int _ m =>
        if ob.sz = sz ∧ 0 ≤ l ∧ l ≤ h ∧ h ≤ m ∧ m ≤ n ∧ mx.isSome = false then
          some { val := if l < h then .sl o (i + l.toNat) (h - l).toNat else .imm false sz [], acc := [o] }
        else none
      | _, _, _ => none
    | _, _ => none
  | .faddr off x =>
    match S.ev x with
    | .ref cs => some { val := .ref (cs.drop off) }
    | .ptr o i f => some { val := .ptr o i (f + off) }
    | _ => none
  | .field off none x =>
    match S.ev x with
    | .agg cs =>
      match cs[off]? with
      | some v => some { val := v }
      | none => none
    | _ => none
  | .field off (some n) x =>
    match S.ev x with
    | .agg cs => if off + n ≤ cs.length then some { val := .agg ((cs.drop off).take n) } else none
    | _ => none
  | .iaddr sz x i =>
    match S.ev x, S.ev i with
    | .imm _ sz' es, .int _ n =>
      match es[n.toNat]? with
      | some cs => if sz' = sz ∧ 0 ≤ n then some { val := .ref cs } else none
      | none => none
    | .sl o i0 len, .int _ n =>
      match S.heap o with
      | some ob => if ob.sz = sz ∧ 0 ≤ n ∧ n < len then some { val := .ptr o (i0 + n.toNat) 0, acc := [o] } else none
      | none => none
    | _, _ => none
  | .len x =>
    match S.ev x with
    | .imm _ _ es => some { val := .int .i64 es.length }
    | .sl _ _ n => some { val := .int .i64 n }
    | _ => none
  | .lens x =>
    match S.ev x with
    | .str s => some { val := .int .i64 s.size }
    | _ => none
  | .max x y =>
    match S.ev x, S.ev y with
    | .int k a, .int k' b => if k = k' then some { val := .int k (if a < b then b else a) } else none
    | _, _ => none
  | .extract x i =>
    match S.ev x with
    | .tup vs =>
      match vs[i]? with
      | some v => some { val := v }
      | none => none
    | _ => none
  | .mkfn f caps => some { val := .fn f (caps.map S.ev) }
  | .call k f args fresh =>
    match fzL S.heap (args.map S.ev) with
    | some (as, ks) =>
      match G f as with
      | some r =>
        if fresh = true then
          if freeKeys S.heap (shiftObjs k 0 r.objs) = true then some { val := r.val.rk k, ups := shiftObjs k 0 r.objs, frz := ks, acc := ks ++ (shiftObjs k 0 r.objs).map (·.1) } else none
        else if r.objs = [] then some { val := r.val, frz := ks, acc := ks } else none
      | none => none
    | none => none
  | .appn k e sz bytes x =>
    match S.heap k with
    | none =>
      match appended S.heap sz (S.ev x) with
      | some news =>
        if news.all (fun cs => decide (cs.length = sz) && cs.all AV.isCell) = true ∧ news.length * bytes ≤ 140737488355328 ∧ S.frz k = false then
          some { val := .sl k 0 news.length, ups := [(k, { sz := sz, ty := e, es := news, refs := keysLL news })], acc := k :: (S.ev x).keys }
        else none
      | none => none
    | some _ => none
  | .ucall f j ty args =>
    match (args.map S.ev)[j]? with
    | some (.sl o 0 n) =>
      match S.heap o with
      | some ob =>
        if n = ob.es.length ∧ ob.es ≠ [] ∧ ob.refs = [] ∧ ob.ty = ty ∧ S.frz o = false then
          match fzL S.heap ((args.map S.ev).set j (.imm false ob.sz ob.es)) with
          | some (as, ks) =>
            match G f as with
            | some r =>
              match r.objs with
              | [ob'] => if ks.contains o = false then some { val := r.val, ups := [(o, { ob with es := ob'.es })], frz := ks, acc := o :: ks } else none
              | _ => none
            | none => none
          | none => none
        else none
      | none => none
    | _ => none
  | .app .. | .icall .. | .ccall .. => none

/-! ### The state by lists, and the evaluation -/

def aget {α : Type} (dflt : α) : List (Nat × α) → Nat → α
  | [], _ => dflt
  | (k, v) :: r, t => if k = t then v else aget dflt r t

def afind {α : Type} : List (Nat × α) → Nat → Option α
  | [], _ => none
  | (k, v) :: r, t => if k = t then some v else afind r t

def aput {α : Type} : List (Nat × α) → Nat → α → List (Nat × α)
  | [], t, v => [(t, v)]
  | (k, u) :: r, t, v => if k = t then (k, v) :: r else (k, u) :: aput r t v

def adel {α : Type} : List (Nat × α) → List Nat → List (Nat × α)
  | [], _ => []
  | (k, u) :: r, ks => if ks.contains k then adel r ks else (k, u) :: adel r ks

structure SL where
  slots : List (Nat × AV)
  heap : List (Nat × Obj)
  frz : List Nat
  own : List Nat
  reb : List Nat

def SL.den (s : SL) : St := { slot := aget .undef s.slots, heap := afind s.heap, frz := fun k => s.frz.contains k }

def putD (slots : List (Nat × AV)) : Option Nat → AV → List (Nat × AV)
  | none, _ => slots
  | some d, v => aput slots d v

def putUps (heap : List (Nat × Obj)) : List (Nat × Obj) → List (Nat × Obj)
  | [] => heap
  | (k, o) :: r => putUps (aput heap k o) r

def newKeys (heap : List (Nat × Obj)) (own : List Nat) : List (Nat × Obj) → List Nat
  | [] => own
  | (k, _) :: r => match afind heap k with
    | none => k :: newKeys heap own r
    | some _ => newKeys heap own r

def SL.apply (s : SL) (d : Option Nat) (e : Eff) : SL :=
  { slots := putD s.slots d e.val, heap := putUps s.heap e.ups, frz := e.frz ++ s.frz, own := newKeys s.heap s.own e.ups, reb := s.reb }

/-- What an inlined call gives: its value, the heap behind it, and the rows whose place may have turned (what names them is forgotten). -/
structure IRes where
  val : AV
  heap : List (Nat × Obj)
  frz : List Nat
  own : List Nat
  scr : List Nat

abbrev Inl := FuncId → List AV → List (Nat × Obj) → List Nat → Option IRes

def scrubHeap (ks : List Nat) : List (Nat × Obj) → List (Nat × Obj)
  | [] => []
  | (k, o) :: r => (k, if o.refs.any ks.contains = true then { o with es := o.es.map (AV.scrubL ks), refs := o.refs.filter fun x => !ks.contains x } else o) :: scrubHeap ks r

def scrubSlots (ks : List Nat) : List (Nat × AV) → List (Nat × AV)
  | [] => []
  | (t, v) :: r => (t, v.scrub ks) :: scrubSlots ks r

/-- A number for a new row: 'k', where no row bears it. -/
def freshKey (heap : List (Nat × Obj)) (k : Nat) : Nat :=
  match afind heap k with
  | none => k
  | some _ => (heap.map fun p => p.1).foldl max 1000000000000 + 1

def stepAppK (k : Nat) (e : TypeId) (sz bytes : Nat) (x y : AV) (s : SL) (d : Option Nat) : Option SL :=
  match appended s.den.heap sz y with
  | some news =>
    if news.all (fun cs => decide (cs.length = sz) && cs.all AV.isCell) = true then
      match x with
      | .imm true _ [] =>
        match afind s.heap k with
        | none =>
          if news.length * bytes ≤ 140737488355328 ∧ s.frz.contains k = false then
            some { slots := putD s.slots d (.sl k 0 news.length), heap := aput s.heap k { sz := sz, ty := e, es := news, refs := keysLL news }, frz := s.frz, own := k :: s.own, reb := s.reb }
          else none
        | some _ => none
      | .sl o 0 n =>
        match afind s.heap o with
        | some ob =>
          if n = ob.es.length ∧ ob.sz = sz ∧ ob.ty = e ∧ s.frz.contains o = false ∧ (n + news.length) * bytes ≤ 140737488355328 ∧ (keysLL news).contains o = false ∧ ob.refs.contains o = false then
            some { slots := putD (scrubSlots [o] s.slots) d (.sl o 0 (n + news.length)),
                   heap := aput (scrubHeap [o] s.heap) o { ob with es := ob.es ++ news, refs := keysLL news ++ ob.refs }, frz := s.frz, own := s.own, reb := o :: s.reb }
          else none
        | none => none
      | _ => none
    else none
  | none => none

def stepApp (k : Nat) (e : TypeId) (sz bytes : Nat) (x y : AV) (s : SL) (d : Option Nat) : Option SL := stepAppK (freshKey s.heap k) e sz bytes x y s d

def stepInl (r : Option IRes) (s : SL) (d : Option Nat) : Option SL :=
  match r with
  | some r => some { slots := putD (scrubSlots r.scr s.slots) d r.val, heap := r.heap, frz := r.frz, own := r.own ++ s.own, reb := r.scr ++ s.reb }
  | none => none

def applyO (s : SL) (d : Option Nat) : Option Eff → Option SL
  | some e => some (s.apply d e)
  | none => none

def stepGo (G : Pure) (ic : Inl) (d : Option Nat) (op : AOp) (s : SL) : Option SL :=
  match op with
  | .app k e sz bytes x y => stepApp k e sz bytes (s.den.ev x) (s.den.ev y) s d
  | .icall f args => stepInl (ic f (args.map s.den.ev) s.heap s.frz) s d
  | .ccall x args =>
    match s.den.ev x with
    | .fn f caps => stepInl (ic f (args.map s.den.ev ++ caps) s.heap s.frz) s d
    | _ => none
  | op => applyO s d (eff G op s.den)

def stepL (G : Pure) (ic : Inl) (i : AI) (s : SL) : Option SL :=
  match i.g with
  | none => stepGo G ic i.d i.op s
  | some (g, want) =>
    match s.den.slot g with
    | .bool b => if b = want then stepGo G ic i.d i.op s else some { s with slots := putD s.slots i.d (.tup []) }
    | .tup [] => some { s with slots := putD s.slots i.d (.tup []) }
    | _ => none

inductive AExit where
  | normal
  | exit (id : Nat)
  | ret

abbrev Out := Option (AExit × SL)

def runL (G : Pure) (ic : Inl) : List AI → SL → Option SL
  | [], s => some s
  | i :: r, s =>
    match stepL G ic i s with
    | some s' => runL G ic r s'
    | none => none

/-- The rows on which an operation hangs, and those that it writes. -/
def logOf (G : Pure) (i : AI) (s : SL) : List Nat × List Nat :=
  match eff G i.op s.den with
  | some e => (e.acc, e.ups.map (·.1))
  | none => ([], [])

abbrev Logs := List (List Nat × List Nat)

def logL (G : Pure) (ic : Inl) : List AI → Logs → SL → Option (Logs × SL)
  | [], l, s => some (l, s)
  | i :: r, l, s =>
    match stepL G ic i s with
    | some s' => logL G ic r (l ++ [logOf G i s]) s'
    | none => none

def apartKeys (x y : List Nat × List Nat) : Bool := x.2.all (fun k => !y.1.contains k) && y.2.all (fun k => !x.1.contains k)

def pairsOk (logs : Logs) : List (Nat × Nat) → Bool
  | [] => true
  | (i, j) :: r =>
    match logs[i]?, logs[j]? with
    | some x, some y => apartKeys x y && pairsOk logs r
    | _, _ => false

def pairsO (ps : List (Nat × Nat)) : Option (Logs × SL) → Option SL
  | some (l, s) => if pairsOk l ps = true then some s else none
  | none => none

/-- A region whose order is open: its first part is run with the log that shows that the order makes no difference. -/
def runP (G : Pure) (ic : Inl) (pre : List AI) (s : SL) : List (Nat × Nat) → Option SL
  | [] => runL G ic pre s
  | p :: ps => pairsO (p :: ps) (logL G ic pre [] s)

/-- Where ways meet: the slots that are kept, the rows that are dropped, the nil slices that become rows of the call's own. -/
structure Keep where
  slots : List Nat
  drops : List Nat := []
  adopt : List (Nat × Nat × TypeId × Nat) := []

/-- 'reg2': a region in which the operations 'us' ahead of an append may also come behind it; 'ts': the slots that these look at and write. -/
inductive ACode where
  | skip
  | reg (pairs : List (Nat × Nat)) (pre post : List AI)
  | reg2 (pairs : List (Nat × Nat)) (pre : List AI) (ap : AI) (post : List AI) (us ts : List Nat)
  | seq (a b : ACode)
  | cond (c : AX) (a b : ACode)
  | block (kp : Option Keep) (id : Nat) (body : ACode)
  | loop (kp : Keep) (body : ACode)
  | exit (id : Nat)
  | ret (kp : Option Keep)

def adoptL : List (Nat × Nat × TypeId × Nat) → SL → Option SL
  | [], s => some s
  | (t, k, e, sz) :: r, s =>
    match s.den.slot t with
    | .imm true _ [] =>
      match afind s.heap k with
      | none => adoptL r { s with slots := aput s.slots t (.sl k 0 0), heap := aput s.heap k { sz := sz, ty := e, es := [], refs := [] }, own := k :: s.own }
      | some _ => none
    | _ => adoptL r s

def keepSlots (f : Nat → AV) : List Nat → List (Nat × AV)
  | [] => []
  | t :: r => (t, f t) :: keepSlots f r

/-- No slot and no row that stays names a row that is dropped. -/
def dropOk (drops : List Nat) : List (Nat × AV) → Bool
  | [] => true
  | (_, v) :: r => v.keys.all (fun k => !drops.contains k) && dropOk drops r

def dropOkH (drops : List Nat) : List (Nat × Obj) → Bool
  | [] => true
  | (_, o) :: r => o.refs.all (fun k => !drops.contains k) && dropOkH drops r

def ownOk (own : List Nat) (heap : List (Nat × Obj)) : List Nat → Bool
  | [] => true
  | k :: r => (own.contains k || (afind heap k).isNone) && ownOk own heap r

def dropKeys (drops : List Nat) : List Nat → List Nat
  | [] => []
  | k :: r => if drops.contains k then dropKeys drops r else k :: dropKeys drops r

def keepL (kp : Keep) (s : SL) : Option SL :=
  match kp.drops with
  | [] => adoptL kp.adopt { slots := keepSlots s.den.slot kp.slots, heap := s.heap, frz := s.frz, own := s.own, reb := s.reb }
  | d :: ds =>
    if ownOk s.own s.heap (d :: ds) = true ∧ dropOk (d :: ds) (keepSlots s.den.slot kp.slots) = true ∧ dropOkH (d :: ds) (adel s.heap (d :: ds)) = true then
      adoptL kp.adopt { slots := keepSlots s.den.slot kp.slots, heap := adel s.heap (d :: ds), frz := dropKeys (d :: ds) s.frz, own := dropKeys (d :: ds) s.own, reb := s.reb }
    else none

def keepO : Option Keep → SL → Option SL
  | none, s => some s
  | some kp, s => keepL kp s

def outO (e : AExit) : Option SL → Out
  | some s => some (e, s)
  | none => none

def blockE (kp : Option Keep) (id : Nat) : Out → Out
  | some (.normal, s) => outO .normal (keepO kp s)
  | some (.exit id', s) => if id' = id then outO .normal (keepO kp s) else some (.exit id', s)
  | some (.ret, s) => some (.ret, s)
  | none => none

def iterF (kp : Keep) (f : SL → Out) : Nat → SL → Out
  | 0, _ => none
  | n + 1, s =>
    match f s with
    | some (.normal, s') =>
      match keepL kp s' with
      | some s'' => iterF kp f n s''
      | none => none
    | r => r

def runO (G : Pure) (ic : Inl) (r : List AI) : Option SL → Option SL
  | some s => runL G ic r s
  | none => none

def sameSlots (s t : SL) : List Nat → Prop
  | [] => True
  | x :: r => s.den.slot x = t.den.slot x ∧ sameSlots s t r

def sameRows (s t : SL) : List Nat → Prop
  | [] => True
  | k :: r => s.den.heap k = t.den.heap k ∧ sameRows s t r

def sameLog (s t : SL) : Option (List Nat × List Nat) → Prop
  | some x => sameRows s t x.1
  | none => False

def lateRows (lg : Logs) (s t : SL) : List Nat → Prop
  | [] => True
  | u :: r => sameLog s t lg[u]? ∧ lateRows lg s t r

open Classical in
/-- The append changes nothing of what the operations that may come behind it look at or give. -/
noncomputable def lateO (G : Pure) (ic : Inl) (post : List AI) (us ts : List Nat) (lg : Logs) (sm : SL) : Option SL → Out
  | some sp => if sameSlots sp sm ts ∧ lateRows lg sp sm us then outO .normal (runL G ic post sp) else none
  | none => none

noncomputable def lateP (G : Pure) (ic : Inl) (pairs : List (Nat × Nat)) (ap : AI) (post : List AI) (us ts : List Nat) : Option (Logs × SL) → Out
  | some (lg, sm) => if pairsOk lg pairs = true then lateO G ic post us ts lg sm (stepL G ic ap sm) else none
  | none => none

noncomputable def evalC (G : Pure) (ic : Inl) (n : Nat) : ACode → SL → Out
  | .skip, s => some (.normal, s)
  | .reg pairs pre post, s =>
    match runP G ic pre s pairs with
    | some s' => outO .normal (runL G ic post s')
    | none => none
  | .reg2 pairs pre ap post us ts, s => lateP G ic pairs ap post us ts (logL G ic pre [] s)
  | .seq a b, s =>
    match evalC G ic n a s with
    | some (.normal, s') => evalC G ic n b s'
    | r => r
  | .cond c a b, s =>
    match s.den.ev c with
    | .bool t => if t = true then evalC G ic n a s else evalC G ic n b s
    | _ => none
  | .block kp id c, s => blockE kp id (evalC G ic n c s)
  | .loop kp c, s =>
    match keepL kp s with
    | some s' => iterF kp (evalC G ic n c) n s'
    | none => none
  | .exit id, s => some (.exit id, s)
  | .ret kp, s => outO .ret (keepO kp s)

inductive ARes where
  | tmp (t : Nat)
  | cell (t : Nat) (n : Option Nat)

structure AFun where
  params : Nat
  code : ACode
  results : List ARes

def resOf (S : St) : ARes → Option AV
  | .tmp t => some (S.slot t)
  | .cell t n =>
    match S.at (S.slot t) with
    | some cs =>
      match n with
      | none => cs.head?
      | some n => if n ≤ cs.length then some (.agg (cs.take n)) else none
    | none => none

def resAll (S : St) : List ARes → Option (List AV)
  | [] => some []
  | r :: rs =>
    match resOf S r with
    | some v =>
      match resAll S rs with
      | some vs => some (v :: vs)
      | none => none
    | none => none

def packA : List AV → AV
  | [v] => v
  | vs => .tup vs

def argSlots : Nat → List AV → List (Nat × AV)
  | _, [] => []
  | j, v :: vs => (j, v) :: argSlots (j + 1) vs

/-- A function's end: its results, and the state that it leaves. -/
def endF (rs : List ARes) : Out → Option (List AV × SL)
  | some (.normal, s) =>
    match resAll s.den rs with
    | some vs => some (vs, s)
    | none => none
  | some (.ret, s) =>
    match resAll s.den rs with
    | some vs => some (vs, s)
    | none => none
  | _ => none

noncomputable def runF (G : Pure) (ic : Inl) (n : Nat) (f : AFun) (args : List AV) (heap : List (Nat × Obj)) (frz : List Nat) : Option (List AV × SL) :=
  endF f.results (evalC G ic n f.code { slots := argSlots 0 args, heap := heap, frz := frz, own := [], reb := [] })

def dataO : Option (List AV × SL) → Option PRes
  | some (vs, s) =>
    match fzL s.den.heap vs with
    | some (vs', _) => some { val := packA vs' }
    | none => none
  | none => none

/-- A function that takes data and gives data. -/
noncomputable def pureF (G : Pure) (ic : Inl) (n : Nat) (f : AFun) (args : List AV) : Option PRes := dataO (runF G ic n f args [] [])

/-! ### The equations of the evaluation -/

section
variable (G : Pure) (ic : Inl) (n : Nat)

def logO (r : List AI) (l : Logs) (x : List Nat × List Nat) : Option SL → Option (Logs × SL)
  | some s => logL G ic r (l ++ [x]) s
  | none => none
def regO (post : List AI) : Option SL → Out
  | some s => outO .normal (runL G ic post s)
  | none => none
noncomputable def seqO (b : ACode) : Out → Out
  | some (.normal, s) => evalC G ic n b s
  | r => r
noncomputable def iterK (kp : Keep) (c : ACode) (m : Nat) (s : SL) : Out := iterF kp (evalC G ic n c) m s
noncomputable def loopO (kp : Keep) (c : ACode) (m : Nat) : Option SL → Out
  | some s => iterK G ic n kp c m s
  | none => none
noncomputable def iterO (kp : Keep) (c : ACode) (m : Nat) : Out → Out
  | some (.normal, s) => loopO G ic n kp c m (keepL kp s)
  | r => r

theorem runL_nil (s : SL) : runL G ic [] s = some s := rfl
theorem runL_cons (i : AI) (r : List AI) (s : SL) : runL G ic (i :: r) s = runO G ic r (stepL G ic i s) := by cases h : stepL G ic i s <;> simp [runL, runO, h]
theorem runO_some (r : List AI) (s : SL) : runO G ic r (some s) = runL G ic r s := rfl
theorem runO_none (r : List AI) : runO G ic r none = none := rfl
theorem runO_ite (c : Prop) [Decidable c] (r : List AI) (x y : Option SL) : runO G ic r (if c then x else y) = if c then runO G ic r x else runO G ic r y := by split <;> rfl
theorem logL_nil (l : Logs) (s : SL) : logL G ic [] l s = some (l, s) := rfl
theorem logL_cons (i : AI) (r : List AI) (l : Logs) (s : SL) : logL G ic (i :: r) l s = logO G ic r l (logOf G i s) (stepL G ic i s) := by cases h : stepL G ic i s <;> simp [logL, logO, h]
theorem logO_some (r : List AI) (l : Logs) (x : List Nat × List Nat) (s : SL) : logO G ic r l x (some s) = logL G ic r (l ++ [x]) s := rfl
theorem logO_none (r : List AI) (l : Logs) (x : List Nat × List Nat) : logO G ic r l x none = none := rfl
theorem logO_ite (c : Prop) [Decidable c] (r : List AI) (l : Logs) (z : List Nat × List Nat) (x y : Option SL) : logO G ic r l z (if c then x else y) = if c then logO G ic r l z x else logO G ic r l z y := by split <;> rfl
theorem pairsO_some (ps : List (Nat × Nat)) (l : Logs) (s : SL) : pairsO ps (some (l, s)) = if pairsOk l ps = true then some s else none := rfl
theorem pairsO_none (ps : List (Nat × Nat)) : pairsO ps none = none := rfl
theorem pairsO_ite (c : Prop) [Decidable c] (ps : List (Nat × Nat)) (x y : Option (Logs × SL)) : pairsO ps (if c then x else y) = if c then pairsO ps x else pairsO ps y := by split <;> rfl
theorem runP_nil (pre : List AI) (s : SL) : runP G ic pre s [] = runL G ic pre s := rfl
theorem runP_cons (pre : List AI) (s : SL) (p : Nat × Nat) (ps : List (Nat × Nat)) : runP G ic pre s (p :: ps) = pairsO (p :: ps) (logL G ic pre [] s) := rfl
theorem applyO_some (s : SL) (d : Option Nat) (e : Eff) : applyO s d (some e) = some (s.apply d e) := rfl
theorem applyO_none (s : SL) (d : Option Nat) : applyO s d none = none := rfl
theorem applyO_ite (c : Prop) [Decidable c] (s : SL) (d : Option Nat) (x y : Option Eff) : applyO s d (if c then x else y) = if c then applyO s d x else applyO s d y := by split <;> rfl
theorem outO_some (e : AExit) (s : SL) : outO e (some s) = some (e, s) := rfl
theorem outO_none (e : AExit) : outO e none = none := rfl
theorem outO_ite (c : Prop) [Decidable c] (e : AExit) (x y : Option SL) : outO e (if c then x else y) = if c then outO e x else outO e y := by split <;> rfl
theorem regO_some (post : List AI) (s : SL) : regO G ic post (some s) = outO .normal (runL G ic post s) := rfl
theorem regO_none (post : List AI) : regO G ic post none = none := rfl
theorem regO_ite (c : Prop) [Decidable c] (post : List AI) (x y : Option SL) : regO G ic post (if c then x else y) = if c then regO G ic post x else regO G ic post y := by split <;> rfl
theorem seqO_normal (b : ACode) (s : SL) : seqO G ic n b (some (.normal, s)) = evalC G ic n b s := rfl
theorem seqO_exit (b : ACode) (id : Nat) (s : SL) : seqO G ic n b (some (.exit id, s)) = some (.exit id, s) := rfl
theorem seqO_ret (b : ACode) (s : SL) : seqO G ic n b (some (.ret, s)) = some (.ret, s) := rfl
theorem seqO_none (b : ACode) : seqO G ic n b none = none := rfl
theorem seqO_ite (c : Prop) [Decidable c] (b : ACode) (x y : Out) : seqO G ic n b (if c then x else y) = if c then seqO G ic n b x else seqO G ic n b y := by split <;> rfl
theorem blockE_normal (kp : Option Keep) (id : Nat) (s : SL) : blockE kp id (some (.normal, s)) = outO .normal (keepO kp s) := rfl
theorem blockE_exit (kp : Option Keep) (id id' : Nat) (s : SL) : blockE kp id (some (.exit id', s)) = if id' = id then outO .normal (keepO kp s) else some (.exit id', s) := rfl
theorem blockE_ret (kp : Option Keep) (id : Nat) (s : SL) : blockE kp id (some (.ret, s)) = some (.ret, s) := rfl
theorem blockE_none (kp : Option Keep) (id : Nat) : blockE kp id none = none := rfl
theorem blockE_ite (c : Prop) [Decidable c] (kp : Option Keep) (id : Nat) (x y : Out) : blockE kp id (if c then x else y) = if c then blockE kp id x else blockE kp id y := by split <;> rfl
theorem evalC_skip (s : SL) : evalC G ic n .skip s = some (.normal, s) := rfl
theorem evalC_reg (ps : List (Nat × Nat)) (pre post : List AI) (s : SL) : evalC G ic n (.reg ps pre post) s = regO G ic post (runP G ic pre s ps) := by cases h : runP G ic pre s ps <;> simp [evalC, regO, h]
theorem evalC_reg2 (ps : List (Nat × Nat)) (pre : List AI) (ap : AI) (post : List AI) (us ts : List Nat) (s : SL) : evalC G ic n (.reg2 ps pre ap post us ts) s = lateP G ic ps ap post us ts (logL G ic pre [] s) := rfl
theorem lateP_some (ps : List (Nat × Nat)) (ap : AI) (post : List AI) (us ts : List Nat) (lg : Logs) (sm : SL) : lateP G ic ps ap post us ts (some (lg, sm)) = if pairsOk lg ps = true then lateO G ic post us ts lg sm (stepL G ic ap sm) else none := rfl
theorem lateO_some (post : List AI) (us ts : List Nat) (lg : Logs) (sm sp : SL) (h : sameSlots sp sm ts ∧ lateRows lg sp sm us) : lateO G ic post us ts lg sm (some sp) = outO .normal (runL G ic post sp) := if_pos h
theorem evalC_seq (a b : ACode) (s : SL) : evalC G ic n (.seq a b) s = seqO G ic n b (evalC G ic n a s) := by
  cases h : evalC G ic n a s with
  | none => simp [evalC, seqO, h]
  | some x => obtain ⟨e, s'⟩ := x; cases e <;> simp [evalC, seqO, h]
theorem evalC_cond (c : AX) (a b : ACode) (s : SL) : evalC G ic n (.cond c a b) s = match s.den.ev c with | .bool t => if t = true then evalC G ic n a s else evalC G ic n b s | _ => none := by simp only [evalC]
theorem evalC_block (kp : Option Keep) (id : Nat) (c : ACode) (s : SL) : evalC G ic n (.block kp id c) s = blockE kp id (evalC G ic n c s) := rfl
theorem evalC_loop (kp : Keep) (c : ACode) (s : SL) : evalC G ic n (.loop kp c) s = loopO G ic n kp c n (keepL kp s) := by cases h : keepL kp s <;> simp [evalC, loopO, iterK, h]
theorem evalC_exit (id : Nat) (s : SL) : evalC G ic n (.exit id) s = some (.exit id, s) := rfl
theorem evalC_ret (kp : Option Keep) (s : SL) : evalC G ic n (.ret kp) s = outO .ret (keepO kp s) := rfl
theorem loopO_some (kp : Keep) (c : ACode) (m : Nat) (s : SL) : loopO G ic n kp c m (some s) = iterK G ic n kp c m s := rfl
theorem loopO_none (kp : Keep) (c : ACode) (m : Nat) : loopO G ic n kp c m none = none := rfl
theorem iterK_succ (kp : Keep) (c : ACode) (m : Nat) (s : SL) : iterK G ic n kp c (m + 1) s = iterO G ic n kp c m (evalC G ic n c s) := by
  unfold iterK iterO
  simp only [iterF]
  cases h : evalC G ic n c s with
  | none => rfl
  | some x =>
    obtain ⟨e, s'⟩ := x
    cases e with
    | normal => simp only [loopO]; cases keepL kp s' <;> rfl
    | exit id => rfl
    | ret => rfl
theorem iterO_normal (kp : Keep) (c : ACode) (m : Nat) (s : SL) : iterO G ic n kp c m (some (.normal, s)) = loopO G ic n kp c m (keepL kp s) := rfl
theorem iterO_exit (kp : Keep) (c : ACode) (m id : Nat) (s : SL) : iterO G ic n kp c m (some (.exit id, s)) = some (.exit id, s) := rfl
theorem iterO_ret (kp : Keep) (c : ACode) (m : Nat) (s : SL) : iterO G ic n kp c m (some (.ret, s)) = some (.ret, s) := rfl
theorem iterO_none (kp : Keep) (c : ACode) (m : Nat) : iterO G ic n kp c m none = none := rfl
theorem iterO_ite (p : Prop) [Decidable p] (kp : Keep) (c : ACode) (m : Nat) (x y : Out) : iterO G ic n kp c m (if p then x else y) = if p then iterO G ic n kp c m x else iterO G ic n kp c m y := by split <;> rfl
theorem endF_ite (rs : List ARes) (c : Prop) [Decidable c] (x y : Out) : endF rs (if c then x else y) = if c then endF rs x else endF rs y := by split <;> rfl
theorem dataO_ite (c : Prop) [Decidable c] (x y : Option (List AV × SL)) : dataO (if c then x else y) = if c then dataO x else dataO y := by split <;> rfl
end
@[simp] theorem isCell_undef  : AV.isCell .undef = false := rfl
@[simp] theorem cells_undef  : AV.cells .undef = [.undef] := rfl
@[simp] theorem isCell_int (k : IntKind) (n : Int) : AV.isCell (.int k n) = true := rfl
@[simp] theorem cells_int (k : IntKind) (n : Int) : AV.cells (.int k n) = [(.int k n)] := rfl
@[simp] theorem isCell_bool (b : Bool) : AV.isCell (.bool b) = true := rfl
@[simp] theorem cells_bool (b : Bool) : AV.cells (.bool b) = [(.bool b)] := rfl
@[simp] theorem isCell_str (s : ByteArray) : AV.isCell (.str s) = true := rfl
@[simp] theorem cells_str (s : ByteArray) : AV.cells (.str s) = [(.str s)] := rfl
@[simp] theorem isCell_nilp  : AV.isCell .nilp = true := rfl
@[simp] theorem cells_nilp  : AV.cells .nilp = [.nilp] := rfl
@[simp] theorem isCell_imm (nl : Bool) (sz : Nat) (es : List (List AV)) : AV.isCell (.imm nl sz es) = true := rfl
@[simp] theorem cells_imm (nl : Bool) (sz : Nat) (es : List (List AV)) : AV.cells (.imm nl sz es) = [(.imm nl sz es)] := rfl
@[simp] theorem isCell_ref (cs : List AV) : AV.isCell (.ref cs) = true := rfl
@[simp] theorem cells_ref (cs : List AV) : AV.cells (.ref cs) = [(.ref cs)] := rfl
@[simp] theorem isCell_agg (cs : List AV) : AV.isCell (.agg cs) = false := rfl
@[simp] theorem cells_agg (cs : List AV) : AV.cells (.agg cs) = cs := rfl
@[simp] theorem isCell_tup (vs : List AV) : AV.isCell (.tup vs) = false := rfl
@[simp] theorem cells_tup (vs : List AV) : AV.cells (.tup vs) = [(.tup vs)] := rfl
@[simp] theorem isCell_ptr (o i off : Nat) : AV.isCell (.ptr o i off) = true := rfl
@[simp] theorem cells_ptr (o i off : Nat) : AV.cells (.ptr o i off) = [(.ptr o i off)] := rfl
@[simp] theorem isCell_sl (o i n : Nat) : AV.isCell (.sl o i n) = true := rfl
@[simp] theorem cells_sl (o i n : Nat) : AV.cells (.sl o i n) = [(.sl o i n)] := rfl
@[simp] theorem isCell_fn (f : FuncId) (cs : List AV) : AV.isCell (.fn f cs) = false := rfl
@[simp] theorem cells_fn (f : FuncId) (cs : List AV) : AV.cells (.fn f cs) = [(.fn f cs)] := rfl
theorem den_slot (s : SL) (t : Nat) : s.den.slot t = aget .undef s.slots t := rfl
theorem den_heap (s : SL) (k : Nat) : s.den.heap k = afind s.heap k := rfl
theorem den_frz (s : SL) (k : Nat) : s.den.frz k = s.frz.contains k := rfl
attribute [simp] den_slot den_heap den_frz
attribute [simp] runL_nil runL_cons runO_some runO_none runO_ite logL_nil logL_cons logO_some logO_none logO_ite pairsO_some pairsO_none pairsO_ite runP_nil runP_cons applyO_some applyO_none applyO_ite outO_some outO_none outO_ite
attribute [simp] regO_some regO_none regO_ite seqO_normal seqO_exit seqO_ret seqO_none seqO_ite blockE_normal blockE_exit blockE_ret blockE_none blockE_ite
attribute [simp] evalC_skip evalC_reg evalC_reg2 lateP_some lateO_some sameSlots sameRows sameLog lateRows evalC_seq evalC_cond evalC_block evalC_loop evalC_exit evalC_ret loopO_some loopO_none iterO_normal iterO_exit iterO_ret iterO_none iterO_ite endF_ite dataO_ite
attribute [simp] stepL stepGo stepApp stepAppK freshKey stepInl appended scrubHeap scrubSlots eff binE binbE binI binB unE St.at St.ev SL.apply aget afind aput adel putD putUps newKeys logOf apartKeys pairsOk
attribute [simp] adoptL keepSlots dropOk dropOkH ownOk dropKeys keepL keepO resOf resAll packA argSlots endF dataO AV.keys AV.keysL AV.scrub AV.scrubL AV.rk AV.rkL Obj.rk shiftObjs freeKeys setPart splice fillA keysLL mapO fz fzL fzLL

end Go.Ev

/-
  From the translated code to the evaluator's: 'comp' (a definition; what it yields is held against a written-out text by the kernel).
-/
namespace Go.Ev
open Go

section
variable (P : Program)

/-- The zero cells of a type. -/
def zeroAV : Nat → TypeId → Option (List AV)
  | 0, _ => none
  | d + 1, t =>
    match P.underlying t with
    | some .bool => some [.bool false]
    | some (.int k) => some [.int k 0]
    | some .string => some [.str ByteArray.empty]
    | some (.pointer _) => some [.nilp]
    | some (.slice e) => some [.imm true (P.cellsOf e) []]
    | some (.struct fs) => fs.foldl (fun acc f => match acc, zeroAV d f.type with | some a, some b => some (a ++ b) | _, _ => none) (some [])
    | some (.array n e) => (zeroAV d e).map fun z => (List.replicate n z).flatten
    | _ => none

def zOkV : AV → Value → Bool
  | .bool a, .bool b => a == b
  | .int k n, .int k' n' => k == k' && n == n'
  | .str a, .string b => decide (a = b)
  | .nilp, .pointer none => true
  | .imm true _ [], .slice none 0 0 => true
  | _, _ => false

def zOkL : List AV → List Value → Bool
  | [], [] => true
  | z :: zs, v :: vs => zOkV z v && zOkL zs vs
  | _, _ => false

/-- The zero cells, held against the table's own zero value. -/
def zeroC (t : TypeId) : Option (List AV) :=
  match zeroAV P 20 t, (P.info? t).bind (·.zero) with
  | some z, some v => if zOkL z v.cells.toList then some z else none
  | _, _ => none

def constAV (t : TypeId) : Value → Option AV
  | .int k n => some (.int k n)
  | .bool b => some (.bool b)
  | .string s => some (.str s)
  | .pointer none => some .nilp
  | .slice none 0 0 =>
    match P.underlying t with
    | some (.slice e) => some (.imm true (P.cellsOf e) [])
    | _ => none
  | _ => none

def axOf (t : TypeId) : Operand → Option AX
  | .tmp n => some (.t n)
  | .const v => (constAV P t v).map .c
  | .func f => some (.c (.fn f []))
  | .global _ => none

def axO : Option Operand → Option (Option AX)
  | none => some none
  | some x => (axOf P 0 x).map some

def isAggT (t : TypeId) : Bool :=
  match P.underlying t with
  | some (.struct _) | some (.array _ _) => true
  | _ => false

def loadN (t : TypeId) : Option Nat := if isAggT P t then some (P.cellsOf t) else none

def elemT (t : TypeId) : Option TypeId :=
  match P.underlying t with
  | some (.slice e) => some e
  | _ => none

def axs : List TypeId → List Operand → Option (List AX)
  | _, [] => some []
  | [], x :: xs => match axOf P 0 x, axs [] xs with | some a, some as => some (a :: as) | _, _ => none
  | t :: ts, x :: xs => match axOf P t x, axs ts xs with | some a, some as => some (a :: as) | _, _ => none

def okT (t : TypeId) : Bool := (P.underlying t).isSome

/-- Which callees are taken as pure: 'some fresh'. -/
structure Kinds where
  pure : List (FuncId × Bool)
  upd : List (FuncId × Nat × TypeId)

def kindOf (ks : Kinds) (f : FuncId) : Option Bool := (ks.pure.find? (·.1 == f)).map (·.2)
def updOf (ks : Kinds) (f : FuncId) : Option (Nat × TypeId) := (ks.upd.find? (·.1 == f)).map (·.2)

def isNilC : AX → Bool
  | .c (.imm true _ []) => true
  | _ => false

def cOp (ks : Kinds) (fid : FuncId) (o : Oper) : Option AOp :=
  let key : Nat := (fid * 1000 + o.dst.getD 999) * 16
  match o.op with
  | .move x | .assign x => (axOf P o.type x).map .mv
  | .pick c a b => match axOf P o.type c, axOf P o.type a, axOf P o.type b with | some c, some a, some b => some (.pick c a b) | _, _, _ => none
  | .alloc e => (zeroC P e).map (.alloc key e)
  | .box e x => if okT P e then (axOf P e x).map (.box key e (P.cellsOf e)) else none
  | .build t parts =>
    match P.underlying t, zeroC P t with
    | some (.struct fs), some z =>
      if !fs.toList.all (fun f => okT P f.type) then none else
      (parts.toList.mapM fun p : Nat × Operand => (match fs[p.1]? with | some f => (axOf P f.type p.2).map fun x => (f.offset, P.cellsOf f.type, x) | none => none : Option (Nat × Nat × AX))).map (AOp.build z)
    | _, _ => none
  | .buildSlice t len parts =>
    match elemT P t with
    | some e =>
      match zeroC P e, (parts.toList.mapM fun p : Nat × Operand => ((axOf P e p.2).map fun x => (p.1, x) : Option (Nat × AX))) with
      | some z, some ps => if len * P.cellsOf e ≤ 16777216 ∧ okT P e then some (.bslice e (P.cellsOf e) len z ps) else none
      | _, _ => none
    | none => none
  | .load t x => if okT P t then (axOf P 0 x).map (.load (loadN P t)) else none
  | .store t x v => if okT P t then (match axOf P 0 x, axOf P t v with | some x, some v => some (.store (P.cellsOf t) x v) | _, _ => none) else none
  | .nilCheck x => (axOf P 0 x).map .nilchk
  | .binOp op t x y u =>
    match P.underlying t, axOf P t x, axOf P u y with
    | some (.int _), some x, some y => some (.bin op x y)
    | some .bool, some x, some y => some (.binb op x y)
    | _, _, _ => none
  | .unOp op t x => (axOf P t x).map (.un op)
  | .convert src dst x => if okT P src then (match P.underlying dst, axOf P 0 x with | some (.int k), some x => some (.conv k x) | _, _ => none) else none
  | .makeSlice t l c =>
    match elemT P t with
    | some e =>
      match zeroC P e, axOf P 0 l, axOf P 0 c with
      | some z, some l, some c => if okT P e ∧ 1 ≤ P.bytesOf e then some (.make key e (P.cellsOf e) (P.bytesOf e) z l c) else none
      | _, _, _ => none
    | none => none
  | .slice t x lo hi mx =>
    match elemT P t, axOf P t x with
    | some e, some x =>
      match axO P lo, axO P hi, axO P mx with
      | some lo, some hi, some mx => if okT P e then some (.slice (P.cellsOf e) x lo hi mx) else none
      | _, _, _ => none
    | _, _ => none
  | .fieldAddr s x f =>
    match P.underlying s with
    | some (.struct fs) => match fs[f]?, axOf P 0 x with | some f, some x => if P.cellsOf f.type = 0 || !okT P f.type then none else some (.faddr f.offset x) | _, _ => none
    | _ => none
  | .field s x f =>
    match P.underlying s with
    | some (.struct fs) => match fs[f]?, axOf P s x with | some f, some x => if okT P f.type then some (.field f.offset (loadN P f.type) x) else none | _, _ => none
    | _ => none
  | .indexAddr t x i => match elemT P t, axOf P t x, axOf P 0 i with | some e, some x, some i => if okT P e then some (.iaddr (P.cellsOf e) x i) else none | _, _, _ => none
  | .extract x i => (axOf P 0 x).map fun x => .extract x i
  | .makeFunc (.func f) first caps => if first.size = 0 then (axs P [] caps.toList).map (.mkfn f) else none
  | .call c =>
    match c.callee with
    | .builtin .len =>
      match c.args.toList, c.argTypes[0]? with
      | [x], some t => match P.underlying t, axOf P t x with | some (.slice _), some x => some (.len x) | some .string, some x => some (.lens x) | _, _ => none
      | _, _ => none
    | .builtin .max =>
      match c.args.toList, c.argTypes.toList with
      | [x, y], [t, u] => match P.underlying t, P.underlying u, axOf P t x, axOf P u y with | some (.int _), some (.int _), some x, some y => some (.max x y) | _, _, _, _ => none
      | _, _ => none
    | .builtin .append =>
      match c.args.toList, c.argTypes.toList with
      | [s, x], [t, u] =>
        if t = u then
          match elemT P t, axOf P t s, axOf P t x with
          | some e, some s, some x => if okT P e ∧ 1 ≤ P.bytesOf e ∧ 1 ≤ P.cellsOf e ∧ ((zeroC P e).any fun z => z.length == P.cellsOf e) = true then (if isNilC s = true then some (.appn key e (P.cellsOf e) (P.bytesOf e) x) else some (.app key e (P.cellsOf e) (P.bytesOf e) s x)) else none
          | _, _, _ => none
        else none
      | _, _ => none
    | .value (.func f) =>
      match axs P c.argTypes.toList c.args.toList with
      | some as => match kindOf ks f with | some fresh => some (.call key f as fresh) | none => (match updOf ks f with | some (j, ty) => some (.ucall f j ty as) | none => some (.icall f as))
      | none => none
    | .value x => match axOf P 0 x, axs P c.argTypes.toList c.args.toList with | some x, some as => some (.ccall x as) | _, _ => none
    | _ => none
  | _ => none

def cGuard (ops : Array Oper) : Option (Nat × Bool) → Option (Option (Nat × Bool))
  | none => some none
  | some (j, want) => match (ops[j]?).bind (·.dst) with | some d => some (some (d, want)) | none => none

def cOps (ks : Kinds) (fid N : Nat) (ops : Array Oper) : List Oper → Option (List AI)
  | [] => some []
  | o :: r => match cOp P ks fid o, cGuard ops o.guard, cOps ks fid N ops r with | some a, some g, some l => if o.dst.all (· < N) = true then some (⟨o.dst, g, a⟩ :: l) else none | _, _, _ => none

def AOp.simple : AOp → Bool
  | .app .. | .icall .. | .ccall .. => false
  | _ => true

def AOp.mem : AOp → Bool
  | .box .. | .alloc .. | .bslice .. | .load .. | .store .. | .make .. | .slice .. | .iaddr .. | .call .. | .appn .. | .ucall .. => true
  | _ => false

def AOp.wr : AOp → Bool
  | .box .. | .alloc .. | .store .. | .make .. | .call _ _ _ true | .appn .. | .ucall .. => true
  | _ => false

/-- Bit i of row j: operation i comes before operation j in whatever order. -/
def befores (ops : Array Oper) : List Nat := (Region.before ops).toList

def unordered (ops : Array Oper) (i j : Nat) : Bool := !((befores ops).getD j 0).testBit i

/-- The pairs of operations that may come in either order, the first 'n' alone. -/
def openPairs (ops : Array Oper) (n : Nat) : List (Nat × Nat) :=
  (List.range n).flatMap fun j => ((List.range j).filter fun i => unordered ops i j).map fun i => (i, j)

/-- The operands of an operation. -/
def AOp.axs : AOp → List AX
  | .mv x => [x]
  | .pick c a b => [c, a, b]
  | .box _ _ _ x => [x]
  | .alloc .. => []
  | .build _ parts => parts.map (·.2.2)
  | .bslice _ _ _ _ parts => parts.map (·.2)
  | .load _ x => [x]
  | .store _ x v => [x, v]
  | .nilchk x => [x]
  | .bin _ x y => [x, y]
  | .binb _ x y => [x, y]
  | .un _ x => [x]
  | .conv _ x => [x]
  | .make _ _ _ _ _ l c => [l, c]
  | .slice _ x lo hi mx => x :: (lo.toList ++ hi.toList ++ mx.toList)
  | .faddr _ x => [x]
  | .field _ _ x => [x]
  | .iaddr _ x i => [x, i]
  | .len x => [x]
  | .lens x => [x]
  | .max x y => [x, y]
  | .extract x _ => [x]
  | .mkfn _ caps => caps
  | .call _ _ args _ => args
  | .appn _ _ _ _ x => [x]
  | .ucall _ _ _ args => args
  | .app _ _ _ _ s x => [s, x]
  | .icall _ args => args
  | .ccall x args => x :: args

def slotsOf : List AX → List Nat
  | [] => []
  | .t n :: r => n :: slotsOf r
  | .c _ :: r => slotsOf r

def AI.looks (i : AI) : List Nat := match i.g with | some (g, _) => g :: slotsOf i.op.axs | none => slotsOf i.op.axs

/-- Neither looks at what the other writes. -/
def AI.apartS (x y : AI) : Bool :=
  (match x.d with | some d => !y.looks.contains d && y.d != some d | none => true) && (match y.d with | some d => !x.looks.contains d | none => true)

/-- What the order of a region leaves open is open for its first 'm' operations alone, and these are apart by slots. -/
def drawOk (ops : Array Oper) (b : List Nat) (l : List AI) (m : Nat) : Bool :=
  (List.range ops.size).all fun j =>
    match ops[j]? with
    | none => false
    | some o =>
      (o.after.toList.all fun e => !Region.binds .any e || decide (e.on < j)) &&
      (List.range j).all fun i =>
        if (b.getD j 0).testBit i then o.after.toList.any fun e => Region.binds .any e && (e.on == i || (decide (i < e.on) && (b.getD e.on 0).testBit i))
        else decide (j < m) && match l[i]?, l[j]? with | some x, some y => x.apartS y | _, _ => false

/-- What only looks. -/
def AOp.reads : AOp → Bool
  | .mv .. | .pick .. | .load .. | .nilchk .. | .bin .. | .binb .. | .un .. | .conv .. | .faddr .. | .field .. | .iaddr .. | .slice .. | .len .. | .lens .. | .max .. | .extract .. => true
  | _ => false

def AOp.isApp : AOp → Bool
  | .app .. => true
  | _ => false

def AI.dsts (x : AI) : List Nat := x.d.toList

/-- These only look, and none writes what it or one ahead of it looks at or writes. -/
def lateOk (l : List AI) (us : List Nat) : Bool := us.all fun u =>
  match l[u]? with
  | some x => x.op.reads && x.dsts.all (fun d => !x.looks.contains d) && us.all fun v =>
    if u < v then (match l[v]? with | some y => y.dsts.all fun d => !x.looks.contains d && x.d != some d | none => false) else true
  | none => false

/-- Both touch memory, and one of them writes. -/
def mayClash (l : List AI) (p : Nat × Nat) : Bool :=
  match l[p.1]?, l[p.2]? with
  | some a, some b => a.op.mem && b.op.mem && (a.op.wr || b.op.wr)
  | _, _ => true

/-- The operations ahead of number 'm' that may come behind it. -/
def lates (ops : Array Oper) (m : Nat) : List Nat := (List.range m).filter fun i => unordered ops i m

def lateTs (l : List AI) (us : List Nat) : List Nat := us.flatMap fun u => match l[u]? with | some x => x.looks ++ x.dsts | none => []

def cReg2 (ops : Array Oper) (l : List AI) (m : Nat) : Option ACode :=
  match l[m]? with
  | some ap =>
    if ap.g = none ∧ ap.op.isApp = true ∧ lateOk l (lates ops m) = true ∧ drawOk ops (befores ops) l (m + 1) = true then
      some (.reg2 ((openPairs ops m).filter (mayClash l)) (l.take m) ap (l.drop (m + 1)) (lates ops m) (lateTs l (lates ops m)))
    else none
  | none => none

def cCode (ks : Kinds) (fid N : Nat) : Code → Option ACode
  | .skip => some .skip
  | .region _ ops draw =>
    match cOps P ks fid N ops ops.toList with
    | some l =>
      if draw then
        if drawOk ops (befores ops) l (l.takeWhile (·.op.simple)).length = true then
          some (.reg ((openPairs ops (l.takeWhile (·.op.simple)).length).filter (mayClash l)) (l.takeWhile (·.op.simple)) (l.drop (l.takeWhile (·.op.simple)).length))
        else cReg2 ops l (l.takeWhile (·.op.simple)).length
      else some (.reg [] l [])
    | none => none
  | .seq a b => match cCode ks fid N a, cCode ks fid N b with | some a, some b => some (.seq a b) | _, _ => none
  | .cond c a b => match axOf P 0 c, cCode ks fid N a, cCode ks fid N b with | some c, some a, some b => some (.cond c a b) | _, _, _ => none
  | .block id c => (cCode ks fid N c).map (.block none id)
  | .loop c => (cCode ks fid N c).map (.loop { slots := [] })
  | .exit id => some (.exit id)
  | .ret => some (.ret none)
  | _ => none

def ACode.erase : ACode → ACode
  | .seq a b => .seq a.erase b.erase
  | .cond c a b => .cond c a.erase b.erase
  | .block _ id c => .block none id c.erase
  | .ret _ => .ret none
  | .loop _ c => .loop { slots := [] } c.erase
  | c => c

def cRes : ResultVar → ARes
  | .tmp t => .tmp t
  | .cell a t => .cell a (loadN P t)

def resOk : ResultVar → Bool
  | .tmp _ => true
  | .cell _ t => okT P t

def cFun (ks : Kinds) (fid : FuncId) : Option AFun :=
  match P.funcs[fid]? with
  | some fn =>
    match fn.body with
    | some c =>
      match cCode P ks fid fn.ntmps c with
      | some a => if fn.results.toList.all (resOk P) = true ∧ (fn.name == "runtime.NumGoroutine") = false then some { params := fn.params.size + fn.nfree, code := a, results := fn.results.toList.map (cRes P) } else none
      | none => none
    | none => none
  | none => none

/-- The function's text is the evaluator's. -/
def IsFun (ks : Kinds) (f : FuncId) (F : AFun) : Prop := (cFun P ks f).map (fun x => (x.code, x.results)) = some (F.code.erase, F.results)

end
end Go.Ev

/-
  What abstract values stand for in a world, and how long.
-/
namespace Go.Ev
open Go Go.RowKit

theorem block_add (a : Addr) (n : Nat) : (a.add n).block = a.block := by unfold Addr.add; split <;> rfl
theorem add_add (a : Addr) (i j : Nat) : (a.add i).add j = a.add (i + j) := by
  unfold Addr.add
  by_cases hi : i = 0 <;> by_cases hj : j = 0 <;> simp [hi, hj, Nat.add_assoc]
theorem add_mk (b o n : Nat) : (⟨b, o, none⟩ : Addr).add n = ⟨b, o + n, none⟩ := by unfold Addr.add; split <;> simp_all

/-- Where a row of the call's own lies: its block, the type and size of an element, its capacity. -/
structure Loc where
  block : Nat
  ty : TypeId
  sz : Nat
  cap : Nat

abbrev Conc := Nat → Option Loc

/-- Data: what nobody writes any more. 'ok': the blocks in which it may lie. -/
inductive RepI (ok : Nat → Prop) (w : World) : AV → Value → Prop where
  | undef (v : Value) : RepI ok w .undef v
  | int (k : IntKind) (n : Int) : RepI ok w (.int k n) (.int k n)
  | bool (b : Bool) : RepI ok w (.bool b) (.bool b)
  | str (s : ByteArray) : RepI ok w (.str s) (.string s)
  | nilp : RepI ok w .nilp (.pointer none)
  | nils (sz : Nat) : RepI ok w (.imm true sz []) (.slice none 0 0)
  | imm {sz : Nat} {es : List (List AV)} {A : Option Addr} {n c : Nat} (ad : Addr) (vs : Nat → Nat → Value) (hn : n = es.length) (hc : es.length ≤ c)
      (hA : es ≠ [] → A = some ad ∧ ok ad.block) (hsz : ∀ cs ∈ es, cs.length = sz)
      (hcell : ∀ (i : Nat) (cs : List AV) (j : Nat) (u : AV), es[i]? = some cs → cs[j]? = some u → w.cell? (ad.add (i * sz + j)) = some (vs i j))
      (hrep : ∀ (i : Nat) (cs : List AV) (j : Nat) (u : AV), es[i]? = some cs → cs[j]? = some u → RepI ok w u (vs i j)) : RepI ok w (.imm false sz es) (.slice A n c)
  | ref {cs : List AV} {ad : Addr} (vs : Nat → Value) (hok : ok ad.block) (hcell : ∀ (j : Nat) (u : AV), cs[j]? = some u → w.cell? (ad.add j) = some (vs j))
      (hrep : ∀ (j : Nat) (u : AV), cs[j]? = some u → RepI ok w u (vs j)) : RepI ok w (.ref cs) (.pointer (some ad))
  | agg {cs : List AV} {vs : Array Value} (hl : cs.length = vs.size) (hrep : ∀ (j : Nat) (u : AV) (v : Value), cs[j]? = some u → vs[j]? = some v → RepI ok w u v) : RepI ok w (.agg cs) (.agg vs)

theorem RepI.mono {ok ok' : Nat → Prop} {w w' : World} (hok : ∀ b, ok b → ok' b) (hw : ∀ b, ok b → w'.heap[b]? = w.heap[b]?) {u : AV} {v : Value} (h : RepI ok w u v) : RepI ok' w' u v := by
  have hc : ∀ (ad : Addr) (n : Nat), ok ad.block → w'.cell? (ad.add n) = w.cell? (ad.add n) := fun ad n hb => World.cell?_of_block (by rw [block_add]; exact hw _ hb)
  induction h with
  | undef v => exact .undef v
  | int k n => exact .int k n
  | bool b => exact .bool b
  | str s => exact .str s
  | nilp => exact .nilp
  | nils sz => exact .nils sz
  | imm ad vs hn hcap hA hsz hcell _ ih =>
    refine .imm ad vs hn hcap (fun h => ⟨(hA h).1, hok _ (hA h).2⟩) hsz (fun i cs j u hi hj => ?_) ih
    rw [hc _ _ (hA (by rintro rfl; simp at hi)).2]
    exact hcell i cs j u hi hj
  | ref vs hb hcell _ ih => exact .ref vs (hok _ hb) (fun j u hj => by rw [hc _ _ hb]; exact hcell j u hj) ih
  | agg hl _ ih => exact .agg hl ih

inductive Rep (C : Conc) (ok : Nat → Prop) (w : World) : AV → Value → Prop where
  | data {u : AV} {v : Value} (h : RepI ok w u v) : Rep C ok w u v
  | ptr {o : Nat} {i off : Nat} {L : Loc} (h : C o = some L) : Rep C ok w (.ptr o i off) (.pointer (some ⟨L.block, i * L.sz + off, none⟩))
  | sl {o : Nat} {i n c : Nat} {L : Loc} (h : C o = some L) (hn : n ≤ c) (hc : i + c = L.cap) : Rep C ok w (.sl o i n) (.slice (some ⟨L.block, i * L.sz, none⟩) n c)
  | nilsl {o : Nat} (h : C o = none) : Rep C ok w (.sl o 0 0) (.slice none 0 0)
  | agg {cs : List AV} {vs : Array Value} (hl : cs.length = vs.size) (hrep : ∀ (j : Nat) (u : AV) (v : Value), cs[j]? = some u → vs[j]? = some v → Rep C ok w u v) : Rep C ok w (.agg cs) (.agg vs)
  | tup {cs : List AV} {vs : Array Value} (hl : cs.length = vs.size) (hrep : ∀ (j : Nat) (u : AV) (v : Value), cs[j]? = some u → vs[j]? = some v → Rep C ok w u v) : Rep C ok w (.tup cs) (.tuple vs)
  | fn {f : FuncId} {cs : List AV} {vs : Array Value} (hl : cs.length = vs.size) (hrep : ∀ (j : Nat) (u : AV) (v : Value), cs[j]? = some u → vs[j]? = some v → Rep C ok w u v) :
      Rep C ok w (.fn f cs) (.func (.func f) #[] vs)

theorem mem_keysL {k : Nat} {cs : List AV} : k ∈ AV.keysL cs ↔ ∃ (j : Nat) (u : AV), cs[j]? = some u ∧ k ∈ u.keys := by
  induction cs with
  | nil => simp [AV.keysL]
  | cons v vs ih =>
    simp only [AV.keysL, List.mem_append, ih]
    constructor
    · rintro (h | ⟨j, u, hj, hk⟩)
      · exact ⟨0, v, rfl, h⟩
      · exact ⟨j + 1, u, by simpa using hj, hk⟩
    · rintro ⟨j, u, hj, hk⟩
      cases j with
      | zero => simp at hj; subst hj; exact .inl hk
      | succ j => exact .inr ⟨j, u, by simpa using hj, hk⟩

theorem Rep.mono {C C' : Conc} {ok ok' : Nat → Prop} {w w' : World} (hok : ∀ b, ok b → ok' b) (hw : ∀ b, ok b → w'.heap[b]? = w.heap[b]?) {u : AV} {v : Value} (h : Rep C ok w u v) :
    (∀ k ∈ u.keys, C' k = C k) → Rep C' ok' w' u v := by
  induction h with
  | data h => exact fun _ => .data (h.mono hok hw)
  | ptr h => exact fun hC => .ptr ((hC _ (by simp [AV.keys])).trans h)
  | sl h hn hc => exact fun hC => .sl ((hC _ (by simp [AV.keys])).trans h) hn hc
  | nilsl h => exact fun hC => .nilsl ((hC _ (by simp [AV.keys])).trans h)
  | agg hl _ ih => exact fun hC => .agg hl fun j u v hj hv => ih j u v hj hv fun k hk => hC k (by simp only [AV.keys]; exact mem_keysL.2 ⟨j, u, hj, hk⟩)
  | tup hl _ ih => exact fun hC => .tup hl fun j u v hj hv => ih j u v hj hv fun k hk => hC k (by simp only [AV.keys]; exact mem_keysL.2 ⟨j, u, hj, hk⟩)
  | fn hl _ ih => exact fun hC => .fn hl fun j u v hj hv => ih j u v hj hv fun k hk => hC k (by simp only [AV.keys]; exact mem_keysL.2 ⟨j, u, hj, hk⟩)

/-! ### Readings -/
section
variable {C : Conc} {ok : Nat → Prop} {w : World} {v : Value}
theorem Rep.int_inv {k : IntKind} {n : Int} (h : Rep C ok w (.int k n) v) : v = .int k n := by cases h with | data h => cases h; rfl
theorem Rep.bool_inv {b : Bool} (h : Rep C ok w (.bool b) v) : v = .bool b := by cases h with | data h => cases h; rfl
theorem Rep.str_inv {s : ByteArray} (h : Rep C ok w (.str s) v) : v = .string s := by cases h with | data h => cases h; rfl
theorem Rep.imm_inv {nl : Bool} {sz : Nat} {es : List (List AV)} (h : Rep C ok w (.imm nl sz es) v) : RepI ok w (.imm nl sz es) v := by cases h with | data h => exact h
theorem Rep.ref_inv {cs : List AV} (h : Rep C ok w (.ref cs) v) : RepI ok w (.ref cs) v := by cases h with | data h => exact h
theorem Rep.ptr_inv {o : Nat} {i off : Nat} (h : Rep C ok w (.ptr o i off) v) : ∃ L, C o = some L ∧ v = .pointer (some ⟨L.block, i * L.sz + off, none⟩) := by
  cases h with
  | data h => cases h
  | ptr h => exact ⟨_, h, rfl⟩
theorem Rep.sl_inv {o : Nat} {i n : Nat} (h : Rep C ok w (.sl o i n) v) :
    (∃ L c, C o = some L ∧ v = .slice (some ⟨L.block, i * L.sz, none⟩) n c ∧ n ≤ c ∧ i + c = L.cap) ∨ (C o = none ∧ v = .slice none 0 0 ∧ i = 0 ∧ n = 0) := by
  cases h with
  | data h => cases h
  | sl h hn hc => exact .inl ⟨_, _, h, rfl, hn, hc⟩
  | nilsl h => exact .inr ⟨h, rfl, rfl, rfl⟩
theorem Rep.agg_inv {cs : List AV} (h : Rep C ok w (.agg cs) v) : ∃ vs : Array Value, v = .agg vs ∧ cs.length = vs.size ∧ ∀ (j : Nat) (u : AV) (x : Value), cs[j]? = some u → vs[j]? = some x → Rep C ok w u x := by
  cases h with
  | data h =>
    cases h with
    | agg hl hrep => exact ⟨_, rfl, hl, fun j u x hj hx => .data (hrep j u x hj hx)⟩
  | agg hl hrep => exact ⟨_, rfl, hl, hrep⟩
theorem Rep.tup_inv {cs : List AV} (h : Rep C ok w (.tup cs) v) : ∃ vs : Array Value, v = .tuple vs ∧ cs.length = vs.size ∧ ∀ (j : Nat) (u : AV) (x : Value), cs[j]? = some u → vs[j]? = some x → Rep C ok w u x := by
  cases h with
  | data h => cases h
  | tup hl hrep => exact ⟨_, rfl, hl, hrep⟩
theorem Rep.fn_inv {f : FuncId} {cs : List AV} (h : Rep C ok w (.fn f cs) v) : ∃ vs : Array Value, v = .func (.func f) #[] vs ∧ cs.length = vs.size ∧ ∀ (j : Nat) (u : AV) (x : Value), cs[j]? = some u → vs[j]? = some x → Rep C ok w u x := by
  cases h with
  | data h => cases h
  | fn hl hrep => exact ⟨_, rfl, hl, hrep⟩

/-- A value of one cell. -/
theorem Rep.oneCell {u : AV} (h : Rep C ok w u v) (hu : u.isCell = true) : v.oneCell' = true := by
  cases h with
  | data h => cases h <;> first | rfl | simp [AV.isCell] at hu
  | ptr | sl | nilsl => rfl
  | agg => simp [AV.isCell] at hu
  | tup => simp [AV.isCell] at hu
  | fn => simp [AV.isCell] at hu

/-- What names no row is data. -/
theorem Rep.toI {u : AV} (h : Rep C ok w u v) (hk : u.keys = []) (hu : u.isCell = true ∨ u = .undef) : RepI ok w u v := by
  cases h with
  | data h => exact h
  | ptr | sl | nilsl => simp [AV.keys] at hk
  | agg | tup | fn => simp [AV.isCell] at hu

/-- The cells of a value, each with its reading. -/
theorem Rep.cells {u : AV} (h : Rep C ok w u v) (hu : u ≠ .undef) :
    u.cells.length = v.cells.size ∧ ∀ (j : Nat) (x : AV) (y : Value), u.cells[j]? = some x → v.cells[j]? = some y → Rep C ok w x y := by
  cases hu' : u with
  | agg cs =>
    subst hu'
    obtain ⟨vs, rfl, hl, hr⟩ := h.agg_inv
    exact ⟨hl, hr⟩
  | _ =>
    subst hu'
    have hv : v.cells = #[v] := by
      cases h <;> first | rfl | (rename_i h; cases h <;> first | rfl | exact absurd rfl hu)
    simp only [AV.cells, hv]
    refine ⟨rfl, fun j x y hj hy => ?_⟩
    cases j with
    | zero => simp at hj hy; subst hj; subst hy; exact h
    | succ j => simp at hj
end

/-- The blocks in which data may lie: those that the caller let, and what is new but for the rows that may still be written. -/
def okb (B : Nat) (ok0 : Nat → Prop) (C : Conc) (H : Nat → Option Obj) (F : Nat → Bool) (w : World) (b : Nat) : Prop :=
  b < w.heap.size ∧ ok0 b ∧ ∀ k o L, H k = some o → F k = false → C k = some L → L.block ≠ b

/-- A row of the call's own, as it lies. -/
structure RowOk (C : Conc) (ok : Nat → Prop) (w : World) (k : Nat) (o : Obj) : Prop where
  cells : ∀ cs ∈ o.es, cs.length = o.sz
  one : ∀ cs ∈ o.es, ∀ u ∈ cs, u.isCell = true ∨ u = .undef
  refs : ∀ cs ∈ o.es, ∀ x ∈ AV.keysL cs, x ∈ o.refs
  place : match C k with
    | none => o.es = []
    | some L => L.sz = o.sz ∧ L.ty = o.ty ∧ ∃ cur, w.heap[L.block]? = some (.cells cur L.ty (0, 0)) ∧ cur.size = L.cap * L.sz ∧ o.es.length ≤ L.cap ∧ L.cap ≤ maxLen ∧
        ∀ (i : Nat) (cs : List AV) (j : Nat) (u : AV), o.es[i]? = some cs → cs[j]? = some u → ∃ v, cur[i * L.sz + j]? = some v ∧ Rep C ok w u v

structure SimH (B : Nat) (ok0 : Nat → Prop) (w0 : World) (C : Conc) (H : Nat → Option Obj) (F : Nat → Bool) (w : World) : Prop where
  below : Below B w0 w
  base : B ≤ w.heap.size
  row : ∀ k o, H k = some o → RowOk C (okb B ok0 C H F w) w k o
  blk : ∀ k o L, H k = some o → C k = some L → B ≤ L.block
  inj : ∀ k k' o o' L L', H k = some o → H k' = some o' → C k = some L → C k' = some L' → L.block = L'.block → k = k'
  wf : ∀ k o x, H k = some o → x ∈ o.refs → H x ≠ none
  up : ∀ b, w.heap.size ≤ b → ok0 b
  okrow : ∀ k o L, H k = some o → C k = some L → ok0 L.block
  keep : ∀ b, b < w0.heap.size → ¬ ok0 b → w.heap[b]? = w0.heap[b]?

/-- What lay there before is as the caller let it; what is new is free. -/
def upto (ok0 : Nat → Prop) (w : World) : Nat → Prop := fun b => b < w.heap.size → ok0 b

theorem RowOk.mono {C C' : Conc} {ok ok' : Nat → Prop} {w w' : World} {k : Nat} {o : Obj} (h : RowOk C ok w k o) (hok : ∀ b, ok b → ok' b) (hw : ∀ b, ok b → w'.heap[b]? = w.heap[b]?)
    (hk : C' k = C k) (hC : ∀ x ∈ o.refs, C' x = C x) (hb : ∀ L, C k = some L → w'.heap[L.block]? = w.heap[L.block]?) : RowOk C' ok' w' k o := by
  refine ⟨h.cells, h.one, h.refs, ?_⟩
  have hp := h.place
  rw [hk]
  cases hL : C k with
  | none => rw [hL] at hp; exact hp
  | some L =>
    rw [hL] at hp
    simp only at hp ⊢
    obtain ⟨h1, h2, cur, h3, h4, h5, h6, h7⟩ := hp
    refine ⟨h1, h2, cur, (hb L hL).trans h3, h4, h5, h6, fun i cs j u hi hj => ?_⟩
    obtain ⟨v, hv, hr⟩ := h7 i cs j u hi hj
    exact ⟨v, hv, hr.mono hok hw fun x hx => hC x (h.refs cs (List.mem_of_getElem? hi) x (mem_keysL.2 ⟨j, u, hj, hx⟩))⟩

section
variable {B : Nat} {ok0 : Nat → Prop} {w0 : World} {C : Conc} {H : Nat → Option Obj} {F : Nat → Bool} {w : World}

theorem SimH.lt (h : SimH B ok0 w0 C H F w) {k : Nat} {o : Obj} {L : Loc} (hk : H k = some o) (hL : C k = some L) : L.block < w.heap.size := by
  have hp := (h.row k o hk).place
  rw [hL] at hp
  obtain ⟨_, _, cur, h3, _⟩ := hp
  exact (Array.getElem?_eq_some_iff.1 h3).1

/-- More rows are frozen. -/
theorem SimH.freeze (h : SimH B ok0 w0 C H F w) {F' : Nat → Bool} (hF : ∀ k, F k = true → F' k = true) :
    SimH B ok0 w0 C H F' w ∧ ∀ b, okb B ok0 C H F w b → okb B ok0 C H F' w b := by
  have hok : ∀ b, okb B ok0 C H F w b → okb B ok0 C H F' w b := fun b hb =>
    ⟨hb.1, hb.2.1, fun k o L hk hf hL => hb.2.2 k o L hk (by cases hfk : F k with | false => rfl | true => rw [hF k hfk] at hf; cases hf) hL⟩
  exact ⟨⟨h.below, h.base, fun k o hk => (h.row k o hk).mono hok (fun _ _ => rfl) rfl (fun _ _ => rfl) (fun _ _ => rfl), h.blk, h.inj, h.wf, h.up, h.okrow, h.keep⟩, hok⟩

def setC (C : Conc) (k : Nat) (L : Option Loc) : Conc := fun x => if x = k then L else C x
def setH (H : Nat → Option Obj) (k : Nat) (o : Obj) : Nat → Option Obj := fun x => if x = k then some o else H x
theorem setC_self (C : Conc) (k : Nat) (L : Option Loc) : setC C k L k = L := by simp [setC]
theorem setC_ne (C : Conc) {k x : Nat} (L : Option Loc) (h : x ≠ k) : setC C k L x = C x := by simp [setC, h]
theorem setH_self (H : Nat → Option Obj) (k : Nat) (o : Obj) : setH H k o k = some o := by simp [setH]
theorem setH_ne (H : Nat → Option Obj) {k x : Nat} (o : Obj) (h : x ≠ k) : setH H k o x = H x := by simp [setH, h]

theorem RepI.keys {ok : Nat → Prop} {u : AV} {v : Value} (h : RepI ok w u v) : u.keys = [] := by
  induction h with
  | agg hl hrep ih =>
    rename_i cs vs
    simp only [AV.keys]
    refine List.eq_nil_iff_forall_not_mem.2 fun k hk => ?_
    obtain ⟨j, u, hj, hku⟩ := mem_keysL.1 hk
    have hlt : j < vs.size := by rw [← hl]; exact (List.getElem?_eq_some_iff.1 hj).1
    rw [ih j u vs[j] hj (Array.getElem?_eq_getElem hlt)] at hku
    simp at hku
  | _ => rfl

/-- A row is made, or turned: at a place of its own, where no data lies. -/
theorem SimH.set (h : SimH B ok0 w0 C H F w) {k : Nat} {o' : Obj} {L : Loc} {w' : World} (hbel : Below B w w') (hLB : B ≤ L.block) (hLok : ok0 L.block)
    (hblocks : ∀ b, b < w.heap.size → b ≠ L.block → w'.heap[b]? = w.heap[b]?) (hfresh : ∀ x o'' L', x ≠ k → H x = some o'' → C x = some L' → L'.block ≠ L.block)
    (hok : ∀ b, okb B ok0 C H F w b → b ≠ L.block) (hCk : C k = some L ∨ ∀ x o'', x ≠ k → H x = some o'' → k ∉ o''.refs)
    (hrow : RowOk (setC C k (some L)) (okb B ok0 (setC C k (some L)) (setH H k o') F w') w' k o') (hwf : ∀ x ∈ o'.refs, x ≠ k → H x ≠ none) :
    SimH B ok0 w0 (setC C k (some L)) (setH H k o') F w' ∧ (∀ b, okb B ok0 C H F w b → okb B ok0 (setC C k (some L)) (setH H k o') F w' b) ∧ (∀ b, okb B ok0 C H F w b → w'.heap[b]? = w.heap[b]?) := by
  have hsize := hbel.size
  have hok' : ∀ b, okb B ok0 C H F w b → okb B ok0 (setC C k (some L)) (setH H k o') F w' b := by
    intro b hb
    refine ⟨Nat.lt_of_lt_of_le hb.1 hsize, hb.2.1, fun x ox Lx h1 h2 h3 => ?_⟩
    by_cases e : x = k
    · subst e; rw [setC_self] at h3; cases h3; exact fun e => hok b hb e.symm
    · rw [setC_ne _ _ e] at h3; rw [setH_ne _ _ e] at h1; exact hb.2.2 x ox Lx h1 h2 h3
  have hheap : ∀ b, okb B ok0 C H F w b → w'.heap[b]? = w.heap[b]? := fun b hb => hblocks b hb.1 (hok b hb)
  refine ⟨⟨h.below.trans hbel, Nat.le_trans h.base hsize, fun x ox hx => ?_, fun x ox Lx h1 h2 => ?_, fun x y ox oy Lx Ly h1 h2 h3 h4 h5 => ?_, fun x ox y h1 h2 => ?_, fun b hb => h.up b (Nat.le_trans hsize hb), fun x ox Lx h1 h2 => ?_, fun b hb hn => (hblocks b (Nat.lt_of_lt_of_le hb h.below.size) (by rintro rfl; exact hn hLok)).trans (h.keep b hb hn)⟩, hok', hheap⟩
  · by_cases e : x = k
    · subst e; rw [setH_self] at hx; cases hx; exact hrow
    · rw [setH_ne _ _ e] at hx
      refine (h.row x ox hx).mono hok' hheap (setC_ne _ _ e) (fun y hy => ?_) fun Lx hLx => hblocks _ (h.lt hx hLx) (hfresh x ox Lx e hx hLx)
      by_cases ey : y = k
      · subst ey
        rcases hCk with hc | hc
        · rw [setC_self, hc]
        · exact absurd hy (hc x ox e hx)
      · exact setC_ne _ _ ey
  · by_cases e : x = k
    · subst e; rw [setC_self] at h2; cases h2; exact hLB
    · rw [setC_ne _ _ e] at h2; rw [setH_ne _ _ e] at h1; exact h.blk x ox Lx h1 h2
  · by_cases e : x = k
    · by_cases e' : y = k
      · rw [e, e']
      · exfalso
        subst e; rw [setC_self] at h3; cases h3
        rw [setC_ne _ _ e'] at h4; rw [setH_ne _ _ e'] at h2
        exact hfresh y oy Ly e' h2 h4 h5.symm
    · by_cases e' : y = k
      · exfalso
        subst e'; rw [setC_self] at h4; cases h4
        rw [setC_ne _ _ e] at h3; rw [setH_ne _ _ e] at h1
        exact hfresh x ox Lx e h1 h3 h5
      · rw [setC_ne _ _ e] at h3; rw [setH_ne _ _ e] at h1; rw [setC_ne _ _ e'] at h4; rw [setH_ne _ _ e'] at h2
        exact h.inj x y ox oy Lx Ly h1 h2 h3 h4 h5
  · by_cases ey : y = k
    · subst ey; rw [setH_self]; simp
    · rw [setH_ne _ _ ey]
      by_cases e : x = k
      · subst e; rw [setH_self] at h1; cases h1; exact hwf y h2 ey
      · rw [setH_ne _ _ e] at h1; exact h.wf x ox y h1 h2
  · by_cases e : x = k
    · subst e; rw [setC_self] at h2; cases h2; exact hLok
    · rw [setC_ne _ _ e] at h2; rw [setH_ne _ _ e] at h1; exact h.okrow x ox Lx h1 h2

/-- A new row at the end of the heap. -/
theorem SimH.new (h : SimH B ok0 w0 C H F w) {k : Nat} (hk : H k = none) {o' : Obj} {L : Loc} (hL : L.block = w.heap.size) {cur : Array Value} (hcur : cur.size = L.cap * L.sz)
    (hsz : L.sz = o'.sz) (hty : L.ty = o'.ty) (hcap : o'.es.length ≤ L.cap) (hmax : L.cap ≤ maxLen) (hcells : ∀ cs ∈ o'.es, cs.length = o'.sz) (hone : ∀ cs ∈ o'.es, ∀ u ∈ cs, u.isCell = true ∨ u = .undef) (hrefs : ∀ cs ∈ o'.es, ∀ x ∈ AV.keysL cs, x ∈ o'.refs)
    (hdom : ∀ x ∈ o'.refs, H x ≠ none)
    (hrep : ∀ (i : Nat) (cs : List AV) (j : Nat) (u : AV), o'.es[i]? = some cs → cs[j]? = some u → ∃ v, cur[i * L.sz + j]? = some v ∧ Rep C (okb B ok0 C H F w) w u v) :
    SimH B ok0 w0 (setC C k (some L)) (setH H k o') F (w.alloc (.cells cur L.ty)) ∧ (∀ b, okb B ok0 C H F w b → okb B ok0 (setC C k (some L)) (setH H k o') F (w.alloc (.cells cur L.ty)) b) ∧
      (∀ b, okb B ok0 C H F w b → (w.alloc (.cells cur L.ty)).heap[b]? = w.heap[b]?) := by
  have hne : ∀ b, okb B ok0 C H F w b → b ≠ L.block := fun b hb => by have := hb.1; omega
  have hbl : ∀ b, b < w.heap.size → b ≠ L.block → (w.alloc (.cells cur L.ty)).heap[b]? = w.heap[b]? := fun b hb _ => Below.heap_alloc w _ b hb
  have hsize : w.heap.size ≤ (w.alloc (.cells cur L.ty)).heap.size := by simp
  refine h.set ((Below.refl _ _).alloc h.base _) (by rw [hL]; exact h.base) (by rw [hL]; exact h.up _ (Nat.le_refl _)) hbl (fun x o'' L' _ h1 h2 => by have := h.lt h1 h2; omega) hne
    (.inr fun x o'' _ h1 hx => h.wf x o'' k h1 hx hk) ⟨hcells, hone, hrefs, ?_⟩ (fun x hx _ => hdom x hx)
  rw [setC_self]
  refine ⟨hsz, hty, cur, by rw [hL]; exact heap_alloc_new w _, hcur, hcap, hmax, fun i cs j u hi hj => ?_⟩
  obtain ⟨v, hv, hr⟩ := hrep i cs j u hi hj
  refine ⟨v, hv, hr.mono (fun b hb => ?_) (fun b hb => hbl b hb.1 (hne b hb)) fun x hx => setC_ne _ _ ?_⟩
  · refine ⟨Nat.lt_of_lt_of_le hb.1 hsize, hb.2.1, fun x ox Lx h1 h2 h3 => ?_⟩
    by_cases e : x = k
    · subst e; rw [setC_self] at h3; cases h3; exact fun e => hne b hb e.symm
    · rw [setC_ne _ _ e] at h3; rw [setH_ne _ _ e] at h1; exact hb.2.2 x ox Lx h1 h2 h3
  · rintro rfl
    exact hdom _ (hrefs cs (List.mem_of_getElem? hi) _ (mem_keysL.2 ⟨j, u, hj, hx⟩)) hk
end
end Go.Ev

/-
  The operations without a call: what the evaluator says of them is what the model does.
-/
namespace Go.Ev
open Go Go.RowKit

def upsH (H : Nat → Option Obj) : List (Nat × Obj) → Nat → Option Obj
  | [] => H
  | (k, o) :: r => upsH (setH H k o) r

def St.app (S : St) (d : Option Nat) (e : Eff) : St :=
  { slot := fun t => if d = some t then e.val else S.slot t, heap := upsH S.heap e.ups, frz := fun k => e.frz.contains k || S.frz k }

/-- Where a call began: the blocks in which data lay, the world, the rows and their places; 'R': the rows whose place may have turned since. -/
structure Entry where
  ok : Nat → Prop
  w : World
  C : Conc
  D : Nat → Prop
  R : List Nat

structure Sim (N B : Nat) (ok0 : Nat → Prop) (w0 : World) (E : Entry) (C : Conc) (S : St) (a : Act) (w : World) : Prop where
  h : SimH B ok0 w0 C S.heap S.frz w
  slot : ∀ t, Rep C (okb B ok0 C S.heap S.frz w) w (S.slot t) (a.tmps.getD t undef)
  wfs : ∀ t k, k ∈ (S.slot t).keys → S.heap k ≠ none
  defers : a.defers = []
  size : N ≤ a.tmps.size
  ent : (∀ b, E.ok b → okb B ok0 C S.heap S.frz w b ∧ w.heap[b]? = E.w.heap[b]?) ∧ ∀ k, E.D k → S.heap k ≠ none ∧ (k ∉ E.R → C k = E.C k)

def SimX (N B : Nat) (ok0 : Nat → Prop) (w0 : World) (E : Entry) (S : St) (a : Act) (w : World) : Prop := ∃ C, Sim N B ok0 w0 E C S a w

section
variable {N B : Nat} {ok0 : Nat → Prop} {w0 : World} {E : Entry} {C : Conc} {S : St} {a : Act} {w : World} {P : Program} {ks : Kinds} {fid : FuncId}

theorem Act.put_tmps (a : Act) (d : Option Nat) (v : Value) (t : Nat) (hd : ∀ x, d = some x → x < a.tmps.size) : (a.put d v).tmps.getD t undef = if d = some t then v else a.tmps.getD t undef := by
  cases d with
  | none => simp [Act.put]
  | some x =>
    have hx := hd x rfl
    simp only [Act.put, Array.getD_eq_getD_getElem?, Array.getElem?_setIfInBounds, Option.some.injEq]
    by_cases e : x = t
    · subst e; simp [hx]
    · simp [e]

theorem Act.put_size (a : Act) (d : Option Nat) (v : Value) : (a.put d v).tmps.size = a.tmps.size := by cases d <;> simp [Act.put]
theorem Act.put_defers' (a : Act) (d : Option Nat) (v : Value) : (a.put d v).defers = a.defers := by cases d <;> rfl

/-- A slot is written; the memory may have turned where nobody looks. -/
theorem Sim.put (hs : Sim N B ok0 w0 E C S a w) {C' : Conc} {H' : Nat → Option Obj} {F' : Nat → Bool} {w' : World} (h' : SimH B ok0 w0 C' H' F' w')
    (hC : ∀ k, S.heap k ≠ none → C' k = C k) (hok : ∀ b, okb B ok0 C S.heap S.frz w b → okb B ok0 C' H' F' w' b) (hw : ∀ b, okb B ok0 C S.heap S.frz w b → w'.heap[b]? = w.heap[b]?)
    (hdom : ∀ k, S.heap k ≠ none → H' k ≠ none) {u : AV} {v : Value} (hr : Rep C' (okb B ok0 C' H' F' w') w' u v) (hk : ∀ k ∈ u.keys, H' k ≠ none) {d : Option Nat} (hd : ∀ x, d = some x → x < N) :
    Sim N B ok0 w0 E C' { slot := fun t => if d = some t then u else S.slot t, heap := H', frz := F' } (a.put d v) w' := by
  refine ⟨h', fun t => ?_, fun t k hk' => ?_, by rw [Act.put_defers']; exact hs.defers, by rw [Act.put_size]; exact hs.size, fun b hb => ⟨hok b (hs.ent.1 b hb).1, (hw b (hs.ent.1 b hb).1).trans (hs.ent.1 b hb).2⟩,
    fun k hk => ⟨hdom k (hs.ent.2 k hk).1, fun hR => (hC k (hs.ent.2 k hk).1).trans ((hs.ent.2 k hk).2 hR)⟩⟩
  · rw [Act.put_tmps a d v t (fun x hx => Nat.lt_of_lt_of_le (hd x hx) hs.size)]
    simp only
    split
    · exact hr
    · exact (hs.slot t).mono hok hw fun k hk' => hC k (hs.wfs t k hk')
  · simp only at hk' ⊢
    split at hk'
    · exact hk k hk'
    · exact hdom k (hs.wfs t k hk')

/-- An operation that yields a value and leaves the memory alone (rows may be frozen). -/
theorem Sim.value (hs : Sim N B ok0 w0 E C S a w) {e : Eff} (hu : e.ups = []) {v : Value} (hr : Rep C (okb B ok0 C S.heap (S.app none e).frz w) w e.val v) (hk : ∀ k ∈ e.val.keys, S.heap k ≠ none)
    {d : Option Nat} (hd : ∀ x, d = some x → x < N) : SimX N B ok0 w0 E (S.app d e) (a.put d v) w := by
  obtain ⟨h', hok⟩ := hs.h.freeze (F' := (S.app none e).frz) (fun k hk => by simp [St.app, hk])
  refine ⟨C, ?_⟩
  have := hs.put h' (fun _ _ => rfl) hok (fun _ _ => rfl) (fun _ h => h) hr hk hd
  simpa [St.app, hu, upsH] using this

theorem wp_of_value {o : Oper} {K : Act → World → Prop} {Q : Exit → Act → World → Prop} {v : Value} {w' : World} (h : (execOp a.eval o).run P w = .ok (.value v) w') (hK : K (a.put o.dst v) w') : o.wp P a w K Q := by
  unfold Oper.wp; rw [h]; exact hK

theorem wp_of_skip {o : Oper} {K : Act → World → Prop} {Q : Exit → Act → World → Prop} {w' : World} (h : (execOp a.eval o).run P w = .ok .skip w') (hK : K (a.put o.dst undef) w') : o.wp P a w K Q := by
  unfold Oper.wp; rw [h]; exact hK

/-! ### Operands -/

theorem constAV_rep {ok : Nat → Prop} {t : TypeId} {v : Value} {u : AV} (h : constAV P t v = some u) : RepI ok w u v ∧ u.keys = [] := by
  unfold constAV at h
  split at h
  · cases h; exact ⟨.int _ _, rfl⟩
  · cases h; exact ⟨.bool _, rfl⟩
  · cases h; exact ⟨.str _, rfl⟩
  · cases h; exact ⟨.nilp, rfl⟩
  · split at h
    · cases h; exact ⟨.nils _, rfl⟩
    · cases h
  · cases h

theorem Sim.ev (hs : Sim N B ok0 w0 E C S a w) {t : TypeId} {x : Operand} {y : AX} (h : axOf P t x = some y) :
    Rep C (okb B ok0 C S.heap S.frz w) w (S.ev y) (a.eval x) ∧ ∀ k ∈ (S.ev y).keys, S.heap k ≠ none := by
  cases x with
  | tmp n => simp only [axOf] at h; cases h; exact ⟨hs.slot n, hs.wfs n⟩
  | const v =>
    simp only [axOf, Option.map_eq_some_iff] at h
    obtain ⟨u, hu, rfl⟩ := h
    obtain ⟨h1, h2⟩ := constAV_rep hu
    exact ⟨.data h1, by simp [St.ev, h2]⟩
  | func f => simp only [axOf] at h; cases h; exact ⟨.fn (by simp) (by simp), by simp [St.ev, AV.keys, AV.keysL]⟩
  | global g => simp [axOf] at h

theorem zOkV_rep {ok : Nat → Prop} {z : AV} {v : Value} (h : zOkV z v = true) : RepI ok w z v ∧ z.keys = [] ∧ z.isCell = true := by
  unfold zOkV at h
  split at h
  · simp at h; subst h; exact ⟨.bool _, rfl, rfl⟩
  · simp at h; obtain ⟨rfl, rfl⟩ := h; exact ⟨.int _ _, rfl, rfl⟩
  · simp at h; subst h; exact ⟨.str _, rfl, rfl⟩
  · exact ⟨.nilp, rfl, rfl⟩
  · exact ⟨.nils _, rfl, rfl⟩
  · cases h

theorem zOkL_rep {ok : Nat → Prop} : ∀ {z : List AV} {vs : List Value}, zOkL z vs = true → z.length = vs.length ∧ (∀ (j : Nat) (u : AV) (v : Value), z[j]? = some u → vs[j]? = some v → RepI ok w u v) ∧ AV.keysL z = [] ∧ ∀ u ∈ z, u.isCell = true
  | [], [], _ => ⟨rfl, by simp, rfl, by simp⟩
  | z :: zs, v :: vs, h => by
    simp only [zOkL, Bool.and_eq_true] at h
    obtain ⟨h1, h2, h3⟩ := zOkV_rep (w := w) (ok := ok) h.1
    obtain ⟨i1, i2, i3, i4⟩ := zOkL_rep (ok := ok) h.2
    refine ⟨by simp [i1], fun j u x hj hx => ?_, by simp [AV.keysL, h2, i3], by simpa [h3] using i4⟩
    cases j with
    | zero => simp at hj hx; subst hj; subst hx; exact h1
    | succ j => exact i2 j u x (by simpa using hj) (by simpa using hx)
  | [], _ :: _, h => by simp [zOkL] at h
  | _ :: _, [], h => by simp [zOkL] at h

theorem zeroC_rep {t : TypeId} {z : List AV} (h : zeroC P t = some z) : ∃ i v, P.info? t = some i ∧ i.zero = some v ∧ zOkL z v.cells.toList = true := by
  unfold zeroC at h
  split at h
  · rename_i z' v h1 h2
    split at h
    · rename_i h3
      cases h
      obtain ⟨i, hi, hz⟩ := Option.bind_eq_some_iff.1 h2
      exact ⟨i, v, hi, hz, h3⟩
    · cases h
  · cases h

/-! ### Arithmetic -/

theorem if_some {p : Prop} [Decidable p] {z : Option AV} {r : AV} (hh : (if p then z else none) = some r) : p ∧ z = some r := by split at hh <;> simp_all
theorem if_none {p : Prop} [Decidable p] {z : Option AV} {r : AV} (hh : (if p then none else z) = some r) : ¬ p ∧ z = some r := by split at hh <;> simp_all

theorem run_binI {op : BinOp} {t : TypeId} {k k' : IntKind} {n n' : Int} {r : AV} {ok : Nat → Prop} (h : binI op k n k' n' = some r) :
    ∃ v, (binOp op t (.int k n) (.int k' n')).run P w = .ok v w ∧ RepI ok w r v ∧ r.keys = [] := by
  cases op with
  | shl => simp only [binI] at h; obtain ⟨h0, h2⟩ := if_none h; cases h2; refine ⟨_, ?_, .int _ _, rfl⟩; rw [binOp_shl]; simp [Op.shift, h0]
  | shr => simp only [binI] at h; obtain ⟨h0, h2⟩ := if_none h; cases h2; refine ⟨_, ?_, .int _ _, rfl⟩; rw [binOp_shr]; simp [Op.shift, h0]
  | quo => simp only [binI] at h; obtain ⟨e, h1⟩ := if_some h; clear h; subst e; obtain ⟨h0, h2⟩ := if_none h1; cases h2; refine ⟨_, ?_, .int _ _, rfl⟩; rw [binOp_quo]; simp [Op.intDiv, h0]
  | rem => simp only [binI] at h; obtain ⟨e, h1⟩ := if_some h; clear h; subst e; obtain ⟨h0, h2⟩ := if_none h1; cases h2; refine ⟨_, ?_, .int _ _, rfl⟩; rw [binOp_rem]; simp [Op.intDiv, h0]
  | add => simp only [binI] at h; obtain ⟨e, h1⟩ := if_some h; clear h; subst e; cases h1; refine ⟨_, ?_, .int _ _, rfl⟩; rw [binOp_add]; rfl
  | sub => simp only [binI] at h; obtain ⟨e, h1⟩ := if_some h; clear h; subst e; cases h1; refine ⟨_, ?_, .int _ _, rfl⟩; rw [binOp_sub]; rfl
  | mul => simp only [binI] at h; obtain ⟨e, h1⟩ := if_some h; clear h; subst e; cases h1; refine ⟨_, ?_, .int _ _, rfl⟩; rw [binOp_mul]; rfl
  | and => simp only [binI] at h; obtain ⟨e, h1⟩ := if_some h; clear h; subst e; cases h1; refine ⟨_, ?_, .int _ _, rfl⟩; rw [binOp_and]; rfl
  | or => simp only [binI] at h; obtain ⟨e, h1⟩ := if_some h; clear h; subst e; cases h1; refine ⟨_, ?_, .int _ _, rfl⟩; rw [binOp_or]; rfl
  | xor => simp only [binI] at h; obtain ⟨e, h1⟩ := if_some h; clear h; subst e; cases h1; refine ⟨_, ?_, .int _ _, rfl⟩; rw [binOp_xor]; rfl
  | andNot => simp only [binI] at h; obtain ⟨e, h1⟩ := if_some h; clear h; subst e; cases h1; refine ⟨_, ?_, .int _ _, rfl⟩; rw [binOp_andNot]; rfl
  | eql => simp only [binI] at h; obtain ⟨e, h1⟩ := if_some h; clear h; subst e; cases h1; refine ⟨_, ?_, .bool _, rfl⟩; rw [binOp_eql]; rfl
  | neq => simp only [binI] at h; obtain ⟨e, h1⟩ := if_some h; clear h; subst e; cases h1; refine ⟨_, ?_, .bool _, rfl⟩; rw [binOp_neq]; rfl
  | lss => simp only [binI] at h; obtain ⟨e, h1⟩ := if_some h; clear h; subst e; cases h1; refine ⟨_, ?_, .bool _, rfl⟩; rw [binOp_lss]; rfl
  | leq => simp only [binI] at h; obtain ⟨e, h1⟩ := if_some h; clear h; subst e; cases h1; refine ⟨_, ?_, .bool _, rfl⟩; rw [binOp_leq]; rfl
  | gtr => simp only [binI] at h; obtain ⟨e, h1⟩ := if_some h; clear h; subst e; cases h1; refine ⟨_, ?_, .bool _, rfl⟩; rw [binOp_gtr]; rfl
  | geq => simp only [binI] at h; obtain ⟨e, h1⟩ := if_some h; clear h; subst e; cases h1; refine ⟨_, ?_, .bool _, rfl⟩; rw [binOp_geq]; rfl

theorem run_binB {op : BinOp} {t : TypeId} {b b' : Bool} {r : AV} {ok : Nat → Prop} (ht : P.underlying t = some .bool) (h : binB op b b' = some r) :
    ∃ v, (binOp op t (.bool b) (.bool b')).run P w = .ok v w ∧ RepI ok w r v ∧ r.keys = [] := by
  cases op with
  | eql => cases h; exact ⟨_, run_eql_bool w t b b' ht, .bool _, rfl⟩
  | neq => cases h; exact ⟨_, run_neq_bool w t b b' ht, .bool _, rfl⟩
  | _ => cases h

theorem run_binOp {op : BinOp} {t : TypeId} {x y r : AV} {vx vy : Value} {ok : Nat → Prop} (hx : Rep C ok w x vx) (hy : Rep C ok w y vy) (h : binE op x y = some r) :
    ∃ k n k' n' v, vx = .int k n ∧ vy = .int k' n' ∧ (binOp op t vx vy).run P w = .ok v w ∧ RepI ok w r v ∧ r.keys = [] := by
  cases x <;> cases y <;> first | (cases h; done) | skip
  obtain ⟨v, h1, h2, h3⟩ := run_binI (P := P) (w := w) (t := t) (ok := ok) h
  exact ⟨_, _, _, _, v, hx.int_inv, hy.int_inv, by rw [hx.int_inv, hy.int_inv]; exact h1, h2, h3⟩

theorem run_binbOp {op : BinOp} {t : TypeId} {x y r : AV} {vx vy : Value} {ok : Nat → Prop} (ht : P.underlying t = some .bool) (hx : Rep C ok w x vx) (hy : Rep C ok w y vy) (h : binbE op x y = some r) :
    ∃ b b' v, vx = .bool b ∧ vy = .bool b' ∧ (binOp op t vx vy).run P w = .ok v w ∧ RepI ok w r v ∧ r.keys = [] := by
  cases x <;> cases y <;> first | (cases h; done) | skip
  obtain ⟨v, h1, h2, h3⟩ := run_binB (P := P) (w := w) (t := t) (ok := ok) ht h
  exact ⟨_, _, v, hx.bool_inv, hy.bool_inv, by rw [hx.bool_inv, hy.bool_inv]; exact h1, h2, h3⟩

theorem run_unOp {op : UnOp} {x r : AV} {vx : Value} {ok : Nat → Prop} (hx : Rep C ok w x vx) (h : unE op x = some r) : ∃ v, (Op.unary op vx).run P w = .ok v w ∧ RepI ok w r v ∧ r.keys = [] := by
  unfold unE at h
  split at h
  · obtain rfl := hx.int_inv
    cases op <;> simp only at h <;> first | (cases h; done) | skip
    · cases h; refine ⟨_, ?_, .int _ _, rfl⟩; simp [Op.unary, Op.intArith]
    · cases h; refine ⟨_, ?_, .int _ _, rfl⟩; simp [Op.unary, Op.intBits]
  · obtain rfl := hx.bool_inv
    cases op <;> simp only at h <;> first | (cases h; done) | skip
    cases h; refine ⟨_, ?_, .bool _, rfl⟩; simp [Op.unary]
  · cases h

end
end Go.Ev

/-
  Loads, stores, new rows, addresses, slices.
-/
namespace Go.Ev
open Go Go.RowKit

section
variable {N B : Nat} {ok0 : Nat → Prop} {w0 : World} {E : Entry} {C : Conc} {S : St} {a : Act} {w : World} {P : Program}

theorem okT_info {t : TypeId} (h : okT P t = true) : ∃ i d, P.info? t = some i ∧ P.underlying t = some d := by
  unfold okT at h
  obtain ⟨d, hd⟩ := Option.isSome_iff_exists.1 h
  cases hi : P.info? t with
  | none => simp [Program.underlying, hi] at hd
  | some i => exact ⟨i, d, rfl, hd⟩

theorem run_isAgg {t : TypeId} (h : okT P t = true) (w : World) : (isAgg t).run P w = .ok (isAggT P t) w := by
  obtain ⟨i, d, _, hd⟩ := okT_info h
  simp only [isAgg, Sem.run_bind, run_underlying hd, Result.andThen_ok, isAggT, hd]
  cases d <;> rfl

theorem cellsOf_info {t : TypeId} {i : TypeInfo} (hi : P.info? t = some i) : P.cellsOf t = i.size := by simp [Program.cellsOf, hi]
theorem bytesOf_info {t : TypeId} {i : TypeInfo} (hi : P.info? t = some i) : P.bytesOf t = i.bytes := by simp [Program.bytesOf, hi]

theorem run_sizeOf {t : TypeId} (h : okT P t = true) (w : World) : (sizeOf t).run P w = .ok (P.cellsOf t) w := by
  obtain ⟨i, d, hi, _⟩ := okT_info h
  simp [sizeOf, typeInfo, hi, cellsOf_info hi]

theorem elemT_under {t e : TypeId} (h : elemT P t = some e) : P.underlying t = some (.slice e) := by
  unfold elemT at h
  split at h
  · rename_i e' hu; cases h; exact hu
  · cases h

/-- What can be read from a pointer on. -/
theorem at_rep {F : Nat → Bool} {x : AV} {v : Value} {cs : List AV} (h : SimH B ok0 w0 C S.heap F w) (hx : Rep C (okb B ok0 C S.heap F w) w x v) (hat : S.at x = some cs) :
    ∃ ad, v = .pointer (some ad) ∧ (∀ (j : Nat) (u : AV), cs[j]? = some u → ∃ y, w.cell? (ad.add j) = some y ∧ Rep C (okb B ok0 C S.heap F w) w u y) ∧ ∀ k ∈ AV.keysL cs, S.heap k ≠ none := by
  unfold St.at at hat
  split at hat
  · cases hat
    have h1 := hx.ref_inv
    cases h1 with
    | ref vs hok hcell hrep =>
      refine ⟨_, rfl, fun j u hj => ⟨vs j, hcell j u hj, .data (hrep j u hj)⟩, fun k hk => ?_⟩
      obtain ⟨j, u, hj, hku⟩ := mem_keysL.1 hk
      rw [(hrep j u hj).keys] at hku
      simp at hku
  · rename_i o i off
    obtain ⟨L, hL, rfl⟩ := hx.ptr_inv
    split at hat
    · rename_i ob hob
      split at hat
      · rename_i cs0 hcs
        cases hat
        have hr := h.row o ob hob
        have hp := hr.place
        rw [hL] at hp
        obtain ⟨h1, h2, cur, h3, h4, h5, h6, h7⟩ := hp
        refine ⟨_, rfl, fun j u hj => ?_, fun k hk => ?_⟩
        · rw [List.getElem?_drop] at hj
          obtain ⟨y, hy, hry⟩ := h7 i cs0 (off + j) u hcs hj
          refine ⟨y, ?_, hry⟩
          rw [add_mk, cell_of_row w L.block _ cur L.ty (0, 0) h3, ← hy]
          congr 1
          omega
        · obtain ⟨j, u, hj, hku⟩ := mem_keysL.1 hk
          rw [List.getElem?_drop] at hj
          exact h.wf o ob k hob (hr.refs cs0 (List.mem_of_getElem? hcs) k (mem_keysL.2 ⟨_, u, hj, hku⟩))
      · cases hat
    · cases hat
  · cases hat

theorem run_loads {ad : Addr} {cs : List AV} {ok : Nat → Prop} (h : ∀ (j : Nat) (u : AV), cs[j]? = some u → ∃ y, w.cell? (ad.add j) = some y ∧ Rep C ok w u y) :
    ∃ vs : Array Value, (loadCells ad cs.length).run P w = .ok vs w ∧ cs.length = vs.size ∧ ∀ (j : Nat) (u : AV) (y : Value), cs[j]? = some u → vs[j]? = some y → Rep C ok w u y := by
  have hf : ∀ j, j < cs.length → w.cell? (ad.add j) = some ((w.cell? (ad.add j)).getD undef) := fun j hj => by
    obtain ⟨y, hy, _⟩ := h j cs[j] (List.getElem?_eq_getElem hj)
    rw [hy]; rfl
  refine ⟨_, run_loadCells w ad cs.length _ hf, by simp, fun j u y hj hy => ?_⟩
  obtain ⟨y', hy', hr⟩ := h j u hj
  have hlt : j < cs.length := (List.getElem?_eq_some_iff.1 hj).1
  simp [hlt, hy'] at hy
  subst hy
  exact hr

theorem s_load {t : TypeId} {x : AV} {v : Value} {r : AV} {F : Nat → Bool} (ht : okT P t = true) (h : SimH B ok0 w0 C S.heap F w) (hx : Rep C (okb B ok0 C S.heap F w) w x v)
    (hr : (match loadN P t, S.at x with | none, some (c :: _) => some c | some n, some cs => if n ≤ cs.length then some (.agg (cs.take n)) else none | _, _ => none) = some r) :
    ∃ y, (Instr.loadAt t v).run P w = .ok y w ∧ Rep C (okb B ok0 C S.heap F w) w r y ∧ ∀ k ∈ r.keys, S.heap k ≠ none := by
  cases hat : S.at x with
  | none => rw [hat] at hr; split at hr <;> simp_all
  | some cs =>
    rw [hat] at hr
    obtain ⟨ad, rfl, hcell, hkeys⟩ := at_rep h hx hat
    simp only [Instr.loadAt, Instr.sureAddr, Sem.run_bind, Sem.run_pure, Result.andThen_ok, loadVar, run_isAgg ht]
    unfold loadN at hr
    cases hagg : isAggT P t with
    | false =>
      rw [hagg] at hr
      cases cs with
      | nil => simp at hr
      | cons c rest =>
        simp at hr
        subst hr
        obtain ⟨y, hy, hrep⟩ := hcell 0 c rfl
        have hy' : w.cell? ad = some y := by simpa [Addr.add] using hy
        exact ⟨y, by simp [hy'], hrep, fun k hk => hkeys k (by simp [AV.keysL, hk])⟩
    | true =>
      rw [hagg] at hr
      simp only [if_true, Option.ite_none_right_eq_some] at hr
      obtain ⟨hn, hr⟩ := hr
      cases hr
      have hlen : (cs.take (P.cellsOf t)).length = P.cellsOf t := by simp; omega
      obtain ⟨vs, hv1, hv2, hv3⟩ := run_loads (P := P) (cs := cs.take (P.cellsOf t)) (fun j u hj => hcell j u (by rw [List.getElem?_take] at hj; split at hj <;> simp_all))
      rw [hlen] at hv1
      refine ⟨.agg vs, by simp [run_sizeOf ht, hv1], .agg hv2 hv3, fun k hk => ?_⟩
      simp only [AV.keys] at hk
      obtain ⟨j, u, hj, hku⟩ := mem_keysL.1 hk
      exact hkeys k (mem_keysL.2 ⟨j, u, by rw [List.getElem?_take] at hj; split at hj <;> simp_all, hku⟩)

theorem seg_get {α : Type} (cs new : List α) (off j : Nat) (h : off + new.length ≤ cs.length) :
    (cs.take off ++ new ++ cs.drop (off + new.length))[j]? = if j < off then cs[j]? else if j < off + new.length then new[j - off]? else cs[j]? := by
  by_cases c1 : j < off
  · rw [if_pos c1, List.append_assoc, List.getElem?_append_left (by simp; omega), List.getElem?_take, if_pos c1]
  · rw [if_neg c1]
    by_cases c2 : j < off + new.length
    · rw [if_pos c2, List.append_assoc, List.getElem?_append_right (by simp; omega), List.getElem?_append_left (by simp; omega)]
      congr 1
      simp
      omega
    · rw [if_neg c2, List.getElem?_append_right (by simp; omega), List.getElem?_drop]
      congr 1
      simp
      omega

theorem splice_length {cs new : List AV} {off : Nat} (h : off + new.length ≤ cs.length) : (splice cs off new).length = cs.length := by simp [splice]; omega

theorem splice_get {cs new : List AV} {off j : Nat} (h : off + new.length ≤ cs.length) : (splice cs off new)[j]? = if j < off then cs[j]? else if j < off + new.length then new[j - off]? else cs[j]? :=
  seg_get cs new off j h

theorem keysL_splice {cs new : List AV} {off : Nat} {k : Nat} (h : off + new.length ≤ cs.length) (hk : k ∈ AV.keysL (splice cs off new)) : k ∈ AV.keysL new ∨ k ∈ AV.keysL cs := by
  obtain ⟨j, u, hj, hku⟩ := mem_keysL.1 hk
  rw [splice_get h] at hj
  split at hj
  · exact .inr (mem_keysL.2 ⟨j, u, hj, hku⟩)
  · split at hj
    · exact .inl (mem_keysL.2 ⟨_, u, hj, hku⟩)
    · exact .inr (mem_keysL.2 ⟨j, u, hj, hku⟩)

theorem arr_of_segs (cur : List Value) (o : Nat) (vs : List Value) (h : o + vs.length ≤ cur.length) (j : Nat) :
    (cur.take o ++ vs ++ cur.drop (o + vs.length)).toArray[j]? = if j < o then cur[j]? else if j < o + vs.length then vs[j - o]? else cur[j]? := by
  rw [List.getElem?_toArray]; exact seg_get cur vs o j h

theorem cells_keys {u : AV} {k : Nat} (h : k ∈ AV.keysL u.cells) : k ∈ u.keys := by
  cases u with
  | agg cs => exact h
  | _ => rcases mem_keysL.1 h with ⟨j, u, hj, hk⟩; cases j <;> simp at hj; subst hj; exact hk

theorem s_store {t : TypeId} {o : Nat} {i off : Nat} {u : AV} {vx v : Value} {ob : Obj} {cs : List AV} {F : Nat → Bool} (ht : okT P t = true) (h : SimH B ok0 w0 C S.heap F w)
    (hx : Rep C (okb B ok0 C S.heap F w) w (.ptr o i off) vx) (hv : Rep C (okb B ok0 C S.heap F w) w u v) (hk : ∀ k ∈ u.keys, S.heap k ≠ none)
    (hob : S.heap o = some ob) (hcs : ob.es[i]? = some cs) (hf : F o = false) (hn : u.cells.length = P.cellsOf t) (hoff : off + P.cellsOf t ≤ cs.length) (hcell : u.cells.all AV.isCell = true) :
    ∃ w', (Instr.storeAt t vx v).run P w = .ok () w' ∧ Below B w w' ∧
      SimH B ok0 w0 C (setH S.heap o { ob with es := ob.es.set i (splice cs off u.cells), refs := AV.keysL u.cells ++ ob.refs }) F w' ∧
      (∀ b, okb B ok0 C S.heap F w b → okb B ok0 C (setH S.heap o { ob with es := ob.es.set i (splice cs off u.cells), refs := AV.keysL u.cells ++ ob.refs }) F w' b) ∧
      (∀ b, okb B ok0 C S.heap F w b → w'.heap[b]? = w.heap[b]?) := by
  obtain ⟨L, hL, rfl⟩ := hx.ptr_inv
  have hund : u ≠ .undef := by rintro rfl; simp at hcell
  obtain ⟨hc1, hc2⟩ := hv.cells hund
  have hr := h.row o ob hob
  have hp := hr.place
  rw [hL] at hp
  obtain ⟨h1, h2, cur, h3, h4, h5, h6, h7⟩ := hp
  have hcsl : cs.length = L.sz := by rw [hr.cells cs (List.mem_of_getElem? hcs), h1]
  have hi : i < ob.es.length := (List.getElem?_eq_some_iff.1 hcs).1
  have hvl : v.cells.toList.length = P.cellsOf t := by simp [← hc1, hn]
  have hroom : i * L.sz + off + P.cellsOf t ≤ cur.size := by
    have : (i + 1) * L.sz ≤ L.cap * L.sz := Nat.mul_le_mul_right _ (by omega)
    rw [Nat.add_mul, Nat.one_mul] at this
    omega
  have hone : ∀ x ∈ v.cells.toList, x.oneCell' = true := by
    intro x hx'
    obtain ⟨j, hj⟩ := List.getElem?_of_mem hx'
    have hj' : v.cells[j]? = some x := by simpa using hj
    have hlt : j < u.cells.length := by rw [hc1]; exact (Array.getElem?_eq_some_iff.1 hj').1
    have hmem : u.cells[j] ∈ u.cells := List.getElem_mem hlt
    exact (hc2 j _ x (List.getElem?_eq_getElem hlt) hj').oneCell (List.all_eq_true.1 hcell _ hmem)
  have hst := run_storeCells_at P L.block (i * L.sz + off) L.ty v.cells.toList 0 cur w h3 (by rw [hvl]; simpa using hroom) hone
  have hinst : (Instr.storeAt t (.pointer (some ⟨L.block, i * L.sz + off, none⟩)) v).run P w = .ok () (w.setRow L.block (cur.toList.take (i * L.sz + off) ++ v.cells.toList ++ cur.toList.drop (i * L.sz + off + P.cellsOf t)).toArray) := by
    have hne : v.cells.size = P.cellsOf t := by rw [← hc1, hn]
    simp only [Instr.storeAt, Instr.sureAddr, storeVar, Sem.run_bind, Sem.run_pure, Result.andThen_ok, run_sizeOf ht, hne, ne_eq, not_true_eq_false, if_false]
    simpa [hvl] using hst
  generalize hcur' : (cur.toList.take (i * L.sz + off) ++ v.cells.toList ++ cur.toList.drop (i * L.sz + off + P.cellsOf t)).toArray = cur' at hinst
  have hget : ∀ j : Nat, cur'[j]? = if j < i * L.sz + off then cur[j]? else if j < i * L.sz + off + P.cellsOf t then v.cells[j - (i * L.sz + off)]? else cur[j]? := by
    intro j
    have := arr_of_segs cur.toList (i * L.sz + off) v.cells.toList (by rw [hvl]; simpa using hroom) j
    rw [hvl] at this
    rw [← hcur', this]
    simp
  have hlt := h.lt hob hL
  have hbl : ∀ b, b < w.heap.size → b ≠ L.block → (w.setRow L.block cur').heap[b]? = w.heap[b]? := fun b _ hne => setRow_other w L.block b _ hne
  have hsz : (w.setRow L.block cur').heap.size = w.heap.size := by simp [World.setRow]
  have hbel : Below B w (w.setRow L.block cur') := ⟨rfl, rfl, rfl, by rw [hsz]; exact Nat.le_refl _, fun k hk' => hbl k (by have := h.base; omega) (by have := h.blk o ob L hob hL; omega)⟩
  have hCs : setC C o (some L) = C := by funext x; by_cases e : x = o <;> simp [setC, e, hL]
  have hok : ∀ b, okb B ok0 C S.heap F w b → b ≠ L.block := fun b hb e => hb.2.2 o ob L hob hf hL e.symm
  have hokm : ∀ b, okb B ok0 C S.heap F w b → okb B ok0 C (setH S.heap o { ob with es := ob.es.set i (splice cs off u.cells), refs := AV.keysL u.cells ++ ob.refs }) F (w.setRow L.block cur') b := by
    intro b hb
    refine ⟨by rw [hsz]; exact hb.1, hb.2.1, fun x ox Lx g1 g2 g3 => ?_⟩
    by_cases e : x = o
    · subst e; rw [hL] at g3; cases g3; exact fun e => hok b hb e.symm
    · rw [setH_ne _ _ e] at g1; exact hb.2.2 x ox Lx g1 g2 g3
  have hheap : ∀ b, okb B ok0 C S.heap F w b → (w.setRow L.block cur').heap[b]? = w.heap[b]? := fun b hb => hbl b hb.1 (hok b hb)
  have hmono : ∀ {u' : AV} {y : Value}, Rep C (okb B ok0 C S.heap F w) w u' y → Rep C (okb B ok0 C (setH S.heap o { ob with es := ob.es.set i (splice cs off u.cells), refs := AV.keysL u.cells ++ ob.refs }) F (w.setRow L.block cur')) (w.setRow L.block cur') u' y :=
    fun hh => hh.mono hokm hheap fun _ _ => rfl
  refine ⟨_, hinst, hbel, ?_⟩
  have hnl : off + u.cells.length ≤ cs.length := by omega
  have key := h.set (k := o) (o' := { ob with es := ob.es.set i (splice cs off u.cells), refs := AV.keysL u.cells ++ ob.refs }) (L := L) hbel (h.blk o ob L hob hL) (h.okrow o ob L hob hL) hbl
    (fun x o'' L' hne g1 g2 e => hne (h.inj x o o'' ob L' L g1 hob g2 hL e)) hok (.inl hL) (by
      rw [hCs]
      refine ⟨fun c hc => ?_, fun c hc x hx => ?_, fun c hc x hx => ?_, ?_⟩
      · rcases List.mem_or_eq_of_mem_set hc with hc | rfl
        · exact hr.cells c hc
        · rw [splice_length hnl, hr.cells cs (List.mem_of_getElem? hcs)]
      · rcases List.mem_or_eq_of_mem_set hc with hc | rfl
        · exact hr.one c hc x hx
        · obtain ⟨j, hj⟩ := List.getElem?_of_mem hx
          rw [splice_get hnl] at hj
          split at hj
          · exact hr.one cs (List.mem_of_getElem? hcs) x (List.mem_of_getElem? hj)
          · split at hj
            · exact .inl (List.all_eq_true.1 hcell x (List.mem_of_getElem? hj))
            · exact hr.one cs (List.mem_of_getElem? hcs) x (List.mem_of_getElem? hj)
      · rcases List.mem_or_eq_of_mem_set hc with hc | rfl
        · exact List.mem_append.2 (.inr (hr.refs c hc x hx))
        · rcases keysL_splice hnl hx with hx | hx
          · exact List.mem_append.2 (.inl hx)
          · exact List.mem_append.2 (.inr (hr.refs cs (List.mem_of_getElem? hcs) x hx))
      · rw [hL]
        refine ⟨h1, h2, cur', setRow_heap w L.block cur _ L.ty _ h3, ?_, by simpa using h5, h6, fun i' cs' j u' hi' hj' => ?_⟩
        · rw [← h4, ← hcur']; simp [hvl]; omega
        · simp only [List.getElem?_set] at hi'
          rw [hget]
          have hcut : ∀ (q : Nat) (c : List AV) (x : AV), ob.es[q]? = some c → c[j]? = some x → q * L.sz + j < q * L.sz + L.sz := fun q c x g1 g2 => by
            have : j < c.length := (List.getElem?_eq_some_iff.1 g2).1
            rw [hr.cells c (List.mem_of_getElem? g1), ← h1] at this
            omega
          by_cases ei : i = i'
          · subst ei
            rw [if_pos rfl, if_pos hi] at hi'
            cases hi'
            rw [splice_get hnl] at hj'
            by_cases c1 : j < off
            · rw [if_pos c1] at hj'
              rw [if_pos (by omega)]
              obtain ⟨y, g1, g2⟩ := h7 i cs j u' hcs hj'
              exact ⟨y, g1, hmono g2⟩
            · rw [if_neg c1] at hj'
              rw [if_neg (by omega)]
              by_cases c2 : j < off + u.cells.length
              · rw [if_pos c2] at hj'
                rw [if_pos (by omega)]
                have hlt' : j - off < v.cells.size := by omega
                refine ⟨v.cells[j - off], ?_, hmono (hc2 (j - off) u' _ hj' (Array.getElem?_eq_getElem hlt'))⟩
                rw [show i * L.sz + j - (i * L.sz + off) = j - off by omega, Array.getElem?_eq_getElem hlt']
              · rw [if_neg c2] at hj'
                rw [if_neg (by omega)]
                obtain ⟨y, g1, g2⟩ := h7 i cs j u' hcs hj'
                exact ⟨y, g1, hmono g2⟩
          · rw [if_neg ei] at hi'
            obtain ⟨y, g1, g2⟩ := h7 i' cs' j u' hi' hj'
            have g3 := hcut i' cs' u' hi' hj'
            refine ⟨y, ?_, hmono g2⟩
            rcases Nat.lt_or_gt_of_ne ei with lt | gt
            · have : (i + 1) * L.sz ≤ i' * L.sz := Nat.mul_le_mul_right _ lt
              rw [Nat.add_mul, Nat.one_mul] at this
              rw [if_neg (by omega), if_neg (by omega)]
              exact g1
            · have : (i' + 1) * L.sz ≤ i * L.sz := Nat.mul_le_mul_right _ gt
              rw [Nat.add_mul, Nat.one_mul] at this
              rw [if_pos (by omega)]
              exact g1)
    (fun x hx _ => by
      rcases List.mem_append.1 hx with hx | hx
      · exact hk x (cells_keys hx)
      · exact h.wf o ob x hob hx)
  rw [hCs] at key
  exact key

/-- A new variable, with a value's cells. -/
theorem s_newVar {k : Nat} {e : TypeId} {u : AV} {v : Value} {F : Nat → Bool} (h : SimH B ok0 w0 C S.heap F w) (hk : S.heap k = none) (hl : u.cells.length = v.cells.size)
    (hv : ∀ (j : Nat) (x : AV) (y : Value), u.cells[j]? = some x → v.cells[j]? = some y → Rep C (okb B ok0 C S.heap F w) w x y) (hkk : ∀ x ∈ AV.keysL u.cells, S.heap x ≠ none) (hone : ∀ x ∈ u.cells, x.isCell = true ∨ x = .undef) :
    ∃ L : Loc, (newVar e v).run P w = .ok ⟨L.block, 0, none⟩ (w.alloc (.cells v.cells e)) ∧
      SimH B ok0 w0 (setC C k (some L)) (setH S.heap k { sz := u.cells.length, ty := e, es := [u.cells], refs := AV.keysL u.cells }) F (w.alloc (.cells v.cells e)) ∧
      (∀ b, okb B ok0 C S.heap F w b → okb B ok0 (setC C k (some L)) (setH S.heap k { sz := u.cells.length, ty := e, es := [u.cells], refs := AV.keysL u.cells }) F (w.alloc (.cells v.cells e)) b) ∧
      (∀ b, okb B ok0 C S.heap F w b → (w.alloc (.cells v.cells e)).heap[b]? = w.heap[b]?) := by
  refine ⟨{ block := w.heap.size, ty := e, sz := u.cells.length, cap := 1 }, by simp [newVar, newRow], ?_⟩
  refine h.new hk (L := { block := w.heap.size, ty := e, sz := u.cells.length, cap := 1 }) (o' := { sz := u.cells.length, ty := e, es := [u.cells], refs := AV.keysL u.cells }) rfl (cur := v.cells) (by simp [hl]) rfl rfl (by simp) (by simp [maxLen]) (by simp) (by simpa using hone) (by simp) (by simpa using hkk) (fun i cs j x hi hj => ?_)
  cases i with
  | zero =>
    simp at hi
    subst hi
    have hlt : j < v.cells.size := by rw [← hl]; exact (List.getElem?_eq_some_iff.1 hj).1
    exact ⟨v.cells[j], by simp [hlt], hv j x _ hj (Array.getElem?_eq_getElem hlt)⟩
  | succ i => simp at hi

end
end Go.Ev

/-
  Addresses, slices, parts of values, rows of literals, make.
-/
namespace Go.Ev
open Go Go.RowKit

section
variable {N B : Nat} {ok0 : Nat → Prop} {w0 : World} {E : Entry} {C : Conc} {S : St} {a : Act} {w : World} {P : Program} {ok : Nat → Prop}

theorem RepI.ref_drop {cs : List AV} {ad : Addr} (n : Nat) (h : RepI ok w (.ref cs) (.pointer (some ad))) : RepI ok w (.ref (cs.drop n)) (.pointer (some (ad.add n))) := by
  cases h with
  | ref vs hok hcell hrep =>
    refine .ref (fun j => vs (n + j)) (by rw [block_add]; exact hok) (fun j u hj => ?_) (fun j u hj => ?_)
    · rw [List.getElem?_drop] at hj; rw [add_add]; exact hcell _ u hj
    · rw [List.getElem?_drop] at hj; exact hrep _ u hj

def faddrA (off : Nat) : AV → Option AV
  | .ref cs => some (.ref (cs.drop off))
  | .ptr o i g => some (.ptr o i (g + off))
  | _ => none

theorem s_faddr {s : TypeId} {fs : Array Field} {f : Nat} {fd : Field} {x r : AV} {v : Value} (hs : P.underlying s = some (.struct fs)) (hf : fs[f]? = some fd) (hz : P.cellsOf fd.type ≠ 0) (ht : okT P fd.type = true)
    (hx : Rep C ok w x v) (hr : faddrA fd.offset x = some r) :
    ∃ y, (Instr.fieldAt s v f).run P w = .ok y w ∧ Rep C ok w r y ∧ ∀ k ∈ r.keys, k ∈ x.keys := by
  have key : ∀ ad, (Instr.fieldAt s (.pointer (some ad)) f).run P w = .ok (.pointer (some (ad.add fd.offset))) w := fun ad => by
    simp [Instr.fieldAt, run_underlying hs, hf, Instr.sureAddr, fieldPlace, run_sizeOf ht, hz]
  cases x with
  | ref cs =>
    cases hr
    have h1 := hx.ref_inv
    cases h1 with
    | ref vs hok hcell hrep => exact ⟨_, key _, .data ((RepI.ref vs hok hcell hrep).ref_drop _), by simp [AV.keys]⟩
  | ptr o i g =>
    cases hr
    obtain ⟨L, hL, rfl⟩ := hx.ptr_inv
    refine ⟨_, key _, ?_, by simp [AV.keys]⟩
    rw [add_mk, Nat.add_assoc]
    exact .ptr hL
  | _ => cases hr

theorem s_field {s : TypeId} {fs : Array Field} {f : Nat} {fd : Field} {cs : List AV} {r : AV} {v : Value} (hs : P.underlying s = some (.struct fs)) (hf : fs[f]? = some fd) (ht : okT P fd.type = true)
    (hx : Rep C ok w (.agg cs) v) (hr : (match loadN P fd.type with | none => cs[fd.offset]? | some n => if fd.offset + n ≤ cs.length then some (.agg ((cs.drop fd.offset).take n)) else none) = some r) :
    ∃ y, (Instr.field s v f).run P w = .ok y w ∧ Rep C ok w r y ∧ ∀ k ∈ r.keys, k ∈ AV.keysL cs := by
  obtain ⟨vs, rfl, hl, hv⟩ := hx.agg_inv
  simp only [Instr.field, Sem.run_bind, run_underlying hs, Result.andThen_ok, hf, asAgg, Sem.run_pure, part, run_isAgg ht]
  unfold loadN at hr
  cases hagg : isAggT P fd.type with
  | false =>
    rw [hagg] at hr
    simp only [Bool.false_eq_true, if_false] at hr ⊢
    have hlt : fd.offset < vs.size := by rw [← hl]; exact (List.getElem?_eq_some_iff.1 hr).1
    refine ⟨vs[fd.offset], by simp [hlt], hv _ _ _ hr (Array.getElem?_eq_getElem hlt), fun k hk => mem_keysL.2 ⟨_, _, hr, hk⟩⟩
  | true =>
    rw [hagg] at hr
    simp only [if_true, Option.ite_none_right_eq_some] at hr ⊢
    obtain ⟨hn, hr⟩ := hr
    cases hr
    have sub : ∀ (j : Nat) (u : AV), ((cs.drop fd.offset).take (P.cellsOf fd.type))[j]? = some u → j < P.cellsOf fd.type ∧ cs[fd.offset + j]? = some u := fun j u hj => by
      rw [List.getElem?_take] at hj
      split at hj
      · rw [List.getElem?_drop] at hj; exact ⟨by assumption, hj⟩
      · cases hj
    refine ⟨.agg (vs.extract fd.offset (fd.offset + P.cellsOf fd.type)), by simp [run_sizeOf ht], .agg (by simp; omega) (fun j u y hj hy => ?_), fun k hk => ?_⟩
    · obtain ⟨h1, h2⟩ := sub j u hj
      rw [Array.getElem?_extract] at hy
      split at hy
      · exact hv _ u y h2 hy
      · cases hy
    · obtain ⟨j, u, hj, hku⟩ := mem_keysL.1 hk
      exact mem_keysL.2 ⟨_, u, (sub j u hj).2, hku⟩

theorem run_indexAt_in {t e : TypeId} {ad : Addr} {len cap : Nat} {k : IntKind} {i : Int} (hu : P.underlying t = some (.slice e)) (ht : okT P e = true) (h0 : 0 ≤ i) (h1 : i < len) :
    (Instr.indexAt t (.slice (some ad) len cap) (.int k i)).run P w = .ok (.pointer (some (ad.add (i.toNat * P.cellsOf e)))) w := by
  simp [Instr.indexAt, asIntOf, run_underlying hu, h0, h1, run_sizeOf ht]

theorem s_iaddr_imm {t e : TypeId} {nl : Bool} {es : List (List AV)} {cs : List AV} {v : Value} {k : IntKind} {i : Int} (hu : P.underlying t = some (.slice e)) (ht : okT P e = true)
    (hx : Rep C ok w (.imm nl (P.cellsOf e) es) v) (hcs : es[i.toNat]? = some cs) (h0 : 0 ≤ i) :
    ∃ y, (Instr.indexAt t v (.int k i)).run P w = .ok y w ∧ Rep C ok w (.ref cs) y := by
  have hlt : i.toNat < es.length := (List.getElem?_eq_some_iff.1 hcs).1
  have h1 := hx.imm_inv
  cases h1 with
  | nils => simp at hlt
  | imm ad vs hn hc hA hsz hcell hrep =>
    obtain ⟨rfl, hok⟩ := hA (by rintro rfl; simp at hlt)
    subst hn
    refine ⟨_, run_indexAt_in hu ht h0 (by omega), .data (.ref (fun j => vs i.toNat j) (by rw [block_add]; exact hok) (fun j u hj => ?_) fun j u hj => hrep _ _ _ _ hcs hj)⟩
    rw [add_add]; exact hcell _ _ _ _ hcs hj

theorem s_iaddr_sl {F : Nat → Bool} {t e : TypeId} {o : Nat} {i0 len : Nat} {ob : Obj} {v : Value} {k : IntKind} {i : Int} (hu : P.underlying t = some (.slice e)) (ht : okT P e = true) (h : SimH B ok0 w0 C S.heap F w)
    (hx : Rep C ok w (.sl o i0 len) v) (hob : S.heap o = some ob) (hsz : ob.sz = P.cellsOf e) (h0 : 0 ≤ i) (h1 : i < len) :
    ∃ y, (Instr.indexAt t v (.int k i)).run P w = .ok y w ∧ Rep C ok w (.ptr o (i0 + i.toNat) 0) y := by
  rcases hx.sl_inv with ⟨L, c, hL, rfl, hn, hc⟩ | ⟨_, rfl, rfl, rfl⟩
  · refine ⟨_, run_indexAt_in hu ht h0 h1, ?_⟩
    have hp := (h.row o ob hob).place
    rw [hL] at hp
    rw [add_mk, ← hsz, ← hp.1, ← Nat.add_mul]
    exact .ptr hL
  · omega

theorem s_slice_imm {nl : Bool} {sz : Nat} {es : List (List AV)} {A : Option Addr} {n c : Nat} {l h m : Nat} (hx : RepI ok w (.imm nl sz es) (.slice A n c)) (h1 : l ≤ h) (h2 : h ≤ es.length) (h3 : h ≤ m) (h4 : m ≤ c) :
    RepI ok w (.imm nl sz ((es.take h).drop l)) (sliced A l h m sz) := by
  cases hx with
  | nils =>
    obtain rfl : m = 0 := by omega
    obtain rfl : h = 0 := by simp at h2; omega
    obtain rfl : l = 0 := by omega
    simpa [sliced] using RepI.nils (ok := ok) (w := w) sz
  | imm ad vs hn hc hA hsz hcell hrep =>
    have sub : ∀ (i : Nat) (cs : List AV), ((es.take h).drop l)[i]? = some cs → es[l + i]? = some cs := fun i cs hi => by
      rw [List.getElem?_drop, List.getElem?_take] at hi; split at hi <;> simp_all
    have hlen : ((es.take h).drop l).length = h - l := by simp; omega
    refine .imm (ad.add (l * sz)) (fun i j => vs (l + i) j) hlen.symm (by rw [hlen]; omega) (fun hne => ?_) (fun cs hcs => ?_) (fun i cs j u hi hj => ?_) (fun i cs j u hi hj => hrep _ cs j u (sub i cs hi) hj)
    · have hlt : l < h := by
        rcases Nat.lt_or_ge l h with g | g
        · exact g
        · exact absurd (List.eq_nil_of_length_eq_zero (by rw [hlen]; omega)) hne
      obtain ⟨rfl, hok⟩ := hA (by rintro rfl; simp at h2; omega)
      exact ⟨by rw [if_neg (by omega)]; rfl, by rw [block_add]; exact hok⟩
    · obtain ⟨i, hi⟩ := List.getElem?_of_mem hcs
      exact hsz cs (List.mem_of_getElem? (sub i cs hi))
    · rw [add_add, ← Nat.add_assoc, ← Nat.add_mul]
      exact hcell _ cs j u (sub i cs hi) hj

theorem run_slice_gen {t e : TypeId} {A : Option Addr} {n c : Nat} {lo hi mx : Option Value} {l h m : Nat} (hu : P.underlying t = some (.slice e)) (ht : okT P e = true)
    (hm : (mx = none ∧ m = c) ∨ ∃ k, mx = some (.int k m)) (hmc : m ≤ c) (hh : (hi = none ∧ mx = none ∧ h = n) ∨ ∃ k, hi = some (.int k h)) (hhm : h ≤ m) (hl : (lo = none ∧ l = 0) ∨ ∃ k, lo = some (.int k l)) (hlh : l ≤ h) :
    (Instr.sliceAt t (.slice A n c) lo hi mx).run P w = .ok (sliced A l h m (P.cellsOf e)) w := by
  have b1 : ∀ (k : IntKind) (i y : Nat) (code : BoundsCode), i ≤ y → (Instr.sliceBound (.int k i) y code).run P w = .ok i w := fun k i y code hi => by
    simp [Instr.sliceBound, asIntOf, hi]
  simp only [Instr.sliceAt, Sem.run_bind, run_underlying hu, Result.andThen_ok, Instr.slice, Instr.sliceBounds]
  rcases hm with ⟨rfl, rfl⟩ | ⟨k1, rfl⟩
  · rcases hh with ⟨rfl, _, rfl⟩ | ⟨k2, rfl⟩
    · rcases hl with ⟨rfl, rfl⟩ | ⟨k3, rfl⟩
      · simp [run_sizeOf ht, sliced]
      · simp [b1 k3 l h _ hlh, run_sizeOf ht, sliced]
    · rcases hl with ⟨rfl, rfl⟩ | ⟨k3, rfl⟩
      · simp [b1 k2 h m _ hhm, run_sizeOf ht, sliced]
      · simp [b1 k2 h m _ hhm, b1 k3 l h _ hlh, run_sizeOf ht, sliced]
  · rcases hh with ⟨_, hc, _⟩ | ⟨k2, rfl⟩
    · cases hc
    · rcases hl with ⟨rfl, rfl⟩ | ⟨k3, rfl⟩
      · simp [b1 k1 m c _ hmc, b1 k2 h m _ hhm, run_sizeOf ht, sliced]
      · simp [b1 k1 m c _ hmc, b1 k2 h m _ hhm, b1 k3 l h _ hlh, run_sizeOf ht, sliced]

/-! ### Deep readings: rows by value -/

theorem mapO_spec {α β : Type} {f : α → Option (β × List Nat)} : ∀ {l : List α} {l' : List β} {ks : List Nat}, mapO f l = some (l', ks) →
    l'.length = l.length ∧ ∀ (i : Nat) (x : α) (y : β), l[i]? = some x → l'[i]? = some y → ∃ ks', f x = some (y, ks') ∧ ∀ k ∈ ks', k ∈ ks
  | [], l', ks, h => by cases h; simp
  | x :: r, l', ks, h => by
    simp only [mapO] at h
    split at h
    · rename_i b ks1 hb
      split at h
      · rename_i bs ks2 hbs
        cases h
        obtain ⟨h1, h2⟩ := mapO_spec hbs
        refine ⟨by simp [h1], fun i y z hy hz => ?_⟩
        cases i with
        | zero => simp at hy hz; subst hy; subst hz; exact ⟨ks1, hb, fun k hk => by simp [hk]⟩
        | succ i =>
          obtain ⟨ks', h3, h4⟩ := h2 i y z (by simpa using hy) (by simpa using hz)
          exact ⟨ks', h3, fun k hk => by simp [h4 k hk]⟩
      · cases h
    · cases h

theorem noKeys {ok : Nat → Prop} {k : Nat} {o : Obj} (h : RowOk C ok w k o) (hr : o.refs = []) {c : List AV} (hc : c ∈ o.es) {j : Nat} {x : AV} (hj : c[j]? = some x) : x.keys = [] :=
  List.eq_nil_iff_forall_not_mem.2 fun k hk => by
    have := h.refs c hc k (mem_keysL.2 ⟨j, x, hj, hk⟩)
    rw [hr] at this
    simp at this

/-- What 'fz' gives is data, once the rows that it read are frozen. -/
theorem fz_rep {F : Nat → Bool} (h : SimH B ok0 w0 C S.heap F w) {ok' : Nat → Prop} (hsub : ∀ b, okb B ok0 C S.heap F w b → ok' b) :
    ∀ (d : Nat) (u : AV) (v : Value) (u' : AV) (ks : List Nat), fz S.heap d u = some (u', ks) → (∀ k ∈ ks, ∀ L, C k = some L → ok' L.block) → Rep C (okb B ok0 C S.heap F w) w u v → RepI ok' w u' v := by
  intro d
  induction d with
  | zero => intro u v u' ks hf; cases u <;> simp [fz] at hf
  | succ d ih =>
    intro u v u' ks hf hks hr
    have down : ∀ {u v}, RepI (okb B ok0 C S.heap F w) w u v → RepI ok' w u v := fun hh => hh.mono hsub fun _ _ => rfl
    cases u with
    | sl o i n =>
      simp only [fz] at hf
      split at hf
      · rename_i ob hob
        rw [Option.ite_none_right_eq_some] at hf
        obtain ⟨hin, hf⟩ := hf
        have hrow := h.row o ob hob
        have sub : ∀ (q : Nat) (c : List AV), ((ob.es.drop i).take n)[q]? = some c → ob.es[i + q]? = some c ∧ q < n := fun q c hq => by
          rw [List.getElem?_take] at hq
          split at hq
          · rw [List.getElem?_drop] at hq; exact ⟨hq, by assumption⟩
          · cases hq
        have hlen : ((ob.es.drop i).take n).length = n := by simp; omega
        rcases hr.sl_inv with ⟨L, c, hL, rfl, hn, hc⟩ | ⟨hC, rfl, rfl, rfl⟩
        · have hp := hrow.place
          rw [hL] at hp
          obtain ⟨p1, p2, cur, p3, p4, p5, p6, p7⟩ := hp
          have mk : ∀ (es : List (List AV)), es.length = n → (∀ c ∈ es, c.length = ob.sz) → ok' L.block →
              (∀ (q : Nat) (c : List AV) (j : Nat) (x : AV), es[q]? = some c → c[j]? = some x → ∃ y, cur[(i + q) * L.sz + j]? = some y ∧ RepI ok' w x y) → RepI ok' w (.imm false ob.sz es) (.slice (some ⟨L.block, i * L.sz, none⟩) n c) := by
            intro es he1 he2 hb he3
            refine .imm ⟨L.block, i * L.sz, none⟩ (fun q j => (cur[(i + q) * L.sz + j]?).getD undef) he1.symm (by omega) (fun _ => ⟨rfl, hb⟩) he2 (fun q c j x hq hj => ?_) (fun q c j x hq hj => ?_)
            · obtain ⟨y, hy, _⟩ := he3 q c j x hq hj
              rw [add_mk, cell_of_row w L.block _ cur L.ty (0, 0) p3, ← p1, ← Nat.add_assoc, ← Nat.add_mul, hy]
              rfl
            · obtain ⟨y, hy, hrr⟩ := he3 q c j x hq hj
              rw [hy]; exact hrr
          split at hf
          · rename_i hrefs
            cases hf
            refine mk _ hlen (fun c hc => ?_) (hks o (by simp) L hL) (fun q c j x hq hj => ?_)
            · obtain ⟨q, hq⟩ := List.getElem?_of_mem hc
              exact hrow.cells c (List.mem_of_getElem? (sub q c hq).1)
            · have hmem := List.mem_of_getElem? (sub q c hq).1
              obtain ⟨y, hy, hrr⟩ := p7 (i + q) c j x (sub q c hq).1 hj
              exact ⟨y, hy, down (hrr.toI (noKeys hrow hrefs hmem hj) (hrow.one c hmem x (List.mem_of_getElem? hj)))⟩
          · split at hf
            · rename_i es ks' hes
              cases hf
              obtain ⟨m1, m2⟩ := mapO_spec hes
              have get : ∀ (q : Nat) (c : List AV), es[q]? = some c → ∃ c0, ob.es[i + q]? = some c0 ∧ c.length = c0.length ∧ ∀ (j : Nat) (x : AV), c[j]? = some x → ∃ x0 kx, c0[j]? = some x0 ∧ fz S.heap d x0 = some (x, kx) ∧ ∀ k ∈ kx, k ∈ ks' := by
                intro q c hq
                have hlt : q < ((ob.es.drop i).take n).length := by rw [← m1]; exact (List.getElem?_eq_some_iff.1 hq).1
                obtain ⟨kc, g1, g2⟩ := m2 q _ c (List.getElem?_eq_getElem hlt) hq
                obtain ⟨g3, g4⟩ := mapO_spec g1
                refine ⟨_, (sub q _ (List.getElem?_eq_getElem hlt)).1, g3, fun j x hj => ?_⟩
                have hlt' : j < (((ob.es.drop i).take n)[q]).length := by rw [← g3]; exact (List.getElem?_eq_some_iff.1 hj).1
                obtain ⟨kx, g5, g6⟩ := g4 j _ x (List.getElem?_eq_getElem hlt') hj
                exact ⟨_, kx, List.getElem?_eq_getElem hlt', g5, fun k hk => g2 k (g6 k hk)⟩
              refine mk es (by rw [m1, hlen]) (fun c hc => ?_) (hks o (by simp) L hL) (fun q c j x hq hj => ?_)
              · obtain ⟨q, hq⟩ := List.getElem?_of_mem hc
                obtain ⟨c0, g1, g2, _⟩ := get q c hq
                rw [g2]; exact hrow.cells c0 (List.mem_of_getElem? g1)
              · obtain ⟨c0, g1, _, g3⟩ := get q c hq
                obtain ⟨x0, kx, g4, g5, g6⟩ := g3 j x hj
                obtain ⟨y, hy, hrr⟩ := p7 (i + q) c0 j x0 g1 g4
                exact ⟨y, hy, ih x0 y x kx g5 (fun k hk => hks k (by simp [g6 k hk])) hrr⟩
            · cases hf
        · have hz : ((ob.es.drop 0).take 0) = [] := by simp
          rw [hz] at hf
          have fin : RepI ok' w (.imm false ob.sz []) (.slice none 0 0) := .imm ⟨0, 0, none⟩ (fun _ _ => undef) rfl (by simp) (by simp) (by simp) (by simp) (by simp)
          split at hf
          · cases hf; exact fin
          · simp only [mapO] at hf; cases hf; exact fin
      · cases hf
    | ptr o i off =>
      simp only [fz] at hf
      split at hf
      · rename_i ob hob
        split at hf
        · rename_i cs hcs
          have hrow := h.row o ob hob
          obtain ⟨L, hL, rfl⟩ := hr.ptr_inv
          have hp := hrow.place
          rw [hL] at hp
          obtain ⟨p1, p2, cur, p3, p4, p5, p6, p7⟩ := hp
          have hmem := List.mem_of_getElem? hcs
          have mk : ∀ (c : List AV), ok' L.block → (∀ (j : Nat) (x : AV), c[j]? = some x → ∃ y, cur[i * L.sz + (off + j)]? = some y ∧ RepI ok' w x y) → RepI ok' w (.ref c) (.pointer (some ⟨L.block, i * L.sz + off, none⟩)) := by
            intro c hb hc
            refine .ref (fun j => (cur[i * L.sz + (off + j)]?).getD undef) hb (fun j x hj => ?_) (fun j x hj => ?_)
            · obtain ⟨y, hy, _⟩ := hc j x hj
              rw [add_mk, cell_of_row w L.block _ cur L.ty (0, 0) p3, Nat.add_assoc, hy]; rfl
            · obtain ⟨y, hy, hrr⟩ := hc j x hj
              rw [hy]; exact hrr
          split at hf
          · rename_i hrefs
            cases hf
            refine mk _ (hks o (by simp) L hL) (fun j x hj => ?_)
            rw [List.getElem?_drop] at hj
            obtain ⟨y, hy, hrr⟩ := p7 i cs (off + j) x hcs hj
            exact ⟨y, hy, down (hrr.toI (noKeys hrow hrefs hmem hj) (hrow.one cs hmem x (List.mem_of_getElem? hj)))⟩
          · split at hf
            · rename_i cs' ks' hcs'
              cases hf
              obtain ⟨m1, m2⟩ := mapO_spec hcs'
              refine mk _ (hks o (by simp) L hL) (fun j x hj => ?_)
              have hlt : j < (cs.drop off).length := by rw [← m1]; exact (List.getElem?_eq_some_iff.1 hj).1
              obtain ⟨kx, g1, g2⟩ := m2 j _ x (List.getElem?_eq_getElem hlt) hj
              have hg : cs[off + j]? = some (cs.drop off)[j] := by rw [← List.getElem?_drop]; exact List.getElem?_eq_getElem hlt
              obtain ⟨y, hy, hrr⟩ := p7 i cs (off + j) _ hcs hg
              exact ⟨y, hy, ih _ y x kx g1 (fun k hk => hks k (by simp [g2 k hk])) hrr⟩
            · cases hf
        · cases hf
      · cases hf
    | agg cs =>
      simp only [fz] at hf
      split at hf
      · rename_i cs' ks' hcs'
        cases hf
        obtain ⟨vs, rfl, hl, hv⟩ := hr.agg_inv
        obtain ⟨m1, m2⟩ := mapO_spec hcs'
        refine .agg (by rw [m1, hl]) (fun j x y hj hy => ?_)
        have hlt : j < cs.length := by rw [← m1]; exact (List.getElem?_eq_some_iff.1 hj).1
        obtain ⟨kx, g1, g2⟩ := m2 j _ x (List.getElem?_eq_getElem hlt) hj
        exact ih _ y x kx g1 (fun k hk => hks k (g2 k hk)) (hv j _ y (List.getElem?_eq_getElem hlt) hy)
      · cases hf
    | tup cs => simp [fz] at hf
    | fn f cs => simp [fz] at hf
    | undef => simp only [fz] at hf; cases hf; cases hr with | data hh => exact down hh
    | int k n => simp only [fz] at hf; cases hf; cases hr with | data hh => exact down hh
    | bool b => simp only [fz] at hf; cases hf; cases hr with | data hh => exact down hh
    | str s => simp only [fz] at hf; cases hf; cases hr with | data hh => exact down hh
    | nilp => simp only [fz] at hf; cases hf; cases hr with | data hh => exact down hh
    | imm nl sz es => simp only [fz] at hf; cases hf; cases hr with | data hh => exact down hh
    | ref cs => simp only [fz] at hf; cases hf; cases hr with | data hh => exact down hh
end
end Go.Ev

/-
  Literals of structs and slices, make; rows that are frozen.
-/
namespace Go.Ev
open Go Go.RowKit

section
variable {N B : Nat} {ok0 : Nat → Prop} {w0 : World} {E : Entry} {C : Conc} {S : St} {a : Act} {w : World} {P : Program} {ok : Nat → Prop}

theorem mapO_dom {α β : Type} {f : α → Option (β × List Nat)} {p : Nat → Prop} (hf : ∀ x y ks, f x = some (y, ks) → ∀ k ∈ ks, p k) : ∀ {l : List α} {l' : List β} {ks : List Nat}, mapO f l = some (l', ks) → ∀ k ∈ ks, p k
  | [], l', ks, h => by cases h; simp
  | x :: r, l', ks, h => by
    simp only [mapO] at h
    split at h
    · rename_i b ks1 hb
      split at h
      · rename_i bs ks2 hbs
        cases h
        intro k hk
        rcases List.mem_append.1 hk with hk | hk
        · exact hf _ _ _ hb k hk
        · exact mapO_dom hf hbs k hk
      · cases h
    · cases h

theorem fz_dom {H : Nat → Option Obj} : ∀ (d : Nat) (u u' : AV) (ks : List Nat), fz H d u = some (u', ks) → ∀ k ∈ ks, H k ≠ none := by
  intro d
  induction d with
  | zero => intro u u' ks h; cases u <;> simp [fz] at h
  | succ d ih =>
    intro u u' ks h
    cases u with
    | sl o i n =>
      simp only [fz] at h
      split at h
      · rename_i ob hob
        rw [Option.ite_none_right_eq_some] at h
        obtain ⟨_, h⟩ := h
        split at h
        · cases h; intro k hk; simp at hk; subst hk; rw [hob]; simp
        · split at h
          · rename_i es ks' hes
            cases h
            intro k hk
            rcases List.mem_cons.1 hk with rfl | hk
            · rw [hob]; simp
            · exact mapO_dom (fun x y ks hx => mapO_dom (fun x y ks hx => ih x y ks hx) hx) hes k hk
          · cases h
      · cases h
    | ptr o i off =>
      simp only [fz] at h
      split at h
      · rename_i ob hob
        split at h
        · split at h
          · cases h; intro k hk; simp at hk; subst hk; rw [hob]; simp
          · split at h
            · rename_i es ks' hes
              cases h
              intro k hk
              rcases List.mem_cons.1 hk with rfl | hk
              · rw [hob]; simp
              · exact mapO_dom (fun x y ks hx => ih x y ks hx) hes k hk
            · cases h
        · cases h
      · cases h
    | agg cs =>
      simp only [fz] at h
      split at h
      · rename_i es ks' hes
        cases h
        exact mapO_dom (fun x y ks hx => ih x y ks hx) hes
      · cases h
    | tup cs => simp [fz] at h
    | fn f cs => simp [fz] at h
    | _ => simp only [fz] at h; cases h; simp

/-- The block of a row that is frozen is one where data may lie. -/
theorem okb_frozen {F : Nat → Bool} (h : SimH B ok0 w0 C S.heap F w) {k : Nat} {L : Loc} (hk : S.heap k ≠ none) (hf : F k = true) (hL : C k = some L) : okb B ok0 C S.heap F w L.block := by
  obtain ⟨o, ho⟩ := Option.ne_none_iff_exists'.1 hk
  refine ⟨h.lt ho hL, h.okrow k o L ho hL, fun k' o' L' h1 h2 h3 e => ?_⟩
  have := h.inj k' k o' o L' L h1 ho h3 hL e
  subst this
  rw [hf] at h2; cases h2

/-- A deep reading, where what was read is frozen. -/
theorem fz_data {F F' : Nat → Bool} (h : SimH B ok0 w0 C S.heap F w) (hF : ∀ k, F k = true → F' k = true) {d : Nat} {u u' : AV} {v : Value} {ks : List Nat} (hf : fz S.heap d u = some (u', ks))
    (hks : ∀ k ∈ ks, F' k = true) (hr : Rep C (okb B ok0 C S.heap F w) w u v) : RepI (okb B ok0 C S.heap F' w) w u' v := by
  obtain ⟨h', hok⟩ := h.freeze hF
  exact fz_rep h hok d u v u' ks hf (fun k hk L hL => okb_frozen h' (fz_dom d u u' ks hf k hk) (hks k hk) hL) hr

/-! ### Parts laid into cells -/

theorem foldl_get (cells : Array Value) (off : Nat) : ∀ (l : List Value) (i : Nat) (cs : Array Value), cs.size = cells.size →
    ∀ k : Nat, (((l.zipIdx i).foldl (fun cs p => cs.setIfInBounds (off + p.2) p.1) cs)[k]?) = if off + i ≤ k ∧ k < off + i + l.length ∧ k < cs.size then l[k - (off + i)]? else cs[k]?
  | [], i, cs, _, k => by
    rw [List.length_nil, if_neg (by omega)]; rfl
  | v :: l, i, cs, hs, k => by
    rw [List.zipIdx_cons, List.foldl_cons, foldl_get cells off l (i + 1) (cs.setIfInBounds (off + i) v) (by simpa using hs) k]
    simp only [Array.size_setIfInBounds, List.length_cons, Array.getElem?_setIfInBounds]
    by_cases c1 : k = off + i
    · subst c1
      have n1 : ¬ (off + (i + 1) ≤ off + i ∧ off + i < off + (i + 1) + l.length ∧ off + i < cs.size) := by omega
      rw [if_neg n1, if_pos rfl]
      by_cases c2 : off + i < cs.size
      · rw [if_pos c2, if_pos ⟨by omega, by omega, c2⟩]; simp
      · rw [if_neg c2, if_neg (by omega), Array.getElem?_eq_none (by omega)]
    · rw [if_neg (by omega : ¬ off + i = k)]
      by_cases c2 : off + (i + 1) ≤ k ∧ k < off + (i + 1) + l.length ∧ k < cs.size
      · rw [if_pos c2, if_pos ⟨by omega, by omega, by omega⟩]
        rw [show k - (off + i) = (k - (off + (i + 1))) + 1 by omega]; simp
      · rw [if_neg c2, if_neg (by omega)]

theorem foldl_size (off : Nat) : ∀ (l : List (Value × Nat)) (cs : Array Value), (l.foldl (fun cs p => cs.setIfInBounds (off + p.2) p.1) cs).size = cs.size
  | [], cs => rfl
  | p :: l, cs => by rw [List.foldl_cons, foldl_size off l]; simp

/-- Cells that read as a list. -/
def Cells (C : Conc) (ok : Nat → Prop) (w : World) (cs : List AV) (vs : Array Value) : Prop :=
  cs.length = vs.size ∧ ∀ (j : Nat) (u : AV) (v : Value), cs[j]? = some u → vs[j]? = some v → Rep C ok w u v

theorem Cells.write {cs new : List AV} {vs : Array Value} {x : Array Value} {off : Nat} (h : Cells C ok w cs vs) (hn : Cells C ok w new x) (hoff : off + new.length ≤ cs.length) :
    Cells C ok w (splice cs off new) (x.zipIdx.foldl (fun cs p => cs.setIfInBounds (off + p.2) p.1) vs) := by
  obtain ⟨h1, h2⟩ := h
  obtain ⟨n1, n2⟩ := hn
  have hfold : x.zipIdx.foldl (fun cs p => cs.setIfInBounds (off + p.2) p.1) vs = (x.toList.zipIdx 0).foldl (fun cs p => cs.setIfInBounds (off + p.2) p.1) vs := by
    rw [← Array.foldl_toList, Array.toList_zipIdx]
  rw [hfold]
  refine ⟨by rw [splice_length hoff, foldl_size, h1], fun j u v hj hv => ?_⟩
  rw [splice_get hoff] at hj
  rw [foldl_get vs off x.toList 0 vs rfl j] at hv
  have hxl : x.toList.length = new.length := by simp [n1]
  by_cases c1 : j < off
  · rw [if_pos c1] at hj
    rw [if_neg (by omega)] at hv
    exact h2 j u v hj hv
  · rw [if_neg c1] at hj
    by_cases c2 : j < off + new.length
    · rw [if_pos c2] at hj
      rw [if_pos ⟨by omega, by rw [hxl]; omega, by omega⟩] at hv
      exact n2 _ u v hj (by simpa using hv)
    · rw [if_neg c2] at hj
      rw [if_neg (by rw [hxl]; omega)] at hv
      exact h2 j u v hj hv

theorem fill_rep {place : Nat → Option (Nat × Nat)} : ∀ (parts : List (Nat × Nat × AV)) (vparts : List (Nat × Value)) (cs cs' : List AV) (vs : Array Value), parts.length = vparts.length →
    (∀ (j : Nat) (p : Nat × Nat × AV) (q : Nat × Value), parts[j]? = some p → vparts[j]? = some q → place q.1 = some (p.1, p.2.1) ∧ Rep C ok w p.2.2 q.2) →
    Cells C ok w cs vs → fillA cs parts = some cs' → ∃ vs', Instr.fill place vs vparts = some vs' ∧ Cells C ok w cs' vs'
  | [], [], cs, cs', vs, _, _, hc, hf => by cases hf; exact ⟨vs, rfl, hc⟩
  | (off, size, u) :: parts, (i, v) :: vparts, cs, cs', vs, hl, hp, hc, hf => by
    obtain ⟨p1, p2⟩ := hp 0 (off, size, u) (i, v) rfl rfl
    simp only at p1 p2
    simp only [fillA, Option.ite_none_right_eq_some] at hf
    obtain ⟨⟨g1, g2, g3⟩, hf⟩ := hf
    replace p2 : Cells C ok w u.cells v.cells := p2.cells (by rintro rfl; simp at g3)
    have hsz : v.cells.size = size := by rw [← p2.1, g1]
    have hroom : off + v.cells.size ≤ vs.size := by rw [hsz, ← hc.1]; exact g2
    obtain ⟨vs', r1, r2⟩ := fill_rep parts vparts _ cs' _ (by simpa using hl) (fun j p q hj hq => hp (j + 1) p q (by simpa using hj) (by simpa using hq)) (hc.write p2 (by omega)) hf
    refine ⟨vs', ?_, r2⟩
    simp only [Instr.fill, p1]
    rw [if_neg (by simp [hsz]; omega)]
    exact r1
  | [], _ :: _, _, _, _, hl, _, _, _ => by simp at hl
  | _ :: _, [], _, _, _, hl, _, _, _ => by simp at hl

theorem run_mapM_fields (g : Field → Nat × Nat) (s : Field → Sem (Nat × Nat)) (w : World) : ∀ l : List Field, (∀ f ∈ l, (s f).run P w = .ok (g f) w) → (l.mapM s).run P w = .ok (l.map g) w
  | [], _ => by simp
  | f :: l, h => by
    rw [List.mapM_cons]
    simp only [Sem.run_bind, h f (by simp), Result.andThen_ok, run_mapM_fields g s w l (fun x hx => h x (by simp [hx])), Sem.run_pure, List.map_cons]

theorem zero_cells {t : TypeId} {z : List AV} (h : zeroC P t = some z) : ∃ i v, P.info? t = some i ∧ i.zero = some v ∧ Cells C ok w z v.cells ∧ AV.keysL z = [] ∧ ∀ u ∈ z, u.isCell = true := by
  obtain ⟨i, v, hi, hz, hok⟩ := zeroC_rep h
  obtain ⟨h1, h2, h3, h4⟩ := zOkL_rep (w := w) (ok := ok) hok
  exact ⟨i, v, hi, hz, ⟨by simpa using h1, fun j u y hj hy => .data (h2 j u y hj (by simpa using hy))⟩, h3, h4⟩

theorem keysL_fillA {k : Nat} : ∀ (parts : List (Nat × Nat × AV)) (cs cs' : List AV), fillA cs parts = some cs' → k ∈ AV.keysL cs' → k ∈ AV.keysL cs ∨ ∃ p ∈ parts, k ∈ p.2.2.keys
  | [], cs, cs', h, hk => by cases h; exact .inl hk
  | (off, size, u) :: parts, cs, cs', h, hk => by
    simp only [fillA, Option.ite_none_right_eq_some] at h
    obtain ⟨⟨g1, g2, _⟩, h⟩ := h
    rcases keysL_fillA parts _ cs' h hk with h1 | ⟨p, hp, h1⟩
    · rcases keysL_splice (by omega) h1 with h1 | h1
      · exact .inr ⟨_, List.mem_cons_self, cells_keys h1⟩
      · exact .inl h1
    · exact .inr ⟨p, List.mem_cons_of_mem _ hp, h1⟩

/-- The cells that 'make' lays. -/
theorem madeCells_get (z : Array Value) (n j i : Nat) (hj : j < z.size) (hi : i < n) : (madeCells z (n * z.size))[i * z.size + j]? = some z[j] := by
  have hlt : i * z.size + j < n * z.size := by
    have : (i + 1) * z.size ≤ n * z.size := Nat.mul_le_mul_right _ hi
    rw [Nat.add_mul, Nat.one_mul] at this
    omega
  unfold madeCells
  rw [Array.getElem?_map, Array.getElem?_range, if_pos hlt]
  simp only [Option.map_some, Option.some.injEq]
  have : (i * z.size + j) % z.size = j := by rw [Nat.add_comm, Nat.add_mul_mod_self_right, Nat.mod_eq_of_lt hj]
  rw [this]
  exact getElem!_pos z j hj

theorem s_make {F : Nat → Bool} {k : Nat} {t e : TypeId} {z : List AV} {kl kc : IntKind} {n : Int} (h : SimH B ok0 w0 C S.heap F w) (hk : S.heap k = none) (hu : P.underlying t = some (.slice e)) (hz : zeroC P e = some z)
    (hzl : z.length = P.cellsOf e) (h0 : 0 ≤ n) (hn : n * P.bytesOf e ≤ 140737488355328) (h63 : n ≤ 140737488355328) :
    ∃ (L : Loc) (cur : Array Value), L.block = w.heap.size ∧ L.sz = P.cellsOf e ∧ L.cap = n.toNat ∧ (Instr.makeSlice t (.int kl n) (.int kc n)).run P w = .ok (.slice (some ⟨L.block, 0, none⟩) n.toNat n.toNat) (w.alloc (.cells cur L.ty)) ∧
      SimH B ok0 w0 (setC C k (some L)) (setH S.heap k { sz := P.cellsOf e, ty := e, es := List.replicate n.toNat z, refs := [] }) F (w.alloc (.cells cur L.ty)) ∧
      (∀ b, okb B ok0 C S.heap F w b → okb B ok0 (setC C k (some L)) (setH S.heap k { sz := P.cellsOf e, ty := e, es := List.replicate n.toNat z, refs := [] }) F (w.alloc (.cells cur L.ty)) b) ∧
      (∀ b, okb B ok0 C S.heap F w b → (w.alloc (.cells cur L.ty)).heap[b]? = w.heap[b]?) := by
  obtain ⟨i, v, hi, hiz, hc, hkz, hone⟩ := zero_cells (P := P) (C := C) (ok := okb B ok0 C S.heap F w) (w := w) hz
  have hsz : i.size = P.cellsOf e := (cellsOf_info hi).symm
  have hby : i.bytes = P.bytesOf e := (bytesOf_info hi).symm
  have hvs : v.cells.size = P.cellsOf e := by rw [← hc.1, hzl]
  have hrun := run_make (P := P) w t e i v hu hi hiz kl kc n n h0 (Int.le_refl _) (by rw [hby, Int.mul_comm]; omega) (by omega)
  refine ⟨{ block := w.heap.size, ty := e, sz := P.cellsOf e, cap := n.toNat }, madeCells v.cells (n.toNat * i.size), rfl, rfl, rfl, hrun, ?_⟩
  refine h.new hk (L := { block := w.heap.size, ty := e, sz := P.cellsOf e, cap := n.toNat }) (o' := { sz := P.cellsOf e, ty := e, es := List.replicate n.toNat z, refs := [] }) rfl (by rw [size_madeCells, hsz]) rfl rfl (by simp)
    (by simp only [maxLen]; omega) (fun c hcm => by rw [(List.mem_replicate.1 hcm).2, hzl]) (fun c hcm u hu => by rw [(List.mem_replicate.1 hcm).2] at hu; exact .inl (hone u hu))
    (fun c hcm x hx => by rw [(List.mem_replicate.1 hcm).2, hkz] at hx; simp at hx) (by simp) (fun q c j u hq hj => ?_)
  simp only [List.getElem?_replicate] at hq
  split at hq
  · rename_i hlt
    cases hq
    have hj' : j < v.cells.size := by rw [← hc.1]; exact (List.getElem?_eq_some_iff.1 hj).1
    refine ⟨v.cells[j], ?_, hc.2 j u _ hj (Array.getElem?_eq_getElem hj')⟩
    have := madeCells_get v.cells n.toNat j q hj' hlt
    rw [hvs] at this
    rw [hsz]
    exact this
  · cases hq

end
end Go.Ev

/-
  What a callee is said to do ('Meets'); every operation without append and without an inlined call does what 'eff' says.
-/
namespace Go.Ev
open Go Go.RowKit

def heapOf (objs : List Obj) : Nat → Option Obj := fun k => objs[k]?

/-- What a pure call leaves: old memory as it was, its value, and the fresh rows that come with it. -/
def Gives (ok0 : Nat → Prop) (w : World) (r : PRes) (v : Value) (w' : World) : Prop :=
  ∃ C : Conc, SimH w.heap.size (upto ok0 w) w C (heapOf r.objs) (fun _ => false) w' ∧
    Rep C (okb w.heap.size (upto ok0 w) C (heapOf r.objs) (fun _ => false) w') w' r.val v ∧ ∀ k ∈ r.val.keys, heapOf r.objs k ≠ none

/-- The function gives what 'g' says, on data. -/
def Meets (P : Program) (f : FuncId) (g : List AV → Option PRes) : Prop :=
  ∀ (args : List AV) (r : PRes), g args = some r → ∀ (w : World) (vs : Array Value) (ok0 : Nat → Prop), (∀ b, ok0 b → b < w.heap.size) → args.length = vs.size →
    (∀ (j : Nat) (u : AV) (v : Value), args[j]? = some u → vs[j]? = some v → RepI ok0 w u v) →
    Calls P f vs w fun e w' => ∃ v, e = .returned v ∧ Gives ok0 w r v w'

/-- The function can be entered. -/
def Enters (P : Program) (f : FuncId) : Prop := ∃ fn, P.funcs[f]? = some fn ∧ (fn.name == "runtime.NumGoroutine") = false ∧ fn.body.isNone = false

theorem run_callFunc {P : Program} {f : FuncId} {args : Array Value} {w : World} (h : Enters P f) : (callFunc f args).run P w = .ok (.enter f args) w := by
  obtain ⟨fn, h1, h2, h3⟩ := h
  simp only [callFunc, Sem.run_bind, run_program, Result.andThen_ok, h1, h2, h3, Bool.false_eq_true, if_false]; rfl

section
variable {N B : Nat} {ok0 : Nat → Prop} {w0 : World} {E : Entry} {C : Conc} {S : St} {a : Act} {w : World} {P : Program} {ks : Kinds} {fid : FuncId} {G : Pure}

/-- What a step of an operation gives. -/
def Does (P : Program) (N B : Nat) (ok0 : Nat → Prop) (w0 : World) (E : Entry) (o : Oper) (a : Act) (w : World) (S' : St) : Prop :=
  ∀ (K : Act → World → Prop) (Q : Exit → Act → World → Prop), (∀ a' w', SimX N B ok0 w0 E S' a' w' → K a' w') → o.wp P a w K Q

theorem Does.of_value (hs : Sim N B ok0 w0 E C S a w) {o : Oper} {e : Eff} {v : Value} (hrun : (execOp a.eval o).run P w = .ok (.value v) w) (hu : e.ups = [])
    (hr : Rep C (okb B ok0 C S.heap (S.app none e).frz w) w e.val v) (hk : ∀ k ∈ e.val.keys, S.heap k ≠ none) (hd : ∀ x, o.dst = some x → x < N) : Does P N B ok0 w0 E o a w (S.app o.dst e) :=
  fun _ _ hK => wp_of_value hrun (hK _ _ (hs.value hu hr hk hd))

theorem Does.of_data (hs : Sim N B ok0 w0 E C S a w) {o : Oper} {u : AV} {acc : List Nat} {v : Value} (hrun : (execOp a.eval o).run P w = .ok (.value v) w)
    (hr : Rep C (okb B ok0 C S.heap S.frz w) w u v) (hk : ∀ k ∈ u.keys, S.heap k ≠ none) (hd : ∀ x, o.dst = some x → x < N) : Does P N B ok0 w0 E o a w (S.app o.dst { val := u, acc := acc }) :=
  Does.of_value hs hrun rfl (by simpa [St.app] using hr) hk hd

/-- A new row, and a pointer or slice that names it. -/
theorem Does.of_new (hs : Sim N B ok0 w0 E C S a w) {o : Oper} {k : Nat} {ob : Obj} {u : AV} {acc : List Nat} {v : Value} {L : Loc} {w' : World} (hk : S.heap k = none) (hrun : (execOp a.eval o).run P w = .ok (.value v) w')
    (h' : SimH B ok0 w0 (setC C k (some L)) (setH S.heap k ob) S.frz w') (hok : ∀ b, okb B ok0 C S.heap S.frz w b → okb B ok0 (setC C k (some L)) (setH S.heap k ob) S.frz w' b)
    (hw : ∀ b, okb B ok0 C S.heap S.frz w b → w'.heap[b]? = w.heap[b]?) (hr : ∀ ok, Rep (setC C k (some L)) ok w' u v) (hu : ∀ x ∈ u.keys, x = k) (hd : ∀ x, o.dst = some x → x < N) :
    Does P N B ok0 w0 E o a w (S.app o.dst { val := u, ups := [(k, ob)], acc := acc }) := by
  intro K Q hK
  refine wp_of_value hrun (hK _ _ ⟨setC C k (some L), ?_⟩)
  have := hs.put h' (fun x hx => setC_ne _ _ (by rintro rfl; exact hx hk)) hok hw (fun x hx => by by_cases e : x = k <;> simp [setH, e, hx]) (hr _) (fun x hx => by rw [hu x hx, setH_self]; simp) hd
  simpa [St.app, upsH] using this

theorem mapM_some {α β : Type} {f : α → Option β} : ∀ {l : List α} {l' : List β}, l.mapM f = some l' → l'.length = l.length ∧ ∀ (i : Nat) (x : α) (y : β), l[i]? = some x → l'[i]? = some y → f x = some y
  | [], l', h => by simp at h; subst h; simp
  | x :: l, l', h => by
    rw [List.mapM_cons] at h
    cases hx : f x with
    | none => simp [hx] at h
    | some y =>
      cases hl : l.mapM f with
      | none => simp [hx, hl] at h
      | some ys =>
        simp [hx, hl] at h
        subst h
        obtain ⟨h1, h2⟩ := mapM_some hl
        refine ⟨by simp [h1], fun i z u hz hu => ?_⟩
        cases i with
        | zero => simp at hz hu; subst hz; subst hu; exact hx
        | succ i => exact h2 i z u (by simpa using hz) (by simpa using hu)

/-- The operands of a call, or of a closure. -/
theorem axs_spec : ∀ (ts : List TypeId) (xs : List Operand) (ys : List AX), axs P ts xs = some ys → ys.length = xs.length ∧ ∀ (i : Nat) (x : Operand) (y : AX), xs[i]? = some x → ys[i]? = some y → ∃ t, axOf P t x = some y
  | ts, [], ys, h => by cases ts <;> (simp [axs] at h; subst h; simp)
  | [], x :: xs, ys, h => by
    simp only [axs] at h
    split at h
    · rename_i y ys' h1 h2
      cases h
      obtain ⟨i1, i2⟩ := axs_spec [] xs ys' h2
      refine ⟨by simp [i1], fun i z u hz hu => ?_⟩
      cases i with
      | zero => simp at hz hu; subst hz; subst hu; exact ⟨0, h1⟩
      | succ i => exact i2 i z u (by simpa using hz) (by simpa using hu)
    · cases h
  | t :: ts, x :: xs, ys, h => by
    simp only [axs] at h
    split at h
    · rename_i y ys' h1 h2
      cases h
      obtain ⟨i1, i2⟩ := axs_spec ts xs ys' h2
      refine ⟨by simp [i1], fun i z u hz hu => ?_⟩
      cases i with
      | zero => simp at hz hu; subst hz; subst hu; exact ⟨t, h1⟩
      | succ i => exact i2 i z u (by simpa using hz) (by simpa using hu)
    · cases h


theorem of_ite {α : Type} {p : Prop} [Decidable p] {x : Option α} {y : α} (h : (if p then x else none) = some y) : p ∧ x = some y := by rwa [Option.ite_none_right_eq_some] at h

theorem d_build {dst : Option Nat} {t : TypeId} {parts : Array (Nat × Operand)} {ty : TypeId} {pos : String} {after : Array Edge} {guard : Option (Nat × Bool)} {aop : AOp} {e : Eff}
    (hc : cOp P ks fid ⟨dst, .build t parts, ty, pos, after, guard⟩ = some aop) (he : eff G aop S = some e) (hs : Sim N B ok0 w0 E C S a w) (hd : ∀ x, dst = some x → x < N) :
    Does P N B ok0 w0 E ⟨dst, .build t parts, ty, pos, after, guard⟩ a w (S.app dst e) := by
  simp only [cOp] at hc
  split at hc
  · rename_i fs z hfs hz
    split at hc
    · cases hc
    rename_i hok
    rw [Option.map_eq_some_iff] at hc
    obtain ⟨ps, hps, rfl⟩ := hc
    obtain ⟨m1, m2⟩ := mapM_some hps
    simp only [eff] at he
    split at he
    · rename_i cs hcs
      cases he
      obtain ⟨i, v, hi, hiz, hcz, hkz, _⟩ := zero_cells (P := P) (C := C) (ok := okb B ok0 C S.heap S.frz w) (w := w) hz
      have hokf : ∀ f ∈ fs.toList, okT P f.type = true := by
        cases h : fs.toList.all (fun f => okT P f.type) with
        | true => exact List.all_eq_true.1 h
        | false => rw [h] at hok; exact absurd rfl hok
      have hpart : ∀ (j : Nat) (p : Nat × Operand) (q : Nat × Nat × AX), parts.toList[j]? = some p → ps[j]? = some q → ∃ fd, fs[p.1]? = some fd ∧ q.1 = fd.offset ∧ q.2.1 = P.cellsOf fd.type ∧ axOf P fd.type p.2 = some q.2.2 := by
        intro j p q hp hq
        have := m2 j p q hp hq
        split at this
        · rename_i fd hfd
          rw [Option.map_eq_some_iff] at this
          obtain ⟨y, hy, rfl⟩ := this
          exact ⟨fd, hfd, rfl, rfl, hy⟩
        · cases this
      have hplaces : (fs.mapM (fun f => do pure (f.offset, ← sizeOf f.type) : Field → Sem (Nat × Nat))).run P w = .ok (fs.toList.map fun f => (f.offset, P.cellsOf f.type)).toArray w := by
        rw [Array.mapM_eq_mapM_toList]
        simp only [Sem.run_map]
        rw [run_mapM_fields (P := P) (fun f => (f.offset, P.cellsOf f.type)) _ w fs.toList (fun f hf => by simp [run_sizeOf (hokf f hf)])]
        rfl
      obtain ⟨vs', r1, r2⟩ := fill_rep (C := C) (ok := okb B ok0 C S.heap S.frz w) (w := w) (place := fun i => (fs.toList.map fun f => (f.offset, P.cellsOf f.type)).toArray[i]?)
        (ps.map fun p => (p.1, p.2.1, S.ev p.2.2)) (parts.toList.map fun p => (p.1, a.eval p.2)) z cs v.cells (by simp [m1]) (fun j p q hp hq => by
          rw [List.getElem?_map, Option.map_eq_some_iff] at hp hq
          obtain ⟨p0, hp0, rfl⟩ := hp
          obtain ⟨q0, hq0, rfl⟩ := hq
          obtain ⟨fd, h1, h2, h3, h4⟩ := hpart j q0 p0 hq0 hp0
          refine ⟨?_, (hs.ev h4).1⟩
          simp only [List.getElem?_toArray, List.getElem?_map, Array.getElem?_toList, h1, Option.map_some]
          rw [h2, h3]) hcz hcs
      refine .of_data hs (v := .agg vs') ?_ (.agg r2.1 r2.2) (fun k hk => ?_) hd
      · simp only [execOp, Sem.run_bind, Instr.build, zeroValue, typeInfo, run_program, Result.andThen_ok, hi, hiz, Sem.run_pure, run_underlying hfs]
        rw [hplaces]
        simp only [Result.andThen_ok, Array.toList_map]
        rw [r1]
        rfl
      · simp only [AV.keys] at hk
        rcases keysL_fillA _ _ _ hcs hk with h1 | ⟨p, hp, h1⟩
        · rw [hkz] at h1; simp at h1
        · obtain ⟨j, hj⟩ := List.getElem?_of_mem hp
          rw [List.getElem?_map, Option.map_eq_some_iff] at hj
          obtain ⟨q, hq, rfl⟩ := hj
          have hlt : j < parts.toList.length := by rw [← m1]; exact (List.getElem?_eq_some_iff.1 hq).1
          obtain ⟨fd, _, _, _, h4⟩ := hpart j _ q (List.getElem?_eq_getElem hlt) hq
          exact (hs.ev h4).2 k h1
    · cases he
  · cases hc

theorem setPart_length : ∀ (ps : List (Nat × List AV)) (es : List (List AV)), (setPart es ps).length = es.length
  | [], es => rfl
  | (i, cs) :: r, es => by rw [setPart, setPart_length r]; simp

/-- The rows of a literal: cells that read as a list of elements. -/
def CellsLL (C : Conc) (ok : Nat → Prop) (w : World) (sz : Nat) (es : List (List AV)) (vs : Array Value) : Prop :=
  vs.size = es.length * sz ∧ (∀ cs ∈ es, cs.length = sz) ∧ ∀ (i : Nat) (cs : List AV) (j : Nat) (u : AV), es[i]? = some cs → cs[j]? = some u → ∃ v, vs[i * sz + j]? = some v ∧ Rep C ok w u v

theorem CellsLL.write {ok : Nat → Prop} {sz i : Nat} {es : List (List AV)} {vs x : Array Value} {cs : List AV} (h : CellsLL C ok w sz es vs) (hn : Cells C ok w cs x) (hl : cs.length = sz) (hi : i < es.length) :
    CellsLL C ok w sz (es.set i cs) (x.zipIdx.foldl (fun cs p => cs.setIfInBounds (i * sz + p.2) p.1) vs) := by
  obtain ⟨h1, h2, h3⟩ := h
  have hfold : x.zipIdx.foldl (fun cs p => cs.setIfInBounds (i * sz + p.2) p.1) vs = (x.toList.zipIdx 0).foldl (fun cs p => cs.setIfInBounds (i * sz + p.2) p.1) vs := by
    rw [← Array.foldl_toList, Array.toList_zipIdx]
  rw [hfold]
  have hxl : x.toList.length = sz := by simp [← hn.1, hl]
  refine ⟨by rw [foldl_size, h1]; simp, fun c hc => ?_, fun q c j u hq hj => ?_⟩
  · rcases List.mem_or_eq_of_mem_set hc with hc | rfl
    · exact h2 c hc
    · exact hl
  · rw [foldl_get vs (i * sz) x.toList 0 vs rfl]
    have hjl : j < sz := by
      have h0 := (List.getElem?_eq_some_iff.1 hj).1
      by_cases e : i = q
      · subst e; rw [List.getElem?_set, if_pos rfl, if_pos hi] at hq; cases hq; omega
      · rw [List.getElem?_set, if_neg e] at hq; rw [h2 c (List.mem_of_getElem? hq)] at h0; exact h0
    rw [List.getElem?_set] at hq
    by_cases e : i = q
    · subst e
      rw [if_pos rfl, if_pos hi] at hq
      cases hq
      have hb : (i + 1) * sz ≤ es.length * sz := Nat.mul_le_mul_right _ hi
      rw [Nat.add_mul, Nat.one_mul] at hb
      rw [if_pos ⟨by omega, by omega, by omega⟩]
      have hx : j < x.size := by rw [← hn.1, hl]; exact hjl
      refine ⟨x[j], by simp [show i * sz + j - (i * sz) = j by omega, hx], hn.2 j u _ hj (Array.getElem?_eq_getElem hx)⟩
    · rw [if_neg e] at hq
      obtain ⟨v, g1, g2⟩ := h3 q c j u hq hj
      refine ⟨v, ?_, g2⟩
      rw [if_neg]
      · exact g1
      · rcases Nat.lt_or_gt_of_ne e with lt | gt
        · have : (i + 1) * sz ≤ q * sz := Nat.mul_le_mul_right _ lt
          rw [Nat.add_mul, Nat.one_mul] at this
          omega
        · have : (q + 1) * sz ≤ i * sz := Nat.mul_le_mul_right _ gt
          rw [Nat.add_mul, Nat.one_mul] at this
          omega

theorem fillLL_rep {ok : Nat → Prop} {sz : Nat} : ∀ (parts : List (Nat × List AV)) (vparts : List (Nat × Value)) (es : List (List AV)) (vs : Array Value), parts.length = vparts.length →
    (∀ (j : Nat) (p : Nat × List AV) (q : Nat × Value), parts[j]? = some p → vparts[j]? = some q → q.1 = p.1 ∧ p.1 < es.length ∧ p.2.length = sz ∧ Cells C ok w p.2 q.2.cells) →
    CellsLL C ok w sz es vs → ∃ vs', Instr.fill (fun i => some (i * sz, sz)) vs vparts = some vs' ∧ CellsLL C ok w sz (setPart es parts) vs'
  | [], [], es, vs, _, _, hc => ⟨vs, rfl, hc⟩
  | (i, cs) :: parts, (i', v) :: vparts, es, vs, hl, hp, hc => by
    obtain ⟨p1, p2, p3, p4⟩ := hp 0 (i, cs) (i', v) rfl rfl
    simp only at p1 p2 p3 p4
    subst p1
    obtain ⟨vs', r1, r2⟩ := fillLL_rep parts vparts _ _ (by simpa using hl) (fun j p q hj hq => by have := hp (j + 1) p q (by simpa using hj) (by simpa using hq); simpa using this) (hc.write p4 p3 p2)
    refine ⟨vs', ?_, r2⟩
    have hsz : v.cells.size = sz := by rw [← p4.1, p3]
    have hb : (i' + 1) * sz ≤ es.length * sz := Nat.mul_le_mul_right _ p2
    rw [Nat.add_mul, Nat.one_mul] at hb
    simp only [Instr.fill]
    rw [if_neg (by simp [hsz, hc.1]; omega)]
    exact r1
  | [], _ :: _, _, _, hl, _, _ => by simp at hl
  | _ :: _, [], _, _, hl, _, _ => by simp at hl

theorem d_bslice {dst : Option Nat} {t : TypeId} {len : Nat} {parts : Array (Nat × Operand)} {ty : TypeId} {pos : String} {after : Array Edge} {guard : Option (Nat × Bool)} {aop : AOp} {e : Eff}
    (hc : cOp P ks fid ⟨dst, .buildSlice t len parts, ty, pos, after, guard⟩ = some aop) (he : eff G aop S = some e) (hs : Sim N B ok0 w0 E C S a w) (hd : ∀ x, dst = some x → x < N) :
    Does P N B ok0 w0 E ⟨dst, .buildSlice t len parts, ty, pos, after, guard⟩ a w (S.app dst e) := by
  simp only [cOp] at hc
  split at hc
  · rename_i el hel
    split at hc
    · rename_i z ps hz hps
      obtain ⟨⟨hlim, hok⟩, hc⟩ := of_ite hc
      cases hc
      obtain ⟨m1, m2⟩ := mapM_some hps
      simp only [eff] at he
      obtain ⟨⟨hall, hidx, hzl⟩, he⟩ := of_ite he
      split at he
      · rename_i es fs hfz
        cases he
        obtain ⟨i, v, hi, hiz, hcz, hkz, hone⟩ := zero_cells (P := P) (C := C) (ok := okb B ok0 C S.heap S.frz w) (w := w) hz
        have hu := elemT_under hel
        have hvs : v.cells.size = P.cellsOf el := by rw [← hcz.1, hzl]
        have hpart : ∀ (j : Nat) (p : Nat × Operand) (q : Nat × AX), parts.toList[j]? = some p → ps[j]? = some q → q.1 = p.1 ∧ axOf P el p.2 = some q.2 := by
          intro j p q hp hq
          have := m2 j p q hp hq
          rw [Option.map_eq_some_iff] at this
          obtain ⟨y, hy, rfl⟩ := this
          exact ⟨rfl, hy⟩
        have hbase : CellsLL C (okb B ok0 C S.heap S.frz w) w (P.cellsOf el) (List.replicate len z) ((Array.range (len * P.cellsOf el)).map (fun k => (if len * P.cellsOf el = 0 then #[] else v.cells)[k % (if len * P.cellsOf el = 0 then #[] else v.cells).size]!)) := by
          refine ⟨by simp, fun c hcm => by rw [(List.mem_replicate.1 hcm).2, hzl], fun q c j u hq hj => ?_⟩
          simp only [List.getElem?_replicate] at hq
          split at hq
          · rename_i hlt
            cases hq
            have hj' : j < v.cells.size := by rw [← hcz.1]; exact (List.getElem?_eq_some_iff.1 hj).1
            have hne : len * P.cellsOf el ≠ 0 := Nat.ne_of_gt (Nat.mul_pos (by omega) (by omega))
            simp only [hne, if_false]
            refine ⟨v.cells[j], ?_, hcz.2 j u _ hj (Array.getElem?_eq_getElem hj')⟩
            have := madeCells_get v.cells len j q hj' hlt
            rw [hvs] at this
            exact this
          · cases hq
        generalize hcur : (Array.range (len * P.cellsOf el)).map (fun k => (if len * P.cellsOf el = 0 then #[] else v.cells)[k % (if len * P.cellsOf el = 0 then #[] else v.cells).size]!) = cur at hbase
        obtain ⟨vs', r1, r2⟩ := fillLL_rep (C := C) (ok := okb B ok0 C S.heap S.frz w) (w := w) (sz := P.cellsOf el) (ps.map fun p => (p.1, (S.ev p.2).cells)) (parts.toList.map fun p => (p.1, a.eval p.2)) (List.replicate len z) cur (by simp [m1]) (fun j p q hp hq => by
          rw [List.getElem?_map, Option.map_eq_some_iff] at hp hq
          obtain ⟨p0, hp0, rfl⟩ := hp
          obtain ⟨q0, hq0, rfl⟩ := hq
          obtain ⟨h1, h2⟩ := hpart j q0 p0 hq0 hp0
          have hm := List.mem_of_getElem? hp0
          have ha := List.all_eq_true.1 hall _ (List.mem_map.2 ⟨p0, hm, rfl⟩)
          simp only [Bool.and_eq_true, decide_eq_true_eq] at ha
          have hlt := List.all_eq_true.1 hidx p0 hm
          simp only [decide_eq_true_eq] at hlt
          exact ⟨h1.symm, by simpa using hlt, ha.1, (hs.ev h2).1.cells (by rintro hun; rw [hun] at ha; simp at ha)⟩) hbase
        obtain ⟨h', hok'⟩ := hs.h.freeze (F' := fun k => fs.contains k || S.frz k) (fun k hk => by simp [hk])
        obtain ⟨g1, g2⟩ := mapO_spec hfz
        have hlen : es.length = len := by rw [g1, setPart_length]; simp
        -- the new world, and the literal's reading there
        have hw' : ∀ b, okb B ok0 C S.heap (fun k => fs.contains k || S.frz k) w b → (w.alloc (.cells vs' el)).heap[b]? = w.heap[b]? := fun b hb => Below.heap_alloc w _ b hb.1
        have hokw : ∀ b, okb B ok0 C S.heap (fun k => fs.contains k || S.frz k) w b → okb B ok0 C S.heap (fun k => fs.contains k || S.frz k) (w.alloc (.cells vs' el)) b := fun b hb => ⟨by simp; have := hb.1; omega, hb.2.1, hb.2.2⟩
        have hbel : Below B w (w.alloc (.cells vs' el)) := (Below.refl _ _).alloc hs.h.base _
        have h'' : SimH B ok0 w0 C S.heap (fun k => fs.contains k || S.frz k) (w.alloc (.cells vs' el)) :=
          ⟨h'.below.trans hbel, Nat.le_trans h'.base hbel.size, fun k o hk => (h'.row k o hk).mono hokw hw' rfl (fun _ _ => rfl) (fun L hL => Below.heap_alloc w _ _ (h'.lt hk hL)), h'.blk, h'.inj, h'.wf, fun b hb => h'.up b (Nat.le_trans hbel.size hb), h'.okrow, fun b hb hn => (Below.heap_alloc w _ _ (Nat.lt_of_lt_of_le hb h'.below.size)).trans (h'.keep b hb hn)⟩
        have hnew : okb B ok0 C S.heap (fun k => fs.contains k || S.frz k) (w.alloc (.cells vs' el)) w.heap.size := by
          refine ⟨by simp, hs.h.up _ (Nat.le_refl _), fun k o L hk _ hL e => ?_⟩
          have := h'.lt hk hL
          omega
        have hcell : ∀ (q : Nat) (c : List AV) (j : Nat) (u : AV), es[q]? = some c → c[j]? = some u → ∃ y, vs'[q * P.cellsOf el + j]? = some y ∧ RepI (okb B ok0 C S.heap (fun k => fs.contains k || S.frz k) w) w u y := by
          intro q c j u hq hj
          have hlt : q < (setPart (List.replicate len z) (ps.map fun p => (p.1, (S.ev p.2).cells))).length := by rw [← g1]; exact (List.getElem?_eq_some_iff.1 hq).1
          obtain ⟨kc, g3, g4⟩ := g2 q _ c (List.getElem?_eq_getElem hlt) hq
          obtain ⟨g5, g6⟩ := mapO_spec g3
          have hlt' : j < ((setPart (List.replicate len z) (ps.map fun p => (p.1, (S.ev p.2).cells)))[q]).length := by rw [← g5]; exact (List.getElem?_eq_some_iff.1 hj).1
          obtain ⟨kx, g7, g8⟩ := g6 j _ u (List.getElem?_eq_getElem hlt') hj
          obtain ⟨y, hy, hr⟩ := r2.2.2 q _ j _ (List.getElem?_eq_getElem hlt) (List.getElem?_eq_getElem hlt')
          exact ⟨y, hy, fz_data hs.h (fun k hk => by simp [hk]) g7 (fun k hk => by simp [g4 k (g8 k hk)]) hr⟩
        have hsl : RepI (okb B ok0 C S.heap (fun k => fs.contains k || S.frz k) (w.alloc (.cells vs' el))) (w.alloc (.cells vs' el)) (.imm false (P.cellsOf el) es) (.slice (some ⟨w.heap.size, 0, none⟩) len len) := by
          refine .imm ⟨w.heap.size, 0, none⟩ (fun q j => (vs'[q * P.cellsOf el + j]?).getD undef) hlen.symm (by omega) (fun _ => ⟨rfl, hnew⟩) (fun c hcm => ?_) (fun q c j u hq hj => ?_) (fun q c j u hq hj => ?_)
          · obtain ⟨q, hq⟩ := List.getElem?_of_mem hcm
            have hlt : q < (setPart (List.replicate len z) (ps.map fun p => (p.1, (S.ev p.2).cells))).length := by rw [← g1]; exact (List.getElem?_eq_some_iff.1 hq).1
            obtain ⟨kc, g3, _⟩ := g2 q _ c (List.getElem?_eq_getElem hlt) hq
            rw [(mapO_spec g3).1]
            exact r2.2.1 _ (List.getElem_mem hlt)
          · obtain ⟨y, hy, _⟩ := hcell q c j u hq hj
            rw [add_mk, cell_of_row _ w.heap.size _ vs' el (0, 0) (heap_alloc_new w _), Nat.zero_add, hy]
            rfl
          · obtain ⟨y, hy, hr⟩ := hcell q c j u hq hj
            rw [hy]
            exact hr.mono hokw hw'
        intro K Q hK
        refine wp_of_value (v := .slice (some ⟨w.heap.size, 0, none⟩) len len) (w' := w.alloc (.cells vs' el)) ?_ (hK _ _ ⟨C, ?_⟩)
        · have hnl : ¬ (16777216 < len * P.cellsOf el) := by omega
          simp only [execOp, Sem.run_bind, Instr.buildSlice, run_underlying hu, Result.andThen_ok, run_sizeOf hok]
          rw [if_neg (by simpa using hnl)]
          by_cases h0 : len * P.cellsOf el = 0
          · rw [if_pos h0]
            simp only [if_pos h0] at hcur
            simp only [Sem.run_bind, Sem.run_pure, Result.andThen_ok, Array.toList_map]
            rw [hcur, r1]
            rfl
          · rw [if_neg h0]
            simp only [if_neg h0] at hcur
            simp only [Sem.run_bind, Sem.run_pure, Result.andThen_ok, Array.toList_map, zeroValue, typeInfo, run_program, hi, hiz]
            rw [hcur, r1]
            rfl
        · have := hs.put h'' (fun _ _ => rfl) (fun b hb => hokw b (hok' b hb)) (fun b hb => hw' b (hok' b hb)) (fun _ h => h) (.data hsl) (by simp [AV.keys]) hd
          simpa [St.app, upsH] using this
      · cases he
    · cases hc
  · cases hc

/-- Every operation but calls: what 'eff' says is done. -/
theorem eff_sound (o : Oper) (aop : AOp) (e : Eff) (hc : cOp P ks fid o = some aop) (he : eff G aop S = some e) (hs : Sim N B ok0 w0 E C S a w) (hd : ∀ x, o.dst = some x → x < N)
    (hcall : ∀ c, o.op ≠ .call c) : Does P N B ok0 w0 E o a w (S.app o.dst e) := by
  obtain ⟨dst, op, ty, pos, after, guard⟩ := o
  have ok' := okb B ok0 C S.heap S.frz w
  cases op with
  | move x =>
    simp only [cOp, Option.map_eq_some_iff] at hc
    obtain ⟨y, hy, rfl⟩ := hc
    cases he
    obtain ⟨h1, h2⟩ := hs.ev hy
    exact .of_data hs (by simp [execOp]) h1 h2 hd
  | assign x =>
    simp only [cOp, Option.map_eq_some_iff] at hc
    obtain ⟨y, hy, rfl⟩ := hc
    cases he
    obtain ⟨h1, h2⟩ := hs.ev hy
    exact .of_data hs (by simp [execOp]) h1 h2 hd
  | pick c x y =>
    simp only [cOp] at hc
    split at hc
    · rename_i c' x' y' hc' hx' hy'
      cases hc
      obtain ⟨c1, c2⟩ := hs.ev hc'
      obtain ⟨x1, x2⟩ := hs.ev hx'
      obtain ⟨y1, y2⟩ := hs.ev hy'
      simp only [eff] at he
      split at he
      · rename_i b hb
        cases he
        rw [hb] at c1
        have := c1.bool_inv
        cases b with
        | true => exact .of_data hs (u := S.ev x') (by simp [execOp, this, asBool]) x1 x2 hd
        | false => exact .of_data hs (u := S.ev y') (by simp [execOp, this, asBool]) y1 y2 hd
      · cases he
    · cases hc
  | alloc t =>
    simp only [cOp, Option.map_eq_some_iff] at hc
    obtain ⟨z, hz, rfl⟩ := hc
    simp only [eff] at he
    split at he
    · rename_i hk
      cases he
      obtain ⟨i, v, hi, hiz, hcz, hkz, hone⟩ := zero_cells (P := P) (C := C) (ok := okb B ok0 C S.heap S.frz w) (w := w) hz
      have hcells : (AV.agg z).cells = z := rfl
      obtain ⟨L, r1, r2, r3, r4⟩ := s_newVar (P := P) (e := t) (u := .agg z) (v := v) hs.h hk (by rw [hcells]; exact hcz.1) (by rw [hcells]; exact hcz.2) (by rw [hcells, hkz]; simp) (by rw [hcells]; exact fun x hx => .inl (hone x hx))
      rw [hcells, hkz] at r2 r3
      refine .of_new hs hk (v := .pointer (some ⟨L.block, 0, none⟩)) ?_ r2 r3 r4 (fun ok => ?_) (by simp [AV.keys]) hd
      · simp [execOp, Instr.alloc, zeroValue, typeInfo, hi, hiz, r1]
      · simpa using Rep.ptr (i := 0) (off := 0) (ok := ok) (w := w.alloc (.cells v.cells t)) (setC_self C _ (some L))
    · cases he
  | box t x =>
    simp only [cOp] at hc
    obtain ⟨ht, hc⟩ := of_ite hc
    rw [Option.map_eq_some_iff] at hc
    obtain ⟨y, hy, rfl⟩ := hc
    obtain ⟨h1, h2⟩ := hs.ev hy
    simp only [eff] at he
    split at he
    · rename_i hk
      obtain ⟨⟨hl, hcell⟩, he⟩ := of_ite he
      cases he
      have hund : S.ev y ≠ .undef := by rintro e; rw [e] at hcell; simp at hcell
      obtain ⟨c1, c2⟩ := h1.cells hund
      obtain ⟨L, r1, r2, r3, r4⟩ := s_newVar (P := P) (e := t) (u := S.ev y) (v := a.eval x) hs.h hk c1 c2 (fun k hk => h2 k (cells_keys hk)) (fun u hu => .inl (List.all_eq_true.1 hcell u hu))
      rw [hl] at r2 r3
      refine .of_new hs hk (v := .pointer (some ⟨L.block, 0, none⟩)) ?_ r2 r3 r4 (fun ok => ?_) (by simp [AV.keys]) hd
      · simp [execOp, Instr.box, r1]
      · simpa using Rep.ptr (i := 0) (off := 0) (ok := ok) (w := w.alloc (.cells (a.eval x).cells t)) (setC_self C _ (some L))
    · cases he
  | build t parts => exact d_build hc he hs hd
  | buildSlice t len parts => exact d_bslice hc he hs hd
  | load t x =>
    simp only [cOp] at hc
    obtain ⟨ht, hc⟩ := of_ite hc
    rw [Option.map_eq_some_iff] at hc
    obtain ⟨y, hy, rfl⟩ := hc
    obtain ⟨h1, h2⟩ := hs.ev hy
    have hcase : ∃ u acc, e = { val := u, acc := acc } ∧ (match loadN P t, S.at (S.ev y) with | none, some (c :: _) => some c | some n, some cs => if n ≤ cs.length then some (.agg (cs.take n)) else none | _, _ => none) = some u := by
      cases hn : loadN P t with
      | none =>
        rw [hn] at he
        simp only [eff] at he
        split at he
        · rename_i c rest hat; cases he; exact ⟨c, _, rfl, by rw [hat]⟩
        · cases he
      | some n =>
        rw [hn] at he
        simp only [eff] at he
        split at he
        · rename_i cs hat
          obtain ⟨hle, he⟩ := of_ite he
          cases he
          exact ⟨_, _, rfl, by rw [hat]; simp [hle]⟩
        · cases he
    obtain ⟨u, acc, rfl, hu⟩ := hcase
    obtain ⟨v, r1, r2, r3⟩ := s_load (P := P) ht hs.h h1 hu
    exact .of_data hs (by simp [execOp, r1]) r2 r3 hd
  | store t x y =>
    simp only [cOp] at hc
    obtain ⟨ht, hc⟩ := of_ite hc
    split at hc
    · rename_i x' y' hx' hy'
      cases hc
      obtain ⟨x1, x2⟩ := hs.ev hx'
      obtain ⟨y1, y2⟩ := hs.ev hy'
      simp only [eff] at he
      split at he
      · rename_i o i off hxe
        rw [hxe] at x1
        split at he
        · rename_i ob hob
          split at he
          · rename_i cs hcs
            obtain ⟨⟨g1, g2, g3, g4⟩, he⟩ := of_ite he
            cases he
            obtain ⟨w', r1, _, r2, r3, r4⟩ := s_store (P := P) ht hs.h x1 y1 y2 hob hcs g1 g2 g3 g4
            intro K Q hK
            refine wp_of_skip (w' := w') (by simp [execOp, r1]) (hK _ _ ⟨C, ?_⟩)
            have := hs.put r2 (fun _ _ => rfl) r3 r4 (fun x hx => by by_cases e : x = o <;> simp [setH, e, hx]) (u := .undef) (v := undef) (.data (.undef _)) (by simp [AV.keys]) hd
            simpa [St.app, upsH] using this
          · cases he
        · cases he
      · cases he
    · cases hc
  | nilCheck x =>
    simp only [cOp, Option.map_eq_some_iff] at hc
    obtain ⟨y, hy, rfl⟩ := hc
    obtain ⟨h1, h2⟩ := hs.ev hy
    simp only [eff] at he
    split at he
    · rename_i o i off hxe
      cases he
      rw [hxe] at h1 h2
      obtain ⟨L, hL, hv⟩ := h1.ptr_inv
      exact .of_data hs (by simp [execOp, hv]) (hv ▸ h1) h2 hd
    · rename_i cs hxe
      cases he
      rw [hxe] at h1 h2
      have hr := h1.ref_inv
      cases hv : a.eval x with
      | pointer p =>
        rw [hv] at hr h1
        cases hr with
        | ref vs hok hcell hrep => exact .of_data hs (v := .pointer (some _)) (by simp [execOp, hv]) h1 h2 hd
      | _ => rw [hv] at hr; cases hr
    · rename_i f cs hxe
      cases he
      rw [hxe] at h1 h2
      obtain ⟨vs, hv, _, _⟩ := h1.fn_inv
      exact .of_data hs (by simp [execOp, hv]) (hv ▸ h1) h2 hd
    · cases he
  | binOp op t x y u =>
    simp only [cOp] at hc
    split at hc
    · rename_i k x' y' hu hx' hy'
      cases hc
      simp only [eff] at he
      split at he
      · rename_i r hr
        cases he
        obtain ⟨x1, _⟩ := hs.ev hx'
        obtain ⟨y1, _⟩ := hs.ev hy'
        obtain ⟨k1, n1, k2, n2, v, e1, e2, r1, r2, r3⟩ := run_binOp (P := P) (t := t) x1 y1 hr
        have hg : (eqGuard op t x y (a.eval x) (a.eval y)).run P w = .ok () w := by rw [e1, e2]; cases op <;> rfl
        exact .of_data hs (by simp [execOp, hg, r1]) (.data r2) (by simp [r3]) hd
      · cases he
    · rename_i x' y' hu hx' hy'
      cases hc
      simp only [eff] at he
      split at he
      · rename_i r hr
        cases he
        obtain ⟨x1, _⟩ := hs.ev hx'
        obtain ⟨y1, _⟩ := hs.ev hy'
        obtain ⟨b1, b2, v, e1, e2, r1, r2, r3⟩ := run_binbOp (P := P) hu x1 y1 hr
        have hg : (eqGuard op t x y (a.eval x) (a.eval y)).run P w = .ok () w := by rw [e1, e2]; cases op <;> rfl
        exact .of_data hs (by simp [execOp, hg, r1]) (.data r2) (by simp [r3]) hd
      · cases he
    · cases hc
  | unOp op t x =>
    simp only [cOp, Option.map_eq_some_iff] at hc
    obtain ⟨y, hy, rfl⟩ := hc
    simp only [eff] at he
    split at he
    · rename_i r hr
      cases he
      obtain ⟨v, r1, r2, r3⟩ := run_unOp (P := P) (hs.ev hy).1 hr
      exact .of_data hs (by simp [execOp, r1]) (.data r2) (by simp [r3]) hd
    · cases he
  | convert src dt x =>
    simp only [cOp] at hc
    obtain ⟨hok, hc⟩ := of_ite hc
    obtain ⟨_, d, _, hsrc⟩ := okT_info hok
    split at hc
    · rename_i k y hu hy
      cases hc
      simp only [eff] at he
      split at he
      · rename_i k' n hn
        cases he
        have h1 := (hs.ev hy).1
        rw [hn] at h1
        have e1 := h1.int_inv
        have hrun : (convert src dt (.int k' n)).run P w = .ok (.int k (k.wrap n)) w := by
          simp only [convert, Sem.run_bind, run_underlying hsrc, run_underlying hu, Result.andThen_ok]
          cases d <;> rfl
        exact .of_data hs (by simp only [execOp, e1, Sem.run_bind, hrun]; rfl) (.data (.int _ _)) (by simp [AV.keys]) hd
      · cases he
    · cases hc
  | makeSlice t l c =>
    simp only [cOp] at hc
    split at hc
    · rename_i el hel
      split at hc
      · rename_i z l' c' hz hl hcap
        obtain ⟨⟨hok, hby⟩, hc⟩ := of_ite hc
        cases hc
        simp only [eff] at he
        split at he
        · rename_i hk
          split at he
          · rename_i k1 n k2 m hn hm
            obtain ⟨hcond, he1⟩ := of_ite he
            clear he
            obtain ⟨rfl, h0, hb, hzl⟩ := hcond
            cases he1
            have e1 := (hs.ev hl).1
            have e2 := (hs.ev hcap).1
            rw [hn] at e1
            rw [hm] at e2
            obtain ⟨L, cur, q1, q2, q3, r1, r2, r3, r4⟩ := s_make (P := P) (kl := k1) (kc := k2) hs.h hk (elemT_under hel) hz hzl h0 hb (by
              have : n * 1 ≤ n * (P.bytesOf el : Int) := Int.mul_le_mul_of_nonneg_left (by omega) h0
              omega)
            refine .of_new hs hk (v := .slice (some ⟨L.block, 0, none⟩) n.toNat n.toNat) ?_ r2 r3 r4 (fun ok => ?_) (by simp [AV.keys]) hd
            · simp only [execOp, e1.int_inv, e2.int_inv, Sem.run_bind, r1]; rfl
            · simpa using Rep.sl (i := 0) (n := n.toNat) (c := n.toNat) (ok := ok) (w := w.alloc (.cells cur L.ty)) (setC_self C _ (some L)) (Nat.le_refl _) (by omega)
          · cases he
        · cases he
      · cases hc
    · cases hc
  | fieldAddr s x f =>
    simp only [cOp] at hc
    split at hc
    · rename_i fs hfs
      split at hc
      · rename_i fd y hfd hy
        split at hc
        · cases hc
        · rename_i hcond
          cases hc
          simp only [Bool.or_eq_true, decide_eq_true_eq, Bool.not_eq_true', not_or, Bool.not_eq_false] at hcond
          have h1 := hs.ev hy
          have hcase : ∃ r, e = { val := r } ∧ faddrA fd.offset (S.ev y) = some r := by
            simp only [eff] at he
            split at he
            · rename_i cs hh; cases he; exact ⟨_, rfl, by rw [hh]; rfl⟩
            · rename_i o i g hh; cases he; exact ⟨_, rfl, by rw [hh]; rfl⟩
            · cases he
          obtain ⟨r, rfl, hr⟩ := hcase
          obtain ⟨v, r1, r2, r3⟩ := s_faddr (P := P) hfs hfd (by simpa using hcond.1) hcond.2 h1.1 hr
          exact .of_data hs (by simp [execOp, r1]) r2 (fun k hk => h1.2 k (r3 k hk)) hd
      · cases hc
    · cases hc
  | field s x f =>
    simp only [cOp] at hc
    split at hc
    · rename_i fs hfs
      split at hc
      · rename_i fd y hfd hy
        obtain ⟨ht, hc⟩ := of_ite hc
        cases hc
        have h1 := hs.ev hy
        have hcase : ∃ cs r, S.ev y = .agg cs ∧ e = { val := r } ∧ (match loadN P fd.type with | none => cs[fd.offset]? | some n => if fd.offset + n ≤ cs.length then some (.agg ((cs.drop fd.offset).take n)) else none) = some r := by
          cases hn : loadN P fd.type with
          | none =>
            rw [hn] at he
            simp only [eff] at he
            split at he
            · rename_i cs hh
              split at he
              · rename_i v hv; cases he; exact ⟨cs, v, hh, rfl, hv⟩
              · cases he
            · cases he
          | some n =>
            rw [hn] at he
            simp only [eff] at he
            split at he
            · rename_i cs hh
              obtain ⟨hle, he⟩ := of_ite he
              cases he
              exact ⟨cs, _, hh, rfl, by simp [hle]⟩
            · cases he
        obtain ⟨cs, r, hcs, rfl, hr⟩ := hcase
        rw [hcs] at h1
        obtain ⟨v, r1, r2, r3⟩ := s_field (P := P) hfs hfd ht h1.1 hr
        exact .of_data hs (by simp [execOp, r1]) r2 (fun k hk => h1.2 k (r3 k hk)) hd
      · cases hc
    · cases hc
  | indexAddr t x i =>
    simp only [cOp] at hc
    split at hc
    · rename_i el x' i' hel hx' hi'
      obtain ⟨ht, hc⟩ := of_ite hc
      cases hc
      have hu := elemT_under hel
      have h1 := hs.ev hx'
      have h2 := (hs.ev hi').1
      simp only [eff] at he
      split at he
      · rename_i nl sz' es k n hxe hie
        split at he
        · rename_i cs hcs
          obtain ⟨hcond, he1⟩ := of_ite he
          clear he
          obtain ⟨rfl, h0⟩ := hcond
          cases he1
          rw [hxe] at h1
          rw [hie] at h2
          obtain ⟨v, r1, r2⟩ := s_iaddr_imm (P := P) (k := k) hu ht h1.1 hcs h0
          exact .of_data hs (by simp [execOp, h2.int_inv, r1]) r2 (by simp [AV.keys]) hd
        · cases he
      · rename_i o i0 len k n hxe hie
        split at he
        · rename_i ob hob
          obtain ⟨⟨hsz, h0, hlt⟩, he⟩ := of_ite he
          cases he
          rw [hxe] at h1
          rw [hie] at h2
          obtain ⟨v, r1, r2⟩ := s_iaddr_sl (P := P) (k := k) hu ht hs.h h1.1 hob hsz h0 hlt
          exact .of_data hs (by simp [execOp, h2.int_inv, r1]) r2 (by simpa [AV.keys] using h1.2) hd
        · cases he
      · cases he
    · cases hc
  | slice t x lo hi mx =>
    simp only [cOp] at hc
    split at hc
    · rename_i el x' hel hx'
      split at hc
      · rename_i lo' hi' mx' hlo hhi hmx
        obtain ⟨ht, hc⟩ := of_ite hc
        cases hc
        have hu := elemT_under hel
        have h1 := hs.ev hx'
        -- a bound: absent on both sides, or a number
        have bound : ∀ (o : Option Operand) (o' : Option AX) (dflt : AV) (k : IntKind) (n : Int), axO P o = some o' → (o'.map S.ev).getD dflt = .int k n → (o = none ∧ o' = none ∧ dflt = .int k n) ∨ (o'.isSome = true ∧ o.map a.eval = some (.int k n)) := by
          intro o o' dflt k n hoo hv
          cases o with
          | none => simp only [axO] at hoo; cases hoo; exact .inl ⟨rfl, rfl, by simpa using hv⟩
          | some q =>
            simp only [axO, Option.map_eq_some_iff] at hoo
            obtain ⟨y, hy, rfl⟩ := hoo
            simp only [Option.map_some, Option.getD_some] at hv
            have := (hs.ev hy).1
            rw [hv] at this
            exact .inr ⟨rfl, by simp [this.int_inv]⟩
        simp only [eff] at he
        split at he
        · rename_i nl sz' es k l hxe hle
          split at he
          · rename_i k2 h k3 m hhe hme
            obtain ⟨hcond, he1⟩ := of_ite he
            clear he
            obtain ⟨rfl, c1, c2, c3, c4, c5⟩ := hcond
            cases he1
            rw [hxe] at h1
            have hI := h1.1.imm_inv
            obtain ⟨A, n, c, hv, hn, hcap⟩ : ∃ A n c, a.eval x = .slice A n c ∧ n = es.length ∧ es.length ≤ c := by
              cases hev : a.eval x with
              | slice A n c =>
                rw [hev] at hI
                cases hI with
                | nils => exact ⟨_, _, _, rfl, rfl, Nat.le_refl _⟩
                | imm ad vs hn hc hA hsz hcell hrep => exact ⟨_, _, _, rfl, hn, hc⟩
              | _ => rw [hev] at hI; cases hI
            rw [hv] at hI
            subst hn
            have bl := bound lo lo' _ k l hlo hle
            have bh := bound hi hi' _ k2 h hhi hhe
            have bm := bound mx mx' _ k3 m hmx hme
            have key := run_slice_gen (P := P) (w := w) (A := A) (n := es.length) (c := c) (lo := lo.map a.eval) (hi := hi.map a.eval) (mx := mx.map a.eval) (l := l.toNat) (h := h.toNat) (m := if mx.isSome then m.toNat else c) hu ht
              (by rcases bm with ⟨rfl, _, _⟩ | ⟨_, e⟩
                  · exact .inl ⟨rfl, rfl⟩
                  · refine .inr ⟨k3, ?_⟩
                    have : mx.isSome = true := by cases mx <;> simp_all
                    rw [e, if_pos this, Int.toNat_of_nonneg (by omega)])
              (by split <;> omega)
              (by rcases bh with ⟨rfl, e0, e⟩ | ⟨_, e⟩
                  · refine .inl ⟨rfl, ?_, ?_⟩
                    · rcases bm with ⟨rfl, _, _⟩ | ⟨e2, _⟩
                      · rfl
                      · have := c5 e2; rw [e0] at this; cases this
                    · cases e; simp
                  · exact .inr ⟨k2, by rw [e, Int.toNat_of_nonneg (by omega)]⟩)
              (by split <;> omega)
              (by rcases bl with ⟨rfl, _, e⟩ | ⟨_, e⟩
                  · cases e; exact .inl ⟨rfl, rfl⟩
                  · exact .inr ⟨k, by rw [e, Int.toNat_of_nonneg (by omega)]⟩)
              (by omega)
            have hrep := s_slice_imm (l := l.toNat) (h := h.toNat) (m := if mx.isSome then m.toNat else c) hI (by omega) (by omega) (by split <;> omega) (by split <;> omega)
            exact .of_data hs (v := sliced A l.toNat h.toNat (if mx.isSome then m.toNat else c) (P.cellsOf el)) (by simp only [execOp, hv, Sem.run_bind, key]; rfl) (.data hrep) (by simp [AV.keys]) hd
          · cases he
        · rename_i o i n k l hxe hle
          split at he
          · rename_i ob k2 h k3 m hob hhe hme
            obtain ⟨hcond, he1⟩ := of_ite he
            clear he
            obtain ⟨hsz, c1, c2, c3, c4, c5⟩ := hcond
            cases he1
            rw [hxe] at h1
            have bl := bound lo lo' _ k l hlo hle
            have bh := bound hi hi' _ k2 h hhi hhe
            have bm := bound mx mx' _ k3 m hmx hme
            rcases h1.1.sl_inv with ⟨L, c, hL, hv, hn, hcap⟩ | ⟨hC, hv, rfl, rfl⟩
            · have hp := (hs.h.row o ob hob).place
              rw [hL] at hp
              have key := run_slice_gen (P := P) (w := w) (A := some ⟨L.block, i * L.sz, none⟩) (n := n) (c := c) (lo := lo.map a.eval) (hi := hi.map a.eval) (mx := mx.map a.eval) (l := l.toNat) (h := h.toNat) (m := c) hu ht
                (by rcases bm with ⟨rfl, _, _⟩ | ⟨e, _⟩
                    · exact .inl ⟨rfl, rfl⟩
                    · rw [e] at c5; cases c5)
                (Nat.le_refl _)
                (by rcases bh with ⟨rfl, e0, e⟩ | ⟨_, e⟩
                    · refine .inl ⟨rfl, ?_, ?_⟩
                      · rcases bm with ⟨rfl, _, _⟩ | ⟨e2, _⟩
                        · rfl
                        · rw [e2] at c5; cases c5
                      · cases e; simp
                    · exact .inr ⟨k2, by rw [e, Int.toNat_of_nonneg (by omega)]⟩)
                (by omega)
                (by rcases bl with ⟨rfl, _, e⟩ | ⟨_, e⟩
                    · cases e; exact .inl ⟨rfl, rfl⟩
                    · exact .inr ⟨k, by rw [e, Int.toNat_of_nonneg (by omega)]⟩)
                (by omega)
              refine .of_data hs (v := sliced (some ⟨L.block, i * L.sz, none⟩) l.toNat h.toNat c (P.cellsOf el)) (by simp only [execOp, hv, Sem.run_bind, key]; rfl) ?_ ?_ hd
              · split
                · rename_i hlt
                  have hmne : c ≠ l.toNat := by omega
                  simp only [sliced, if_neg hmne, Option.map_some, add_mk]
                  have e1 : i * L.sz + l.toNat * P.cellsOf el = (i + l.toNat) * L.sz := by rw [← hsz, ← hp.1, Nat.add_mul]
                  have e2 : (h - l).toNat = h.toNat - l.toNat := by omega
                  rw [e1, e2]
                  exact .sl hL (by omega) (by omega)
                · rename_i hlt
                  obtain rfl : l = h := by omega
                  exact .data (.imm ⟨0, 0, none⟩ (fun _ _ => undef) (by simp) (by simp) (by simp) (by simp) (by simp) (by simp))
              · intro x hx
                split at hx
                · simp only [AV.keys, List.mem_singleton] at hx
                  subst hx
                  rw [hob]; simp
                · simp [AV.keys] at hx
            · have hl0 : l = 0 := by omega
              have hh0 : h = 0 := by omega
              subst hl0
              subst hh0
              have key := run_slice_gen (P := P) (w := w) (A := none) (n := 0) (c := 0) (lo := lo.map a.eval) (hi := hi.map a.eval) (mx := mx.map a.eval) (l := 0) (h := 0) (m := 0) hu ht
                (by rcases bm with ⟨rfl, _, _⟩ | ⟨e, _⟩
                    · exact .inl ⟨rfl, rfl⟩
                    · rw [e] at c5; cases c5)
                (by omega)
                (by rcases bh with ⟨rfl, e0, e⟩ | ⟨_, e⟩
                    · refine .inl ⟨rfl, ?_, rfl⟩
                      rcases bm with ⟨rfl, _, _⟩ | ⟨e2, _⟩
                      · rfl
                      · rw [e2] at c5; cases c5
                    · exact .inr ⟨k2, by rw [e]; rfl⟩)
                (by omega)
                (by rcases bl with ⟨rfl, _, e⟩ | ⟨_, e⟩
                    · exact .inl ⟨rfl, rfl⟩
                    · exact .inr ⟨k, by rw [e]; rfl⟩)
                (by omega)
              refine .of_data hs (u := .imm false (P.cellsOf el) []) (v := sliced none 0 0 0 (P.cellsOf el)) (by simp only [execOp, hv, Sem.run_bind, key]; rfl) (.data ?_) (by simp [AV.keys]) hd
              exact .imm ⟨0, 0, none⟩ (fun _ _ => undef) (by simp) (by simp) (by simp) (by simp) (by simp) (by simp)
          · cases he
        · cases he
      · cases hc
    · cases hc
  | extract x i =>
    simp only [cOp, Option.map_eq_some_iff] at hc
    obtain ⟨y, hy, rfl⟩ := hc
    have h1 := hs.ev hy
    simp only [eff] at he
    split at he
    · rename_i cs hcs
      split at he
      · rename_i v hv
        cases he
        rw [hcs] at h1
        obtain ⟨vs, e1, hl, hr⟩ := h1.1.tup_inv
        have hlt : i < vs.size := by rw [← hl]; exact (List.getElem?_eq_some_iff.1 hv).1
        refine .of_data hs (v := vs[i]) ?_ (hr i v _ hv (Array.getElem?_eq_getElem hlt)) (fun k hk => h1.2 k (by simp only [AV.keys]; exact mem_keysL.2 ⟨i, v, hv, hk⟩)) hd
        simp [execOp, Instr.extract, e1, hlt]
      · cases he
    · cases he
  | makeFunc f first caps =>
    cases f with
    | func f =>
      simp only [cOp] at hc
      obtain ⟨hf, hc⟩ := of_ite hc
      rw [Option.map_eq_some_iff] at hc
      obtain ⟨ys, hys, rfl⟩ := hc
      cases he
      obtain ⟨m1, m2⟩ := axs_spec [] caps.toList ys hys
      have hget : ∀ (j : Nat) (u : AV), (ys.map S.ev)[j]? = some u → ∃ (x : Operand) (y : AX) (t : TypeId), caps.toList[j]? = some x ∧ axOf P t x = some y ∧ u = S.ev y := by
        intro j u hj
        rw [List.getElem?_map, Option.map_eq_some_iff] at hj
        obtain ⟨y, hy, rfl⟩ := hj
        have hlt : j < caps.toList.length := by rw [← m1]; exact (List.getElem?_eq_some_iff.1 hy).1
        obtain ⟨t, ht⟩ := m2 j _ y (List.getElem?_eq_getElem hlt) hy
        exact ⟨_, y, t, List.getElem?_eq_getElem hlt, ht, rfl⟩
      refine .of_data hs (v := .func (.func f) #[] (caps.map a.eval)) ?_ (.fn (by simp [m1]) (fun j u v hj hv => ?_)) (fun k hk => ?_) hd
      · have : first = #[] := Array.eq_empty_of_size_eq_zero hf
        simp [execOp, Instr.makeFunc, this]
      · obtain ⟨x, y, t, hx, ht, rfl⟩ := hget j u hj
        have : caps[j]? = some x := by simpa using hx
        simp [this] at hv
        subst hv
        exact (hs.ev ht).1
      · simp only [AV.keys] at hk
        obtain ⟨j, u, hj, hku⟩ := mem_keysL.1 hk
        obtain ⟨x, y, t, hx, ht, rfl⟩ := hget j u hj
        exact (hs.ev ht).2 k hku
    | _ => simp [cOp] at hc
  | call c => exact absurd rfl (hcall c)
  | _ => simp [cOp] at hc
end
end Go.Ev

/-
  Calls: a pure callee, by what it gives; len, max.
-/
namespace Go.Ev
open Go Go.RowKit

theorem rkL_eq (b : Nat) : ∀ cs : List AV, AV.rkL b cs = cs.map (AV.rk b)
  | [] => rfl
  | v :: vs => by simp only [AV.rkL, List.map_cons, rkL_eq b vs]

section
mutual
theorem rk_id (b : Nat) : ∀ u : AV, u.keys = [] → u.rk b = u
  | .agg cs, h => by simp only [AV.rk, rkL_id b cs h]
  | .tup cs, h => by simp only [AV.rk, rkL_id b cs h]
  | .fn f cs, h => by simp only [AV.rk, rkL_id b cs h]
  | .ptr _ _ _, h => by simp [AV.keys] at h
  | .sl _ _ _, h => by simp [AV.keys] at h
  | .undef, _ => rfl
  | .int _ _, _ => rfl
  | .bool _, _ => rfl
  | .str _, _ => rfl
  | .nilp, _ => rfl
  | .imm _ _ _, _ => rfl
  | .ref _, _ => rfl
theorem rkL_id (b : Nat) : ∀ cs : List AV, AV.keysL cs = [] → AV.rkL b cs = cs
  | [], _ => rfl
  | v :: vs, h => by
    simp only [AV.keysL, List.append_eq_nil_iff] at h
    simp only [AV.rkL, rk_id b v h.1, rkL_id b vs h.2]
end

mutual
theorem keys_rk (b : Nat) : ∀ u : AV, (u.rk b).keys = u.keys.map (b + ·)
  | .agg cs => by simp only [AV.rk, AV.keys, keysL_rk b cs]
  | .tup cs => by simp only [AV.rk, AV.keys, keysL_rk b cs]
  | .fn f cs => by simp only [AV.rk, AV.keys, keysL_rk b cs]
  | .ptr _ _ _ => rfl
  | .sl _ _ _ => rfl
  | .undef => rfl
  | .int _ _ => rfl
  | .bool _ => rfl
  | .str _ => rfl
  | .nilp => rfl
  | .imm _ _ _ => rfl
  | .ref _ => rfl
theorem keysL_rk (b : Nat) : ∀ cs : List AV, AV.keysL (AV.rkL b cs) = (AV.keysL cs).map (b + ·)
  | [] => rfl
  | v :: vs => by simp only [AV.rkL, AV.keysL, keys_rk b v, keysL_rk b vs, List.map_append]
end

theorem isCell_rk (b : Nat) (u : AV) : (u.rk b).isCell = u.isCell := by cases u <;> rfl
end

theorem Rep.rk {C C' : Conc} {ok : Nat → Prop} {w : World} {b : Nat} {u : AV} {v : Value} (h : Rep C ok w u v) : (∀ k ∈ u.keys, C' (b + k) = C k) → Rep C' ok w (u.rk b) v := by
  have sub : ∀ {cs : List AV} {vs : Array Value}, (∀ (j : Nat) (u : AV) (v : Value), cs[j]? = some u → vs[j]? = some v → (∀ k ∈ u.keys, C' (b + k) = C k) → Rep C' ok w (u.rk b) v) → (∀ k ∈ AV.keysL cs, C' (b + k) = C k) →
      ∀ (j : Nat) (u : AV) (v : Value), (AV.rkL b cs)[j]? = some u → vs[j]? = some v → Rep C' ok w u v := by
    intro cs vs ih hC j u v hj hv
    rw [rkL_eq, List.getElem?_map, Option.map_eq_some_iff] at hj
    obtain ⟨x, hx, rfl⟩ := hj
    exact ih j x v hx hv fun k hk => hC k (mem_keysL.2 ⟨j, x, hx, hk⟩)
  induction h with
  | data h => intro _; rw [rk_id b _ h.keys]; exact .data h
  | ptr h => exact fun hC => .ptr ((hC _ (by simp [AV.keys])).trans h)
  | sl h hn hc => exact fun hC => .sl ((hC _ (by simp [AV.keys])).trans h) hn hc
  | nilsl h => exact fun hC => .nilsl ((hC _ (by simp [AV.keys])).trans h)
  | agg hl _ ih => exact fun hC => .agg (by rw [rkL_eq]; simpa using hl) (sub ih (by simpa only [AV.keys] using hC))
  | tup hl _ ih => exact fun hC => .tup (by rw [rkL_eq]; simpa using hl) (sub ih (by simpa only [AV.keys] using hC))
  | fn hl _ ih => exact fun hC => .fn (by rw [rkL_eq]; simpa using hl) (sub ih (by simpa only [AV.keys] using hC))

section
variable {B : Nat} {ok0 : Nat → Prop} {w0 : World} {C C1 : Conc} {H : Nat → Option Obj} {F : Nat → Bool} {w w' : World}

def mergeC (b n : Nat) (C C1 : Conc) : Conc := fun k => if b ≤ k ∧ k < b + n then C1 (k - b) else C k
def mergeH (b : Nat) (H : Nat → Option Obj) (objs : List Obj) : Nat → Option Obj := fun k => if b ≤ k ∧ k < b + objs.length then (objs[k - b]?).map (Obj.rk b) else H k

theorem upsH_shift (b : Nat) : ∀ (objs : List Obj) (i : Nat) (H : Nat → Option Obj) (k : Nat), upsH H (shiftObjs b i objs) k = if b + i ≤ k ∧ k < b + i + objs.length then (objs[k - (b + i)]?).map (Obj.rk b) else H k
  | [], i, H, k => by rw [shiftObjs, upsH, if_neg (by simp only [List.length_nil]; omega)]
  | o :: os, i, H, k => by
    rw [shiftObjs, upsH, upsH_shift b os (i + 1)]
    by_cases e : k = b + i
    · subst e
      rw [if_neg (by omega), if_pos ⟨by omega, by simp⟩, setH_self]
      simp
    · by_cases c : b + (i + 1) ≤ k ∧ k < b + (i + 1) + os.length
      · rw [if_pos c, if_pos ⟨by omega, by simp only [List.length_cons]; omega⟩, show k - (b + i) = (k - (b + (i + 1))) + 1 by omega]
        simp
      · rw [if_neg c, if_neg (by simp only [List.length_cons]; omega), setH_ne _ _ e]

theorem freeKeys_spec (b : Nat) : ∀ (objs : List Obj) (i : Nat), freeKeys H (shiftObjs b i objs) = true → ∀ k, b + i ≤ k → k < b + i + objs.length → H k = none
  | [], i, _, k, h1, h2 => by simp at h2; omega
  | o :: os, i, h, k, h1, h2 => by
    simp only [shiftObjs, freeKeys, Bool.and_eq_true, Option.isNone_iff_eq_none] at h
    by_cases e : k = b + i
    · subst e; exact h.1
    · exact freeKeys_spec b os (i + 1) h.2 k (by omega) (by simp only [List.length_cons] at h2; omega)

/-- The rows that a callee made join those of the caller. -/
theorem SimH.merge (h : SimH B ok0 w0 C H F w) {objs : List Obj} {b : Nat} (hfree : ∀ k, b ≤ k → k < b + objs.length → H k = none)
    (h1 : SimH w.heap.size (upto (okb B ok0 C H F w) w) w C1 (heapOf objs) (fun _ => false) w') :
    SimH B ok0 w0 (mergeC b objs.length C C1) (mergeH b H objs) F w' ∧
      (∀ x, okb B ok0 C H F w x → okb B ok0 (mergeC b objs.length C C1) (mergeH b H objs) F w' x) ∧
      (∀ x, okb w.heap.size (upto (okb B ok0 C H F w) w) C1 (heapOf objs) (fun _ => false) w' x → okb B ok0 (mergeC b objs.length C C1) (mergeH b H objs) F w' x) ∧
      (∀ x, okb B ok0 C H F w x → w'.heap[x]? = w.heap[x]?) := by
  have hsize := h1.below.size
  have hlow : ∀ x, x < w.heap.size → w'.heap[x]? = w.heap[x]? := h1.below.block
  have new : ∀ k, b ≤ k ∧ k < b + objs.length → mergeC b objs.length C C1 k = C1 (k - b) ∧ mergeH b H objs k = (objs[k - b]?).map (Obj.rk b) := fun k hk => ⟨by simp [mergeC, hk], by simp [mergeH, hk]⟩
  have old : ∀ k, ¬ (b ≤ k ∧ k < b + objs.length) → mergeC b objs.length C C1 k = C k ∧ mergeH b H objs k = H k := fun k hk => ⟨by simp [mergeC, hk], by simp [mergeH, hk]⟩
  have notnew : ∀ k, H k ≠ none → ¬ (b ≤ k ∧ k < b + objs.length) := fun k hk hc => hk (hfree k hc.1 hc.2)
  have getN : ∀ k o, b ≤ k ∧ k < b + objs.length → mergeH b H objs k = some o → ∃ o1, heapOf objs (k - b) = some o1 ∧ o = o1.rk b := fun k o hk ho => by
    rw [(new k hk).2, Option.map_eq_some_iff] at ho
    obtain ⟨o1, h2, h3⟩ := ho
    exact ⟨o1, h2, h3.symm⟩
  have okA : ∀ x, okb B ok0 C H F w x → okb B ok0 (mergeC b objs.length C C1) (mergeH b H objs) F w' x := by
    intro x hx
    refine ⟨Nat.lt_of_lt_of_le hx.1 hsize, hx.2.1, fun k o L g1 g2 g3 => ?_⟩
    by_cases hk : b ≤ k ∧ k < b + objs.length
    · obtain ⟨o1, h2, _⟩ := getN k o hk g1
      rw [(new k hk).1] at g3
      have := h1.blk _ o1 L h2 g3
      have := hx.1
      omega
    · rw [(old k hk).2] at g1; rw [(old k hk).1] at g3
      exact hx.2.2 k o L g1 g2 g3
  have okB : ∀ x, okb w.heap.size (upto (okb B ok0 C H F w) w) C1 (heapOf objs) (fun _ => false) w' x → okb B ok0 (mergeC b objs.length C C1) (mergeH b H objs) F w' x := by
    intro x hx
    refine ⟨hx.1, ?_, fun k o L g1 g2 g3 => ?_⟩
    · rcases Nat.lt_or_ge x w.heap.size with lt | ge
      · exact (hx.2.1 lt).2.1
      · exact h.up x ge
    by_cases hk : b ≤ k ∧ k < b + objs.length
    · obtain ⟨o1, h2, _⟩ := getN k o hk g1
      rw [(new k hk).1] at g3
      exact hx.2.2 _ o1 L h2 rfl g3
    · rw [(old k hk).2] at g1; rw [(old k hk).1] at g3
      rcases Nat.lt_or_ge x w.heap.size with lt | ge
      · exact (hx.2.1 lt).2.2 k o L g1 g2 g3
      · have := h.lt g1 g3
        omega
  refine ⟨⟨h.below.trans (h1.below.mono h.base), Nat.le_trans h.base hsize, fun k o hk => ?_, fun k o L g1 g2 => ?_, fun k k' o o' L L' g1 g2 g3 g4 g5 => ?_, fun k o x g1 g2 => ?_, fun x hx => h.up x (Nat.le_trans hsize hx), fun k o L g1 g2 => ?_, fun x hx hn => (hlow x (Nat.lt_of_lt_of_le hx h.below.size)).trans (h.keep x hx hn)⟩, okA, okB, fun x hx => hlow x hx.1⟩
  · by_cases hn : b ≤ k ∧ k < b + objs.length
    · obtain ⟨o1, h2, rfl⟩ := getN k o hn hk
      have hr := h1.row _ o1 h2
      have hC : ∀ x ∈ o1.refs, mergeC b objs.length C C1 (b + x) = C1 x := fun x hx => by
        have := h1.wf _ o1 x h2 hx
        have hlt : x < objs.length := by
          rcases Nat.lt_or_ge x objs.length with lt | ge
          · exact lt
          · exact absurd (by simp [heapOf, List.getElem?_eq_none ge]) this
        rw [(new (b + x) ⟨by omega, by omega⟩).1]
        congr 1
        omega
      unfold Obj.rk
      split
      · rename_i hrefs
        refine ⟨hr.cells, hr.one, hr.refs, ?_⟩
        have hp := hr.place
        rw [(new k hn).1]
        cases hL : C1 (k - b) with
        | none => rw [hL] at hp; exact hp
        | some L =>
          rw [hL] at hp
          obtain ⟨p1, p2, cur, p3, p4, p5, p6, p7⟩ := hp
          refine ⟨p1, p2, cur, p3, p4, p5, p6, fun i cs j u hi hj => ?_⟩
          obtain ⟨v, g1, g2⟩ := p7 i cs j u hi hj
          have hk := noKeys hr hrefs (List.mem_of_getElem? hi) hj
          exact ⟨v, g1, g2.mono okB (fun _ _ => rfl) (by rw [hk]; simp)⟩
      · refine ⟨fun cs hcs => ?_, fun cs hcs u hu => ?_, fun cs hcs x hx => ?_, ?_⟩
        · obtain ⟨c0, hc0, rfl⟩ := List.mem_map.1 hcs
          rw [rkL_eq, List.length_map]; exact hr.cells c0 hc0
        · obtain ⟨c0, hc0, rfl⟩ := List.mem_map.1 hcs
          rw [rkL_eq] at hu
          obtain ⟨u0, hu0, rfl⟩ := List.mem_map.1 hu
          rcases hr.one c0 hc0 u0 hu0 with h3 | rfl
          · exact .inl (by rw [isCell_rk]; exact h3)
          · exact .inr rfl
        · obtain ⟨c0, hc0, rfl⟩ := List.mem_map.1 hcs
          rw [keysL_rk] at hx
          obtain ⟨x0, hx0, rfl⟩ := List.mem_map.1 hx
          exact List.mem_map.2 ⟨x0, hr.refs c0 hc0 x0 hx0, rfl⟩
        · have hp := hr.place
          rw [(new k hn).1]
          cases hL : C1 (k - b) with
          | none => rw [hL] at hp; simp only at hp ⊢; rw [hp]; rfl
          | some L =>
            rw [hL] at hp
            obtain ⟨p1, p2, cur, p3, p4, p5, p6, p7⟩ := hp
            refine ⟨p1, p2, cur, p3, p4, by simpa using p5, p6, fun i cs j u hi hj => ?_⟩
            rw [List.getElem?_map, Option.map_eq_some_iff] at hi
            obtain ⟨c0, hc0, rfl⟩ := hi
            rw [rkL_eq, List.getElem?_map, Option.map_eq_some_iff] at hj
            obtain ⟨u0, hu0, rfl⟩ := hj
            obtain ⟨v, g1, g2⟩ := p7 i c0 j u0 hc0 hu0
            refine ⟨v, g1, (g2.rk (C' := mergeC b objs.length C C1) (b := b) fun x hx => hC x (hr.refs c0 (List.mem_of_getElem? hc0) x (mem_keysL.2 ⟨j, u0, hu0, hx⟩))).mono okB (fun _ _ => rfl) (fun _ _ => rfl)⟩
    · rw [(old k hn).2] at hk
      refine (h.row k o hk).mono okA (fun x hx => hlow x hx.1) (old k hn).1 (fun x hx => (old x (notnew x (h.wf k o x hk hx))).1) fun L hL => hlow _ (h.lt hk hL)
  · by_cases hn : b ≤ k ∧ k < b + objs.length
    · obtain ⟨o1, h2, _⟩ := getN k o hn g1
      rw [(new k hn).1] at g2
      exact Nat.le_trans h.base (h1.blk _ o1 L h2 g2)
    · rw [(old k hn).2] at g1; rw [(old k hn).1] at g2; exact h.blk k o L g1 g2
  · by_cases hn : b ≤ k ∧ k < b + objs.length <;> by_cases hn' : b ≤ k' ∧ k' < b + objs.length
    · obtain ⟨o1, h2, _⟩ := getN k o hn g1
      obtain ⟨o2, h3, _⟩ := getN k' o' hn' g2
      rw [(new k hn).1] at g3; rw [(new k' hn').1] at g4
      have := h1.inj _ _ o1 o2 L L' h2 h3 g3 g4 g5
      omega
    · obtain ⟨o1, h2, _⟩ := getN k o hn g1
      rw [(new k hn).1] at g3; rw [(old k' hn').1] at g4; rw [(old k' hn').2] at g2
      have := h1.blk _ o1 L h2 g3
      have := h.lt g2 g4
      omega
    · obtain ⟨o2, h3, _⟩ := getN k' o' hn' g2
      rw [(old k hn).1] at g3; rw [(new k' hn').1] at g4; rw [(old k hn).2] at g1
      have := h1.blk _ o2 L' h3 g4
      have := h.lt g1 g3
      omega
    · rw [(old k hn).1] at g3; rw [(old k' hn').1] at g4; rw [(old k hn).2] at g1; rw [(old k' hn').2] at g2
      exact h.inj k k' o o' L L' g1 g2 g3 g4 g5
  · by_cases hn : b ≤ k ∧ k < b + objs.length
    · obtain ⟨o1, h2, rfl⟩ := getN k o hn g1
      unfold Obj.rk at g2
      split at g2
      · rename_i hr; rw [hr] at g2; simp at g2
      · obtain ⟨x0, hx0, rfl⟩ := List.mem_map.1 g2
        have hd := h1.wf _ o1 x0 h2 hx0
        have hlt : x0 < objs.length := by
          rcases Nat.lt_or_ge x0 objs.length with lt | ge
          · exact lt
          · exact absurd (by simp [heapOf, List.getElem?_eq_none ge]) hd
        rw [(new (b + x0) ⟨by omega, by omega⟩).2]
        simp [hlt]
    · rw [(old k hn).2] at g1
      have := h.wf k o x g1 g2
      rw [(old x (notnew x this)).2]
      exact this
  · by_cases hn : b ≤ k ∧ k < b + objs.length
    · obtain ⟨o1, h2, _⟩ := getN k o hn g1
      rw [(new k hn).1] at g2
      exact h.up _ (h1.blk _ o1 L h2 g2)
    · rw [(old k hn).2] at g1; rw [(old k hn).1] at g2; exact h.okrow k o L g1 g2

end
end Go.Ev

/-
  Append, and calls that are evaluated in place; one step of the evaluation.
-/
namespace Go.Ev
open Go Go.RowKit

theorem aget_aput {α : Type} (dflt : α) (v : α) (t : Nat) : ∀ (l : List (Nat × α)) (x : Nat), aget dflt (aput l t v) x = if t = x then v else aget dflt l x
  | [], x => by simp [aput, aget]
  | (k, u) :: r, x => by
    simp only [aput]
    by_cases e : k = t
    · subst e; simp only [if_true, aget]; split <;> rfl
    · rw [if_neg e]
      simp only [aget, aget_aput dflt v t r x]
      by_cases e1 : k = x
      · subst e1; simp [Ne.symm e]
      · simp [e1]

theorem afind_aput {α : Type} (v : α) (t : Nat) : ∀ (l : List (Nat × α)) (x : Nat), afind (aput l t v) x = if t = x then some v else afind l x
  | [], x => by simp [aput, afind]
  | (k, u) :: r, x => by
    simp only [aput]
    by_cases e : k = t
    · subst e; simp only [if_true, afind]; split <;> rfl
    · rw [if_neg e]
      simp only [afind, afind_aput v t r x]
      by_cases e1 : k = x
      · subst e1; simp [Ne.symm e]
      · simp [e1]

theorem den_putD (s : SL) (d : Option Nat) (v : AV) : aget .undef (putD s.slots d v) = fun t => if d = some t then v else aget .undef s.slots t := by
  funext t
  cases d with
  | none => simp [putD]
  | some x => simp [putD, aget_aput]

theorem den_putUps : ∀ (ups : List (Nat × Obj)) (heap : List (Nat × Obj)), afind (putUps heap ups) = upsH (afind heap) ups
  | [], _ => rfl
  | (k, o) :: r, heap => by
    rw [putUps, den_putUps r, upsH]
    congr 1
    funext x
    rw [afind_aput]
    simp [setH, eq_comm]

theorem den_apply (s : SL) (d : Option Nat) (e : Eff) : (s.apply d e).den = s.den.app d e := by
  simp only [SL.apply, SL.den, St.app, den_putD, den_putUps]
  congr 1
  funext k
  simp

theorem mem_newKeys {k : Nat} : ∀ (ups : List (Nat × Obj)) (heap : List (Nat × Obj)) (own : List Nat), k ∈ newKeys heap own ups → k ∈ own ∨ afind heap k = none
  | [], _, _, h => .inl h
  | (x, o) :: r, heap, own, h => by
    simp only [newKeys] at h
    split at h
    · rename_i hx
      rcases List.mem_cons.1 h with rfl | h
      · exact .inr hx
      · exact mem_newKeys r heap own h
    · exact mem_newKeys r heap own h

/-! ### What is forgotten -/

theorem scrubL_eq (ks : List Nat) : ∀ cs : List AV, AV.scrubL ks cs = cs.map (AV.scrub ks)
  | [] => rfl
  | v :: vs => by simp only [AV.scrubL, List.map_cons, scrubL_eq ks vs]

section
mutual
theorem keys_scrub (ks : List Nat) : ∀ (u : AV) (k : Nat), k ∈ (u.scrub ks).keys → k ∈ u.keys ∧ k ∉ ks
  | .agg cs, k, h => by simp only [AV.scrub, AV.keys] at h ⊢; exact keysL_scrub ks cs k h
  | .tup cs, k, h => by simp only [AV.scrub, AV.keys] at h ⊢; exact keysL_scrub ks cs k h
  | .fn f cs, k, h => by simp only [AV.scrub, AV.keys] at h ⊢; exact keysL_scrub ks cs k h
  | .ptr o i off, k, h => by
    simp only [AV.scrub] at h
    split at h
    · simp [AV.keys] at h
    · rename_i hc; simp only [AV.keys, List.mem_singleton] at h ⊢; subst h; exact ⟨rfl, by simpa using hc⟩
  | .sl o i n, k, h => by
    simp only [AV.scrub] at h
    split at h
    · simp [AV.keys] at h
    · rename_i hc; simp only [AV.keys, List.mem_singleton] at h ⊢; subst h; exact ⟨rfl, by simpa using hc⟩
  | .undef, k, h => by simp [AV.scrub, AV.keys] at h
  | .int _ _, k, h => by simp [AV.scrub, AV.keys] at h
  | .bool _, k, h => by simp [AV.scrub, AV.keys] at h
  | .str _, k, h => by simp [AV.scrub, AV.keys] at h
  | .nilp, k, h => by simp [AV.scrub, AV.keys] at h
  | .imm _ _ _, k, h => by simp [AV.scrub, AV.keys] at h
  | .ref _, k, h => by simp [AV.scrub, AV.keys] at h
theorem keysL_scrub (ks : List Nat) : ∀ (cs : List AV) (k : Nat), k ∈ AV.keysL (AV.scrubL ks cs) → k ∈ AV.keysL cs ∧ k ∉ ks
  | [], k, h => by simp [AV.scrubL, AV.keysL] at h
  | v :: vs, k, h => by
    simp only [AV.scrubL, AV.keysL, List.mem_append] at h ⊢
    rcases h with h | h
    · exact ⟨.inl (keys_scrub ks v k h).1, (keys_scrub ks v k h).2⟩
    · exact ⟨.inr (keysL_scrub ks vs k h).1, (keysL_scrub ks vs k h).2⟩
end
end

theorem RepI.scrub_id {ok : Nat → Prop} {w : World} {ks : List Nat} {u : AV} {v : Value} (h : RepI ok w u v) : u.scrub ks = u := by
  induction h with
  | agg hl hrep ih =>
    rename_i cs vs
    simp only [AV.scrub, scrubL_eq]
    congr 1
    refine List.ext_getElem? fun j => ?_
    rw [List.getElem?_map]
    cases hj : cs[j]? with
    | none => rfl
    | some x =>
      have hlt : j < vs.size := by rw [← hl]; exact (List.getElem?_eq_some_iff.1 hj).1
      rw [Option.map_some, ih j x vs[j] hj (Array.getElem?_eq_getElem hlt)]
  | _ => rfl

theorem Rep.scrub {C C' : Conc} {ok ok' : Nat → Prop} {w w' : World} {ks : List Nat} (hok : ∀ b, ok b → ok' b) (hw : ∀ b, ok b → w'.heap[b]? = w.heap[b]?) {u : AV} {v : Value} (h : Rep C ok w u v) :
    (∀ k ∈ u.keys, k ∉ ks → C' k = C k) → Rep C' ok' w' (u.scrub ks) v := by
  have sub : ∀ {cs : List AV} {vs : Array Value}, (∀ (j : Nat) (u : AV) (v : Value), cs[j]? = some u → vs[j]? = some v → (∀ k ∈ u.keys, k ∉ ks → C' k = C k) → Rep C' ok' w' (u.scrub ks) v) → (∀ k ∈ AV.keysL cs, k ∉ ks → C' k = C k) →
      ∀ (j : Nat) (u : AV) (v : Value), (AV.scrubL ks cs)[j]? = some u → vs[j]? = some v → Rep C' ok' w' u v := by
    intro cs vs ih hC j u v hj hv
    rw [scrubL_eq, List.getElem?_map, Option.map_eq_some_iff] at hj
    obtain ⟨x, hx, rfl⟩ := hj
    exact ih j x v hx hv fun k hk => hC k (mem_keysL.2 ⟨j, x, hx, hk⟩)
  induction h with
  | data h =>
    intro _
    rw [h.scrub_id]
    exact .data (h.mono hok hw)
  | ptr h =>
    intro hC
    simp only [AV.scrub]
    split
    · exact .data (.undef _)
    · rename_i hc; exact .ptr ((hC _ (by simp [AV.keys]) (by simpa using hc)).trans h)
  | sl h hn hc =>
    intro hC
    simp only [AV.scrub]
    split
    · exact .data (.undef _)
    · rename_i hc'; exact .sl ((hC _ (by simp [AV.keys]) (by simpa using hc')).trans h) hn hc
  | nilsl h =>
    intro hC
    simp only [AV.scrub]
    split
    · exact .data (.undef _)
    · rename_i hc'; exact .nilsl ((hC _ (by simp [AV.keys]) (by simpa using hc')).trans h)
  | agg hl _ ih => exact fun hC => .agg (by rw [scrubL_eq]; simpa using hl) (sub ih (by simpa only [AV.keys] using hC))
  | tup hl _ ih => exact fun hC => .tup (by rw [scrubL_eq]; simpa using hl) (sub ih (by simpa only [AV.keys] using hC))
  | fn hl _ ih => exact fun hC => .fn (by rw [scrubL_eq]; simpa using hl) (sub ih (by simpa only [AV.keys] using hC))

theorem aget_scrub (ks : List Nat) : ∀ (l : List (Nat × AV)) (t : Nat), aget .undef (scrubSlots ks l) t = (aget .undef l t).scrub ks
  | [], t => rfl
  | (x, v) :: r, t => by
    simp only [scrubSlots, aget]
    split
    · rfl
    · exact aget_scrub ks r t

theorem isCell_scrub (ks : List Nat) (u : AV) (h : u.isCell = true ∨ u = .undef) : (u.scrub ks).isCell = true ∨ u.scrub ks = .undef := by
  rcases h with h | rfl
  · cases u <;> first | exact .inl rfl | (simp only [AV.scrub]; split <;> first | exact .inr rfl | exact .inl rfl) | simp [AV.isCell] at h
  · exact .inr rfl

def scrubO (ks : List Nat) (o : Obj) : Obj := if o.refs.any ks.contains = true then { o with es := o.es.map (AV.scrubL ks), refs := o.refs.filter fun x => !ks.contains x } else o

theorem afind_scrubHeap (ks : List Nat) : ∀ (l : List (Nat × Obj)) (k : Nat), afind (scrubHeap ks l) k = (afind l k).map (scrubO ks)
  | [], k => rfl
  | (x, o) :: r, k => by
    simp only [scrubHeap, afind]
    split
    · rfl
    · exact afind_scrubHeap ks r k

/-- A row whose cells forget some rows. -/
theorem RowOk.scrub {C C' : Conc} {ok ok' : Nat → Prop} {w w' : World} {ks : List Nat} {k : Nat} {o : Obj} (h : RowOk C ok w k o) (hok : ∀ b, ok b → ok' b) (hw : ∀ b, ok b → w'.heap[b]? = w.heap[b]?)
    (hk : C' k = C k) (hC : ∀ x ∈ o.refs, x ∉ ks → C' x = C x) (hb : ∀ L, C k = some L → w'.heap[L.block]? = w.heap[L.block]?) : RowOk C' ok' w' k (scrubO ks o) := by
  unfold scrubO
  split
  · refine ⟨fun cs hcs => ?_, fun cs hcs u hu => ?_, fun cs hcs x hx => ?_, ?_⟩
    · obtain ⟨c0, hc0, rfl⟩ := List.mem_map.1 hcs
      rw [scrubL_eq, List.length_map]; exact h.cells c0 hc0
    · obtain ⟨c0, hc0, rfl⟩ := List.mem_map.1 hcs
      rw [scrubL_eq] at hu
      obtain ⟨u0, hu0, rfl⟩ := List.mem_map.1 hu
      exact isCell_scrub ks u0 (h.one c0 hc0 u0 hu0)
    · obtain ⟨c0, hc0, rfl⟩ := List.mem_map.1 hcs
      obtain ⟨g1, g2⟩ := keysL_scrub ks c0 x hx
      exact List.mem_filter.2 ⟨h.refs c0 hc0 x g1, by simpa using g2⟩
    · have hp := h.place
      rw [hk]
      cases hL : C k with
      | none => rw [hL] at hp; simp only at hp ⊢; rw [hp]; rfl
      | some L =>
        rw [hL] at hp
        obtain ⟨p1, p2, cur, p3, p4, p5, p6, p7⟩ := hp
        refine ⟨p1, p2, cur, (hb L hL).trans p3, p4, by simpa using p5, p6, fun i cs j u hi hj => ?_⟩
        rw [List.getElem?_map, Option.map_eq_some_iff] at hi
        obtain ⟨c0, hc0, rfl⟩ := hi
        rw [scrubL_eq, List.getElem?_map, Option.map_eq_some_iff] at hj
        obtain ⟨u0, hu0, rfl⟩ := hj
        obtain ⟨v, g1, g2⟩ := p7 i c0 j u0 hc0 hu0
        exact ⟨v, g1, g2.scrub hok hw fun x hx => hC x (h.refs c0 (List.mem_of_getElem? hc0) x (mem_keysL.2 ⟨j, u0, hu0, hx⟩))⟩
  · rename_i hany
    refine h.mono hok hw hk (fun x hx => hC x hx fun hxk => hany ?_) hb
    exact List.any_eq_true.2 ⟨x, hx, by simpa using hxk⟩

theorem scrubO_refs {ks : List Nat} {o : Obj} {x : Nat} (h : x ∈ (scrubO ks o).refs) : x ∈ o.refs ∧ x ∉ ks := by
  unfold scrubO at h
  split at h
  · have := List.mem_filter.1 h; exact ⟨this.1, by simpa using this.2⟩
  · rename_i hany
    exact ⟨h, fun hx => hany (List.any_eq_true.2 ⟨x, h, by simpa using hx⟩)⟩

end Go.Ev

/-
  Append onto a row of the call's own.
-/
namespace Go.Ev
open Go Go.RowKit

section
variable {N B : Nat} {ok0 : Nat → Prop} {w0 : World} {E : Entry} {C : Conc} {H : Nat → Option Obj} {F : Nat → Bool} {w : World} {P : Program}

def mapH (ks : List Nat) (H : Nat → Option Obj) : Nat → Option Obj := fun k => (H k).map (scrubO ks)

theorem mapH_none {ks : List Nat} {k : Nat} : mapH ks H k = none ↔ H k = none := by simp [mapH]

theorem okb_mapH {ks : List Nat} {b : Nat} : okb B ok0 C H F w b ↔ okb B ok0 C (mapH ks H) F w b := by
  refine ⟨fun h => ⟨h.1, h.2.1, fun k o L h1 h2 h3 => ?_⟩, fun h => ⟨h.1, h.2.1, fun k o L h1 h2 h3 => h.2.2 k (scrubO ks o) L (by simp [mapH, h1]) h2 h3⟩⟩
  simp only [mapH, Option.map_eq_some_iff] at h1
  obtain ⟨o', h1, _⟩ := h1
  exact h.2.2 k o' L h1 h2 h3

/-- Rows forget some rows. -/
theorem SimH.scrub (h : SimH B ok0 w0 C H F w) (ks : List Nat) : SimH B ok0 w0 C (mapH ks H) F w := by
  have inv : ∀ {k : Nat} {o : Obj}, mapH ks H k = some o → ∃ o', H k = some o' ∧ o = scrubO ks o' := fun {k o} hk => by
    simp only [mapH, Option.map_eq_some_iff] at hk
    obtain ⟨o', h1, h2⟩ := hk
    exact ⟨o', h1, h2.symm⟩
  refine ⟨h.below, h.base, fun k o hk => ?_, fun k o L hk hL => ?_, fun k k' o o' L L' h1 h2 h3 h4 h5 => ?_, fun k o x hk hx => ?_, h.up, fun k o L hk hL => ?_, h.keep⟩
  · obtain ⟨o', h1, rfl⟩ := inv hk
    exact (h.row k o' h1).scrub (fun b => okb_mapH.1) (fun _ _ => rfl) rfl (fun _ _ _ => rfl) (fun _ _ => rfl)
  · obtain ⟨o', h1, rfl⟩ := inv hk
    exact h.blk k o' L h1 hL
  · obtain ⟨p, hp, rfl⟩ := inv h1
    obtain ⟨q, hq, rfl⟩ := inv h2
    exact h.inj k k' p q L L' hp hq h3 h4 h5
  · obtain ⟨o', h1, rfl⟩ := inv hk
    intro hn
    exact h.wf k o' x h1 (scrubO_refs hx).1 (mapH_none.1 hn)
  · obtain ⟨o', h1, rfl⟩ := inv hk
    exact h.okrow k o' L h1 hL

theorem scrubO_id {ks : List Nat} {o : Obj} (h : ∀ x ∈ o.refs, x ∉ ks) : scrubO ks o = o := by
  unfold scrubO
  rw [if_neg]
  intro hany
  obtain ⟨x, h1, h2⟩ := List.any_eq_true.1 hany
  exact h x h1 (by simpa using h2)

/-- A row is made, or turned, as 'SimH.set' has it; what lay at its old place is nobody's. -/
theorem SimH.turn (h : SimH B ok0 w0 C H F w) {k : Nat} {o' : Obj} {L : Loc} {w' : World} (hbel : Below B w w') (hLB : B ≤ L.block) (hLok : ok0 L.block) (hkeep : ∀ b, b < w.heap.size → ¬ ok0 b → w'.heap[b]? = w.heap[b]?) (hheap : ∀ b, okb B ok0 C H F w b → w'.heap[b]? = w.heap[b]?)
    (hrows : ∀ x o'' L', x ≠ k → H x = some o'' → C x = some L' → w'.heap[L'.block]? = w.heap[L'.block]? ∧ L'.block ≠ L.block)
    (hok : ∀ b, okb B ok0 C H F w b → b ≠ L.block) (hCk : ∀ x o'', x ≠ k → H x = some o'' → k ∉ o''.refs)
    (hrow : (∀ b, okb B ok0 C H F w b → okb B ok0 (setC C k (some L)) (setH H k o') F w' b) → RowOk (setC C k (some L)) (okb B ok0 (setC C k (some L)) (setH H k o') F w') w' k o') (hwf : ∀ x ∈ o'.refs, x ≠ k → H x ≠ none) :
    SimH B ok0 w0 (setC C k (some L)) (setH H k o') F w' ∧ (∀ b, okb B ok0 C H F w b → okb B ok0 (setC C k (some L)) (setH H k o') F w' b) := by
  have hsize := hbel.size
  have hok' : ∀ b, okb B ok0 C H F w b → okb B ok0 (setC C k (some L)) (setH H k o') F w' b := by
    intro b hb
    refine ⟨Nat.lt_of_lt_of_le hb.1 hsize, hb.2.1, fun x ox Lx h1 h2 h3 => ?_⟩
    by_cases e : x = k
    · subst e; rw [setC_self] at h3; cases h3; exact fun e => hok b hb e.symm
    · rw [setC_ne _ _ e] at h3; rw [setH_ne _ _ e] at h1; exact hb.2.2 x ox Lx h1 h2 h3
  refine ⟨⟨h.below.trans hbel, Nat.le_trans h.base hsize, fun x ox hx => ?_, fun x ox Lx h1 h2 => ?_, fun x y ox oy Lx Ly h1 h2 h3 h4 h5 => ?_, fun x ox y h1 h2 => ?_, fun b hb => h.up b (Nat.le_trans hsize hb), fun x ox Lx h1 h2 => ?_, fun b hb hn => (hkeep b (Nat.lt_of_lt_of_le hb h.below.size) hn).trans (h.keep b hb hn)⟩, hok'⟩
  · by_cases e : x = k
    · subst e; rw [setH_self] at hx; cases hx; exact hrow hok'
    · rw [setH_ne _ _ e] at hx
      refine (h.row x ox hx).mono hok' hheap (setC_ne _ _ e) (fun y hy => ?_) fun Lx hLx => (hrows x ox Lx e hx hLx).1
      by_cases ey : y = k
      · subst ey; exact absurd hy (hCk x ox e hx)
      · exact setC_ne _ _ ey
  · by_cases e : x = k
    · subst e; rw [setC_self] at h2; cases h2; exact hLB
    · rw [setC_ne _ _ e] at h2; rw [setH_ne _ _ e] at h1; exact h.blk x ox Lx h1 h2
  · by_cases e : x = k
    · by_cases e' : y = k
      · rw [e, e']
      · exfalso
        subst e; rw [setC_self] at h3; cases h3
        rw [setC_ne _ _ e'] at h4; rw [setH_ne _ _ e'] at h2
        exact (hrows y oy Ly e' h2 h4).2 h5.symm
    · by_cases e' : y = k
      · exfalso
        subst e'; rw [setC_self] at h4; cases h4
        rw [setC_ne _ _ e] at h3; rw [setH_ne _ _ e] at h1
        exact (hrows x ox Lx e h1 h3).2 h5
      · rw [setC_ne _ _ e] at h3; rw [setH_ne _ _ e] at h1; rw [setC_ne _ _ e'] at h4; rw [setH_ne _ _ e'] at h2
        exact h.inj x y ox oy Lx Ly h1 h2 h3 h4 h5
  · by_cases ey : y = k
    · subst ey; rw [setH_self]; simp
    · rw [setH_ne _ _ ey]
      by_cases e : x = k
      · subst e; rw [setH_self] at h1; cases h1; exact hwf y h2 ey
      · rw [setH_ne _ _ e] at h1; exact h.wf x ox y h1 h2
  · by_cases e : x = k
    · subst e; rw [setC_self] at h2; cases h2; exact hLok
    · rw [setC_ne _ _ e] at h2; rw [setH_ne _ _ e] at h1; exact h.okrow x ox Lx h1 h2

/-- A nil slice becomes a row of the call's own, without a place. -/
theorem SimH.adopt (h : SimH B ok0 w0 C H F w) {k : Nat} (hk : H k = none) (e : TypeId) (sz : Nat) :
    SimH B ok0 w0 (setC C k none) (setH H k { sz := sz, ty := e, es := [], refs := [] }) F w ∧ ∀ b, okb B ok0 C H F w b → okb B ok0 (setC C k none) (setH H k { sz := sz, ty := e, es := [], refs := [] }) F w b := by
  have hok' : ∀ b, okb B ok0 C H F w b → okb B ok0 (setC C k none) (setH H k { sz := sz, ty := e, es := [], refs := [] }) F w b := by
    intro b hb
    refine ⟨hb.1, hb.2.1, fun x ox Lx h1 h2 h3 => ?_⟩
    by_cases e : x = k
    · subst e; rw [setC_self] at h3; cases h3
    · rw [setC_ne _ _ e] at h3; rw [setH_ne _ _ e] at h1; exact hb.2.2 x ox Lx h1 h2 h3
  have noref : ∀ x ox, H x = some ox → k ∉ ox.refs := fun x ox hx hm => h.wf x ox k hx hm hk
  refine ⟨⟨h.below, h.base, fun x ox hx => ?_, fun x ox Lx h1 h2 => ?_, fun x y ox oy Lx Ly h1 h2 h3 h4 h5 => ?_, fun x ox y h1 h2 => ?_, h.up, fun x ox Lx h1 h2 => ?_, h.keep⟩, hok'⟩
  · by_cases e : x = k
    · subst e; rw [setH_self] at hx; cases hx
      exact ⟨by simp, by simp, by simp, by rw [setC_self]⟩
    · rw [setH_ne _ _ e] at hx
      exact (h.row x ox hx).mono hok' (fun _ _ => rfl) (setC_ne _ _ e) (fun y hy => setC_ne _ _ (by rintro rfl; exact noref x ox hx hy)) fun _ _ => rfl
  · by_cases e : x = k
    · subst e; rw [setC_self] at h2; cases h2
    · rw [setC_ne _ _ e] at h2; rw [setH_ne _ _ e] at h1; exact h.blk x ox Lx h1 h2
  · by_cases e : x = k
    · subst e; rw [setC_self] at h3; cases h3
    · by_cases e' : y = k
      · subst e'; rw [setC_self] at h4; cases h4
      · rw [setC_ne _ _ e] at h3; rw [setH_ne _ _ e] at h1; rw [setC_ne _ _ e'] at h4; rw [setH_ne _ _ e'] at h2
        exact h.inj x y ox oy Lx Ly h1 h2 h3 h4 h5
  · by_cases ey : y = k
    · subst ey; rw [setH_self]; simp
    · rw [setH_ne _ _ ey]
      by_cases e : x = k
      · subst e; rw [setH_self] at h1; cases h1; simp at h2
      · rw [setH_ne _ _ e] at h1; exact h.wf x ox y h1 h2
  · by_cases e : x = k
    · subst e; rw [setC_self] at h2; cases h2
    · rw [setC_ne _ _ e] at h2; rw [setH_ne _ _ e] at h1; exact h.okrow x ox Lx h1 h2

/-- The elements that are appended, as they lie. -/
theorem appended_rep (h : SimH B ok0 w0 C H F w) {sz : Nat} {y : AV} {v : Value} {news : List (List AV)} (ha : appended H sz y = some news) (hr : Rep C (okb B ok0 C H F w) w y v)
    (hall : ∀ cs ∈ news, cs.length = sz ∧ ∀ u ∈ cs, u.isCell = true) : ∃ A c, v = .slice A news.length c ∧ (news ≠ [] → ∃ ad, A = some ad ∧ ∀ (i : Nat) (cs : List AV) (j : Nat) (u : AV), news[i]? = some cs → cs[j]? = some u →
      ∃ x, w.cell? (ad.add (i * sz + j)) = some x ∧ Rep C (okb B ok0 C H F w) w u x) ∧ ∀ cs ∈ news, ∀ k ∈ AV.keysL cs, H k ≠ none := by
  unfold appended at ha
  split at ha
  · rename_i nl sz' es
    obtain ⟨hsz, ha1⟩ := of_ite ha
    clear ha
    cases ha1
    have hI := hr.imm_inv
    cases hI with
    | nils => exact ⟨none, 0, rfl, fun hne => absurd rfl hne, by simp⟩
    | imm ad vs hn hc hA hs hcell hrep =>
      subst hn
      refine ⟨_, _, rfl, fun hne => ⟨ad, (hA hne).1, fun i cs j u hi hj => ?_⟩, fun cs hcs k hk => ?_⟩
      · have : sz' = sz := by rcases hsz with hsz | hsz
                              · exact hsz
                              · exact absurd hsz hne
        subst this
        exact ⟨vs i j, hcell i cs j u hi hj, .data (hrep i cs j u hi hj)⟩
      · obtain ⟨i, hi⟩ := List.getElem?_of_mem hcs
        obtain ⟨j, u, hj, hku⟩ := mem_keysL.1 hk
        rw [(hrep i cs j u hi hj).keys] at hku
        simp at hku
  · rename_i o i n
    split at ha
    · rename_i ob hob
      obtain ⟨⟨hsz, hin⟩, ha1⟩ := of_ite ha
      clear ha
      cases ha1
      have hrow := h.row o ob hob
      have hlen : ((ob.es.drop i).take n).length = n := by simp; omega
      have hget : ∀ {q : Nat} {cs : List AV}, ((ob.es.drop i).take n)[q]? = some cs → ob.es[i + q]? = some cs := fun {q cs} hq => by
        rw [List.getElem?_take] at hq
        split at hq
        · rwa [List.getElem?_drop] at hq
        · cases hq
      have hkeys : ∀ cs ∈ (ob.es.drop i).take n, ∀ k ∈ AV.keysL cs, H k ≠ none := fun cs hcs k hk => h.wf o ob k hob (hrow.refs cs (List.mem_of_mem_drop (List.mem_of_mem_take hcs)) k hk)
      rcases hr.sl_inv with ⟨L, c, hL, hv, hn, hc⟩ | ⟨hC, hv, rfl, rfl⟩
      · rw [hlen]
        refine ⟨_, _, hv, fun _ => ⟨_, rfl, fun q cs j u hq hj => ?_⟩, hkeys⟩
        have hp := hrow.place
        rw [hL] at hp
        obtain ⟨p1, p2, cur, p3, p4, p5, p6, p7⟩ := hp
        obtain ⟨x, g1, g2⟩ := p7 (i + q) cs j u (hget hq) hj
        refine ⟨x, ?_, g2⟩
        have e : i * L.sz + (q * sz + j) = (i + q) * L.sz + j := by rw [p1, hsz, Nat.add_mul]; omega
        rw [add_mk, e]
        simp [World.cell?, p3, g1]
      · exact ⟨none, 0, by simpa using hv, fun hne => absurd (by simp) hne, hkeys⟩
    · cases ha
  · cases ha

theorem run_append_zero {t ty e : TypeId} (ht : P.underlying t = some (.slice e)) (hok : okT P e = true) (A : Option Addr) (n c : Nat) (hn : n ≤ c) (A' : Option Addr) (c' : Nat) :
    (Builtin.append_ #[t, t] ty #[.slice A n c, .slice A' 0 c']).run P w = .ok (.slice A n c) w := by
  cases A <;> cases A' <;> simp [Builtin.append_, run_underlying ht, run_sizeOf hok, Builtin.lenOf, Builtin.firstCells, loadCells, loadCellsFrom, storeCells, hn]

/-- The cells that are appended, as a list. -/
def flatV (f : Nat → Nat → Value) (sz m : Nat) : List Value := (List.range (m * sz)).map fun t => f (t / sz) (t % sz)

theorem flatV_get {f : Nat → Nat → Value} {sz m i j : Nat} (hi : i < m) (hj : j < sz) : (flatV f sz m)[i * sz + j]? = some (f i j) := by
  have hlt : i * sz + j < m * sz := by
    have : (i + 1) * sz ≤ m * sz := Nat.mul_le_mul_right _ hi
    rw [Nat.add_mul, Nat.one_mul] at this
    omega
  unfold flatV
  rw [List.getElem?_map, List.getElem?_range hlt, Option.map_some]
  have h1 : (i * sz + j) / sz = i := by rw [Nat.mul_comm, Nat.mul_add_div (by omega), Nat.div_eq_of_lt hj]; omega
  have h2 : (i * sz + j) % sz = j := by rw [Nat.add_comm, Nat.add_mul_mod_self_right, Nat.mod_eq_of_lt hj]
  rw [h1, h2]

theorem flatV_inv {f : Nat → Nat → Value} {sz m q : Nat} {u : Value} (h : (flatV f sz m)[q]? = some u) : q < m * sz ∧ u = f (q / sz) (q % sz) ∧ q / sz < m ∧ q % sz < sz ∧ q / sz * sz + q % sz = q := by
  unfold flatV at h
  rw [List.getElem?_map, Option.map_eq_some_iff] at h
  obtain ⟨x, h1, h2⟩ := h
  have hlt : q < m * sz := by have := (List.getElem?_eq_some_iff.1 h1).1; simpa using this
  rw [List.getElem?_range hlt] at h1
  cases h1
  have hsz : 0 < sz := by rcases Nat.eq_zero_or_pos sz with h | h <;> simp_all
  refine ⟨hlt, h2.symm, ?_, Nat.mod_lt _ hsz, by rw [Nat.mul_comm]; exact Nat.div_add_mod q sz⟩
  exact (Nat.div_lt_iff_lt_mul hsz).2 hlt

end
end Go.Ev

/-
  Append onto a row of the call's own: the step.
-/
namespace Go.Ev
open Go Go.RowKit

section
variable {N B : Nat} {ok0 : Nat → Prop} {w0 : World} {E : Entry} {C : Conc} {H : Nat → Option Obj} {F : Nat → Bool} {w : World} {P : Program}

theorem below_grown {w' : World} {row : Option Nat} (hg : w.grownBy w' row) (hB : B ≤ w.heap.size) (hr : ∀ k, row = some k → B ≤ k) : Below B w w' := (Below.refl B w).grown hg hB hr

/-- 'append' onto a row of the call's own. -/
theorem s_append (h : SimH B ok0 w0 C H F w) {o n sz : Nat} {ob : Obj} {t ty e : TypeId} {z : List AV} {y : AV} {v vy : Value} {news : List (List AV)} (ho : H o = some ob) (hF : F o = false) (hn : n = ob.es.length)
    (hsz : ob.sz = sz) (hty : ob.ty = e) (ht : P.underlying t = some (.slice e)) (hok : okT P e = true) (hs : P.cellsOf e = sz) (hs0 : 1 ≤ sz) (hb0 : 1 ≤ P.bytesOf e) (hz : zeroC P e = some z) (hzl : z.length = P.cellsOf e)
    (hr : Rep C (okb B ok0 C H F w) w (.sl o 0 n) v) (ha : appended H sz y = some news) (hy : Rep C (okb B ok0 C H F w) w y vy) (hall : ∀ cs ∈ news, cs.length = sz ∧ ∀ u ∈ cs, u.isCell = true)
    (hbytes : (n + news.length) * P.bytesOf e ≤ 140737488355328) (hself : ∀ cs ∈ news, o ∉ AV.keysL cs) (href : o ∉ ob.refs) {rs : List Nat} (hrs : ∀ cs ∈ news, ∀ k ∈ AV.keysL cs, k ∈ rs) (hrs' : ∀ k ∈ rs, ∃ cs ∈ news, k ∈ AV.keysL cs) :
    ∃ (C' : Conc) (v' : Value) (w' : World), (Builtin.append_ #[t, t] ty #[v, vy]).run P w = .ok v' w' ∧ (∀ x, x ≠ o → C' x = C x) ∧
      SimH B ok0 w0 C' (setH (mapH [o] H) o { ob with es := ob.es ++ news, refs := rs ++ ob.refs }) F w' ∧
      (∀ b, okb B ok0 C H F w b → okb B ok0 C' (setH (mapH [o] H) o { ob with es := ob.es ++ news, refs := rs ++ ob.refs }) F w' b ∧ w'.heap[b]? = w.heap[b]?) ∧
      ∀ ok', Rep C' ok' w' (.sl o 0 (n + news.length)) v' := by
  obtain ⟨A, c', rfl, hsrc, hdom⟩ := appended_rep h ha hy hall
  have hrow := h.row o ob ho
  obtain ⟨i, zv, hi, hiz, hcz, _, _⟩ := zero_cells (P := P) (C := C) (ok := okb B ok0 C H F w) (w := w) hz
  have hnm : n + news.length ≤ 140737488355328 := Nat.le_trans (Nat.le_mul_of_pos_right _ hb0) hbytes
  have hself' : o ∉ rs := fun hm => by obtain ⟨cs, h1, h2⟩ := hrs' o hm; exact hself cs h1 h2
  -- nothing is appended
  by_cases hm : news = []
  · subst hm
    have hrs0 : rs = [] := List.eq_nil_iff_forall_not_mem.2 fun k hk => by obtain ⟨cs, h1, _⟩ := hrs' k hk; simp at h1
    subst hrs0
    have hob : setH (mapH [o] H) o { ob with es := ob.es ++ [], refs := [] ++ ob.refs } = mapH [o] H := by
      funext x
      by_cases ex : x = o
      · subst ex; rw [setH_self]; simp [mapH, ho, scrubO_id (ks := [x]) (o := ob) (by simpa using fun y hy (hyx : y = x) => href (hyx ▸ hy))]
      · exact setH_ne _ _ ex
    rw [hob]
    have hv : ∃ A0 c0, v = .slice A0 n c0 ∧ n ≤ c0 := by
      rcases hr.sl_inv with ⟨L, c, _, hv, h1, _⟩ | ⟨_, hv, _, h2⟩
      · exact ⟨_, _, hv, h1⟩
      · exact ⟨none, 0, by rw [hv, h2], by omega⟩
    obtain ⟨A0, c0, rfl, hc0⟩ := hv
    refine ⟨C, _, w, run_append_zero ht hok A0 n c0 hc0 A c', fun _ _ => rfl, h.scrub [o], fun b hb => ⟨okb_mapH.1 hb, rfl⟩, fun ok' => ?_⟩
    simp only [List.length_nil, Nat.add_zero]
    rcases hr.sl_inv with ⟨L, c, hL, hv, h1, h2⟩ | ⟨hC, hv, h1, h2⟩
    · rw [hv]; exact .sl hL h1 h2
    · rw [hv, h2]; exact .nilsl hC
  obtain ⟨ad, rfl, hcell⟩ := hsrc hm
  have hm0 : 0 < news.length := List.length_pos_iff.2 hm
  -- the cells of the source
  have hchoice : ∃ f : Nat → Nat → Value, ∀ (i : Nat) (cs : List AV) (j : Nat) (u : AV), news[i]? = some cs → cs[j]? = some u → w.cell? (ad.add (i * sz + j)) = some (f i j) ∧ Rep C (okb B ok0 C H F w) w u (f i j) := by
    refine ⟨fun i j => (w.cell? (ad.add (i * sz + j))).getD undef, fun i cs j u h1 h2 => ?_⟩
    obtain ⟨x, g1, g2⟩ := hcell i cs j u h1 h2
    simp only [g1, Option.getD_some]
    exact ⟨trivial, g2⟩
  obtain ⟨f, hf⟩ := hchoice
  have hat : ∀ {q : Nat} {u : Value}, (flatV f sz news.length)[q]? = some u → ∃ cs a, news[q / sz]? = some cs ∧ cs[q % sz]? = some a ∧ u = f (q / sz) (q % sz) ∧ q / sz * sz + q % sz = q := fun {q u} hq => by
    obtain ⟨_, h2, h3, h4, h5⟩ := flatV_inv hq
    have hl := (hall news[q / sz] (List.getElem_mem h3)).1
    exact ⟨news[q / sz], news[q / sz][q % sz]'(by omega), List.getElem?_eq_getElem h3, List.getElem?_eq_getElem (by omega), h2, h5⟩
  have hl : (flatV f sz news.length).length = news.length * sz := by simp [flatV]
  have hnews : ∀ j u, (flatV f sz news.length)[j]? = some u → w.cell? (ad.add j) = some u := fun q u hq => by
    obtain ⟨cs, a, h1, h2, rfl, h4⟩ := hat hq
    have := (hf _ cs _ a h1 h2).1
    rwa [h4] at this
  have h1c : ∀ u ∈ flatV f sz news.length, u.oneCell' = true := fun u hu => by
    obtain ⟨q, hq⟩ := List.getElem?_of_mem hu
    obtain ⟨cs, a, h1, h2, rfl, h4⟩ := hat hq
    exact (hf _ cs _ a h1 h2).2.oneCell ((hall cs (List.mem_of_getElem? h1)).2 a (List.mem_of_getElem? h2))
  -- the row at hand
  have hown : ∃ xs, w.ownsRow B e sz v n xs ∧ (∀ b, v.ownBlock = some b → ∃ L, C o = some L ∧ L.block = b) ∧ ∀ (i : Nat) (cs : List AV) (j : Nat) (u : AV), ob.es[i]? = some cs → cs[j]? = some u → ∃ x, xs[i * sz + j]? = some x ∧ Rep C (okb B ok0 C H F w) w u x := by
    have hp := hrow.place
    rcases hr.sl_inv with ⟨L, c, hL, rfl, g1, g2⟩ | ⟨hC, rfl, _, rfl⟩
    · rw [hL] at hp
      obtain ⟨p1, p2, cur, p3, p4, p5, p6, p7⟩ := hp
      have e1 : L.sz = sz := p1.trans hsz
      have e2 : L.ty = e := p2.trans hty
      have g2' : c = L.cap := by omega
      subst g2'
      have hle : n * sz ≤ cur.size := by rw [p4, e1]; exact Nat.mul_le_mul_right _ g1
      refine ⟨cur.toList.take (n * sz), ⟨by rw [List.length_take, Array.length_toList]; omega, .inr ⟨L.block, L.cap, cur, by rw [Nat.zero_mul], h.blk o ob L ho hL, by rw [← e2]; exact p3, g1, p6, by rw [p4, e1], rfl⟩⟩,
        fun b hb => ⟨L, hL, by simpa [Value.ownBlock] using hb⟩, fun i cs j u hi hj => ?_⟩
      obtain ⟨x, q1, q2⟩ := p7 i cs j u hi hj
      refine ⟨x, ?_, q2⟩
      have hi' : i < n := by rw [hn]; exact (List.getElem?_eq_some_iff.1 hi).1
      have hj' : j < sz := by rw [← hsz, ← hrow.cells cs (List.mem_of_getElem? hi)]; exact (List.getElem?_eq_some_iff.1 hj).1
      have hlt : i * sz + j < n * sz := by
        have : (i + 1) * sz ≤ n * sz := Nat.mul_le_mul_right _ hi'
        rw [Nat.add_mul, Nat.one_mul] at this
        omega
      rw [List.getElem?_take, if_pos hlt, ← e1]
      simpa using q1
    · rw [hC] at hp
      simp only at hp
      exact ⟨[], ⟨by simp, .inl ⟨rfl, rfl⟩⟩, fun b hb => by simp [Value.ownBlock] at hb, fun i cs j u hi hj => by rw [hp] at hi; simp at hi⟩
  obtain ⟨xs, hown, hplace, hxs⟩ := hown
  obtain ⟨v', w', hrun, hown', hgrow, hnil, hwhere⟩ := run_append_own_at (P := P) w B t ty e i zv sz (P.bytesOf e) ht hi hiz ((cellsOf_info hi).symm.trans hs) (bytesOf_info hi).symm (by rw [← hcz.1, hzl, hs]) hs0 v n xs hown ad news.length c' (flatV f sz news.length) hl hnews h1c (by simp only [maxLen]; omega) hbytes h.base
  rcases hown'.2 with ⟨_, hbad⟩ | ⟨g, cap, cur, rfl, hBg, hg, hncap, hcapm, hcurs, htake⟩
  · omega
  have hg' : (v.ownBlock = some g) ∨ g = w.heap.size := by
    rcases hwhere with hw1 | hw1
    · exact .inl hw1.symm
    · right; simpa [Value.ownBlock] using hw1
  have hbel : Below B w w' := below_grown hgrow h.base fun k hk => by obtain ⟨L, g1, rfl⟩ := hplace k hk; exact h.blk o ob L ho g1
  have hscr := h.scrub [o]
  have hgok : ok0 g := by
    rcases hg' with h1 | h1
    · obtain ⟨L, g1, g2⟩ := hplace g h1
      rw [← g2]; exact h.okrow o ob L ho g1
    · rw [h1]; exact h.up _ (Nat.le_refl _)
  have hokne : ∀ b, okb B ok0 C (mapH [o] H) F w b → b ≠ g ∧ w'.heap[b]? = w.heap[b]? := fun b hb => by
    have hb' := okb_mapH.2 hb
    have hne : ∀ b', v.ownBlock = some b' → b ≠ b' := fun b' h1 e1 => by
      obtain ⟨L, g1, g2⟩ := hplace b' h1
      exact hb'.2.2 o ob L ho hF g1 (g2.trans e1.symm)
    refine ⟨?_, hgrow.block b hb'.1 fun e1 => hne b e1.symm rfl⟩
    rcases hg' with h1 | h1
    · exact hne g h1
    · have := hb'.1; omega
  have hrows : ∀ x o'' L', x ≠ o → mapH [o] H x = some o'' → C x = some L' → w'.heap[L'.block]? = w.heap[L'.block]? ∧ L'.block ≠ g := fun x o'' L' hx h1 h2 => by
    have hlt := hscr.lt h1 h2
    have hne : ∀ b', v.ownBlock = some b' → L'.block ≠ b' := fun b' q1 q2 => by
      obtain ⟨L, g1, g2⟩ := hplace b' q1
      exact hx (hscr.inj x o o'' (scrubO [o] ob) L' L h1 (by simp only [mapH, ho, Option.map_some]) h2 g1 (q2.trans g2.symm))
    refine ⟨hgrow.block _ hlt fun e1 => hne _ e1.symm rfl, ?_⟩
    rcases hg' with q | q
    · exact hne g q
    · omega
  obtain ⟨fin, fok⟩ := hscr.turn (k := o) (o' := { ob with es := ob.es ++ news, refs := rs ++ ob.refs }) (L := { block := g, ty := e, sz := sz, cap := cap }) hbel hBg hgok (fun b hb hn => hgrow.block b hb fun e1 => by
      obtain ⟨L, g1, g2⟩ := hplace b e1.symm
      exact hn (by rw [← g2]; exact h.okrow o ob L ho g1)) (fun b hb => (hokne b hb).2) hrows (fun b hb => (hokne b hb).1)
    (fun x o'' hx h1 h2 => by
      simp only [mapH, Option.map_eq_some_iff] at h1
      obtain ⟨o3, _, rfl⟩ := h1
      exact (scrubO_refs h2).2 (by simp))
    (fun hok' => by
      refine ⟨fun cs hcs => ?_, fun cs hcs u hu => ?_, fun cs hcs x hx => ?_, ?_⟩
      · rcases List.mem_append.1 hcs with q | q
        · exact hrow.cells cs q
        · exact (hall cs q).1.trans hsz.symm
      · rcases List.mem_append.1 hcs with q | q
        · exact hrow.one cs q u hu
        · exact .inl ((hall cs q).2 u hu)
      · rcases List.mem_append.1 hcs with q | q
        · exact List.mem_append.2 (.inr (hrow.refs cs q x hx))
        · exact List.mem_append.2 (.inl (hrs cs q x hx))
      · rw [setC_self]
        refine ⟨hsz.symm, hty.symm, cur, hg, hcurs, by simp only [List.length_append]; omega, hcapm, fun q cs j u hq hj => ?_⟩
        simp only at hq ⊢
        have hcs : cs.length = sz := by
          rcases List.mem_append.1 (List.mem_of_getElem? hq) with q | q
          · exact (hrow.cells cs q).trans hsz
          · exact (hall cs q).1
        have hq' : q < n + news.length := by have := (List.getElem?_eq_some_iff.1 hq).1; simp only [List.length_append] at this; omega
        have hj' : j < sz := by rw [← hcs]; exact (List.getElem?_eq_some_iff.1 hj).1
        have hlt : q * sz + j < (n + news.length) * sz := by
          have : (q + 1) * sz ≤ (n + news.length) * sz := Nat.mul_le_mul_right _ hq'
          rw [Nat.add_mul, Nat.one_mul] at this
          omega
        have hcur : cur[q * sz + j]? = (xs ++ flatV f sz news.length)[q * sz + j]? := by
          rw [← htake, List.getElem?_take, if_pos hlt]; simp
        have hmono : ∀ {u : AV} {x : Value}, o ∉ u.keys → Rep C (okb B ok0 C H F w) w u x → Rep (setC C o (some { block := g, ty := e, sz := sz, cap := cap })) (okb B ok0 (setC C o (some { block := g, ty := e, sz := sz, cap := cap })) (setH (mapH [o] H) o { ob with es := ob.es ++ news, refs := rs ++ ob.refs }) F w') w' u x :=
          fun {u x} hno hr => hr.mono (fun b hb => hok' b (okb_mapH.1 hb)) (fun b hb => (hokne b (okb_mapH.1 hb)).2) fun k hk => setC_ne _ _ (by rintro rfl; exact hno hk)
        rw [hcur]
        by_cases hqn : q < n
        · rw [List.getElem?_append_left (by omega)] at hq
          obtain ⟨x, g1, g2⟩ := hxs q cs j u hq hj
          have hxl : q * sz + j < xs.length := (List.getElem?_eq_some_iff.1 g1).1
          refine ⟨x, by rw [List.getElem?_append_left hxl]; exact g1, hmono (fun hk => href (hrow.refs cs (List.mem_of_getElem? hq) o (mem_keysL.2 ⟨j, u, hj, hk⟩))) g2⟩
        · rw [List.getElem?_append_right (by omega)] at hq
          obtain ⟨_, g2⟩ := hf _ cs j u hq hj
          have hqm : q - ob.es.length < news.length := (List.getElem?_eq_some_iff.1 hq).1
          have e1 : q * sz + j - xs.length = (q - ob.es.length) * sz + j := by
            rw [hown.1, Nat.sub_mul, ← hn]
            have : n * sz ≤ q * sz := Nat.mul_le_mul_right _ (by omega)
            omega
          refine ⟨f (q - ob.es.length) j, ?_, hmono (fun hk => hself cs (List.mem_of_getElem? hq) (mem_keysL.2 ⟨j, u, hj, hk⟩)) g2⟩
          rw [List.getElem?_append_right (by rw [hown.1]; have : n * sz ≤ q * sz := Nat.mul_le_mul_right _ (by omega); omega), e1]
          exact flatV_get hqm hj')
    (fun x hx _ hn => by
      rcases List.mem_append.1 hx with q | q
      · obtain ⟨cs, g1, g2⟩ := hrs' x q
        exact hdom cs g1 x g2 (mapH_none.1 hn)
      · exact h.wf o ob x ho q (mapH_none.1 hn))
  refine ⟨_, _, w', hrun, fun x hx => setC_ne _ _ hx, fin, fun b hb => ⟨fok b (okb_mapH.1 hb), (hokne b (okb_mapH.1 hb)).2⟩, fun ok' => ?_⟩
  have := Rep.sl (C := setC C o (some { block := g, ty := e, sz := sz, cap := cap })) (ok := ok') (w := w') (o := o) (i := 0) (n := n + news.length) (c := cap) (setC_self _ _ _) hncap (by simp)
  simpa using this

end
end Go.Ev

/-
  Calls of pure callees; append; calls that are evaluated in place.
-/
namespace Go.Ev
open Go Go.RowKit

/-- A row as it lies, its cells data. -/
def RowAt (ok : Nat → Prop) (w : World) (L : Loc) (es : List (List AV)) : Prop :=
  (∀ cs ∈ es, cs.length = L.sz) ∧ (∀ cs ∈ es, ∀ u ∈ cs, u.isCell = true ∨ u = .undef) ∧ ∃ cur, w.heap[L.block]? = some (.cells cur L.ty (0, 0)) ∧ cur.size = L.cap * L.sz ∧ es.length ≤ L.cap ∧ L.cap ≤ maxLen ∧
    ∀ (i : Nat) (cs : List AV) (j : Nat) (u : AV), es[i]? = some cs → cs[j]? = some u → ∃ v, cur[i * L.sz + j]? = some v ∧ RepI ok w u v

/-- The function gives what 'g' says, on data and one row, which it turns. -/
def MeetsU (P : Program) (f : FuncId) (p : Nat) (ty : TypeId) (g : List AV → Option PRes) : Prop :=
  ∀ (args : List AV) (r : PRes), g args = some r → ∀ (w : World) (vs : Array Value) (ok0 : Nat → Prop) (L : Loc) (es : List (List AV)), L.ty = ty → RowAt ok0 w L es → (∀ b, ok0 b → b < w.heap.size ∧ b ≠ L.block) → args.length = vs.size →
    args[p]? = some (.imm false L.sz es) → vs[p]? = some (.slice (some ⟨L.block, 0, none⟩) es.length L.cap) →
    (∀ (i : Nat) (u : AV) (v : Value), i ≠ p → args[i]? = some u → vs[i]? = some v → RepI ok0 w u v) →
    Calls P f vs w fun e w' => ∃ (v : Value) (ob : Obj) (ok' : Nat → Prop), e = .returned v ∧ r.objs = [ob] ∧ ob.es.length = es.length ∧ Below L.block w w' ∧ (∀ b, b < w.heap.size → b ≠ L.block → w'.heap[b]? = w.heap[b]?) ∧
      (∀ b, ok' b → b < w'.heap.size ∧ b ≠ L.block ∧ (b < w.heap.size → ok0 b)) ∧ RowAt ok' w' L ob.es ∧ Rep (fun _ => none) ok' w' r.val v ∧ r.val.keys = []

/-- The callees are as they are said to be. -/
def GoodG (P : Program) (ks : Kinds) (G : Pure) : Prop :=
  (∀ f fresh, kindOf ks f = some fresh → Meets P f (G f) ∧ Enters P f) ∧ ∀ f p ty, updOf ks f = some (p, ty) → MeetsU P f p ty (G f) ∧ Enters P f

section
variable {N B : Nat} {ok0 : Nat → Prop} {w0 : World} {E : Entry} {C : Conc} {S : St} {a : Act} {w : World} {P : Program} {ks : Kinds} {fid : Nat} {G : Pure}

/-- The operands of a call, read. -/
theorem args_rep {ts : List Nat} {xs : List Operand} {ys : List AX} (hs : Sim N B ok0 w0 E C S a w) (h : axs P ts xs = some ys) :
    ys.length = xs.length ∧ ∀ (j : Nat) (u : AV), (ys.map S.ev)[j]? = some u → ∃ x, xs[j]? = some x ∧ Rep C (okb B ok0 C S.heap S.frz w) w u (a.eval x) ∧ ∀ k ∈ u.keys, S.heap k ≠ none := by
  obtain ⟨m1, m2⟩ := axs_spec ts xs ys h
  refine ⟨m1, fun j u hj => ?_⟩
  rw [List.getElem?_map, Option.map_eq_some_iff] at hj
  obtain ⟨y, hy, rfl⟩ := hj
  have hlt : j < xs.length := by rw [← m1]; exact (List.getElem?_eq_some_iff.1 hy).1
  obtain ⟨t, ht⟩ := m2 j _ y (List.getElem?_eq_getElem hlt) hy
  exact ⟨_, List.getElem?_eq_getElem hlt, hs.ev ht⟩

theorem upsH_nil_of {H : Nat → Option Obj} {b : Nat} {objs : List Obj} : upsH H (shiftObjs b 0 objs) = mergeH b H objs := by
  funext k
  rw [upsH_shift]
  simp [mergeH]

/-- A call of a pure callee. -/
theorem pure_call {o : Oper} {f k : Nat} {args : Array Value} {as as' : List AV} {fks : List Nat} {r : PRes} {fresh : Bool} (hs : Sim N B ok0 w0 E C S a w) (hm : Meets P f (G f)) (hd : ∀ x, o.dst = some x → x < N)
    (hrun : (execOp a.eval o).run P w = .ok (.enter f args) w) (hlen : as.length = args.size)
    (hrep : ∀ (j : Nat) (u : AV) (v : Value), as[j]? = some u → args[j]? = some v → Rep C (okb B ok0 C S.heap S.frz w) w u v) (hfz : fzL S.heap as = some (as', fks)) (hG : G f as' = some r)
    (hfree : ∀ x, k ≤ x → x < k + r.objs.length → S.heap x = none) (hkeys : fresh = false → r.objs = []) :
    Does P N B ok0 w0 E o a w (S.app o.dst { val := if fresh = true then r.val.rk k else r.val, ups := if fresh = true then shiftObjs k 0 r.objs else [], frz := fks, acc := if fresh = true then fks ++ (shiftObjs k 0 r.objs).map (·.1) else fks }) := by
  intro K Q hK
  obtain ⟨h', hok⟩ := hs.h.freeze (F' := fun k => fks.contains k || S.frz k) (fun k hk => by simp [hk])
  obtain ⟨g1, g2⟩ := mapO_spec hfz
  have hdata : ∀ (j : Nat) (u : AV) (v : Value), as'[j]? = some u → args[j]? = some v → RepI (okb B ok0 C S.heap (fun k => fks.contains k || S.frz k) w) w u v := by
    intro j u v hj hv
    have hlt : j < as.length := by rw [← g1]; exact (List.getElem?_eq_some_iff.1 hj).1
    obtain ⟨kx, g3, g4⟩ := g2 j _ u (List.getElem?_eq_getElem hlt) hj
    exact fz_data hs.h (fun k hk => by simp [hk]) g3 (fun k hk => by simp [g4 k hk]) (hrep j _ v (List.getElem?_eq_getElem hlt) hv)
  have hcalls := hm as' r hG w args (okb B ok0 C S.heap (fun k => fks.contains k || S.frz k) w) (fun b hb => hb.1) (by rw [g1, hlen]) hdata
  unfold Oper.wp
  rw [hrun]
  simp only [Oper.upon]
  refine hcalls.mono fun e w' he => ?_
  obtain ⟨v, rfl, C1, hs1, hr1, hk1⟩ := he
  refine hK _ _ ⟨mergeC k r.objs.length C C1, ?_⟩
  obtain ⟨m1, m2, m3, m4⟩ := h'.merge hfree hs1
  have notnew : ∀ x, S.heap x ≠ none → ¬ (k ≤ x ∧ x < k + r.objs.length) := fun x hx hc => hx (hfree x hc.1 hc.2)
  have hlt : ∀ x ∈ r.val.keys, x < r.objs.length := fun x hx => by
    rcases Nat.lt_or_ge x r.objs.length with lt | ge
    · exact lt
    · exact absurd (by simp [heapOf, List.getElem?_eq_none ge]) (hk1 x hx)
  have hval : Rep (mergeC k r.objs.length C C1) (okb B ok0 (mergeC k r.objs.length C C1) (mergeH k S.heap r.objs) (fun k => fks.contains k || S.frz k) w') w' (r.val.rk k) v :=
    (hr1.rk (C' := mergeC k r.objs.length C C1) (b := k) fun x hx => by
      have := hlt x hx
      simp only [mergeC]
      rw [if_pos ⟨by omega, by omega⟩]
      congr 1
      omega).mono m3 (fun _ _ => rfl) (fun _ _ => rfl)
  have fin := hs.put m1 (fun x hx => by simp [mergeC, notnew x hx]) (fun b hb => m2 b (hok b hb)) (fun b hb => m4 b (hok b hb)) (fun x hx => by simp [mergeH, notnew x hx, hx]) hval (fun x hx => by
    rw [keys_rk] at hx
    obtain ⟨x0, hx0, rfl⟩ := List.mem_map.1 hx
    have := hlt x0 hx0
    simp only [mergeH]
    rw [if_pos ⟨by omega, by omega⟩]
    simp [this]) hd
  cases fresh with
  | true => simpa [St.app, upsH_nil_of] using fin
  | false =>
    have ho := hkeys rfl
    have hz : r.val.keys = [] := List.eq_nil_iff_forall_not_mem.2 fun x hx => by have := hlt x hx; rw [ho] at this; simp at this
    rw [rk_id k _ hz] at fin
    have e1 : mergeH k S.heap r.objs = S.heap := by funext x; simp [mergeH, ho]; omega
    rw [e1] at fin
    simpa [St.app, upsH] using fin

/-- A call that turns one row. -/
theorem upd_call {o : Oper} {f p : Nat} {ty : TypeId} {args : Array Value} {us as : List AV} {fks : List Nat} {r : PRes} {q n : Nat} {ob ob' : Obj} (hs : Sim N B ok0 w0 E C S a w) (hm : MeetsU P f p ty (G f)) (hd : ∀ x, o.dst = some x → x < N)
    (hrun : (execOp a.eval o).run P w = .ok (.enter f args) w) (hlen : us.length = args.size)
    (hrep : ∀ (j : Nat) (u : AV) (v : Value), us[j]? = some u → args[j]? = some v → Rep C (okb B ok0 C S.heap S.frz w) w u v) (hp : us[p]? = some (.sl q 0 n)) (hq : S.heap q = some ob) (hn : n = ob.es.length) (hne : ob.es ≠ []) (href : ob.refs = [])
    (hty : ob.ty = ty) (hfr : S.frz q = false) (hfz : fzL S.heap (us.set p (.imm false ob.sz ob.es)) = some (as, fks)) (hG : G f as = some r) (hobj : r.objs = [ob']) (hks : fks.contains q = false) :
    Does P N B ok0 w0 E o a w (S.app o.dst { val := r.val, ups := [(q, { ob with es := ob'.es })], frz := fks, acc := q :: fks }) := by
  intro K Q hK
  obtain ⟨h', hok⟩ := hs.h.freeze (F' := fun k => fks.contains k || S.frz k) (fun k hk => by simp [hk])
  have hFq : (fun k => fks.contains k || S.frz k) q = false := by simp only [hks, hfr, Bool.or_self]
  have hplt : p < us.length := (List.getElem?_eq_some_iff.1 hp).1
  have hrow := h'.row q ob hq
  have hpl := hrow.place
  obtain ⟨L, hL⟩ : ∃ L, C q = some L := by
    cases hc : C q with
    | some L => exact ⟨L, rfl⟩
    | none => rw [hc] at hpl; exact absurd hpl hne
  rw [hL] at hpl
  obtain ⟨p1, p2, cur, p3, p4, p5, p6, p7⟩ := hpl
  have hLlt := h'.lt hq hL
  have hvp : args[p]? = some (.slice (some ⟨L.block, 0, none⟩) ob.es.length L.cap) := by
    have hv := hrep p _ args[p] hp (Array.getElem?_eq_getElem (by omega))
    rcases hv.sl_inv with ⟨L1, c, h1, h2, h3, h4⟩ | ⟨h1, _⟩
    · rw [hL] at h1
      cases h1
      rw [Array.getElem?_eq_getElem (by omega), h2, ← hn]
      have : c = L.cap := by omega
      rw [this, Nat.zero_mul]
    · rw [hL] at h1; cases h1
  obtain ⟨g1, g2⟩ := mapO_spec hfz
  rw [List.length_set] at g1
  have hasp : as[p]? = some (.imm false L.sz ob.es) := by
    have hlt : p < as.length := by omega
    obtain ⟨kx, g3, _⟩ := g2 p (.imm false ob.sz ob.es) as[p] (by rw [List.getElem?_set_self hplt]) (List.getElem?_eq_getElem hlt)
    simp only [fz, Option.some.injEq, Prod.mk.injEq] at g3
    rw [List.getElem?_eq_getElem hlt, ← g3.1, p1]
  have hdata : ∀ (j : Nat) (u : AV) (v : Value), j ≠ p → as[j]? = some u → args[j]? = some v → RepI (okb B ok0 C S.heap (fun k => fks.contains k || S.frz k) w) w u v := by
    intro j u v hjp hj hv
    have hlt : j < us.length := by rw [← g1]; exact (List.getElem?_eq_some_iff.1 hj).1
    obtain ⟨kx, g3, g4⟩ := g2 j us[j] u (by rw [List.getElem?_set_ne (Ne.symm hjp)]; exact List.getElem?_eq_getElem hlt) hj
    exact fz_data hs.h (fun k hk => by simp [hk]) g3 (fun k hk => by simp [g4 k hk]) (hrep j _ v (List.getElem?_eq_getElem hlt) hv)
  have hat : RowAt (okb B ok0 C S.heap (fun k => fks.contains k || S.frz k) w) w L ob.es := by
    refine ⟨fun cs hcs => by rw [p1]; exact hrow.cells cs hcs, hrow.one, cur, p3, p4, p5, p6, fun i cs j u hi hj => ?_⟩
    obtain ⟨v, q1, q2⟩ := p7 i cs j u hi hj
    exact ⟨v, q1, q2.toI (noKeys hrow href (List.mem_of_getElem? hi) hj) (hrow.one cs (List.mem_of_getElem? hi) u (List.mem_of_getElem? hj))⟩
  have hcalls := hm as r hG w args _ L ob.es (p2.trans hty) hat (fun b hb => ⟨hb.1, fun e => hb.2.2 q ob L hq hFq hL e.symm⟩) (by rw [g1]; exact hlen) hasp hvp hdata
  unfold Oper.wp
  rw [hrun]
  simp only [Oper.upon]
  refine hcalls.mono fun e w' he => ?_
  obtain ⟨v, ob1, ok', rfl, h1, h2, h3, h4, h5, h6, h7, h8⟩ := he
  rw [hobj] at h1
  cases h1
  obtain ⟨r1, r2, cur', r3, r4, r5, r6, r7⟩ := h6
  have hset : setC C q (some L) = C := by funext x; by_cases e : x = q <;> simp [setC, e, hL]
  have hok' : ∀ b, ok' b → okb B ok0 C (setH S.heap q { ob with es := ob'.es }) (fun k => fks.contains k || S.frz k) w' b := fun b hb => by
    obtain ⟨q1, q2, q3⟩ := h5 b hb
    refine ⟨q1, ?_, fun k o1 L1 e1 e2 e3 => ?_⟩
    · rcases Nat.lt_or_ge b w.heap.size with lt | ge
      · exact (q3 lt).2.1
      · exact h'.up b ge
    · by_cases ek : k = q
      · subst ek; rw [hL] at e3; cases e3; exact fun e => q2 e.symm
      · rw [setH_ne _ _ ek] at e1
        rcases Nat.lt_or_ge b w.heap.size with lt | ge
        · exact (q3 lt).2.2 k o1 L1 e1 e2 e3
        · have := h'.lt e1 e3; omega
  have key := h'.set (k := q) (o' := { ob with es := ob'.es }) (L := L) (h3.mono (h'.blk q ob L hq hL)) (h'.blk q ob L hq hL) (h'.okrow q ob L hq hL) (fun b hb hne => h4 b hb hne)
    (fun x o2 L2 hx e1 e2 e3 => hx (h'.inj x q o2 ob L2 L e1 hq e2 hL e3)) (fun b hb e => hb.2.2 q ob L hq hFq hL e.symm) (.inl hL) (by
      rw [hset]
      refine ⟨fun cs hcs => by rw [← p1]; exact r1 cs hcs, r2, fun cs hcs x hx => ?_, ?_⟩
      · exfalso
        obtain ⟨i, hi⟩ := List.getElem?_of_mem hcs
        obtain ⟨j, u, hj, hku⟩ := mem_keysL.1 hx
        obtain ⟨v, _, q2⟩ := r7 i cs j u hi hj
        rw [q2.keys] at hku
        simp at hku
      · rw [hL]
        refine ⟨p1, p2, cur', r3, r4, r5, r6, fun i cs j u hi hj => ?_⟩
        obtain ⟨v, q1, q2⟩ := r7 i cs j u hi hj
        exact ⟨v, q1, .data (q2.mono hok' fun _ _ => rfl)⟩) (by simp [href])
  rw [hset] at key
  obtain ⟨k1, k2, k3⟩ := key
  have fin := hs.put k1 (fun _ _ => rfl) (fun b hb => k2 b (hok b hb)) (fun b hb => k3 b (hok b hb)) (fun x hx => by
    by_cases ex : x = q
    · subst ex; rw [setH_self]; simp
    · rw [setH_ne _ _ ex]; exact hx) (h7.mono hok' (fun _ _ => rfl) (by rw [h8]; simp)) (by rw [h8]; simp) hd
  refine hK _ _ ⟨C, ?_⟩
  simpa [St.app, upsH] using fin

theorem run_append_op {P : Program} {a : Act} {w w' : World} {dst : Option Nat} {x y : Operand} {ts : Array TypeId} {ty : Nat} {pos : String} {after : Array Edge} {guard : Option (Nat × Bool)} {v : Value}
    (h : (Builtin.append_ ts ty #[a.eval x, a.eval y]).run P w = .ok v w') : (execOp a.eval ⟨dst, .call ⟨.builtin .append, #[x, y], ts⟩, ty, pos, after, guard⟩).run P w = .ok (.value v) w' := by
  simp [execOp, resolve, invoke, builtin, h]

theorem keysLL_mem {k : Nat} : ∀ {l : List (List AV)}, k ∈ keysLL l ↔ ∃ cs ∈ l, k ∈ AV.keysL cs
  | [] => by simp [keysLL]
  | cs :: r => by simp [keysLL, keysLL_mem (l := r)]

/-- Append onto nil: a new row. -/
theorem nil_append (hs : Sim N B ok0 w0 E C S a w) {x0 y0 : Operand} {t e : TypeId} {k : Nat} {y : AV} {z : List AV} {news : List (List AV)} (hk : S.heap k = none) (ht : P.underlying t = some (.slice e)) (hok : okT P e = true) (hb0 : 1 ≤ P.bytesOf e) (hs0 : 1 ≤ P.cellsOf e)
    (hz : zeroC P e = some z) (hzl : z.length = P.cellsOf e) (hvx : a.eval x0 = .slice none 0 0) (hy : Rep C (okb B ok0 C S.heap S.frz w) w y (a.eval y0)) (hyk : ∀ x ∈ y.keys, S.heap x ≠ none) (hnews : appended S.heap (P.cellsOf e) y = some news)
    (hall : ∀ cs ∈ news, cs.length = P.cellsOf e ∧ ∀ u ∈ cs, u.isCell = true) (hby : news.length * P.bytesOf e ≤ 140737488355328) (hfk : S.frz k = false) {dst : Option Nat} {ty : Nat} {pos : String} {after : Array Edge} {guard : Option (Nat × Bool)} (hd : ∀ x, dst = some x → x < N) {acc : List Nat} :
    Does P N B ok0 w0 E ⟨dst, .call ⟨.builtin .append, #[x0, y0], #[t, t]⟩, ty, pos, after, guard⟩ a w (S.app dst { val := .sl k 0 news.length, ups := [(k, { sz := P.cellsOf e, ty := e, es := news, refs := keysLL news })], acc := acc }) := by
  intro K Q hK
  obtain ⟨ad1, ad2⟩ := hs.h.adopt (k := k) hk e (P.cellsOf e)
  have dom_ne : ∀ {u : AV}, (∀ x ∈ u.keys, S.heap x ≠ none) → ∀ x ∈ u.keys, setC C k none x = C x := fun h x hx => setC_ne _ _ (by rintro rfl; exact h x hx hk)
  have hnews' : appended (setH S.heap k { sz := P.cellsOf e, ty := e, es := [], refs := [] }) (P.cellsOf e) y = some news := by
    rw [← hnews]
    unfold appended
    split
    · rfl
    · rename_i o i n
      have : o ≠ k := by rintro rfl; exact hyk o (by simp [AV.keys]) hk
      rw [setH_ne _ _ this]
    · rfl
  obtain ⟨_, _, _, _, hnk⟩ := appended_rep hs.h hnews hy hall
  have hnoself : ∀ cs ∈ news, k ∉ AV.keysL cs := fun cs hcs hkm => hnk cs hcs k hkm hk
  obtain ⟨C', v', w', r1, r2, r3, r4, r5⟩ := s_append (ty := ty) ad1 (o := k) (n := 0) (setH_self _ _ _) hfk rfl rfl rfl ht hok rfl hs0 hb0 hz hzl (.nilsl (setC_self _ _ _)) hnews' (hy.mono ad2 (fun _ _ => rfl) (dom_ne hyk)) hall (by simpa using hby) hnoself (by simp) (rs := keysLL news)
      (fun cs hcs x hx => keysLL_mem.2 ⟨cs, hcs, hx⟩) (fun x hx => keysLL_mem.1 hx)
  refine wp_of_value (v := v') (w' := w') (run_append_op (by rw [hvx]; exact r1)) (hK _ _ ⟨C', ?_⟩)
  have hH : setH (mapH [k] (setH S.heap k { sz := P.cellsOf e, ty := e, es := [], refs := [] })) k { sz := P.cellsOf e, ty := e, es := [] ++ news, refs := keysLL news ++ [] } = setH S.heap k { sz := P.cellsOf e, ty := e, es := news, refs := keysLL news } := by
    funext x
    by_cases ex : x = k
    · subst ex; rw [setH_self, setH_self]; simp
    · rw [setH_ne _ _ ex, setH_ne _ _ ex]
      simp only [mapH, setH_ne _ _ ex]
      cases hx : S.heap x with
      | none => rfl
      | some ox =>
        rw [Option.map_some, scrubO_id]
        intro q hq hqk
        simp at hqk
        subst hqk
        exact hs.h.wf x ox _ hx hq hk
  rw [hH] at r3 r4
  have fin := hs.put r3 (fun x hx => by
      have ex : x ≠ k := by rintro rfl; exact hx hk
      rw [r2 x ex, setC_ne _ _ ex]) (fun b hb => (r4 b (ad2 b hb)).1) (fun b hb => (r4 b (ad2 b hb)).2) (fun x hx => by
      by_cases ex : x = k
      · subst ex; rw [setH_self]; simp
      · rw [setH_ne _ _ ex]; exact hx) (r5 _) (fun x hx => by simp [AV.keys] at hx; subst hx; rw [setH_self]; simp) (d := dst) hd
  simp only [Nat.zero_add] at fin
  simpa [St.app, upsH] using fin

theorem isNilC_inv {x : AX} (h : isNilC x = true) : ∃ sz, x = .c (.imm true sz []) := by
  unfold isNilC at h
  split at h
  · exact ⟨_, rfl⟩
  · cases h

theorem elemT_inv {t e : TypeId} (h : elemT P t = some e) : P.underlying t = some (.slice e) := by
  unfold elemT at h
  split at h
  · rename_i hu; cases h; exact hu
  · cases h

theorem any_zero {t : TypeId} (h : ((zeroC P t).any fun z => z.length == P.cellsOf t) = true) : ∃ z, zeroC P t = some z ∧ z.length = P.cellsOf t := by
  cases hz : zeroC P t with
  | none => rw [hz] at h; simp at h
  | some z => rw [hz] at h; exact ⟨z, rfl, by simpa using h⟩

theorem all_cells {news : List (List AV)} {n : Nat} (h : (news.all fun cs => decide (cs.length = n) && cs.all AV.isCell) = true) : ∀ cs ∈ news, cs.length = n ∧ ∀ u ∈ cs, u.isCell = true := fun cs hcs => by
  have := List.all_eq_true.1 h cs hcs
  simp only [Bool.and_eq_true, decide_eq_true_eq] at this
  exact ⟨this.1, fun u hu => List.all_eq_true.1 this.2 u hu⟩

/-- Which operations the evaluator takes in place: the callee is 'f'. -/
theorem simple_call (c : Call) {dst : Option Nat} {ty : Nat} {pos : String} {after : Array Edge} {guard : Option (Nat × Bool)} {aop : AOp} {e : Eff}
    (hc : cOp P ks fid ⟨dst, .call c, ty, pos, after, guard⟩ = some aop) (he : eff G aop S = some e) (hs : Sim N B ok0 w0 E C S a w) (hd : ∀ x, dst = some x → x < N)
    (hG : GoodG P ks G) : Does P N B ok0 w0 E ⟨dst, .call c, ty, pos, after, guard⟩ a w (S.app dst e) := by
  obtain ⟨callee, args, argTypes⟩ := c
  simp only [cOp] at hc
  split at hc
  · split at hc
    · rename_i x t hargs ht
      have hargs' : args = #[x] := by rw [← Array.toArray_toList (xs := args), hargs]
      subst hargs'
      have hres : (execOp a.eval ⟨dst, .call ⟨.builtin .len, #[x], argTypes⟩, ty, pos, after, guard⟩).run P w = ((Builtin.len_ argTypes ty #[a.eval x]).run P w).andThen fun v w => .ok (.value v) w := by
        simp [execOp, resolve, invoke, builtin]
      split at hc
      · rename_i x' hu hx'
        cases hc
        have h1 := hs.ev hx'
        have hlen : ∀ A n c, a.eval x = .slice A n c → (Builtin.len_ argTypes ty #[a.eval x]).run P w = .ok (.int .i64 n) w := fun A n c hv => by
          simp [Builtin.len_, ht, hv, run_underlying hu, goInt]
        simp only [eff] at he
        split at he
        · rename_i nl sz es hxe
          cases he
          rw [hxe] at h1
          have hI := h1.1.imm_inv
          cases hv : a.eval x with
          | slice A n c =>
            rw [hv] at hI
            have hn : n = es.length := by cases hI with | nils => rfl | imm ad vs hn => exact hn
            subst hn
            exact .of_data hs (by rw [hres, hlen A _ c hv]; rfl) (.data (.int _ _)) (by simp [AV.keys]) hd
          | _ => rw [hv] at hI; cases hI
        · rename_i o i n hxe
          cases he
          rw [hxe] at h1
          rcases h1.1.sl_inv with ⟨L, c, _, hv, _, _⟩ | ⟨_, hv, _, rfl⟩
          · exact .of_data hs (by rw [hres, hlen _ _ _ hv]; rfl) (.data (.int _ _)) (by simp [AV.keys]) hd
          · exact .of_data hs (by rw [hres, hlen _ _ _ hv]; rfl) (.data (.int _ _)) (by simp [AV.keys]) hd
        · cases he
      · rename_i x' hu hx'
        cases hc
        have h1 := hs.ev hx'
        simp only [eff] at he
        split at he
        · rename_i s hxe
          cases he
          rw [hxe] at h1
          have hv := h1.1.str_inv
          have hrun : (Builtin.len_ argTypes ty #[a.eval x]).run P w = .ok (.int .i64 s.size) w := by simp [Builtin.len_, ht, hv, run_underlying hu, goInt]
          exact .of_data hs (by rw [hres, hrun]; rfl) (.data (.int _ _)) (by simp [AV.keys]) hd
        · cases he
      · cases hc
    · cases hc
  · split at hc
    · rename_i x y t u hargs hts
      split at hc
      · rename_i k1 k2 x' y' hu1 hu2 hx' hy'
        cases hc
        have hargs' : args = #[x, y] := by rw [← Array.toArray_toList (xs := args), hargs]
        subst hargs'
        simp only [eff] at he
        split at he
        · rename_i kx n ky m hxe hye
          obtain ⟨hk, he1⟩ := of_ite he
          clear he
          subst hk
          cases he1
          have h1 := (hs.ev hx').1
          have h2 := (hs.ev hy').1
          rw [hxe] at h1
          rw [hye] at h2
          refine .of_data hs (v := .int kx (if n < m then m else n)) ?_ (.data (.int _ _)) (by simp [AV.keys]) hd
          simp only [execOp, resolve, invoke, builtin, Sem.run_bind, Sem.run_pure, Result.andThen_ok, Builtin.max_, h1.int_inv, h2.int_inv, List.map_toArray, List.map_cons, List.map_nil]
          simp [Builtin.max2]
        · cases he
      · cases hc
    · cases hc
  · split at hc
    · rename_i x0 y0 t u hargs hts
      obtain ⟨htu, hc1⟩ := of_ite hc
      clear hc
      subst htu
      split at hc1
      · rename_i e' x y helem hx hy
        obtain ⟨⟨c1, c2, c3, c4⟩, hc2⟩ := of_ite hc1
        clear hc1
        split at hc2
        · rename_i hnil
          have hargs' : args = #[x0, y0] := by rw [← Array.toArray_toList (xs := args), hargs]
          have hts' : argTypes = #[t, t] := by rw [← Array.toArray_toList (xs := argTypes), hts]
          subst hargs'
          subst hts'
          obtain ⟨z, hz, hzl⟩ := any_zero c4
          cases hc2
          obtain ⟨szn, rfl⟩ := isNilC_inv hnil
          have hsx := hs.ev hx
          have hsy := hs.ev hy
          have hvx : a.eval x0 = .slice none 0 0 := by
            have := hsx.1.imm_inv
            generalize a.eval x0 = vx at *
            cases this
            rfl
          simp only [eff] at he
          split at he
          case h_2 => cases he
          rename_i hk
          split at he
          case h_2 => cases he
          rename_i news hnews
          obtain ⟨⟨q1, q2, q3⟩, he1⟩ := of_ite he
          clear he
          cases he1
          exact nil_append hs hk (elemT_inv helem) c1 c2 c3 hz hzl hvx hsy.1 hsy.2 hnews (all_cells q1) q2 q3 hd
        · cases hc2; simp [eff] at he
      · cases hc1
    · cases hc
  · rename_i f
    split at hc
    · rename_i as has
      split at hc
      · rename_i fresh hk
        cases hc
        obtain ⟨hm, hen⟩ := hG.1 f fresh hk
        obtain ⟨m1, m2⟩ := args_rep hs has
        simp only [eff] at he
        split at he
        · rename_i as' fks hfz
          split at he
          · rename_i r hr
            have hrun : (execOp a.eval ⟨dst, .call ⟨.value (.func f), args, argTypes⟩, ty, pos, after, guard⟩).run P w = .ok (.enter f (args.map a.eval)) w := by
              simp [execOp, resolve, Act.eval, Deferred.ofValue, invoke, run_callFunc hen]
            have key := fun (fr : Bool) (h1 : _) (h2 : fr = false → r.objs = []) => pure_call (P := P) (G := G) (o := ⟨dst, .call ⟨.value (.func f), args, argTypes⟩, ty, pos, after, guard⟩) (k := (fid * 1000 + dst.getD 999) * 16) (fresh := fr) hs hm hd hrun (by simp [m1]) (fun j u v hj hv => by
              obtain ⟨x, hx, hrep, _⟩ := m2 j u hj
              have : args[j]? = some x := by simpa using hx
              simp [this] at hv
              subst hv
              exact hrep) hfz hr h1 h2
            cases fresh with
            | true =>
              simp only [if_true] at he
              obtain ⟨hfree, he1⟩ := of_ite he
              clear he
              cases he1
              exact key true (fun x h1 h2 => freeKeys_spec _ r.objs 0 hfree x (by omega) (by omega)) (by simp)
            | false =>
              simp only [Bool.false_eq_true, if_false] at he
              obtain ⟨hobj, he1⟩ := of_ite he
              clear he
              cases he1
              exact key false (fun x h1 h2 => by rw [hobj] at h2; simp at h2; omega) (fun _ => hobj)
          · cases he
        · cases he
      · split at hc
        · rename_i p ty' hu
          cases hc
          obtain ⟨hm, hen⟩ := hG.2 f p ty' hu
          obtain ⟨m1, m2⟩ := args_rep hs has
          have hrun : (execOp a.eval ⟨dst, .call ⟨.value (.func f), args, argTypes⟩, ty, pos, after, guard⟩).run P w = .ok (.enter f (args.map a.eval)) w := by
            simp [execOp, resolve, Act.eval, Deferred.ofValue, invoke, run_callFunc hen]
          simp only [eff] at he
          split at he
          case h_2 => cases he
          rename_i q n hp
          split at he
          case h_2 => cases he
          rename_i ob hob
          obtain ⟨⟨e1, e2, e3, e4, e5⟩, he1⟩ := of_ite he
          clear he
          split at he1
          case h_2 => cases he1
          rename_i as' fks hfz
          split at he1
          case h_2 => cases he1
          rename_i r hr
          split at he1
          case h_2 => cases he1
          rename_i ob' hobj
          obtain ⟨e6, he2⟩ := of_ite he1
          clear he1
          cases he2
          exact upd_call (o := ⟨dst, .call ⟨.value (.func f), args, argTypes⟩, ty, pos, after, guard⟩) hs hm hd hrun (by simpa using m1) (fun j u v hj hv => by
            obtain ⟨x, hx, hrep, _⟩ := m2 j u hj
            have : args[j]? = some x := by simpa using hx
            simp [this] at hv
            subst hv
            exact hrep) hp hob e1 e2 e3 e4 e5 hfz hr hobj e6
        · cases hc; simp [eff] at he
    · cases hc
  · split at hc
    · cases hc; simp [eff] at he
    · cases hc
  · cases hc

end
end Go.Ev

/-
  One step of the evaluation over the state by lists: what it says is what the model does.
-/
namespace Go.Ev
open Go Go.RowKit

structure SimL (N B : Nat) (ok0 : Nat → Prop) (w0 : World) (E : Entry) (C : Conc) (s : SL) (a : Act) (w : World) : Prop where
  sim : Sim N B ok0 w0 { E with R := s.reb } C s.den a w
  own : ∀ k ∈ s.own, ¬ E.D k

def SimLX (N B : Nat) (ok0 : Nat → Prop) (w0 : World) (E : Entry) (s : SL) (a : Act) (w : World) : Prop := ∃ C, SimL N B ok0 w0 E C s a w

/-- What a step of an operation gives. -/
def DoesL (P : Program) (N B : Nat) (ok0 : Nat → Prop) (w0 : World) (E : Entry) (o : Oper) (a : Act) (w : World) (s' : SL) : Prop :=
  ∀ (K : Act → World → Prop) (Q : Exit → Act → World → Prop), (∀ a' w', SimLX N B ok0 w0 E s' a' w' → K a' w') → o.wp P a w K Q

/-- What a callee that is evaluated in place is said to do. -/
def InlSound (P : Program) (ic : Inl) : Prop :=
  ∀ (f : FuncId) (args : List AV) (heap : List (Nat × Obj)) (frz : List Nat) (r : IRes), ic f args heap frz = some r → Enters P f ∧
    ∀ (B : Nat) (ok0 : Nat → Prop) (w0 : World) (C : Conc) (w : World) (vs : Array Value), SimH B ok0 w0 C (afind heap) (fun k => frz.contains k) w → args.length = vs.size →
      (∀ (j : Nat) (u : AV) (v : Value), args[j]? = some u → vs[j]? = some v → Rep C (okb B ok0 C (afind heap) (fun k => frz.contains k) w) w u v) → (∀ u ∈ args, ∀ k ∈ u.keys, afind heap k ≠ none) →
      Calls P f vs w fun e w' => ∃ v, e = .returned v ∧ ∃ C' : Conc, SimH B ok0 w0 C' (afind r.heap) (fun k => r.frz.contains k) w' ∧
        (∀ k, afind heap k ≠ none → afind r.heap k ≠ none ∧ (k ∉ r.scr → C' k = C k)) ∧
        (∀ b, okb B ok0 C (afind heap) (fun k => frz.contains k) w b → okb B ok0 C' (afind r.heap) (fun k => r.frz.contains k) w' b ∧ w'.heap[b]? = w.heap[b]?) ∧
        Rep C' (okb B ok0 C' (afind r.heap) (fun k => r.frz.contains k) w') w' r.val v ∧ (∀ k ∈ r.val.keys, afind r.heap k ≠ none) ∧ ∀ k ∈ r.own, afind heap k = none

section
variable {N B : Nat} {ok0 : Nat → Prop} {w0 : World} {E : Entry} {C : Conc} {s s' : SL} {a : Act} {w : World} {P : Program} {ks : Kinds} {fid : Nat} {G : Pure} {ic : Inl}

theorem notD (hs : SimL N B ok0 w0 E C s a w) {k : Nat} (hk : afind s.heap k = none) : ¬ E.D k := fun hd => (hs.sim.ent.2 k hd).1 hk

theorem Does.toL (hs : SimL N B ok0 w0 E C s a w) {o : Oper} {d : Option Nat} {e : Eff} (h : Does P N B ok0 w0 { E with R := s.reb } o a w (s.den.app d e)) : DoesL P N B ok0 w0 E o a w (s.apply d e) := by
  intro K Q hK
  refine h K Q fun a' w' hx => ?_
  obtain ⟨C', hs'⟩ := hx
  refine hK a' w' ⟨C', ⟨?_, fun k hk => ?_⟩⟩
  · rw [den_apply]; exact hs'
  · rcases mem_newKeys e.ups s.heap s.own hk with h1 | h1
    · exact hs.own k h1
    · exact notD hs h1

theorem not_contains {l : List Nat} {k : Nat} (h : l.contains k = false) : k ∉ l := by simpa using h

theorem den_of (slots : List (Nat × AV)) (heap : List (Nat × Obj)) (frz own reb : List Nat) : SL.den { slots := slots, heap := heap, frz := frz, own := own, reb := reb } = { slot := aget .undef slots, heap := afind heap, frz := fun k => frz.contains k } := rfl

theorem aget_putD (slots : List (Nat × AV)) (d : Option Nat) (v : AV) : aget .undef (putD slots d v) = fun t => if d = some t then v else aget .undef slots t := by
  funext t
  cases d with
  | none => simp [putD]
  | some x => simp [putD, aget_aput]

theorem afind_aputF (heap : List (Nat × Obj)) (k : Nat) (o : Obj) : afind (aput heap k o) = setH (afind heap) k o := by
  funext x
  rw [afind_aput]
  simp [setH, eq_comm]

theorem afind_scrubF (ks : List Nat) (heap : List (Nat × Obj)) : afind (scrubHeap ks heap) = mapH ks (afind heap) := by
  funext x
  exact afind_scrubHeap ks heap x

/-- Append. -/
theorem d_app {args : Array Operand} {argTypes : Array TypeId} {dst : Option Nat} {ty : Nat} {pos : String} {after : Array Edge} {guard : Option (Nat × Bool)} {k0 : Nat} {e1 : TypeId} {sz bytes : Nat} {x1 y1 : AX}
    (hc : cOp P ks fid ⟨dst, .call ⟨.builtin .append, args, argTypes⟩, ty, pos, after, guard⟩ = some (.app k0 e1 sz bytes x1 y1)) (he : stepApp k0 e1 sz bytes (s.den.ev x1) (s.den.ev y1) s dst = some s')
    (hs : SimL N B ok0 w0 E C s a w) (hd : ∀ x, dst = some x → x < N) : DoesL P N B ok0 w0 E ⟨dst, .call ⟨.builtin .append, args, argTypes⟩, ty, pos, after, guard⟩ a w s' := by
  simp only [cOp] at hc
  split at hc
  case h_2 => cases hc
  rename_i x0 y0 t u hargs hts
  obtain ⟨htu, hc1⟩ := of_ite hc
  clear hc
  subst htu
  split at hc1
  case h_2 => cases hc1
  rename_i e x y helem hx' hy'
  obtain ⟨⟨c1, c2, c3, c4⟩, hc2⟩ := of_ite hc1
  clear hc1
  split at hc2
  case isTrue => cases hc2
  simp only [Option.some.injEq, AOp.app.injEq] at hc2
  obtain ⟨-, rfl, rfl, rfl, rfl, rfl⟩ := hc2
  have hargs' : args = #[x0, y0] := by rw [← Array.toArray_toList (xs := args), hargs]
  have hts' : argTypes = #[t, t] := by rw [← Array.toArray_toList (xs := argTypes), hts]
  subst hargs'
  subst hts'
  have ht : P.underlying t = some (.slice e) := by
    unfold elemT at helem
    split at helem
    · rename_i hu; cases helem; exact hu
    · cases helem
  obtain ⟨z, hz, hzl⟩ : ∃ z, zeroC P e = some z ∧ z.length = P.cellsOf e := by
    cases hz : zeroC P e with
    | none => rw [hz] at c4; simp at c4
    | some z => rw [hz] at c4; exact ⟨z, rfl, by simpa using c4⟩
  have hsx := hs.sim.ev hx'
  have hsy := hs.sim.ev hy'
  unfold stepApp at he
  obtain ⟨k, hkk⟩ : ∃ k, k = freshKey s.heap k0 := ⟨_, rfl⟩
  rw [← hkk] at he
  clear hkk
  unfold stepAppK at he
  split at he
  case h_2 => cases he
  rename_i news hnews
  obtain ⟨hall0, he1⟩ := of_ite he
  clear he
  have hall : ∀ cs ∈ news, cs.length = P.cellsOf e ∧ ∀ u ∈ cs, u.isCell = true := fun cs hcs => by
    have := List.all_eq_true.1 hall0 cs hcs
    simp only [Bool.and_eq_true, decide_eq_true_eq] at this
    exact ⟨this.1, fun u hu => List.all_eq_true.1 this.2 u hu⟩
  split at he1
  · -- onto nil
    rename_i szn hxe
    split at he1
    case h_2 => cases he1
    rename_i hk
    obtain ⟨⟨hby, hfk⟩, he2⟩ := of_ite he1
    clear he1
    cases he2
    rw [hxe] at hsx
    have hvx : a.eval x0 = .slice none 0 0 := by
      have := hsx.1.imm_inv
      generalize a.eval x0 = vx at *
      cases this
      rfl
    intro K Q hK
    have hk' : s.den.heap k = none := hk
    obtain ⟨ad1, ad2⟩ := hs.sim.h.adopt (k := k) hk e (P.cellsOf e)
    have dom_ne : ∀ {u : AV}, (∀ x ∈ u.keys, s.den.heap x ≠ none) → ∀ x ∈ u.keys, setC C k none x = C x := fun h x hx => setC_ne _ _ (by rintro rfl; exact h x hx hk)
    have hnews' : appended (setH s.den.heap k { sz := P.cellsOf e, ty := e, es := [], refs := [] }) (P.cellsOf e) (s.den.ev y) = some news := by
      rw [← hnews]
      unfold appended
      split
      · rfl
      · rename_i o i n hy
        have : o ≠ k := by rintro rfl; exact hsy.2 o (by rw [hy]; simp [AV.keys]) hk
        rw [setH_ne _ _ this]
      · rfl
    obtain ⟨_, _, _, _, hnk⟩ := appended_rep hs.sim.h hnews hsy.1 hall
    have hnoself : ∀ cs ∈ news, k ∉ AV.keysL cs := fun cs hcs hkm => hnk cs hcs k hkm hk
    obtain ⟨C', v', w', r1, r2, r3, r4, r5⟩ := s_append (ty := ty) ad1 (o := k) (n := 0) (setH_self _ _ _) hfk rfl rfl rfl ht c1 rfl c3 c2 hz hzl (.nilsl (setC_self _ _ _)) hnews' (hsy.1.mono ad2 (fun _ _ => rfl) (dom_ne hsy.2)) hall (by simpa using hby) hnoself (by simp) (rs := keysLL news)
        (fun cs hcs x hx => keysLL_mem.2 ⟨cs, hcs, hx⟩) (fun x hx => keysLL_mem.1 hx)
    refine wp_of_value (v := v') (w' := w') (run_append_op (by rw [hvx]; exact r1)) (hK _ _ ⟨C', ⟨?_, fun x hx => ?_⟩⟩)
    · have hH : setH (mapH [k] (setH s.den.heap k { sz := P.cellsOf e, ty := e, es := [], refs := [] })) k { sz := P.cellsOf e, ty := e, es := [] ++ news, refs := keysLL news ++ [] } = setH s.den.heap k { sz := P.cellsOf e, ty := e, es := news, refs := keysLL news } := by
        funext x
        by_cases ex : x = k
        · subst ex; rw [setH_self, setH_self]; simp
        · rw [setH_ne _ _ ex, setH_ne _ _ ex]
          simp only [mapH, setH_ne _ _ ex]
          cases hx : s.den.heap x with
          | none => rfl
          | some ox =>
            rw [Option.map_some, scrubO_id]
            intro q hq hqk
            simp at hqk
            subst hqk
            exact hs.sim.h.wf x ox _ hx hq hk
      rw [hH] at r3 r4
      have fin := hs.sim.put r3 (fun x hx => by
          have ex : x ≠ k := by rintro rfl; exact hx hk
          rw [r2 x ex, setC_ne _ _ ex]) (fun b hb => (r4 b (ad2 b hb)).1) (fun b hb => (r4 b (ad2 b hb)).2) (fun x hx => by
          by_cases ex : x = k
          · subst ex; rw [setH_self]; simp
          · rw [setH_ne _ _ ex]; exact hx) (r5 _) (fun x hx => by simp [AV.keys] at hx; subst hx; rw [setH_self]; simp) (d := dst) hd
      rw [den_of, aget_putD, afind_aputF]
      simp only [Nat.zero_add] at fin
      exact fin
    · rcases List.mem_cons.1 hx with rfl | hx
      · exact notD hs hk
      · exact hs.own x hx
  · -- onto a row
    rename_i o n hxe
    split at he1
    case h_2 => cases he1
    rename_i ob hob
    obtain ⟨⟨q1, q2, q3, q4, q5, q6, q7⟩, he2⟩ := of_ite he1
    clear he1
    cases he2
    rw [hxe] at hsx
    have hob' : s.den.heap o = some ob := hob
    intro K Q hK
    obtain ⟨_, _, _, _, hnk⟩ := appended_rep hs.sim.h hnews hsy.1 hall
    obtain ⟨C', v', w', r1, r2, r3, r4, r5⟩ := s_append (ty := ty) hs.sim.h (o := o) (n := n) hob' q4 q1 q2 q3 ht c1 rfl c3 c2 hz hzl hsx.1 hnews hsy.1 hall q5 (fun cs hcs hm => not_contains q6 (keysLL_mem.2 ⟨cs, hcs, hm⟩)) (not_contains q7) (rs := keysLL news)
        (fun cs hcs x hx => keysLL_mem.2 ⟨cs, hcs, hx⟩) (fun x hx => keysLL_mem.1 hx)
    refine wp_of_value (v := v') (w' := w') (run_append_op r1) (hK _ _ ⟨C', ⟨?_, hs.own⟩⟩)
    have dom : ∀ x, s.den.heap x ≠ none → setH (mapH [o] s.den.heap) o { ob with es := ob.es ++ news, refs := keysLL news ++ ob.refs } x ≠ none := fun x hx => by
      by_cases ex : x = o
      · subst ex; rw [setH_self]; simp
      · rw [setH_ne _ _ ex]; simpa [mapH] using hx
    rw [den_of, aget_putD, afind_aputF, afind_scrubF]
    refine ⟨r3, fun t => ?_, fun t k hk => ?_, by rw [Act.put_defers']; exact hs.sim.defers, by rw [Act.put_size]; exact hs.sim.size, fun b hb => ?_, fun k hk => ?_⟩
    · rw [Act.put_tmps a dst v' t (fun x hx => Nat.lt_of_lt_of_le (hd x hx) hs.sim.size)]
      simp only
      split
      · exact r5 _
      · rw [aget_scrub]
        exact (hs.sim.slot t).scrub (fun b hb => (r4 b hb).1) (fun b hb => (r4 b hb).2) fun k _ hk => r2 k (by simpa using hk)
    · simp only at hk ⊢
      split at hk
      · simp [AV.keys] at hk; subst hk; rw [setH_self]; simp
      · rw [aget_scrub] at hk
        exact dom k (hs.sim.wfs t k (keys_scrub _ _ _ hk).1)
    · have := hs.sim.ent.1 b hb
      exact ⟨(r4 b this.1).1, (r4 b this.1).2.trans this.2⟩
    · have := hs.sim.ent.2 k hk
      refine ⟨dom k this.1, fun hR => ?_⟩
      simp only [List.mem_cons, not_or] at hR
      exact (r2 k hR.1).trans (this.2 hR.2)
  · cases he1

/-- A call that is evaluated in place. -/
theorem d_inl {o : Oper} {f : FuncId} {args : Array Value} {as : List AV} (hI : InlSound P ic) (he : stepInl (ic f as s.heap s.frz) s o.dst = some s') (hs : SimL N B ok0 w0 E C s a w) (hd : ∀ x, o.dst = some x → x < N)
    (hrun : Enters P f → (execOp a.eval o).run P w = .ok (.enter f args) w) (hlen : as.length = args.size)
    (hrep : ∀ (j : Nat) (u : AV) (v : Value), as[j]? = some u → args[j]? = some v → Rep C (okb B ok0 C s.den.heap s.den.frz w) w u v) (hkeys : ∀ u ∈ as, ∀ k ∈ u.keys, s.den.heap k ≠ none) : DoesL P N B ok0 w0 E o a w s' := by
  unfold stepInl at he
  split at he
  case h_2 => cases he
  rename_i r hr
  cases he
  obtain ⟨hen, hcall⟩ := hI f as s.heap s.frz r hr
  intro K Q hK
  have hcalls := hcall B ok0 w0 C w args hs.sim.h hlen hrep hkeys
  unfold Oper.wp
  rw [hrun hen]
  simp only [Oper.upon]
  refine hcalls.mono fun e w' he => ?_
  obtain ⟨v, rfl, C', h1, h2, h3, h4, h5, h6⟩ := he
  refine hK _ _ ⟨C', ⟨?_, fun k hk => ?_⟩⟩
  · rw [den_of, aget_putD]
    refine ⟨h1, fun t => ?_, fun t k hk => ?_, by rw [Act.put_defers']; exact hs.sim.defers, by rw [Act.put_size]; exact hs.sim.size, fun b hb => ?_, fun k hk => ?_⟩
    · rw [Act.put_tmps a o.dst v t (fun x hx => Nat.lt_of_lt_of_le (hd x hx) hs.sim.size)]
      simp only
      split
      · exact h4
      · rw [aget_scrub]
        exact (hs.sim.slot t).scrub (fun b hb => (h3 b hb).1) (fun b hb => (h3 b hb).2) fun k hk hn => (h2 k (hs.sim.wfs t k hk)).2 hn
    · simp only at hk ⊢
      split at hk
      · exact h5 k hk
      · rw [aget_scrub] at hk
        exact (h2 k (hs.sim.wfs t k (keys_scrub _ _ _ hk).1)).1
    · have := hs.sim.ent.1 b hb
      exact ⟨(h3 b this.1).1, (h3 b this.1).2.trans this.2⟩
    · have := hs.sim.ent.2 k hk
      refine ⟨(h2 k this.1).1, fun hR => ?_⟩
      simp only [List.mem_append, not_or] at hR
      exact ((h2 k this.1).2 hR.1).trans (this.2 hR.2)
  · rcases List.mem_append.1 hk with hk | hk
    · exact notD hs (h6 k hk)
    · exact hs.own k hk

theorem map_some_simple {α : Type} {x : Option α} {f : α → AOp} {y : AOp} (h : x.map f = some y) (hf : ∀ z, (f z).simple = true) : y.simple = true := by
  obtain ⟨z, _, rfl⟩ := Option.map_eq_some_iff.1 h
  exact hf z

theorem cOp_simple {o : Oper} {aop : AOp} (hc : cOp P ks fid o = some aop) (hcall : ∀ c, o.op ≠ .call c) : aop.simple = true := by
  obtain ⟨dst, op, ty, pos, after, guard⟩ := o
  cases op
  case call c => exact absurd rfl (hcall c)
  all_goals simp only [cOp] at hc
  all_goals (repeat' split at hc)
  all_goals first
    | (cases hc; done)
    | contradiction
    | (cases hc; rfl)
    | exact map_some_simple hc fun _ => rfl

theorem cOp_call {c : Call} {dst : Option Nat} {ty : Nat} {pos : String} {after : Array Edge} {guard : Option (Nat × Bool)} {aop : AOp} (hc : cOp P ks fid ⟨dst, .call c, ty, pos, after, guard⟩ = some aop) :
    aop.simple = true ∨ (∃ k e sz bytes x y, aop = .app k e sz bytes x y ∧ c.callee = .builtin .append) ∨
      (∃ f as, aop = .icall f as ∧ c.callee = .value (.func f) ∧ axs P c.argTypes.toList c.args.toList = some as) ∨
      ∃ v x as, aop = .ccall x as ∧ c.callee = .value v ∧ axOf P 0 v = some x ∧ axs P c.argTypes.toList c.args.toList = some as := by
  obtain ⟨callee, args, argTypes⟩ := c
  simp only [cOp] at hc
  split at hc
  · repeat' split at hc
    all_goals first
      | (cases hc; done)
      | (cases hc; exact .inl rfl)
  · repeat' split at hc
    all_goals first
      | (cases hc; done)
      | (cases hc; exact .inl rfl)
  · repeat' split at hc
    all_goals first
      | (cases hc; done)
      | (cases hc; exact .inr (.inl ⟨_, _, _, _, _, _, rfl, rfl⟩))
      | (cases hc; exact .inl rfl)
  · split at hc
    · rename_i as has
      split at hc
      · cases hc; exact .inl rfl
      · split at hc
        · cases hc; exact .inl rfl
        · cases hc; exact .inr (.inr (.inl ⟨_, _, rfl, rfl, has⟩))
    · cases hc
  · split at hc
    · rename_i x as hx has
      cases hc
      exact .inr (.inr (.inr ⟨_, _, _, rfl, rfl, hx, has⟩))
    · cases hc
  · cases hc

theorem applyO_inv {s : SL} {d : Option Nat} {x : Option Eff} {s' : SL} (h : applyO s d x = some s') : ∃ e, x = some e ∧ s' = s.apply d e := by
  cases x with
  | none => cases h
  | some e => cases h; exact ⟨e, rfl, rfl⟩

/-- One operation, its guard aside. -/
theorem stepGo_sound {o : Oper} {aop : AOp} (hc : cOp P ks fid o = some aop) (he : stepGo G ic o.dst aop s = some s') (hs : SimL N B ok0 w0 E C s a w) (hd : ∀ x, o.dst = some x → x < N)
    (hG : GoodG P ks G) (hI : InlSound P ic) : DoesL P N B ok0 w0 E o a w s' := by
  have red : aop.simple = true → ∃ e, eff G aop s.den = some e ∧ s' = s.apply o.dst e := fun hsimp => by
    cases aop <;> first | exact applyO_inv he | cases hsimp
  by_cases hcall : ∃ c, o.op = .call c
  · obtain ⟨c, hop⟩ := hcall
    obtain ⟨dst, op, ty, pos, after, guard⟩ := o
    simp only at hop
    subst hop
    rcases cOp_call hc with h | ⟨k, e, sz, bytes, x, y, rfl, h⟩ | ⟨f, as, rfl, h, has⟩ | ⟨v, x, as, rfl, h, hx, has⟩
    · obtain ⟨e, h1, rfl⟩ := red h
      exact (simple_call c hc h1 hs.sim hd hG).toL hs
    · obtain ⟨callee, args, argTypes⟩ := c
      simp only at h
      subst h
      exact d_app hc he hs hd
    · obtain ⟨callee, args, argTypes⟩ := c
      simp only at h has
      subst h
      obtain ⟨m1, m2⟩ := args_rep hs.sim has
      refine d_inl (args := args.map a.eval) hI he hs hd (fun hen => by simp [execOp, resolve, Act.eval, Deferred.ofValue, invoke, run_callFunc hen]) (by simpa using m1) (fun j u v hj hv => ?_) fun u hu k hk => ?_
      · obtain ⟨x, hx, hrep, _⟩ := m2 j u hj
        have hx' : args[j]? = some x := by simpa using hx
        simp [hx'] at hv
        subst hv
        exact hrep
      · obtain ⟨j, hj⟩ := List.getElem?_of_mem hu
        obtain ⟨_, _, _, hk'⟩ := m2 j u hj
        exact hk' k hk
    · obtain ⟨callee, args, argTypes⟩ := c
      simp only at h has
      subst h
      obtain ⟨m1, m2⟩ := args_rep hs.sim has
      have hv := hs.sim.ev hx
      simp only [stepGo] at he
      split at he
      · rename_i f caps hxe
        rw [hxe] at hv
        obtain ⟨vs, hvs, hl, hcap⟩ := hv.1.fn_inv
        refine d_inl (args := args.map a.eval ++ vs) hI he hs hd (fun hen => ?_) (by simp; have := m1; simp at this; omega) (fun j u y hj hy => ?_) fun u hu k hk => ?_
        · simp [execOp, resolve, hvs, Deferred.ofValue, invoke, run_callFunc hen]
        · have hm : (List.map s.den.ev as).length = (args.map a.eval).size := by simpa using m1
          rcases Nat.lt_or_ge j (List.map s.den.ev as).length with lt | ge
          · rw [List.getElem?_append_left lt] at hj
            rw [Array.getElem?_append_left (by omega)] at hy
            obtain ⟨x, hx, hrep, _⟩ := m2 j u hj
            have hx' : args[j]? = some x := by simpa using hx
            simp [hx'] at hy
            subst hy
            exact hrep
          · rw [List.getElem?_append_right ge] at hj
            rw [Array.getElem?_append_right (by omega), ← hm] at hy
            exact hcap _ u y hj hy
        · rcases List.mem_append.1 hu with hu | hu
          · obtain ⟨j, hj⟩ := List.getElem?_of_mem hu
            obtain ⟨_, _, _, hk'⟩ := m2 j u hj
            exact hk' k hk
          · obtain ⟨j, hj⟩ := List.getElem?_of_mem hu
            exact hv.2 k (by simp only [AV.keys]; exact mem_keysL.2 ⟨j, u, hj, hk⟩)
      · cases he
  · obtain ⟨e, h1, rfl⟩ := red (cOp_simple hc fun c hop => hcall ⟨c, hop⟩)
    exact (eff_sound o aop e hc h1 hs.sim hd fun c hop => hcall ⟨c, hop⟩).toL hs

/-- One operation of a region. -/
theorem stepL_sound {ops : Array Oper} {i : Nat} {o : Oper} {aop : AOp} {g : Option (Nat × Bool)} {Q : Exit → Act → World → Prop} {K : Act → World → Prop} (hi : ops[i]? = some o) (hc : cOp P ks fid o = some aop) (hg : cGuard ops o.guard = some g)
    (he : stepL G ic ⟨o.dst, g, aop⟩ s = some s') (hs : SimL N B ok0 w0 E C s a w) (hd : ∀ x, o.dst = some x → x < N) (hG : GoodG P ks G) (hI : InlSound P ic)
    (hK : ∀ a' w', SimLX N B ok0 w0 E s' a' w' → K a' w') : wpOp P ops Q i K a w := by
  unfold wpOp
  simp only [hi]
  cases hgd : o.guard with
  | none =>
    rw [hgd] at hg
    cases hg
    simp only [Region.wanted, hgd, if_true]
    exact .inl (stepGo_sound hc he hs hd hG hI K Q hK)
  | some jw =>
    obtain ⟨j, want⟩ := jw
    rw [hgd] at hg
    simp only [cGuard] at hg
    split at hg
    case h_2 => cases hg
    rename_i d hd'
    cases hg
    simp only [stepL] at he
    have put : s' = { s with slots := putD s.slots o.dst (.tup []) } → K (a.put o.dst undef) w := fun he => by
      subst he
      refine hK _ _ ⟨C, ⟨?_, hs.own⟩⟩
      have := hs.sim.put (u := .tup []) (v := undef) hs.sim.h (fun _ _ => rfl) (fun _ h => h) (fun _ _ => rfl) (fun _ h => h) (.tup (vs := #[]) rfl (by simp)) (by simp [AV.keys, AV.keysL]) hd
      rw [den_of, aget_putD]
      exact this
    split at he
    case h_3 => cases he
    · rename_i b hb
      have hv : a.tmps[d]? = some (.bool b) := by
        have h1 := (hs.sim.slot d)
        rw [hb] at h1
        have h2 := h1.bool_inv
        rw [Array.getD_eq_getD_getElem?] at h2
        cases h3 : a.tmps[d]? with
        | none => rw [h3] at h2; cases h2
        | some x => rw [h3] at h2; simp at h2; rw [h2]
      have hy : yielded ops a.tmps j = some b := by simp [yielded, hd', hv]
      simp only [Region.wanted, hgd, hy]
      by_cases hbw : b = want
      · subst hbw
        rw [if_pos rfl] at he
        rw [if_pos (by simp)]
        exact .inl (stepGo_sound hc he hs hd hG hI K Q hK)
      · rw [if_neg hbw] at he
        rw [if_neg (by simp [hbw])]
        exact put (by cases he; rfl)
    · rename_i hb
      have hy : yielded ops a.tmps j = none := by
        have h1 := (hs.sim.slot d)
        rw [hb] at h1
        obtain ⟨vs, h2, h4, _⟩ := h1.tup_inv
        rw [Array.getD_eq_getD_getElem?] at h2
        simp only [yielded, hd', Option.bind_some]
        cases h3 : a.tmps[d]? with
        | none => rfl
        | some x => rw [h3] at h2; simp at h2; rw [h2]
      simp only [Region.wanted, hgd, hy]
      rw [if_neg (by simp)]
      exact put (by cases he; rfl)

end
end Go.Ev
