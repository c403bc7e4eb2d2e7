/- FROM THE PROGRAM'S FORM TO THE ABSTRACT MACHINE'S CODE: a checked translation, operation by operation. Conditions: none; definitions alone. -/
import Derived.Test.YtmjanbhmpbhagaaAm1
set_option linter.unusedVariables false
namespace Go.AM

def cval1 : Value → Option AV
  | .int k n => some (.int k n)
  | .bool b => some (.bool b)
  | .string s => some (.str s)
  | .pointer none => some .nilp
  | .slice none 0 0 => some .nils
  | .nilFunc => some .niln
  | _ => none
def cvals : List Value → Option (List AV)
  | [] => some []
  | v :: r => match cval1 v, cvals r with
    | some a, some l => some (a :: l)
    | _, _ => none
def cval : Value → Option AV
  | .agg cs => (cvals cs.toList).map .agg
  | v => cval1 v
def carg : Operand → Option AArg
  | .tmp t => some (.t t)
  | .const v => (cval v).map .c
  | .func f => some (.c (.fn f []))
  | .global _ => none
def cargs : List Operand → Option (List AArg)
  | [] => some []
  | x :: r => match carg x, cargs r with
    | some a, some l => some (a :: l)
    | _, _ => none
def copt : Option Operand → Option (Option AArg)
  | none => some none
  | some x => (carg x).map some

def zeroOf (P : Program) (t : TypeId) : Option (List AV) :=
  match P.info? t with
  | some i => match i.zero with
    | some z => cvals z.cells.toList
    | none => none
  | none => none

def aggOf (P : Program) (t : TypeId) : Bool :=
  match P.underlying t with
  | some (.struct _) | some (.array _ _) => true
  | _ => false

def cparts (place : Nat → Option (Nat × Nat)) : List (Nat × Operand) → Option (List (Nat × Nat × AArg))
  | [] => some []
  | (i, x) :: r => match place i, carg x, cparts place r with
    | some (o, n), some a, some l => some ((o, n, a) :: l)
    | _, _, _ => none

mutual
def planOf (P : Program) : Nat → TypeId → Option (List Leaf)
  | 0, _ => none
  | d + 1, t =>
    match P.underlying t with
    | some .bool => if P.cellsOf t = 1 then some [.bool] else none
    | some (.int _) => if P.cellsOf t = 1 then some [.int] else none
    | some .string => if P.cellsOf t = 1 then some [.str] else none
    | some (.array n e) =>
      match planOf P d e with
      | some p => if P.cellsOf e = p.length ∧ P.cellsOf t = n * p.length then some ((List.range n).flatMap fun _ => p) else none
      | none => none
    | some (.struct fs) =>
      if P.stoodInHeld t then none else
      match planFs P d fs.toList 0 with
      | some p => if P.cellsOf t = p.length then some p else none
      | none => none
    | _ => none
def planFs (P : Program) : Nat → List Field → Nat → Option (List Leaf)
  | 0, _, _ => none
  | d + 1, [], _ => some []
  | d + 1, f :: fs, o =>
    if f.name = "_" ∨ f.offset ≠ o then none else
    match planOf P d f.type with
    | some p =>
      if P.cellsOf f.type = p.length then
        match planFs P d fs (o + p.length) with
        | some q => some (p ++ q)
        | none => none
      else none
    | none => none
end

def sliceElem (P : Program) (t : TypeId) : Option (TypeId × TypeInfo) :=
  match P.underlying t with
  | some (.slice e) => (P.info? e).map fun i => (e, i)
  | _ => none

def isIntT (P : Program) (t : TypeId) : Bool := match P.underlying t with | some (.int _) => true | _ => false

def compEq (P : Program) (neg : Bool) (t : TypeId) (x y : AArg) : Option AOp :=
  match P.underlying t with
  | some (.int _) => some (.bin (if neg then .neq else .eql) x y)
  | some .bool | some .string => (planOf P 1 t).map fun p => .eqs neg false p x y
  | some (.struct _) | some (.array _ _) =>
    if P.eqGuardType P.depth t = false then (planOf P 40 t).map fun p => .eqs neg true p x y else none
  | some (.slice _) => some (.nileq neg .slice x y)
  | some (.pointer _) => some (.nileq neg .ptr x y)
  | some (.func _ _ _) => some (.nileq neg .fn x y)
  | _ => none

/-- Does a function answer with a slice? -/
def retSlice (P : Program) (f : Nat) : Bool :=
  match P.funcs[f]? with
  | some fn => fn.resultTypes.toList.any fun t => match P.underlying t with | some (.slice _) => true | _ => false
  | none => false

def compCall (P : Program) (q : Bool) (c : Call) : Option AOp :=
  match c.callee with
  | .value (.func f) => (cargs c.args.toList).map fun l => if (q && retSlice P f) = true then .callA f l else .call f l q
  | .value x => match carg x, cargs c.args.toList with
    | some f, some l => some (.callv f l q)
    | _, _ => none
  | .builtin .append =>
    match c.argTypes.toList, c.args.toList with
    | [t, u], [x, y] =>
      match sliceElem P t, P.underlying u, carg x, carg y with
      | some (e, i), some (.slice _), some x, some y => if t = u ∧ 0 < i.size ∧ 0 < i.bytes ∧ (i.zero.map (·.cells.size)) = some i.size then some (.append i.size i.bytes x y) else none
      | _, _, _, _ => none
    | _, _ => none
  | .builtin .len =>
    match c.argTypes.toList, c.args.toList with
    | [t], [x] => match P.underlying t, carg x with
      | some (.slice _), some x => some (.len x)
      | _, _ => none
    | _, _ => none
  | .builtin .copy =>
    match c.argTypes.toList, c.args.toList with
    | [t, u], [x, y] => match sliceElem P t, P.underlying u, carg x, carg y with
      | some (_, i), some (.slice _), some x, some y => some (.copy i.size x y)
      | _, _, _, _ => none
    | _, _ => none
  | .builtin .max => (cargs c.args.toList).map fun l => .minmax true l
  | .builtin .min => (cargs c.args.toList).map fun l => .minmax false l
  | _ => none

def compOp (P : Program) (q : Bool) (o : Op) : Option AOp :=
  match o with
  | .move x | .assign x => (carg x).map .mov
  | .pick c a b => match carg c, carg a, carg b with
    | some c, some a, some b => some (.pick c a b)
    | _, _, _ => none
  | .alloc t => (zeroOf P t).map .alloc
  | .box t x => (carg x).map .box
  | .build t ps =>
    match P.underlying t, zeroOf P t with
    | some (.struct fs), some zs =>
      if fs.all (fun f => (P.info? f.type).isSome) then
        (cparts (fun i => (fs[i]?).map fun f => (f.offset, P.cellsOf f.type)) ps.toList).map fun l => .build zs l
      else none
    | some (.array _ e), some zs =>
      if (P.info? e).isSome then (cparts (fun i => some (i * P.cellsOf e, P.cellsOf e)) ps.toList).map fun l => .build zs l else none
    | _, _ => none
  | .buildSlice t n ps =>
    match sliceElem P t with
    | some (e, i) => match zeroOf P e with
      | some z =>
        if n * i.size ≤ 16777216 ∧ z.length = i.size then
          (cparts (fun j => some (j * i.size, i.size)) ps.toList).map fun l => .bslice i.size n ((List.range (n * i.size)).map fun j => z.getD (j % z.length) .undef) l
        else none
      | none => none
    | none => none
  | .load t a => match P.info? t, P.underlying t, carg a with
    | some i, some _, some a => some (.load (aggOf P t) i.size a)
    | _, _, _ => none
  | .store t a x => match P.info? t, carg a, carg x with
    | some i, some a, some x => some (.store i.size a x)
    | _, _, _ => none
  | .nilCheck x => (carg x).map .nilchk
  | .binOp op t x y _ =>
    match carg x, carg y with
    | some x, some y => match op with
      | .eql => compEq P false t x y
      | .neq => compEq P true t x y
      | op => some (.bin op x y)
    | _, _ => none
  | .unOp op _ x => (carg x).map fun x => .un op x
  | .convert s d x =>
    match P.underlying s, P.underlying d, carg x with
    | some (.int _), some (.int k), some x => some (.conv k x)
    | _, _, _ => none
  | .makeFunc (.func f) first caps => if first.size = 0 then (cargs caps.toList).map fun l => .mkfn f l else none
  | .makeSlice t l c =>
    match sliceElem P t, carg l, carg c with
    | some (e, i), some l, some c => match zeroOf P e with
      | some z => if z.length = i.size ∧ 0 < i.size then some (.mkslice i.size i.bytes z l c) else none
      | none => none
    | _, _, _ => none
  | .slice t x lo hi mx =>
    match sliceElem P t, carg x, copt lo, copt hi, copt mx with
    | some (_, i), some x, some lo, some hi, some mx => some (.slice i.size x lo hi mx)
    | _, _, _, _, _ => none
  | .fieldAddr s x f =>
    match P.underlying s, carg x with
    | some (.struct fs), some x => match fs[f]? with
      | some fd => if (P.info? fd.type).isSome ∧ P.cellsOf fd.type ≠ 0 then some (.padd fd.offset x) else none
      | none => none
    | _, _ => none
  | .indexAddr t x i =>
    match P.underlying t, carg x, carg i with
    | some (.array n e), some x, some i => if (P.info? e).isSome then some (.iaddrA n (P.cellsOf e) x i) else none
    | some (.slice e), some x, some i => if (P.info? e).isSome then some (.iaddrS (P.cellsOf e) x i) else none
    | _, _, _ => none
  | .index t x i =>
    match P.underlying t, carg x, carg i with
    | some (.array n e), some x, some i => if (P.info? e).isSome ∧ (P.underlying e).isSome then some (.index n (P.cellsOf e) (aggOf P e) x i) else none
    | some .string, some x, some i => some (.sidx x i)
    | _, _, _ => none
  | .extract x i => (carg x).map fun x => .extract x i
  | .call c => compCall P q c
  | .field s x f =>
    match P.underlying s, carg x with
    | some (.struct fs), some x => match fs[f]? with
      | some fd => if (P.info? fd.type).isSome ∧ (P.underlying fd.type).isSome then some (.fld fd.offset (P.cellsOf fd.type) (aggOf P fd.type) x) else none
      | none => none
    | _, _ => none
  | _ => none

/-- What an operation does with memory: nothing; it asks whether a reference lives; it loads; it stores; it makes a block; it calls and leaves all as it was; any other thing. -/
inductive Cls where
  | pure | val | load | store | make | quiet | adds | loud
  deriving DecidableEq, Inhabited
def AOp.cls : AOp → Cls
  | .alloc _ | .box _ | .bslice .. | .mkslice .. => .make
  | .store .. => .store
  | .append .. | .copy .. => .loud
  | .callA .. => .adds
  | .call _ _ q | .callv _ _ q => if q then .quiet else .loud
  | .load .. => .load
  | .nilchk _ | .nileq .. | .slice .. | .padd .. | .iaddrA .. | .iaddrS .. | .len _ => .val
  | _ => .pure
/-- May the second be done ahead of the first? -/
def Cls.ok : Cls → Cls → Bool
  | .pure, _ | _, .pure => true
  | .val, .val | .val, .load | .load, .val | .load, .load | .quiet, .quiet | .quiet, .val | .val, .quiet | .quiet, .load | .load, .quiet => true
  | .val, .make | .load, .make | .val, .adds | .load, .adds => true
  | .val, .store | .store, .val => true
  | _, _ => false

def AArg.tmps : AArg → List Nat
  | .t n => [n]
  | .c _ => []
def optTmps : Option AArg → List Nat
  | some x => x.tmps
  | none => []
def AOp.tmps : AOp → List Nat
  | .mov x | .box x | .nilchk x | .un _ x | .conv _ x | .padd _ x | .extract x _ | .len x | .load _ _ x | .fld _ _ _ x => x.tmps
  | .pick c a b => c.tmps ++ (a.tmps ++ b.tmps)
  | .alloc _ => []
  | .build _ ps | .bslice _ _ _ ps => ps.flatMap fun p => p.2.2.tmps
  | .sidx a x | .store _ a x | .bin _ a x | .eqs _ _ _ a x | .nileq _ _ a x | .mkslice _ _ _ a x | .iaddrA _ _ a x | .iaddrS _ a x | .index _ _ _ a x | .append _ _ a x | .copy _ a x => a.tmps ++ x.tmps
  | .mkfn _ l | .call _ l _ | .callA _ l | .minmax _ l => l.flatMap AArg.tmps
  | .callv f l _ => f.tmps ++ l.flatMap AArg.tmps
  | .slice _ x lo hi mx => x.tmps ++ (optTmps lo ++ (optTmps hi ++ optTmps mx))
def GOp.tmps (o : GOp) : List Nat := (match o.g with | some (t, _) => [t] | none => []) ++ o.op.tmps

/-- Neither writes what the other names. -/
def GOp.dsep (x y : GOp) : Bool :=
  (match x.d with | some d => !(y.tmps.contains d) && y.d != some d | none => true) &&
  (match y.d with | some d => !(x.tmps.contains d) | none => true)
def AOp.addr : AOp → Option Nat
  | .load _ _ (.t a) => some a
  | .store _ (.t a) _ => some a
  | _ => none
/-- A load and a store that must be of different blocks. -/
def GOp.needs (x y : GOp) : Option (Nat × Nat) :=
  match x.op.cls, y.op.cls with
  | .load, .store | .store, .load => match x.op.addr, y.op.addr with
    | some a, some b => some (a, b)
    | _, _ => none
  | _, _ => none
def GOp.indep (ap : List (Nat × Nat)) (x y : GOp) : Bool :=
  x.dsep y && (x.op.cls.ok y.op.cls || (match x.needs y with | some p => ap.any fun q => q.1 == p.1 && q.2 == p.2 | none => false))

/-- Which operations must come ahead of each, as bits. -/
def beforeMask (o : Oper) (acc : List Nat) : Nat :=
  o.after.toList.foldl (fun s e => if Region.binds .any e then s ||| 2 ^ e.on ||| acc.getD e.on 0 else s) 0
def beforeL : List Nat → List Oper → List Nat
  | acc, [] => acc
  | acc, o :: r => beforeL (acc ++ [beforeMask o acc]) r

def compGuard (ops : Array Oper) (o : Oper) : Option (Option (Nat × Bool)) :=
  match o.guard with
  | none => some none
  | some (j, want) => match ops[j]? with
    | some p => match p.dst with
      | some t => some (some (t, want))
      | none => none
    | none => none

def storeLike : AOp → Bool
  | .store .. => true
  | _ => false

def dstOk (nt : Nat) (a : AOp) : Option Nat → Bool
  | some d => decide (d < nt) && !storeLike a
  | none => storeLike a

def compOper (P : Program) (nt : Nat) (q : Bool) (ops : Array Oper) (o : Oper) : Option GOp :=
  match compGuard ops o, compOp P q o.op with
  | some g, some a =>
    if dstOk nt a o.dst = true then some { g := g, d := o.dst, op := a } else none
  | _, _ => none

def compOpers (P : Program) (nt : Nat) (ops : Array Oper) : List (Bool × Oper) → Option (List GOp)
  | [] => some []
  | (q, o) :: r => match compOper P nt q ops o, compOpers P nt ops r with
    | some a, some l => some (a :: l)
    | _, _ => none

/-- In a region that draws: of every two operations the order is fixed, or does not matter; every edge leads back; an address is not written behind its use. -/
def drawOk (l : List Oper) (g : List GOp) (ap : List (Nat × Nat)) : Bool :=
  let B := beforeL [] l
  (List.range l.length).all fun j =>
    ((l.getD j default).after.toList.all fun e => !Region.binds .any e || decide (e.on < j)) &&
    (ap.isEmpty || (List.range (j + 1)).all fun i => match (g.getD i default).op.addr with | some a => (g.getD j default).d != some a | none => true) &&
    (List.range j).all fun i => (B.getD j 0).testBit i || (g.getD i default).indep ap (g.getD j default)

/-- Calls of a drawing region: quiet, but where all that touches memory is ordered about them. -/
def quietFlags (P : Program) (nt : Nat) (ops : Array Oper) : Option (List (Bool × Oper)) :=
  let l := ops.toList
  match compOpers P nt ops (l.map fun o => (true, o)) with
  | none => none
  | some g =>
    let B := beforeL [] l
    some (l.zipIdx.map fun (o, i) =>
      ((List.range l.length).any fun j => i != j && (g.getD j default).op.cls != .pure && !(if i < j then (B.getD j 0).testBit i else (B.getD i 0).testBit j), o))

/-- The loads and stores that are not ordered. -/
def pairsOf (l : List Oper) (g : List GOp) : List (Nat × Nat) :=
  let B := beforeL [] l
  (List.range l.length).flatMap fun j => (List.range j).flatMap fun i =>
    if (B.getD j 0).testBit i || (g.getD i default).op.cls.ok (g.getD j default).op.cls then [] else match (g.getD i default).needs (g.getD j default) with | some p => [p] | none => []

/-- An order that puts off what makes memory. -/
def greedy (B : List Nat) (ex : Nat → Nat) (late : Nat → Bool) : Nat → Nat → List Nat → List Nat
  | 0, _, rem => rem
  | fuel + 1, m, rem =>
    let free := fun i => ((B.getD i 0 ||| ex i) ||| m) == m
    match (rem.find? fun i => !late i && free i) with
    | some i => i :: greedy B ex late fuel (m ||| 2 ^ i) (rem.erase i)
    | none => match rem.find? free with
      | some i => i :: greedy B ex late fuel (m ||| 2 ^ i) (rem.erase i)
      | none => rem

/-- Every two in the order in which they stand. -/
def pairsOk (f : Nat → Nat → Bool) : List Nat → Bool
  | [] => true
  | k :: r => r.all (f k) && pairsOk f r
def badPair (f : Nat → Nat → Bool) : List Nat → Option (Nat × Nat)
  | [] => none
  | k :: r => match r.find? fun i => !f k i with
    | some i => some (k, i)
    | none => badPair f r
def pairOk (l : List Oper) (g : List GOp) (sp : Option (Nat × Nat)) (k i : Nat) : Bool :=
  ((beforeL [] l).getD i 0).testBit k || (g.getD k default).indep [] (g.getD i default) || sp == some (k, i)
/-- An order of the operations' own: a rearrangement of all, each edge leads back, what stands in it the other way than it may be done is ordered. -/
def drawOkO (l : List Oper) (g : List GOp) (ord : List Nat) (sp : Option (Nat × Nat)) : Bool :=
  (ord.all fun i => decide (i < l.length)) && ((List.range l.length).all fun i => ord.contains i) && decide ord.Nodup &&
  (l.zipIdx.all fun p => p.1.after.toList.all fun e => !Region.binds .any e || decide (e.on < p.2)) &&
  pairsOk (pairOk l g sp) ord
def lateOp (g : List GOp) (i : Nat) : Bool := match (g.getD i default).op.cls with | .make | .adds => true | _ => false
/-- Two of an order, side by side. -/
def beside (a b : Nat) : List Nat → Option (List Nat × List Nat)
  | x :: y :: r => if x = a ∧ y = b then some ([], r) else (beside a b (y :: r)).map fun p => (x :: p.1, p.2)
  | _ => none
def at2 (g : List GOp) (l : List Nat) : List GOp := l.map fun i => g.getD i default

def compOrd (l : List Oper) (g : List GOp) : Option ACode :=
  let B := beforeL [] l
  let n := l.length
  let o := greedy B (fun _ => 0) (lateOp g) n 0 (List.range n)
  if drawOkO l g o none = true then some (.ops (at2 g o))
  else match badPair (pairOk l g none) o with
    | none => none
    | some (a, b) =>
      let oA := greedy B (fun i => if i = b then 2 ^ a else if (B.getD i 0).testBit a then 2 ^ b else 0) (fun i => (lateOp g i && i != b) || i == a) n 0 (List.range n)
      match beside a b oA with
      | none => none
      | some (pre, post) =>
        if drawOkO l g (pre ++ a :: b :: post) (some (a, b)) = true ∧ drawOkO l g (pre ++ b :: a :: post) (some (b, a)) = true then
          some (.seq (.ops (at2 g pre)) (.seq (if (g.getD a default).op.cls = .quiet ∨ (g.getD b default).op.cls = .quiet then .swap (g.getD a default) (g.getD b default) else .alt (g.getD a default) (g.getD b default)) (.ops (at2 g post))))
        else none

def compRegion (P : Program) (nt : Nat) (ops : Array Oper) (draw : Bool) : Option ACode :=
  if draw then
    match quietFlags P nt ops with
    | some l => match compOpers P nt ops l with
      | some g =>
        if drawOk ops.toList g (pairsOf ops.toList g) = true then some (if (pairsOf ops.toList g).isEmpty then .ops g else .opsD g (pairsOf ops.toList g))
        else compOrd ops.toList g
      | none => none
    | none => none
  else (compOpers P nt ops (ops.toList.map fun o => (false, o))).map .ops

def compCode (P : Program) (nt : Nat) : Code → Option ACode
  | .skip => some .skip
  | .region _ ops draw => compRegion P nt ops draw
  | .seq a b => match compCode P nt a, compCode P nt b with
    | some a, some b => some (.seq a b)
    | _, _ => none
  | .cond c a b => match carg c, compCode P nt a, compCode P nt b with
    | some c, some a, some b => some (.cond c a b)
    | _, _, _ => none
  | .block id c => (compCode P nt c).map fun c => .block id c
  | .loop c => (compCode P nt c).map .loop
  | .exit id => some (.exit id)
  | .ret => some .ret
  | .label l => some (.label l)
  | .goto l => some (.goto l)
  | .scope (.seq a (.seq (.label l) b)) => if (findLabel a l).isNone = true then (match compCode P nt a, compCode P nt b with
    | some a, some b => some (.jump l a b)
    | _, _ => none) else none
  | _ => none

def compRes (P : Program) : List ResultVar → Option (List ARes)
  | [] => some []
  | r :: rs => match (match r with
      | .tmp t => some (ARes.tmp t)
      | .cell a t => if (P.underlying t).isSome then (P.info? t).map fun i => ARes.cell a i.size (aggOf P t) else none), compRes P rs with
    | some a, some l => some (a :: l)
    | _, _ => none

def compFunc (P : Program) (m : RetMode) (fn : Func) : Option AFunc :=
  match fn.body with
  | some c => match compCode P fn.ntmps c, compRes P fn.results.toList with
    | some b, some rs => if fn.params.size + fn.nfree ≤ fn.ntmps then some { np := fn.params.size + fn.nfree, nt := fn.ntmps, res := rs, mode := m, body := b } else none
    | _, _ => none
  | none => none

end Go.AM
