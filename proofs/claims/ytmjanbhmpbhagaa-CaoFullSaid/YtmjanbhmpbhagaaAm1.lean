/- THE ABSTRACT MACHINE: a deterministic evaluator over values and lists, for the part of the program's form that the seat's functions use. Conditions: none; definitions and plain lemmas. -/
import Derived.CallsIn
set_option linter.unusedVariables false
namespace Go.AM

inductive AV where
  | int (k : IntKind) (n : Int)
  | bool (b : Bool)
  | str (s : ByteArray)
  | ptr (id ver off : Nat)
  | nilp
  | sl (id ver off len : Nat) (lim : Bool)
  | nils
  | fn (f : Nat) (caps : List AV)
  | yld (id : Nat)
  | niln
  | agg (cs : List AV)
  | tup (vs : List AV)
  | undef
  deriving Inhabited

/-- A value without references. -/
def AV.flat1 : AV → Bool
  | .int .. | .bool _ | .str _ | .nilp | .nils | .niln | .undef => true
  | _ => false
mutual
def AV.flat : AV → Bool
  | .int .. | .bool _ | .str _ | .nilp | .nils | .niln | .undef => true
  | .fn _ cs => flats cs
  | .agg cs => flats cs
  | .tup vs => flats vs
  | _ => false
def AV.flats : List AV → Bool
  | [] => true
  | c :: r => c.flat && AV.flats r
end

inductive AArg where
  | t (n : Nat)
  | c (v : AV)
  deriving Inhabited

inductive Leaf where
  | int | bool | str
  deriving DecidableEq, Inhabited

inductive NilKind where
  | ptr | slice | fn
  deriving DecidableEq, Inhabited

inductive AOp where
  | mov (x : AArg)
  | pick (c a b : AArg)
  | alloc (zs : List AV)
  | box (x : AArg)
  | build (zs : List AV) (parts : List (Nat × Nat × AArg))
  | bslice (sz n : Nat) (zs : List AV) (parts : List (Nat × Nat × AArg))
  | load (agg : Bool) (n : Nat) (a : AArg)
  | store (n : Nat) (a x : AArg)
  | nilchk (x : AArg)
  | bin (op : BinOp) (x y : AArg)
  | eqs (neg agg : Bool) (plan : List Leaf) (x y : AArg)
  | nileq (neg : Bool) (k : NilKind) (x y : AArg)
  | un (op : UnOp) (x : AArg)
  | conv (k : IntKind) (x : AArg)
  | mkfn (f : Nat) (caps : List AArg)
  | mkslice (sz bytes : Nat) (zs : List AV) (l c : AArg)
  | slice (sz : Nat) (x : AArg) (lo hi mx : Option AArg)
  | padd (off : Nat) (x : AArg)
  | iaddrA (len sz : Nat) (x i : AArg)
  | iaddrS (sz : Nat) (x i : AArg)
  | index (len sz : Nat) (agg : Bool) (x i : AArg)
  | sidx (x i : AArg)
  | fld (off n : Nat) (agg : Bool) (x : AArg)
  | extract (x : AArg) (i : Nat)
  | call (f : Nat) (args : List AArg) (q : Bool)
  | callv (f : AArg) (args : List AArg) (q : Bool)
  | callA (f : Nat) (args : List AArg)
  | append (sz bytes : Nat) (x y : AArg)
  | len (x : AArg)
  | copy (sz : Nat) (x y : AArg)
  | minmax (mx : Bool) (args : List AArg)
  deriving Inhabited

structure GOp where
  g : Option (Nat × Bool)
  d : Option Nat
  op : AOp
  deriving Inhabited

inductive ACode where
  | skip
  | ops (l : List GOp)
  | opsD (l : List GOp) (apart : List (Nat × Nat))
  | swap (x y : GOp)
  | alt (x y : GOp)
  | seq (a b : ACode)
  | cond (c : AArg) (a b : ACode)
  | block (id : Nat) (c : ACode)
  | loop (c : ACode)
  | exit (id : Nat)
  | scope (c : ACode)
  | again (l : Nat) (c : ACode)
  | jump (l : Nat) (a c : ACode)
  | label (l : Nat)
  | goto (l : Nat)
  | ret
  deriving Inhabited

inductive ARes where
  | tmp (t : Nat)
  | cell (t n : Nat) (agg : Bool)
  deriving Inhabited

inductive RetMode where
  | flat | slices | raw
  deriving DecidableEq, Inhabited

structure AFunc where
  np : Nat
  nt : Nat
  res : List ARes
  mode : RetMode
  body : ACode
  deriving Inhabited

inductive Blk where
  | ro (cells : List AV)
  | rw (ver sz : Nat) (cells : List AV)
  deriving Inhabited

abbrev Heap := List Blk
abbrev Env := Nat → AV

def Blk.ver : Blk → Nat
  | .ro _ => 0
  | .rw v _ _ => v
def Blk.cells : Blk → List AV
  | .ro c => c
  | .rw _ _ c => c

/-- The cells of a live reference. -/
def Heap.cells (H : Heap) (id ver : Nat) : Option (List AV) :=
  match H[id]? with
  | some b => if b.ver = ver then some b.cells else none
  | none => none

def Env.set (e : Env) (k : Nat) (v : AV) : Env := fun j => if j = k then v else e j
def Env.put (e : Env) (d : Option Nat) (v : AV) : Env := match d with | some k => Env.set e k v | none => e
def Env.ofList (l : List AV) : Env := fun j => l.getD j .undef

def AArg.ev (e : Env) : AArg → AV
  | .t n => e n
  | .c v => v

def bitsOp (op : BinOp) (k : IntKind) (x y : Int) : Option Int :=
  let a := BitVec.ofInt k.bits x
  let b := BitVec.ofInt k.bits y
  match op with
  | .and => some (k.wrap (a &&& b).toNat)
  | .or => some (k.wrap (a ||| b).toNat)
  | .xor => some (k.wrap (a ^^^ b).toNat)
  | .andNot => some (k.wrap (a &&& ~~~b).toNat)
  | _ => none

def binI (op : BinOp) (k : IntKind) (a b : Int) : Option AV :=
  match op with
  | .add => some (.int k (k.wrap (a + b)))
  | .sub => some (.int k (k.wrap (a - b)))
  | .mul => some (.int k (k.wrap (a * b)))
  | .quo => if b = 0 then none else some (.int k (k.wrap (a.tdiv b)))
  | .rem => if b = 0 then none else some (.int k (a.tmod b))
  | .and => some (.int k (k.wrap (BitVec.ofInt k.bits a &&& BitVec.ofInt k.bits b).toNat))
  | .or => some (.int k (k.wrap (BitVec.ofInt k.bits a ||| BitVec.ofInt k.bits b).toNat))
  | .xor => some (.int k (k.wrap (BitVec.ofInt k.bits a ^^^ BitVec.ofInt k.bits b).toNat))
  | .andNot => some (.int k (k.wrap (BitVec.ofInt k.bits a &&& ~~~(BitVec.ofInt k.bits b)).toNat))
  | .eql => some (.bool (a == b))
  | .neq => some (.bool (a != b))
  | .lss => some (.bool (decide (a < b)))
  | .leq => some (.bool (decide (a ≤ b)))
  | .gtr => some (.bool (decide (a > b)))
  | .geq => some (.bool (decide (a ≥ b)))
  | .shl => if b < 0 then none else some (.int k (k.wrap (a * 2 ^ (min b.toNat k.bits))))
  | .shr => if b < 0 then none else some (.int k (a.fdiv (2 ^ (min b.toNat k.bits))))

def binV (op : BinOp) (x y : AV) : Option AV :=
  match x, y with
  | .int k a, .int k' b =>
    match op with
    | .shl => binI .shl k a b
    | .shr => binI .shr k a b
    | _ => if k = k' then binI op k a b else none
  | _, _ => none

def unV (op : UnOp) (x : AV) : Option AV :=
  match op, x with
  | .neg, .int k n => some (.int k (k.wrap (0 - n)))
  | .xor, .int k n => some (.int k (k.wrap (BitVec.ofInt k.bits (if k.signed then -1 else k.max) ^^^ BitVec.ofInt k.bits n).toNat))
  | .not, .bool b => some (.bool !b)
  | _, _ => none

def eqLeaf : Leaf → AV → AV → Option Bool
  | .int, .int k a, .int k' b => if k = k' then some (a == b) else none
  | .bool, .bool a, .bool b => some (a == b)
  | .str, .str a, .str b => some (a == b)
  | _, _, _ => none
def eqLeaves : List Leaf → List AV → List AV → Option Bool
  | [], [], [] => some true
  | l :: ls, x :: xs, y :: ys =>
    match eqLeaf l x y, eqLeaves ls xs ys with
    | some a, some b => some (a && b)
    | _, _ => none
  | _, _, _ => none
def eqV (agg : Bool) (plan : List Leaf) (x y : AV) : Option Bool :=
  match agg, x, y with
  | true, .agg xs, .agg ys => eqLeaves plan xs ys
  | false, x, y => eqLeaves plan [x] [y]
  | _, _, _ => none

def okRef (H : Heap) : AV → Bool
  | .ptr id ver _ => (H.cells id ver).isSome
  | .sl id ver _ _ _ => (H.cells id ver).isSome
  | _ => true

def nileqV (H : Heap) (k : NilKind) (x y : AV) : Option Bool :=
  match k, x, y with
  | .slice, .nils, .nils => some true
  | .slice, .nils, .sl id ver o l m | .slice, .sl id ver o l m, .nils => if (H.cells id ver).isSome then some false else none
  | .ptr, .nilp, .nilp => some true
  | .ptr, .nilp, .ptr id ver o | .ptr, .ptr id ver o, .nilp => if (H.cells id ver).isSome then some false else none
  | .fn, .niln, .niln => some true
  | .fn, .niln, .fn .. | .fn, .fn .., .niln => some false
  | _, _, _ => none

def putCells : List AV → Nat → List AV → List AV
  | cs, _, [] => cs
  | cs, o, v :: vs => putCells (cs.set o v) (o + 1) vs

def AV.cellsOf : AV → Option (List AV)
  | .agg cs => some cs
  | .tup _ | .undef | .yld _ => none
  | v => some [v]

/-- Parts into cells. -/
def fillCells (e : Env) : List AV → List (Nat × Nat × AArg) → Option (List AV)
  | cs, [] => some cs
  | cs, (o, n, x) :: r =>
    match (x.ev e).cellsOf with
    | some vs => if vs.length = n ∧ o + n ≤ cs.length then fillCells e (putCells cs o vs) r else none
    | none => none

def rdCells (cs : List AV) (agg : Bool) (o n : Nat) : Option AV :=
  if agg then (if o + n ≤ cs.length then some (.agg ((cs.drop o).take n)) else none) else cs[o]?

def loadV (H : Heap) (agg : Bool) (n : Nat) : AV → Option AV
  | .ptr id ver o =>
    match H.cells id ver with
    | some cs => rdCells cs agg o n
    | none => none
  | _ => none

def Heap.write (H : Heap) (lim : Nat) (id ver o : Nat) (vs : List AV) : Option Heap :=
  match H[id]? with
  | some (.rw ver' sz cs) =>
    if ver' = ver ∧ o + vs.length ≤ cs.length ∧ (id < lim → AV.flats vs = true) then some (H.set id (.rw ver' sz (putCells cs o vs))) else none
  | _ => none

def storeV (H : Heap) (lim n : Nat) (a x : AV) : Option Heap :=
  match a, x.cellsOf with
  | .ptr id ver o, some vs => if vs.length = n then H.write lim id ver o vs else none
  | _, _ => none

def Heap.slOk (H : Heap) (id ver sz : Nat) : Bool :=
  match H[id]? with
  | some (.ro _) => ver == 0
  | some (.rw v s _) => v == ver && s == sz
  | none => false

def sliceBnd (x : AV) (y : Nat) : Option Nat :=
  match x with
  | .int _ i => if 0 ≤ i ∧ i ≤ y then some i.toNat else none
  | _ => none

def sliceV (H : Heap) (sz : Nat) (x : AV) (lo hi mx : Option AV) : Option AV :=
  match x with
  | .nils =>
    (match mx with | some m => sliceBnd m 0 | none => some 0).bind fun _ =>
    (match hi with | some h => sliceBnd h 0 | none => if mx.isSome then none else some 0).bind fun _ =>
    (match lo with | some l => sliceBnd l 0 | none => some 0).bind fun _ => some .nils
  | .sl id ver off len lim =>
    if H.slOk id ver sz then
    (match mx with | some m => (sliceBnd m len).map some | none => some none).bind fun m =>
    (match hi with | some h => sliceBnd h (m.getD len) | none => if m.isSome then none else some len).bind fun h =>
    (match lo with | some l => sliceBnd l h | none => some 0).bind fun l =>
      some (.sl id ver (off + l * sz) (h - l) (match m with | some m => m == h | none => lim && h == len))
    else none
  | _ => none

/-- The cells that a slice shows. -/
def srcCells (H : Heap) (sz : Nat) (n : Nat) : AV → Option (List AV)
  | .nils => if n = 0 then some [] else none
  | .sl id ver off len _ =>
    match H.cells id ver with
    | some cs => if n ≤ len ∧ off + n * sz ≤ cs.length then some ((cs.drop off).take (n * sz)) else none
    | none => none
  | _ => none

def AV.slen : AV → Option Nat
  | .nils => some 0
  | .sl _ _ _ l _ => some l
  | _ => none

def appendV (H : Heap) (lim sz bytes : Nat) (x y : AV) : Option (AV × Heap) :=
  match y.slen with
  | none => none
  | some m =>
    match srcCells H sz m y with
    | none => none
    | some ys =>
      match x with
      | .nils =>
        if m = 0 then some (.nils, H)
        else if m * bytes ≤ 140737488355328 then some (.sl H.length 0 0 m false, H ++ [.rw 0 sz ys])
        else none
      | .sl id ver off len l =>
        match srcCells H sz len x with
        | none => none
        | some xs =>
          if (len + m) * bytes ≤ 140737488355328 then
            if m = 0 then some (x, H)
            else if l then some (.sl H.length 0 0 (len + m) false, H ++ [.rw 0 sz (xs ++ ys)])
            else
              match H[id]? with
              | some (.rw ver' sz' cs) =>
                if off = 0 ∧ sz' = sz ∧ (id < lim → AV.flats ys = true) then some (.sl id (ver + 1) 0 (len + m) false, H.set id (.rw (ver + 1) sz (xs ++ ys)))
                else none
              | _ => none
          else none
      | _ => none

def lenV (H : Heap) : AV → Option AV
  | .nils => some (.int .i64 0)
  | .sl id ver _ len _ => if (H.cells id ver).isSome then some (.int .i64 len) else none
  | _ => none

def copyV (H : Heap) (lim sz : Nat) (x y : AV) : Option (AV × Heap) :=
  match x.slen, y.slen with
  | some a, some b =>
    let n := min b a
    match srcCells H sz n y with
    | none => none
    | some ys =>
      match x with
      | .nils => some (.int .i64 n, H)
      | .sl id ver off _ _ => (H.write lim id ver off ys).map fun H' => (.int .i64 n, H')
      | _ => none
  | _, _ => none

def mm2 (mx : Bool) (x y : AV) : Option AV :=
  match x, y with
  | .int k a, .int _ b => some (.int k (if mx then (if b > a then b else a) else (if b < a then b else a)))
  | _, _ => none
def mmV (mx : Bool) : List AV → Option AV
  | [] => none
  | x :: r => r.foldlM (mm2 mx) x

def mkSliceV (H : Heap) (sz bytes : Nat) (zs : List AV) (l c : AV) : Option (AV × Heap) :=
  match l, c with
  | .int _ l, .int _ c =>
    if 0 ≤ l ∧ l ≤ c ∧ c * bytes ≤ 140737488355328 ∧ c ≤ 140737488355328 then
      some (.sl H.length 0 0 l.toNat (l == c), H ++ [.rw 0 sz (List.replicate l.toNat zs).flatten])
    else none
  | _, _ => none

abbrev Oracle := Nat → Nat → List AV → Heap → Option (AV × Heap)

open Classical in
noncomputable def quietly (q : Bool) (H : Heap) (r : Option (AV × Heap)) : Option (AV × Heap) :=
  r.bind fun x => if q = true then (if x.2 = H then some x else none) else some x

open Classical in
/-- A call that leaves what was there as it was. -/
noncomputable def growing (H : Heap) (r : Option (AV × Heap)) : Option (AV × Heap) :=
  r.bind fun x => if ∃ L, x.2 = H ++ L then some x else none

open Classical in
noncomputable def stepOp (C : Oracle) (lim : Nat) (o : AOp) (e : Env) (H : Heap) : Option (AV × Heap) :=
  match o with
  | .mov x => some (x.ev e, H)
  | .pick c a b => match c.ev e with | .bool t => some (if t then a.ev e else b.ev e, H) | _ => none
  | .alloc zs => some (.ptr H.length 0 0, H ++ [.rw 0 zs.length zs])
  | .box x => (x.ev e).cellsOf.map fun cs => (.ptr H.length 0 0, H ++ [.rw 0 cs.length cs])
  | .build zs ps => (fillCells e zs ps).map fun cs => (.agg cs, H)
  | .bslice sz n zs ps => (fillCells e zs ps).map fun cs => (.sl H.length 0 0 n true, H ++ [.rw 0 sz cs])
  | .load agg n a => (loadV H agg n (a.ev e)).map fun v => (v, H)
  | .store n a x => (storeV H lim n (a.ev e) (x.ev e)).map fun H' => (.undef, H')
  | .nilchk x => match x.ev e with
    | .ptr id ver o => if (H.cells id ver).isSome then some (.ptr id ver o, H) else none
    | .fn f cs => some (.fn f cs, H)
    | _ => none
  | .bin op x y => (binV op (x.ev e) (y.ev e)).map fun v => (v, H)
  | .eqs neg agg plan x y => (eqV agg plan (x.ev e) (y.ev e)).map fun b => (.bool (b != neg), H)
  | .nileq neg k x y => (nileqV H k (x.ev e) (y.ev e)).map fun b => (.bool (b != neg), H)
  | .un op x => (unV op (x.ev e)).map fun v => (v, H)
  | .conv k x => match x.ev e with | .int _ n => some (.int k (k.wrap n), H) | _ => none
  | .mkfn f caps => some (.fn f (caps.map (·.ev e)), H)
  | .mkslice sz bytes zs l c => mkSliceV H sz bytes zs (l.ev e) (c.ev e)
  | .slice sz x lo hi mx => (sliceV H sz (x.ev e) (lo.map (·.ev e)) (hi.map (·.ev e)) (mx.map (·.ev e))).map fun v => (v, H)
  | .padd off x => match x.ev e with
    | .ptr id ver o => if (H.cells id ver).isSome then some (.ptr id ver (o + off), H) else none
    | _ => none
  | .iaddrA len sz x i => match x.ev e, i.ev e with
    | .ptr id ver o, .int _ i => if (H.cells id ver).isSome ∧ 0 ≤ i ∧ i < len then some (.ptr id ver (o + i.toNat * sz), H) else none
    | _, _ => none
  | .iaddrS sz x i => match x.ev e, i.ev e with
    | .sl id ver o len _, .int _ i => if (H.cells id ver).isSome ∧ 0 ≤ i ∧ i < len then some (.ptr id ver (o + i.toNat * sz), H) else none
    | _, _ => none
  | .index len sz agg x i => match x.ev e, i.ev e with
    | .agg cs, .int _ i => if 0 ≤ i ∧ i < len then (rdCells cs agg (i.toNat * sz) sz).map fun v => (v, H) else none
    | _, _ => none
  | .sidx x i => match x.ev e, i.ev e with
    | .str s, .int _ i => if 0 ≤ i then (s[i.toNat]?).map fun b => (.int .u8 b.toNat, H) else none
    | _, _ => none
  | .fld off n agg x => match x.ev e with | .agg cs => (rdCells cs agg off n).map fun v => (v, H) | _ => none
  | .extract x i => match x.ev e with | .tup vs => (vs[i]?).map fun v => (v, H) | _ => none
  | .call f args q => quietly q H (C lim f (args.map (·.ev e)) H)
  | .callv f args q => match f.ev e with
    | .fn g caps => quietly q H (C lim g (args.map (·.ev e) ++ caps) H)
    | _ => none
  | .callA f args => growing H (C lim f (args.map (·.ev e)) H)
  | .append sz bytes x y => appendV H lim sz bytes (x.ev e) (y.ev e)
  | .len x => (lenV H (x.ev e)).map fun v => (v, H)
  | .copy sz x y => copyV H lim sz (x.ev e) (y.ev e)
  | .minmax mx args => (mmV mx (args.map (·.ev e))).map fun v => (v, H)

def wantedA (g : Option (Nat × Bool)) (e : Env) : Option Bool :=
  match g with
  | none => some true
  | some (t, want) => match e t with
    | .bool b => some (b == want)
    | .undef => some false
    | _ => none

noncomputable def stepG (C : Oracle) (lim : Nat) (o : GOp) (e : Env) (H : Heap) : Option (Env × Heap) :=
  match wantedA o.g e with
  | some true => (stepOp C lim o.op e H).map fun r => (e.put o.d r.1, r.2)
  | some false => some (e.put o.d .undef, H)
  | none => none

noncomputable def runOps (C : Oracle) (lim : Nat) : List GOp → Env → Heap → Option (Env × Heap)
  | [], e, H => some (e, H)
  | o :: r, e, H => (stepG C lim o e H).bind fun s => runOps C lim r s.1 s.2

inductive X where
  | norm
  | exit (id : Nat)
  | goto (l : Nat)
  | ret
  deriving DecidableEq, Inhabited

abbrev Out := X × Env × Heap

def iter (f : Env → Heap → Option Out) : Nat → Env → Heap → Option Out
  | 0, _, _ => none
  | n + 1, e, H => (f e H).bind fun r => match r.1 with | .norm => iter f n r.2.1 r.2.2 | _ => some r

/-- As long as it ends in a jump to the label. -/
def iterJ (l : Nat) (f : Env → Heap → Option Out) : Nat → Env → Heap → Option Out
  | 0, _, _ => none
  | n + 1, e, H => (f e H).bind fun r => match r.1 with | .goto l' => if l' = l then iterJ l f n r.2.1 r.2.2 else none | _ => some r

def findLabelA : ACode → Nat → Option ACode
  | .seq a b, l =>
    match findLabelA a l with
    | some rest => some (.seq rest b)
    | none => findLabelA b l
  | .label l', l => if l' = l then some .skip else none
  | _, _ => none

/-- Two pointers to different blocks. -/
def AV.differ : AV → AV → Bool
  | .ptr i _ _, .ptr j _ _ => i != j
  | _, _ => false
def apartAll (e : Env) (l : List (Nat × Nat)) : Bool := l.all fun p => (e p.1).differ (e p.2)

open Classical in
noncomputable def execC (C : Oracle) (n : Nat) (lim : Nat) : ACode → Env → Heap → Option Out
  | .skip, e, H => some (.norm, e, H)
  | .ops l, e, H => (runOps C lim l e H).map fun s => (.norm, s.1, s.2)
  | .opsD l ap, e, H => (runOps C lim l e H).bind fun s => if apartAll s.1 ap = true then some (.norm, s.1, s.2) else none
  | .swap x y, e, H => (runOps C lim [x, y] e H).bind fun s => if runOps C lim [y, x] e H = some s then some (.norm, s.1, s.2) else none
  | .alt _ _, _, _ => none
  | .seq a b, e, H => (execC C n lim a e H).bind fun r => match r.1 with | .norm => execC C n lim b r.2.1 r.2.2 | _ => some r
  | .cond c a b, e, H => match c.ev e with
    | .bool t => if t then execC C n lim a e H else execC C n lim b e H
    | _ => none
  | .block id c, e, H => (execC C n lim c e H).map fun r => (if r.1 = .exit id then (.norm, r.2) else r)
  | .loop c, e, H => iter (execC C n lim c) n e H
  | .exit id, e, H => some (.exit id, e, H)
  | .scope _, _, _ => none
  | .again l c, e, H => iterJ l (execC C n lim c) n e H
  | .jump l a c, e, H => (execC C n lim a e H).bind fun r => match r.1 with | .norm => iterJ l (execC C n lim c) n r.2.1 r.2.2 | .goto _ => none | _ => some r
  | .label _, e, H => some (.norm, e, H)
  | .goto l, e, H => some (.goto l, e, H)
  | .ret, e, H => some (.ret, e, H)

def resV (e : Env) (H : Heap) : ARes → Option AV
  | .tmp t => some (e t)
  | .cell t n agg => loadV H agg n (e t)
def resVs (e : Env) (H : Heap) : List ARes → Option (List AV)
  | [] => some []
  | r :: rs => (resV e H r).bind fun v => (resVs e H rs).map fun vs => v :: vs
def resOf (e : Env) (H : Heap) (l : List ARes) : Option AV :=
  (resVs e H l).map fun vs => match vs with | [v] => v | vs => .tup vs

/-- Of what a call made, its results' slices alone are kept. -/
def keepOne (n0 : Nat) (H : Heap) (v : AV) (A : Heap) (used : List Nat) : Option (AV × Heap × List Nat) :=
  if v.flat then some (v, A, used)
  else match v with
    | .sl id ver off len l =>
      if id < n0 then some (v, A, used)
      else if used.contains id then none
      else match H[id]? with
        | some (.rw ver' sz cs) => if ver' = ver ∧ AV.flats cs = true then some (.sl A.length ver off len l, A ++ [.rw ver sz cs], id :: used) else none
        | _ => none
    | _ => none
def keepAll (n0 : Nat) (H : Heap) : List AV → Heap → List Nat → Option (List AV × Heap)
  | [], A, _ => some ([], A)
  | v :: r, A, used => (keepOne n0 H v A used).bind fun x => (keepAll n0 H r x.2.1 x.2.2).map fun y => (x.1 :: y.1, y.2)
def finish (m : RetMode) (n0 : Nat) (r : AV) (H : Heap) : Option (AV × Heap) :=
  match m with
  | .raw => some (r, H)
  | .flat => if r.flat then some (r, H.take n0) else none
  | .slices => match r with
    | .tup vs => (keepAll n0 H vs (H.take n0) []).map fun x => (.tup x.1, x.2)
    | v => (keepOne n0 H v (H.take n0) []).map fun x => (x.1, x.2.1)

structure Prog where
  F : Nat → Option AFunc
  hook : Nat → Nat → List AV → Heap → Option (AV × Heap)

noncomputable def callBody (X : Prog) (C : Oracle) (n : Nat) : Oracle := fun lim f args H =>
  match X.F f with
  | some af =>
    if args.length = af.np then
      (execC C n (if af.mode = .raw then lim else H.length) af.body (Env.ofList args) H).bind fun r =>
        match r.1 with
        | .norm | .ret => (resOf r.2.1 r.2.2 af.res).bind fun v => finish af.mode H.length v r.2.2
        | _ => none
    else none
  | none => X.hook lim f args H

noncomputable def evalN (X : Prog) : Nat → Oracle
  | 0 => fun _ _ _ _ => none
  | n + 1 => callBody X (evalN X n) n

end Go.AM
