/- THE ABSTRACT MACHINE: the rewriting set, and what the set's words mean. Conditions: none; plain lemmas. -/
import Derived.Test.YtmjanbhmpbhagaaAm17
import Derived.Attr
set_option linter.unusedVariables false
set_option linter.unusedSimpArgs false
namespace Go.AM
section
variable (C : Oracle) (lim : Nat) (e : Env) (H : Heap)
theorem st_mov (x : AArg) : stepOp C lim (.mov x) e H = some (x.ev e, H) := rfl
def pickV (c a b : AV) : Option AV := match c with | .bool t => some (if t then a else b) | _ => none
theorem st_pick (c a b : AArg) : stepOp C lim (.pick c a b) e H = (pickV (c.ev e) (a.ev e) (b.ev e)).map fun v => (v, H) := by
  simp only [stepOp, pickV]
  generalize c.ev e = v
  cases v <;> rfl
theorem pickV_true (a b : AV) : pickV (.bool true) a b = some a := rfl
theorem pickV_false (a b : AV) : pickV (.bool false) a b = some b := rfl
theorem pickV_and (x y : Bool) : pickV (.bool x) (.bool y) (.bool false) = some (.bool (x && y)) := by cases x <;> rfl
theorem pickV_or (x y : Bool) : pickV (.bool x) (.bool true) (.bool y) = some (.bool (x || y)) := by cases x <;> rfl
theorem st_alloc (zs : List AV) : stepOp C lim (.alloc zs) e H = some (.ptr H.length 0 0, H ++ [.rw 0 zs.length zs]) := rfl
theorem st_box (x : AArg) : stepOp C lim (.box x) e H = (x.ev e).cellsOf.map fun cs => (.ptr H.length 0 0, H ++ [.rw 0 cs.length cs]) := rfl
def fillV : List AV → List (Nat × Nat × AV) → Option (List AV)
  | cs, [] => some cs
  | cs, (o, n, x) :: r => (x.cellsOf).bind fun vs => if vs.length = n ∧ o + n ≤ cs.length then fillV (putCells cs o vs) r else none
def evs (e : Env) (ps : List (Nat × Nat × AArg)) : List (Nat × Nat × AV) := ps.map fun p => (p.1, p.2.1, p.2.2.ev e)
theorem fill_eq : ∀ (ps : List (Nat × Nat × AArg)) (zs : List AV), fillCells e zs ps = fillV zs (evs e ps)
  | [], zs => rfl
  | (o, n, x) :: r, zs => by
    simp only [fillCells, evs, List.map_cons, fillV]
    cases (x.ev e).cellsOf with
    | none => rfl
    | some vs =>
      simp only [Option.bind_some]
      split
      · exact fill_eq r _
      · rfl
theorem evs_nil : evs e [] = [] := rfl
theorem evs_cons (o n : Nat) (x : AArg) (r : List (Nat × Nat × AArg)) : evs e ((o, n, x) :: r) = (o, n, x.ev e) :: evs e r := rfl
theorem st_build (zs : List AV) (ps : List (Nat × Nat × AArg)) : stepOp C lim (.build zs ps) e H = (fillV zs (evs e ps)).map fun cs => (.agg cs, H) := by simp only [stepOp, fill_eq]
theorem st_bslice (sz n : Nat) (zs : List AV) (ps : List (Nat × Nat × AArg)) : stepOp C lim (.bslice sz n zs ps) e H = (fillV zs (evs e ps)).map fun cs => (.sl H.length 0 0 n true, H ++ [.rw 0 sz cs]) := by simp only [stepOp, fill_eq]
theorem st_load (agg : Bool) (n : Nat) (a : AArg) : stepOp C lim (.load agg n a) e H = (loadV H agg n (a.ev e)).map fun v => (v, H) := rfl
theorem st_store (n : Nat) (a x : AArg) : stepOp C lim (.store n a x) e H = (storeV H lim n (a.ev e) (x.ev e)).map fun H' => (.undef, H') := rfl
def nilchkV (H : Heap) : AV → Option AV
  | .ptr id ver o => if (H.cells id ver).isSome then some (.ptr id ver o) else none
  | .fn f cs => some (.fn f cs)
  | _ => none
theorem st_nilchk (x : AArg) : stepOp C lim (.nilchk x) e H = (nilchkV H (x.ev e)).map fun v => (v, H) := by
  simp only [stepOp]
  generalize x.ev e = v
  cases v <;> simp only [nilchkV] <;> try rfl
  split <;> rfl
theorem st_bin (op : BinOp) (x y : AArg) : stepOp C lim (.bin op x y) e H = (binV op (x.ev e) (y.ev e)).map fun v => (v, H) := rfl
theorem st_eqs (neg agg : Bool) (plan : List Leaf) (x y : AArg) : stepOp C lim (.eqs neg agg plan x y) e H = (eqV agg plan (x.ev e) (y.ev e)).map fun b => (.bool (b != neg), H) := rfl
theorem st_nileq (neg : Bool) (k : NilKind) (x y : AArg) : stepOp C lim (.nileq neg k x y) e H = (nileqV H k (x.ev e) (y.ev e)).map fun b => (.bool (b != neg), H) := rfl
theorem st_un (op : UnOp) (x : AArg) : stepOp C lim (.un op x) e H = (unV op (x.ev e)).map fun v => (v, H) := rfl
def convV (k : IntKind) : AV → Option AV
  | .int _ n => some (.int k (k.wrap n))
  | _ => none
theorem st_conv (k : IntKind) (x : AArg) : stepOp C lim (.conv k x) e H = (convV k (x.ev e)).map fun v => (v, H) := by
  simp only [stepOp]
  generalize x.ev e = v
  cases v <;> rfl
theorem st_mkfn (f : Nat) (caps : List AArg) : stepOp C lim (.mkfn f caps) e H = some (.fn f (caps.map (·.ev e)), H) := rfl
theorem st_mkslice (sz bytes : Nat) (zs : List AV) (l c : AArg) : stepOp C lim (.mkslice sz bytes zs l c) e H = mkSliceV H sz bytes zs (l.ev e) (c.ev e) := rfl
theorem st_slice (sz : Nat) (x : AArg) (lo hi mx : Option AArg) : stepOp C lim (.slice sz x lo hi mx) e H = (sliceV H sz (x.ev e) (lo.map (·.ev e)) (hi.map (·.ev e)) (mx.map (·.ev e))).map fun v => (v, H) := rfl
def paddV (H : Heap) (off : Nat) : AV → Option AV
  | .ptr id ver o => if (H.cells id ver).isSome then some (.ptr id ver (o + off)) else none
  | _ => none
theorem st_padd (off : Nat) (x : AArg) : stepOp C lim (.padd off x) e H = (paddV H off (x.ev e)).map fun v => (v, H) := by
  simp only [stepOp]
  generalize x.ev e = v
  cases v <;> simp only [paddV] <;> try rfl
  split <;> rfl
def iaddrAV (H : Heap) (len sz : Nat) (x i : AV) : Option AV :=
  match x, i with
  | .ptr id ver o, .int _ i => if (H.cells id ver).isSome ∧ 0 ≤ i ∧ i < len then some (.ptr id ver (o + i.toNat * sz)) else none
  | _, _ => none
theorem st_iaddrA (len sz : Nat) (x i : AArg) : stepOp C lim (.iaddrA len sz x i) e H = (iaddrAV H len sz (x.ev e) (i.ev e)).map fun v => (v, H) := by
  simp only [stepOp, iaddrAV]
  generalize x.ev e = v
  generalize i.ev e = j
  cases v <;> cases j <;> simp only <;> (try rfl)
  split <;> rfl
def iaddrSV (H : Heap) (sz : Nat) (x i : AV) : Option AV :=
  match x, i with
  | .sl id ver o len _, .int _ i => if (H.cells id ver).isSome ∧ 0 ≤ i ∧ i < len then some (.ptr id ver (o + i.toNat * sz)) else none
  | _, _ => none
theorem st_iaddrS (sz : Nat) (x i : AArg) : stepOp C lim (.iaddrS sz x i) e H = (iaddrSV H sz (x.ev e) (i.ev e)).map fun v => (v, H) := by
  simp only [stepOp, iaddrSV]
  generalize x.ev e = v
  generalize i.ev e = j
  cases v <;> cases j <;> simp only <;> (try rfl)
  split <;> rfl
def indexV (len sz : Nat) (agg : Bool) (x i : AV) : Option AV :=
  match x, i with
  | .agg cs, .int _ i => if 0 ≤ i ∧ i < len then rdCells cs agg (i.toNat * sz) sz else none
  | _, _ => none
theorem st_index (len sz : Nat) (agg : Bool) (x i : AArg) : stepOp C lim (.index len sz agg x i) e H = (indexV len sz agg (x.ev e) (i.ev e)).map fun v => (v, H) := by
  simp only [stepOp, indexV]
  generalize x.ev e = v
  generalize i.ev e = j
  cases v <;> cases j <;> simp only <;> (try rfl)
  split <;> rfl
def fldV (off n : Nat) (agg : Bool) (x : AV) : Option AV :=
  match x with
  | .agg cs => rdCells cs agg off n
  | _ => none
theorem st_fld (off n : Nat) (agg : Bool) (x : AArg) : stepOp C lim (.fld off n agg x) e H = (fldV off n agg (x.ev e)).map fun v => (v, H) := by
  simp only [stepOp, fldV]
  generalize x.ev e = v
  cases v <;> rfl
theorem fldV_agg (off n : Nat) (agg : Bool) (cs : List AV) : fldV off n agg (.agg cs) = rdCells cs agg off n := rfl
def sidxV (x i : AV) : Option AV :=
  match x, i with
  | .str s, .int _ i => if 0 ≤ i then (s[i.toNat]?).map fun b => .int .u8 b.toNat else none
  | _, _ => none
theorem st_sidx (x i : AArg) : stepOp C lim (.sidx x i) e H = (sidxV (x.ev e) (i.ev e)).map fun v => (v, H) := by
  simp only [stepOp, sidxV]
  generalize x.ev e = v
  generalize i.ev e = j
  cases v <;> cases j <;> simp only <;> (try rfl)
  split <;> simp [Option.map_map] <;> rfl
def extractV (x : AV) (i : Nat) : Option AV := match x with | .tup vs => vs[i]? | _ => none
theorem st_extract (x : AArg) (i : Nat) : stepOp C lim (.extract x i) e H = (extractV (x.ev e) i).map fun v => (v, H) := by
  simp only [stepOp, extractV]
  generalize x.ev e = v
  cases v <;> rfl
theorem st_call (f : Nat) (args : List AArg) (q : Bool) : stepOp C lim (.call f args q) e H = quietly q H (C lim f (args.map (·.ev e)) H) := rfl
theorem st_callA (f : Nat) (args : List AArg) : stepOp C lim (.callA f args) e H = growing H (C lim f (args.map (·.ev e)) H) := rfl
theorem growing_same (v : AV) : growing H (some (v, H)) = some (v, H) := by
  simp only [growing, Option.bind_some]
  rw [if_pos ⟨[], by simp⟩]
theorem growing_ok (v : AV) (H' : Heap) (h : ∃ L, H' = H ++ L) : growing H (some (v, H')) = some (v, H') := by
  simp only [growing, Option.bind_some]
  rw [if_pos h]
noncomputable def callvV (C : Oracle) (lim : Nat) (H : Heap) (q : Bool) (f : AV) (args : List AV) : Option (AV × Heap) :=
  match f with
  | .fn g caps => quietly q H (C lim g (args ++ caps) H)
  | _ => none
theorem st_callv (f : AArg) (args : List AArg) (q : Bool) : stepOp C lim (.callv f args q) e H = callvV C lim H q (f.ev e) (args.map (·.ev e)) := by
  simp only [stepOp, callvV]
  generalize f.ev e = v
  cases v <;> rfl
theorem st_append (sz bytes : Nat) (x y : AArg) : stepOp C lim (.append sz bytes x y) e H = appendV H lim sz bytes (x.ev e) (y.ev e) := rfl
theorem st_len (x : AArg) : stepOp C lim (.len x) e H = (lenV H (x.ev e)).map fun v => (v, H) := rfl
theorem st_copy (sz : Nat) (x y : AArg) : stepOp C lim (.copy sz x y) e H = copyV H lim sz (x.ev e) (y.ev e) := rfl
theorem st_minmax (mx : Bool) (args : List AArg) : stepOp C lim (.minmax mx args) e H = (mmV mx (args.map (·.ev e))).map fun v => (v, H) := rfl
end

/- VALUES -/
theorem extractV_0 (a : AV) (l : List AV) : extractV (.tup (a :: l)) 0 = some a := rfl
theorem extractV_1 (a b : AV) (l : List AV) : extractV (.tup (a :: b :: l)) 1 = some b := rfl
theorem extractV_2 (a b c : AV) (l : List AV) : extractV (.tup (a :: b :: c :: l)) 2 = some c := rfl
theorem fillV_nil (cs : List AV) : fillV cs [] = some cs := rfl
theorem fillV_cons (cs : List AV) (o n : Nat) (x : AV) (r : List (Nat × Nat × AV)) : fillV cs ((o, n, x) :: r) = (x.cellsOf).bind fun vs => if vs.length = n ∧ o + n ≤ cs.length then fillV (putCells cs o vs) r else none := rfl
theorem cellsOf_agg (cs : List AV) : (AV.agg cs).cellsOf = some cs := rfl
theorem cellsOf_int (k : IntKind) (n : Int) : (AV.int k n).cellsOf = some [.int k n] := rfl
theorem cellsOf_bool (b : Bool) : (AV.bool b).cellsOf = some [.bool b] := rfl
theorem cellsOf_ptr (a b c : Nat) : (AV.ptr a b c).cellsOf = some [.ptr a b c] := rfl
theorem cellsOf_nilp : AV.nilp.cellsOf = some [.nilp] := rfl
theorem cellsOf_sl (a b c d : Nat) (l : Bool) : (AV.sl a b c d l).cellsOf = some [.sl a b c d l] := rfl
theorem cellsOf_nils : AV.nils.cellsOf = some [.nils] := rfl
theorem cellsOf_fn (f : Nat) (l : List AV) : (AV.fn f l).cellsOf = some [.fn f l] := rfl
theorem putCells_nil (cs : List AV) (o : Nat) : putCells cs o [] = cs := by cases cs <;> rfl
theorem putCells_cons (cs : List AV) (o : Nat) (v : AV) (vs : List AV) : putCells cs o (v :: vs) = putCells (cs.set o v) (o + 1) vs := rfl
theorem loadV_ptr (H : Heap) (agg : Bool) (n id ver o : Nat) : loadV H agg n (.ptr id ver o) = (H.cells id ver).bind fun cs => rdCells cs agg o n := by
  simp only [loadV]; cases H.cells id ver <;> rfl
theorem rdCells_one (cs : List AV) (o n : Nat) : rdCells cs false o n = cs[o]? := rfl
theorem rdCells_agg (cs : List AV) (o n : Nat) : rdCells cs true o n = if o + n ≤ cs.length then some (.agg ((cs.drop o).take n)) else none := rfl
theorem storeV_ptr (H : Heap) (lim n id ver o : Nat) (x : AV) : storeV H lim n (.ptr id ver o) x = x.cellsOf.bind fun vs => if vs.length = n then H.write lim id ver o vs else none := by
  simp only [storeV]; cases x.cellsOf <;> rfl
theorem nilchk_ptr (H : Heap) (id ver o : Nat) : nilchkV H (.ptr id ver o) = if (H.cells id ver).isSome then some (.ptr id ver o) else none := rfl
theorem paddV_ptr (H : Heap) (off id ver o : Nat) : paddV H off (.ptr id ver o) = if (H.cells id ver).isSome then some (.ptr id ver (o + off)) else none := rfl
theorem iaddrAV_eq (H : Heap) (len sz id ver o : Nat) (k : IntKind) (i : Int) : iaddrAV H len sz (.ptr id ver o) (.int k i) = if (H.cells id ver).isSome ∧ 0 ≤ i ∧ i < len then some (.ptr id ver (o + i.toNat * sz)) else none := rfl
theorem iaddrSV_eq (H : Heap) (sz id ver o len : Nat) (l : Bool) (k : IntKind) (i : Int) : iaddrSV H sz (.sl id ver o len l) (.int k i) = if (H.cells id ver).isSome ∧ 0 ≤ i ∧ i < len then some (.ptr id ver (o + i.toNat * sz)) else none := rfl
theorem convV_int (k k' : IntKind) (n : Int) : convV k (.int k' n) = some (.int k (k.wrap n)) := rfl
theorem convV_u64 (n : Int) (k : IntKind) : convV .u64 (.int k n) = some (u64 (BitVec.ofInt 64 n)) := by rw [convV_int, conv_u64]
theorem lenV_nils (H : Heap) : lenV H .nils = some (.int .i64 0) := rfl
theorem lenV_sl (H : Heap) (id ver o n : Nat) (l : Bool) : lenV H (.sl id ver o n l) = if (H.cells id ver).isSome then some (.int .i64 n) else none := rfl
theorem mmV_2 (mx : Bool) (k k' : IntKind) (a b : Int) : mmV mx [.int k a, .int k' b] = some (.int k (if mx then (if b > a then b else a) else (if b < a then b else a))) := rfl
theorem max_if (a b : Int) : (if b > a then b else a) = max a b := by omega
theorem min_if (a b : Int) : (if b < a then b else a) = min a b := by omega
theorem unV_not (b : Bool) : unV .not (.bool b) = some (.bool !b) := rfl
theorem eqV_agg (plan : List Leaf) (xs ys : List AV) : eqV true plan (.agg xs) (.agg ys) = eqLeaves plan xs ys := rfl
theorem eqV_bool (a b : Bool) : eqV false [.bool] (.bool a) (.bool b) = some (a == b) := by
  show (some ((a == b) && true)) = _
  rw [Bool.and_true]
theorem eqV_int (k : IntKind) (a b : Int) : eqV false [.int] (.int k a) (.int k b) = some (a == b) := by
  show (match (if k = k then some (a == b) else none : Option Bool), some true with | some a, some b => some (a && b) | _, _ => none) = _
  rw [if_pos rfl]
  show some ((a == b) && true) = _
  rw [Bool.and_true]
theorem eqLeaves_nil : eqLeaves [] [] [] = some true := rfl
theorem eqLeaves_cons (l : Leaf) (ls : List Leaf) (x y : AV) (xs ys : List AV) : eqLeaves (l :: ls) (x :: xs) (y :: ys) = (eqLeaf l x y).bind fun a => (eqLeaves ls xs ys).map fun b => a && b := by
  simp only [eqLeaves]
  cases eqLeaf l x y <;> cases eqLeaves ls xs ys <;> rfl
theorem eqLeaf_i64 (a b : Int) : eqLeaf .int (.int .i64 a) (.int .i64 b) = some (a == b) := by
  show (if IntKind.i64 = IntKind.i64 then some (a == b) else none : Option Bool) = _
  rw [if_pos rfl]
theorem eqLeaf_bool (a b : Bool) : eqLeaf .bool (.bool a) (.bool b) = some (a == b) := rfl
section
variable (a b : Int)
theorem binV_i_add : binV .add (.int .i64 a) (.int .i64 b) = some (.int .i64 (IntKind.wrap .i64 (a + b))) := rfl
theorem binV_i_sub : binV .sub (.int .i64 a) (.int .i64 b) = some (.int .i64 (IntKind.wrap .i64 (a - b))) := rfl
theorem binV_i_mul : binV .mul (.int .i64 a) (.int .i64 b) = some (.int .i64 (IntKind.wrap .i64 (a * b))) := rfl
theorem binV_i_quo : binV .quo (.int .i64 a) (.int .i64 b) = if b = 0 then none else some (.int .i64 (IntKind.wrap .i64 (a.tdiv b))) := rfl
theorem binV_i_rem : binV .rem (.int .i64 a) (.int .i64 b) = if b = 0 then none else some (.int .i64 (a.tmod b)) := rfl
theorem binV_i_eql : binV .eql (.int .i64 a) (.int .i64 b) = some (.bool (a == b)) := rfl
theorem binV_i_neq : binV .neq (.int .i64 a) (.int .i64 b) = some (.bool (a != b)) := rfl
theorem binV_i_lss : binV .lss (.int .i64 a) (.int .i64 b) = some (.bool (decide (a < b))) := rfl
theorem binV_i_leq : binV .leq (.int .i64 a) (.int .i64 b) = some (.bool (decide (a ≤ b))) := rfl
theorem binV_i_gtr : binV .gtr (.int .i64 a) (.int .i64 b) = some (.bool (decide (b < a))) := rfl
theorem binV_i_geq : binV .geq (.int .i64 a) (.int .i64 b) = some (.bool (decide (b ≤ a))) := rfl
end
theorem nileqV_nilp (H : Heap) : nileqV H .ptr .nilp .nilp = some true := rfl
theorem nileqV_ptr (H : Heap) (id ver o : Nat) : nileqV H .ptr (.ptr id ver o) .nilp = if (H.cells id ver).isSome then some false else none := rfl
theorem resOf_1 (e : Env) (H : Heap) (r : ARes) : resOf e H [r] = resV e H r := by
  simp only [resOf, resVs]; cases resV e H r <;> rfl
theorem resOf_2 (e : Env) (H : Heap) (r s : ARes) : resOf e H [r, s] = (resV e H r).bind fun a => (resV e H s).bind fun b => some (.tup [a, b]) := by
  simp only [resOf, resVs]; cases resV e H r <;> cases resV e H s <;> rfl
theorem resOf_3 (e : Env) (H : Heap) (r s t : ARes) : resOf e H [r, s, t] = (resV e H r).bind fun a => (resV e H s).bind fun b => (resV e H t).bind fun c => some (.tup [a, b, c]) := by
  simp only [resOf, resVs]; cases resV e H r <;> cases resV e H s <;> cases resV e H t <;> rfl
theorem resOf_0 (e : Env) (H : Heap) : resOf e H [] = some (.tup []) := rfl
theorem resV_tmp (e : Env) (H : Heap) (t : Nat) : resV e H (.tmp t) = some (e t) := rfl
theorem resV_cell (e : Env) (H : Heap) (t n : Nat) (agg : Bool) : resV e H (.cell t n agg) = loadV H agg n (e t) := rfl
theorem flat_int (k : IntKind) (n : Int) : (AV.int k n).flat = true := rfl
theorem flat_bool (b : Bool) : (AV.bool b).flat = true := rfl
theorem flat_agg (cs : List AV) : (AV.agg cs).flat = AV.flats cs := rfl
theorem flat_tup (cs : List AV) : (AV.tup cs).flat = AV.flats cs := rfl
theorem flats_nil : AV.flats [] = true := rfl
theorem flats_cons (c : AV) (r : List AV) : AV.flats (c :: r) = (c.flat && AV.flats r) := rfl
theorem flat_nilp : AV.nilp.flat = true := rfl
theorem flat_nils : AV.nils.flat = true := rfl
theorem finish_flat' {n0 : Nat} {r : AV} {H : Heap} : finish .flat n0 r H = if r.flat then some (r, H.take n0) else none := rfl
theorem len_app1 (H L : Heap) : (H ++ L).length = H.length + L.length := List.length_append
/-- A fresh slice kept behind a call. -/
def keepB (b : Option Blk) (ver off len : Nat) (l : Bool) (H : Heap) : Option (AV × Heap) :=
  match b with
  | some (.rw ver' sz cs) => if ver' = ver ∧ AV.flats cs = true then some (.sl H.length ver off len l, H ++ [.rw ver sz cs]) else none
  | _ => none
theorem finish_keep (H L : Heap) (k ver off len : Nat) (l : Bool) : finish .slices H.length (.sl (H.length + k) ver off len l) (H ++ L) = keepB (L[k]?) ver off len l H := by
  have h1 : ¬ (H.length + k < H.length) := by omega
  simp only [finish, keepOne, AV.flat, h1, if_false, Bool.false_eq_true, List.contains_nil, take_tl]
  rw [List.getElem?_append_right (by omega), Nat.add_sub_cancel_left]
  unfold keepB
  cases L[k]? with
  | none => rfl
  | some b =>
    cases b with
    | ro c => rfl
    | rw v' s c => simp only; split <;> rfl
theorem finish_keep0 (H L : Heap) (ver off len : Nat) (l : Bool) : finish .slices H.length (.sl H.length ver off len l) (H ++ L) = keepB (L[0]?) ver off len l H := finish_keep H L 0 ver off len l
theorem finish_nils (H L : Heap) : finish .slices H.length .nils (H ++ L) = some (.nils, H) := by
  simp [finish, keepOne, AV.flat, take_tl]
theorem finish_nils' (H : Heap) : finish .slices H.length .nils H = some (.nils, H) := by
  simp [finish, keepOne, AV.flat]
theorem keepB_rw (ver sz off len : Nat) (cs : List AV) (l : Bool) (H : Heap) : keepB (some (.rw ver sz cs)) ver off len l H = if AV.flats cs = true then some (.sl H.length ver off len l, H ++ [.rw ver sz cs]) else none := by simp [keepB]
section
variable (X : Prog) {lim : Nat} {e : Env} {H : Heap} {Q : Post} {K : List Frm} {l : List GOp} {d : Option Nat}
theorem RUN_mov (x : AArg) : RUN X lim (⟨none, d, .mov x⟩ :: l) K e H Q = RUN X lim l K (e.put d (x.ev e)) H Q := by rw [RUN_op]; rfl
theorem RUN_call (f : Nat) (args : List AArg) (q : Bool) : RUN X lim (⟨none, d, .call f args q⟩ :: l) K e H Q = STC X lim (ev X lim f (args.map (·.ev e)) H) q d l K e H Q := by rw [RUN_op]; rfl
end

theorem apartAll_nil (e : Env) : apartAll e [] = true := rfl
theorem apartAll_cons (e : Env) (i j : Nat) (l : List (Nat × Nat)) : apartAll e ((i, j) :: l) = ((e i).differ (e j) && apartAll e l) := rfl
theorem differ_ptr (a b c a' b' c' : Nat) : (AV.ptr a b c).differ (.ptr a' b' c') = (a != a') := rfl
/- A SLICE THAT GROWS: nil at first, then a block of its own -/
/-- The slice v shows the cells cs, k elements of sz cells, in a block above B. -/
def Grown (sz : Nat) (B G : Heap) (k : Nat) (cs : List AV) (v : AV) : Prop :=
  cs.length = k * sz ∧ ((k = 0 ∧ v = .nils) ∨ ∃ id ver, B.length ≤ id ∧ v = .sl id ver 0 k false ∧ (B ++ G)[id]? = some (.rw ver sz cs))
theorem Grown.nil (sz : Nat) (B G : Heap) : Grown sz B G 0 [] .nils := ⟨by simp, Or.inl ⟨rfl, rfl⟩⟩
theorem Grown.slen {sz : Nat} {B G : Heap} {k : Nat} {cs : List AV} {v : AV} (h : Grown sz B G k cs v) : v.slen = some k := by
  rcases h with ⟨_, ⟨rfl, rfl⟩ | ⟨id, ver, _, rfl, _⟩⟩ <;> rfl
theorem Grown.ext {sz : Nat} {B G : Heap} {k : Nat} {cs : List AV} {v : AV} (h : Grown sz B G k cs v) (G' : Heap) : Grown sz B (G ++ G') k cs v := by
  obtain ⟨hc, h | ⟨id, ver, h1, h2, h3⟩⟩ := h
  · exact ⟨hc, Or.inl h⟩
  · refine ⟨hc, Or.inr ⟨id, ver, h1, h2, ?_⟩⟩
    have := (List.getElem?_eq_some_iff.1 h3).1
    rw [← List.append_assoc, List.getElem?_append_left this, h3]
theorem Grown.src {sz : Nat} {B G : Heap} {k : Nat} {cs : List AV} {v : AV} (h : Grown sz B G k cs v) : srcCells (B ++ G) sz k v = some cs := by
  obtain ⟨hc, ⟨rfl, rfl⟩ | ⟨id, ver, h1, rfl, h3⟩⟩ := h
  · have : cs = [] := List.eq_nil_of_length_eq_zero (by simpa using hc)
    subst this; rfl
  · simp [srcCells, Heap.cells, h3, Blk.ver, Blk.cells, hc]
    exact List.take_of_length_le (by omega)
/-- An element more. -/
theorem Grown.push {sz bytes lim : Nat} {B G : Heap} {k : Nat} {cs : List AV} {v : AV} (h : Grown sz B G k cs v) (ys : List AV) (hy : ys.length = sz) (hlim : lim ≤ B.length) (hb : (k + 1) * bytes ≤ 140737488355328) :
    ∃ v' G', appendV (B ++ (G ++ [.rw 0 sz ys])) lim sz bytes v (.sl (B.length + G.length) 0 0 1 true) = some (v', B ++ G') ∧ Grown sz B G' (k + 1) (cs ++ ys) v' := by
  have hy1 : srcCells (B ++ (G ++ [.rw 0 sz ys])) sz 1 (.sl (B.length + G.length) 0 0 1 true) = some ys := by
    simp only [srcCells, Heap.cells_tl]
    rw [show Heap.cells (G ++ [Blk.rw 0 sz ys]) G.length 0 = some ys by rw [Heap.cells_tl0, Heap.cells_zero_rw]]
    simp only [Nat.zero_add, Nat.one_mul, Nat.le_refl, true_and, hy, List.drop_zero, if_true]
    rw [List.take_of_length_le (by omega)]
  have hlen : (cs ++ ys).length = (k + 1) * sz := by rw [List.length_append, h.1, hy, Nat.succ_mul]
  have h0 := h
  obtain ⟨hc, ⟨rfl, rfl⟩ | ⟨id, ver, h1, rfl, h3⟩⟩ := h
  · have : cs = [] := List.eq_nil_of_length_eq_zero (by simpa using hc)
    subst this
    refine ⟨.sl (B ++ (G ++ [Blk.rw 0 sz ys])).length 0 0 1 false, G ++ [Blk.rw 0 sz ys] ++ [Blk.rw 0 sz ys], ?_, hlen, Or.inr ⟨_, 0, ?_, rfl, ?_⟩⟩
    · rw [Nat.zero_add] at hb
      simp only [appendV, AV.slen, hy1, Nat.one_ne_zero, if_false, hb, if_true]
      rw [List.append_assoc]
    · simp only [List.length_append]; omega
    · rw [← List.append_assoc, List.getElem?_append_right (Nat.le_refl _), Nat.sub_self]; rfl
  · have hid := (List.getElem?_eq_some_iff.1 h3).1
    have h4 : (B ++ (G ++ [Blk.rw 0 sz ys]))[id]? = some (.rw ver sz cs) := by rw [← List.append_assoc, List.getElem?_append_left hid, h3]
    have hx := (h0.ext [.rw 0 sz ys]).src
    have hset : (B ++ (G ++ [Blk.rw 0 sz ys])).set id (.rw (ver + 1) sz (cs ++ ys)) = B ++ (G ++ [Blk.rw 0 sz ys]).set (id - B.length) (.rw (ver + 1) sz (cs ++ ys)) := List.set_append_right _ _ h1
    refine ⟨.sl id (ver + 1) 0 (k + 1) false, (G ++ [Blk.rw 0 sz ys]).set (id - B.length) (.rw (ver + 1) sz (cs ++ ys)), ?_, hlen, Or.inr ⟨id, ver + 1, h1, rfl, ?_⟩⟩
    · simp only [appendV, AV.slen, hy1, hx, hb, if_true, Nat.one_ne_zero, if_false, Bool.false_eq_true, h4]
      rw [if_pos ⟨trivial, trivial, fun h => by omega⟩, hset]
    · rw [← hset, List.getElem?_set_self]
      simp only [List.length_append] at hid ⊢; omega
/-- It is read. -/
theorem Grown.cells {sz : Nat} {B G : Heap} {k : Nat} {cs : List AV} {v : AV} (h : Grown sz B G k cs v) (hk : 0 < k) : ∃ id ver, B.length ≤ id ∧ v = .sl id ver 0 k false ∧ (B ++ G)[id]? = some (.rw ver sz cs) ∧ ∀ G', Heap.cells (B ++ (G ++ G')) id ver = some cs := by
  obtain ⟨hc, ⟨rfl, rfl⟩ | ⟨id, ver, h1, rfl, h3⟩⟩ := h
  · omega
  · refine ⟨id, ver, h1, rfl, h3, fun G' => ?_⟩
    rw [← List.append_assoc]
    exact Heap.cells_old (by simp [Heap.cells, h3, Blk.ver, Blk.cells])

attribute [go_sem] apartAll_nil apartAll_cons differ_ptr RUND_def finish_keep finish_keep0 finish_nils finish_nils' keepB_rw FIN_some FIN2_some Env.put_some Env.put_none
  GO_skip GO_exit GO_ret GO_ops GO_opsD GO_seq GO_block GO_jump GO_goto GO_swap ON_ng_norm ON_ng_ret ON_ng_exit againX_goto againX_norm againX_exit againX_ret GO_cond BR_true BR_false ON_nil ON_seq_norm ON_seq_ret ON_seq_exit ON_seq_goto ON_blk_norm ON_blk_ret ON_blk_goto ON_blk_here ON_blk_other
  RUN_nil RUN_mov RUN_call RUN_guard GRD_tt GRD_false GRD_tf GRD_ft GRD_undef STH_some STV_some STC_same STC_false STH_map RUN_op
  turnX_norm turnX_exit turnX_ret endX_norm endX_ret
attribute [go_sem] eq_self decide_true decide_false Bool.false_or Bool.true_or Bool.or_false Bool.or_true
  Env.set_same Env.set_other Env.ofList_zero Env.ofList_one Env.ofList_two Env.ofList_three AArg.ev_t AArg.ev_c
  Heap.cells_tl Heap.cells_tl0 Heap.cells_zero_rw Heap.cells_succ Heap.cells_1 Heap.cells_2 Heap.cells_3 Heap.cells_4 Heap.cells_5 Heap.cells_6
  Heap.write_tl Heap.write_tl0 Heap.write_zero Heap.write_succ Heap.write_1 Heap.write_2 Heap.write_3 Heap.write_4
  take_tl take_all finish_raw quietly_false quietly_same
  u64_zero u64_one u64_two u64_all binV_shl_u binV_shr_u binV_and binV_or binV_xor binV_andNot unV_xor binV_add binV_mul binV_rem2 binV_quo2 binV_eql binV_neq binV_lss binV_gtr binV_geq binV_shl binV_shr eqLeaf_u64 flat_u64 cellsOf_u64
  st_mov st_pick pickV_true pickV_false pickV_and pickV_or st_alloc st_box evs_nil evs_cons st_build st_bslice st_load st_store st_nilchk st_bin st_eqs st_nileq st_un st_conv st_mkfn st_mkslice st_slice st_padd st_iaddrA st_iaddrS st_index st_sidx st_extract st_fld fldV_agg st_call st_callA growing_same st_callv st_append st_len st_copy st_minmax
  extractV_0 extractV_1 extractV_2 fillV_nil fillV_cons cellsOf_agg cellsOf_int cellsOf_bool cellsOf_ptr cellsOf_nilp cellsOf_sl cellsOf_nils cellsOf_fn putCells_nil putCells_cons loadV_ptr rdCells_one rdCells_agg storeV_ptr nilchk_ptr paddV_ptr iaddrAV_eq iaddrSV_eq conv_u64 convV_int lenV_nils lenV_sl mmV_2 max_if min_if unV_not eqV_agg eqV_bool eqV_int eqLeaves_nil eqLeaves_cons eqLeaf_i64 eqLeaf_bool
  binV_i_add binV_i_sub binV_i_mul binV_i_quo binV_i_rem binV_i_eql binV_i_neq binV_i_lss binV_i_leq binV_i_gtr binV_i_geq
  nileqV_nilp nileqV_ptr resOf_0 resOf_1 resOf_2 resOf_3 resV_tmp resV_cell flat_int flat_bool flat_agg flat_tup flats_nil flats_cons flat_nilp flat_nils finish_flat'
  List.length_append List.length_cons List.length_nil List.map_cons List.map_nil List.set_cons_zero List.set_cons_succ List.getElem?_cons_zero List.getElem?_cons_succ List.drop_zero List.drop_succ_cons List.take_zero List.take_succ_cons List.append_assoc List.cons_append List.nil_append List.append_nil
  Option.map_some Option.map_none Option.bind_some Option.bind_none Option.isSome_some Option.isSome_none Nat.add_zero Nat.zero_add if_true if_false Bool.and_true Bool.true_and Bool.and_false Bool.false_and Bool.not_true Bool.not_false Bool.bne_false Bool.bne_true
  and_self and_true true_and Nat.le_refl Int.toNat_zero Int.toNat_one Nat.zero_mul Nat.one_mul Nat.mul_one reduceCtorEq
end Go.AM
