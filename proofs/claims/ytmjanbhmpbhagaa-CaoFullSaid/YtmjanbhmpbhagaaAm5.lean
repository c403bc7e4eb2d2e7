/- EACH OPERATION OF THE PROGRAM'S FORM THAT LEAVES MEMORY ALONE DOES WHAT THE ABSTRACT MACHINE SAYS. Conditions: those of each theorem. -/
import Derived.Test.YtmjanbhmpbhagaaAm4
set_option linter.unusedVariables false
set_option linter.unusedSimpArgs false
namespace Go.AM
open Go.RowKit

section
variable {P : Program} {w0 w : World} {φ : Map} {H : Heap} {a : Act} {e : Env} {o : Oper}

theorem add_plain (b o n : Nat) : (⟨b, o, none⟩ : Addr).add n = ⟨b, o + n, none⟩ := by unfold Addr.add; split <;> simp_all

theorem does_mov (R : Rel w0 φ H w) (he : ERel φ e a.tmps) {x : Operand} {y : AArg} (ho : o.op = .move x ∨ o.op = .assign x) (hx : carg x = some y) : Does P w0 φ w a o (y.ev e) H := by
  refine Does.pure R (u := a.eval x) ?_ (carg_rel he hx)
  rcases ho with ho | ho <;> simp [execOp, ho]

theorem does_pick (R : Rel w0 φ H w) (he : ERel φ e a.tmps) {c x y : Operand} {c' x' y' : AArg} (ho : o.op = .pick c x y) (hc : carg c = some c') (hx : carg x = some x') (hy : carg y = some y') {t : Bool} (ht : c'.ev e = .bool t) :
    Does P w0 φ w a o (if t then x'.ev e else y'.ev e) H := by
  have h0 := carg_rel he hc
  rw [ht] at h0
  simp only [VRel] at h0
  refine Does.pure R (u := if t then a.eval x else a.eval y) ?_ ?_
  · simp [execOp, ho, h0, asBool]
  · cases t
    · exact carg_rel he hy
    · exact carg_rel he hx

theorem binI_op {op : BinOp} {k : IntKind} {x y : Int} {v : AV} (hop : op ≠ .shl ∧ op ≠ .shr) (h : binI op k x y = some v) (t : TypeId) (p q : Operand) :
    ∃ u, VRel φ v u ∧ (do eqGuard op t p q (.int k x) (.int k y); binOp op t (.int k x) (.int k y)).run P w = .ok u w := by
  cases op <;> simp only [binI, Option.some.injEq] at h
  case add => subst h; exact ⟨_, rfl, by simp [eqGuard, binOp, Op.intArith]⟩
  case sub => subst h; exact ⟨_, rfl, by simp [eqGuard, binOp, Op.intArith]⟩
  case mul => subst h; exact ⟨_, rfl, by simp [eqGuard, binOp, Op.intArith]⟩
  case quo => split at h; · cases h
              rename_i h0
              simp only [Option.some.injEq] at h; subst h; exact ⟨_, rfl, by simp [eqGuard, binOp, Op.intDiv, h0]⟩
  case rem => split at h; · cases h
              rename_i h0
              simp only [Option.some.injEq] at h; subst h; exact ⟨_, rfl, by simp [eqGuard, binOp, Op.intDiv, h0]⟩
  case and => subst h; exact ⟨_, rfl, by simp [eqGuard, binOp, Op.intBits]⟩
  case or => subst h; exact ⟨_, rfl, by simp [eqGuard, binOp, Op.intBits]⟩
  case xor => subst h; exact ⟨_, rfl, by simp [eqGuard, binOp, Op.intBits]⟩
  case andNot => subst h; exact ⟨_, rfl, by simp [eqGuard, binOp, Op.intBits]⟩
  case eql => subst h; exact ⟨_, rfl, by simp [eqGuard, binOp, Op.intCmp]⟩
  case neq => subst h; exact ⟨_, rfl, by simp [eqGuard, binOp, Op.intCmp]⟩
  case lss => subst h; exact ⟨_, rfl, by simp [eqGuard, binOp, Op.intCmp]⟩
  case leq => subst h; exact ⟨_, rfl, by simp [eqGuard, binOp, Op.intCmp]⟩
  case gtr => subst h; exact ⟨_, rfl, by simp [eqGuard, binOp, Op.intCmp]⟩
  case geq => subst h; exact ⟨_, rfl, by simp [eqGuard, binOp, Op.intCmp]⟩
  case shl => exact absurd rfl hop.1
  case shr => exact absurd rfl hop.2

theorem does_bin (R : Rel w0 φ H w) (he : ERel φ e a.tmps) {op : BinOp} {t t' : TypeId} {x y : Operand} {x' y' : AArg} (ho : o.op = .binOp op t x y t') (hx : carg x = some x') (hy : carg y = some y') {v : AV} (hv : binV op (x'.ev e) (y'.ev e) = some v) :
    Does P w0 φ w a o v H := by
  have h0 := carg_rel he hx
  have h1 := carg_rel he hy
  unfold binV at hv
  split at hv
  · rename_i k n k' m hxv hyv
    rw [hxv] at h0
    rw [hyv] at h1
    simp only [VRel] at h0 h1
    split at hv
    · simp only [binI] at hv
      split at hv
      · cases hv
      rename_i hm
      simp only [Option.some.injEq] at hv
      subst hv
      refine Does.pure R (u := .int k (k.wrap (n * 2 ^ (min m.toNat k.bits)))) ?_ rfl
      simp [execOp, ho, h0, h1, eqGuard, binOp, Op.shift, hm]
    · simp only [binI] at hv
      split at hv
      · cases hv
      rename_i hm
      simp only [Option.some.injEq] at hv
      subst hv
      refine Does.pure R (u := .int k (n.fdiv (2 ^ (min m.toNat k.bits)))) ?_ rfl
      simp [execOp, ho, h0, h1, eqGuard, binOp, Op.shift, hm]
    · rename_i h2 h3
      split at hv
      · rename_i hk
        subst hk
        obtain ⟨u, hu, hr⟩ := binI_op (φ := φ) (P := P) (w := w) ⟨h2, h3⟩ hv t x y
        refine Does.pure R (u := u) ?_ hu
        simp only [execOp, ho, h0, h1]
        rw [Sem.run_bind, hr]
        rfl
      · cases hv
  · cases hv

theorem does_un (R : Rel w0 φ H w) (he : ERel φ e a.tmps) {op : UnOp} {t : TypeId} {x : Operand} {x' : AArg} (ho : o.op = .unOp op t x) (hx : carg x = some x') {v : AV} (hv : unV op (x'.ev e) = some v) : Does P w0 φ w a o v H := by
  have h0 := carg_rel he hx
  unfold unV at hv
  split at hv
  · rename_i k n hxv
    rw [hxv] at h0; simp only [VRel] at h0
    simp only [Option.some.injEq] at hv; subst hv
    exact Does.pure R (u := .int k (k.wrap (0 - n))) (by simp [execOp, ho, h0, Op.unary, Op.intArith]) rfl
  · rename_i k n hxv
    rw [hxv] at h0; simp only [VRel] at h0
    simp only [Option.some.injEq] at hv; subst hv
    exact Does.pure R (u := .int k (k.wrap (BitVec.ofInt k.bits (if k.signed then -1 else k.max) ^^^ BitVec.ofInt k.bits n).toNat)) (by simp [execOp, ho, h0, Op.unary, Op.intBits]) rfl
  · rename_i b hxv
    rw [hxv] at h0; simp only [VRel] at h0
    simp only [Option.some.injEq] at hv; subst hv
    exact Does.pure R (u := .bool !b) (by simp [execOp, ho, h0, Op.unary]) rfl
  · cases hv

theorem does_conv (R : Rel w0 φ H w) (he : ERel φ e a.tmps) {s d : TypeId} {k k' : IntKind} {x : Operand} {x' : AArg} (ho : o.op = .convert s d x) (hs : P.underlying s = some (.int k')) (hd : P.underlying d = some (.int k)) (hx : carg x = some x') {q : IntKind} {n : Int}
    (hn : x'.ev e = .int q n) : Does P w0 φ w a o (.int k (k.wrap n)) H := by
  have h0 := carg_rel he hx
  rw [hn] at h0; simp only [VRel] at h0
  exact Does.pure R (u := .int k (k.wrap n)) (by simp [execOp, ho, h0, convert, run_underlying hs, run_underlying hd, Conv.intToInt]) rfl

theorem toArray_map (xs : Array Operand) (f : Operand → Value) : (xs.toList.map f).toArray = xs.map f := by
  rw [← Array.toList_map]

theorem does_mkfn (R : Rel w0 φ H w) (he : ERel φ e a.tmps) {f : Nat} {first caps : Array Operand} {l : List AArg} (ho : o.op = .makeFunc (.func f) first caps) (h0 : first.size = 0) (hl : cargs caps.toList = some l) :
    Does P w0 φ w a o (.fn f (l.map (·.ev e))) H := by
  have h1 := cargs_rel he hl
  have hf : first = #[] := Array.eq_empty_of_size_eq_zero h0
  refine Does.pure R (u := .func (.func f) #[] (caps.map a.eval)) (by simp [execOp, ho, hf, Instr.makeFunc]) ?_
  simp only [VRel]
  exact ⟨caps.toList.map a.eval, by rw [toArray_map], h1⟩

theorem does_extract (R : Rel w0 φ H w) (he : ERel φ e a.tmps) {i : Nat} {x : Operand} {x' : AArg} (ho : o.op = .extract x i) (hx : carg x = some x') {vs : List AV} {v : AV} (hv : x'.ev e = .tup vs) (hi : vs[i]? = some v) : Does P w0 φ w a o v H := by
  have h0 := carg_rel he hx
  rw [hv] at h0; simp only [VRel] at h0
  obtain ⟨us, hu, hr⟩ := h0
  obtain ⟨u, hui, huv⟩ := hr.get hi
  refine Does.pure R (u := u) ?_ huv
  simp [execOp, ho, hu, Instr.extract, hui]

theorem does_sidx (R : Rel w0 φ H w) (he : ERel φ e a.tmps) {t : TypeId} {x y : Operand} {x' y' : AArg} (ho : o.op = .index t x y) (ht : P.underlying t = some .string) (hx : carg x = some x') (hy : carg y = some y') {s : ByteArray} {k : IntKind} {i : Int} (hv : x'.ev e = .str s) (hiv : y'.ev e = .int k i) (h0 : 0 ≤ i) {b : UInt8} (hb : s[i.toNat]? = some b) :
    Does P w0 φ w a o (.int .u8 b.toNat) H := by
  have hx0 := carg_rel he hx
  have hy0 := carg_rel he hy
  rw [hv] at hx0; rw [hiv] at hy0
  simp only [VRel] at hx0 hy0
  refine Does.pure R (u := .int .u8 b.toNat) ?_ rfl
  simp [execOp, ho, hx0, hy0, Instr.index, asIntOf, run_underlying ht, h0, hb]

theorem mm2_rel {mx : Bool} {x y v : AV} {X Y : Value} (hx : VRel φ x X) (hy : VRel φ y Y) (h : mm2 mx x y = some v) : ∃ V, (if mx then Builtin.max2 X Y else Builtin.min2 X Y).run P w = .ok V w ∧ VRel φ v V := by
  unfold mm2 at h
  split at h
  · rename_i k n k' m
    simp only [VRel] at hx hy
    subst hx; subst hy
    simp only [Option.some.injEq] at h
    subst h
    cases mx
    · exact ⟨.int k (if m < n then m else n), by simp [Builtin.min2], rfl⟩
    · exact ⟨.int k (if m > n then m else n), by simp [Builtin.max2], rfl⟩
  · cases h
theorem mmf_rel {mx : Bool} : ∀ {l : List AV} {L : List Value} {x v : AV} {X : Value}, VRels φ l L → VRel φ x X → l.foldlM (mm2 mx) x = some v →
    ∃ V, (L.foldlM (fun a b => if mx then Builtin.max2 a b else Builtin.min2 a b) X).run P w = .ok V w ∧ VRel φ v V
  | [], L, x, v, X, hl, hx, h => by
    simp only [VRels] at hl; subst hl
    simp only [List.foldlM_nil, pure, Option.some.injEq] at h
    subst h
    exact ⟨X, by simp, hx⟩
  | y :: l, L, x, v, X, hl, hx, h => by
    simp only [VRels] at hl
    obtain ⟨Y, r, rfl, hy, hr⟩ := hl
    simp only [List.foldlM_cons, bind, Option.bind_eq_some_iff] at h
    obtain ⟨z, hz, h⟩ := h
    obtain ⟨Z, hZ, hzZ⟩ := mm2_rel (P := P) (w := w) hx hy hz
    obtain ⟨V, hV, hv⟩ := mmf_rel hr hzZ h
    refine ⟨V, ?_, hv⟩
    rw [List.foldlM_cons, Sem.run_bind, hZ]
    exact hV
theorem mmV_rel {mx : Bool} {l : List AV} {L : List Value} {v : AV} (hl : VRels φ l L) (h : mmV mx l = some v) (ats : Array TypeId) (ty : TypeId) :
    ∃ V, (if mx then Builtin.max_ ats ty L.toArray else Builtin.min_ ats ty L.toArray).run P w = .ok V w ∧ VRel φ v V := by
  cases l with
  | nil => cases h
  | cons x r =>
    simp only [VRels] at hl
    obtain ⟨X, R, rfl, hx, hr⟩ := hl
    simp only [mmV] at h
    obtain ⟨V, hV, hv⟩ := mmf_rel (P := P) (w := w) hr hx h
    refine ⟨V, ?_, hv⟩
    cases mx
    · simpa [Builtin.min_] using hV
    · simpa [Builtin.max_] using hV

theorem does_minmax (R : Rel w0 φ H w) (he : ERel φ e a.tmps) {mx : Bool} {c : Call} {l : List AArg} (ho : o.op = .call c) (hc : c.callee = .builtin (if mx then .max else .min)) (hl : cargs c.args.toList = some l) {v : AV} (hv : mmV mx (l.map (·.ev e)) = some v) :
    Does P w0 φ w a o v H := by
  obtain ⟨V, hV, hvV⟩ := mmV_rel (P := P) (w := w) (cargs_rel he hl) hv c.argTypes o.type
  refine Does.pure R (u := V) ?_ hvV
  cases mx
  · simp only [if_neg (Bool.false_ne_true)] at hV hc
    rw [toArray_map] at hV
    simp [execOp, ho, resolve, hc, invoke, builtin, hV]
  · simp only [if_true] at hV hc
    rw [toArray_map] at hV
    simp [execOp, ho, resolve, hc, invoke, builtin, hV]

/-- A pointer that is live. -/
theorem ptr_rel (R : Rel w0 φ H w) {id ver off : Nat} {v : Value} (h : VRel φ (.ptr id ver off) v) (hl : (H.cells id ver).isSome = true) : ∃ L, φ[id]? = some L ∧ L.ver = ver ∧ v = .pointer (some ⟨L.b, L.o + off, none⟩) := by
  obtain ⟨cs, hcs⟩ := Heap.cells_isSome hl
  obtain ⟨L, vs, hL, hv, _⟩ := R.read hcs
  simp only [VRel] at h
  obtain ⟨L', hL', _, _, he⟩ := h
  rw [hL] at hL'
  simp only [Option.some.injEq] at hL'
  subst hL'
  exact ⟨L, hL, hv.symm, he hv⟩
theorem ptr_mk {id ver off : Nat} {L : Loc} (hL : φ[id]? = some L) (hv : L.ver = ver) : VRel φ (.ptr id ver off) (.pointer (some ⟨L.b, L.o + off, none⟩)) := by
  simp only [VRel]
  exact ⟨L, hL, by omega, ⟨_, rfl⟩, fun _ => rfl⟩
theorem sl_rel (R : Rel w0 φ H w) {id ver off len : Nat} {lim : Bool} {v : Value} (h : VRel φ (.sl id ver off len lim) v) (hl : (H.cells id ver).isSome = true) :
    ∃ L, φ[id]? = some L ∧ L.ver = ver ∧ ∃ cap p, v = .slice (some ⟨L.b, p, none⟩) len cap ∧ len ≤ cap ∧ (0 < cap → p = L.o + off) ∧ (L.rw = true → off + cap * L.sz ≤ L.n) ∧ (lim = true → cap = len) := by
  obtain ⟨cs, hcs⟩ := Heap.cells_isSome hl
  obtain ⟨L, vs, hL, hv, _⟩ := R.read hcs
  simp only [VRel] at h
  obtain ⟨L', hL', _, _, he⟩ := h
  rw [hL] at hL'
  simp only [Option.some.injEq] at hL'
  subst hL'
  exact ⟨L, hL, hv.symm, he hv⟩
theorem sl_mk {id ver off len cap p : Nat} {lim : Bool} {L : Loc} (hL : φ[id]? = some L) (hv : L.ver = ver) (h1 : len ≤ cap) (h2 : 0 < cap → p = L.o + off) (h3 : L.rw = true → off + cap * L.sz ≤ L.n) (h4 : lim = true → cap = len) :
    VRel φ (.sl id ver off len lim) (.slice (some ⟨L.b, p, none⟩) len cap) := by
  simp only [VRel]
  exact ⟨L, hL, by omega, ⟨_, _, _, rfl⟩, fun _ => ⟨cap, p, rfl, h1, h2, h3, h4⟩⟩

theorem does_nilchk (R : Rel w0 φ H w) (he : ERel φ e a.tmps) {x : Operand} {x' : AArg} (ho : o.op = .nilCheck x) (hx : carg x = some x') {r : AV × Heap} (hv : (match x'.ev e with
    | .ptr id ver o => if (H.cells id ver).isSome then some (AV.ptr id ver o, H) else none
    | .fn f cs => some (.fn f cs, H)
    | _ => none) = some r) : Does P w0 φ w a o r.1 r.2 := by
  have h0 := carg_rel he hx
  split at hv
  · rename_i id ver off hxv
    split at hv
    · rename_i hl
      simp only [Option.some.injEq] at hv; subst hv
      rw [hxv] at h0
      obtain ⟨L, hL, hv, hp⟩ := ptr_rel R h0 hl
      exact Does.pure R (u := .pointer (some ⟨L.b, L.o + off, none⟩)) (by simp [execOp, ho, hp]) (ptr_mk hL hv)
    · cases hv
  · rename_i f cs hxv
    simp only [Option.some.injEq] at hv; subst hv
    rw [hxv] at h0
    have h0' := h0
    simp only [VRel] at h0
    obtain ⟨vs, hvs, hr⟩ := h0
    exact Does.pure R (u := .func (.func f) #[] vs.toArray) (by simp [execOp, ho, hvs]) (by rw [← hvs]; exact h0')
  · cases hv

theorem run_sizeOf' {t : TypeId} (h : (P.info? t).isSome = true) (w : World) : (sizeOf t).run P w = .ok (P.cellsOf t) w := by
  obtain ⟨i, hi⟩ := Option.isSome_iff_exists.1 h
  simp [sizeOf, typeInfo, hi, Program.cellsOf]
theorem run_typeInfo' {t : TypeId} {i : TypeInfo} (h : P.info? t = some i) (w : World) : (typeInfo t).run P w = .ok i w := by simp [typeInfo, h]

theorem does_padd (R : Rel w0 φ H w) (he : ERel φ e a.tmps) {s : TypeId} {fs : Array Field} {f : Nat} {fd : Field} {x : Operand} {x' : AArg} (ho : o.op = .fieldAddr s x f) (hs : P.underlying s = some (.struct fs)) (hf : fs[f]? = some fd)
    (hi : (P.info? fd.type).isSome = true) (hz : P.cellsOf fd.type ≠ 0) (hx : carg x = some x') {id ver off : Nat} (hv : x'.ev e = .ptr id ver off) (hl : (H.cells id ver).isSome = true) : Does P w0 φ w a o (.ptr id ver (off + fd.offset)) H := by
  have h0 := carg_rel he hx
  rw [hv] at h0
  obtain ⟨L, hL, hvr, hp⟩ := ptr_rel R h0 hl
  refine Does.pure R (u := .pointer (some ⟨L.b, L.o + (off + fd.offset), none⟩)) ?_ (ptr_mk hL hvr)
  simp [execOp, ho, hp, Instr.fieldAt, run_underlying hs, hf, Instr.sureAddr, fieldPlace, run_sizeOf' hi, hz, add_plain, Nat.add_assoc]

theorem does_iaddrA (R : Rel w0 φ H w) (he : ERel φ e a.tmps) {t el : TypeId} {n : Nat} {x y : Operand} {x' y' : AArg} (ho : o.op = .indexAddr t x y) (ht : P.underlying t = some (.array n el)) (hi : (P.info? el).isSome = true) (hx : carg x = some x') (hy : carg y = some y')
    {id ver off : Nat} {k : IntKind} {i : Int} (hv : x'.ev e = .ptr id ver off) (hiv : y'.ev e = .int k i) (hl : (H.cells id ver).isSome = true) (h0 : 0 ≤ i) (h1 : i < n) : Does P w0 φ w a o (.ptr id ver (off + i.toNat * P.cellsOf el)) H := by
  have hx0 := carg_rel he hx
  have hy0 := carg_rel he hy
  rw [hv] at hx0
  rw [hiv] at hy0
  simp only [VRel] at hy0
  obtain ⟨L, hL, hvr, hp⟩ := ptr_rel R hx0 hl
  refine Does.pure R (u := .pointer (some ⟨L.b, L.o + (off + i.toNat * P.cellsOf el), none⟩)) ?_ (ptr_mk hL hvr)
  simp [execOp, ho, hp, hy0, Instr.indexAt, asIntOf, run_underlying ht, Instr.sureAddr, h0, h1, run_sizeOf' hi, add_plain, Nat.add_assoc]

theorem does_iaddrS (R : Rel w0 φ H w) (he : ERel φ e a.tmps) {t el : TypeId} {x y : Operand} {x' y' : AArg} (ho : o.op = .indexAddr t x y) (ht : P.underlying t = some (.slice el)) (hi : (P.info? el).isSome = true) (hx : carg x = some x') (hy : carg y = some y')
    {id ver off len : Nat} {lim : Bool} {k : IntKind} {i : Int} (hv : x'.ev e = .sl id ver off len lim) (hiv : y'.ev e = .int k i) (hl : (H.cells id ver).isSome = true) (h0 : 0 ≤ i) (h1 : i < len) : Does P w0 φ w a o (.ptr id ver (off + i.toNat * P.cellsOf el)) H := by
  have hx0 := carg_rel he hx
  have hy0 := carg_rel he hy
  rw [hv] at hx0
  rw [hiv] at hy0
  simp only [VRel] at hy0
  obtain ⟨L, hL, hvr, cap, p, hp, hc, hpo, _, _⟩ := sl_rel R hx0 hl
  have := hpo (by omega)
  subst this
  refine Does.pure R (u := .pointer (some ⟨L.b, L.o + (off + i.toNat * P.cellsOf el), none⟩)) ?_ (ptr_mk hL hvr)
  simp [execOp, ho, hp, hy0, Instr.indexAt, asIntOf, run_underlying ht, h0, h1, run_sizeOf' hi, add_plain, Nat.add_assoc]

theorem does_len (R : Rel w0 φ H w) (he : ERel φ e a.tmps) {t el : TypeId} {c : Call} {x : Operand} {x' : AArg} (ho : o.op = .call c) (hc : c.callee = .builtin .len) (hts : c.argTypes.toList = [t]) (has : c.args.toList = [x]) (ht : P.underlying t = some (.slice el)) (hx : carg x = some x')
    {v : AV} (hv : lenV H (x'.ev e) = some v) : Does P w0 φ w a o v H := by
  have hx0 := carg_rel he hx
  have e1 : c.argTypes = #[t] := by rw [← Array.toArray_toList (xs := c.argTypes), hts]
  have e2 : c.args = #[x] := by rw [← Array.toArray_toList (xs := c.args), has]
  unfold lenV at hv
  split at hv
  · rename_i hxv
    simp only [Option.some.injEq] at hv; subst hv
    rw [hxv] at hx0; simp only [VRel] at hx0
    exact Does.pure R (u := .int .i64 0) (by simp [execOp, ho, resolve, hc, invoke, builtin, Builtin.len_, e1, e2, hx0, run_underlying ht, goInt]) rfl
  · rename_i id ver off len lim hxv
    split at hv
    · rename_i hl
      simp only [Option.some.injEq] at hv; subst hv
      rw [hxv] at hx0
      obtain ⟨L, hL, hvr, cap, p, hp, _⟩ := sl_rel R hx0 hl
      exact Does.pure R (u := .int .i64 len) (by simp [execOp, ho, resolve, hc, invoke, builtin, Builtin.len_, e1, e2, hp, run_underlying ht, goInt]) rfl
    · cases hv
  · cases hv

/-! ### loads -/
theorem info_isSome_of {t : TypeId} {i : TypeInfo} (h : P.info? t = some i) : (P.info? t).isSome = true := by rw [h]; rfl
theorem run_isAgg' {t : TypeId} (h : (P.underlying t).isSome = true) (w : World) : (isAgg t).run P w = .ok (aggOf P t) w := by
  obtain ⟨d, hd⟩ := Option.isSome_iff_exists.1 h
  unfold aggOf
  cases d <;> simp [isAgg, run_underlying hd, hd]
theorem loadV_rel (R : Rel w0 φ H w) {p : AV} {V : Value} (hp : VRel φ p V) {t : TypeId} {i : TypeInfo} (hi : P.info? t = some i) (hu : (P.underlying t).isSome = true) {v : AV} (hv : loadV H (aggOf P t) i.size p = some v) :
    ∃ u, (Instr.loadAt t V).run P w = .ok u w ∧ VRel φ v u := by
  unfold loadV at hv
  split at hv
  · rename_i id ver off
    split at hv
    · rename_i cs hcs
      obtain ⟨L, hL, hvr, hV⟩ := ptr_rel R hp (by rw [hcs]; rfl)
      obtain ⟨L', vs, hL', _, hone, hrel, hread⟩ := R.read hcs
      rw [hL] at hL'
      simp only [Option.some.injEq] at hL'
      subst hL'
      subst hV
      have hlen := hrel.length
      unfold rdCells at hv
      split at hv
      · rename_i hagg
        split at hv
        · rename_i hfit
          simp only [Option.some.injEq] at hv
          subst hv
          have hl : ((vs.drop off).take i.size).length = i.size := by simp; omega
          have hr := run_loadCells_list (P := P) w ⟨L.b, L.o + off, none⟩ ((vs.drop off).take i.size) (fun j u hu => by
            rw [List.getElem?_take] at hu
            split at hu
            · rw [List.getElem?_drop] at hu
              rw [add_plain, Nat.add_assoc]
              exact hread _ _ hu
            · cases hu)
          rw [hl] at hr
          refine ⟨.agg ((vs.drop off).take i.size).toArray, ?_, ?_⟩
          · have hs := run_sizeOf' (info_isSome_of hi) w
            have hc : P.cellsOf t = i.size := by simp [Program.cellsOf, hi]
            rw [hc] at hs
            simp only [Instr.loadAt, Instr.sureAddr, Sem.run_bind, Sem.run_pure, Result.andThen_ok, loadVar, run_isAgg' hu, hagg, if_true, hs, hr]
          · simp only [VRel]
            refine ⟨?_, _, rfl, (hrel.drop off).take i.size⟩
            rw [List.all_eq_true] at hone ⊢
            exact fun x hx => hone x (List.mem_of_mem_drop (List.mem_of_mem_take hx))
        · cases hv
      · rename_i hagg
        obtain ⟨u, hu1, huv⟩ := hrel.get hv
        refine ⟨u, ?_, huv⟩
        simp only [Instr.loadAt, Instr.sureAddr, Sem.run_bind, Sem.run_pure, Result.andThen_ok, loadVar, run_isAgg' hu, hagg, run_load, hread _ _ hu1, Bool.false_eq_true, if_false]
    · cases hv
  · cases hv
theorem does_load (R : Rel w0 φ H w) (he : ERel φ e a.tmps) {t : TypeId} {i : TypeInfo} {x : Operand} {x' : AArg} (ho : o.op = .load t x) (hi : P.info? t = some i) (hu : (P.underlying t).isSome = true) (hx : carg x = some x') {v : AV}
    (hv : loadV H (aggOf P t) i.size (x'.ev e) = some v) : Does P w0 φ w a o v H := by
  obtain ⟨u, hr, huv⟩ := loadV_rel (P := P) R (carg_rel he hx) hi hu hv
  exact Does.pure R (u := u) (by simp [execOp, ho, hr]) huv
end
end Go.AM
