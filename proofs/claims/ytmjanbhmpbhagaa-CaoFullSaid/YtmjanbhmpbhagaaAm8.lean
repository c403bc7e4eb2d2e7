/- WHAT MAKES OR WRITES MEMORY: the program's form does what the abstract machine says. Conditions: those of each theorem. -/
import Derived.Test.YtmjanbhmpbhagaaAm7
set_option linter.unusedVariables false
set_option linter.unusedSimpArgs false
namespace Go.AM
open Go.RowKit

section
variable {P : Program} {w0 w : World} {φ : Map} {H : Heap} {a : Act} {e : Env} {o : Oper}

theorem cellsOf_rel {x : AV} {X : Value} (hx : VRel φ x X) {cs : List AV} (h : x.cellsOf = some cs) : VRels φ cs X.cells.toList ∧ cs.all AV.one = true := by
  cases x <;> simp only [AV.cellsOf, Option.some.injEq, reduceCtorEq] at h <;> subst h
  case agg cs =>
    simp only [VRel] at hx
    obtain ⟨h1, vs, rfl, hr⟩ := hx
    exact ⟨by simpa [Value.cells] using hr, h1⟩
  all_goals
    refine ⟨?_, by simp [AV.one]⟩
    have h1 := hx.one (by simp [AV.one])
    have e1 : X.cells = #[X] := by cases X <;> simp [Value.oneCell', Value.cells] at h1 ⊢
    rw [e1]
    exact VRels.cons hx VRels.nil

theorem does_index (R : Rel w0 φ H w) (he : ERel φ e a.tmps) {t el : TypeId} {n : Nat} {x y : Operand} {x' y' : AArg} (ho : o.op = .index t x y) (ht : P.underlying t = some (.array n el)) (hi : (P.info? el).isSome = true) (hu : (P.underlying el).isSome = true)
    (hx : carg x = some x') (hy : carg y = some y') {cs : List AV} {k : IntKind} {i : Int} (hv : x'.ev e = .agg cs) (hiv : y'.ev e = .int k i) (h0 : 0 ≤ i) (h1 : i < n) {v : AV} (hr : rdCells cs (aggOf P el) (i.toNat * P.cellsOf el) (P.cellsOf el) = some v) : Does P w0 φ w a o v H := by
  have hx0 := carg_rel he hx
  have hy0 := carg_rel he hy
  rw [hv] at hx0
  rw [hiv] at hy0
  simp only [VRel] at hx0 hy0
  obtain ⟨hone, vs, hX, hrel⟩ := hx0
  have hlen := hrel.length
  unfold rdCells at hr
  split at hr
  · rename_i hagg
    split at hr
    · rename_i hfit
      simp only [Option.some.injEq] at hr
      subst hr
      refine Does.pure R (u := .agg (vs.toArray.extract (i.toNat * P.cellsOf el) (i.toNat * P.cellsOf el + P.cellsOf el))) ?_ ?_
      · simp [execOp, ho, hX, hy0, Instr.index, asIntOf, run_underlying ht, h0, h1, run_sizeOf' hi, part, run_isAgg' hu, hagg]
      · simp only [VRel]
        refine ⟨?_, (vs.drop (i.toNat * P.cellsOf el)).take (P.cellsOf el), ?_, (hrel.drop _).take _⟩
        · rw [List.all_eq_true] at hone ⊢
          exact fun x hx => hone x (List.mem_of_mem_drop (List.mem_of_mem_take hx))
        · congr 1
          apply Array.ext'
          rw [Array.toList_extract]
          simp [List.extract]
    · cases hr
  · rename_i hagg
    obtain ⟨u, hu1, huv⟩ := hrel.get hr
    have hagg' : aggOf P el = false := by simpa using hagg
    refine Does.pure R (u := u) ?_ huv
    simp [execOp, ho, hX, hy0, Instr.index, asIntOf, run_underlying ht, h0, h1, run_sizeOf' hi, part, run_isAgg' hu, hagg', hu1]

theorem does_fld (R : Rel w0 φ H w) (he : ERel φ e a.tmps) {t : TypeId} {fs : Array Field} {fd : Field} {f : Nat} {x : Operand} {x' : AArg} (ho : o.op = .field t x f) (ht : P.underlying t = some (.struct fs)) (hfd : fs[f]? = some fd) (hi : (P.info? fd.type).isSome = true) (hu : (P.underlying fd.type).isSome = true)
    (hx : carg x = some x') {cs : List AV} (hv : x'.ev e = .agg cs) {v : AV} (hr : rdCells cs (aggOf P fd.type) fd.offset (P.cellsOf fd.type) = some v) : Does P w0 φ w a o v H := by
  have hx0 := carg_rel he hx
  rw [hv] at hx0
  simp only [VRel] at hx0
  obtain ⟨hone, vs, hX, hrel⟩ := hx0
  have hlen := hrel.length
  unfold rdCells at hr
  split at hr
  · rename_i hagg
    split at hr
    · rename_i hfit
      simp only [Option.some.injEq] at hr
      subst hr
      refine Does.pure R (u := .agg (vs.toArray.extract fd.offset (fd.offset + P.cellsOf fd.type))) ?_ ?_
      · simp [execOp, ho, hX, Instr.field, asAgg, hfd, run_underlying ht, run_sizeOf' hi, part, run_isAgg' hu, hagg]
      · simp only [VRel]
        refine ⟨?_, (vs.drop fd.offset).take (P.cellsOf fd.type), ?_, (hrel.drop _).take _⟩
        · rw [List.all_eq_true] at hone ⊢
          exact fun x hx => hone x (List.mem_of_mem_drop (List.mem_of_mem_take hx))
        · congr 1
          apply Array.ext'
          rw [Array.toList_extract]
          simp [List.extract]
    · cases hr
  · rename_i hagg
    obtain ⟨u, hu1, huv⟩ := hrel.get hr
    have hagg' : aggOf P fd.type = false := by simpa using hagg
    refine Does.pure R (u := u) ?_ huv
    simp [execOp, ho, hX, Instr.field, asAgg, hfd, run_underlying ht, run_sizeOf' hi, part, run_isAgg' hu, hagg', hu1]

/-! ### parts put together -/
theorem foldl_put : ∀ (us : List Value) (k off : Nat) (cells : Array Value), (us.zipIdx k).foldl (fun cs (p : Value × Nat) => cs.setIfInBounds (off + p.2) p.1) cells = (putVals cells.toList (off + k) us).toArray
  | [], k, off, cells => by simp [putVals]
  | u :: us, k, off, cells => by
    rw [List.zipIdx_cons, List.foldl_cons, foldl_put us (k + 1) off]
    simp [putVals, Nat.add_assoc]

theorem fill_rel (he : ERel φ e a.tmps) {place : Nat → Option (Nat × Nat)} : ∀ {ps : List (Nat × Operand)} {qs : List (Nat × Nat × AArg)} {cs r : List AV} {cells : Array Value}, cparts place ps = some qs → fillCells e cs qs = some r → VRels φ cs cells.toList → cs.all AV.one = true →
    ∃ cells', Instr.fill place cells (ps.map fun (p : Nat × Operand) => (p.1, a.eval p.2)) = some cells' ∧ VRels φ r cells'.toList ∧ r.all AV.one = true
  | [], qs, cs, r, cells, h1, h2, h3, h4 => by
    simp only [cparts, Option.some.injEq] at h1
    subst h1
    simp only [fillCells, Option.some.injEq] at h2
    subst h2
    exact ⟨cells, rfl, h3, h4⟩
  | (i, x) :: ps, qs, cs, r, cells, h1, h2, h3, h4 => by
    simp only [cparts] at h1
    split at h1
    · rename_i off n ax l hp hx hl
      simp only [Option.some.injEq] at h1
      subst h1
      simp only [fillCells] at h2
      split at h2
      · rename_i vs hvs
        split at h2
        · rename_i hfit
          obtain ⟨hn, hle⟩ := hfit
          obtain ⟨hrel, hone⟩ := cellsOf_rel (carg_rel he hx) hvs
          have hl1 := hrel.length
          have hl2 := h3.length
          simp only [Array.length_toList] at hl1 hl2
          have hput := VRels.put off h3 hrel
          have hfold := foldl_put (a.eval x).cells.toList 0 off cells
          have e1 : ((a.eval x).cells.zipIdx.foldl (fun cs (p : Value × Nat) => cs.setIfInBounds (off + p.2) p.1) cells) = (putVals cells.toList off (a.eval x).cells.toList).toArray := by
            rw [← Array.foldl_toList, Array.toList_zipIdx, hfold]
            simp
          obtain ⟨cells', g1, g2, g3⟩ := fill_rel he (cells := (putVals cells.toList off (a.eval x).cells.toList).toArray) hl h2 (by simpa using hput) (putCells_all vs cs off h4 hone)
          refine ⟨cells', ?_, g2, g3⟩
          rw [List.map_cons]
          simp only [Instr.fill, hp]
          have c1 : ¬ ((a.eval x).cells.size ≠ n ∨ off + (a.eval x).cells.size > cells.size) := by omega
          simp only [bne_iff_ne, ne_eq, Bool.or_eq_true, decide_eq_true_eq, decide_not, Bool.not_eq_eq_eq_not, Bool.not_true, decide_eq_false_iff_not] at c1 ⊢
          rw [if_neg (by simpa using c1), e1]
          exact g1
        · cases h2
      · cases h2
    · cases h1

theorem zeroOf_rel {t : TypeId} {zs : List AV} (h : zeroOf P t = some zs) : ∃ i z, P.info? t = some i ∧ i.zero = some z ∧ VRels φ zs z.cells.toList ∧ zs.all AV.one = true := by
  unfold zeroOf at h
  split at h
  · rename_i i hi
    split at h
    · rename_i z hz
      obtain ⟨h1, h2⟩ := cvals_rel (φ := φ) h
      exact ⟨i, z, hi, hz, h1, h2⟩
    · cases h
  · cases h

theorem run_zeroValue' {t : TypeId} {i : TypeInfo} {z : Value} (hi : P.info? t = some i) (hz : i.zero = some z) (w : World) : (zeroValue t).run P w = .ok z w := by simp [zeroValue, typeInfo, hi, hz]

theorem mapM_places : ∀ (fs : List Field), (∀ f ∈ fs, (P.info? f.type).isSome = true) → ∀ w, ((fs.mapM fun f => do pure (f.offset, ← sizeOf f.type) : Sem (List (Nat × Nat)))).run P w = .ok (fs.map fun f => (f.offset, P.cellsOf f.type)) w
  | [], _, w => by simp
  | f :: fs, h, w => by
    rw [List.mapM_cons]
    have h1 := run_sizeOf' (h f (by simp)) w
    have ih := mapM_places fs (fun g hg => h g (by simp [hg])) w
    simp only [Sem.run_bind, h1, Result.andThen_ok, Sem.run_pure, ih, List.map_cons]

theorem does_build_struct (R : Rel w0 φ H w) (he : ERel φ e a.tmps) {t : TypeId} {fs : Array Field} {ps : Array (Nat × Operand)} {qs : List (Nat × Nat × AArg)} {zs r : List AV} (ho : o.op = .build t ps) (ht : P.underlying t = some (.struct fs)) (hz : zeroOf P t = some zs)
    (hall : fs.all (fun f => (P.info? f.type).isSome) = true) (hq : cparts (fun i => (fs[i]?).map fun f => (f.offset, P.cellsOf f.type)) ps.toList = some qs) (hr : fillCells e zs qs = some r) : Does P w0 φ w a o (.agg r) H := by
  obtain ⟨i, z, hi, hzz, hrel, hone⟩ := zeroOf_rel (φ := φ) hz
  obtain ⟨cells', g1, g2, g3⟩ := fill_rel he hq hr (cells := z.cells) hrel hone
  refine Does.pure R (u := .agg cells') ?_ ?_
  · have hm := mapM_places (P := P) fs.toList (fun f hf => (Array.all_eq_true_iff_forall_mem.1 hall) f (by simpa using hf)) w
    have hm' : ((fs.mapM fun f => do pure (f.offset, ← sizeOf f.type) : Sem (Array (Nat × Nat)))).run P w = .ok (fs.map fun f => (f.offset, P.cellsOf f.type)) w := by
      rw [← Array.toArray_toList (xs := fs), List.mapM_toArray, Sem.run_map, hm]
      simp only [Result.andThen_ok, List.map_toArray]
    have e1 : (ps.map fun (x : Nat × Operand) => (x.1, a.eval x.2)).toList = ps.toList.map fun (x : Nat × Operand) => (x.1, a.eval x.2) := by simp
    have e2 : (fun (i : Nat) => (fs.map fun (f : Field) => (f.offset, P.cellsOf f.type))[i]?) = (fun (i : Nat) => (fs[i]?).map fun (f : Field) => (f.offset, P.cellsOf f.type)) := by
      funext j; simp
    simp only [execOp, ho, Instr.build, Sem.run_bind, run_zeroValue' hi hzz, Result.andThen_ok, run_underlying ht, hm', e1, e2, g1, Sem.run_pure]
  · simp only [VRel]
    exact ⟨g3, cells'.toList, by simp, g2⟩

theorem does_build_array (R : Rel w0 φ H w) (he : ERel φ e a.tmps) {t el : TypeId} {n : Nat} {ps : Array (Nat × Operand)} {qs : List (Nat × Nat × AArg)} {zs r : List AV} (ho : o.op = .build t ps) (ht : P.underlying t = some (.array n el)) (hz : zeroOf P t = some zs)
    (hel : (P.info? el).isSome = true) (hq : cparts (fun i => some (i * P.cellsOf el, P.cellsOf el)) ps.toList = some qs) (hr : fillCells e zs qs = some r) : Does P w0 φ w a o (.agg r) H := by
  obtain ⟨i, z, hi, hzz, hrel, hone⟩ := zeroOf_rel (φ := φ) hz
  obtain ⟨cells', g1, g2, g3⟩ := fill_rel he hq hr (cells := z.cells) hrel hone
  refine Does.pure R (u := .agg cells') ?_ ?_
  · have e1 : (ps.map fun (x : Nat × Operand) => (x.1, a.eval x.2)).toList = ps.toList.map fun (x : Nat × Operand) => (x.1, a.eval x.2) := by simp
    simp only [execOp, ho, Instr.build, Sem.run_bind, run_zeroValue' hi hzz, Result.andThen_ok, run_underlying ht, run_sizeOf' hel, e1, g1, Sem.run_pure]
  · simp only [VRel]
    exact ⟨g3, cells'.toList, by simp, g2⟩

/-! ### new blocks -/
theorem Does.made (R : Rel w0 φ H w) {cs : List AV} {c : Array Value} {t : TypeId} (sz : Nat) (h1 : cs.all AV.one = true) (hl : cs.length ≤ c.size) (hr : VRels φ cs (c.toList.take cs.length)) {v : AV} {u : Value}
    (hrun : (execOp a.eval o).run P w = .ok (.value u) (w.alloc (.cells c t))) (hv : VRel (φ ++ [{ b := w.heap.size, o := 0, n := c.size, sz := sz, ver := 0, rw := true }]) v u) : Does P w0 φ w a o v (H ++ [.rw 0 sz cs]) :=
  ⟨_, _, Ext.append _ _, R.alloc sz h1 hl hr, .inr ⟨u, hrun, hv⟩⟩

theorem new_ptr (R : Rel w0 φ H w) (L : Loc) (hv : L.ver = 0) (ho : L.o = 0) : VRel (φ ++ [L]) (.ptr H.length 0 0) (.pointer (some ⟨L.b, 0, none⟩)) := by
  have h := ptr_mk (φ := φ ++ [L]) (id := H.length) (ver := 0) (off := 0) (L := L) (by rw [← R.len]; simp) hv
  simpa [ho] using h

theorem does_alloc (R : Rel w0 φ H w) {t : TypeId} {zs : List AV} (ho : o.op = .alloc t) (hz : zeroOf P t = some zs) : Does P w0 φ w a o (.ptr H.length 0 0) (H ++ [.rw 0 zs.length zs]) := by
  obtain ⟨i, z, hi, hzz, hrel, hone⟩ := zeroOf_rel (φ := φ) hz
  have hlen := hrel.length
  simp only [Array.length_toList] at hlen
  refine Does.made R (c := z.cells) (t := t) zs.length hone (by omega) (by rw [List.take_of_length_le (by simp; omega)]; exact hrel) (u := .pointer (some ⟨w.heap.size, 0, none⟩)) ?_ (new_ptr R _ rfl rfl)
  simp only [execOp, ho, Instr.alloc, Sem.run_bind, run_zeroValue' hi hzz, Result.andThen_ok, newVar, newRow, run_newObj, Sem.run_pure]
  rfl

theorem does_box (R : Rel w0 φ H w) (he : ERel φ e a.tmps) {t : TypeId} {x : Operand} {x' : AArg} (ho : o.op = .box t x) (hx : carg x = some x') {cs : List AV} (hc : (x'.ev e).cellsOf = some cs) : Does P w0 φ w a o (.ptr H.length 0 0) (H ++ [.rw 0 cs.length cs]) := by
  obtain ⟨hrel, hone⟩ := cellsOf_rel (carg_rel he hx) hc
  have hlen := hrel.length
  simp only [Array.length_toList] at hlen
  refine Does.made R (c := (a.eval x).cells) (t := t) cs.length hone (by omega) (by rw [List.take_of_length_le (by simp; omega)]; exact hrel) (u := .pointer (some ⟨w.heap.size, 0, none⟩)) ?_ (new_ptr R _ rfl rfl)
  simp only [execOp, ho, Instr.box, Sem.run_bind, newVar, newRow, run_newObj, Result.andThen_ok, Sem.run_pure]
  rfl

theorem new_sl (R : Rel w0 φ H w) (L : Loc) (hv : L.ver = 0) (ho : L.o = 0) {len cap : Nat} {lim : Bool} (h1 : len ≤ cap) (h3 : cap * L.sz ≤ L.n) (h4 : lim = true → cap = len) : VRel (φ ++ [L]) (.sl H.length 0 0 len lim) (.slice (some ⟨L.b, 0, none⟩) len cap) :=
  sl_mk (φ := φ ++ [L]) (id := H.length) (ver := 0) (off := 0) (L := L) (by rw [← R.len]; simp) hv h1 (fun _ => by omega) (fun _ => by omega) h4

theorem rep_rel {zs : List AV} {zv : List Value} (h : VRels φ zs zv) (n : Nat) : VRels φ ((List.range n).map fun j => zs.getD (j % zs.length) .undef) ((List.range n).map fun j => zv.getD (j % zv.length) undef) ∨ zs = [] := by
  by_cases h0 : zs = []
  · exact .inr h0
  · refine .inl (VRels_iff.2 ⟨by simp, fun i c v hc hv => ?_⟩)
    have hl := h.length
    have hpos : 0 < zs.length := List.length_pos_iff.2 h0
    simp only [List.getElem?_map, Option.map_eq_some_iff] at hc hv
    obtain ⟨j, hj, rfl⟩ := hc
    obtain ⟨j', hj', rfl⟩ := hv
    rw [hj] at hj'
    simp only [Option.some.injEq] at hj'
    subst hj'
    have hm : j % zs.length < zs.length := Nat.mod_lt _ hpos
    have hg := h.get (List.getElem?_eq_getElem hm)
    obtain ⟨v, hv, hrel⟩ := hg
    rw [← hl]
    simp only [List.getD, List.getElem?_eq_getElem hm, hv, Option.getD_some]
    exact hrel

theorem rep_one {zs : List AV} (h : zs.all AV.one = true) (n : Nat) (h0 : zs ≠ []) : ((List.range n).map fun j => zs.getD (j % zs.length) AV.undef).all AV.one = true := by
  rw [List.all_eq_true] at h ⊢
  intro x hx
  simp only [List.mem_map] at hx
  obtain ⟨j, _, rfl⟩ := hx
  have hm : j % zs.length < zs.length := Nat.mod_lt _ (List.length_pos_iff.2 h0)
  simp only [List.getD, List.getElem?_eq_getElem hm, Option.getD_some]
  exact h _ (List.getElem_mem hm)

/-- The cells that the model lays: a zero value again and again. -/
theorem modelRep (z : Array Value) (n : Nat) (h : z.size ≠ 0) : (((Array.range n).map fun k => z[k % z.size]!)).toList = (List.range n).map fun j => z.toList.getD (j % z.toList.length) undef := by
  simp only [Array.toList_map, Array.toList_range]
  apply List.map_congr_left
  intro j _
  have hm : j % z.size < z.size := Nat.mod_lt _ (by omega)
  simp [hm, List.getD]

theorem does_bslice (R : Rel w0 φ H w) (he : ERel φ e a.tmps) {t el : TypeId} {i : TypeInfo} {n : Nat} {ps : Array (Nat × Operand)} {qs : List (Nat × Nat × AArg)} {z r : List AV} (ho : o.op = .buildSlice t n ps) (ht : P.underlying t = some (.slice el)) (hi : P.info? el = some i) (hz : zeroOf P el = some z)
    (hn : n * i.size ≤ 16777216) (hzl : z.length = i.size) (hq : cparts (fun j => some (j * i.size, i.size)) ps.toList = some qs) (hr : fillCells e ((List.range (n * i.size)).map fun j => z.getD (j % z.length) .undef) qs = some r) :
    Does P w0 φ w a o (.sl H.length 0 0 n true) (H ++ [.rw 0 i.size r]) := by
  obtain ⟨i', zv, hi', hzz, hrel, hone⟩ := zeroOf_rel (φ := φ) hz
  rw [hi] at hi'
  simp only [Option.some.injEq] at hi'
  subst hi'
  have hzv := hrel.length
  simp only [Array.length_toList] at hzv
  have hsz := run_sizeOf' (info_isSome_of hi) w
  have hc : P.cellsOf el = i.size := by simp [Program.cellsOf, hi]
  rw [hc] at hsz
  have start : ∃ cells : Array Value, VRels φ ((List.range (n * i.size)).map fun j => z.getD (j % z.length) .undef) cells.toList ∧ ((List.range (n * i.size)).map fun j => z.getD (j % z.length) AV.undef).all AV.one = true ∧ cells.size = n * i.size ∧
      cells = (Array.range (n * i.size)).map (fun k => (if n * i.size = 0 then (#[] : Array Value) else zv.cells)[k % (if n * i.size = 0 then (#[] : Array Value) else zv.cells).size]!) := by
    by_cases h0 : n * i.size = 0
    · refine ⟨#[], ?_, ?_, ?_, ?_⟩ <;> simp [h0, VRels]
    · have hz0 : z ≠ [] := by
        intro hz0
        subst hz0
        simp at hzl
        rw [← hzl] at h0
        simp at h0
      refine ⟨_, ?_, rep_one hone _ hz0, ?_, rfl⟩
      · rcases rep_rel hrel (n * i.size) with h1 | h1
        · simp only [if_neg h0]
          rw [modelRep _ _ (by have := List.length_pos_iff.2 hz0; omega)]
          exact h1
        · exact absurd h1 hz0
      · simp
  obtain ⟨cells, s1, s2, s3, s4⟩ := start
  obtain ⟨cells', g1, g2, g3⟩ := fill_rel he hq hr (cells := cells) s1 s2
  have hl2 := g2.length
  have hlr : r.length = n * i.size := by
    have : ∀ (qs : List (Nat × Nat × AArg)) (cs r : List AV), fillCells e cs qs = some r → r.length = cs.length := by
      intro qs
      induction qs with
      | nil => intro cs r h; simp only [fillCells, Option.some.injEq] at h; rw [h]
      | cons q qs ih =>
        intro cs r h
        obtain ⟨o, n, x⟩ := q
        simp only [fillCells] at h
        split at h
        · split at h
          · rw [ih _ _ h, putCells_length]
          · cases h
        · cases h
    rw [this qs _ r hr]
    simp
  simp only [Array.length_toList] at hl2
  refine Does.made R (c := cells') (t := el) i.size g3 (by omega) (by rw [List.take_of_length_le (by simp; omega)]; exact g2) (u := .slice (some ⟨w.heap.size, 0, none⟩) n n) ?_ (new_sl R _ rfl rfl (Nat.le_refl _) (by simp only; omega) (fun _ => rfl))
  have e1 : (ps.map fun (x : Nat × Operand) => (x.1, a.eval x.2)).toList = ps.toList.map fun (x : Nat × Operand) => (x.1, a.eval x.2) := by simp
  have hn' : ¬ n * i.size > 2 ^ 24 := by simp; omega
  simp only [execOp, ho, Instr.buildSlice, Sem.run_bind, run_underlying ht, Result.andThen_ok, hsz, hn', if_false, Sem.run_pure]
  by_cases h0 : n * i.size = 0
  · simp only [h0, if_true, Sem.run_bind, Sem.run_pure, Result.andThen_ok] at s4 ⊢
    rw [← s4]
    simp only [e1, g1, Sem.run_bind, newRow, run_newObj, Result.andThen_ok, Sem.run_pure]
    rfl
  · simp only [h0, if_false, Sem.run_bind, run_zeroValue' hi hzz, Result.andThen_ok, Sem.run_pure] at s4 ⊢
    rw [← s4]
    simp only [e1, g1, Sem.run_bind, newRow, run_newObj, Result.andThen_ok, Sem.run_pure]
    rfl

theorem flat_rep : ∀ (l : Nat) (zs : List AV) (m : Nat), l ≤ m → (List.replicate l zs).flatten = ((List.range (m * zs.length)).map fun j => zs.getD (j % zs.length) .undef).take (l * zs.length)
  | 0, zs, m, _ => by simp
  | l + 1, zs, m, h => by
    have ih := flat_rep l zs (m - 1) (by omega)
    obtain ⟨m, rfl⟩ : ∃ k, m = k + 1 := ⟨m - 1, by omega⟩
    simp only [Nat.add_sub_cancel] at ih
    rw [List.replicate_succ, List.flatten_cons, ih]
    apply List.ext_getElem?
    intro j
    by_cases hz : zs.length = 0
    · have : zs = [] := List.eq_nil_of_length_eq_zero hz
      subst this
      simp
    · by_cases hj : j < zs.length
      · rw [List.getElem?_append_left hj, List.getElem?_take, if_pos (by rw [Nat.add_mul]; omega), List.getElem?_map, List.getElem?_range (by rw [Nat.add_mul]; omega)]
        simp [Nat.mod_eq_of_lt hj, List.getD, hj]
      · rw [List.getElem?_append_right (by omega), List.getElem?_take, List.getElem?_take, Nat.add_mul, Nat.one_mul, Nat.add_mul]
        by_cases hj2 : j < l * zs.length + zs.length
        · have hlm : l * zs.length ≤ m * zs.length := Nat.mul_le_mul_right _ (by omega)
          rw [if_pos (by omega), if_pos hj2, List.getElem?_map, List.getElem?_map, List.getElem?_range (by omega), List.getElem?_range (by omega)]
          simp only [Option.map_some]
          congr 2
          rw [Nat.mod_eq_sub_mod (by omega : j ≥ zs.length)]
        · rw [if_neg (by omega), if_neg hj2]

theorem does_mkslice (R : Rel w0 φ H w) (he : ERel φ e a.tmps) {t el : TypeId} {i : TypeInfo} {l c : Operand} {l' c' : AArg} {z : List AV} (ho : o.op = .makeSlice t l c) (ht : P.underlying t = some (.slice el)) (hi : P.info? el = some i) (hz : zeroOf P el = some z)
    (hzl : z.length = i.size) (hpos : 0 < i.size) (hl : carg l = some l') (hc : carg c = some c') {r : AV × Heap} (hr : mkSliceV H i.size i.bytes z (l'.ev e) (c'.ev e) = some r) : Does P w0 φ w a o r.1 r.2 := by
  obtain ⟨i', zv, hi', hzz, hrel, hone⟩ := zeroOf_rel (φ := φ) hz
  rw [hi] at hi'
  simp only [Option.some.injEq] at hi'
  subst hi'
  have hzv := hrel.length
  simp only [Array.length_toList] at hzv
  have hsz := run_sizeOf' (info_isSome_of hi)
  have hce : P.cellsOf el = i.size := by simp [Program.cellsOf, hi]
  rw [hce] at hsz
  have hl0 := carg_rel he hl
  have hc0 := carg_rel he hc
  unfold mkSliceV at hr
  split at hr
  · rename_i k n k' m hlv hcv
    rw [hlv] at hl0
    rw [hcv] at hc0
    simp only [VRel] at hl0 hc0
    split at hr
    · rename_i hb
      obtain ⟨h0, h1, h2, h3⟩ := hb
      simp only [Option.some.injEq] at hr
      subst hr
      have hz0 : z ≠ [] := by
        intro hz0
        subst hz0
        simp at hzl
        omega
      have e2 := modelRep zv.cells (m.toNat * i.size) (by omega)
      have hw : ∀ q : Int, 0 ≤ q → q ≤ 140737488355328 → IntKind.i64.wrap q = q := fun q g1 g2 => by
        simp [IntKind.wrap, IntKind.bits, IntKind.signed]; omega
      have hfit : (n.toNat * i.size) ≤ m.toNat * i.size := Nat.mul_le_mul_right _ (by omega)
      have hcells : VRels φ ((List.range (m.toNat * i.size)).map fun j => z.getD (j % z.length) .undef) (((Array.range (m.toNat * i.size)).map fun k => zv.cells[k % zv.cells.size]!)).toList := by
        rw [e2]
        rcases rep_rel hrel (m.toNat * i.size) with h | h
        · exact h
        · exact absurd h hz0
      have hflat := flat_rep n.toNat z m.toNat (by omega)
      rw [hzl] at hflat
      have hlen : (List.replicate n.toNat z).flatten.length = n.toNat * i.size := by simp [hzl]
      have hnm : (n == m) = true → m.toNat = n.toNat := fun hh => by
        have : n = m := by simpa using hh
        rw [this]
      refine Does.made R (cs := (List.replicate n.toNat z).flatten) (c := ((Array.range (m.toNat * i.size)).map fun k => zv.cells[k % zv.cells.size]!)) (t := el) i.size ?_ (by rw [hlen]; simp; exact hfit) ?_ (u := .slice (some ⟨w.heap.size, 0, none⟩) n.toNat m.toNat) ?_ (new_sl R _ rfl rfl (by omega) (by simp) hnm)
      · rw [List.all_eq_true]
        intro x hx
        simp only [List.mem_flatten, List.mem_replicate] at hx
        obtain ⟨l, ⟨_, rfl⟩, hx⟩ := hx
        exact (List.all_eq_true.1 hone) x hx
      · rw [hlen, hflat]
        have := hcells.take (n.toNat * i.size)
        rw [hzl] at this
        exact this
      · have hbm : ¬ ((i.bytes : Int) * m > 2 ^ 48) := by rw [Int.mul_comm]; omega
        have hm0 : ¬ m < 0 := by omega
        have hl1 : ¬ n < 0 := by omega
        have hl2 : ¬ n > m := by omega
        have hne : ¬ m.toNat * i.size = 0 ∨ m.toNat = 0 := by
          by_cases hm : m.toNat = 0
          · exact .inr hm
          · left
            have : 0 < m.toNat * i.size := Nat.mul_pos (by omega) hpos
            omega
        simp only [execOp, ho, hl0, hc0, Instr.makeSlice, Sem.run_bind, run_underlying ht, Result.andThen_ok, asInt, asIntOf, Sem.run_pure, run_typeInfo' hi, hw n h0 (by omega), hw m (by omega) h3, hm0, hl1, hl2, hbm, decide_false, Bool.or_self, Bool.false_or, Bool.false_eq_true, if_false, run_askRoom, hsz]
        rcases hne with hne | hm
        · simp only [hne, if_false, Sem.run_bind, run_zeroValue' hi hzz, Result.andThen_ok, Sem.run_pure, newRow, run_newObj]
          rfl
        · simp only [hm, Nat.zero_mul, if_true, Sem.run_pure, Result.andThen_ok, Sem.run_bind, newRow, run_newObj]
          simp only [Array.range_zero', Array.map_empty]
          rfl
    · cases hr
  · cases hr
end
end Go.AM
