/- STORES, copy AND append: the program's form does what the abstract machine says. Conditions: those of each theorem. -/
import Derived.Test.YtmjanbhmpbhagaaAm8
set_option linter.unusedVariables false
set_option linter.unusedSimpArgs false
namespace Go.AM
open Go.RowKit

section
variable {P : Program} {w0 w : World} {φ : Map} {H : Heap} {a : Act} {e : Env} {o : Oper}

theorem does_store (R : Rel w0 φ H w) (he : ERel φ e a.tmps) {lim : Nat} {t : TypeId} {i : TypeInfo} {p x : Operand} {p' x' : AArg} (hd : o.dst = none) (ho : o.op = .store t p x) (hi : P.info? t = some i) (hp : carg p = some p') (hx : carg x = some x') {H' : Heap}
    (hs : storeV H lim i.size (p'.ev e) (x'.ev e) = some H') : Does P w0 φ w a o .undef H' := by
  have hp0 := carg_rel he hp
  unfold storeV at hs
  split at hs
  · rename_i id ver off vs hpv hcs
    obtain ⟨hrel, hone⟩ := cellsOf_rel (carg_rel he hx) hcs
    rw [hpv] at hp0
    split at hs
    · rename_i hn
      obtain ⟨L, hL, hv, hLo, w', hrun, R'⟩ := R.write (P := P) hs hrel hone
      have hlen := hrel.length
      simp only [Array.length_toList] at hlen
      simp only [VRel] at hp0
      obtain ⟨L', hL', _, _, hpt⟩ := hp0
      rw [hL] at hL'
      simp only [Option.some.injEq] at hL'
      subst hL'
      have hpe := hpt hv.symm
      rw [hLo, Nat.zero_add] at hpe
      refine ⟨φ, w', Ext.refl _, R', .inl ⟨hd, ?_⟩⟩
      have hsz := run_sizeOf' (info_isSome_of hi) w
      have hc : P.cellsOf t = i.size := by simp [Program.cellsOf, hi]
      rw [hc] at hsz
      have hne : ¬ ((a.eval x).cells.size ≠ i.size) := by omega
      simp only [execOp, ho, hpe, Instr.storeAt, Instr.sureAddr, Sem.run_bind, Sem.run_pure, Result.andThen_ok, storeVar, hsz, hne, if_false, hrun]
    · cases hs
  · cases hs

/-- The cells that a slice shows can be read. -/
theorem src_rel (R : Rel w0 φ H w) {sz n : Nat} {y : AV} {Y : Value} (hy : VRel φ y Y) {ys : List AV} (h : srcCells H sz n y = some ys) :
    ∃ us, VRels φ ys us ∧ ys.all AV.one = true ∧ ys.length = n * sz ∧ (Builtin.firstCells sz n Y).run P w = .ok us.toArray w ∧ ((Y = .slice none 0 0 ∧ n = 0) ∨ ∃ b len cap, Y = .slice (some b) len cap ∧ n ≤ len ∧ len ≤ cap ∧ ∀ (j : Nat) (u : Value), us[j]? = some u → w.cell? (b.add j) = some u) := by
  unfold srcCells at h
  split at h
  · simp only [VRel] at hy
    subst hy
    split at h
    · rename_i hn
      simp only [Option.some.injEq] at h
      subst h; subst hn
      exact ⟨[], VRels.nil, rfl, by simp, by simp [Builtin.firstCells], .inl ⟨rfl, rfl⟩⟩
    · cases h
  · rename_i id ver off len lim
    split at h
    · rename_i cs hcs
      split at h
      · rename_i hb
        simp only [Option.some.injEq] at h
        subst h
        obtain ⟨L, hL, hv, cap, p, hp, hcap, hpo, hfit, hlim⟩ := sl_rel R hy (by rw [hcs]; rfl)
        obtain ⟨L', vs, hL', _, hone, hrel, hread⟩ := R.read hcs
        rw [hL] at hL'
        simp only [Option.some.injEq] at hL'
        subst hL'
        subst hp
        have hl := hrel.length
        have hcells : ∀ (j : Nat) (u : Value), ((vs.drop off).take (n * sz))[j]? = some u → w.cell? ((⟨L.b, p, none⟩ : Addr).add j) = some u := by
          intro j u hu
          rw [List.getElem?_take] at hu
          split at hu
          · rename_i hj
            rw [List.getElem?_drop] at hu
            have hpos : 0 < cap := by
              rcases Nat.eq_zero_or_pos cap with h0 | h0
              · subst h0
                have : n = 0 := by omega
                subst this
                simp at hj
              · exact h0
            rw [add_plain, hpo hpos, Nat.add_assoc]
            exact hread _ _ hu
          · cases hu
        have hln : ((vs.drop off).take (n * sz)).length = n * sz := by simp; omega
        refine ⟨(vs.drop off).take (n * sz), (hrel.drop off).take _, ?_, by simp; omega, run_firstCells_some (P := P) w sz n ⟨L.b, p, none⟩ len cap _ hln hcells, .inr ⟨_, _, _, rfl, hb.1, hcap, hcells⟩⟩
        rw [List.all_eq_true] at hone ⊢
        exact fun x hx => hone x (List.mem_of_mem_drop (List.mem_of_mem_take hx))
      · cases h
    · cases h
  · cases h

theorem slen_rel {y : AV} {Y : Value} (hy : VRel φ y Y) {n : Nat} (h : y.slen = some n) (hl : okRef H y = true) (R : Rel w0 φ H w) : (Builtin.lenOf Y).run P w = .ok n w := by
  cases y <;> simp only [AV.slen, Option.some.injEq, reduceCtorEq] at h <;> subst h
  case nils => simp only [VRel] at hy; subst hy; simp [Builtin.lenOf]
  case sl id ver off len lim =>
    simp only [okRef] at hl
    obtain ⟨L, _, _, cap, p, hp, _⟩ := sl_rel R hy hl
    subst hp
    simp [Builtin.lenOf]

theorem srcCells_ok {sz n : Nat} {y : AV} {ys : List AV} (h : srcCells H sz n y = some ys) : okRef H y = true := by
  unfold srcCells at h
  cases y <;> simp only [okRef]
  case sl id ver off len lim =>
    simp only at h
    cases hc : H.cells id ver with
    | none => simp [hc] at h
    | some cs => rfl
  case ptr => simp at h

theorem does_copy (R : Rel w0 φ H w) (he : ERel φ e a.tmps) {lim : Nat} {t u el : TypeId} {i : TypeInfo} {c : Call} {x y : Operand} {x' y' : AArg} (ho : o.op = .call c) (hc : c.callee = .builtin .copy) (hts : c.argTypes.toList = [t, u]) (has : c.args.toList = [x, y]) (ht : P.underlying t = some (.slice el)) (hi : P.info? el = some i)
    (hx : carg x = some x') (hy : carg y = some y') {r : AV × Heap} (hr : copyV H lim i.size (x'.ev e) (y'.ev e) = some r) : Does P w0 φ w a o r.1 r.2 := by
  have hx0 := carg_rel he hx
  have hy0 := carg_rel he hy
  have e1 : c.argTypes = #[t, u] := by rw [← Array.toArray_toList (xs := c.argTypes), hts]
  have e2 : c.args = #[x, y] := by rw [← Array.toArray_toList (xs := c.args), has]
  have hsz := run_sizeOf' (info_isSome_of hi) w
  have hce : P.cellsOf el = i.size := by simp [Program.cellsOf, hi]
  rw [hce] at hsz
  unfold copyV at hr
  split at hr
  · rename_i n m hn hm
    simp only at hr
    split at hr
    · cases hr
    · rename_i ys hys
      obtain ⟨us, hus, hone, hlen, hfirst, _⟩ := src_rel (P := P) R hy0 hys
      have hly := slen_rel (P := P) hy0 hm (srcCells_ok hys) R
      split at hr
      · rename_i hxv
        simp only [Option.some.injEq] at hr
        subst hr
        rw [hxv] at hx0 hn
        simp only [VRel, AV.slen, Option.some.injEq] at hx0 hn
        subst hn
        refine ⟨φ, w, Ext.refl _, R, .inr ⟨.int .i64 (min m 0 : Nat), ?_, rfl⟩⟩
        have hm' : Nat.min m 0 = min m 0 := rfl
        simp only [Nat.min_zero] at hfirst hm' ⊢
        simp [execOp, ho, resolve, hc, invoke, builtin, e1, e2, Builtin.copy_, run_underlying ht, hx0, hly, hsz, hm', hfirst, goInt]
      · rename_i id ver off len l hxv
        rw [Option.map_eq_some_iff] at hr
        obtain ⟨H', hH', rfl⟩ := hr
        rw [hxv] at hx0 hn
        simp only [AV.slen, Option.some.injEq] at hn
        subst hn
        obtain ⟨L, hL, hv, hLo, w', hrun, R'⟩ := R.write (P := P) hH' hus hone
        have hlive : (H.cells id ver).isSome = true := by
          unfold Heap.write at hH'
          unfold Heap.cells
          cases hB : H[id]? with
          | none => simp [hB] at hH'
          | some B =>
            cases B with
            | ro c => simp [hB] at hH'
            | rw v s cs =>
              simp only [hB] at hH' ⊢
              split at hH'
              · rename_i hcond; simp [Blk.ver, hcond.1]
              · cases hH'
        obtain ⟨L', hL', _, cap, p, hp, hcap, hpo, _, _⟩ := sl_rel R hx0 hlive
        rw [hL] at hL'
        simp only [Option.some.injEq] at hL'
        subst hL'
        refine ⟨φ, w', Ext.refl _, R', .inr ⟨.int .i64 (min m len : Nat), ?_, rfl⟩⟩
        have hm' : Nat.min m len = min m len := rfl
        have hstore : (storeCells ⟨L.b, p, none⟩ us).run P w = .ok () w' := by
          rcases Nat.eq_zero_or_pos cap with h0 | h0
          · have hl0 : len = 0 := by omega
            subst hl0
            have hu0 : us = [] := List.eq_nil_of_length_eq_zero (by have := hus.length; rw [hlen] at this; simpa using this.symm)
            subst hu0
            simpa [storeCells] using hrun
          · rw [hpo h0, hLo, Nat.zero_add]; exact hrun
        simp [execOp, ho, resolve, hc, invoke, builtin, e1, e2, Builtin.copy_, run_underlying ht, hp, hly, hsz, hm', hfirst, hstore, goInt]
      · cases hr
  · cases hr

theorem Below.of_row {B : Nat} {w : World} {g : Nat} (h : B ≤ g) (c : Array Value) : Below B w (w.setRow g c) := ⟨rfl, rfl, rfl, by simp, fun k hk => setRow_other w g k _ (by omega)⟩

theorem run_append_room' (t ty el : TypeId) (i : TypeInfo) (ht : P.underlying t = some (.slice el)) (hi : P.info? el = some i)
    (g sLen sCap : Nat) (cur : Array Value) (tt : TypeId) (hg : w.heap[g]? = some (.cells cur tt (0, 0))) (b : Addr) (m c : Nat) (news : List Value) (hl : news.length = m * i.size) (hnews : ∀ (j : Nat) (u : Value), news[j]? = some u → w.cell? (b.add j) = some u) (h1 : ∀ u ∈ news, u.oneCell' = true)
    (hroom : sLen + m ≤ sCap) (hfit : sLen * i.size + news.length ≤ cur.size) :
    (Builtin.append_ #[t, t] ty #[.slice (some ⟨g, 0, none⟩) sLen sCap, .slice (some b) m c]).run P w =
      .ok (.slice (some ⟨g, 0, none⟩) (sLen + m) sCap) (w.setRow g (cur.toList.take (sLen * i.size) ++ news ++ cur.toList.drop (sLen * i.size + news.length)).toArray) := by
  have hf := run_firstCells_some (P := P) w i.size m b m c news hl hnews
  have hst := run_storeCells_at P g (sLen * i.size) tt news 0 cur w hg (by simpa using hfit) h1
  simp only [Nat.add_zero] at hst
  simp [Builtin.append_, run_underlying ht, sizeOf, typeInfo, hi, Builtin.lenOf, hroom, hf, Addr.add_lit, hst]

theorem run_append_same (t ty el : TypeId) (i : TypeInfo) (ht : P.underlying t = some (.slice el)) (hi : P.info? el = some i) (A : Option Addr) (sLen sCap : Nat) (hc : sLen ≤ sCap) (Y : Value) (hlen : (Builtin.lenOf Y).run P w = .ok 0 w) (hf : (Builtin.firstCells i.size 0 Y).run P w = .ok #[] w) :
    (Builtin.append_ #[t, t] ty #[.slice A sLen sCap, Y]).run P w = .ok (.slice A sLen sCap) w := by
  cases A <;> simp [Builtin.append_, run_underlying ht, sizeOf, typeInfo, hi, hlen, hc, hf, storeCells]

theorem exec_append {c : Call} {x y : Operand} {t : TypeId} (ho : o.op = .call c) (hc : c.callee = .builtin .append) (e1 : c.argTypes = #[t, t]) (e2 : c.args = #[x, y]) {u : Value} {w' : World} (h : (Builtin.append_ #[t, t] o.type #[a.eval x, a.eval y]).run P w = .ok u w') : (execOp a.eval o).run P w = .ok (.value u) w' := by
  simp [execOp, ho, resolve, hc, invoke, builtin, e1, e2, h]

theorem wbelow_drew_alloc (w0 w : World) (h : Below w0.heap.size w0 w) (o : Obj) : Below w0.heap.size w (w.drew.alloc o) := (Below.refl _ w).drew.alloc h.size _

theorem Rel.drew (R : Rel w0 φ H w) : Rel w0 φ H w.drew := by
  refine ⟨R.len, R.below.drew, fun id B hB => ?_, R.inj⟩
  obtain ⟨L, hL, hr⟩ := R.blk id B hB
  exact ⟨L, hL, by cases B <;> exact hr⟩

theorem does_append (R : Rel w0 φ H w) (he : ERel φ e a.tmps) {lim : Nat} {t el : TypeId} {i : TypeInfo} {c : Call} {x y : Operand} {x' y' : AArg} (ho : o.op = .call c) (hc : c.callee = .builtin .append) (hts : c.argTypes.toList = [t, t]) (has : c.args.toList = [x, y]) (ht : P.underlying t = some (.slice el)) (hi : P.info? el = some i)
    (hpos : 0 < i.size) (hbp : 0 < i.bytes) (hz : (i.zero.map (·.cells.size)) = some i.size) (hx : carg x = some x') (hy : carg y = some y') {r : AV × Heap} (hr : appendV H lim i.size i.bytes (x'.ev e) (y'.ev e) = some r) : Does P w0 φ w a o r.1 r.2 := by
  have hx0 := carg_rel he hx
  have hy0 := carg_rel he hy
  have e1 : c.argTypes = #[t, t] := by rw [← Array.toArray_toList (xs := c.argTypes), hts]
  have e2 : c.args = #[x, y] := by rw [← Array.toArray_toList (xs := c.args), has]
  obtain ⟨z, hzz, hzs⟩ := Option.map_eq_some_iff.1 hz
  unfold appendV at hr
  split at hr
  · cases hr
  rename_i m hm
  split at hr
  · cases hr
  rename_i ys hys
  obtain ⟨us, hus, hone, hlen, hfirst, hsrc⟩ := src_rel (P := P) R hy0 hys
  have hly := slen_rel (P := P) hy0 hm (srcCells_ok hys) R
  have hlu := hus.length
  have huone := hus.ones hone
  -- where something is appended the source is no nil slice of the model's
  have hsrc' : m ≠ 0 → ∃ b cap, a.eval y = .slice (some b) m cap ∧ ∀ (j : Nat) (u : Value), us[j]? = some u → w.cell? (b.add j) = some u := by
    intro h0
    rcases hsrc with ⟨_, h⟩ | ⟨b, len, cap, hY, h1, h2, h3⟩
    · exact absurd h h0
    · refine ⟨b, cap, ?_, h3⟩
      rw [hY] at hly
      simp only [Builtin.lenOf, Sem.run_pure, Result.ok.injEq] at hly
      rw [hY, hly.1]
  have h0run : m = 0 → (Builtin.firstCells i.size 0 (a.eval y)).run P w = .ok #[] w := by
    intro h0
    subst h0
    have : us = [] := List.eq_nil_of_length_eq_zero (by have := hlu; rw [hlen] at this; simpa using this.symm)
    subst this
    exact hfirst
  have hb1 : 0 < i.size := hpos
  -- a new row that holds 'xs ++ ys'
  have fresh : ∀ (xs : List AV) (vs : List Value) (n k : Nat) (row : Array Value), VRels φ xs vs → xs.all AV.one = true → xs.length = n * i.size → k = n + m →
      ∀ cap, k ≤ cap → row.toList.take (k * i.size) = vs ++ us → row.size = cap * i.size →
      ∀ u, u = Value.slice (some ⟨w.heap.size, 0, none⟩) k cap → (execOp a.eval o).run P w = .ok (.value u) (w.drew.alloc (.cells row el)) → Does P w0 φ w a o (.sl H.length 0 0 k false) (H ++ [.rw 0 i.size (xs ++ ys)]) := by
    intro xs vs n k row hxs h1 hxl hk cap hkc htake hrow u hu hrun
    subst hu
    have hxv := hxs.length
    have hk2 : (xs ++ ys).length = k * i.size := by rw [List.length_append, hxl, hlen, hk, Nat.add_mul]
    refine ⟨_, _, Ext.append _ _, R.drew.alloc (c := row) (t := el) i.size (by rw [List.all_append, h1, hone]; rfl) (by rw [hk2, hrow]; exact Nat.mul_le_mul_right _ hkc) ?_, .inr ⟨_, hrun, ?_⟩⟩
    · rw [hk2, htake]
      exact hxs.append hus
    · exact new_sl R.drew _ rfl rfl hkc (by simp only; rw [hrow]; exact Nat.le_refl _) (by simp)
  split at hr
  · -- appended to nil
    rename_i hxv
    rw [hxv] at hx0
    simp only [VRel] at hx0
    split at hr
    · rename_i h0
      simp only [Option.some.injEq] at hr
      subst hr
      rw [h0] at hly
      exact Does.pure R (u := .slice none 0 0) (exec_append ho hc e1 e2 (by rw [hx0]; exact run_append_same t o.type el i ht hi none 0 0 (Nat.le_refl _) _ hly (h0run h0))) rfl
    · rename_i h0
      split at hr
      · rename_i hbytes
        simp only [Option.some.injEq] at hr
        subst hr
        obtain ⟨b, cap, hY, hcells⟩ := hsrc' h0
        have hm63 := Nat.le_mul_of_pos_right m hbp
        have hrun := run_append_nil (P := P) w t o.type el i z ht hi hzz b m cap us (by rw [← hlu, hlen]) hcells (by omega) (by omega) (by omega)
        have hge := grownCap_ge w m 0 el
        have hF := fresh [] [] 0 m (us.toArray ++ Builtin.zeroCells z.cells (grownCap w m 0 el - m)) VRels.nil rfl (by simp) (by omega) (grownCap w m 0 el) hge
          (by rw [Array.toList_append]; simp only [List.nil_append]; exact List.take_left' (by rw [← hlu, hlen])) (by simp only [Array.size_append, size_zeroCells, hzs, List.size_toArray]; rw [← hlu, hlen, ← Nat.add_mul]; congr 1; omega) _ rfl
          (exec_append ho hc e1 e2 (by rw [hx0, hY]; exact hrun))
        simpa using hF
      · cases hr
  · -- appended to a slice
    rename_i id ver off len l hxv
    split at hr
    · cases hr
    rename_i xs hxs
    rw [hxv] at hx0 hxs
    have hxo := srcCells_ok hxs
    simp only [okRef] at hxo
    obtain ⟨vs, hvs, hxone, hxlen, _, hxsrc⟩ := src_rel (P := P) R hx0 hxs
    have hvl := hvs.length
    obtain ⟨L, hL, hLv, cap, p, hX, hcap, hpo, hfit, hlim⟩ := sl_rel R hx0 hxo
    have holds : ∀ (j : Nat) (u : Value), vs[j]? = some u → w.cell? ((⟨L.b, p, none⟩ : Addr).add j) = some u := by
      rcases hxsrc with ⟨h, _⟩ | ⟨b, len', cap', h, _, _, h3⟩
      · rw [hX] at h; cases h
      · rw [hX] at h
        simp only [Value.slice.injEq, Option.some.injEq] at h
        rw [h.1]
        exact h3
    split at hr
    · rename_i hbytes
      have hb63 := Nat.le_mul_of_pos_right (len + m) hbp
      split at hr
      · rename_i h0
        simp only [Option.some.injEq] at hr
        subst hr
        rw [h0] at hly
        exact Does.pure R (u := .slice (some ⟨L.b, p, none⟩) len cap) (exec_append ho hc e1 e2 (by rw [hX]; exact run_append_same t o.type el i ht hi _ len cap hcap _ hly (h0run h0))) (by rw [hxv, ← hX]; exact hx0)
      · rename_i h0
        obtain ⟨b, capY, hY, hcells⟩ := hsrc' h0
        have grow : ∀ sCap, sCap = cap → sCap < len + m → (execOp a.eval o).run P w = .ok (.value (.slice (some ⟨w.heap.size, 0, none⟩) (len + m) (grownCap w (len + m) sCap el)))
            (w.drew.alloc (.cells (vs.toArray ++ us.toArray ++ Builtin.zeroCells z.cells (grownCap w (len + m) sCap el - (len + m))) el)) := by
          intro sCap hsc hlt
          subst hsc
          exact exec_append ho hc e1 e2 (by rw [hX, hY]; exact run_append_grow (P := P) w t o.type el i z ht hi hzz ⟨L.b, p, none⟩ len sCap vs (by rw [← hvl, hxlen]) holds b m capY us (by rw [← hlu, hlen]) hcells hlt (by omega) (growslice_fits hlt hbytes))
        have rowsz : ∀ q, len + m ≤ q → (vs.toArray ++ us.toArray ++ Builtin.zeroCells z.cells (q - (len + m))).size = q * i.size := by
          intro q hq
          simp only [Array.size_append, size_zeroCells, hzs, List.size_toArray]
          rw [← hlu, hlen, ← hvl, hxlen, ← Nat.add_mul, ← Nat.add_mul]
          congr 1
          omega
        have rowtk : ∀ q, (vs.toArray ++ us.toArray ++ Builtin.zeroCells z.cells q).toList.take ((len + m) * i.size) = vs ++ us := by
          intro q
          rw [Array.toList_append, Array.toList_append]
          simp only []
          exact List.take_left' (by rw [List.length_append, ← hlu, hlen, ← hvl, hxlen, Nat.add_mul])
        split at hr
        · rename_i hl
          simp only [Option.some.injEq] at hr
          subst hr
          have hcl := hlim hl
          have hge := grownCap_ge w (len + m) cap el
          exact fresh xs vs len (len + m) _ hvs hxone hxlen rfl _ hge (rowtk _) (rowsz _ hge) _ rfl (grow cap rfl (by omega))
        · split at hr
          · rename_i ver' sz' cs hB
            split at hr
            · rename_i hcond
              obtain ⟨hoff, hsz, _⟩ := hcond
              simp only [Option.some.injEq] at hr
              subst hr
              subst hoff
              obtain ⟨L', hL', hrw, hLv', hLsz, hLo, hbase, hcone, cur, tt, hw, hn, hle, hrel⟩ := R.own hB
              rw [hL] at hL'
              simp only [Option.some.injEq] at hL'
              subst hL'
              have hcs : H.cells id ver = some cs := by
                obtain ⟨cs', hcs'⟩ := Heap.cells_isSome hxo
                unfold Heap.cells at hcs' ⊢
                rw [hB] at hcs' ⊢
                simp only [Blk.ver, Blk.cells] at hcs' ⊢
                have hvv : ver' = ver := Classical.byContradiction fun h => by simp [h] at hcs'
                simp [hvv]
              have hxs' : xs = cs.take (len * i.size) ∧ len * i.size ≤ cs.length := by
                simp only [srcCells, hcs] at hxs
                split at hxs
                · rename_i h
                  simp only [Option.some.injEq] at hxs
                  exact ⟨by rw [← hxs]; simp, by omega⟩
                · cases hxs
              have hidφ : id < φ.length := (List.getElem?_eq_some_iff.1 hL).1
              have hxylen : (xs ++ ys).length = (len + m) * i.size := by rw [List.length_append, hxlen, hlen, Nat.add_mul]
              by_cases hroom : len + m ≤ cap
              · have hp0 : p = 0 := by rw [hpo (by omega), hLo]
                subst hp0
                have hcapfit := hfit hrw
                rw [hLsz, hsz] at hcapfit
                have hfitn : (len + m) * i.size ≤ cur.size := by
                  have := Nat.mul_le_mul_right i.size hroom
                  omega
                have hfit' : len * i.size + us.length ≤ cur.size := by rw [← hlu, hlen, ← Nat.add_mul]; exact hfitn
                have hrun := exec_append (P := P) (w := w) ho hc e1 e2 (by rw [hX, hY]; exact run_append_room' (P := P) t o.type el i ht hi L.b len cap cur tt hw b m capY us (by rw [← hlu, hlen]) hcells huone hroom hfit')
                have hrep := R.replace (w' := w.setRow L.b (cur.toList.take (len * i.size) ++ us ++ cur.toList.drop (len * i.size + us.length)).toArray) hB hL hrw (Below.of_row hbase _) { L with ver := ver + 1, sz := i.size } hrw hLo
                  (by simp only; omega) (fun h => by simp only at h; omega) (.inl rfl) (fun k _ hk => setRow_other w L.b k _ hk) (setRow_heap w L.b cur _ tt _ hw) (by simp only [List.size_toArray, List.length_append, List.length_take, List.length_drop, Array.length_toList]; omega)
                  (cs' := xs ++ ys) (by rw [List.all_append, hxone, hone]; rfl) (by rw [hxylen]; simp only [List.size_toArray, List.length_append, List.length_take, List.length_drop, Array.length_toList]; omega) hbase ?_
                · refine ⟨_, _, hrep.2, hrep.1, .inr ⟨_, hrun, ?_⟩⟩
                  have hset : (φ.set id { L with ver := ver + 1, sz := i.size })[id]? = some { L with ver := ver + 1, sz := i.size } := by simp [hidφ]
                  exact sl_mk (L := { L with ver := ver + 1, sz := i.size }) hset rfl hroom (fun _ => by simp only [hLo]) (fun _ => by simp only; omega) (by simp)
                · rw [hxylen]
                  simp only [List.append_assoc]
                  rw [List.take_append, List.length_take, Array.length_toList, List.take_take, List.take_append]
                  have q1 : min (len * i.size) cur.size = len * i.size := by omega
                  have q2 : min ((len + m) * i.size) (len * i.size) = len * i.size := by rw [Nat.add_mul]; omega
                  have q3 : (len + m) * i.size - len * i.size = us.length := by rw [← hlu, hlen, Nat.add_mul]; omega
                  rw [q1, q2, q3, List.take_length, Nat.sub_self, List.take_zero, List.append_nil]
                  refine VRels.append ?_ hus
                  have := hrel.take (len * i.size)
                  rw [List.take_take, Nat.min_eq_left hxs'.2] at this
                  rw [hxs'.1]
                  exact this
              · have hge := grownCap_ge w (len + m) cap el
                have hrun := grow cap rfl (by omega)
                have hrep := R.replace (w' := w.drew.alloc (.cells (vs.toArray ++ us.toArray ++ Builtin.zeroCells z.cells (grownCap w (len + m) cap el - (len + m))) el)) hB hL hrw
                  ((Below.refl _ w).drew.alloc R.below.size _) { b := w.heap.size, o := 0, n := grownCap w (len + m) cap el * i.size, sz := i.size, ver := ver + 1, rw := true } rfl rfl
                  (by simp only; omega) (fun h => by simp only at h; omega) (.inr (Nat.le_refl _)) (fun k hk _ => heap_alloc_old w.drew _ hk) (heap_alloc_new w.drew _) (rowsz _ hge)
                  (cs' := xs ++ ys) (by rw [List.all_append, hxone, hone]; rfl) (by rw [hxylen, rowsz _ hge]; exact Nat.mul_le_mul_right _ hge) R.below.size (by rw [hxylen, rowtk]; exact hvs.append hus)
                refine ⟨_, _, hrep.2, hrep.1, .inr ⟨_, hrun, ?_⟩⟩
                exact sl_mk (L := { b := w.heap.size, o := 0, n := grownCap w (len + m) cap el * i.size, sz := i.size, ver := ver + 1, rw := true }) (by simp [hidφ]) rfl hge (fun _ => rfl) (fun _ => by simp only; omega) (by simp)
            · cases hr
          · cases hr
    · cases hr
  · cases hr

end
end Go.AM
