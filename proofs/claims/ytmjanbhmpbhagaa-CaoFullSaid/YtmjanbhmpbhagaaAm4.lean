/- EACH OPERATION OF THE PROGRAM'S FORM DOES WHAT THE ABSTRACT MACHINE SAYS, where that says anything: all but the calls. Conditions: those of each theorem. -/
import Derived.Test.YtmjanbhmpbhagaaAm3
import Derived.Laws.Slices
import Derived.Laws.StructEq
import Derived.Deep.MidRow
set_option linter.unusedVariables false
set_option linter.unusedSimpArgs false
namespace Go.AM
open Go.RowKit

theorem cval1_rel {φ : Map} {v : Value} {a : AV} (h : cval1 v = some a) : VRel φ a v ∧ a.one = true := by
  unfold cval1 at h
  split at h <;> simp only [Option.some.injEq, reduceCtorEq] at h <;> subst h <;> simp [VRel, AV.one]
theorem cvals_rel {φ : Map} : ∀ {vs : List Value} {l : List AV}, cvals vs = some l → VRels φ l vs ∧ l.all AV.one = true
  | [], l, h => by simp only [cvals, Option.some.injEq] at h; subst h; simp [VRels]
  | v :: r, l, h => by
    simp only [cvals] at h
    split at h
    · rename_i a l' ha hl
      simp only [Option.some.injEq] at h
      subst h
      obtain ⟨h1, h2⟩ := cvals_rel (φ := φ) hl
      obtain ⟨g1, g2⟩ := cval1_rel (φ := φ) ha
      exact ⟨VRels.cons g1 h1, by simp [g2, h2]⟩
    · cases h
theorem cval_rel {φ : Map} {v : Value} {a : AV} (h : cval v = some a) : VRel φ a v := by
  unfold cval at h
  split at h
  · rename_i cs
    rw [Option.map_eq_some_iff] at h
    obtain ⟨l, hl, rfl⟩ := h
    obtain ⟨h1, h2⟩ := cvals_rel (φ := φ) hl
    simp only [VRel]
    exact ⟨h2, cs.toList, by simp, h1⟩
  · exact (cval1_rel h).1
theorem carg_rel {φ : Map} {e : Env} {act : Act} (he : ERel φ e act.tmps) {x : Operand} {a : AArg} (h : carg x = some a) : VRel φ (a.ev e) (act.eval x) := by
  unfold carg at h
  split at h
  · simp only [Option.some.injEq] at h; subst h; exact he _
  · rw [Option.map_eq_some_iff] at h
    obtain ⟨a, ha, rfl⟩ := h
    exact cval_rel ha
  · simp only [Option.some.injEq] at h; subst h
    simp only [AArg.ev, Act.eval, VRel]
    exact ⟨[], rfl, rfl⟩
  · cases h
theorem cargs_rel {φ : Map} {e : Env} {act : Act} (he : ERel φ e act.tmps) : ∀ {xs : List Operand} {l : List AArg}, cargs xs = some l → VRels φ (l.map (·.ev e)) (xs.map act.eval)
  | [], l, h => by simp only [cargs, Option.some.injEq] at h; subst h; exact VRels.nil
  | x :: r, l, h => by
    simp only [cargs] at h
    split at h
    · rename_i a l' ha hl
      simp only [Option.some.injEq] at h
      subst h
      exact VRels.cons (carg_rel he ha) (cargs_rel he hl)
    · cases h

def Does (P : Program) (w0 : World) (φ : Map) (w : World) (a : Act) (o : Oper) (v : AV) (H' : Heap) : Prop :=
  ∃ φ' w', Ext φ φ' ∧ Rel w0 φ' H' w' ∧
    ((o.dst = none ∧ (execOp a.eval o).run P w = .ok .skip w') ∨ (∃ u, (execOp a.eval o).run P w = .ok (.value u) w' ∧ VRel φ' v u))

theorem Does.pure {P : Program} {w0 w : World} {φ : Map} {a : Act} {o : Oper} {v : AV} {H : Heap} (R : Rel w0 φ H w) {u : Value} (h : (execOp a.eval o).run P w = .ok (.value u) w) (hv : VRel φ v u) : Does P w0 φ w a o v H :=
  ⟨φ, w, Ext.refl _, R, .inr ⟨u, h, hv⟩⟩

/-! ### the world -/
theorem Rel.alloc {w0 w : World} {φ : Map} {H : Heap} (R : Rel w0 φ H w) {cs : List AV} {c : Array Value} {t : TypeId} (sz : Nat) (h1 : cs.all AV.one = true) (hl : cs.length ≤ c.size) (hr : VRels φ cs (c.toList.take cs.length)) :
    Rel w0 (φ ++ [{ b := w.heap.size, o := 0, n := c.size, sz := sz, ver := 0, rw := true }]) (H ++ [.rw 0 sz cs]) (w.alloc (.cells c t)) := by
  have hx := Ext.append φ { b := w.heap.size, o := 0, n := c.size, sz := sz, ver := 0, rw := true }
  refine ⟨by simp [R.len], R.below.alloc R.below.size _, fun id B hB => ?_, fun i j L M hi hj hL hM hb => ?_⟩
  · by_cases hid : id < H.length
    · rw [List.getElem?_append_left hid] at hB
      obtain ⟨L, hL, hrel⟩ := R.blk id B hB
      refine ⟨L, by rw [List.getElem?_append_left (by rw [R.len]; exact hid)]; exact hL, ?_⟩
      cases B with
      | rw ver sz' cells =>
        simp only [BRel] at hrel ⊢
        obtain ⟨a1, a2, a3, a4, a5, a6, c', t', hw, hs, hle, hv⟩ := hrel
        refine ⟨a1, a2, a3, a4, a5, a6, c', t', ?_, hs, hle, hv.ext hx _ _⟩
        rw [heap_alloc_old w _ (Array.getElem?_eq_some_iff.1 hw).1]
        exact hw
      | ro cells =>
        simp only [BRel] at hrel ⊢
        obtain ⟨a1, a2, a3, a4, vs, hv, hc⟩ := hrel
        exact ⟨a1, a2, a3, a4, vs, hv.ext hx _ _, hc⟩
    · have hid' : id = H.length := by
        have := (List.getElem?_eq_some_iff.1 hB).1
        simp at this
        omega
      subst hid'
      simp at hB
      subst hB
      refine ⟨_, by rw [← R.len]; simp; rfl, ?_⟩
      simp only [BRel]
      exact ⟨trivial, trivial, trivial, trivial, R.below.size, h1, c, t, heap_alloc_new w _, rfl, hl, hr.ext hx _ _⟩
  · have hlt : ∀ (k : Nat) (K : Loc), φ[k]? = some K → K.rw = true → K.b < w.heap.size := by
      intro k K hk hK
      have hkl : k < H.length := by rw [← R.len]; exact (List.getElem?_eq_some_iff.1 hk).1
      obtain ⟨L', hL', hrel⟩ := R.blk k _ (List.getElem?_eq_getElem hkl)
      rw [hk] at hL'
      simp only [Option.some.injEq] at hL'
      subst hL'
      cases hB : H[k] with
      | rw ver sz' cells =>
        rw [hB] at hrel
        simp only [BRel] at hrel
        obtain ⟨_, _, _, _, _, _, c', t', hw, _⟩ := hrel
        exact (Array.getElem?_eq_some_iff.1 hw).1
      | ro cells =>
        rw [hB] at hrel
        simp only [BRel] at hrel
        rw [hrel.1] at hK
        cases hK
    by_cases hi' : i < φ.length
    · rw [List.getElem?_append_left hi'] at hi
      by_cases hj' : j < φ.length
      · rw [List.getElem?_append_left hj'] at hj
        exact R.inj i j L M hi hj hL hM hb
      · have : j = φ.length := by
          have := (List.getElem?_eq_some_iff.1 hj).1
          simp at this
          omega
        subst this
        simp at hj
        subst hj
        have := hlt i L hi hL
        simp only at hb
        omega
    · have : i = φ.length := by
        have := (List.getElem?_eq_some_iff.1 hi).1
        simp at this
        omega
      subst this
      simp at hi
      subst hi
      by_cases hj' : j < φ.length
      · rw [List.getElem?_append_left hj'] at hj
        have := hlt j M hj hM
        simp only at hb
        omega
      · have := (List.getElem?_eq_some_iff.1 hj).1
        simp at this
        omega

theorem Rel.lt {w0 w : World} {φ : Map} {H : Heap} (R : Rel w0 φ H w) {k : Nat} {K : Loc} (hk : φ[k]? = some K) (hK : K.rw = true) : K.b < w.heap.size := by
  have hkl : k < H.length := by rw [← R.len]; exact (List.getElem?_eq_some_iff.1 hk).1
  obtain ⟨L', hL', hrel⟩ := R.blk k _ (List.getElem?_eq_getElem hkl)
  rw [hk] at hL'
  simp only [Option.some.injEq] at hL'
  subst hL'
  cases hB : H[k] with
  | rw ver sz' cells =>
    rw [hB] at hrel
    simp only [BRel] at hrel
    obtain ⟨_, _, _, _, _, _, c', t', hw, _⟩ := hrel
    exact (Array.getElem?_eq_some_iff.1 hw).1
  | ro cells =>
    rw [hB] at hrel
    simp only [BRel] at hrel
    rw [hrel.1] at hK
    cases hK

theorem Rel.replace {w0 w w' : World} {φ : Map} {H : Heap} (R : Rel w0 φ H w) {id ver sz : Nat} {cs : List AV} {L : Loc} (hB : H[id]? = some (.rw ver sz cs)) (hL : φ[id]? = some L) (hrwL : L.rw = true)
    (hbelow : Below w0.heap.size w w') (L' : Loc) (hrw : L'.rw = true) (ho : L'.o = 0) (hv : L.ver ≤ L'.ver) (hsame : L.ver = L'.ver → L' = L) (hb' : L'.b = L.b ∨ w.heap.size ≤ L'.b)
    (hother : ∀ k, k < w.heap.size → k ≠ L.b → w'.heap[k]? = w.heap[k]?)
    {c : Array Value} {t : TypeId} (hnew : w'.heap[L'.b]? = some (.cells c t (0, 0))) (hn : c.size = L'.n) {cs' : List AV} (h1 : cs'.all AV.one = true) (hl : cs'.length ≤ c.size) (hbase : w0.heap.size ≤ L'.b)
    (hr : VRels φ cs' (c.toList.take cs'.length)) :
    Rel w0 (φ.set id L') (H.set id (.rw L'.ver L'.sz cs')) w' ∧ Ext φ (φ.set id L') := by
  have hidφ : id < φ.length := (List.getElem?_eq_some_iff.1 hL).1
  have hidH : id < H.length := (List.getElem?_eq_some_iff.1 hB).1
  have hx : Ext φ (φ.set id L') := by
    refine ⟨by simp, fun k K hk => ?_⟩
    by_cases hkid : k = id
    · subst hkid
      rw [hL] at hk
      simp only [Option.some.injEq] at hk
      subst hk
      exact ⟨L', by simp [hidφ], hv, hsame, by rw [hrw, hrwL]⟩
    · exact ⟨K, by rw [List.getElem?_set_ne (Ne.symm hkid)]; exact hk, Nat.le_refl _, fun _ => rfl, rfl⟩
  refine ⟨⟨by simp [R.len], R.below.trans hbelow, fun k B hk => ?_, fun i j M N hi hj hM hN hb => ?_⟩, hx⟩
  · by_cases hkid : k = id
    · subst hkid
      rw [List.getElem?_set_self hidH] at hk
      simp only [Option.some.injEq] at hk
      subst hk
      refine ⟨L', by simp [hidφ], ?_⟩
      simp only [BRel]
      exact ⟨hrw, trivial, trivial, ho, hbase, h1, c, t, hnew, hn, hl, hr.ext hx _ _⟩
    · rw [List.getElem?_set_ne (Ne.symm hkid)] at hk
      obtain ⟨K, hK, hrel⟩ := R.blk k B hk
      refine ⟨K, by rw [List.getElem?_set_ne (Ne.symm hkid)]; exact hK, ?_⟩
      cases B with
      | rw ver' sz' cells =>
        simp only [BRel] at hrel ⊢
        obtain ⟨a1, a2, a3, a4, a5, a6, c', t', hw, hs, hle, hv'⟩ := hrel
        refine ⟨a1, a2, a3, a4, a5, a6, c', t', ?_, hs, hle, hv'.ext hx _ _⟩
        rw [hother K.b (Array.getElem?_eq_some_iff.1 hw).1 (fun e => hkid (R.inj k id K L hK hL a1 hrwL e))]
        exact hw
      | ro cells =>
        simp only [BRel] at hrel ⊢
        obtain ⟨a1, a2, a3, a4, vs, hv', hc⟩ := hrel
        exact ⟨a1, a2, a3, a4, vs, hv'.ext hx _ _, hc⟩
  · by_cases hiid : i = id
    · subst hiid
      rw [List.getElem?_set_self hidφ] at hi
      simp only [Option.some.injEq] at hi
      subst hi
      by_cases hjid : j = i
      · exact hjid.symm
      · rw [List.getElem?_set_ne (Ne.symm hjid)] at hj
        have := R.lt hj hN
        rcases hb' with hb' | hb'
        · exact R.inj i j L N hL hj hrwL hN (by rw [← hb', hb])
        · omega
    · rw [List.getElem?_set_ne (Ne.symm hiid)] at hi
      by_cases hjid : j = id
      · subst hjid
        rw [List.getElem?_set_self hidφ] at hj
        simp only [Option.some.injEq] at hj
        subst hj
        have := R.lt hi hM
        rcases hb' with hb' | hb'
        · exact R.inj i j M L hi hL hM hrwL (by rw [hb, hb'])
        · omega
      · rw [List.getElem?_set_ne (Ne.symm hjid)] at hj
        exact R.inj i j M N hi hj hM hN hb

/-- A block that may be written, by its number. -/
theorem Rel.own {w0 w : World} {φ : Map} {H : Heap} (R : Rel w0 φ H w) {id ver sz : Nat} {cs : List AV} (hB : H[id]? = some (.rw ver sz cs)) :
    ∃ L, φ[id]? = some L ∧ L.rw = true ∧ L.ver = ver ∧ L.sz = sz ∧ L.o = 0 ∧ w0.heap.size ≤ L.b ∧ cs.all AV.one = true ∧
      ∃ (c : Array Value) (t : TypeId), w.heap[L.b]? = some (.cells c t (0, 0)) ∧ c.size = L.n ∧ cs.length ≤ c.size ∧ VRels φ cs (c.toList.take cs.length) := by
  obtain ⟨L, hL, hrel⟩ := R.blk id _ hB
  simp only [BRel] at hrel
  exact ⟨L, hL, hrel⟩

/-- Cells stored into a block. -/
theorem Rel.write {P : Program} {w0 w : World} {φ : Map} {H H' : Heap} (R : Rel w0 φ H w) {lim id ver o : Nat} {vs : List AV} (h : H.write lim id ver o vs = some H') {us : List Value} (hu : VRels φ vs us) (h1 : vs.all AV.one = true) :
    ∃ L, φ[id]? = some L ∧ L.ver = ver ∧ L.o = 0 ∧ ∃ w', (storeCells ⟨L.b, o, none⟩ us).run P w = .ok () w' ∧ Rel w0 φ H' w' := by
  unfold Heap.write at h
  cases hB : H[id]? with
  | none => simp [hB] at h
  | some B =>
    cases B with
    | ro cells => simp [hB] at h
    | rw ver' sz cs =>
      simp only [hB] at h
      split at h
      · rename_i hc
        obtain ⟨hver, hfit, _⟩ := hc
        simp only [Option.some.injEq] at h
        subst h
        obtain ⟨L, hL, hrw, hLv, hsz, ho, hbase, hone, c, t, hw, hn, hle, hrel⟩ := R.own hB
        have hlen := hu.length
        refine ⟨L, hL, by omega, ho, _, run_storeCells_at P L.b o t us 0 c w hw (by simp; omega) (hu.ones h1), ?_⟩
        simp only [Nat.add_zero]
        have hset : φ.set id L = φ := by
          obtain ⟨hlt, he⟩ := List.getElem?_eq_some_iff.1 hL
          rw [← he]; simp
        have := (R.replace (w' := w.setRow L.b (c.toList.take o ++ us ++ c.toList.drop (o + us.length)).toArray) hB hL hrw
          ⟨rfl, rfl, rfl, by simp, fun k hk => setRow_other w L.b k _ (by omega)⟩ L hrw ho (Nat.le_refl _) (fun _ => rfl) (.inl rfl) (fun k _ hk => setRow_other w L.b k _ hk)
          (setRow_heap w L.b c _ t _ hw) (by simp; omega) (cs' := putCells cs o vs) (putCells_all vs cs o hone h1) (by simp [putCells_length]; omega) hbase ?_).1
        · rw [hset, hLv, hsz] at this
          exact this
        · rw [putCells_length]
          have hp := VRels.put o hrel hu
          rw [putVals_eq us _ o (by simp; omega)] at hp
          have e : (c.toList.take o ++ us ++ c.toList.drop (o + us.length)).take cs.length = (c.toList.take cs.length).take o ++ us ++ (c.toList.take cs.length).drop (o + us.length) := by
            rw [List.append_assoc, List.append_assoc, List.take_append, List.take_append]
            simp only [List.length_take, Array.length_toList]
            rw [List.take_take, List.take_take, List.drop_take]
            have e1 : min o c.size = o := by omega
            have e2 : min cs.length o = o := by omega
            have e3 : min o cs.length = o := by omega
            rw [e1, e2, e3, List.take_of_length_le (l := us) (by omega)]
            congr 3
            omega
          simp only []
          rw [e]
          exact hp
      · cases h

end Go.AM
