/- WHAT A CALL OF THE ABSTRACT MACHINE LEAVES OF THE MEMORY AHEAD OF IT: references that led below a line still do. Conditions: those of each theorem. -/
import Derived.Test.YtmjanbhmpbhagaaAm9
import Derived.Test.YtmjanbhmpbhagaaAm10
set_option linter.unusedVariables false
set_option linter.unusedSimpArgs false
namespace Go.AM

mutual
def AV.low (m : Nat) : AV → Bool
  | .ptr id _ _ => decide (id < m)
  | .sl id _ _ _ _ => decide (id < m)
  | .yld id => decide (id < m)
  | .fn _ cs => AV.lows m cs
  | .agg cs => AV.lows m cs
  | .tup cs => AV.lows m cs
  | _ => true
def AV.lows (m : Nat) : List AV → Bool
  | [] => true
  | c :: r => c.low m && AV.lows m r
end

mutual
theorem flat_low (m : Nat) : ∀ c : AV, c.flat = true → c.low m = true
  | .int .., _ | .bool _, _ | .str _, _ | .nilp, _ | .nils, _ | .niln, _ | .undef, _ => rfl
  | .ptr .., h | .sl .., h | .yld _, h => by simp [AV.flat] at h
  | .fn _ cs, h => by simp only [AV.flat] at h; simp only [AV.low]; exact flats_lows m cs h
  | .agg cs, h => by simp only [AV.flat] at h; simp only [AV.low]; exact flats_lows m cs h
  | .tup cs, h => by simp only [AV.flat] at h; simp only [AV.low]; exact flats_lows m cs h
theorem flats_lows (m : Nat) : ∀ cs : List AV, AV.flats cs = true → AV.lows m cs = true
  | [], _ => rfl
  | c :: r, h => by
    simp only [AV.flats, Bool.and_eq_true] at h
    simp only [AV.lows, Bool.and_eq_true]
    exact ⟨flat_low m c h.1, flats_lows m r h.2⟩
end
theorem lows_iff {m : Nat} : ∀ {cs : List AV}, AV.lows m cs = true ↔ ∀ c ∈ cs, c.low m = true
  | [] => by simp [AV.lows]
  | c :: r => by simp [AV.lows, lows_iff (cs := r)]
theorem flats_iff : ∀ {cs : List AV}, AV.flats cs = true ↔ ∀ c ∈ cs, c.flat = true
  | [] => by simp [AV.flats]
  | c :: r => by simp [AV.flats, flats_iff (cs := r)]

mutual
theorem rel_low {φ : Map} : ∀ (c : AV) (v : Value), VRel φ c v → c.low φ.length = true
  | .int .., _, _ | .bool _, _, _ | .str _, _, _ | .nilp, _, _ | .nils, _, _ | .niln, _, _ | .undef, _, _ => rfl
  | .ptr id ver o, v, h => by
    simp only [VRel] at h
    obtain ⟨L, hL, _⟩ := h
    simp only [AV.low, decide_eq_true_eq]
    exact (List.getElem?_eq_some_iff.1 hL).1
  | .sl id ver off len l, v, h => by
    simp only [VRel] at h
    obtain ⟨L, hL, _⟩ := h
    simp only [AV.low, decide_eq_true_eq]
    exact (List.getElem?_eq_some_iff.1 hL).1
  | .yld _, _, h => by simp only [VRel] at h
  | .fn _ cs, v, h => by
    simp only [VRel] at h
    obtain ⟨vs, _, hr⟩ := h
    simp only [AV.low]
    exact rels_low cs vs hr
  | .agg cs, v, h => by
    simp only [VRel] at h
    obtain ⟨_, vs, _, hr⟩ := h
    simp only [AV.low]
    exact rels_low cs vs hr
  | .tup cs, v, h => by
    simp only [VRel] at h
    obtain ⟨vs, _, hr⟩ := h
    simp only [AV.low]
    exact rels_low cs vs hr
theorem rels_low {φ : Map} : ∀ (cs : List AV) (vs : List Value), VRels φ cs vs → AV.lows φ.length cs = true
  | [], _, _ => rfl
  | c :: r, vs, h => by
    simp only [VRels] at h
    obtain ⟨v, q, rfl, hv, hr⟩ := h
    simp only [AV.lows, Bool.and_eq_true]
    exact ⟨rel_low c v hv, rels_low r q hr⟩
end

mutual
theorem rel_take {φ : Map} {m : Nat} : ∀ (c : AV) (v : Value), VRel φ c v → c.low m = true → VRel (φ.take m) c v
  | .int .., _, h, _ | .bool _, _, h, _ | .str _, _, h, _ | .nilp, _, h, _ | .nils, _, h, _ | .niln, _, h, _ | .undef, _, h, _ => by simpa only [VRel] using h
  | .ptr id ver o, v, h, hl => by
    simp only [VRel] at h ⊢
    simp only [AV.low, decide_eq_true_eq] at hl
    obtain ⟨L, hL, h⟩ := h
    exact ⟨L, by rw [List.getElem?_take, if_pos hl]; exact hL, h⟩
  | .sl id ver off len l, v, h, hl => by
    simp only [VRel] at h ⊢
    simp only [AV.low, decide_eq_true_eq] at hl
    obtain ⟨L, hL, h⟩ := h
    exact ⟨L, by rw [List.getElem?_take, if_pos hl]; exact hL, h⟩
  | .yld _, _, h, _ => by simp only [VRel] at h
  | .fn _ cs, v, h, hl => by
    simp only [VRel] at h ⊢
    simp only [AV.low] at hl
    obtain ⟨vs, e, hr⟩ := h
    exact ⟨vs, e, rels_take cs vs hr hl⟩
  | .agg cs, v, h, hl => by
    simp only [VRel] at h ⊢
    simp only [AV.low] at hl
    obtain ⟨h1, vs, e, hr⟩ := h
    exact ⟨h1, vs, e, rels_take cs vs hr hl⟩
  | .tup cs, v, h, hl => by
    simp only [VRel] at h ⊢
    simp only [AV.low] at hl
    obtain ⟨vs, e, hr⟩ := h
    exact ⟨vs, e, rels_take cs vs hr hl⟩
theorem rels_take {φ : Map} {m : Nat} : ∀ (cs : List AV) (vs : List Value), VRels φ cs vs → AV.lows m cs = true → VRels (φ.take m) cs vs
  | [], _, h, _ => by simpa only [VRels] using h
  | c :: r, vs, h, hl => by
    simp only [VRels] at h ⊢
    simp only [AV.lows, Bool.and_eq_true] at hl
    obtain ⟨v, q, rfl, hv, hr⟩ := h
    exact ⟨v, q, rfl, rel_take c v hv hl.1, rels_take r q hr hl.2⟩
end

mutual
theorem rel_flat {φ φ' : Map} : ∀ (c : AV) (v : Value), VRel φ c v → c.flat = true → VRel φ' c v
  | .int .., _, h, _ | .bool _, _, h, _ | .str _, _, h, _ | .nilp, _, h, _ | .nils, _, h, _ | .niln, _, h, _ | .undef, _, h, _ => by simpa only [VRel] using h
  | .ptr .., v, h, hl | .sl .., v, h, hl => by simp [AV.flat] at hl
  | .yld _, _, h, _ => by simp only [VRel] at h
  | .fn _ cs, v, h, hl => by
    simp only [VRel] at h ⊢
    simp only [AV.flat] at hl
    obtain ⟨vs, e, hr⟩ := h
    exact ⟨vs, e, rels_flat cs vs hr hl⟩
  | .agg cs, v, h, hl => by
    simp only [VRel] at h ⊢
    simp only [AV.flat] at hl
    obtain ⟨h1, vs, e, hr⟩ := h
    exact ⟨h1, vs, e, rels_flat cs vs hr hl⟩
  | .tup cs, v, h, hl => by
    simp only [VRel] at h ⊢
    simp only [AV.flat] at hl
    obtain ⟨vs, e, hr⟩ := h
    exact ⟨vs, e, rels_flat cs vs hr hl⟩
theorem rels_flat {φ φ' : Map} : ∀ (cs : List AV) (vs : List Value), VRels φ cs vs → AV.flats cs = true → VRels φ' cs vs
  | [], _, h, _ => by simpa only [VRels] using h
  | c :: r, vs, h, hl => by
    simp only [VRels] at h ⊢
    simp only [AV.flats, Bool.and_eq_true] at hl
    obtain ⟨v, q, rfl, hv, hr⟩ := h
    exact ⟨v, q, rfl, rel_flat c v hv hl.1, rels_flat r q hr hl.2⟩
end

def Low (m : Nat) (H : Heap) : Prop := ∀ (id : Nat) (B : Blk), id < m → H[id]? = some B → AV.lows m B.cells = true

def Inv (m : Nat) (H H' : Heap) : Prop := H.length ≤ H'.length ∧ (Low m H → Low m H')
theorem Inv.refl (m : Nat) (H : Heap) : Inv m H H := ⟨Nat.le_refl _, id⟩
theorem Inv.trans {m : Nat} {A B C : Heap} (h : Inv m A B) (k : Inv m B C) : Inv m A C := ⟨Nat.le_trans h.1 k.1, fun l => k.2 (h.2 l)⟩
theorem Inv.append {m : Nat} {H : Heap} (h : m ≤ H.length) (B : Blk) : Inv m H (H ++ [B]) :=
  ⟨by simp, fun l id C hid hC => by rw [List.getElem?_append_left (by omega)] at hC; exact l id C hid hC⟩
theorem Inv.set {m : Nat} {H : Heap} {id : Nat} {B : Blk} (h : Low m H → id < m → AV.lows m B.cells = true) : Inv m H (H.set id B) :=
  ⟨by simp, fun l j C hj hC => by
    by_cases hji : j = id
    · subst hji
      rw [List.getElem?_set_self'] at hC
      cases hH : H[j]? with
      | none => rw [hH] at hC; cases hC
      | some D => rw [hH] at hC; simp only [Functor.map, Option.map_some, Option.some.injEq, Function.const_apply] at hC; rw [← hC]; exact h l hj
    · rw [List.getElem?_set_ne (Ne.symm hji)] at hC
      exact l j C hj hC⟩

theorem put_lows {m : Nat} : ∀ (ds cs : List AV) (o : Nat), AV.lows m cs = true → AV.lows m ds = true → AV.lows m (putCells cs o ds) = true
  | [], _, _, h, _ => h
  | d :: ds, cs, o, h, k => by
    rw [putCells]
    simp only [AV.lows, Bool.and_eq_true] at k
    refine put_lows ds _ _ ?_ k.2
    rw [lows_iff] at h ⊢
    intro x hx
    rcases List.mem_or_eq_of_mem_set hx with hx | rfl
    · exact h x hx
    · exact k.1

theorem write_inv {H H' : Heap} {lim id ver o : Nat} {vs : List AV} (h : H.write lim id ver o vs = some H') {m : Nat} (hm : m ≤ lim) : Inv m H H' := by
  unfold Heap.write at h
  cases hB : H[id]? with
  | none => simp [hB] at h
  | some B =>
    cases B with
    | ro c => simp [hB] at h
    | rw v s cs =>
      simp only [hB] at h
      split at h
      · rename_i hc
        simp only [Option.some.injEq] at h
        subst h
        refine Inv.set fun l hid => ?_
        have h1 := l id _ hid hB
        exact put_lows vs cs o h1 (flats_lows m vs (hc.2.2 (by omega)))
      · cases h

def OLow (C : Oracle) : Prop := ∀ lim f args H r, C lim f args H = some r → ∀ m, m ≤ lim → m ≤ H.length → Inv m H r.2

theorem quietly_inv {q : Bool} {H : Heap} {r : Option (AV × Heap)} {x : AV × Heap} (h : quietly q H r = some x) : r = some x := by
  unfold quietly at h
  cases r with
  | none => cases h
  | some y =>
    simp only [Option.bind_some] at h
    split at h
    · split at h
      · exact h
      · cases h
    · exact h

theorem step_inv {C : Oracle} (hC : OLow C) {lim m : Nat} (hm : m ≤ lim) {o : AOp} {e : Env} {H : Heap} (hH : m ≤ H.length) {x : AV × Heap} (h : stepOp C lim o e H = some x) : Inv m H x.2 := by
  cases hc : o.cls
  case pure => rw [(step_pure hc h).1]; exact Inv.refl _ _
  case val => rw [(step_val hc h).1]; exact Inv.refl _ _
  case load => rw [(step_load hc h).1]; exact Inv.refl _ _
  case quiet => rw [step_quiet hc h]; exact Inv.refl _ _
  case adds =>
    cases o <;> simp only [AOp.cls, reduceCtorEq] at hc <;> simp only [stepOp] at h <;> (try (split at hc <;> cases hc; done))
    case callA f l => exact hC _ _ _ _ _ (growing_spec h).1 m hm hH
  case store =>
    cases o <;> simp only [AOp.cls, reduceCtorEq] at hc <;> simp only [stepOp] at h <;> (try (split at hc <;> cases hc; done))
    case store n a y =>
      rw [Option.map_eq_some_iff] at h; obtain ⟨H', h1, h⟩ := h; rw [← h]
      unfold storeV at h1
      split at h1
      · split at h1
        · exact write_inv h1 hm
        · cases h1
      · cases h1
  case make =>
    cases o <;> simp only [AOp.cls, reduceCtorEq] at hc <;> simp only [stepOp] at h <;> (try (split at hc <;> cases hc; done))
    case alloc zs => simp only [Option.some.injEq] at h; rw [← h]; exact Inv.append hH _
    case box y => rw [Option.map_eq_some_iff] at h; obtain ⟨_, _, h⟩ := h; rw [← h]; exact Inv.append hH _
    case bslice => rw [Option.map_eq_some_iff] at h; obtain ⟨_, _, h⟩ := h; rw [← h]; exact Inv.append hH _
    case mkslice =>
      unfold mkSliceV at h
      split at h
      · split at h
        · simp only [Option.some.injEq] at h; rw [← h]; exact Inv.append hH _
        · cases h
      · cases h
  case loud =>
    cases o <;> simp only [AOp.cls, reduceCtorEq] at hc <;> simp only [stepOp] at h <;> (try (split at hc <;> cases hc; done))
    case call f l q => exact hC _ _ _ _ _ (quietly_inv h) m hm hH
    case callv f l q =>
      split at h
      · exact hC _ _ _ _ _ (quietly_inv h) m hm hH
      · cases h
    case append sz bytes a b =>
      unfold appendV at h
      split at h
      · cases h
      · split at h
        · cases h
        · rename_i ys hys
          split at h
          · split at h
            · simp only [Option.some.injEq] at h; rw [← h]; exact Inv.refl _ _
            · split at h
              · simp only [Option.some.injEq] at h; rw [← h]; exact Inv.append hH _
              · cases h
          · rename_i id ver off len l hxv
            split at h
            · cases h
            · rename_i xs hxs
              split at h
              · split at h
                · simp only [Option.some.injEq] at h; rw [← h]; exact Inv.refl _ _
                · split at h
                  · simp only [Option.some.injEq] at h; rw [← h]; exact Inv.append hH _
                  · split at h
                    · rename_i ver' sz' cs hB
                      split at h
                      · rename_i hcond
                        simp only [Option.some.injEq] at h; rw [← h]
                        refine Inv.set fun lo hid => ?_
                        have h1 := lo id _ hid hB
                        rw [hxv] at hxs
                        simp only [Blk.cells, lows_iff, List.mem_append] at h1 ⊢
                        rintro c (hc1 | hc1)
                        · simp only [srcCells] at hxs
                          split at hxs
                          · rename_i cs2 hcs2
                            split at hxs
                            · simp only [Option.some.injEq] at hxs
                              rw [← hxs] at hc1
                              have hcs3 : cs2 = cs := by
                                unfold Heap.cells at hcs2
                                rw [hB] at hcs2
                                simp only [Blk.ver, Blk.cells] at hcs2
                                by_cases hvv : ver' = ver
                                · simp [hvv] at hcs2; exact hcs2.symm
                                · simp [hvv] at hcs2
                              rw [hcs3] at hc1
                              exact h1 c (List.mem_of_mem_drop (List.mem_of_mem_take hc1))
                            · cases hxs
                          · cases hxs
                        · exact flat_low m c (flats_iff.1 (hcond.2.2 (by omega)) c hc1)
                      · cases h
                    · cases h
              · cases h
          · cases h
    case copy sz a b =>
      unfold copyV at h
      split at h
      · simp only at h
        split at h
        · cases h
        · split at h
          · simp only [Option.some.injEq] at h; rw [← h]; exact Inv.refl _ _
          · rw [Option.map_eq_some_iff] at h; obtain ⟨H', h1, h⟩ := h; rw [← h]; exact write_inv h1 hm
          · cases h
      · cases h

theorem stepG_inv {C : Oracle} (hC : OLow C) {lim m : Nat} (hm : m ≤ lim) {o : GOp} {e : Env} {H : Heap} (hH : m ≤ H.length) {x : Env × Heap} (h : stepG C lim o e H = some x) : Inv m H x.2 := by
  unfold stepG at h
  split at h
  · rw [Option.map_eq_some_iff] at h; obtain ⟨r, h1, h⟩ := h; rw [← h]; exact step_inv hC hm hH h1
  · simp only [Option.some.injEq] at h; rw [← h]; exact Inv.refl _ _
  · cases h
theorem runOps_inv {C : Oracle} (hC : OLow C) {lim m : Nat} (hm : m ≤ lim) : ∀ {l : List GOp} {e : Env} {H : Heap} {x : Env × Heap}, m ≤ H.length → runOps C lim l e H = some x → Inv m H x.2
  | [], e, H, x, hH, h => by simp only [runOps, Option.some.injEq] at h; rw [← h]; exact Inv.refl _ _
  | o :: l, e, H, x, hH, h => by
    simp only [runOps, Option.bind_eq_some_iff] at h
    obtain ⟨s, h1, h2⟩ := h
    have i1 := stepG_inv hC hm hH h1
    exact i1.trans (runOps_inv hC hm (Nat.le_trans hH i1.1) h2)

theorem iter_inv {m : Nat} {f : Env → Heap → Option Out} (hf : ∀ e H x, m ≤ H.length → f e H = some x → Inv m H x.2.2) : ∀ {n : Nat} {e : Env} {H : Heap} {x : Out}, m ≤ H.length → iter f n e H = some x → Inv m H x.2.2
  | 0, e, H, x, hH, h => by simp [iter] at h
  | n + 1, e, H, x, hH, h => by
    simp only [iter, Option.bind_eq_some_iff] at h
    obtain ⟨r, h1, h⟩ := h
    have i1 := hf e H r hH h1
    split at h
    · exact i1.trans (iter_inv hf (Nat.le_trans hH i1.1) h)
    · simp only [Option.some.injEq] at h; rw [← h]; exact i1

theorem iterJ_inv {m l : Nat} {f : Env → Heap → Option Out} (hf : ∀ e H x, m ≤ H.length → f e H = some x → Inv m H x.2.2) : ∀ {n : Nat} {e : Env} {H : Heap} {x : Out}, m ≤ H.length → iterJ l f n e H = some x → Inv m H x.2.2
  | 0, e, H, x, hH, h => by simp [iterJ] at h
  | n + 1, e, H, x, hH, h => by
    simp only [iterJ, Option.bind_eq_some_iff] at h
    obtain ⟨r, h1, h⟩ := h
    have i1 := hf e H r hH h1
    split at h
    · split at h
      · exact i1.trans (iterJ_inv hf (Nat.le_trans hH i1.1) h)
      · cases h
    · simp only [Option.some.injEq] at h; rw [← h]; exact i1

theorem exec_inv {C : Oracle} (hC : OLow C) {n lim m : Nat} (hm : m ≤ lim) : ∀ (c : ACode) (e : Env) (H : Heap) (x : Out), m ≤ H.length → execC C n lim c e H = some x → Inv m H x.2.2 := by
  intro c
  induction c with
  | skip => intro e H x hH h; simp only [execC, Option.some.injEq] at h; rw [← h]; exact Inv.refl _ _
  | ops l => intro e H x hH h; simp only [execC, Option.map_eq_some_iff] at h; obtain ⟨s, h1, h⟩ := h; rw [← h]; exact runOps_inv hC hm hH h1
  | opsD l ap =>
    intro e H x hH h
    simp only [execC, Option.bind_eq_some_iff] at h
    obtain ⟨s, h1, h⟩ := h
    split at h
    · simp only [Option.some.injEq] at h; rw [← h]; exact runOps_inv hC hm hH h1
    · cases h
  | swap y z =>
    intro e H x hH h
    simp only [execC, Option.bind_eq_some_iff] at h
    obtain ⟨s, h1, h⟩ := h
    split at h
    · simp only [Option.some.injEq] at h; rw [← h]; exact runOps_inv hC hm hH h1
    · cases h
  | alt y z => intro e H x hH h; simp [execC] at h
  | again l c ih => intro e H x hH h; simp only [execC] at h; exact iterJ_inv (fun e H x hH h => ih e H x hH h) hH h
  | jump l a c iha ihc =>
    intro e H x hH h
    simp only [execC, Option.bind_eq_some_iff] at h
    obtain ⟨r, h1, h⟩ := h
    have i1 := iha e H r hH h1
    split at h
    · exact i1.trans (iterJ_inv (fun e H x hH h => ihc e H x hH h) (Nat.le_trans hH i1.1) h)
    · cases h
    · simp only [Option.some.injEq] at h; rw [← h]; exact i1
  | seq a b iha ihb =>
    intro e H x hH h
    simp only [execC, Option.bind_eq_some_iff] at h
    obtain ⟨r, h1, h⟩ := h
    have i1 := iha e H r hH h1
    split at h
    · exact i1.trans (ihb _ _ _ (Nat.le_trans hH i1.1) h)
    · simp only [Option.some.injEq] at h; rw [← h]; exact i1
  | cond c a b iha ihb =>
    intro e H x hH h
    simp only [execC] at h
    split at h
    · split at h
      · exact iha _ _ _ hH h
      · exact ihb _ _ _ hH h
    · cases h
  | block id c ih =>
    intro e H x hH h
    simp only [execC, Option.map_eq_some_iff] at h
    obtain ⟨r, h1, h⟩ := h
    have := ih _ _ _ hH h1
    rw [← h]
    split <;> exact this
  | loop c ih => intro e H x hH h; simp only [execC] at h; exact iter_inv (fun e H x hH h => ih e H x hH h) hH h
  | exit id => intro e H x hH h; simp only [execC, Option.some.injEq] at h; rw [← h]; exact Inv.refl _ _
  | scope c ih => intro e H x hH h; simp [execC] at h
  | label l => intro e H x hH h; simp only [execC, Option.some.injEq] at h; rw [← h]; exact Inv.refl _ _
  | goto l => intro e H x hH h; simp only [execC, Option.some.injEq] at h; rw [← h]; exact Inv.refl _ _
  | ret => intro e H x hH h; simp only [execC, Option.some.injEq] at h; rw [← h]; exact Inv.refl _ _

theorem Inv.take {m n0 : Nat} {H H1 : Heap} (h : Inv m H H1) (hm : m ≤ n0) (hn : n0 = H.length) : Inv m H (H1.take n0) :=
  ⟨by have := h.1; simp; omega, fun l id B hid hB => by
    rw [List.getElem?_take, if_pos (by omega)] at hB
    exact h.2 l id B hid hB⟩

theorem keepOne_inv {m n0 : Nat} {H1 : Heap} {v : AV} {A : Heap} {used : List Nat} {x : AV × Heap × List Nat} (hm : m ≤ A.length) (h : keepOne n0 H1 v A used = some x) : Inv m A x.2.1 := by
  unfold keepOne at h
  split at h
  · simp only [Option.some.injEq] at h; rw [← h]; exact Inv.refl _ _
  · split at h
    · split at h
      · simp only [Option.some.injEq] at h; rw [← h]; exact Inv.refl _ _
      · split at h
        · cases h
        · split at h
          · split at h
            · simp only [Option.some.injEq] at h; rw [← h]; exact Inv.append hm _
            · cases h
          · cases h
    · cases h
theorem keepAll_inv {m n0 : Nat} {H1 : Heap} : ∀ {vs : List AV} {A : Heap} {used : List Nat} {x : List AV × Heap}, m ≤ A.length → keepAll n0 H1 vs A used = some x → Inv m A x.2
  | [], A, used, x, hm, h => by simp only [keepAll, Option.some.injEq] at h; rw [← h]; exact Inv.refl _ _
  | v :: vs, A, used, x, hm, h => by
    simp only [keepAll, Option.bind_eq_some_iff, Option.map_eq_some_iff] at h
    obtain ⟨y, h1, z, h2, h⟩ := h
    have i1 := keepOne_inv hm h1
    have i2 := keepAll_inv (Nat.le_trans hm i1.1) h2
    rw [← h]
    exact i1.trans i2

theorem finish_inv {m : Nat} {md : RetMode} {H H1 : Heap} {r : AV} {x : AV × Heap} (hi : Inv m H H1) (hm : m ≤ H.length) (h : finish md H.length r H1 = some x) : Inv m H x.2 := by
  unfold finish at h
  split at h
  · simp only [Option.some.injEq] at h; rw [← h]; exact hi
  · split at h
    · simp only [Option.some.injEq] at h; rw [← h]; exact hi.take hm rfl
    · cases h
  · have ht := hi.take hm rfl
    split at h
    · rw [Option.map_eq_some_iff] at h
      obtain ⟨y, h1, h⟩ := h
      rw [← h]
      exact ht.trans (keepAll_inv (Nat.le_trans hm ht.1) h1)
    · rw [Option.map_eq_some_iff] at h
      obtain ⟨y, h1, h⟩ := h
      rw [← h]
      exact ht.trans (keepOne_inv (Nat.le_trans hm ht.1) h1)

theorem callBody_inv {X : Prog} {C : Oracle} (hX : OLow X.hook) (hC : OLow C) (n : Nat) : OLow (callBody X C n) := by
  intro lim f args H r h m hm hH
  unfold callBody at h
  split at h
  · rename_i af haf
    split at h
    · simp only [Option.bind_eq_some_iff] at h
      obtain ⟨x, h1, h⟩ := h
      have hm' : m ≤ (if af.mode = .raw then lim else H.length) := by split <;> omega
      have i1 := exec_inv hC hm' af.body _ _ _ hH h1
      split at h
      · simp only [Option.bind_eq_some_iff] at h
        obtain ⟨v, _, h⟩ := h
        exact finish_inv i1 hH h
      · simp only [Option.bind_eq_some_iff] at h
        obtain ⟨v, _, h⟩ := h
        exact finish_inv i1 hH h
      · cases h
    · cases h
  · exact hX lim f args H r h m hm hH

theorem evalN_inv {X : Prog} (hX : OLow X.hook) : ∀ n, OLow (evalN X n)
  | 0 => fun lim f args H r h => by simp [evalN] at h
  | n + 1 => callBody_inv hX (evalN_inv hX n) n

end Go.AM
