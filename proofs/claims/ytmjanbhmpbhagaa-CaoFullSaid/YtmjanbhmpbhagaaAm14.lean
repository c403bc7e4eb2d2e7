/- A CALL THAT THE ABSTRACT MACHINE ANSWERS RETURNS JUST THAT IN THE MODEL. Conditions: those of each theorem. -/
import Derived.Test.YtmjanbhmpbhagaaAm13
set_option linter.unusedVariables false
set_option linter.unusedSimpArgs false
namespace Go.AM
open Go.RowKit

section
variable {P : Program} {w0 : World} {φ : Map} {H : Heap} {w : World} {a : Act} {e : Env}

theorem loadV_var (R : Rel w0 φ H w) {p : AV} {V : Value} (hp : VRel φ p V) {t : TypeId} {i : TypeInfo} (hi : P.info? t = some i) (hu : (P.underlying t).isSome = true) {v : AV} (hv : loadV H (aggOf P t) i.size p = some v) :
    ∃ A u, V = .pointer (some A) ∧ (loadVar t A).run P w = .ok u w ∧ VRel φ v u := by
  obtain ⟨u, hr, huv⟩ := loadV_rel (P := P) R hp hi hu hv
  unfold loadV at hv
  split at hv
  · rename_i id ver off
    cases hc : H.cells id ver with
    | none => simp [hc] at hv
    | some cs =>
      obtain ⟨L, _, _, hV⟩ := ptr_rel R hp (by rw [hc]; rfl)
      subst hV
      refine ⟨_, u, rfl, ?_, huv⟩
      simpa [Instr.loadAt, Instr.sureAddr] using hr
  · cases hv

def readRes (tmps : Array Value) : ResultVar → Sem Value
  | .tmp t => pure (tmps.getD t undef)
  | .cell x t => do loadVar t (← asAddr (tmps.getD x undef))

theorem results_rel (R : Rel w0 φ H w) (he : ERel φ e a.tmps) : ∀ {rs : List ResultVar} {l : List ARes} {vs : List AV}, compRes P rs = some l → resVs e H l = some vs →
    ∃ us, VRels φ vs us ∧ (rs.mapM (readRes a.tmps)).run P w = .ok us w
  | [], l, vs, hc, hr => by
    simp only [compRes, Option.some.injEq] at hc; subst hc
    simp only [resVs, Option.some.injEq] at hr; subst hr
    exact ⟨[], VRels.nil, by simp⟩
  | r :: rs, l, vs, hc, hr => by
    simp only [compRes] at hc
    split at hc
    · rename_i x l' hx hl
      simp only [Option.some.injEq] at hc; subst hc
      simp only [resVs, Option.bind_eq_some_iff, Option.map_eq_some_iff] at hr
      obtain ⟨v, hv, vs', hvs, rfl⟩ := hr
      obtain ⟨us, hus, hrun⟩ := results_rel R he hl hvs
      have one : ∃ u, VRel φ v u ∧ (readRes a.tmps r).run P w = .ok u w := by
        cases r with
        | tmp t =>
          simp only [Option.some.injEq] at hx; subst hx
          simp only [resV, Option.some.injEq] at hv; subst hv
          exact ⟨_, he t, rfl⟩
        | cell y t =>
          simp only at hx
          split at hx
          · rename_i hu
            rw [Option.map_eq_some_iff] at hx
            obtain ⟨i, hi, rfl⟩ := hx
            simp only [resV] at hv
            obtain ⟨A, u, hA, hrl, huv⟩ := loadV_var (P := P) R (he y) hi hu hv
            refine ⟨u, huv, ?_⟩
            simp only [readRes, hA, Sem.run_bind, asAddr, Sem.run_pure, Result.andThen_ok, hrl]
          · cases hx
      obtain ⟨u, huv, hrl⟩ := one
      refine ⟨u :: us, VRels.cons huv hus, ?_⟩
      rw [List.mapM_cons, Sem.run_bind, hrl]
      simp only [Result.andThen_ok, Sem.run_bind, hrun, Sem.run_pure]
    · cases hc

theorem resOf_rel (R : Rel w0 φ H w) (he : ERel φ e a.tmps) {fn : Func} {l : List ARes} {v : AV} (hc : compRes P fn.results.toList = some l) (hr : resOf e H l = some v) : ∃ u, VRel φ v u ∧ (results fn a.tmps).run P w = .ok u w := by
  unfold resOf at hr
  rw [Option.map_eq_some_iff] at hr
  obtain ⟨vs, hvs, rfl⟩ := hr
  obtain ⟨us, hus, hrun⟩ := results_rel (P := P) R he hc hvs
  have hl := hus.length
  have hm : (fn.results.mapM (readRes a.tmps)).run P w = .ok us.toArray w := by
    rw [← Array.toArray_toList (xs := fn.results), List.mapM_toArray, Sem.run_map, hrun]
    rfl
  have hres : results fn a.tmps = (do let vs ← fn.results.mapM (readRes a.tmps); pure (if h : vs.size = 1 then vs[0] else .tuple vs)) := by
    unfold results
    congr 2
  refine ⟨if h : us.length = 1 then us[0] else .tuple us.toArray, ?_, ?_⟩
  · match vs, us, hus, hl with
    | [], [], hus, _ => simp only [VRel]; exact ⟨[], rfl, hus⟩
    | [x], [y], hus, _ =>
      simp only [VRels] at hus
      obtain ⟨v, r, h1, h2, h3⟩ := hus
      simp at h1
      rw [h1.1]
      simpa using h2
    | x :: y :: r, u :: u2 :: us, hus, _ => simp only [VRel]; exact ⟨_, rfl, hus⟩
  · rw [hres, Sem.run_bind, hm]
    simp

/-! ### what is kept of a call -/
theorem Rel.low (R : Rel w0 φ H w) : Low H.length H := by
  intro id B hid hB
  obtain ⟨L, hL, hr⟩ := R.blk id B hB
  rw [← R.len]
  cases B with
  | rw v s cs =>
    simp only [BRel] at hr
    obtain ⟨_, _, _, _, _, _, c, t, _, _, _, hrel⟩ := hr
    exact rels_low cs _ hrel
  | ro cs =>
    simp only [BRel] at hr
    obtain ⟨_, _, _, _, vs, hrel, _⟩ := hr
    exact rels_low cs _ hrel

theorem Rel.take (R : Rel w0 φ H w) {n0 : Nat} (hl : Low n0 H) : Rel w0 (φ.take n0) (H.take n0) w := by
  refine ⟨by simp [R.len], R.below, fun id B hB => ?_, fun i j L M hi hj => ?_⟩
  · rw [List.getElem?_take] at hB
    split at hB
    · rename_i hid
      obtain ⟨L, hL, hr⟩ := R.blk id B hB
      refine ⟨L, by rw [List.getElem?_take, if_pos hid]; exact hL, ?_⟩
      have hlo := hl id B hid hB
      cases B with
      | rw v s cs =>
        simp only [BRel] at hr ⊢
        obtain ⟨a1, a2, a3, a4, a5, a6, c, t, h1, h2, h3, hrel⟩ := hr
        exact ⟨a1, a2, a3, a4, a5, a6, c, t, h1, h2, h3, rels_take cs _ hrel hlo⟩
      | ro cs =>
        simp only [BRel] at hr ⊢
        obtain ⟨a1, a2, a3, a4, vs, hrel, h⟩ := hr
        exact ⟨a1, a2, a3, a4, vs, rels_take cs _ hrel hlo, h⟩
    · cases hB
  · rw [List.getElem?_take] at hi hj
    split at hi
    · split at hj
      · exact R.inj i j L M hi hj
      · cases hj
    · cases hi

theorem Ext.take {φ φ1 : Map} (h : Ext φ φ1) : Ext φ (φ1.take φ.length) := by
  refine ⟨by have := h.len; simp; omega, fun id L hL => ?_⟩
  obtain ⟨L', h1, h2⟩ := h.at_ id L hL
  exact ⟨L', by rw [List.getElem?_take, if_pos (List.getElem?_eq_some_iff.1 hL).1]; exact h1, h2⟩

theorem Rel.adopt (R : Rel w0 φ H w) {L : Loc} {ver sz : Nat} {cs : List AV} {c : Array Value} {t : TypeId} (hrw : L.rw = true) (hv : L.ver = ver) (hs : L.sz = sz) (ho : L.o = 0) (hb : w0.heap.size ≤ L.b) (h1 : cs.all AV.one = true) (hw : w.heap[L.b]? = some (.cells c t (0, 0))) (hn : c.size = L.n) (hl : cs.length ≤ c.size)
    (hr : VRels φ cs (c.toList.take cs.length)) (hne : ∀ (k : Nat) (K : Loc), φ[k]? = some K → K.rw = true → K.b ≠ L.b) : Rel w0 (φ ++ [L]) (H ++ [.rw ver sz cs]) w := by
  have hx := Ext.append φ L
  refine ⟨by simp [R.len], R.below, fun id B hB => ?_, fun i j M N hi hj hM hN hbb => ?_⟩
  · by_cases hid : id < H.length
    · rw [List.getElem?_append_left hid] at hB
      obtain ⟨K, hK, hrel⟩ := R.blk id B hB
      refine ⟨K, by rw [List.getElem?_append_left (by rw [R.len]; exact hid)]; exact hK, ?_⟩
      cases B with
      | rw v s cells =>
        simp only [BRel] at hrel ⊢
        obtain ⟨a1, a2, a3, a4, a5, a6, c', t', b1, b2, b3, b4⟩ := hrel
        exact ⟨a1, a2, a3, a4, a5, a6, c', t', b1, b2, b3, b4.ext hx _ _⟩
      | ro cells =>
        simp only [BRel] at hrel ⊢
        obtain ⟨a1, a2, a3, a4, vs, b1, b2⟩ := hrel
        exact ⟨a1, a2, a3, a4, vs, b1.ext hx _ _, b2⟩
    · have hid' : id = H.length := by
        have := (List.getElem?_eq_some_iff.1 hB).1
        simp at this
        omega
      subst hid'
      simp at hB
      subst hB
      refine ⟨L, by rw [← R.len]; simp, ?_⟩
      simp only [BRel]
      exact ⟨hrw, hv, hs, ho, hb, h1, c, t, hw, hn, hl, hr.ext hx _ _⟩
  · by_cases hi' : i < φ.length
    · rw [List.getElem?_append_left hi'] at hi
      by_cases hj' : j < φ.length
      · rw [List.getElem?_append_left hj'] at hj
        exact R.inj i j M N hi hj hM hN hbb
      · have : j = φ.length := by
          have := (List.getElem?_eq_some_iff.1 hj).1
          simp at this
          omega
        subst this
        simp at hj
        subst hj
        exact absurd hbb (hne i M hi hM)
    · have : i = φ.length := by
        have := (List.getElem?_eq_some_iff.1 hi).1
        simp at this
        omega
      subst this
      simp at hi
      subst hi
      by_cases hj' : j < φ.length
      · rw [List.getElem?_append_left hj'] at hj
        exact absurd hbb.symm (hne j N hj hN)
      · have := (List.getElem?_eq_some_iff.1 hj).1
        simp at this
        omega

structure Keeps (w0 : World) (φ1 : Map) (n0 : Nat) (A : Heap) (φA : Map) (used : List Nat) (w : World) : Prop where
  rel : Rel w0 φA A w
  ext : Ext (φ1.take n0) φA
  away : ∀ (id : Nat) (L : Loc), φ1[id]? = some L → L.rw = true → n0 ≤ id → id ∉ used → ∀ (k : Nat) (K : Loc), φA[k]? = some K → K.rw = true → K.b ≠ L.b

theorem keepOne_sound {φ1 φA : Map} {n0 : Nat} {H1 A : Heap} {used : List Nat} (R1 : Rel w0 φ1 H1 w) (hK : Keeps w0 φ1 n0 A φA used w) {v : AV} {V : Value} (hv : VRel φ1 v V) {x : AV × Heap × List Nat} (h : keepOne n0 H1 v A used = some x) :
    ∃ φA', Keeps w0 φ1 n0 x.2.1 φA' x.2.2 w ∧ Ext φA φA' ∧ VRel φA' x.1 V := by
  unfold keepOne at h
  split at h
  · rename_i hfl
    simp only [Option.some.injEq] at h; subst h
    exact ⟨φA, hK, Ext.refl _, rel_flat v V hv hfl⟩
  · cases v <;> simp only [reduceCtorEq] at h
    case sl id ver off len l hnf =>
      split at h
      · rename_i hid
        simp only [Option.some.injEq] at h; subst h
        refine ⟨φA, hK, Ext.refl _, (rel_take _ V hv ?_).ext hK.ext⟩
        simp only [AV.low, decide_eq_true_eq]
        exact hid
      · rename_i hid
        split at h
        · cases h
        · rename_i hus
          split at h
          · rename_i ver' sz cs hB
            split at h
            · rename_i hc
              simp only [Option.some.injEq] at h; subst h
              obtain ⟨hver, hfl⟩ := hc
              subst hver
              obtain ⟨L, hL, hrw, hLv, hLs, hLo, hb, h1, c, t, hw, hn, hl, hrel⟩ := R1.own hB
              have hus' : id ∉ used := by simpa using hus
              have hne := hK.away id L hL hrw (by omega) hus'
              have hR := hK.rel.adopt hrw hLv hLs hLo hb h1 hw hn hl (rels_flat cs _ hrel hfl) hne
              refine ⟨φA ++ [L], ⟨hR, hK.ext.trans (Ext.append _ _), ?_⟩, Ext.append _ _, ?_⟩
              · intro id' L' hL' hrw' hid' hus2 k K hk hKr
                simp only [List.mem_cons, not_or] at hus2
                by_cases hkl : k < φA.length
                · rw [List.getElem?_append_left hkl] at hk
                  exact hK.away id' L' hL' hrw' hid' hus2.2 k K hk hKr
                · have : k = φA.length := by
                    have := (List.getElem?_eq_some_iff.1 hk).1
                    simp at this
                    omega
                  subst this
                  simp at hk
                  subst hk
                  exact fun e => hus2.1 (R1.inj id' id L' L hL' hL hrw' hrw e.symm)
              · simp only [VRel] at hv ⊢
                obtain ⟨L', hL', hle, hsh, hcond⟩ := hv
                rw [hL] at hL'
                simp only [Option.some.injEq] at hL'
                subst hL'
                exact ⟨L, by rw [← hK.rel.len]; simp, hle, hsh, hcond⟩
            · cases h
          · cases h

theorem keepAll_sound {φ1 : Map} {n0 : Nat} {H1 : Heap} (R1 : Rel w0 φ1 H1 w) : ∀ {vs : List AV} {us : List Value} {φA : Map} {A : Heap} {used : List Nat} {x : List AV × Heap}, Keeps w0 φ1 n0 A φA used w → VRels φ1 vs us → keepAll n0 H1 vs A used = some x →
    ∃ φA', Rel w0 φA' x.2 w ∧ Ext φA φA' ∧ VRels φA' x.1 us
  | [], us, φA, A, used, x, hK, hv, h => by
    simp only [keepAll, Option.some.injEq] at h; subst h
    simp only [VRels] at hv; subst hv
    exact ⟨φA, hK.rel, Ext.refl _, VRels.nil⟩
  | v :: vs, us, φA, A, used, x, hK, hv, h => by
    simp only [VRels] at hv
    obtain ⟨V, us', rfl, hV, hr⟩ := hv
    simp only [keepAll, Option.bind_eq_some_iff, Option.map_eq_some_iff] at h
    obtain ⟨y, h1, z, h2, rfl⟩ := h
    obtain ⟨φB, hKB, hxB, hvB⟩ := keepOne_sound R1 hK hV h1
    obtain ⟨φC, hRC, hxC, hvC⟩ := keepAll_sound R1 hKB hr h2
    exact ⟨φC, hRC, hxB.trans hxC, VRels.cons (hvB.ext hxC) hvC⟩

theorem finish_sound {φ1 : Map} {H1 : Heap} {w1 : World} (R : Rel w0 φ H w) (hx : Ext φ φ1) (R1 : Rel w0 φ1 H1 w1) {m : RetMode} (hinv : m ≠ .raw → Inv H.length H H1) {v : AV} {V : Value} (hv : VRel φ1 v V) {r : AV × Heap} (h : finish m H.length v H1 = some r) :
    ∃ φ', Ext φ φ' ∧ Rel w0 φ' r.2 w1 ∧ VRel φ' r.1 V := by
  by_cases hm : m = .raw
  · subst hm
    simp only [finish, Option.some.injEq] at h; subst h
    exact ⟨φ1, hx, R1, hv⟩
  have hlow := (hinv hm).2 R.low
  have hxt := hx.take
  rw [R.len] at hxt
  have hRt := R1.take hlow
  have hK : Keeps w0 φ1 H.length (H1.take H.length) (φ1.take H.length) [] w1 := by
    refine ⟨hRt, Ext.refl _, fun id L hL hrw hid _ k K hk hKr hb => ?_⟩
    rw [List.getElem?_take] at hk
    split at hk
    · have := R1.inj k id K L hk hL hKr hrw hb
      omega
    · cases hk
  unfold finish at h
  split at h
  · simp only [Option.some.injEq] at h; subst h
    exact ⟨φ1, hx, R1, hv⟩
  · split at h
    · rename_i hfl
      simp only [Option.some.injEq] at h; subst h
      exact ⟨_, hxt, hRt, rel_flat v V hv hfl⟩
    · cases h
  · split at h
    · rename_i vs
      rw [Option.map_eq_some_iff] at h
      obtain ⟨x, h1, rfl⟩ := h
      simp only [VRel] at hv
      obtain ⟨us, rfl, hus⟩ := hv
      obtain ⟨φC, hRC, hxC, hvC⟩ := keepAll_sound R1 hK hus h1
      refine ⟨φC, hxt.trans hxC, hRC, ?_⟩
      simp only [VRel]
      exact ⟨us, rfl, hvC⟩
    · rw [Option.map_eq_some_iff] at h
      obtain ⟨x, h1, rfl⟩ := h
      obtain ⟨φC, hKC, hxC, hvC⟩ := keepOne_sound R1 hK hv h1
      exact ⟨φC, hxt.trans hxC, hKC.rel, hvC⟩

/-- The table of functions is the program's. -/
structure POK (P : Program) (X : Prog) : Prop where
  F : ∀ f af, X.F f = some af → ∃ fn, P.funcs[f]? = some fn ∧ (fn.name == "runtime.NumGoroutine") = false ∧ compFunc P af.mode fn = some af
  mixed : P.follows .mixedOrders = true

theorem enters_of' {f : Nat} {fn : Func} (hf : P.funcs[f]? = some fn) (hn : (fn.name == "runtime.NumGoroutine") = false) (hb : fn.body.isSome = true) : Enters P f := by
  intro args w
  have hb' : fn.body.isNone = false := by cases h : fn.body <;> simp_all
  simp only [callFunc, Sem.run_bind, run_program, Result.andThen_ok, hf, hn, Bool.false_eq_true, if_false, hb']
  rfl

theorem compFunc_mode {m : RetMode} {fn : Func} {af : AFunc} (h : compFunc P m fn = some af) : ∃ c b, fn.body = some c ∧ compCode P fn.ntmps c = some b ∧ compRes P fn.results.toList = some af.res ∧ af.body = b ∧ af.np ≤ fn.ntmps := by
  unfold compFunc at h
  split at h
  · rename_i c hc
    split at h
    · rename_i b rs hb hr
      split at h
      · rename_i hle
        simp only [Option.some.injEq] at h
        subst h
        exact ⟨c, b, hc, hb, hr, rfl, hle⟩
      · cases h
    · cases h
  · cases h

theorem call_sound {X : Prog} (hX : POK P X) (hhook : OSound P w0 X.hook) (hlowh : OLow X.hook) {C : Oracle} (hC : OSound P w0 C) (hlow : OLow C) (N : Nat) : OSound P w0 (callBody X C N) := by
  intro lim f args H r h
  unfold callBody at h
  split at h
  · rename_i af haf
    obtain ⟨fn, hf, hname, hcomp⟩ := hX.F f af haf
    obtain ⟨c, b, hbody, hcode, hres, hab, hnp⟩ := compFunc_mode hcomp
    refine ⟨enters_of' hf hname (by rw [hbody]; rfl), fun φ w vargs R hargs => ?_⟩
    split at h
    · rename_i hal
      simp only [Option.bind_eq_some_iff] at h
      obtain ⟨x, hx, h⟩ := h
      have hlen := hargs.length
      have he : ERel φ (Env.ofList args) (vargs.toArray ++ Array.replicate (fn.ntmps - vargs.toArray.size) undef) := by
        intro t
        unfold Env.ofList
        by_cases ht : t < args.length
        · obtain ⟨v, hv, hrel⟩ := hargs.get (List.getElem?_eq_getElem ht)
          have htv : t < vargs.length := by omega
          rw [List.getElem?_eq_getElem htv] at hv
          simp only [Option.some.injEq] at hv
          rw [List.getD_eq_getElem?_getD, List.getElem?_eq_getElem ht, Option.getD_some]
          have : (vargs.toArray ++ Array.replicate (fn.ntmps - vargs.toArray.size) undef).getD t undef = vargs[t] := by
            rw [Array.getD_eq_getD_getElem?, Array.getElem?_append_left (by simpa using htv)]
            simp [htv]
          rw [this, hv]
          exact hrel
        · rw [List.getD_eq_getElem?_getD, List.getElem?_eq_none (by omega), Option.getD_none]
          have : (vargs.toArray ++ Array.replicate (fn.ntmps - vargs.toArray.size) undef).getD t undef = undef := by
            rw [Array.getD_eq_getD_getElem?, Array.getElem?_append_right (by simp; omega)]
            simp only [Array.getElem?_replicate]
            split <;> rfl
          rw [this]
          simp only [VRel]
      have hsz : (vargs.toArray ++ Array.replicate (fn.ntmps - vargs.toArray.size) undef).size = fn.ntmps := by simp; omega
      have hinv : af.mode ≠ .raw → Inv H.length H x.2.2 := by
        intro hm
        rw [if_neg hm] at hx
        exact exec_inv hlow (Nat.le_refl _) af.body _ _ _ (Nat.le_refl _) hx
      rw [hab] at hx
      refine callsIn_of_wp hf hbody trivial (code_sound hC hX.mixed c b hcode φ H w { tmps := vargs.toArray ++ Array.replicate (fn.ntmps - vargs.toArray.size) undef, defers := [] } (Env.ofList args) x _ hx R he hsz ?_) rfl
      intro φ1 a1 w1 hx1 R1 he1 hs1 hd1
      have fin : (x.1 = .norm ∨ x.1 = .ret) → (resOf x.2.1 x.2.2 af.res).bind (fun v => finish af.mode H.length v x.2.2) = some r → a1.defers = [] ∧ ∃ v, (results fn a1.tmps).run P w1 = .ok v w1 ∧ ∃ φ' v', (Ending.returned v) = .returned v' ∧ Ext φ φ' ∧ Rel w0 φ' r.2 w1 ∧ VRel φ' r.1 v' := by
        intro _ hb
        rw [Option.bind_eq_some_iff] at hb
        obtain ⟨v, hv, hfin⟩ := hb
        obtain ⟨u, hu, hrun⟩ := resOf_rel (P := P) R1 he1 hres hv
        obtain ⟨φ', g1, g2, g3⟩ := finish_sound R hx1 R1 hinv hu hfin
        exact ⟨hd1, u, hrun, φ', u, rfl, g1, g2, g3⟩
      cases hx1' : x.1 with
      | norm => rw [hx1'] at h; exact fin (.inl hx1') h
      | ret => rw [hx1'] at h; exact fin (.inr hx1') h
      | exit id => rw [hx1'] at h; cases h
      | goto l => rw [hx1'] at h; cases h
    · cases h
  · exact hhook lim f args H r h

theorem evalN_sound {X : Prog} (hX : POK P X) (hhook : OSound P w0 X.hook) (hlowh : OLow X.hook) : ∀ n, OSound P w0 (evalN X n)
  | 0 => fun lim f args H r h => by simp [evalN] at h
  | n + 1 => call_sound hX hhook hlowh (evalN_sound hX hhook hlowh n) (evalN_inv hlowh n) n
end
end Go.AM
