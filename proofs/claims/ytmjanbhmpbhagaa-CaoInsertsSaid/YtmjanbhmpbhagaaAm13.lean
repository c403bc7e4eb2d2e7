/- REGIONS, CODE AND CALLS OF THE PROGRAM'S FORM DO WHAT THE ABSTRACT MACHINE SAYS. Conditions: those of each theorem. -/
import Derived.Test.YtmjanbhmpbhagaaAm12
import Derived.LoopNIn
set_option linter.unusedVariables false
set_option linter.unusedSimpArgs false
namespace Go.AM
open Go.RowKit

section
variable {P : Program} {w0 : World} {φ : Map} {H : Heap} {w : World} {a : Act} {e : Env}

theorem op_ne_defer {q : Bool} {o : Op} {ao : AOp} (hc : compOp P q o = some ao) : ∀ c, o ≠ .defer c := by
  rintro c rfl
  simp [compOp] at hc

theorem uponIn_does {ρ : Option Nat} {n : Nat} {o : Oper} {v : AV} {H' : Heap} (hd : Does P w0 φ w a o v H') (hdst : o.dst = none ∨ ∃ d, o.dst = some d) {next : Act → World → Prop} {Q : Exit → Act → World → Prop}
    (h : ∀ φ' w' u, Ext φ φ' → Rel w0 φ' H' w' → (o.dst ≠ none → VRel φ' v u) → next (a.put o.dst u) w') : o.uponIn (Fr ρ) n P a next Q ((execOp a.eval o).run P w) := by
  obtain ⟨φ', w', hx, R', hor⟩ := hd
  rcases hor with ⟨hn, hr⟩ | ⟨u, hr, hv⟩
  · rw [hr, Oper.uponIn_skip]
    exact h φ' w' undef hx R' (fun hne => absurd hn hne)
  · rw [hr, Oper.uponIn_value]
    exact h φ' w' u hx R' (fun _ => hv)

theorem run_call_enter {o : Oper} {c : Call} {f : Nat} {V : Value} {caps : List Value} (ho : o.op = .call c) (hc : ∃ x, c.callee = .value x ∧ a.eval x = V) (hV : V = .func (.func f) #[] caps.toArray) (hE : Enters P f) (w : World) :
    (execOp a.eval o).run P w = .ok (.enter f ((c.args.toList.map a.eval) ++ caps).toArray) w := by
  obtain ⟨x, hx, hxv⟩ := hc
  subst hV
  simp only [execOp, ho, resolve, hx, hxv, Deferred.ofValue, Sem.run_bind, Sem.run_pure, Result.andThen_ok, invoke]
  have e1 : (#[] ++ c.args.map a.eval ++ caps.toArray) = ((c.args.toList.map a.eval) ++ caps).toArray := by
    rw [Array.empty_append, ← toArray_map]
    simp
  rw [e1]
  exact hE _ w

theorem carg_func {x : Operand} {y : AArg} (h : carg x = some y) {f : Nat} (hx : x = .func f) : y = .c (.fn f []) := by
  subst hx
  simp only [carg, Option.some.injEq] at h
  exact h.symm

/-- Every operation. -/
theorem oper_sound {C : Oracle} (hC : OSound P w0 C) {lim nt : Nat} {q : Bool} {ops : Array Oper} {o : Oper} {g : GOp} (hg : compOper P nt q ops o = some g) (R : Rel w0 φ H w) (he : ERel φ e a.tmps) (hsz : a.tmps.size = nt) {r : AV × Heap} (hs : stepOp C lim g.op e H = some r)
    {ρ : Option Nat} {n : Nat} {next : Act → World → Prop} {Q : Exit → Act → World → Prop} (h : ∀ φ' a' w', Ext φ φ' → Rel w0 φ' r.2 w' → ERel φ' (e.put g.d r.1) a'.tmps → a'.tmps.size = nt → a'.defers = a.defers → next a' w') : o.wpIn (Fr ρ) n P a w next Q := by
  unfold compOper at hg
  split at hg
  · rename_i gd ao hgd hco
    split at hg
    · rename_i hdst
      simp only [Option.some.injEq] at hg
      subst hg
      have hd : ∀ t, o.dst = some t → t < a.tmps.size := by
        intro t ht
        rw [ht] at hdst
        simp only [dstOk, Bool.and_eq_true, decide_eq_true_eq] at hdst
        rw [hsz]; exact hdst.1
      have hput : ∀ φ' u, Ext φ φ' → (o.dst ≠ none → VRel φ' r.1 u) → ERel φ' (e.put o.dst r.1) (a.put o.dst u).tmps := by
        intro φ' u hx hv
        cases hdd : o.dst with
        | none => exact he.ext hx
        | some k => exact ERel.put (he.ext hx) (d := some k) (fun t ht => hd t (by rw [hdd]; exact ht)) (hv (by rw [hdd]; simp))
      have hsize : ∀ u, (a.put o.dst u).tmps.size = nt := by
        intro u
        cases hdd : o.dst <;> simp [Act.put, hsz]
      have hdef : ∀ u, (a.put o.dst u).defers = a.defers := by
        intro u
        cases hdd : o.dst <;> simp [Act.put]
      refine ⟨fun f _ => trivial, ?_⟩
      rw [Oper.semAt_eq _ _ _ (op_ne_defer hco)]
      by_cases hcall : (∀ f l q, ao ≠ .call f l q) ∧ ∀ f l q, ao ≠ .callv f l q
      · have hst : storeLike ao = true → o.dst = none := by
          intro hst
          cases hdd : o.dst with
          | none => rfl
          | some k => rw [hdd] at hdst; simp [dstOk, hst] at hdst
        exact uponIn_does (op_sound hco hst hcall R he hs) (by cases o.dst <;> simp) (fun φ' w' u hx R' hv => h φ' _ w' hx R' (hput φ' u hx hv) (hsize u) (hdef u))
      · -- a call
        have key : ∃ c f l caps V vs q', o.op = .call c ∧ (∃ x, c.callee = .value x ∧ a.eval x = V) ∧ V = .func (.func f) #[] vs.toArray ∧ cargs c.args.toList = some l ∧ VRels φ caps vs ∧ quietly q' H (C lim f (l.map (·.ev e) ++ caps) H) = some r := by
          have hex : (∃ f l q, ao = .call f l q) ∨ ∃ f l q, ao = .callv f l q := by
            apply Classical.byContradiction
            intro hne
            rw [not_or] at hne
            exact hcall ⟨fun f l q hh => hne.1 ⟨f, l, q, hh⟩, fun f l q hh => hne.2 ⟨f, l, q, hh⟩⟩
          have hop : ∃ c, o.op = .call c ∧ compCall P q c = some ao := by
            unfold compOp at hco
            split at hco <;> first
              | (rename_i c ho; exact ⟨c, ho, hco⟩)
              | (exfalso
                 rcases hex with ⟨f, l, q', rfl⟩ | ⟨f, l, q', rfl⟩ <;>
                 · repeat' (first | (simp only [Option.map_eq_some_iff, reduceCtorEq, and_false, exists_false, Option.some.injEq] at hco; done) | (unfold compEq at hco) | (split at hco))
                   all_goals (first | (simp at hco; done) | (rename_i hco'; simp at hco; done)))
          obtain ⟨c, ho, hcc⟩ := hop
          unfold compCall at hcc
          split at hcc
          · rename_i f hcal
            rw [Option.map_eq_some_iff] at hcc
            obtain ⟨l, hl, rfl⟩ := hcc
            simp only [stepOp] at hs
            exact ⟨c, f, l, [], _, [], q, ho, ⟨.func f, hcal, rfl⟩, rfl, hl, VRels.nil, by simpa using hs⟩
          · rename_i x hx1 hcal
            split at hcc
            · rename_i fa l hfa hl
              simp only [Option.some.injEq] at hcc
              subst hcc
              simp only [stepOp] at hs
              split at hs
              · rename_i g' caps hgv
                have hv := carg_rel he hfa
                rw [hgv] at hv
                simp only [VRel] at hv
                obtain ⟨vs, hvs, hrel⟩ := hv
                exact ⟨c, g', l, caps, _, vs, q, ho, ⟨x, hcal, rfl⟩, hvs, hl, hrel, hs⟩
              · cases hs
            · cases hcc
          all_goals
            exfalso
            rcases hex with ⟨f, l, q', rfl⟩ | ⟨f, l, q', rfl⟩ <;>
            · repeat' (first | (simp only [Option.map_eq_some_iff, reduceCtorEq, and_false, exists_false, Option.some.injEq] at hcc; done) | (split at hcc))
              all_goals (first | (simp at hcc; done) | skip)
        obtain ⟨c, f, l, caps, V, vs, q', ho, hcal, hV, hl, hrel, hq⟩ := key
        have hqq := quietly_inv hq
        obtain ⟨hE, hCS⟩ := hC lim f _ H r hqq
        have hargs := (cargs_rel he hl).append hrel
        rw [run_call_enter ho hcal hV hE w, Oper.uponIn_enter]
        refine ⟨fun hdep => by simp [Fr, Fence.wide] at hdep, ?_⟩
        refine callsIn_fr ((hCS φ w _ R hargs).mono ?_)
        rintro e' w' ⟨φ', v, rfl, hx, R', hv⟩
        exact h φ' _ w' hx R' (hput φ' v hx (fun _ => hv)) (hsize v) (hdef v)
    · cases hg
  · cases hg

theorem wanted_rel {ops : Array Oper} {o : Oper} {gd : Option (Nat × Bool)} (hg : compGuard ops o = some gd) (he : ERel φ e a.tmps) {b : Bool} (hb : wantedA gd e = some b) : Region.wanted o (yielded ops a.tmps) = b := by
  unfold compGuard at hg
  unfold Region.wanted
  split at hg
  · rename_i h0
    simp only [Option.some.injEq] at hg
    subst hg
    simp only [wantedA, Option.some.injEq] at hb
    simp only [h0, hb]
  · rename_i j want h0
    split at hg
    · rename_i p hp
      split at hg
      · rename_i t ht
        simp only [Option.some.injEq] at hg
        subst hg
        simp only [h0]
        have hy : yielded ops a.tmps j = match a.tmps[t]? with | some (.bool b) => some b | _ => none := by
          unfold yielded
          rw [hp]
          simp only [Option.bind_some, ht]
          cases a.tmps[t]? with
          | none => rfl
          | some v => cases v <;> rfl
        rw [hy]
        have hr := he t
        simp only [wantedA] at hb
        split at hb
        · rename_i bb hbb
          simp only [Option.some.injEq] at hb
          rw [hbb] at hr
          simp only [VRel] at hr
          have hlt : t < a.tmps.size := by
            apply Classical.byContradiction
            intro hge
            simp [Array.getD, hge, undef] at hr
          simp only [Array.getD, hlt, dite_true, Array.getInternal_eq_getElem] at hr
          rw [Array.getElem?_eq_getElem hlt, hr]
          rw [← hb]
          cases bb <;> cases want <;> rfl
        · rename_i hbb
          simp only [Option.some.injEq] at hb
          rw [hbb] at hr
          simp only [VRel] at hr
          rw [← hb]
          by_cases hlt : t < a.tmps.size
          · simp only [Array.getD, hlt, dite_true, Array.getInternal_eq_getElem] at hr
            rw [Array.getElem?_eq_getElem hlt, hr]
            cases want <;> rfl
          · rw [Array.getElem?_eq_none (Nat.le_of_not_lt hlt)]
            cases want <;> rfl
        · cases hb
      · cases hg
    · cases hg

def Pairs (P : Program) (nt : Nat) (ops : Array Oper) : List Nat → List GOp → Prop
  | [], [] => True
  | i :: l, g :: gs => (∃ o q, ops[i]? = some o ∧ compOper P nt q ops o = some g) ∧ Pairs P nt ops l gs
  | _, _ => False

/-- A row of operations. -/
theorem ops_sound {C : Oracle} (hC : OSound P w0 C) {lim nt : Nat} {ops : Array Oper} {ρ : Option Nat} {n : Nat} {Q : Exit → Act → World → Prop} : ∀ {l : List Nat} {gs : List GOp} {φ : Map} {H : Heap} {w : World} {a : Act} {e : Env} {s : Env × Heap}, Pairs P nt ops l gs → runOps C lim gs e H = some s →
    Rel w0 φ H w → ERel φ e a.tmps → a.tmps.size = nt → (∀ φ' a' w', Ext φ φ' → Rel w0 φ' s.2 w' → ERel φ' s.1 a'.tmps → a'.tmps.size = nt → a'.defers = a.defers → Q .normal a' w') → wpOpsIn (Fr ρ) n P ops Q l a w
  | [], [], φ, H, w, a, e, s, _, hr, R, he, hsz, hQ => by
    simp only [runOps, Option.some.injEq] at hr
    subst hr
    exact hQ φ a w (Ext.refl _) R he hsz rfl
  | [], g :: gs, _, _, _, _, _, _, hp, _, _, _, _, _ => by simp [Pairs] at hp
  | i :: l, [], _, _, _, _, _, _, hp, _, _, _, _, _ => by simp [Pairs] at hp
  | i :: l, g :: gs, φ, H, w, a, e, s, hp, hr, R, he, hsz, hQ => by
    simp only [Pairs] at hp
    obtain ⟨⟨o, q, ho, hg⟩, hp⟩ := hp
    simp only [runOps, Option.bind_eq_some_iff] at hr
    obtain ⟨s1, h1, hr⟩ := hr
    have hg0 := hg
    unfold compOper at hg
    split at hg
    · rename_i gd ao hgd hco
      split at hg
      · rename_i hdst
        simp only [Option.some.injEq] at hg
        subst hg
        unfold stepG at h1
        simp only [wpOpsIn, ho]
        split at h1
        · rename_i hw
          have hwr := wanted_rel hgd he hw
          rw [if_pos hwr]
          rw [Option.map_eq_some_iff] at h1
          obtain ⟨r, h1, rfl⟩ := h1
          exact oper_sound hC hg0 R he hsz h1 (fun φ' a' w' hx R' he' hsz' hd' => ops_sound hC hp hr R' he' hsz' fun φ2 a2 w2 hx2 R2 he2 hs2 hd2 => hQ φ2 a2 w2 (hx.trans hx2) R2 he2 hs2 (hd2.trans hd'))
        · rename_i hw
          have hwr := wanted_rel hgd he hw
          rw [if_neg (by rw [hwr]; simp)]
          simp only [Option.some.injEq] at h1
          subst h1
          refine ⟨fun f _ => trivial, ?_⟩
          have hd : ∀ t, o.dst = some t → t < a.tmps.size := by
            intro t ht
            rw [ht] at hdst
            simp only [dstOk, Bool.and_eq_true, decide_eq_true_eq] at hdst
            rw [hsz]; exact hdst.1
          refine ops_sound hC hp hr R (ERel.put he hd (v := .undef) (u := undef) rfl) (by cases o.dst <;> simp [Act.put, hsz]) fun φ2 a2 w2 hx2 R2 he2 hs2 hd2 => hQ φ2 a2 w2 hx2 R2 he2 hs2 (hd2.trans (by cases o.dst <;> simp [Act.put]))
        · cases h1
      · cases hg
    · cases hg

theorem pairs_of_comp {nt : Nat} {ops : Array Oper} : ∀ {l : List (Bool × Oper)} {gs : List GOp}, compOpers P nt ops l = some gs → gs.length = l.length ∧ ∀ (j : Nat) (p : Bool × Oper), l[j]? = some p → ∃ g, gs[j]? = some g ∧ compOper P nt p.1 ops p.2 = some g
  | [], gs, h => by simp only [compOpers, Option.some.injEq] at h; subst h; simp
  | (q, o) :: r, gs, h => by
    simp only [compOpers] at h
    split at h
    · rename_i g l hg hl
      simp only [Option.some.injEq] at h
      subst h
      obtain ⟨h1, h2⟩ := pairs_of_comp hl
      refine ⟨by simp [h1], fun j p hj => ?_⟩
      cases j with
      | zero => simp at hj; subst hj; exact ⟨g, rfl, hg⟩
      | succ j => simpa using h2 j p (by simpa using hj)
    · cases h

theorem pairs_list {nt : Nat} {ops : Array Oper} {gs : List GOp} (h : ∀ i, i < ops.size → ∃ o q, ops[i]? = some o ∧ compOper P nt q ops o = some (gs.getD i default)) : ∀ {l : List Nat}, (∀ i ∈ l, i < ops.size) → Pairs P nt ops l (l.map fun i => gs.getD i default)
  | [], _ => trivial
  | i :: l, hl => by
    simp only [List.map_cons, Pairs]
    exact ⟨h i (hl i (by simp)), pairs_list h (fun j hj => hl j (by simp [hj]))⟩

theorem map_range_getD {gs : List GOp} {n : Nat} (h : gs.length = n) : (List.range n).map (fun i => gs.getD i default) = gs := by
  apply List.ext_getElem?
  intro j
  by_cases hj : j < n
  · simp [hj, List.getD, List.getElem?_eq_getElem (show j < gs.length by omega)]
  · rw [List.getElem?_eq_none (by simp; omega), List.getElem?_eq_none (by omega)]

theorem lin_mem {ops : Array Oper} : ∀ (fuel t : Nat) (listed : Array Bool) (i : Nat), i ∈ Region.linearise.go .any ops fuel t listed [] → i < ops.size
  | 0, t, listed, i, h => by simp [Region.linearise.go] at h
  | fuel + 1, t, listed, i, h => by
    have hdef : Region.linearise.go .any ops (fuel + 1) t listed [] = (match (Region.ready .any ops listed)[t % (Region.ready .any ops listed).length]? with
      | some i => Region.linearise.go .any ops fuel (t / (Region.ready .any ops listed).length) (listed.setIfInBounds i true) [i]
      | none => [].reverse) := rfl
    rw [hdef] at h
    split at h
    · rename_i j hj
      rw [linearise_go_acc] at h
      rcases List.mem_append.1 h with h | h
      · have hji : i = j := by simpa using h
        subst hji
        have := List.mem_of_getElem? hj
        rw [mem_ready] at this
        obtain ⟨_, o, ho, _⟩ := this
        exact (Array.getElem?_eq_some_iff.1 ho).1
      · exact lin_mem fuel _ _ i h
    · simp at h

/-- A region. -/
theorem region_sound {C : Oracle} (hC : OSound P w0 C) (hm : P.follows .mixedOrders = true) {lim nt id : Nat} {ops : Array Oper} {draw : Bool} {c : ACode} (hc : compRegion P nt ops draw = some c) {ρ : Option Nat} {n N : Nat} {Q : Exit → Act → World → Prop} {x : Out} (hx : execC C N lim c e H = some x)
    (R : Rel w0 φ H w) (he : ERel φ e a.tmps) (hsz : a.tmps.size = nt) (hQ : ∀ φ' a' w', x.1 = .norm → Ext φ φ' → Rel w0 φ' x.2.2 w' → ERel φ' x.2.1 a'.tmps → a'.tmps.size = nt → a'.defers = a.defers → Q .normal a' w') : (Code.region id ops draw).wpIn (Fr ρ) n P Q a w := by
  unfold compRegion at hc
  cases draw
  · simp only [Bool.false_eq_true, if_false, Option.map_eq_some_iff] at hc
    obtain ⟨gs, hgs, rfl⟩ := hc
    simp only [execC, Option.map_eq_some_iff] at hx
    obtain ⟨s, hs, rfl⟩ := hx
    obtain ⟨h1, h2⟩ := pairs_of_comp hgs
    simp only [List.length_map, Array.length_toList] at h1
    refine wpIn_region (ops_sound (gs := gs) hC ?_ hs R he hsz (fun φ' a' w' hx R' he' hs' hd' => hQ φ' a' w' rfl hx R' he' hs' hd'))
    rw [← map_range_getD h1]
    refine pairs_list (fun i hi => ?_) (fun i hi => by simpa using hi)
    obtain ⟨g, hg1, hg2⟩ := h2 i (false, ops[i]) (by simp [hi])
    exact ⟨ops[i], false, Array.getElem?_eq_getElem hi, by rw [List.getD_eq_getElem?_getD, hg1]; exact hg2⟩
  · simp only [if_true] at hc
    split at hc
    · rename_i l hl
      split at hc
      · rename_i gs hgs
        split at hc
        · rename_i hok
          simp only [Option.some.injEq] at hc
          have hxx : ∃ s, runOps C lim gs e H = some s ∧ apartAll s.1 (pairsOf ops.toList gs) = true ∧ x = (.norm, s.1, s.2) := by
            split at hc
            · rename_i hemp
              subst hc
              simp only [execC, Option.map_eq_some_iff] at hx
              obtain ⟨s, hs, hx⟩ := hx
              rw [List.isEmpty_iff] at hemp
              exact ⟨s, hs, by rw [hemp]; rfl, hx.symm⟩
            · subst hc
              simp only [execC, Option.bind_eq_some_iff] at hx
              obtain ⟨s, hs, hx⟩ := hx
              split at hx
              · rename_i hap
                simp only [Option.some.injEq] at hx
                exact ⟨s, hs, hap, hx.symm⟩
              · cases hx
          obtain ⟨s, hs, hap, rfl⟩ := hxx
          -- the flags are beside the text's own operations
          have hll : l.length = ops.size ∧ ∀ i (hi : i < ops.size), ∃ q, l[i]? = some (q, ops[i]) := by
            unfold quietFlags at hl
            simp only at hl
            split at hl
            · cases hl
            · simp only [Option.some.injEq] at hl
              subst hl
              refine ⟨by simp, fun i hi => ?_⟩
              simp [hi]
          obtain ⟨h1, h2⟩ := pairs_of_comp hgs
          rw [hll.1] at h1
          have hp : ∀ i, i < ops.size → ∃ o q, ops[i]? = some o ∧ compOper P nt q ops o = some (gs.getD i default) := by
            intro i hi
            obtain ⟨q, hq⟩ := hll.2 i hi
            obtain ⟨g, hg1, hg2⟩ := h2 i _ hq
            exact ⟨ops[i], q, Array.getElem?_eq_getElem hi, by rw [List.getD_eq_getElem?_getD, hg1]; exact hg2⟩
          refine wpIn_region_draw fun t => ?_
          have hsch : Region.schedule (P.follows .mixedOrders) ops t = Region.linearise .any ops t := by simp [Region.schedule, hm]
          rw [hsch]
          unfold Region.linearise
          have hlin : runOps C lim ((Region.linearise.go .any ops ops.size t (Array.replicate ops.size false) []).map fun i => gs.getD i default) e H = some s := by
            have hun : unlisted ops.size (Array.replicate ops.size false) = List.range ops.size := by
              unfold unlisted
              apply List.filter_eq_self.2
              intro i hi
              simp only [List.mem_range] at hi
              simp [Array.getD, hi]
            refine lin_sound h1 hok hap ops.size t _ e H (by simp) (fun j o ho hj => ?_) (by rw [hun]; simp) ?_
            · simp [Array.getD] at hj
            · rw [hun, map_range_getD h1]
              exact hs
          have R1 : Rel w0 φ H { w with drawn := w.drawn + 1 } := R.drew
          exact ops_sound (gs := (Region.linearise.go .any ops ops.size t (Array.replicate ops.size false) []).map fun i => gs.getD i default) hC (pairs_list hp fun i hi => lin_mem _ _ _ i hi) hlin R1 he hsz (fun φ' a' w' hx R' he' hs' hd' => hQ φ' a' w' rfl hx R' he' hs' hd')
        · cases hc
      · cases hc
    · cases hc

def exitOf : X → Exit
  | .norm => .normal
  | .exit id => .exit id
  | .goto l => .goto l
  | .ret => .ret

/-- Code. -/
theorem code_sound {C : Oracle} (hC : OSound P w0 C) (hm : P.follows .mixedOrders = true) {lim nt : Nat} {ρ : Option Nat} {n N : Nat} : ∀ (c : Code) (ac : ACode), compCode P nt c = some ac → ∀ (φ : Map) (H : Heap) (w : World) (a : Act) (e : Env) (x : Out) (Q : Exit → Act → World → Prop),
    execC C N lim ac e H = some x → Rel w0 φ H w → ERel φ e a.tmps → a.tmps.size = nt →
    (∀ φ' a' w', Ext φ φ' → Rel w0 φ' x.2.2 w' → ERel φ' x.2.1 a'.tmps → a'.tmps.size = nt → a'.defers = a.defers → Q (exitOf x.1) a' w') → c.wpIn (Fr ρ) n P Q a w := by
  intro c
  induction c with
  | skip =>
    intro ac hc φ H w a e x Q hx R he hsz hQ
    simp only [compCode, Option.some.injEq] at hc; subst hc
    simp only [execC, Option.some.injEq] at hx; subst hx
    exact wpIn_skip (hQ φ a w (Ext.refl _) R he hsz rfl)
  | region id ops draw =>
    intro ac hc φ H w a e x Q hx R he hsz hQ
    simp only [compCode] at hc
    have hn : x.1 = .norm := by
      unfold compRegion at hc
      split at hc
      · split at hc
        · split at hc
          · split at hc
            · simp only [Option.some.injEq] at hc
              split at hc
              · subst hc
                simp only [execC, Option.map_eq_some_iff] at hx
                obtain ⟨s, _, rfl⟩ := hx; rfl
              · subst hc
                simp only [execC, Option.bind_eq_some_iff] at hx
                obtain ⟨s, _, hx⟩ := hx
                split at hx
                · simp only [Option.some.injEq] at hx; rw [← hx]
                · cases hx
            · cases hc
          · cases hc
        · cases hc
      · rw [Option.map_eq_some_iff] at hc
        obtain ⟨g, _, rfl⟩ := hc
        simp only [execC, Option.map_eq_some_iff] at hx
        obtain ⟨s, _, rfl⟩ := hx; rfl
    rw [hn] at hQ
    exact region_sound hC hm hc hx R he hsz (fun φ' a' w' _ => hQ φ' a' w')
  | seq c1 c2 ih1 ih2 =>
    intro ac hc φ H w a e x Q hx R he hsz hQ
    simp only [compCode] at hc
    split at hc
    · rename_i a1 a2 h1 h2
      simp only [Option.some.injEq] at hc; subst hc
      simp only [execC, Option.bind_eq_some_iff] at hx
      obtain ⟨r, hr, hx⟩ := hx
      refine wpIn_seq (ih1 a1 h1 φ H w a e r _ hr R he hsz fun φ' a' w' hx' R' he' hs' hd' => ?_)
      split at hx
      · rename_i hrn
        rw [hrn]
        exact ih2 a2 h2 φ' _ w' a' _ x Q hx R' he' hs' fun φ2 a3 w2 hx2 R2 he2 hs2 hd2 => hQ φ2 a3 w2 (hx'.trans hx2) R2 he2 hs2 (hd2.trans hd')
      · rename_i hrn
        simp only [Option.some.injEq] at hx; subst hx
        have := hQ φ' a' w' hx' R' he' hs' hd'
        cases hr1 : r.1 with
        | norm => exact absurd hr1 hrn
        | exit id => rw [hr1] at this; exact this
        | goto l => rw [hr1] at this; exact this
        | ret => rw [hr1] at this; exact this
    · cases hc
  | cond c0 c1 c2 ih1 ih2 =>
    intro ac hc φ H w a e x Q hx R he hsz hQ
    simp only [compCode] at hc
    split at hc
    · rename_i y a1 a2 h0 h1 h2
      simp only [Option.some.injEq] at hc; subst hc
      simp only [execC] at hx
      split at hx
      · rename_i t ht
        have hv := carg_rel he h0
        rw [ht] at hv
        simp only [VRel] at hv
        refine wpIn_cond hv ?_
        cases t
        · simp only [Bool.false_eq_true, if_false] at hx ⊢
          exact ih2 a2 h2 φ H w a e x Q hx R he hsz hQ
        · simp only [if_true] at hx ⊢
          exact ih1 a1 h1 φ H w a e x Q hx R he hsz hQ
      · cases hx
    · cases hc
  | block id c ih =>
    intro ac hc φ H w a e x Q hx R he hsz hQ
    simp only [compCode, Option.map_eq_some_iff] at hc
    obtain ⟨a1, h1, rfl⟩ := hc
    simp only [execC, Option.map_eq_some_iff] at hx
    obtain ⟨r, hr, hx⟩ := hx
    refine wpIn_block (ih a1 h1 φ H w a e r _ hr R he hsz fun φ' a' w' hx' R' he' hs' hd' => ?_)
    split at hx
    · rename_i hre
      subst hx
      rw [hre]
      simp only [exitOf, Exit.inBlock, if_true]
      exact hQ φ' a' w' hx' R' he' hs' hd'
    · rename_i hre
      subst hx
      have := hQ φ' a' w' hx' R' he' hs' hd'
      cases hr1 : r.1 with
      | norm => rw [hr1] at this; exact this
      | exit id' =>
        rw [hr1] at this hre
        simp only [exitOf, Exit.inBlock]
        rw [if_neg (fun hh => hre (by rw [hh]))]
        exact this
      | goto l => rw [hr1] at this; exact this
      | ret => rw [hr1] at this; exact this
  | loop c ih =>
    intro ac hc φ H w a e x Q hx R he hsz hQ
    simp only [compCode, Option.map_eq_some_iff] at hc
    obtain ⟨a1, h1, rfl⟩ := hc
    simp only [execC] at hx
    refine wpIn_loop_rounds N ?_
    have key : ∀ (k : Nat) (φ' : Map) (H' : Heap) (w' : World) (a' : Act) (e' : Env), Ext φ φ' → Rel w0 φ' H' w' → ERel φ' e' a'.tmps → a'.tmps.size = nt → a'.defers = a.defers → iter (execC C N lim a1) k e' H' = some x → Code.roundsIn (Fr ρ) n P c Q k a' w' := by
      intro k
      induction k with
      | zero => intro φ' H' w' a' e' _ _ _ _ _ hit; simp [iter] at hit
      | succ k ihk =>
        intro φ' H' w' a' e' hx' R' he' hs' hd' hit
        simp only [iter, Option.bind_eq_some_iff] at hit
        obtain ⟨r, hr, hit⟩ := hit
        rw [roundsIn_succ]
        refine ih a1 h1 φ' H' w' a' e' r _ hr R' he' hs' fun φ2 a2 w2 hx2 R2 he2 hs2 hd2 => ?_
        split at hit
        · rename_i hrn
          rw [hrn]
          exact ihk φ2 _ w2 a2 _ (hx'.trans hx2) R2 he2 hs2 (hd2.trans hd') hit
        · rename_i hrn
          simp only [Option.some.injEq] at hit; subst hit
          have := hQ φ2 a2 w2 (hx'.trans hx2) R2 he2 hs2 (hd2.trans hd')
          cases hr1 : r.1 with
          | norm => exact absurd hr1 hrn
          | exit id => rw [hr1] at this; exact this
          | goto l => rw [hr1] at this; exact this
          | ret => rw [hr1] at this; exact this
    exact key N φ H w a e (Ext.refl _) R he hsz rfl hx
  | rangeFunc f ps as body ih1 ih2 => intro ac hc; simp [compCode] at hc
  | exit id =>
    intro ac hc φ H w a e x Q hx R he hsz hQ
    simp only [compCode, Option.some.injEq] at hc; subst hc
    simp only [execC, Option.some.injEq] at hx; subst hx
    exact wpIn_exit (hQ φ a w (Ext.refl _) R he hsz rfl)
  | scope c ih =>
    intro ac hc φ H w a e x Q hx R he hsz hQ
    simp only [compCode, Option.map_eq_some_iff] at hc
    obtain ⟨a1, h1, rfl⟩ := hc
    simp [execC] at hx
  | label l =>
    intro ac hc φ H w a e x Q hx R he hsz hQ
    simp only [compCode, Option.some.injEq] at hc; subst hc
    simp only [execC, Option.some.injEq] at hx; subst hx
    exact wpIn_label (hQ φ a w (Ext.refl _) R he hsz rfl)
  | goto l =>
    intro ac hc φ H w a e x Q hx R he hsz hQ
    simp only [compCode, Option.some.injEq] at hc; subst hc
    simp only [execC, Option.some.injEq] at hx; subst hx
    exact wpIn_goto (hQ φ a w (Ext.refl _) R he hsz rfl)
  | ret =>
    intro ac hc φ H w a e x Q hx R he hsz hQ
    simp only [compCode, Option.some.injEq] at hc; subst hc
    simp only [execC, Option.some.injEq] at hx; subst hx
    exact wpIn_ret (hQ φ a w (Ext.refl _) R he hsz rfl)
  | refuse why => intro ac hc; simp [compCode] at hc
end
end Go.AM
