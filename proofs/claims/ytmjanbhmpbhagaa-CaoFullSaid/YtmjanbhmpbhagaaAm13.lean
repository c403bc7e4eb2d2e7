/- REGIONS, CODE AND CALLS OF THE PROGRAM'S FORM DO WHAT THE ABSTRACT MACHINE SAYS. Conditions: those of each theorem. -/
import Derived.Test.YtmjanbhmpbhagaaAm12
import Derived.LoopNIn
set_option linter.unusedVariables false
set_option linter.unusedSimpArgs false
namespace Go.AM
open Go.RowKit

section
variable {P : Program} {w0 : World} {φ : Map} {H : Heap} {w : World} {a : Act} {e : Env}

theorem op_ne_defer {q : Bool} {o : Op} {ao : AOp} (hc : compOp P q o = some ao) : ∀ c, o ≠ .defer c := by
  rintro c rfl
  simp [compOp] at hc

theorem uponIn_does {ρ : Option Nat} {n : Nat} {o : Oper} {v : AV} {H' : Heap} (hd : Does P w0 φ w a o v H') (hdst : o.dst = none ∨ ∃ d, o.dst = some d) {next : Act → World → Prop} {Q : Exit → Act → World → Prop}
    (h : ∀ φ' w' u, Ext φ φ' → Rel w0 φ' H' w' → (o.dst ≠ none → VRel φ' v u) → next (a.put o.dst u) w') : o.uponIn (Fr ρ) n P a next Q ((execOp a.eval o).run P w) := by
  obtain ⟨φ', w', hx, R', hor⟩ := hd
  rcases hor with ⟨hn, hr⟩ | ⟨u, hr, hv⟩
  · rw [hr, Oper.uponIn_skip]
    exact h φ' w' undef hx R' (fun hne => absurd hn hne)
  · rw [hr, Oper.uponIn_value]
    exact h φ' w' u hx R' (fun _ => hv)

theorem run_call_enter {o : Oper} {c : Call} {f : Nat} {V : Value} {caps : List Value} (ho : o.op = .call c) (hc : ∃ x, c.callee = .value x ∧ a.eval x = V) (hV : V = .func (.func f) #[] caps.toArray) (hE : Enters P f) (w : World) :
    (execOp a.eval o).run P w = .ok (.enter f ((c.args.toList.map a.eval) ++ caps).toArray) w := by
  obtain ⟨x, hx, hxv⟩ := hc
  subst hV
  simp only [execOp, ho, resolve, hx, hxv, Deferred.ofValue, Sem.run_bind, Sem.run_pure, Result.andThen_ok, invoke]
  have e1 : (#[] ++ c.args.map a.eval ++ caps.toArray) = ((c.args.toList.map a.eval) ++ caps).toArray := by
    rw [Array.empty_append, ← toArray_map]
    simp
  rw [e1]
  exact hE _ w

theorem carg_func {x : Operand} {y : AArg} (h : carg x = some y) {f : Nat} (hx : x = .func f) : y = .c (.fn f []) := by
  subst hx
  simp only [carg, Option.some.injEq] at h
  exact h.symm

/-- Every operation. -/
theorem oper_sound {C : Oracle} (hC : OSound P w0 C) {lim nt : Nat} {q : Bool} {ops : Array Oper} {o : Oper} {g : GOp} (hg : compOper P nt q ops o = some g) (R : Rel w0 φ H w) (he : ERel φ e a.tmps) (hsz : a.tmps.size = nt) {r : AV × Heap} (hs : stepOp C lim g.op e H = some r)
    {ρ : Option Nat} {n : Nat} {next : Act → World → Prop} {Q : Exit → Act → World → Prop} (h : ∀ φ' a' w', Ext φ φ' → Rel w0 φ' r.2 w' → ERel φ' (e.put g.d r.1) a'.tmps → a'.tmps.size = nt → a'.defers = a.defers → next a' w') : o.wpIn (Fr ρ) n P a w next Q := by
  unfold compOper at hg
  split at hg
  · rename_i gd ao hgd hco
    split at hg
    · rename_i hdst
      simp only [Option.some.injEq] at hg
      subst hg
      have hd : ∀ t, o.dst = some t → t < a.tmps.size := by
        intro t ht
        rw [ht] at hdst
        simp only [dstOk, Bool.and_eq_true, decide_eq_true_eq] at hdst
        rw [hsz]; exact hdst.1
      have hput : ∀ φ' u, Ext φ φ' → (o.dst ≠ none → VRel φ' r.1 u) → ERel φ' (e.put o.dst r.1) (a.put o.dst u).tmps := by
        intro φ' u hx hv
        cases hdd : o.dst with
        | none => exact he.ext hx
        | some k => exact ERel.put (he.ext hx) (d := some k) (fun t ht => hd t (by rw [hdd]; exact ht)) (hv (by rw [hdd]; simp))
      have hsize : ∀ u, (a.put o.dst u).tmps.size = nt := by
        intro u
        cases hdd : o.dst <;> simp [Act.put, hsz]
      have hdef : ∀ u, (a.put o.dst u).defers = a.defers := by
        intro u
        cases hdd : o.dst <;> simp [Act.put]
      refine ⟨fun f _ => trivial, ?_⟩
      rw [Oper.semAt_eq _ _ _ (op_ne_defer hco)]
      by_cases hcall : (∀ f l q, ao ≠ .call f l q) ∧ (∀ f l q, ao ≠ .callv f l q) ∧ ∀ f l, ao ≠ .callA f l
      · have hst : storeLike ao = true → o.dst = none := by
          intro hst
          cases hdd : o.dst with
          | none => rfl
          | some k => rw [hdd] at hdst; simp [dstOk, hst] at hdst
        exact uponIn_does (op_sound hco hst hcall R he hs) (by cases o.dst <;> simp) (fun φ' w' u hx R' hv => h φ' _ w' hx R' (hput φ' u hx hv) (hsize u) (hdef u))
      · -- a call
        have key : ∃ c f l caps V vs, o.op = .call c ∧ (∃ x, c.callee = .value x ∧ a.eval x = V) ∧ V = .func (.func f) #[] vs.toArray ∧ cargs c.args.toList = some l ∧ VRels φ caps vs ∧ C lim f (l.map (·.ev e) ++ caps) H = some r := by
          have hex : (∃ f l q, ao = .call f l q) ∨ (∃ f l q, ao = .callv f l q) ∨ ∃ f l, ao = .callA f l := by
            apply Classical.byContradiction
            intro hne
            rw [not_or, not_or] at hne
            exact hcall ⟨fun f l q hh => hne.1 ⟨f, l, q, hh⟩, fun f l q hh => hne.2.1 ⟨f, l, q, hh⟩, fun f l hh => hne.2.2 ⟨f, l, hh⟩⟩
          have hop : ∃ c, o.op = .call c ∧ compCall P q c = some ao := by
            unfold compOp at hco
            split at hco <;> first
              | (rename_i c ho; exact ⟨c, ho, hco⟩)
              | (exfalso
                 rcases hex with ⟨f, l, q', rfl⟩ | ⟨f, l, q', rfl⟩ | ⟨f, l, rfl⟩ <;>
                 · repeat' (first | (simp only [Option.map_eq_some_iff, reduceCtorEq, and_false, exists_false, Option.some.injEq] at hco; done) | (unfold compEq at hco) | (split at hco))
                   all_goals (first | (simp at hco; done) | (rename_i hco'; simp at hco; done)))
          obtain ⟨c, ho, hcc⟩ := hop
          unfold compCall at hcc
          split at hcc
          · rename_i f hcal
            rw [Option.map_eq_some_iff] at hcc
            obtain ⟨l, hl, rfl⟩ := hcc
            refine ⟨c, f, l, [], _, [], ho, ⟨.func f, hcal, rfl⟩, rfl, hl, VRels.nil, ?_⟩
            rw [List.append_nil]
            split at hs
            · simp only [stepOp] at hs
              exact (growing_spec hs).1
            · simp only [stepOp] at hs
              exact quietly_inv hs
          · rename_i x hx1 hcal
            split at hcc
            · rename_i fa l hfa hl
              simp only [Option.some.injEq] at hcc
              subst hcc
              simp only [stepOp] at hs
              split at hs
              · rename_i g' caps hgv
                have hv := carg_rel he hfa
                rw [hgv] at hv
                simp only [VRel] at hv
                obtain ⟨vs, hvs, hrel⟩ := hv
                exact ⟨c, g', l, caps, _, vs, ho, ⟨x, hcal, rfl⟩, hvs, hl, hrel, quietly_inv hs⟩
              · cases hs
            · cases hcc
          all_goals
            exfalso
            rcases hex with ⟨f, l, q', rfl⟩ | ⟨f, l, q', rfl⟩ | ⟨f, l, rfl⟩ <;>
            · repeat' (first | (simp only [Option.map_eq_some_iff, reduceCtorEq, and_false, exists_false, Option.some.injEq] at hcc; done) | (split at hcc))
              all_goals (first | (simp at hcc; done) | skip)
        obtain ⟨c, f, l, caps, V, vs, ho, hcal, hV, hl, hrel, hqq⟩ := key
        obtain ⟨hE, hCS⟩ := hC lim f _ H r hqq
        have hargs := (cargs_rel he hl).append hrel
        rw [run_call_enter ho hcal hV hE w, Oper.uponIn_enter]
        refine ⟨fun hdep => by simp [Fr, Fence.wide] at hdep, ?_⟩
        refine callsIn_fr ((hCS φ w _ R hargs).mono ?_)
        rintro e' w' ⟨φ', v, rfl, hx, R', hv⟩
        exact h φ' _ w' hx R' (hput φ' v hx (fun _ => hv)) (hsize v) (hdef v)
    · cases hg
  · cases hg

theorem wanted_rel {ops : Array Oper} {o : Oper} {gd : Option (Nat × Bool)} (hg : compGuard ops o = some gd) (he : ERel φ e a.tmps) {b : Bool} (hb : wantedA gd e = some b) : Region.wanted o (yielded ops a.tmps) = b := by
  unfold compGuard at hg
  unfold Region.wanted
  split at hg
  · rename_i h0
    simp only [Option.some.injEq] at hg
    subst hg
    simp only [wantedA, Option.some.injEq] at hb
    simp only [h0, hb]
  · rename_i j want h0
    split at hg
    · rename_i p hp
      split at hg
      · rename_i t ht
        simp only [Option.some.injEq] at hg
        subst hg
        simp only [h0]
        have hy : yielded ops a.tmps j = match a.tmps[t]? with | some (.bool b) => some b | _ => none := by
          unfold yielded
          rw [hp]
          simp only [Option.bind_some, ht]
          cases a.tmps[t]? with
          | none => rfl
          | some v => cases v <;> rfl
        rw [hy]
        have hr := he t
        simp only [wantedA] at hb
        split at hb
        · rename_i bb hbb
          simp only [Option.some.injEq] at hb
          rw [hbb] at hr
          simp only [VRel] at hr
          have hlt : t < a.tmps.size := by
            apply Classical.byContradiction
            intro hge
            simp [Array.getD, hge, undef] at hr
          simp only [Array.getD, hlt, dite_true, Array.getInternal_eq_getElem] at hr
          rw [Array.getElem?_eq_getElem hlt, hr]
          rw [← hb]
          cases bb <;> cases want <;> rfl
        · rename_i hbb
          simp only [Option.some.injEq] at hb
          rw [hbb] at hr
          simp only [VRel] at hr
          rw [← hb]
          by_cases hlt : t < a.tmps.size
          · simp only [Array.getD, hlt, dite_true, Array.getInternal_eq_getElem] at hr
            rw [Array.getElem?_eq_getElem hlt, hr]
            cases want <;> rfl
          · rw [Array.getElem?_eq_none (Nat.le_of_not_lt hlt)]
            cases want <;> rfl
        · cases hb
      · cases hg
    · cases hg

def Pairs (P : Program) (nt : Nat) (ops : Array Oper) : List Nat → List GOp → Prop
  | [], [] => True
  | i :: l, g :: gs => (∃ o q, ops[i]? = some o ∧ compOper P nt q ops o = some g) ∧ Pairs P nt ops l gs
  | _, _ => False

/-- A row of operations. -/
theorem ops_sound {C : Oracle} (hC : OSound P w0 C) {lim nt : Nat} {ops : Array Oper} {ρ : Option Nat} {n : Nat} {Q : Exit → Act → World → Prop} : ∀ {l : List Nat} {gs : List GOp} {φ : Map} {H : Heap} {w : World} {a : Act} {e : Env} {s : Env × Heap}, Pairs P nt ops l gs → runOps C lim gs e H = some s →
    Rel w0 φ H w → ERel φ e a.tmps → a.tmps.size = nt → (∀ φ' a' w', Ext φ φ' → Rel w0 φ' s.2 w' → ERel φ' s.1 a'.tmps → a'.tmps.size = nt → a'.defers = a.defers → Q .normal a' w') → wpOpsIn (Fr ρ) n P ops Q l a w
  | [], [], φ, H, w, a, e, s, _, hr, R, he, hsz, hQ => by
    simp only [runOps, Option.some.injEq] at hr
    subst hr
    exact hQ φ a w (Ext.refl _) R he hsz rfl
  | [], g :: gs, _, _, _, _, _, _, hp, _, _, _, _, _ => by simp [Pairs] at hp
  | i :: l, [], _, _, _, _, _, _, hp, _, _, _, _, _ => by simp [Pairs] at hp
  | i :: l, g :: gs, φ, H, w, a, e, s, hp, hr, R, he, hsz, hQ => by
    simp only [Pairs] at hp
    obtain ⟨⟨o, q, ho, hg⟩, hp⟩ := hp
    simp only [runOps, Option.bind_eq_some_iff] at hr
    obtain ⟨s1, h1, hr⟩ := hr
    have hg0 := hg
    unfold compOper at hg
    split at hg
    · rename_i gd ao hgd hco
      split at hg
      · rename_i hdst
        simp only [Option.some.injEq] at hg
        subst hg
        unfold stepG at h1
        simp only [wpOpsIn, ho]
        split at h1
        · rename_i hw
          have hwr := wanted_rel hgd he hw
          rw [if_pos hwr]
          rw [Option.map_eq_some_iff] at h1
          obtain ⟨r, h1, rfl⟩ := h1
          exact oper_sound hC hg0 R he hsz h1 (fun φ' a' w' hx R' he' hsz' hd' => ops_sound hC hp hr R' he' hsz' fun φ2 a2 w2 hx2 R2 he2 hs2 hd2 => hQ φ2 a2 w2 (hx.trans hx2) R2 he2 hs2 (hd2.trans hd'))
        · rename_i hw
          have hwr := wanted_rel hgd he hw
          rw [if_neg (by rw [hwr]; simp)]
          simp only [Option.some.injEq] at h1
          subst h1
          refine ⟨fun f _ => trivial, ?_⟩
          have hd : ∀ t, o.dst = some t → t < a.tmps.size := by
            intro t ht
            rw [ht] at hdst
            simp only [dstOk, Bool.and_eq_true, decide_eq_true_eq] at hdst
            rw [hsz]; exact hdst.1
          refine ops_sound hC hp hr R (ERel.put he hd (v := .undef) (u := undef) rfl) (by cases o.dst <;> simp [Act.put, hsz]) fun φ2 a2 w2 hx2 R2 he2 hs2 hd2 => hQ φ2 a2 w2 hx2 R2 he2 hs2 (hd2.trans (by cases o.dst <;> simp [Act.put]))
        · cases h1
      · cases hg
    · cases hg

theorem pairs_of_comp {nt : Nat} {ops : Array Oper} : ∀ {l : List (Bool × Oper)} {gs : List GOp}, compOpers P nt ops l = some gs → gs.length = l.length ∧ ∀ (j : Nat) (p : Bool × Oper), l[j]? = some p → ∃ g, gs[j]? = some g ∧ compOper P nt p.1 ops p.2 = some g
  | [], gs, h => by simp only [compOpers, Option.some.injEq] at h; subst h; simp
  | (q, o) :: r, gs, h => by
    simp only [compOpers] at h
    split at h
    · rename_i g l hg hl
      simp only [Option.some.injEq] at h
      subst h
      obtain ⟨h1, h2⟩ := pairs_of_comp hl
      refine ⟨by simp [h1], fun j p hj => ?_⟩
      cases j with
      | zero => simp at hj; subst hj; exact ⟨g, rfl, hg⟩
      | succ j => simpa using h2 j p (by simpa using hj)
    · cases h

theorem pairs_list {nt : Nat} {ops : Array Oper} {gs : List GOp} (h : ∀ i, i < ops.size → ∃ o q, ops[i]? = some o ∧ compOper P nt q ops o = some (gs.getD i default)) : ∀ {l : List Nat}, (∀ i ∈ l, i < ops.size) → Pairs P nt ops l (l.map fun i => gs.getD i default)
  | [], _ => trivial
  | i :: l, hl => by
    simp only [List.map_cons, Pairs]
    exact ⟨h i (hl i (by simp)), pairs_list h (fun j hj => hl j (by simp [hj]))⟩

theorem map_range_getD {gs : List GOp} {n : Nat} (h : gs.length = n) : (List.range n).map (fun i => gs.getD i default) = gs := by
  apply List.ext_getElem?
  intro j
  by_cases hj : j < n
  · simp [hj, List.getD, List.getElem?_eq_getElem (show j < gs.length by omega)]
  · rw [List.getElem?_eq_none (by simp; omega), List.getElem?_eq_none (by omega)]

theorem lin_mem {ops : Array Oper} : ∀ (fuel t : Nat) (listed : Array Bool) (i : Nat), i ∈ Region.linearise.go .any ops fuel t listed [] → i < ops.size
  | 0, t, listed, i, h => by simp [Region.linearise.go] at h
  | fuel + 1, t, listed, i, h => by
    have hdef : Region.linearise.go .any ops (fuel + 1) t listed [] = (match (Region.ready .any ops listed)[t % (Region.ready .any ops listed).length]? with
      | some i => Region.linearise.go .any ops fuel (t / (Region.ready .any ops listed).length) (listed.setIfInBounds i true) [i]
      | none => [].reverse) := rfl
    rw [hdef] at h
    split at h
    · rename_i j hj
      rw [linearise_go_acc] at h
      rcases List.mem_append.1 h with h | h
      · have hji : i = j := by simpa using h
        subst hji
        have := List.mem_of_getElem? hj
        rw [mem_ready] at this
        obtain ⟨_, o, ho, _⟩ := this
        exact (Array.getElem?_eq_some_iff.1 ho).1
      · exact lin_mem fuel _ _ i h
    · simp at h

theorem runOps_append {C : Oracle} {lim : Nat} : ∀ {l1 l2 : List GOp} {e : Env} {H : Heap}, runOps C lim (l1 ++ l2) e H = (runOps C lim l1 e H).bind fun s => runOps C lim l2 s.1 s.2
  | [], l2, e, H => rfl
  | o :: l1, l2, e, H => by
    simp only [List.cons_append, runOps, Option.bind_assoc]
    congr 1
    funext s
    exact runOps_append

/-- The codes of which one is run, where two operations may change places and it matters. -/
def variants : ACode → List ACode
  | .alt x y => [.ops [x, y], .ops [y, x]]
  | .seq a b => (variants a).flatMap fun a' => (variants b).map fun b' => .seq a' b'
  | c => [c]

/-- What a translated region can be. -/
inductive RegForm (ops : Array Oper) (gs : List GOp) : ACode → Prop where
  | text (h : drawOk ops.toList gs (pairsOf ops.toList gs) = true) : RegForm ops gs (if (pairsOf ops.toList gs).isEmpty then .ops gs else .opsD gs (pairsOf ops.toList gs))
  | own (o : List Nat) (h : drawOkO ops.toList gs o none = true) : RegForm ops gs (.ops (at2 gs o))
  | two (pre post : List Nat) (a b : Nat) (hA : drawOkO ops.toList gs (pre ++ a :: b :: post) (some (a, b)) = true) (hB : drawOkO ops.toList gs (pre ++ b :: a :: post) (some (b, a)) = true) (m : ACode)
      (hm : m = .swap (gs.getD a default) (gs.getD b default) ∨ m = .alt (gs.getD a default) (gs.getD b default)) : RegForm ops gs (.seq (.ops (at2 gs pre)) (.seq m (.ops (at2 gs post))))

theorem compOrd_form {ops : Array Oper} {gs : List GOp} {c : ACode} (h : compOrd ops.toList gs = some c) : RegForm ops gs c := by
  unfold compOrd at h
  simp only at h
  split at h
  · rename_i hok
    simp only [Option.some.injEq] at h
    rw [← h]
    exact .own _ hok
  · split at h
    · cases h
    · rename_i a b _
      split at h
      · cases h
      · rename_i pre post _
        split at h
        · rename_i hok
          simp only [Option.some.injEq] at h
          rw [← h]
          refine .two pre post a b hok.1 hok.2 _ ?_
          split
          · exact .inl rfl
          · exact .inr rfl
        · cases h

theorem region_form {nt : Nat} {ops : Array Oper} {c : ACode} (hc : compRegion P nt ops true = some c) : ∃ gs, gs.length = ops.size ∧ (∀ i, i < ops.size → ∃ o q, ops[i]? = some o ∧ compOper P nt q ops o = some (gs.getD i default)) ∧ RegForm ops gs c := by
  unfold compRegion at hc
  simp only [if_true] at hc
  split at hc
  · rename_i l hl
    split at hc
    · rename_i gs hgs
      have hll : l.length = ops.size ∧ ∀ i (hi : i < ops.size), ∃ q, l[i]? = some (q, ops[i]) := by
        unfold quietFlags at hl
        simp only at hl
        split at hl
        · cases hl
        · simp only [Option.some.injEq] at hl
          subst hl
          refine ⟨by simp, fun i hi => ?_⟩
          simp [hi]
      obtain ⟨h1, h2⟩ := pairs_of_comp hgs
      rw [hll.1] at h1
      refine ⟨gs, h1, fun i hi => ?_, ?_⟩
      · obtain ⟨q, hq⟩ := hll.2 i hi
        obtain ⟨g, hg1, hg2⟩ := h2 i _ hq
        exact ⟨ops[i], q, Array.getElem?_eq_getElem hi, by rw [List.getD_eq_getElem?_getD, hg1]; exact hg2⟩
      · split at hc
        · rename_i hok
          simp only [Option.some.injEq] at hc
          rw [← hc]
          exact .text hok
        · exact compOrd_form hc
    · cases hc
  · cases hc

theorem ord_length {ops : Array Oper} {ord : List Nat} (ho : OrdOk ops ord) : ord.length ≤ ops.size := by
  have := List.Nodup.length_le_of_subset ho.nodup (l₂ := List.range ops.size) (fun i hi => by simpa using ho.lt i hi)
  simpa using this
theorem unl_start {n : Nat} {ord : List Nat} (h : ∀ i ∈ ord, i < n) : unl ord (Array.replicate n false) = ord := by
  unfold unl
  apply List.filter_eq_self.2
  intro i hi
  simp [Array.getD, h i hi]

/-- A region whose order is drawn: each order comes to something of which K holds. -/
theorem form_runs {C : Oracle} {lim : Nat} {ops : Array Oper} {gs : List GOp} {c : ACode} (h1 : gs.length = ops.size) (hf : RegForm ops gs c) {N : Nat} {K : Env × Heap → Prop} (hv : ∀ v ∈ variants c, ∃ s, execC C N lim v e H = some (.norm, s.1, s.2) ∧ K s) (t : Nat) :
    ∃ s, K s ∧ runOps C lim ((Region.linearise .any ops t).map fun i => gs.getD i default) e H = some s := by
  unfold Region.linearise
  cases hf with
  | text hok =>
    have hxx : ∃ s, runOps C lim gs e H = some s ∧ apartAll s.1 (pairsOf ops.toList gs) = true ∧ K s := by
      split at hv
      · rename_i hemp
        obtain ⟨s, hs, hK⟩ := hv (.ops gs) (List.mem_singleton.2 rfl)
        simp only [execC, Option.map_eq_some_iff] at hs
        obtain ⟨s', hs, hx⟩ := hs
        simp only [Prod.mk.injEq, true_and] at hx
        have : s' = s := Prod.ext hx.1 hx.2
        subst this
        rw [List.isEmpty_iff] at hemp
        exact ⟨s', hs, by rw [hemp]; rfl, hK⟩
      · obtain ⟨s, hs, hK⟩ := hv (.opsD gs (pairsOf ops.toList gs)) (List.mem_singleton.2 rfl)
        simp only [execC, Option.bind_eq_some_iff] at hs
        obtain ⟨s', hs, hx⟩ := hs
        split at hx
        · rename_i hap
          simp only [Option.some.injEq, Prod.mk.injEq, true_and] at hx
          have : s' = s := Prod.ext hx.1 hx.2
          subst this
          exact ⟨s', hs, hap, hK⟩
        · cases hx
    obtain ⟨s, hs, hap, hK⟩ := hxx
    have hun : unlisted ops.size (Array.replicate ops.size false) = List.range ops.size := by
      unfold unlisted
      apply List.filter_eq_self.2
      intro i hi
      simp only [List.mem_range] at hi
      simp [Array.getD, hi]
    refine ⟨s, hK, lin_sound h1 hok hap ops.size t _ e H (by simp) (fun j o ho hj => ?_) (by rw [hun]; simp) ?_⟩
    · simp [Array.getD] at hj
    · rw [hun, map_range_getD h1]
      exact hs
  | own o hok =>
    obtain ⟨s, hs, hK⟩ := hv (.ops (at2 gs o)) (List.mem_singleton.2 rfl)
    simp only [execC, Option.map_eq_some_iff] at hs
    obtain ⟨s', hs, hx⟩ := hs
    simp only [Prod.mk.injEq, true_and] at hx
    have : s' = s := Prod.ext hx.1 hx.2
    subst this
    obtain ⟨ho, hp⟩ := drawOkO_spec hok
    refine ⟨s', hK, lin_soundO ho ops.size t _ e H (by simp) (fun j o ho hj => ?_) ?_ ?_ ?_⟩
    · simp [Array.getD] at hj
    · rw [unl_start ho.lt]
      exact ord_length ho
    · rw [unl_start ho.lt]
      exact hp.imp fun h => h.elim id fun h => by cases h
    · rw [unl_start ho.lt]
      exact hs
  | two pre post a b hA hB m hm =>
    obtain ⟨oA, pA⟩ := drawOkO_spec hA
    obtain ⟨oB, pB⟩ := drawOkO_spec hB
    have hab : a ≠ b := by
      intro h
      have := oA.nodup
      rw [h] at this
      rw [List.nodup_append, List.nodup_cons] at this
      exact this.2.1.1 (by simp)
    have run3 : ∀ (x y : GOp) (s : Env × Heap), (∃ s0, runOps C lim (at2 gs pre) e H = some s0 ∧ ∃ s1, runOps C lim [x, y] s0.1 s0.2 = some s1 ∧ runOps C lim (at2 gs post) s1.1 s1.2 = some s) → runOps C lim (at2 gs pre ++ x :: y :: at2 gs post) e H = some s := by
      rintro x y s ⟨s0, h0, s1, h2, h3⟩
      rw [runOps_append, h0, show x :: y :: at2 gs post = [x, y] ++ at2 gs post from rfl, Option.bind_some, runOps_append, h2, Option.bind_some, h3]
    have key : ∃ sA sB, K sA ∧ K sB ∧ runOps C lim (at2 gs (pre ++ a :: b :: post)) e H = some sA ∧ runOps C lim (at2 gs (pre ++ b :: a :: post)) e H = some sB := by
      have ops1 : ∀ (l : List GOp) (e : Env) (H : Heap) (r : Out), execC C N lim (.ops l) e H = some r → r.1 = .norm ∧ runOps C lim l e H = some r.2 := by
        intro l e H r hr
        simp only [execC, Option.map_eq_some_iff] at hr
        obtain ⟨s, hs, rfl⟩ := hr
        exact ⟨rfl, hs⟩
      have seq1 : ∀ (c d : ACode) (e : Env) (H : Heap) (s : Env × Heap), (∀ (r : Out), execC C N lim c e H = some r → r.1 = .norm) → execC C N lim (.seq c d) e H = some (.norm, s.1, s.2) → ∃ r : Out, execC C N lim c e H = some r ∧ execC C N lim d r.2.1 r.2.2 = some (.norm, s.1, s.2) := by
        intro c d e H s hn hx
        simp only [execC, Option.bind_eq_some_iff] at hx
        obtain ⟨r, hr, hx⟩ := hx
        have := hn r hr
        simp only [this] at hx
        exact ⟨r, hr, hx⟩
      have seq3 : ∀ (x y : GOp) (s : Env × Heap), execC C N lim (.seq (.ops (at2 gs pre)) (.seq (.ops [x, y]) (.ops (at2 gs post)))) e H = some (.norm, s.1, s.2) → runOps C lim (at2 gs pre ++ x :: y :: at2 gs post) e H = some s := by
        intro x y s hx
        obtain ⟨r, hr, hx⟩ := seq1 _ _ _ _ _ (fun r hr => (ops1 _ _ _ _ hr).1) hx
        obtain ⟨r2, hr2, hx⟩ := seq1 _ _ _ _ _ (fun r hr => (ops1 _ _ _ _ hr).1) hx
        exact run3 x y s ⟨r.2, (ops1 _ _ _ _ hr).2, r2.2, (ops1 _ _ _ _ hr2).2, (ops1 _ _ _ _ hx).2⟩
      have mapE : ∀ x y, at2 gs (pre ++ x :: y :: post) = at2 gs pre ++ gs.getD x default :: gs.getD y default :: at2 gs post := fun x y => by simp [at2]
      rcases hm with rfl | rfl
      · obtain ⟨s, hs, hK⟩ := hv (.seq (.ops (at2 gs pre)) (.seq (.swap (gs.getD a default) (gs.getD b default)) (.ops (at2 gs post)))) (List.mem_singleton.2 rfl)
        obtain ⟨r, hr, hx⟩ := seq1 _ _ _ _ _ (fun r hr => (ops1 _ _ _ _ hr).1) hs
        have sw : ∀ r2 : Out, execC C N lim (.swap (gs.getD a default) (gs.getD b default)) r.2.1 r.2.2 = some r2 → r2.1 = .norm ∧ runOps C lim [gs.getD a default, gs.getD b default] r.2.1 r.2.2 = some r2.2 ∧ runOps C lim [gs.getD b default, gs.getD a default] r.2.1 r.2.2 = some r2.2 := by
          intro r2 hr2
          simp only [execC, Option.bind_eq_some_iff] at hr2
          obtain ⟨s2, h2, hr2⟩ := hr2
          split at hr2
          · rename_i h3
            simp only [Option.some.injEq] at hr2
            subst hr2
            exact ⟨rfl, h2, h3⟩
          · cases hr2
        obtain ⟨r2, hr2, hx⟩ := seq1 _ _ _ _ _ (fun r hr => (sw r hr).1) hx
        obtain ⟨_, w1, w2⟩ := sw r2 hr2
        refine ⟨s, s, hK, hK, ?_, ?_⟩
        · rw [mapE]; exact run3 _ _ s ⟨r.2, (ops1 _ _ _ _ hr).2, r2.2, w1, (ops1 _ _ _ _ hx).2⟩
        · rw [mapE]; exact run3 _ _ s ⟨r.2, (ops1 _ _ _ _ hr).2, r2.2, w2, (ops1 _ _ _ _ hx).2⟩
      · obtain ⟨s, hs, hK⟩ := hv (.seq (.ops (at2 gs pre)) (.seq (.ops [gs.getD a default, gs.getD b default]) (.ops (at2 gs post)))) (by simp [variants])
        obtain ⟨s', hs', hK'⟩ := hv (.seq (.ops (at2 gs pre)) (.seq (.ops [gs.getD b default, gs.getD a default]) (.ops (at2 gs post)))) (by simp [variants])
        exact ⟨s, s', hK, hK', by rw [mapE]; exact seq3 _ _ _ hs, by rw [mapE]; exact seq3 _ _ _ hs'⟩
    obtain ⟨sA, sB, kA, kB, rA, rB⟩ := key
    have ua : (Array.replicate ops.size false).getD a true = false := by
      have := oA.lt a (by simp)
      simp [Array.getD, this]
    have ub : (Array.replicate ops.size false).getD b true = false := by
      have := oA.lt b (by simp)
      simp [Array.getD, this]
    obtain ⟨s, hor, hs⟩ := lin_soundS (C := C) (lim := lim) (g := gs) (sA := sA) (sB := sB) oA oB hab ops.size t (Array.replicate ops.size false) e H (by simp) (fun j o ho hj => by simp [Array.getD] at hj) (by rw [unl_start oA.lt]; exact ord_length oA) (by rw [unl_start oB.lt]; exact ord_length oB) ua ub (by simp)
      (by rw [unl_start oA.lt]; exact pA.imp fun h => h.imp id fun h => by simp only [Option.some.injEq, Prod.mk.injEq] at h; exact ⟨h.1.symm, h.2.symm⟩)
      (by rw [unl_start oB.lt]; exact pB.imp fun h => h.imp id fun h => by simp only [Option.some.injEq, Prod.mk.injEq] at h; exact ⟨h.1.symm, h.2.symm⟩)
      (by rw [unl_start oA.lt]; exact rA) (by rw [unl_start oB.lt]; exact rB)
    rcases hor with rfl | rfl
    · exact ⟨s, kA, hs⟩
    · exact ⟨s, kB, hs⟩

/-- A region. -/
theorem region_soundV {C : Oracle} (hC : OSound P w0 C) (hm : P.follows .mixedOrders = true) {lim nt id : Nat} {ops : Array Oper} {draw : Bool} {c : ACode} (hc : compRegion P nt ops draw = some c) {ρ : Option Nat} {n N : Nat} {Q : Exit → Act → World → Prop} {K : Env × Heap → Prop} (hv : ∀ v ∈ variants c, ∃ s, execC C N lim v e H = some (.norm, s.1, s.2) ∧ K s)
    (R : Rel w0 φ H w) (he : ERel φ e a.tmps) (hsz : a.tmps.size = nt) (hQ : ∀ s, K s → ∀ φ' a' w', Ext φ φ' → Rel w0 φ' s.2 w' → ERel φ' s.1 a'.tmps → a'.tmps.size = nt → a'.defers = a.defers → Q .normal a' w') : (Code.region id ops draw).wpIn (Fr ρ) n P Q a w := by
  cases draw
  · unfold compRegion at hc
    simp only [Bool.false_eq_true, if_false, Option.map_eq_some_iff] at hc
    obtain ⟨gs, hgs, rfl⟩ := hc
    obtain ⟨s, hx, hK⟩ := hv (.ops gs) (List.mem_singleton.2 rfl)
    simp only [execC, Option.map_eq_some_iff] at hx
    obtain ⟨s', hs, hx⟩ := hx
    simp only [Prod.mk.injEq, true_and] at hx
    have : s' = s := Prod.ext hx.1 hx.2
    subst this
    obtain ⟨h1, h2⟩ := pairs_of_comp hgs
    simp only [List.length_map, Array.length_toList] at h1
    refine wpIn_region (ops_sound (gs := gs) hC ?_ hs R he hsz (fun φ' a' w' hx R' he' hs' hd' => hQ _ hK φ' a' w' hx R' he' hs' hd'))
    rw [← map_range_getD h1]
    refine pairs_list (fun i hi => ?_) (fun i hi => by simpa using hi)
    obtain ⟨g, hg1, hg2⟩ := h2 i (false, ops[i]) (by simp [hi])
    exact ⟨ops[i], false, Array.getElem?_eq_getElem hi, by rw [List.getD_eq_getElem?_getD, hg1]; exact hg2⟩
  · obtain ⟨gs, h1, hp, hf⟩ := region_form hc
    refine wpIn_region_draw fun t => ?_
    have hsch : Region.schedule (P.follows .mixedOrders) ops t = Region.linearise .any ops t := by simp [Region.schedule, hm]
    rw [hsch]
    obtain ⟨s, hK, hlin⟩ := form_runs h1 hf hv t
    have R1 : Rel w0 φ H { w with drawn := w.drawn + 1 } := R.drew
    exact ops_sound (gs := (Region.linearise .any ops t).map fun i => gs.getD i default) hC (pairs_list hp fun i hi => lin_mem _ _ _ i hi) hlin R1 he hsz (fun φ' a' w' hx R' he' hs' hd' => hQ s hK φ' a' w' hx R' he' hs' hd')

/-- A region's code ends as it should; where it runs by itself it has no variants. -/
theorem region_norm {C : Oracle} {lim nt : Nat} {ops : Array Oper} {draw : Bool} {c : ACode} (hc : compRegion P nt ops draw = some c) {N : Nat} {x : Out} (hx : execC C N lim c e H = some x) : x.1 = .norm ∧ variants c = [c] := by
  cases draw
  · unfold compRegion at hc
    simp only [Bool.false_eq_true, if_false, Option.map_eq_some_iff] at hc
    obtain ⟨gs, hgs, rfl⟩ := hc
    simp only [execC, Option.map_eq_some_iff] at hx
    obtain ⟨s, _, rfl⟩ := hx
    exact ⟨rfl, rfl⟩
  · obtain ⟨gs, h1, hp, hf⟩ := region_form hc
    cases hf with
    | text hok =>
      split at hx
      · rename_i hemp
        rw [if_pos hemp]
        simp only [execC, Option.map_eq_some_iff] at hx
        obtain ⟨s, _, rfl⟩ := hx
        exact ⟨rfl, rfl⟩
      · rename_i hemp
        rw [if_neg hemp]
        simp only [execC, Option.bind_eq_some_iff] at hx
        obtain ⟨s, _, hx⟩ := hx
        split at hx
        · simp only [Option.some.injEq] at hx; rw [← hx]; exact ⟨rfl, rfl⟩
        · cases hx
    | own o hok =>
      simp only [execC, Option.map_eq_some_iff] at hx
      obtain ⟨s, _, rfl⟩ := hx
      exact ⟨rfl, rfl⟩
    | two pre post a b hA hB m hm =>
      rcases hm with rfl | rfl
      · refine ⟨?_, rfl⟩
        simp only [execC, Option.bind_eq_some_iff, Option.map_eq_some_iff] at hx
        obtain ⟨_, ⟨s0, _, rfl⟩, hx⟩ := hx
        simp only [Option.bind_eq_some_iff] at hx
        obtain ⟨_, ⟨s1, _, h3⟩, hx⟩ := hx
        split at h3
        · simp only [Option.some.injEq] at h3
          subst h3
          simp only [Option.map_eq_some_iff] at hx
          obtain ⟨s, _, rfl⟩ := hx
          rfl
        · cases h3
      · exfalso
        simp only [execC, Option.bind_eq_some_iff, Option.map_eq_some_iff] at hx
        obtain ⟨_, ⟨s0, _, rfl⟩, hx⟩ := hx
        simp at hx
theorem region_sound {C : Oracle} (hC : OSound P w0 C) (hm : P.follows .mixedOrders = true) {lim nt id : Nat} {ops : Array Oper} {draw : Bool} {c : ACode} (hc : compRegion P nt ops draw = some c) {ρ : Option Nat} {n N : Nat} {Q : Exit → Act → World → Prop} {x : Out} (hx : execC C N lim c e H = some x)
    (R : Rel w0 φ H w) (he : ERel φ e a.tmps) (hsz : a.tmps.size = nt) (hQ : ∀ φ' a' w', x.1 = .norm → Ext φ φ' → Rel w0 φ' x.2.2 w' → ERel φ' x.2.1 a'.tmps → a'.tmps.size = nt → a'.defers = a.defers → Q .normal a' w') : (Code.region id ops draw).wpIn (Fr ρ) n P Q a w := by
  obtain ⟨hn, hvar⟩ := region_norm hc hx
  refine region_soundV hC hm hc (lim := lim) (K := fun s => s = x.2) (N := N) ?_ R he hsz ?_
  · rw [hvar]
    intro v hv
    rw [List.mem_singleton] at hv
    subst hv
    exact ⟨x.2, by rw [hx]; obtain ⟨o, e1, H1⟩ := x; simp only at hn; subst hn; rfl, rfl⟩
  · rintro s rfl φ' a' w' h1 h2 h3 h4 h5
    exact hQ φ' a' w' hn h1 h2 h3 h4 h5

def exitOf : X → Exit
  | .norm => .normal
  | .exit id => .exit id
  | .goto l => .goto l
  | .ret => .ret

end
/-- As Q; by a goto to label l: J; by any other goto: no way out. -/
def jumpTo (l : Nat) (J : Act → World → Prop) (Q : Exit → Act → World → Prop) : Exit → Act → World → Prop
  | .goto l', a, w => l' = l ∧ J a w
  | e, a, w => Q e a w
def jumpsIn (F : Fence) (n : Nat) (P : Program) (rest : Code) (l : Nat) (Q : Exit → Act → World → Prop) : Nat → Act → World → Prop
  | 0, _, _ => False
  | m + 1, a, w => rest.wpIn F n P (jumpTo l (jumpsIn F n P rest l Q m) Q) a w

section
variable {P : Program} {b : Frame} {a : Act} {k : List Item} {cs : List Frame} {w : World}
theorem stepR_scope {c : Code} : step P (lone (b.atR a (.code (.scope c) :: k)) cs w) = .next (lone (b.atR a (.code c :: .inScope c :: k)) cs w) :=
  step_lone_go (by simp [Go.stepG, Go.stepG.exec, Frame.atR])
theorem stepR_inScope {c : Code} : step P (lone (b.atR a (.inScope c :: k)) cs w) = .next (lone (b.atR a k) cs w) :=
  step_lone_go (by simp [Go.stepG, Go.stepG.exec, Frame.atR])
end
theorem exitTo_inScope (id : Nat) (c : Code) (k : List Item) : exitTo id (.inScope c :: k) = exitTo id k := by simp [exitTo]

theorem wpIn_scope_rounds {F : Fence} {n : Nat} {P : Program} {Q : Exit → Act → World → Prop} {a : Act} {w : World} {c rest : Code} (l : Nat) (hf : findLabel c l = some rest) (m : Nat)
    (first : c.wpIn F n P (jumpTo l (jumpsIn F n P rest l Q m) Q) a w) : (Code.scope c).wpIn F n P Q a w := by
  intro b k cs hro hb hr
  have hg : gotoIn l (.inScope c :: k) = some (.code rest :: .inScope c :: k) := by simp [gotoIn, hf]
  have one : ∀ e a₁ w₁ (m0 : Machine), (∀ l', e ≠ .goto l') → ArrivesIn (Machine.fenced P F) P m0 b (.inScope c :: k) cs e a₁ w₁ → ArrivesIn (Machine.fenced P F) P m0 b k cs e a₁ w₁ := by
    intro e a₁ w₁ m0 hne harr
    cases e with
    | normal => exact StepsIn.trans harr (.one (fenced_calm hb hr rfl) stepR_inScope)
    | exit id => exact ⟨fun k' hk => harr.1 k' (by rw [exitTo_inScope]; exact hk), fun hr hk => harr.2 hr (by rw [exitTo_inScope]; exact hk)⟩
    | goto l' => exact absurd rfl (hne l')
    | ret => exact harr
    | panic ch => exact harr
    | outgrown => exact harr
  have key : ∀ m a w, jumpsIn F n P rest l Q m a w → ∃ e a' w', Q e a' w' ∧ ArrivesIn (Machine.fenced P F) P (lone (b.atR a (.code rest :: .inScope c :: k)) cs w) b k cs e a' w' := by
    intro m
    induction m with
    | zero => intro a w h; exact h.elim
    | succ m ih =>
      intro a w h
      obtain ⟨e, a₁, w₁, hq, harr⟩ := h b (.inScope c :: k) cs hro hb hr
      by_cases hge : ∃ l', e = .goto l'
      · obtain ⟨l', rfl⟩ := hge
        obtain ⟨rfl, hJ⟩ := hq
        obtain ⟨e₂, a₂, w₂, hq₂, harr₂⟩ := ih a₁ w₁ hJ
        exact ⟨e₂, a₂, w₂, hq₂, .of_steps (harr.1 _ hg) harr₂⟩
      · refine ⟨e, a₁, w₁, ?_, one e a₁ w₁ _ (fun l' h => hge ⟨l', h⟩) harr⟩
        cases e <;> first | exact hq | exact absurd ⟨_, rfl⟩ hge
  obtain ⟨e, a₁, w₁, hq, harr⟩ := first b (.inScope c :: k) cs hro hb hr
  by_cases hge : ∃ l', e = .goto l'
  · obtain ⟨l', rfl⟩ := hge
    obtain ⟨rfl, hJ⟩ := hq
    obtain ⟨e₂, a₂, w₂, hq₂, harr₂⟩ := key m a₁ w₁ hJ
    exact ⟨e₂, a₂, w₂, hq₂, .of_steps (.head (fenced_calm hb hr rfl) stepR_scope (harr.1 _ hg)) harr₂⟩
  · refine ⟨e, a₁, w₁, ?_, .of_steps (.one (fenced_calm hb hr rfl) stepR_scope) (one e a₁ w₁ _ (fun l' h => hge ⟨l', h⟩) harr)⟩
    cases e <;> first | exact hq | exact absurd ⟨_, rfl⟩ hge

section
variable {P : Program} {w0 : World}
/-- Code does what its translation does. -/
def Snd (P : Program) (w0 : World) (C : Oracle) (lim nt : Nat) (ρ : Option Nat) (n N : Nat) (c : Code) : Prop := ∀ (ac : ACode), compCode P nt c = some ac → ∀ (φ : Map) (H : Heap) (w : World) (a : Act) (e : Env) (x : Out) (Q : Exit → Act → World → Prop),
    execC C N lim ac e H = some x → Rel w0 φ H w → ERel φ e a.tmps → a.tmps.size = nt →
    (∀ φ' a' w', Ext φ φ' → Rel w0 φ' x.2.2 w' → ERel φ' x.2.1 a'.tmps → a'.tmps.size = nt → a'.defers = a.defers → Q (exitOf x.1) a' w') → c.wpIn (Fr ρ) n P Q a w

theorem code_sound2 {C : Oracle} (hC : OSound P w0 C) (hm : P.follows .mixedOrders = true) {lim nt : Nat} {ρ : Option Nat} {n N : Nat} (c : Code) : Snd P w0 C lim nt ρ n N c ∧ ∀ a b, c = .seq a b → Snd P w0 C lim nt ρ n N a ∧ Snd P w0 C lim nt ρ n N b ∧ ∀ a2 b2, b = .seq a2 b2 → Snd P w0 C lim nt ρ n N a2 ∧ Snd P w0 C lim nt ρ n N b2 := by
  induction c with
  | skip =>
    refine ⟨?_, fun a b h => by cases h⟩
    intro ac hc φ H w a e x Q hx R he hsz hQ
    simp only [compCode, Option.some.injEq] at hc; subst hc
    simp only [execC, Option.some.injEq] at hx; subst hx
    exact wpIn_skip (hQ φ a w (Ext.refl _) R he hsz rfl)
  | region id ops draw =>
    refine ⟨?_, fun a b h => by cases h⟩
    intro ac hc φ H w a e x Q hx R he hsz hQ
    simp only [compCode] at hc
    have hn : x.1 = .norm := (region_norm hc hx).1
    rw [hn] at hQ
    exact region_sound hC hm hc hx R he hsz (fun φ' a' w' _ => hQ φ' a' w')
  | seq c1 c2 ih1 ih2 =>
    refine ⟨?_, fun a b h => by cases h; exact ⟨ih1.1, ih2.1, fun a2 b2 h => ⟨(ih2.2 a2 b2 h).1, (ih2.2 a2 b2 h).2.1⟩⟩⟩
    intro ac hc φ H w a e x Q hx R he hsz hQ
    simp only [compCode] at hc
    split at hc
    · rename_i a1 a2 h1 h2
      simp only [Option.some.injEq] at hc; subst hc
      simp only [execC, Option.bind_eq_some_iff] at hx
      obtain ⟨r, hr, hx⟩ := hx
      refine wpIn_seq (ih1.1 a1 h1 φ H w a e r _ hr R he hsz fun φ' a' w' hx' R' he' hs' hd' => ?_)
      split at hx
      · rename_i hrn
        rw [hrn]
        exact ih2.1 a2 h2 φ' _ w' a' _ x Q hx R' he' hs' fun φ2 a3 w2 hx2 R2 he2 hs2 hd2 => hQ φ2 a3 w2 (hx'.trans hx2) R2 he2 hs2 (hd2.trans hd')
      · rename_i hrn
        simp only [Option.some.injEq] at hx; subst hx
        have := hQ φ' a' w' hx' R' he' hs' hd'
        cases hr1 : r.1 with
        | norm => exact absurd hr1 hrn
        | exit id => rw [hr1] at this; exact this
        | goto l => rw [hr1] at this; exact this
        | ret => rw [hr1] at this; exact this
    · cases hc
  | cond c0 c1 c2 ih1 ih2 =>
    refine ⟨?_, fun a b h => by cases h⟩
    intro ac hc φ H w a e x Q hx R he hsz hQ
    simp only [compCode] at hc
    split at hc
    · rename_i y a1 a2 h0 h1 h2
      simp only [Option.some.injEq] at hc; subst hc
      simp only [execC] at hx
      split at hx
      · rename_i t ht
        have hv := carg_rel he h0
        rw [ht] at hv
        simp only [VRel] at hv
        refine wpIn_cond hv ?_
        cases t
        · simp only [Bool.false_eq_true, if_false] at hx ⊢
          exact ih2.1 a2 h2 φ H w a e x Q hx R he hsz hQ
        · simp only [if_true] at hx ⊢
          exact ih1.1 a1 h1 φ H w a e x Q hx R he hsz hQ
      · cases hx
    · cases hc
  | block id c ih =>
    refine ⟨?_, fun a b h => by cases h⟩
    intro ac hc φ H w a e x Q hx R he hsz hQ
    simp only [compCode, Option.map_eq_some_iff] at hc
    obtain ⟨a1, h1, rfl⟩ := hc
    simp only [execC, Option.map_eq_some_iff] at hx
    obtain ⟨r, hr, hx⟩ := hx
    refine wpIn_block (ih.1 a1 h1 φ H w a e r _ hr R he hsz fun φ' a' w' hx' R' he' hs' hd' => ?_)
    split at hx
    · rename_i hre
      subst hx
      rw [hre]
      simp only [exitOf, Exit.inBlock, if_true]
      exact hQ φ' a' w' hx' R' he' hs' hd'
    · rename_i hre
      subst hx
      have := hQ φ' a' w' hx' R' he' hs' hd'
      cases hr1 : r.1 with
      | norm => rw [hr1] at this; exact this
      | exit id' =>
        rw [hr1] at this hre
        simp only [exitOf, Exit.inBlock]
        rw [if_neg (fun hh => hre (by rw [hh]))]
        exact this
      | goto l => rw [hr1] at this; exact this
      | ret => rw [hr1] at this; exact this
  | loop c ih =>
    refine ⟨?_, fun a b h => by cases h⟩
    intro ac hc φ H w a e x Q hx R he hsz hQ
    simp only [compCode, Option.map_eq_some_iff] at hc
    obtain ⟨a1, h1, rfl⟩ := hc
    simp only [execC] at hx
    refine wpIn_loop_rounds N ?_
    have key : ∀ (k : Nat) (φ' : Map) (H' : Heap) (w' : World) (a' : Act) (e' : Env), Ext φ φ' → Rel w0 φ' H' w' → ERel φ' e' a'.tmps → a'.tmps.size = nt → a'.defers = a.defers → iter (execC C N lim a1) k e' H' = some x → Code.roundsIn (Fr ρ) n P c Q k a' w' := by
      intro k
      induction k with
      | zero => intro φ' H' w' a' e' _ _ _ _ _ hit; simp [iter] at hit
      | succ k ihk =>
        intro φ' H' w' a' e' hx' R' he' hs' hd' hit
        simp only [iter, Option.bind_eq_some_iff] at hit
        obtain ⟨r, hr, hit⟩ := hit
        rw [roundsIn_succ]
        refine ih.1 a1 h1 φ' H' w' a' e' r _ hr R' he' hs' fun φ2 a2 w2 hx2 R2 he2 hs2 hd2 => ?_
        split at hit
        · rename_i hrn
          rw [hrn]
          exact ihk φ2 _ w2 a2 _ (hx'.trans hx2) R2 he2 hs2 (hd2.trans hd') hit
        · rename_i hrn
          simp only [Option.some.injEq] at hit; subst hit
          have := hQ φ2 a2 w2 (hx'.trans hx2) R2 he2 hs2 (hd2.trans hd')
          cases hr1 : r.1 with
          | norm => exact absurd hr1 hrn
          | exit id => rw [hr1] at this; exact this
          | goto l => rw [hr1] at this; exact this
          | ret => rw [hr1] at this; exact this
    exact key N φ H w a e (Ext.refl _) R he hsz rfl hx
  | rangeFunc f ps as body ih1 ih2 =>
    refine ⟨?_, fun a b h => by cases h⟩
    intro ac hc; simp [compCode] at hc
  | exit id =>
    refine ⟨?_, fun a b h => by cases h⟩
    intro ac hc φ H w a e x Q hx R he hsz hQ
    simp only [compCode, Option.some.injEq] at hc; subst hc
    simp only [execC, Option.some.injEq] at hx; subst hx
    exact wpIn_exit (hQ φ a w (Ext.refl _) R he hsz rfl)
  | scope c ih =>
    refine ⟨?_, fun a b h => by cases h⟩
    intro ac hc φ H w a e x Q hx R he hsz hQ
    unfold compCode at hc
    split at hc
    all_goals (try (exfalso; simp_all; done))
    rename_i c1 l c2 heq
    have hcc : c = .seq c1 (.seq (.label l) c2) := by injection heq
    obtain ⟨s1, s2, s3⟩ := ih.2 _ _ hcc
    obtain ⟨_, s4⟩ := s3 _ _ rfl
    split at hc
    · rename_i hnone
      split at hc
      · rename_i a1 a2 h1 h2
        simp only [Option.some.injEq] at hc; subst hc
        have hf : findLabel c l = some (.seq .skip c2) := by
          rw [hcc]
          have : findLabel c1 l = none := by simpa using hnone
          simp [findLabel, this]
        simp only [execC, Option.bind_eq_some_iff] at hx
        obtain ⟨r, hr, hx⟩ := hx
        refine wpIn_scope_rounds l hf N ?_
        rw [hcc]
        refine wpIn_seq (s1 a1 h1 φ H w a e r _ hr R he hsz fun φ' a' w' hx' R' he' hs' hd' => ?_)
        -- the rounds behind the label
        have key : ∀ (k : Nat) (φ' : Map) (H' : Heap) (w' : World) (a' : Act) (e' : Env), Ext φ φ' → Rel w0 φ' H' w' → ERel φ' e' a'.tmps → a'.tmps.size = nt → a'.defers = a.defers → iterJ l (execC C N lim a2) k e' H' = some x →
            ∀ m, k ≤ m → c2.wpIn (Fr ρ) n P (jumpTo l (jumpsIn (Fr ρ) n P (.seq .skip c2) l Q m) Q) a' w' := by
          intro k
          induction k with
          | zero => intro φ' H' w' a' e' _ _ _ _ _ hit; simp [iterJ] at hit
          | succ k ihk =>
            intro φ' H' w' a' e' hx' R' he' hs' hd' hit m hkm
            simp only [iterJ, Option.bind_eq_some_iff] at hit
            obtain ⟨r2, hr2, hit⟩ := hit
            refine s4 a2 h2 φ' H' w' a' e' r2 _ hr2 R' he' hs' fun φ2 a3 w2 hx2 R2 he2 hs2 hd2 => ?_
            obtain ⟨m, rfl⟩ : ∃ m', m = m' + 1 := ⟨m - 1, by omega⟩
            split at hit
            · rename_i l' hrl
              split at hit
              · rename_i hll
                rw [hrl]
                refine ⟨hll, ?_⟩
                exact wpIn_seq (wpIn_skip (ihk φ2 _ w2 a3 _ (hx'.trans hx2) R2 he2 hs2 (hd2.trans hd') hit m (by omega)))
              · cases hit
            · rename_i hrn
              simp only [Option.some.injEq] at hit; subst hit
              have := hQ φ2 a3 w2 (hx'.trans hx2) R2 he2 hs2 (hd2.trans hd')
              cases hr1 : r2.1 with
              | norm => rw [hr1] at this; exact this
              | exit id => rw [hr1] at this; exact this
              | goto l => exact absurd hr1 (hrn l)
              | ret => rw [hr1] at this; exact this
        split at hx
        · rename_i hrn
          rw [hrn]
          exact wpIn_seq (wpIn_label (key N φ' _ w' a' _ hx' R' he' hs' hd' hx N (Nat.le_refl _)))
        · cases hx
        · rename_i hrn hrg
          simp only [Option.some.injEq] at hx; subst hx
          have := hQ φ' a' w' hx' R' he' hs' hd'
          cases hr1 : r.1 with
          | norm => exact absurd hr1 hrn
          | exit id => rw [hr1] at this; exact this
          | goto l => exact absurd hr1 (hrg l)
          | ret => rw [hr1] at this; exact this
      · cases hc
    · cases hc
  | label l =>
    refine ⟨?_, fun a b h => by cases h⟩
    intro ac hc φ H w a e x Q hx R he hsz hQ
    simp only [compCode, Option.some.injEq] at hc; subst hc
    simp only [execC, Option.some.injEq] at hx; subst hx
    exact wpIn_label (hQ φ a w (Ext.refl _) R he hsz rfl)
  | goto l =>
    refine ⟨?_, fun a b h => by cases h⟩
    intro ac hc φ H w a e x Q hx R he hsz hQ
    simp only [compCode, Option.some.injEq] at hc; subst hc
    simp only [execC, Option.some.injEq] at hx; subst hx
    exact wpIn_goto (hQ φ a w (Ext.refl _) R he hsz rfl)
  | ret =>
    refine ⟨?_, fun a b h => by cases h⟩
    intro ac hc φ H w a e x Q hx R he hsz hQ
    simp only [compCode, Option.some.injEq] at hc; subst hc
    simp only [execC, Option.some.injEq] at hx; subst hx
    exact wpIn_ret (hQ φ a w (Ext.refl _) R he hsz rfl)
  | refuse why =>
    refine ⟨?_, fun a b h => by cases h⟩
    intro ac hc; simp [compCode] at hc

/-- Code. -/
theorem code_sound {C : Oracle} (hC : OSound P w0 C) (hm : P.follows .mixedOrders = true) {lim nt : Nat} {ρ : Option Nat} {n N : Nat} : ∀ (c : Code) (ac : ACode), compCode P nt c = some ac → ∀ (φ : Map) (H : Heap) (w : World) (a : Act) (e : Env) (x : Out) (Q : Exit → Act → World → Prop),
    execC C N lim ac e H = some x → Rel w0 φ H w → ERel φ e a.tmps → a.tmps.size = nt →
    (∀ φ' a' w', Ext φ φ' → Rel w0 φ' x.2.2 w' → ERel φ' x.2.1 a'.tmps → a'.tmps.size = nt → a'.defers = a.defers → Q (exitOf x.1) a' w') → c.wpIn (Fr ρ) n P Q a w := fun c => (code_sound2 hC hm c).1
end
end Go.AM
