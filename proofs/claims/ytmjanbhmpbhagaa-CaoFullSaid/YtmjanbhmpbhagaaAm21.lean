/- A FUNCTION IN WHICH TWO OPERATIONS MAY CHANGE PLACES AND IT MATTERS: it does well where each of its variants does. Conditions: those of each theorem. -/
import Derived.Test.YtmjanbhmpbhagaaAm14
import Derived.Test.YtmjanbhmpbhagaaAm16
set_option linter.unusedVariables false
set_option linter.unusedSimpArgs false
namespace Go.AM
open Go.RowKit

theorem variants_ne : ∀ c : ACode, ∃ v, v ∈ variants c
  | .alt x y => ⟨.ops [x, y], by simp [variants]⟩
  | .seq a b => by
    obtain ⟨v, hv⟩ := variants_ne a
    obtain ⟨w, hw⟩ := variants_ne b
    exact ⟨.seq v w, by simp only [variants, List.mem_flatMap, List.mem_map]; exact ⟨v, hv, w, hw, rfl⟩⟩
  | .skip => ⟨_, List.mem_singleton.2 rfl⟩
  | .ops l => ⟨_, List.mem_singleton.2 rfl⟩
  | .opsD l a => ⟨_, List.mem_singleton.2 rfl⟩
  | .swap x y => ⟨_, List.mem_singleton.2 rfl⟩
  | .cond c a b => ⟨_, List.mem_singleton.2 rfl⟩
  | .block i c => ⟨_, List.mem_singleton.2 rfl⟩
  | .loop c => ⟨_, List.mem_singleton.2 rfl⟩
  | .exit i => ⟨_, List.mem_singleton.2 rfl⟩
  | .scope c => ⟨_, List.mem_singleton.2 rfl⟩
  | .again l c => ⟨_, List.mem_singleton.2 rfl⟩
  | .jump l a c => ⟨_, List.mem_singleton.2 rfl⟩
  | .label l => ⟨_, List.mem_singleton.2 rfl⟩
  | .goto l => ⟨_, List.mem_singleton.2 rfl⟩
  | .ret => ⟨_, List.mem_singleton.2 rfl⟩

theorem exec_ops_norm {C : Oracle} {N lim : Nat} {l : List GOp} {e : Env} {H : Heap} {x : Out} (h : execC C N lim (.ops l) e H = some x) : x.1 = .norm := by
  simp only [execC, Option.map_eq_some_iff] at h
  obtain ⟨s, _, rfl⟩ := h; rfl
theorem exec_seq_norm {C : Oracle} {N lim : Nat} {a b : ACode} {e : Env} {H : Heap} {x : Out} (ha : ∀ r : Out, execC C N lim a e H = some r → r.1 = .norm) (hb : ∀ (e' : Env) (H' : Heap) (r : Out), execC C N lim b e' H' = some r → r.1 = .norm) (h : execC C N lim (.seq a b) e H = some x) : x.1 = .norm := by
  simp only [execC, Option.bind_eq_some_iff] at h
  obtain ⟨r, hr, h⟩ := h
  rw [ha r hr] at h
  exact hb _ _ _ h

section
variable {P : Program} {w0 : World}
theorem region_normV {C : Oracle} {lim nt : Nat} {ops : Array Oper} {draw : Bool} {c v : ACode} {e : Env} {H : Heap} (hc : compRegion P nt ops draw = some c) (hv : v ∈ variants c) {N : Nat} {x : Out} (hx : execC C N lim v e H = some x) : x.1 = .norm := by
  cases draw
  · unfold compRegion at hc
    simp only [Bool.false_eq_true, if_false, Option.map_eq_some_iff] at hc
    obtain ⟨gs, hgs, rfl⟩ := hc
    have : v = .ops gs := List.mem_singleton.1 hv
    subst this
    exact exec_ops_norm hx
  · obtain ⟨gs, h1, hp, hf⟩ := region_form hc
    cases hf with
    | text hok =>
      split at hv
      · have : v = .ops gs := List.mem_singleton.1 hv
        subst this
        exact exec_ops_norm hx
      · have : v = .opsD gs (pairsOf ops.toList gs) := List.mem_singleton.1 hv
        subst this
        simp only [execC, Option.bind_eq_some_iff] at hx
        obtain ⟨s, _, hx⟩ := hx
        split at hx
        · simp only [Option.some.injEq] at hx; rw [← hx]
        · cases hx
    | own o hok =>
      have : v = .ops (at2 gs o) := List.mem_singleton.1 hv
      subst this
      exact exec_ops_norm hx
    | two pre post a b hA hB m hm =>
      rcases hm with rfl | rfl
      · have : v = .seq (.ops (at2 gs pre)) (.seq (.swap (gs.getD a default) (gs.getD b default)) (.ops (at2 gs post))) := List.mem_singleton.1 hv
        subst this
        refine exec_seq_norm (fun r hr => exec_ops_norm hr) (fun e' H' r hr => exec_seq_norm (fun r hr => ?_) (fun e' H' r hr => exec_ops_norm hr) hr) hx
        simp only [execC, Option.bind_eq_some_iff] at hr
        obtain ⟨s, _, hr⟩ := hr
        split at hr
        · simp only [Option.some.injEq] at hr; rw [← hr]
        · cases hr
      · have : v = .seq (.ops (at2 gs pre)) (.seq (.ops [gs.getD a default, gs.getD b default]) (.ops (at2 gs post))) ∨ v = .seq (.ops (at2 gs pre)) (.seq (.ops [gs.getD b default, gs.getD a default]) (.ops (at2 gs post))) := by
          simpa [variants] using hv
        rcases this with rfl | rfl <;> exact exec_seq_norm (fun r hr => exec_ops_norm hr) (fun e' H' r hr => exec_seq_norm (fun r hr => exec_ops_norm hr) (fun e' H' r hr => exec_ops_norm hr) hr) hx

theorem code_soundV {C : Oracle} (hC : OSound P w0 C) (hm : P.follows .mixedOrders = true) {lim nt : Nat} {ρ : Option Nat} {n N : Nat} : ∀ (c : Code) (ac : ACode), compCode P nt c = some ac → ∀ (φ : Map) (H : Heap) (w : World) (a : Act) (e : Env) (K : Out → Prop) (Q : Exit → Act → World → Prop),
    (∀ v ∈ variants ac, ∃ x, execC C N lim v e H = some x ∧ K x) → Rel w0 φ H w → ERel φ e a.tmps → a.tmps.size = nt →
    (∀ x, K x → ∀ φ' a' w', Ext φ φ' → Rel w0 φ' x.2.2 w' → ERel φ' x.2.1 a'.tmps → a'.tmps.size = nt → a'.defers = a.defers → Q (exitOf x.1) a' w') → c.wpIn (Fr ρ) n P Q a w := by
  intro c
  induction c with
  | region id ops draw =>
    intro ac hc φ H w a e K Q hv R he hsz hQ
    simp only [compCode] at hc
    refine region_soundV hC hm hc (lim := lim) (N := N) (K := fun s => K (.norm, s.1, s.2)) (fun v hvm => ?_) R he hsz (fun s hs φ' a' w' h1 h2 h3 h4 h5 => hQ (.norm, s.1, s.2) hs φ' a' w' h1 h2 h3 h4 h5)
    obtain ⟨x, hx, hK⟩ := hv v hvm
    have hn := region_normV hc hvm hx
    obtain ⟨o, e1, H1⟩ := x
    simp only at hn
    subst hn
    exact ⟨(e1, H1), hx, hK⟩
  | seq c1 c2 ih1 ih2 =>
    intro ac hc φ H w a e K Q hv R he hsz hQ
    simp only [compCode] at hc
    split at hc
    · rename_i a1 a2 h1 h2
      simp only [Option.some.injEq] at hc; subst hc
      have pair : ∀ v1 ∈ variants a1, ∀ v2 ∈ variants a2, ∃ r, execC C N lim v1 e H = some r ∧ ∃ x, (match r.1 with | .norm => execC C N lim v2 r.2.1 r.2.2 | _ => some r) = some x ∧ K x := by
        intro v1 hv1 v2 hv2
        obtain ⟨x, hx, hK⟩ := hv (.seq v1 v2) (by simp only [variants, List.mem_flatMap, List.mem_map]; exact ⟨v1, hv1, v2, hv2, rfl⟩)
        simp only [execC, Option.bind_eq_some_iff] at hx
        obtain ⟨r, hr, hx⟩ := hx
        exact ⟨r, hr, x, hx, hK⟩
      obtain ⟨u2, hu2⟩ := variants_ne a2
      refine wpIn_seq (ih1 a1 h1 φ H w a e (fun r => ∃ v1 ∈ variants a1, execC C N lim v1 e H = some r) _ (fun v1 hv1 => ?_) R he hsz fun r hr φ' a' w' hx' R' he' hs' hd' => ?_)
      · obtain ⟨r, hr, _⟩ := pair v1 hv1 u2 hu2
        exact ⟨r, hr, v1, hv1, hr⟩
      · obtain ⟨v1, hv1, hr⟩ := hr
        by_cases hrn : r.1 = .norm
        · rw [hrn]
          refine ih2 a2 h2 φ' _ w' a' _ K Q (fun v2 hv2 => ?_) R' he' hs' fun x hK φ2 a3 w2 hx2 R2 he2 hs2 hd2 => hQ x hK φ2 a3 w2 (hx'.trans hx2) R2 he2 hs2 (hd2.trans hd')
          obtain ⟨r', hr', x, hx, hK⟩ := pair v1 hv1 v2 hv2
          rw [hr] at hr'
          simp only [Option.some.injEq] at hr'
          subst hr'
          rw [hrn] at hx
          exact ⟨x, hx, hK⟩
        · obtain ⟨r', hr', x, hx, hK⟩ := pair v1 hv1 u2 hu2
          rw [hr] at hr'
          simp only [Option.some.injEq] at hr'
          subst hr'
          have hxr : x = r := by
            cases hr1 : r.1 with
            | norm => exact absurd hr1 hrn
            | exit id => rw [hr1] at hx; simpa using hx.symm
            | goto l => rw [hr1] at hx; simpa using hx.symm
            | ret => rw [hr1] at hx; simpa using hx.symm
          subst hxr
          have := hQ x hK φ' a' w' hx' R' he' hs' hd'
          cases hr1 : x.1 with
          | norm => exact absurd hr1 hrn
          | exit id => rw [hr1] at this; exact this
          | goto l => rw [hr1] at this; exact this
          | ret => rw [hr1] at this; exact this
    · cases hc
  | _ =>
    intro ac hc φ H w a e K Q hv R he hsz hQ
    have hself : ac ∈ variants ac := by
      first
        | (simp only [compCode, Option.some.injEq] at hc; subst hc; exact List.mem_singleton.2 rfl)
        | (simp only [compCode, Option.map_eq_some_iff] at hc; obtain ⟨_, _, rfl⟩ := hc; exact List.mem_singleton.2 rfl)
        | (simp only [compCode] at hc
           split at hc
           · simp only [Option.some.injEq] at hc; subst hc; exact List.mem_singleton.2 rfl
           · cases hc)
        | (exfalso; simp [compCode] at hc; done)
        | (unfold compCode at hc
           split at hc
           all_goals (try (exfalso; simp_all; done))
           split at hc
           · split at hc
             · simp only [Option.some.injEq] at hc; subst hc; exact List.mem_singleton.2 rfl
             · cases hc
           · cases hc)
    obtain ⟨x, hx, hK⟩ := hv ac hself
    exact code_sound hC hm _ ac hc φ H w a e x Q hx R he hsz (hQ x hK)
end
end Go.AM
namespace Go.AM
open Go.RowKit
section
variable {P : Program} {w0 : World}
/-- A bound on rounds that does for all of a row. -/
theorem all_lim {α β : Type} {f : α → Nat → Option β} {r : α → Option β} (hl : ∀ a, Lim (f a) (r a)) : ∀ (l : List α), (∀ a ∈ l, ∃ x, r a = some x) → ∃ n, ∀ a ∈ l, ∃ x, r a = some x ∧ f a n = some x
  | [], _ => ⟨0, fun a h => by cases h⟩
  | a :: l, h => by
    obtain ⟨x, hx⟩ := h a (by simp)
    obtain ⟨n1, h1⟩ := (hl a).2 x hx
    have : ∀ (l : List α), (∀ a ∈ l, ∃ x, r a = some x) → ∃ n, ∀ m, n ≤ m → ∀ a ∈ l, ∃ x, r a = some x ∧ f a m = some x := by
      intro l
      induction l with
      | nil => intro _; exact ⟨0, fun _ _ a h => by cases h⟩
      | cons b l ih =>
        intro hb
        obtain ⟨n2, h2⟩ := ih fun a ha => hb a (by simp [ha])
        obtain ⟨y, hy⟩ := hb b (by simp)
        obtain ⟨n3, h3⟩ := (hl b).2 y hy
        refine ⟨max n2 n3, fun m hm c hc => ?_⟩
        rcases List.mem_cons.1 hc with rfl | hc
        · exact ⟨y, hy, h3 m (by omega)⟩
        · exact h2 m (by omega) c hc
    obtain ⟨n2, h2⟩ := this (a :: l) h
    exact ⟨n2, h2 n2 (Nat.le_refl _)⟩

theorem callV_sound {X : Prog} (hX : POK P X) (hhook : OSound P w0 X.hook) (hlowh : OLow X.hook) {f : Nat} {af : AFunc} (haf : X.F f = some af) (hmode : af.mode ≠ .raw) {args : List AV} {H : Heap} (hal : args.length = af.np) {r0 : AV}
    (hev : ∀ v ∈ variants af.body, ∃ x H1, ex X H.length v (Env.ofList args) H = some x ∧ callFin af H.length x = some (r0, H1)) {φ : Map} {w : World} {vargs : List Value} (R : Rel w0 φ H w) (hargs : VRels φ args vargs) :
    CallsIn Fence.wide 0 P f vargs.toArray w fun e w' => ∃ φ' H1 v, e = .returned v ∧ Ext φ φ' ∧ Rel w0 φ' H1 w' ∧ VRel φ' r0 v := by
  obtain ⟨fn, hf, hname, hcomp⟩ := hX.F f af haf
  obtain ⟨c, b, hbody, hcode, hres, hab, hnp⟩ := compFunc_mode hcomp
  obtain ⟨N, hN⟩ := all_lim (fun v => lim_ex X H.length v (Env.ofList args) H) (variants af.body) (fun v hv => by obtain ⟨x, _, h, _⟩ := hev v hv; exact ⟨x, h⟩)
  have hC : OSound P w0 (evalN X N) := evalN_sound hX hhook hlowh N
  have hlow : OLow (evalN X N) := evalN_inv hlowh N
  have hlen := hargs.length
  have he : ERel φ (Env.ofList args) (vargs.toArray ++ Array.replicate (fn.ntmps - vargs.toArray.size) undef) := by
    intro t
    unfold Env.ofList
    by_cases ht : t < args.length
    · obtain ⟨v, hv, hrel⟩ := hargs.get (List.getElem?_eq_getElem ht)
      have htv : t < vargs.length := by omega
      rw [List.getElem?_eq_getElem htv] at hv
      simp only [Option.some.injEq] at hv
      rw [List.getD_eq_getElem?_getD, List.getElem?_eq_getElem ht, Option.getD_some]
      have : (vargs.toArray ++ Array.replicate (fn.ntmps - vargs.toArray.size) undef).getD t undef = vargs[t] := by
        rw [Array.getD_eq_getD_getElem?, Array.getElem?_append_left (by simpa using htv)]
        simp [htv]
      rw [this, hv]
      exact hrel
    · rw [List.getD_eq_getElem?_getD, List.getElem?_eq_none (by omega), Option.getD_none]
      have : (vargs.toArray ++ Array.replicate (fn.ntmps - vargs.toArray.size) undef).getD t undef = undef := by
        rw [Array.getD_eq_getD_getElem?, Array.getElem?_append_right (by simp; omega)]
        simp only [Array.getElem?_replicate]
        split <;> rfl
      rw [this]
      simp only [VRel]
  have hsz : (vargs.toArray ++ Array.replicate (fn.ntmps - vargs.toArray.size) undef).size = fn.ntmps := by simp; omega
  rw [hab] at hev hN
  refine callsIn_of_wp hf hbody trivial (code_soundV hC hX.mixed c b hcode φ H w { tmps := vargs.toArray ++ Array.replicate (fn.ntmps - vargs.toArray.size) undef, defers := [] } (Env.ofList args) (lim := H.length) (N := N) (fun x => Inv H.length H x.2.2 ∧ ∃ H1, callFin af H.length x = some (r0, H1)) _ (fun v hv => ?_) R he hsz ?_) rfl
  · obtain ⟨x, H1, hx, hfin⟩ := hev v hv
    obtain ⟨y, hy, hyN⟩ := hN v hv
    rw [hx] at hy
    simp only [Option.some.injEq] at hy
    subst hy
    exact ⟨x, hyN, exec_inv hlow (Nat.le_refl _) v _ _ _ (Nat.le_refl _) hyN, H1, hfin⟩
  · rintro x ⟨hinv, H1, h⟩ φ1 a1 w1 hx1 R1 he1 hs1 hd1
    unfold callFin at h
    have fin : (resOf x.2.1 x.2.2 af.res).bind (fun v => finish af.mode H.length v x.2.2) = some (r0, H1) → a1.defers = [] ∧ ∃ v, (results fn a1.tmps).run P w1 = .ok v w1 ∧ ∃ φ' H1 v', (Ending.returned v) = .returned v' ∧ Ext φ φ' ∧ Rel w0 φ' H1 w1 ∧ VRel φ' r0 v' := by
      intro hb
      rw [Option.bind_eq_some_iff] at hb
      obtain ⟨v, hv, hfin⟩ := hb
      obtain ⟨u, hu, hrun⟩ := resOf_rel (P := P) R1 he1 hres hv
      obtain ⟨φ', g1, g2, g3⟩ := finish_sound R hx1 R1 (fun _ => hinv) hu hfin
      exact ⟨hd1, u, hrun, φ', H1, u, rfl, g1, g2, g3⟩
    cases hx1' : x.1 with
    | norm => rw [hx1'] at h; exact fin h
    | ret => rw [hx1'] at h; exact fin h
    | exit id => rw [hx1'] at h; cases h
    | goto l => rw [hx1'] at h; cases h
/-- A variant, by rewriting. -/
theorem ex_of_GO {X : Prog} {v : ACode} {args : List AV} {H : Heap} {af : AFunc} {r0 : AV} (h : GO X H.length v [] (Env.ofList args) H (endX af.res af.mode H.length fun r H' => r = r0)) : ∃ x H1, ex X H.length v (Env.ofList args) H = some x ∧ callFin af H.length x = some (r0, H1) := by
  rw [GO, EX, bindP_iff] at h
  obtain ⟨⟨x, e', H'⟩, h1, h2⟩ := h
  refine ⟨(x, e', H'), ?_⟩
  cases x with
  | norm =>
    simp only [cont, endX, FIN, bindP_iff] at h2
    obtain ⟨u, hu, ⟨r, H1⟩, hf, hr⟩ := h2
    simp only at hr
    subst hr
    exact ⟨H1, h1, by simp only [callFin, hu, Option.bind_some, hf]⟩
  | ret =>
    simp only [cont, endX, FIN, bindP_iff] at h2
    obtain ⟨u, hu, ⟨r, H1⟩, hf, hr⟩ := h2
    simp only at hr
    subst hr
    exact ⟨H1, h1, by simp only [callFin, hu, Option.bind_some, hf]⟩
  | exit id => exact h2.elim
  | goto l => exact h2.elim
end
end Go.AM
