/- THE PROGRAM'S FORM DOES WHAT THE ABSTRACT MACHINE SAYS: regions, code, calls. Conditions: those of each theorem. -/
import Derived.Test.YtmjanbhmpbhagaaAm11
import Derived.TacticsIn
import Derived.RangeFuncIn
import Derived.RangeFuncCalls
set_option linter.unusedVariables false
set_option linter.unusedSimpArgs false
namespace Go.AM
open Go.RowKit

/-- The fence that lets all in, in a round or in none. -/
def Fr (ρ : Option Nat) : Fence := { Fence.wide with round := ρ }

section
variable {P : Program} {w0 : World}

/-- What a call must come to. -/
def CallsTo (P : Program) (w0 : World) (φ : Map) (f : Nat) (vargs : List Value) (w : World) (r : AV) (H' : Heap) : Prop :=
  CallsIn Fence.wide 0 P f vargs.toArray w fun e w' => ∃ φ' v, e = .returned v ∧ Ext φ φ' ∧ Rel w0 φ' H' w' ∧ VRel φ' r v

def Enters (P : Program) (f : Nat) : Prop := ∀ args w, (callFunc f args).run P w = .ok (.enter f args) w

def OSound (P : Program) (w0 : World) (C : Oracle) : Prop := ∀ lim f args H r, C lim f args H = some r → Enters P f ∧ ∀ φ w vargs, Rel w0 φ H w → VRels φ args vargs → CallsTo P w0 φ f vargs w r.1 r.2

theorem callsIn_fr {ρ : Option Nat} {n : Nat} {f : Nat} {args : Array Value} {w : World} {R : Ending → World → Prop} (h : CallsIn Fence.wide 0 P f args w R) : CallsIn (Fr ρ) n P f args w R := by
  refine ⟨trivial, fun cs _ => ?_⟩
  obtain ⟨e, w', fr, hR, hc, hf⟩ := h.2 cs (room_wide _)
  exact ⟨e, w', fr, hR, hc, hf⟩

variable {φ : Map} {H : Heap} {w : World} {a : Act} {e : Env}

/-- Whatever is no call. -/
theorem op_sound {C : Oracle} {lim : Nat} {q : Bool} {o : Oper} {ao : AOp} (hc : compOp P q o.op = some ao) (hst : storeLike ao = true → o.dst = none) (hcall : (∀ f l q, ao ≠ .call f l q) ∧ (∀ f l q, ao ≠ .callv f l q) ∧ ∀ f l, ao ≠ .callA f l) (R : Rel w0 φ H w) (he : ERel φ e a.tmps)
    {r : AV × Heap} (hs : stepOp C lim ao e H = some r) : Does P w0 φ w a o r.1 r.2 := by
  unfold compOp at hc
  split at hc
  case h_1 x ho => rw [Option.map_eq_some_iff] at hc; obtain ⟨y, hy, rfl⟩ := hc; simp only [stepOp, Option.some.injEq] at hs; subst hs; exact does_mov R he (.inl ho) hy
  case h_2 x ho => rw [Option.map_eq_some_iff] at hc; obtain ⟨y, hy, rfl⟩ := hc; simp only [stepOp, Option.some.injEq] at hs; subst hs; exact does_mov R he (.inr ho) hy
  case h_3 c x y ho =>
    split at hc
    · rename_i c' x' y' h1 h2 h3
      simp only [Option.some.injEq] at hc; subst hc
      simp only [stepOp] at hs
      split at hs
      · rename_i t ht
        simp only [Option.some.injEq] at hs; subst hs
        exact does_pick R he ho h1 h2 h3 ht
      · cases hs
    · cases hc
  case h_4 t ho => rw [Option.map_eq_some_iff] at hc; obtain ⟨zs, hz, rfl⟩ := hc; simp only [stepOp, Option.some.injEq] at hs; subst hs; exact does_alloc R ho hz
  case h_5 t x ho =>
    rw [Option.map_eq_some_iff] at hc; obtain ⟨y, hy, rfl⟩ := hc
    simp only [stepOp, Option.map_eq_some_iff] at hs
    obtain ⟨cs, h1, rfl⟩ := hs
    exact does_box R he ho hy h1
  case h_6 t ps ho =>
    split at hc
    · rename_i fs zs ht hz
      split at hc
      · rename_i hall
        rw [Option.map_eq_some_iff] at hc; obtain ⟨qs, hq, rfl⟩ := hc
        simp only [stepOp, Option.map_eq_some_iff] at hs
        obtain ⟨cs, h1, rfl⟩ := hs
        exact does_build_struct R he ho ht hz hall hq h1
      · cases hc
    · rename_i n el zs ht hz
      split at hc
      · rename_i hel
        rw [Option.map_eq_some_iff] at hc; obtain ⟨qs, hq, rfl⟩ := hc
        simp only [stepOp, Option.map_eq_some_iff] at hs
        obtain ⟨cs, h1, rfl⟩ := hs
        exact does_build_array R he ho ht hz hel hq h1
      · cases hc
    · cases hc
  case h_7 t n ps ho =>
    split at hc
    · rename_i el i hel
      have hel' : P.underlying t = some (.slice el) ∧ P.info? el = some i := by
        unfold sliceElem at hel
        split at hel
        · rename_i e' h1
          rw [Option.map_eq_some_iff] at hel
          obtain ⟨i', h2, h3⟩ := hel
          simp only [Prod.mk.injEq] at h3
          rw [← h3.1, ← h3.2]
          exact ⟨h1, h2⟩
        · cases hel
      split at hc
      · rename_i z hz
        split at hc
        · rename_i hn
          rw [Option.map_eq_some_iff] at hc; obtain ⟨qs, hq, rfl⟩ := hc
          simp only [stepOp, Option.map_eq_some_iff] at hs
          obtain ⟨cs, h1, rfl⟩ := hs
          exact does_bslice R he ho hel'.1 hel'.2 hz hn.1 hn.2 hq h1
        · cases hc
      · cases hc
    · cases hc
  case h_8 t x ho =>
    split at hc
    · rename_i i d x' hi hu hx
      simp only [Option.some.injEq] at hc; subst hc
      simp only [stepOp, Option.map_eq_some_iff] at hs
      obtain ⟨v, h1, rfl⟩ := hs
      exact does_load R he ho hi (by rw [hu]; rfl) hx h1
    · cases hc
  case h_9 t p x ho =>
    split at hc
    · rename_i i p' x' hi hp hx
      simp only [Option.some.injEq] at hc; subst hc
      simp only [stepOp, Option.map_eq_some_iff] at hs
      obtain ⟨H', h1, rfl⟩ := hs
      exact does_store R he (hst rfl) ho hi hp hx h1
    · cases hc
  case h_10 x ho =>
    rw [Option.map_eq_some_iff] at hc; obtain ⟨y, hy, rfl⟩ := hc
    simp only [stepOp] at hs
    exact does_nilchk R he ho hy hs
  case h_11 op t x y t' ho =>
    split at hc
    · rename_i x' y' hx hy
      have eq : ∀ neg : Bool, op = (if neg then .neq else .eql) → compEq P neg t x' y' = some ao → Does P w0 φ w a o r.1 r.2 := by
        intro neg hop hce
        rw [hop] at ho
        unfold compEq at hce
        split at hce
        · simp only [Option.some.injEq] at hce; subst hce
          simp only [stepOp, Option.map_eq_some_iff] at hs
          obtain ⟨v, h1, rfl⟩ := hs
          exact does_bin R he ho hx hy h1
        · rename_i hu
          rw [Option.map_eq_some_iff] at hce; obtain ⟨p, hp, rfl⟩ := hce
          simp only [stepOp, Option.map_eq_some_iff] at hs
          obtain ⟨b, h1, rfl⟩ := hs
          have hagg : aggOf P t = false := by simp [aggOf, hu]
          exact does_eqs R he ho hx hy hp (by omega) (fun h => by rw [hagg] at h; cases h) (fun k => by rw [hu]; simp) (by rw [hagg]; exact h1)
        · rename_i hu
          rw [Option.map_eq_some_iff] at hce; obtain ⟨p, hp, rfl⟩ := hce
          simp only [stepOp, Option.map_eq_some_iff] at hs
          obtain ⟨b, h1, rfl⟩ := hs
          have hagg : aggOf P t = false := by simp [aggOf, hu]
          exact does_eqs R he ho hx hy hp (by omega) (fun h => by rw [hagg] at h; cases h) (fun k => by rw [hu]; simp) (by rw [hagg]; exact h1)
        · rename_i hu
          split at hce
          · rename_i hg
            rw [Option.map_eq_some_iff] at hce; obtain ⟨p, hp, rfl⟩ := hce
            simp only [stepOp, Option.map_eq_some_iff] at hs
            obtain ⟨b, h1, rfl⟩ := hs
            have hagg : aggOf P t = true := by simp [aggOf, hu]
            exact does_eqs R he ho hx hy hp (by omega) (fun _ => hg) (fun k => by rw [hu]; simp) (by rw [hagg]; exact h1)
          · cases hce
        · rename_i hu
          split at hce
          · rename_i hg
            rw [Option.map_eq_some_iff] at hce; obtain ⟨p, hp, rfl⟩ := hce
            simp only [stepOp, Option.map_eq_some_iff] at hs
            obtain ⟨b, h1, rfl⟩ := hs
            have hagg : aggOf P t = true := by simp [aggOf, hu]
            exact does_eqs R he ho hx hy hp (by omega) (fun _ => hg) (fun k => by rw [hu]; simp) (by rw [hagg]; exact h1)
          · cases hce
        · rename_i hu
          simp only [Option.some.injEq] at hce; subst hce
          simp only [stepOp, Option.map_eq_some_iff] at hs
          obtain ⟨b, h1, rfl⟩ := hs
          exact does_nileq R he ho hx hy (k := .slice) ⟨_, hu⟩ h1
        · rename_i hu
          simp only [Option.some.injEq] at hce; subst hce
          simp only [stepOp, Option.map_eq_some_iff] at hs
          obtain ⟨b, h1, rfl⟩ := hs
          exact does_nileq R he ho hx hy (k := .ptr) ⟨_, hu⟩ h1
        · rename_i hu
          simp only [Option.some.injEq] at hce; subst hce
          simp only [stepOp, Option.map_eq_some_iff] at hs
          obtain ⟨b, h1, rfl⟩ := hs
          exact does_nileq R he ho hx hy (k := .fn) ⟨_, _, _, hu⟩ h1
        · cases hce
      split at hc
      · exact eq false rfl hc
      · exact eq true rfl hc
      · simp only [Option.some.injEq] at hc; subst hc
        simp only [stepOp, Option.map_eq_some_iff] at hs
        obtain ⟨v, h1, rfl⟩ := hs
        exact does_bin R he ho hx hy h1
    · cases hc
  case h_12 op t x ho =>
    rw [Option.map_eq_some_iff] at hc; obtain ⟨y, hy, rfl⟩ := hc
    simp only [stepOp, Option.map_eq_some_iff] at hs
    obtain ⟨v, h1, rfl⟩ := hs
    exact does_un R he ho hy h1
  case h_13 s d x ho =>
    split at hc
    · rename_i k' k x' h1 h2 h3
      simp only [Option.some.injEq] at hc; subst hc
      simp only [stepOp] at hs
      split at hs
      · rename_i q n hn
        simp only [Option.some.injEq] at hs; subst hs
        exact does_conv R he ho h1 h2 h3 hn
      · cases hs
    · cases hc
  case h_14 f first caps ho =>
    split at hc
    · rename_i h0
      rw [Option.map_eq_some_iff] at hc; obtain ⟨l, hl, rfl⟩ := hc
      simp only [stepOp, Option.some.injEq] at hs; subst hs
      exact does_mkfn R he ho h0 hl
    · cases hc
  case h_15 t l c ho =>
    split at hc
    · rename_i el i l' c' hel hl hcc
      have hel' : P.underlying t = some (.slice el) ∧ P.info? el = some i := by
        unfold sliceElem at hel
        split at hel
        · rename_i e' h1
          rw [Option.map_eq_some_iff] at hel
          obtain ⟨i', h2, h3⟩ := hel
          simp only [Prod.mk.injEq] at h3
          rw [← h3.1, ← h3.2]
          exact ⟨h1, h2⟩
        · cases hel
      split at hc
      · rename_i z hz
        split at hc
        · rename_i hb
          simp only [Option.some.injEq] at hc; subst hc
          simp only [stepOp] at hs
          exact does_mkslice R he ho hel'.1 hel'.2 hz hb.1 hb.2 hl hcc hs
        · cases hc
      · cases hc
    · cases hc
  case h_16 t x lo hi mx ho =>
    split at hc
    · rename_i el i x' lo' hi' mx' hel hx h1 h2 h3
      have hel' : P.underlying t = some (.slice el) ∧ P.info? el = some i := by
        unfold sliceElem at hel
        split at hel
        · rename_i e' h1
          rw [Option.map_eq_some_iff] at hel
          obtain ⟨i', h2, h3⟩ := hel
          simp only [Prod.mk.injEq] at h3
          rw [← h3.1, ← h3.2]
          exact ⟨h1, h2⟩
        · cases hel
      simp only [Option.some.injEq] at hc; subst hc
      simp only [stepOp, Option.map_eq_some_iff] at hs
      obtain ⟨v, h4, rfl⟩ := hs
      exact does_slice R he ho hel'.1 hel'.2 hx h1 h2 h3 h4
    · cases hc
  case h_17 s x f ho =>
    split at hc
    · rename_i fs x' hs' hx
      split at hc
      · rename_i fd hf
        split at hc
        · rename_i hb
          simp only [Option.some.injEq] at hc; subst hc
          simp only [stepOp] at hs
          split at hs
          · rename_i id ver off hv
            split at hs
            · rename_i hl
              simp only [Option.some.injEq] at hs; subst hs
              exact does_padd R he ho hs' hf hb.1 hb.2 hx hv hl
            · cases hs
          · cases hs
        · cases hc
      · cases hc
    · cases hc
  case h_18 t x i ho =>
    split at hc
    · rename_i n el x' i' ht hx hi
      split at hc
      · rename_i hel
        simp only [Option.some.injEq] at hc; subst hc
        simp only [stepOp] at hs
        split at hs
        · rename_i id ver off k j hv hj
          split at hs
          · rename_i hb
            simp only [Option.some.injEq] at hs; subst hs
            exact does_iaddrA R he ho ht hel hx hi hv hj hb.1 hb.2.1 hb.2.2
          · cases hs
        · cases hs
      · cases hc
    · rename_i el x' i' ht hx hi
      split at hc
      · rename_i hel
        simp only [Option.some.injEq] at hc; subst hc
        simp only [stepOp] at hs
        split at hs
        · rename_i id ver off len lim k j hv hj
          split at hs
          · rename_i hb
            simp only [Option.some.injEq] at hs; subst hs
            exact does_iaddrS R he ho ht hel hx hi hv hj hb.1 hb.2.1 hb.2.2
          · cases hs
        · cases hs
      · cases hc
    · cases hc
  case h_19 t x i ho =>
    split at hc
    · rename_i n el x' i' ht hx hi
      split at hc
      · rename_i hel
        simp only [Option.some.injEq] at hc; subst hc
        simp only [stepOp] at hs
        split at hs
        · rename_i cs k j hv hj
          split at hs
          · rename_i hb
            rw [Option.map_eq_some_iff] at hs
            obtain ⟨v, h1, rfl⟩ := hs
            exact does_index R he ho ht hel.1 hel.2 hx hi hv hj hb.1 hb.2 h1
          · cases hs
        · cases hs
      · cases hc
    · rename_i x' i' ht hx hi
      simp only [Option.some.injEq] at hc; subst hc
      simp only [stepOp] at hs
      split at hs
      · rename_i s k j hv hj
        split at hs
        · rename_i hb
          rw [Option.map_eq_some_iff] at hs
          obtain ⟨b, h1, rfl⟩ := hs
          exact does_sidx R he ho ht hx hi hv hj hb h1
        · cases hs
      · cases hs
    · cases hc
  case h_20 x i ho =>
    rw [Option.map_eq_some_iff] at hc; obtain ⟨y, hy, rfl⟩ := hc
    simp only [stepOp] at hs
    split at hs
    · rename_i vs hv
      rw [Option.map_eq_some_iff] at hs
      obtain ⟨v, h1, rfl⟩ := hs
      exact does_extract R he ho hy hv h1
    · cases hs
  case h_21 c ho =>
    unfold compCall at hc
    split at hc
    · rw [Option.map_eq_some_iff] at hc; obtain ⟨l, _, rfl⟩ := hc
      split at hcall
      · exact absurd rfl (hcall.2.2 _ _)
      · exact absurd rfl (hcall.1 _ _ _)
    · split at hc
      · simp only [Option.some.injEq] at hc; subst hc; exact absurd rfl (hcall.2.1 _ _ _)
      · cases hc
    · rename_i hcal
      split at hc
      · rename_i t u x y hts has
        split at hc
        · rename_i el i el2 x' y' hel hu hx hy
          split at hc
          · rename_i hb
            have hel' : P.underlying t = some (.slice el) ∧ P.info? el = some i := by
              unfold sliceElem at hel
              split at hel
              · rename_i e' h1
                rw [Option.map_eq_some_iff] at hel
                obtain ⟨i', h2, h3⟩ := hel
                simp only [Prod.mk.injEq] at h3
                rw [← h3.1, ← h3.2]
                exact ⟨h1, h2⟩
              · cases hel
            simp only [Option.some.injEq] at hc; subst hc
            simp only [stepOp] at hs
            obtain ⟨htu, h1, h2, h3⟩ := hb
            subst htu
            exact does_append R he ho hcal hts has hel'.1 hel'.2 h1 h2 h3 hx hy hs
          · cases hc
        · cases hc
      · cases hc
    · rename_i hcal
      split at hc
      · rename_i t x hts has
        split at hc
        · rename_i el x' ht hx
          simp only [Option.some.injEq] at hc; subst hc
          simp only [stepOp, Option.map_eq_some_iff] at hs
          obtain ⟨v, h1, rfl⟩ := hs
          exact does_len R he ho hcal hts has ht hx h1
        · cases hc
      · cases hc
    · rename_i hcal
      split at hc
      · rename_i t u x y hts has
        split at hc
        · rename_i el i el2 x' y' hel hu hx hy
          have hel' : P.underlying t = some (.slice el) ∧ P.info? el = some i := by
            unfold sliceElem at hel
            split at hel
            · rename_i e' h1
              rw [Option.map_eq_some_iff] at hel
              obtain ⟨i', h2, h3⟩ := hel
              simp only [Prod.mk.injEq] at h3
              rw [← h3.1, ← h3.2]
              exact ⟨h1, h2⟩
            · cases hel
          simp only [Option.some.injEq] at hc; subst hc
          simp only [stepOp] at hs
          exact does_copy R he ho hcal hts has hel'.1 hel'.2 hx hy hs
        · cases hc
      · cases hc
    · rename_i hcal
      rw [Option.map_eq_some_iff] at hc; obtain ⟨l, hl, rfl⟩ := hc
      simp only [stepOp, Option.map_eq_some_iff] at hs
      obtain ⟨v, h1, rfl⟩ := hs
      exact does_minmax R he ho (mx := true) hcal hl h1
    · rename_i hcal
      rw [Option.map_eq_some_iff] at hc; obtain ⟨l, hl, rfl⟩ := hc
      simp only [stepOp, Option.map_eq_some_iff] at hs
      obtain ⟨v, h1, rfl⟩ := hs
      exact does_minmax R he ho (mx := false) hcal hl h1
    · cases hc
  case h_22 s x f ho =>
    split at hc
    · rename_i fs x' ht hx
      split at hc
      · rename_i fd hfd
        split at hc
        · rename_i hel
          simp only [Option.some.injEq] at hc; subst hc
          simp only [stepOp] at hs
          split at hs
          · rename_i cs hv
            rw [Option.map_eq_some_iff] at hs
            obtain ⟨v, h1, rfl⟩ := hs
            exact does_fld R he ho ht hfd hel.1 hel.2 hx hv h1
          · cases hs
        · cases hc
      · cases hc
    · cases hc
  case h_23 => cases hc

end
end Go.AM
