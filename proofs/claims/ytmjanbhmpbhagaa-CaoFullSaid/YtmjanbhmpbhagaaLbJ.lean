/- FROM THE ANSWERS OF ALL VARIANTS TO A CALL OF THE PROGRAM: a law's function whose every variant answers true returns true. Conditions: none. -/
import Derived.Test.YtmjanbhmpbhagaaLbZ
import Derived.Test.YtmjanbhmpbhagaaAm21
set_option linter.unusedVariables false
set_option linter.unusedSimpArgs false
namespace Go.Proofs.Ytmjanbhmpbhagaa.C
open Go.AM Go.RowKit
theorem law_callsV {f : Nat} {af : AFunc} (haf : (PX noHook).F f = some af) (hm : af.mode ≠ .raw) {args : List AV} {H0 : Heap} {φ : Map} {w : World} {vargs : List Value} (hal : args.length = af.np)
    (hev : ∀ v ∈ variants af.body, GO (PX noHook) H0.length v [] (Env.ofList args) H0 (endX af.res af.mode H0.length fun r H' => r = .bool true)) (hR : Rel w φ H0 w) (hv : VRels φ args vargs) :
    Calls Try.prog f vargs.toArray w fun e w' => e = .returned (.bool true) ∧ Below w.heap.size w w' := by
  have hs := callV_sound pok (noHook_sound w) noHook_low haf hm hal (r0 := .bool true) (fun v hv => ex_of_GO (hev v hv)) hR hv
  refine (callsIn_wide.1 hs).mono ?_
  rintro e w' ⟨φ', H1, v, rfl, _, hR', hv'⟩
  simp only [VRel] at hv'
  subst hv'
  exact ⟨rfl, hR'.below⟩
end Go.Proofs.Ytmjanbhmpbhagaa.C
