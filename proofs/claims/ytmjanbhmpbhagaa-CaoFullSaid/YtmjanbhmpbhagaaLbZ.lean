/- FROM THE ABSTRACT MACHINE'S ANSWER TO A CALL OF THE PROGRAM: a law's function that answers true returns true, and below the heap's end nothing has turned. Conditions: none. -/
import Derived.Test.YtmjanbhmpbhagaaAd
import Derived.Test.YtmjanbhmpbhagaaLb0
import Derived.Test.YtmjanbhmpbhagaaLbK
import Derived.Test.YtmjanbhmpbhagaaChecked
set_option linter.unusedVariables false
set_option linter.unusedSimpArgs false
namespace Go.Proofs.Ytmjanbhmpbhagaa.C
open Go.AM Go.RowKit
/-- No function beyond the table. -/
def noHook : Nat → Nat → List AV → Heap → Option (AV × Heap) := fun _ _ _ _ => none
theorem pok : POK Try.prog (PX noHook) := ⟨fun f af h => tab_ok f af h, Try.checked.mixed⟩
theorem noHook_sound (w0 : World) : OSound Try.prog w0 (PX noHook).hook := fun lim f args H r h => by cases h
theorem noHook_low : OLow (PX noHook).hook := fun lim f args H r h => by cases h
theorem laidOut : laidOutB Try.prog = true := by kernel_rfl
theorem law_calls {f : Nat} {args : List AV} {H0 H1 : Heap} {φ : Map} {w : World} {vargs : List Value} (hev : ev (PX noHook) 0 f args H0 = some (.bool true, H1)) (hR : Rel w φ H0 w) (hv : VRels φ args vargs) :
    Calls Try.prog f vargs.toArray w fun e w' => e = .returned (.bool true) ∧ Below w.heap.size w w' := by
  obtain ⟨n, hn⟩ := (lim_ev (PX noHook) 0 f args H0).2 _ hev
  have hs := (evalN_sound pok (noHook_sound w) noHook_low n 0 f args H0 _ (hn n (Nat.le_refl _))).2 φ w vargs hR hv
  refine (callsIn_wide.1 hs).mono ?_
  rintro e w' ⟨φ', v, rfl, _, hR', hv'⟩
  simp only [VRel] at hv'
  subst hv'
  exact ⟨rfl, hR'.below⟩
end Go.Proofs.Ytmjanbhmpbhagaa.C
