/- THE Ytmjanbhmpbhagaa'S PROGRAM in the abstract machine. Conditions: none; definitions. -/
import Derived.Test.YtmjanbhmpbhagaaAm19
import Derived.Test.YtmjanbhmpbhagaaAm20
import Derived.Test.YtmjanbhmpbhagaaAc
set_option linter.unusedVariables false
namespace Go.Proofs.Ytmjanbhmpbhagaa.C
open Go.AM
/-- The program of the seat, with any hook. -/
def PX (hook : Nat → Nat → List AV → Heap → Option (AV × Heap)) : Prog := ⟨tab, hook⟩
variable {hook : Nat → Nat → List AV → Heap → Option (AV × Heap)}
theorem PF {f : Nat} {af : AFunc} (h : tab f = some af) : (PX hook).F f = some af := h
end Go.Proofs.Ytmjanbhmpbhagaa.C
