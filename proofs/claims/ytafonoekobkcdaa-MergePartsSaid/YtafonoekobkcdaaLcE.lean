/- plan.each and the twins, on both sides. Conditions: the slices show what is told. -/
import Derived.Test.YtafonoekobkcdaaLcD
set_option linter.unusedVariables false
set_option linter.unusedSimpArgs false
namespace Go.Proofs.Ytafonoekobkcdaa.C
open Go.AM
variable {hook : Nat → Nat → List AV → Heap → Option (AV × Heap)} {lim : Nat} {H : Heap}
theorem any_snoc {α : Type} (p : α → Bool) (l : List α) (x : α) : (l ++ [x]).any p = (l.any p || p x) := by simp
end Go.Proofs.Ytafonoekobkcdaa.C
